/- Calls that leave their chunks as they were; calls of closures. No condition of its own: over any program. -/
import Derived.Test.YtipokcccpbcmeaaDoorPvV
set_option linter.all false
namespace Go.Pv
open Go.RowKit

theorem Ids.mono' {S S' : Nat → Prop} {d : DV} (hS : ∀ o, S o → S' o) (hd : Ids S d) : Ids S' d := by
  induction hd with
  | v x => exact .v x
  | any => exact .any
  | nn => exact .nn
  | gd p d _ ih => exact .gd p d ih
  | ptr o g i off h => exact .ptr o g i off (hS o h)
  | own o g lo n h => exact .own o g lo n (hS o h)
  | lst f xs _ ih => exact .lst f xs ih
  | rp cs _ ih => exact .rp cs ih
  | agg cs _ ih => exact .agg cs ih
  | tup cs _ ih => exact .tup cs ih
  | fn f cs _ ih => exact .fn f cs ih

/-- Chunks that a call may be handed: below the next number, and closed. -/
structure PGood (pre : Cks) (nb : Nat) : Prop where
  lt : ∀ o ck, ofL pre o = some ck → o < nb
  cl : ∀ o ck, ofL pre o = some ck → ∀ x, x ∈ ck.xs → ∀ c, c ∈ x → Ids (fun o => ∃ ck, ofL pre o = some ck) c

theorem FnOK.same {P : Program} {f : FuncId} {nt : Nat} {ow : Nat → Bool} {ac : AC} {rs : List RR} (hm : P.follows .mixedOrders = true) (h : FnOK P f nt ow ac rs) {args : List DV} {pre : Cks} {nb : Nat} {res : DV} (hlen : args.length ≤ nt)
    (hg : PGood pre nb) (ids : Ids (fun _ => False) res) (k : ∀ cx : Cx, cx.nt = nt → cx.nb = nb → AWP P cx ow ac (Ends rs res pre) ⟨ofArgs args, ofL pre, nb⟩) : CallOK P f args pre nb res pre nb :=
  h.call hm hlen (fun o ck h => ⟨ck, h⟩) (fun o ck h _ => ⟨ck, h⟩) (Nat.le_refl _) (ids.mono' fun _ h => h.elim) (fun o ck h x hx c hc => (hg.cl o ck h x hx c hc).mono' fun _ h => .inl h) (fun o ck h => hg.lt o ck h) k

section quiet
variable {P : Program} {r : List RI} {T : Nat → DV} {H : Hp} {nx : Nat} {K : St → Prop}
end quiet

section guards
variable {P : Program} {r : List RI} {T : Nat → DV} {H : Hp} {nx : Nat} {K : St → Prop} {lg : Lg} {uo : List (Nat × Nat)}
end guards

section ghosts
/-- A chunk that waits for an alloc of a region whose order is open. -/
theorem Wk.ghost {cx : Cx} {T : Nat → DV} {H : Hp} {nx : Nat} (sz : Nat) : Wk cx ⟨T, H, nx⟩ ⟨T, H.put nx (some ⟨0, sz, []⟩), nx + 1⟩ := fun ps a w R => by
  have m : Mv cx H ps nx w (H.put nx (some ⟨0, sz, []⟩)) (ps.put nx none) (nx + 1) w := by
    refine Mv.upd nx ⟨0, sz, []⟩ none (nx + 1) w R.hr R.fr R.lb (Nat.le_succ _) (Nat.lt_succ_self _) (.inl (Nat.le_refl _)) ((Grew.refl w).but _) (fun p' h => by cases h) fun _ => .inl ⟨Ps.put_same .., rfl⟩
  exact ⟨_, RS.step (dst := none) (d := .any) (x := undef) R m (.any _) (fun t h => by cases h)⟩
theorem AWP.ghost {P : Program} {cx : Cx} {ow : Nat → Bool} {Q : Exit → St → Prop} {ac : AC} {T : Nat → DV} {H : Hp} {nx : Nat} (sz : Nat) (k : AWP P cx ow ac Q ⟨T, H.put nx (some ⟨0, sz, []⟩), nx + 1⟩) : AWP P cx ow ac Q ⟨T, H, nx⟩ := AWP.wk (Wk.ghost sz) k
variable {P : Program} {r : List RI} {T : Nat → DV} {H : Hp} {nx : Nat} {K : St → Prop} {lg : Lg} {uo : List (Nat × Nat)}
end ghosts

end Go.Pv
