/- Calls that leave their chunks as they were; calls of closures. No condition of its own: over any program. -/
import Derived.Test.YtlnilmcocbbohaaPvV
set_option linter.all false
namespace Go.Pv
open Go.RowKit

theorem Ids.mono' {S S' : Nat → Prop} {d : DV} (hS : ∀ o, S o → S' o) (hd : Ids S d) : Ids S' d := by
  induction hd with
  | v x => exact .v x
  | any => exact .any
  | gd p d _ ih => exact .gd p d ih
  | ptr o g i off h => exact .ptr o g i off (hS o h)
  | own o g lo n h => exact .own o g lo n (hS o h)
  | lst f xs _ ih => exact .lst f xs ih
  | rp cs _ ih => exact .rp cs ih
  | agg cs _ ih => exact .agg cs ih
  | tup cs _ ih => exact .tup cs ih
  | fn f cs _ ih => exact .fn f cs ih

theorem puts_same {H : Hp} {pre : Cks} (h : ∀ o ck, ofL pre o = some ck → H o = some ck) : puts H pre = H := by
  funext o
  rcases puts_split pre H o with ⟨_, q⟩ | ⟨ck, q1, q2⟩
  · exact q
  · rw [q2, h o ck q1]

/-- Chunks that a call may be handed: below the next number, and closed. -/
structure PGood (pre : Cks) (nb : Nat) : Prop where
  lt : ∀ o ck, ofL pre o = some ck → o < nb
  cl : ∀ o ck, ofL pre o = some ck → ∀ x, x ∈ ck.xs → ∀ c, c ∈ x → Ids (fun o => ∃ ck, ofL pre o = some ck) c

theorem FnOK.same {P : Program} {f : FuncId} {nt : Nat} {ow : Nat → Bool} {ac : AC} {rs : List RR} (hm : P.follows .mixedOrders = true) (h : FnOK P f nt ow ac rs) {args : List DV} {pre : Cks} {nb : Nat} {res : DV} (hlen : args.length ≤ nt)
    (hg : PGood pre nb) (ids : Ids (fun _ => False) res) (k : ∀ cx : Cx, cx.nt = nt → cx.nb = nb → AWP P cx ow ac (Ends rs res pre) ⟨ofArgs args, ofL pre, nb⟩) : CallOK P f args pre nb res pre nb :=
  h.call hm hlen (fun o ck h => ⟨ck, h⟩) (fun o ck h _ => ⟨ck, h⟩) (Nat.le_refl _) (ids.mono' fun _ h => h.elim) (fun o ck h x hx c hc => (hg.cl o ck h x hx c hc).mono' fun _ h => .inl h) (fun o ck h => hg.lt o ck h) k

theorem Ends.retS {rs : List RR} {res : DV} {pre : Cks} {T : Nat → DV} {H : Hp} {nx : Nat} {ds : List DV} (h1 : rrV T H rs = some ds) (hH : ∀ o ck, ofL pre o = some ck → H o = some ck) (h2 : resV ds = res) : Ends rs res pre .ret ⟨T, H, nx⟩ := ⟨.inr rfl, ⟨ds, h1, h2⟩, hH⟩

section quiet
variable {P : Program} {r : List RI} {T : Nat → DV} {H : Hp} {nx : Nat} {K : St → Prop}
/-- A call that leaves its chunks as they were. -/
theorem st_q {dt : Nat} {f : RO} {xs : List RO} {fn : FuncId} {caps args : List DV} {pre : Cks} {res : DV} (hc : CallOK P fn args pre nx res pre nx) (hf : un true (f.get T) = .fn fn caps) (ha : xs.map (fun x => un true (x.get T)) ++ caps = args)
    (hp : ∀ o ck, ofL pre o = some ck → H o = some ck) (k : awpT P r ⟨upd T dt res, H, nx⟩ K) : awpT P (⟨some dt, .call f xs, none⟩ :: r) ⟨T, H, nx⟩ K := fun lg => by
  refine step_call (pre := pre) (post := pre) hf ha hc hp ?_
  rw [puts_same hp]
  exact k _
end quiet

section guards
variable {P : Program} {r : List RI} {T : Nat → DV} {H : Hp} {nx : Nat} {K : St → Prop} {lg : Lg} {uo : List (Nat × Nat)}
/-- An operation whose guard is known to say yes. -/
theorem st_gt {dst : Option Nat} {op : ROp} {t : Nat} {wn p : Bool} (hg : gv (T t) wn = some p) (hp : p = true) (ht : tot op = false) (k : awpT P (⟨dst, op, none⟩ :: r) ⟨T, H, nx⟩ K) : awpT P (⟨dst, op, some (t, wn)⟩ :: r) ⟨T, H, nx⟩ K := fun lg =>
  step_br hg ht (fun _ => k lg) (fun e => by rw [hp] at e; cases e)
theorem sg_gt {dst : Option Nat} {op : ROp} {t : Nat} {wn p : Bool} (hg : gv (T t) wn = some p) (hp : p = true) (ht : tot op = false) (k : awpG P uo (⟨dst, op, none⟩ :: r) lg ⟨T, H, nx⟩ K) : awpG P uo (⟨dst, op, some (t, wn)⟩ :: r) lg ⟨T, H, nx⟩ K :=
  step_br hg ht (fun _ => k) (fun e => by rw [hp] at e; cases e)
/-- An operation whose guard is known to say no. -/
theorem st_gn {dst : Option Nat} {op : ROp} {t : Nat} {wn p : Bool} (hg : gv (T t) wn = some p) (hp : p = false) (ht : tot op = false) (k : awpT P r ⟨putT T dst (.v undef), H, nx⟩ K) : awpT P (⟨dst, op, some (t, wn)⟩ :: r) ⟨T, H, nx⟩ K := fun lg =>
  step_br hg ht (fun e => by rw [hp] at e; cases e) (fun _ => k _)
theorem sg_gn {dst : Option Nat} {op : ROp} {t : Nat} {wn p : Bool} (hg : gv (T t) wn = some p) (hp : p = false) (ht : tot op = false) (k : awpG P uo r (lg ++ [([], [])]) ⟨putT T dst (.v undef), H, nx⟩ K) : awpG P uo (⟨dst, op, some (t, wn)⟩ :: r) lg ⟨T, H, nx⟩ K :=
  step_br hg ht (fun e => by rw [hp] at e; cases e) (fun _ => k)
end guards

section ghosts
/-- A chunk that waits for an alloc of a region whose order is open. -/
theorem Wk.ghost {cx : Cx} {T : Nat → DV} {H : Hp} {nx : Nat} (sz : Nat) : Wk cx ⟨T, H, nx⟩ ⟨T, H.put nx (some ⟨0, sz, []⟩), nx + 1⟩ := fun ps a w R => by
  have m : Mv cx H ps nx w (H.put nx (some ⟨0, sz, []⟩)) (ps.put nx none) (nx + 1) w := by
    refine Mv.upd nx ⟨0, sz, []⟩ none (nx + 1) w R.hr R.fr R.lb (Nat.le_succ _) (Nat.lt_succ_self _) (.inl (Nat.le_refl _)) ((Grew.refl w).but _) (fun p' h => by cases h) fun _ => .inl ⟨Ps.put_same .., rfl⟩
  exact ⟨_, RS.step (dst := none) (d := .any) (x := undef) R m (.any _) (fun t h => by cases h)⟩
theorem AWP.ghost {P : Program} {cx : Cx} {ow : Nat → Bool} {Q : Exit → St → Prop} {ac : AC} {T : Nat → DV} {H : Hp} {nx : Nat} (sz : Nat) (k : AWP P cx ow ac Q ⟨T, H.put nx (some ⟨0, sz, []⟩), nx + 1⟩) : AWP P cx ow ac Q ⟨T, H, nx⟩ := AWP.wk (Wk.ghost sz) k
variable {P : Program} {r : List RI} {T : Nat → DV} {H : Hp} {nx : Nat} {K : St → Prop} {lg : Lg} {uo : List (Nat × Nat)}
theorem sg_gh {dt o sz : Nat} {z : List DV} (hH : H o = some ⟨0, sz, []⟩) (k : awpG P uo r (lg ++ [([o], [o])]) ⟨upd T dt (.ptr o 1 0 0), H.put o (some ⟨1, z.length, [z]⟩), nx⟩ K) : awpG P uo (⟨some dt, .alloc z, none⟩ :: r) lg ⟨T, H, nx⟩ K := by
  unfold awpG at k ⊢
  simp only [awpOps, awpX]
  exact .inr ⟨o, sz, hH, k⟩
end ghosts

theorem mkfn_ids {S : Nat → Prop} {f : FuncId} {cs : List DV} (h : ∀ c, c ∈ cs → Ids S c) : Ids S (.fn f cs) := .fn f cs h
theorem e_mkfn {p : Bool} {T : Nat → DV} {H : Hp} {nx : Nat} {f : FuncId} {xs : List RO} {cs : List DV} (h : xs.map (fun x => un p (x.get T)) = cs) : ev (.mkfn f xs) p T H nx = some (.fn f cs, .no) := by rw [ev_mkfn, ← h]
theorem e_mm {p : Bool} {T : Nat → DV} {H : Hp} {nx : Nat} {mx : Bool} {a b : RO} {k : IntKind} {x y : Int} (h1 : un p (a.get T) = .v (.int k x)) (h2 : un p (b.get T) = .v (.int k y)) :
    ev (.mm mx [a, b]) p T H nx = some (.v (.int k (if mx then max x y else min x y)), .no) := by
  have e1 : max x y = if x < y then y else x := by rw [Int.max_def]; split <;> split <;> omega
  have e2 : min x y = if y < x then y else x := by rw [Int.min_def]; split <;> split <;> omega
  rw [ev_mm]; simp only [List.map_cons, List.map_nil, h1, h2, mmV, mmL, mm2, Option.map_some, e1, e2]
theorem e_max {p : Bool} {T : Nat → DV} {H : Hp} {nx : Nat} {a b : RO} {k : IntKind} {x y : Int} (h1 : un p (a.get T) = .v (.int k x)) (h2 : un p (b.get T) = .v (.int k y)) : ev (.mm true [a, b]) p T H nx = some (.v (.int k (max x y)), .no) := e_mm h1 h2
theorem e_min {p : Bool} {T : Nat → DV} {H : Hp} {nx : Nat} {a b : RO} {k : IntKind} {x y : Int} (h1 : un p (a.get T) = .v (.int k x)) (h2 : un p (b.get T) = .v (.int k y)) : ev (.mm false [a, b]) p T H nx = some (.v (.int k (min x y)), .no) := e_mm h1 h2
theorem e_cnv {p : Bool} {T : Nat → DV} {H : Hp} {nx : Nat} {a : RO} {k k' : IntKind} {x : Int} (h1 : un p (a.get T) = .v (.int k' x)) : ev (.conv k a) p T H nx = some (.v (.int k (k.wrap x)), .no) := by rw [ev_conv, h1]; rfl
theorem e_shr {p : Bool} {T : Nat → DV} {H : Hp} {nx : Nat} {a b : RO} {k k' : IntKind} {x y : Int} (h1 : un p (a.get T) = .v (.int k x)) (h2 : un p (b.get T) = .v (.int k' y)) (h : 0 ≤ y) : ev (.bin .shr a b) p T H nx = some (.v (.int k (x.fdiv (2 ^ (min y.toNat k.bits)))), .no) := by
  rw [ev_bin, h1, h2]; simp only [binV, isShf, if_true, shfV]; rw [if_neg (by omega)]; rfl
theorem e_shl {p : Bool} {T : Nat → DV} {H : Hp} {nx : Nat} {a b : RO} {k k' : IntKind} {x y : Int} (h1 : un p (a.get T) = .v (.int k x)) (h2 : un p (b.get T) = .v (.int k' y)) (h : 0 ≤ y) : ev (.bin .shl a b) p T H nx = some (.v (.int k (k.wrap (x * 2 ^ (min y.toNat k.bits)))), .no) := by
  rw [ev_bin, h1, h2]; simp only [binV, isShf, if_true, shfV]; rw [if_neg (by omega)]; rfl
end Go.Pv
