/- A call from the outside: nothing of one's own in memory. No condition of its own. -/
import Derived.Test.YtlnilmcocbbohaaPvR
import Derived.ProofKit
set_option linter.all false
namespace Go.Pv
open Go.RowKit

/-- The reading of an argument by a call from the outside. -/
abbrev Rd (W : World) : DV → Value → Prop := VR Hp.emp (fun _ => none) (fun _ => False) 0 W

theorem not_live (b : Nat) : ¬ Live Hp.emp (fun _ => none) b := fun ⟨_, _, _, h, _, _⟩ => by cases h

theorem CallOK.outer {P : Program} {f : FuncId} {args : List DV} {r : Value} {nx' : Nat} (h : CallOK P f args [] 0 (.v r) [] nx') {W : World} {cargs : Array Value} (hl : cargs.size = args.length)
    (ha : ∀ j (hj : j < args.length), Rd W args[j] (cargs.getD j undef)) : Calls P f cargs W fun e W' => e = .returned r ∧ Below W.heap.size W W' := by
  refine (h.run (fun _ => False) (fun _ => none) W cargs ⟨fun o ck h => (by cases h), fun o ck h => (by cases h), fun o o' ck ck' p p' h => (by cases h), fun b h => h.elim, fun o ck p h => (by cases h)⟩ hl ha).mono ?_
  rintro e W' ⟨v, ps', rfl, hv, _, fr, _, _⟩
  cases hv
  exact ⟨rfl, fr.os, fr.tape, fr.output, fr.size, fun k hk => fr.block k hk (not_live k)⟩

theorem Rd.i (W : World) (n : Int) : Rd W (I n) (.int .i64 n) := .v _
theorem Rd.b (W : World) (b : Bool) : Rd W (B b) (.bool b) := .v _
theorem Rd.agg2 {W : World} {d e : DV} {x y : Value} (h1 : x.oneCell' = true) (h2 : y.oneCell' = true) (hd : Rd W d x) (he : Rd W e y) : Rd W (.agg [d, e]) (.agg #[x, y]) := by
  refine .agg _ _ rfl ?_ ?_
  · intro j hj
    rcases j with _ | _ | j
    · exact h1
    · exact h2
    · simp only [List.length_cons, List.length_nil] at hj; omega
  · intro j hj
    rcases j with _ | _ | j
    · exact hd
    · exact he
    · simp only [List.length_cons, List.length_nil] at hj; omega
theorem Rd.agg3 {W : World} {d e g : DV} {x y z : Value} (h1 : x.oneCell' = true) (h2 : y.oneCell' = true) (h3 : z.oneCell' = true) (hd : Rd W d x) (he : Rd W e y) (hg : Rd W g z) : Rd W (.agg [d, e, g]) (.agg #[x, y, z]) := by
  refine .agg _ _ rfl ?_ ?_
  · intro j hj
    rcases j with _ | _ | _ | j
    · exact h1
    · exact h2
    · exact h3
    · simp only [List.length_cons, List.length_nil] at hj; omega
  · intro j hj
    rcases j with _ | _ | _ | j
    · exact hd
    · exact he
    · exact hg
    · simp only [List.length_cons, List.length_nil] at hj; omega
end Go.Pv
