/- walk.both yields false, then true. No condition of its own. -/
import Derived.Test.YtihgpillkgndbaaPxN
import Derived.Test.YtihgpillkgndbaaRows
import Derived.WalkKit
import Derived.TacticsIn
import Derived.BigFrameIn
set_option linter.all false
namespace Go.Proofs.Ytihgpillkgndbaa
open Go.Pv Go.RowKit Go.Proofs
theorem FR_round {ro : Option Nat} : (FR ro).round = ro := rfl
theorem FR_depth {ro : Option Nat} : (FR ro).depth = none := rfl
theorem FR_fn {ro : Option Nat} {f : FuncId} : (FR ro).fn f = True := rfl
attribute [local go_sem] FR_round FR_depth FR_fn Oper.semAt_some
set_option maxHeartbeats 1000000 in
theorem both_iter : IterFB Try.prog 35 := fun l W K f1 t1 a1 b1 hy hR => by
  refine callsIn_of_wp Try.func35 rfl trivial ?_ rfl
  simp only [Try.ntmps35, List.size_toArray, List.length_cons, List.length_nil, Nat.reduceAdd, Nat.reduceSub, Array.replicate_succ, Array.replicate_zero, List.push_toArray, List.append_toArray, List.nil_append, List.cons_append]
  gi_wp2
  refine hR.mono ?_
  rintro e W1 ⟨rfl, t2, hy2, hR2⟩
  gi_wp2
  refine hR2.mono ?_
  rintro e W2 ⟨rfl, hK⟩
  gi_wp2
  go_end0
  exact ⟨⟨_, rfl⟩, hK⟩
theorem both_fn : ∃ fn, Try.prog.funcs[35]? = some fn ∧ (fn.name == "runtime.NumGoroutine") = false ∧ fn.body.isNone = false := ⟨_, Try.func35, by kernel_rfl, by kernel_rfl⟩
end Go.Proofs.Ytihgpillkgndbaa
