/- hoist.Limit as a function on plain data, out of its contract. No condition of its own: over the loaded program. -/
import Derived.Test.YtjaoghekcifbhaaHoist1
import Derived.Test.YtjaoghekcifbhaaPxN
set_option linter.all false
namespace Go.Proofs.Ytjaoghekcifbhaa
open Go.Pv
namespace M
def limOk (tp dc cr : Int) : Bool := decide ((1 ≤ tp ∧ tp ≤ 20000) ∧ (1 ≤ dc ∧ dc ≤ 5000) ∧ (0 ≤ cr ∧ cr ≤ 40000))
def hoist_Limit (N : Nat) (a0 : Int × Int × Int × Int × Int) (a1 : Int) : Option Int :=
  match limOk a0.2.1 a0.2.2.1 a0.2.2.2.1 with
  | true => some (limitV a0.2.1 a0.2.2.1 a0.2.2.2.1 a1)
  | false => none
theorem hoist_Limit_pure (N : Nat) : PureOK Try.prog 13 [.pair (.int .i64) (.pair (.int .i64) (.pair (.int .i64) (.pair (.int .i64) (.int .i64)))), .int .i64] [.int .i64] (fun x => hoist_Limit N x.1 x.2) := by
  rintro ⟨⟨dp, tp, dc, cr, mg⟩, rm⟩ y h nb
  simp only [hoist_Limit] at h
  split at h
  · rename_i hk
    injection h with h; subst h
    simp only [limOk, decide_eq_true_eq] at hk
    exact limit_ok dp tp dc cr mg rm nb hk.1 hk.2.1 hk.2.2
  · cases h
end M
end Go.Proofs.Ytjaoghekcifbhaa
