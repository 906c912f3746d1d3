/- The law RuleDeep of the chapter rule, about plain models: by evaluation. No condition of its own. -/
import Derived.Test.YthfejkflhpifnaaDoorM
set_option linter.all false
namespace Go.Proofs.YthfejkflhpifnaaDoor
open Go.Pv M
theorem deep_f13 : law19_RuleDeep_L1 1000 1000 false 13 [99, 49] 1 = some true := by kernel_rfl
theorem deep_f14 : law19_RuleDeep_L1 1000 1000 false 14 [99, 49] 1 = some true := by kernel_rfl
theorem deep_f15 : law19_RuleDeep_L1 1000 1000 false 15 [99, 49] 1 = some true := by kernel_rfl
theorem deep_f16 : law19_RuleDeep_L1 1000 1000 false 16 [99, 49] 1 = some true := by kernel_rfl
theorem deep_f17 : law19_RuleDeep_L1 1000 1000 false 17 [99, 49] 1 = some true := by kernel_rfl
theorem deep_f18 : law19_RuleDeep_L1 1000 1000 false 18 [99, 49] 1 = some true := by kernel_rfl
theorem deep_t13 : law19_RuleDeep_L1 1000 1000 true 13 [99, 49] 1 = some true := by kernel_rfl
theorem deep_t14 : law19_RuleDeep_L1 1000 1000 true 14 [99, 49] 1 = some true := by kernel_rfl
theorem deep_t15 : law19_RuleDeep_L1 1000 1000 true 15 [99, 49] 1 = some true := by kernel_rfl
theorem deep_t16 : law19_RuleDeep_L1 1000 1000 true 16 [99, 49] 1 = some true := by kernel_rfl
theorem deep_t17 : law19_RuleDeep_L1 1000 1000 true 17 [99, 49] 1 = some true := by kernel_rfl
theorem deep_t18 : law19_RuleDeep_L1 1000 1000 true 18 [99, 49] 1 = some true := by kernel_rfl
theorem deep_all (b : Bool) (k : Int) (h0 : 13 ≤ k) (h1 : k < 19) : law19_RuleDeep_L1 1000 1000 b k [99, 49] 1 = some true := by
  obtain rfl | rfl | rfl | rfl | rfl | rfl : k = 13 ∨ k = 14 ∨ k = 15 ∨ k = 16 ∨ k = 17 ∨ k = 18 := by omega
  · cases b; exact deep_f13; exact deep_t13
  · cases b; exact deep_f14; exact deep_t14
  · cases b; exact deep_f15; exact deep_t15
  · cases b; exact deep_f16; exact deep_t16
  · cases b; exact deep_f17; exact deep_t17
  · cases b; exact deep_f18; exact deep_t18
theorem ruleDeep_ok (x : Int × Bool) (hx : 0 ≤ x.1 ∧ x.1 ≤ 255) : law19_RuleDeep 1000 x.1 x.2 = some true := by
  obtain ⟨n, b⟩ := x
  obtain ⟨h0, h1⟩ := hx
  simp only at h0 h1
  unfold law19_RuleDeep
  simp only
  have e : n.tmod 6 = n % 6 := Int.tmod_eq_emod_of_nonneg h0
  rw [W_eq (n := n) (by omega) (by omega), e, W_eq (by omega) (by omega)]
  exact deep_all b _ (by omega) (by omega)
theorem wf_u8' {n : Int} (h : (Lit.int .u8 n).wf = true) : 0 ≤ n ∧ n ≤ 255 := by
  simp only [Lit.wf, Bool.and_eq_true, decide_eq_true_eq] at h
  exact h
theorem ruleDeep_any (dargs : List DV) (h : TyAs [(false, [.it .u8]), (false, [.bo])] dargs) : CallOK Tryd.prog 8 dargs [] 0 (B true) [] 0 :=
  law_any (law19_RuleDeep_pure 1000) (fun x hx => ruleDeep_ok x (wf_u8' hx.1)) rfl dargs h
end Go.Proofs.YthfejkflhpifnaaDoor
