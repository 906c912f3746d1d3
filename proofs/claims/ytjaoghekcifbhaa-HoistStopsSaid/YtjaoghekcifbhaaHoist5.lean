/- HoistStops: stops, limits, and rides that have tripped. No condition of its own. -/
import Derived.Test.YtjaoghekcifbhaaHoist1
set_option linter.all false
namespace Go.Proofs.Ytjaoghekcifbhaa
open Go.Pv
attribute [local irreducible] Go.Pv.awpT Go.Pv.awpS Go.Pv.awpG Go.Pv.awpOps Go.Pv.AWP Go.Pv.AWPL
set_option maxHeartbeats 8000000
set_option maxRecDepth 4000

theorem limX_mono {m m' : Int} (h : m ≤ m') (h0 : 0 ≤ m) (t : Nat) : limX m t ≤ limX m' t :=
  limX_max t _ (limX_le m t) (by have := limX_sq h0 t; omega)
theorem limV0 {tp dc rm : Int} (ht : 1 ≤ tp) (hr : 0 < rm) : limitV tp dc 0 rm = limX (2 * dc * min rm (tp * tp)) tp.toNat := by
  have := limX_le (2 * dc * min rm (tp * tp)) tp.toNat
  unfold limitV; rw [decide_eq_false (by omega)]; simp only [cond_false]; omega
theorem limV0' {tp dc rm : Int} (ht : 1 ≤ tp) (hr : rm ≤ 0) : limitV tp dc 0 rm = 0 := by
  unfold limitV; rw [decide_eq_true hr]; simp only [cond_true]; omega
theorem lim_mono {tp dc a b : Int} (ht : 1 ≤ tp ∧ tp ≤ 20000) (hd : 1 ≤ dc) (h : a ≤ b) : limitV tp dc 0 a ≤ limitV tp dc 0 b := by
  rcases Int.lt_or_le 0 a with ha | ha
  · rw [limV0 ht.1 ha, limV0 ht.1 (by omega)]
    have h0 : 0 ≤ min a (tp * tp) := by have := Int.mul_nonneg (show 0 ≤ tp by omega) (show 0 ≤ tp by omega); omega
    have h1 : 2 * dc * min a (tp * tp) ≤ 2 * dc * min b (tp * tp) := Int.mul_le_mul_of_nonneg_left (by omega) (by omega)
    have := limX_mono h1 (Int.mul_nonneg (by omega) h0) tp.toNat
    omega
  · rw [limV0' ht.1 ha]; exact (limitV_bd ht.1 (Int.le_refl 0)).1
theorem stop_le {tp dc x v : Int} (ht : 1 ≤ tp ∧ tp ≤ 20000) (hd : 1 ≤ dc) (hx : 0 ≤ x) (hv : 0 ≤ v ∧ v ≤ limitV tp dc 0 x) : (v * v + 2 * dc - 1) / (2 * dc) ≤ x := by
  have hvv : v * v ≤ 2 * dc * x := by
    rcases Int.lt_or_le 0 x with h | h
    · rw [limV0 ht.1 h] at hv
      have h0 : 0 ≤ min x (tp * tp) := by have := Int.mul_nonneg (show 0 ≤ tp by omega) (show 0 ≤ tp by omega); omega
      have h2 := limX_sq (m := 2 * dc * min x (tp * tp)) (Int.mul_nonneg (by omega) h0) tp.toNat
      have h3 := sq_mono hv.1 hv.2
      have h4 : 2 * dc * min x (tp * tp) ≤ 2 * dc * x := Int.mul_le_mul_of_nonneg_left (by omega) (by omega)
      omega
    · rw [limV0' ht.1 h] at hv
      have : v = 0 := by omega
      subst this
      have := Int.mul_nonneg (show 0 ≤ 2 * dc by omega) hx
      omega
  have h1 : v * v + 2 * dc - 1 < (x + 1) * (2 * dc) := by
    have : (x + 1) * (2 * dc) = 2 * dc * x + 2 * dc := by rw [Int.add_mul, Int.one_mul, Int.mul_comm]
    omega
  have := Int.ediv_lt_of_lt_mul (show 0 < 2 * dc by omega) h1
  omega
end Go.Proofs.Ytjaoghekcifbhaa
