/- Clearance: one step, as numbers. No condition of its own. -/
import Derived.Test.YtpmpmlhjnddikaaCs
set_option linter.all false
namespace Go.Proofs.Ytpmpmlhjnddikaa
open Go.Pv M

/-! ### Numbers -/
/-- The concentration after a step: of the sources `c`, its own `h`, the volume `v`, what flows `q`. -/
def stp (c h v q : Int) : Int := if h > c then c + ((h - c) * v + (v + q) - 1) / (v + q) else c
theorem ceil_up {a R : Int} (hR : 0 < R) : a ≤ ((a + R - 1) / R) * R := by
  have e := Int.emod_add_mul_ediv (a + R - 1) R
  have e2 := Int.emod_lt_of_pos (a + R - 1) hR
  rw [Int.mul_comm R] at e
  omega
theorem ceil_dn {a R : Int} (hR : 0 < R) : ((a + R - 1) / R) * R ≤ a + R - 1 := by
  have e := Int.emod_add_mul_ediv (a + R - 1) R
  have e1 := Int.emod_nonneg (a + R - 1) (b := R) (by omega)
  rw [Int.mul_comm R] at e
  omega
theorem le_of_mul {a b R : Int} (hR : 0 < R) (h : a * R ≤ b * R) : a ≤ b := Int.le_of_mul_le_mul_right h hR
theorem ceil_le {a b R : Int} (hR : 0 < R) (h : a ≤ b * R) : (a + R - 1) / R ≤ b := by
  have := ceil_dn (a := a) hR
  have h1 : ((a + R - 1) / R - 1) * R < b * R := by rw [Int.sub_mul, Int.one_mul]; omega
  have := Int.lt_of_mul_lt_mul_right h1 (by omega)
  omega
theorem stp_ge {c h v q : Int} (hv : 0 < v) (hq : 0 ≤ q) : c ≤ stp c h v q := by
  unfold stp
  split
  · have : 0 ≤ ((h - c) * v + (v + q) - 1) / (v + q) := Int.ediv_nonneg (by have := Int.mul_nonneg (show 0 ≤ h - c by omega) (show 0 ≤ v by omega); omega) (by omega)
    omega
  · omega
theorem stp_le {c h v q : Int} (hv : 0 < v) (hq : 0 ≤ q) : stp c h v q ≤ max c h := by
  unfold stp
  split
  · have := ceil_le (a := (h - c) * v) (b := h - c) (R := v + q) (by omega) (Int.mul_le_mul_of_nonneg_left (by omega) (by omega))
    omega
  · omega
theorem stp_still {c h v : Int} (hv : 0 < v) : h ≤ stp c h v 0 := by
  unfold stp
  split
  · have := ceil_up (a := (h - c) * v) (R := v + 0) (by omega)
    have := le_of_mul (a := h - c) (b := ((h - c) * v + (v + 0) - 1) / (v + 0)) (R := v) hv (by rw [show v + 0 = v by omega] at this ⊢; exact this)
    omega
  · omega
/-- Two steps leave at most two more than one. -/
theorem stp_two {h v q : Int} (hh : 0 ≤ h) (hv : 0 < v) (hq : 0 ≤ q) : stp 0 (stp 0 h v q) v q ≤ stp 0 h v (2 * q) + 2 := by
  have k0 := stp_ge (c := 0) (h := h) (v := v) (q := 2 * q) hv (by omega)
  by_cases h0 : h > 0
  · by_cases h1 : stp 0 h v q > 0
    · have e1 : stp 0 h v q = (h * v + (v + q) - 1) / (v + q) := by unfold stp; rw [if_pos h0, Int.sub_zero, Int.zero_add]
      have e2 : stp 0 (stp 0 h v q) v q = (stp 0 h v q * v + (v + q) - 1) / (v + q) := by
        generalize stp 0 h v q = g at h1
        unfold stp; rw [if_pos h1, Int.sub_zero, Int.zero_add]
      have e3 : stp 0 h v (2 * q) = (h * v + (v + 2 * q) - 1) / (v + 2 * q) := by unfold stp; rw [if_pos h0, Int.sub_zero, Int.zero_add]
      have b1 := ceil_dn (a := h * v) (R := v + q) (by omega)
      rw [← e1] at b1
      have b2 := ceil_dn (a := stp 0 h v q * v) (R := v + q) (by omega)
      rw [← e2] at b2
      have b3 := ceil_up (a := h * v) (R := v + 2 * q) (by omega)
      rw [← e3] at b3
      generalize stp 0 (stp 0 h v q) v q = y at b2 ⊢
      generalize stp 0 h v q = g at b1 b2
      generalize stp 0 h v (2 * q) = k at b3 k0 ⊢
      -- with R = v + q: y R ≤ g v + R - 1, g R ≤ h v + R - 1, h v ≤ k (v + 2 q)
      by_cases hc : y ≤ k + 2
      · exact hc
      · exfalso
        have R0 : 0 < v + q := by omega
        have s1 : (k + 3) * (v + q) ≤ g * v + (v + q) - 1 := Int.le_trans (Int.mul_le_mul_of_nonneg_right (by omega) (by omega)) b2
        have s2 : g * (v + q) * v ≤ (h * v + (v + q) - 1) * v := Int.mul_le_mul_of_nonneg_right b1 (by omega)
        have s3 : h * v * v ≤ k * (v + 2 * q) * v := Int.mul_le_mul_of_nonneg_right b3 (by omega)
        have s4 : (k + 3) * (v + q) * (v + q) ≤ (g * v + (v + q) - 1) * (v + q) := Int.mul_le_mul_of_nonneg_right s1 (by omega)
        have s5 : 0 ≤ k * (q * q) := Int.mul_nonneg k0 (Int.mul_nonneg hq hq)
        have s6 : 0 ≤ v * q := Int.mul_nonneg (by omega) hq
        have s7 : 0 < v * v := Int.mul_pos hv hv
        have s8 : 0 ≤ q * q := Int.mul_nonneg hq hq
        have t1 : (k + 3) * (v + q) * (v + q) = k * (v * v) + 2 * (k * (v * q)) + k * (q * q) + 3 * (v * v) + 6 * (v * q) + 3 * (q * q) := by grind
        have t2 : (g * v + (v + q) - 1) * (v + q) = g * (v + q) * v + v * v + 2 * (v * q) + q * q - v - q := by grind
        have t3 : (h * v + (v + q) - 1) * v = h * v * v + v * v + v * q - v := by grind
        have t4 : k * (v + 2 * q) * v = k * (v * v) + 2 * (k * (v * q)) := by grind
        rw [t1, t2] at s4
        rw [t3] at s2
        rw [t4] at s3
        generalize g * (v + q) * v = A at s2 s4
        generalize h * v * v = B at s2 s3
        generalize k * (v * v) = C at s3 s4
        generalize k * (v * q) = D at s3 s4
        generalize k * (q * q) = E at s4 s5
        generalize v * v = F at s2 s4 s7
        generalize v * q = G at s2 s4 s6
        generalize q * q = H at s4 s8
        omega
    · have : stp 0 (stp 0 h v q) v q = 0 := by
        generalize stp 0 h v q = g at h1
        unfold stp; rw [if_neg h1]
      omega
  · have e1 : stp 0 h v q = 0 := by unfold stp; rw [if_neg h0]
    have : stp 0 (stp 0 h v q) v q = 0 := by rw [e1]; unfold stp; rw [if_neg (by omega)]
    omega
end Go.Proofs.Ytpmpmlhjnddikaa
