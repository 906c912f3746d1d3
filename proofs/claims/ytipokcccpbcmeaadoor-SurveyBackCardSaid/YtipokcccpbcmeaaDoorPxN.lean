/- Plain facts for laws over the models: numbers as int64 holds them, bounds, draws. No condition of its own. -/
import Derived.Test.YtipokcccpbcmeaaDoorPxM
set_option linter.all false
namespace Go.Pv
open Go.RowKit
theorem W_eq {n : Int} (h1 : -9223372036854775808 ≤ n) (h2 : n ≤ 9223372036854775807) : W n = n := wrap_eq h1 h2
theorem inB_true {n : Int} {l : Nat} (h : 0 ≤ n ∧ n < l) : inB n l = true := decide_eq_true h
theorem slB_true {a b : Int} {l : Nat} (h : 0 ≤ a ∧ a ≤ b ∧ b ≤ l) : slB a b l = true := decide_eq_true h
theorem fitsB_true {n b : Nat} (h : n * b ≤ 140737488355328 ∧ n ≤ 9223372036854775807) : fitsB n b = true := decide_eq_true h
theorem bind_some' {α β : Type} (a : α) (f : α → Option β) : Option.bind (some a) f = f a := rfl
def modS (n m : Int) : Int := if m < 1 then 0 else n % m
theorem tmod_emod {n m : Int} (h : 1 ≤ m) : (if n.tmod m < 0 then n.tmod m + m else n.tmod m) = n % m := by
  have e := Int.emod_eq_tmod (a := n) (b := m)
  have hb : (m.natAbs : Int) = m := by omega
  have r1 := Int.emod_nonneg n (show m ≠ 0 by omega)
  have r2 := Int.emod_lt_of_pos n (show 0 < m by omega)
  by_cases hn : 0 ≤ n
  · have : 0 ≤ n.tmod m := Int.tmod_nonneg m hn
    rw [if_neg (by omega)]
    rw [e]
    simp [hn]
  · have hle : n.tmod m ≤ 0 := by
      have h1 := Int.tmod_nonneg m (show 0 ≤ -n by omega)
      rw [Int.neg_tmod] at h1; omega
    split
    · rename_i hlt
      by_cases hd : m ∣ n
      · have : n.tmod m = 0 := Int.tmod_eq_zero_of_dvd hd
        omega
      · rw [e, if_neg (by simp [hn, hd]), hb]
    · have h0 : n.tmod m = 0 := by omega
      rw [h0]
      exact (Int.emod_eq_zero_of_dvd (Int.dvd_of_tmod_eq_zero h0)).symm
theorem tmod_lt {n m : Int} (h : 1 ≤ m) : -m < n.tmod m ∧ n.tmod m < m := by
  have h1 := Int.lt_tmod_of_pos n (show 0 < m by omega)
  have h2 := Int.tmod_lt_of_pos n (show 0 < m by omega)
  exact ⟨h1, h2⟩
end Go.Pv
