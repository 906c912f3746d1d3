/- Hoists: the limits and the ticks of the program and of its reference are the same. No condition of its own. -/
import Derived.Test.YtjaoghekcifbhaaDc
import Derived.Test.YtjaoghekcifbhaaHoist5
set_option linter.all false
namespace Go.Proofs.Ytjaoghekcifbhaa
open Go.Pv M

def vH (dp tp dc cr mg : Int) : Prop := (1 ≤ dp ∧ dp ≤ 4000000) ∧ (1 ≤ tp ∧ tp ≤ 20000) ∧ (1 ≤ dc ∧ dc ≤ 5000) ∧ (0 ≤ cr ∧ cr ≤ tp) ∧ (0 ≤ mg ∧ mg ≤ 20)
def vR (dp at_ sp : Int) : Prop := (-1000 ≤ at_ ∧ at_ ≤ dp + 1000) ∧ (-40000 ≤ sp ∧ sp ≤ 40000)
instance (dp tp dc cr mg : Int) : Decidable (vH dp tp dc cr mg) := by unfold vH; infer_instance
instance (dp at_ sp : Int) : Decidable (vR dp at_ sp) := by unfold vR; infer_instance
def vF (dp tp dc cr mg at_ sp : Int) : Bool := decide (vH dp tp dc cr mg ∧ vR dp at_ sp)
theorem vF_iff {dp tp dc cr mg at_ sp : Int} : vF dp tp dc cr mg at_ sp = true ↔ (vH dp tp dc cr mg ∧ vR dp at_ sp) := decide_eq_true_iff
theorem bifs (a b : Bool) : (bif a then some b else some false) = some (a && b) := by cases a <;> rfl
theorem in_eq (N : Nat) (a b c : Int) : lists_In N a b c = some (decide (b ≤ a) && decide (a ≤ c)) := by
  unfold lists_In; simp only [bifs, ge_iff_le]
theorem valid_eq1 (N : Nat) (dp tp dc cr mg at_ sp : Int) (z : Bool) : hoist_Valid N (dp, tp, dc, cr, mg) (at_, sp, z) = some (vF dp tp dc cr mg at_ sp) := by
  unfold hoist_Valid
  simp only [in_eq, bind_some', bifs]
  congr 1
  rw [Bool.eq_iff_iff]
  simp only [Bool.and_eq_true, decide_eq_true_eq, vF_iff, vH, vR]
  constructor
  · rintro ⟨⟨h1, h1'⟩, ⟨h2, h2'⟩, ⟨h3, h3'⟩, ⟨h4, h4'⟩, ⟨h5, h5'⟩, ⟨h6, h6'⟩, h7, h7'⟩
    rw [W_eq (by omega) (by omega)] at h6'
    exact ⟨⟨⟨h1, h1'⟩, ⟨h2, h2'⟩, ⟨h3, h3'⟩, ⟨h4, h4'⟩, h5, h5'⟩, ⟨h6, h6'⟩, h7, h7'⟩
  · rintro ⟨⟨⟨h1, h1'⟩, ⟨h2, h2'⟩, ⟨h3, h3'⟩, ⟨h4, h4'⟩, h5, h5'⟩, ⟨h6, h6'⟩, h7, h7'⟩
    rw [W_eq (by omega) (by omega)]
    exact ⟨⟨h1, h1'⟩, ⟨h2, h2'⟩, ⟨h3, h3'⟩, ⟨h4, h4'⟩, ⟨h5, h5'⟩, ⟨h6, h6'⟩, h7, h7'⟩
theorem valid_eq2 (N : Nat) (dp tp dc cr mg at_ sp : Int) (z : Bool) : ref37_Valid N (dp, tp, dc, cr, mg) (at_, sp, z) = some (vF dp tp dc cr mg at_ sp) := by
  unfold ref37_Valid ref37_hoist
  simp only [bifs, bind_some', ge_iff_le]
  congr 1
  rw [Bool.eq_iff_iff]
  simp only [Bool.and_eq_true, decide_eq_true_eq, vF_iff, vH, vR]
  constructor
  · rintro ⟨⟨h1, h1', h2, h2', h3, h3', h4, h4', h5, h5'⟩, h6, h6', h7, h7'⟩
    rw [W_eq (by omega) (by omega)] at h6'
    exact ⟨⟨⟨h1, h1'⟩, ⟨h2, h2'⟩, ⟨h3, h3'⟩, ⟨h4, h4'⟩, h5, h5'⟩, ⟨h6, h6'⟩, h7, h7'⟩
  · rintro ⟨⟨⟨h1, h1'⟩, ⟨h2, h2'⟩, ⟨h3, h3'⟩, ⟨h4, h4'⟩, h5, h5'⟩, ⟨h6, h6'⟩, h7, h7'⟩
    rw [W_eq (by omega) (by omega)]
    exact ⟨⟨h1, h1', h2, h2', h3, h3', h4, h4', h5, h5'⟩, h6, h6', h7, h7'⟩

/-! ### Limits -/
theorem limit_eq (N : Nat) {dp tp dc cr mg rm : Int} (h : vH dp tp dc cr mg) : hoist_Limit N (dp, tp, dc, cr, mg) rm = some (limitV tp dc cr rm) := by
  obtain ⟨h1, h2, h3, h4, h5⟩ := h
  unfold hoist_Limit limOk
  simp only
  rw [decide_eq_true (show (1 ≤ tp ∧ tp ≤ 20000) ∧ (1 ≤ dc ∧ dc ≤ 5000) ∧ (0 ≤ cr ∧ cr ≤ 40000) from ⟨h2, h3, by omega, by omega⟩)]
theorem limX_iff {m : Int} (h : 0 ≤ m) (t : Nat) {x : Int} (h0 : 0 ≤ x) (ht : x ≤ t) : x * x ≤ m ↔ x ≤ limX m t := by
  obtain ⟨x, rfl⟩ := Int.eq_ofNat_of_zero_le h0
  constructor
  · intro h2; have := limX_max t x (by omega) h2; omega
  · intro h2
    have h3 := limX_sq h t
    have h4 := sq_mono (a := x) (b := limX m t) (by omega) h2
    omega
theorem limX_tp {dc rm : Int} {t : Nat} (hd : 1 ≤ dc ∧ dc ≤ 5000) (ht : 1 ≤ t ∧ t ≤ 20000) (hr : 0 < rm) : limX (2 * dc * min rm ((t : Int) * t)) t = limX (2 * dc * min rm 1099511627776) t := by
  have hb := mul_bd (A := 20000) (B := 20000) (show 0 ≤ (t : Int) ∧ (t : Int) ≤ 20000 by omega) (show 0 ≤ (t : Int) ∧ (t : Int) ≤ 20000 by omega)
  rcases Int.lt_or_le ((t : Int) * t) rm with h | h
  · have f : ∀ M : Int, (t : Int) * t ≤ M → limX (2 * dc * M) t = t := fun M hM => by
      have h1 : (t : Int) * t ≤ 2 * dc * M := by
        have := Int.mul_le_mul (show (1 : Int) ≤ 2 * dc by omega) hM (by omega) (by omega)
        omega
      have := limX_max (m := 2 * dc * M) t t (Nat.le_refl _) h1
      have := limX_le (2 * dc * M) t
      omega
    rw [f _ (by omega), f _ (by omega)]
  · rw [show min rm ((t : Int) * t) = rm by omega, show min rm (1099511627776 : Int) = rm by omega]

theorem bis {tp cr m rm dc x4 x8 : Int} {t : Nat} (ht : tp = t ∧ t ≤ 20000) (hc : 0 ≤ cr ∧ cr ≤ tp) (h0 : 0 ≤ m) (hm : W ((W (2 * dc)) * (min rm 1099511627776)) = m) : ∀ (k n : Nat) (lo hi : Int), k < n → 0 ≤ lo → lo ≤ limX m t → (limX m t : Int) < hi → hi ≤ t + 1 → hi - lo ≤ 2 ^ k →
    ref37_Limit_L1 1000 n rm lo hi x4 tp dc cr x8 = some (min (limX m t + cr) tp) := by
  intro k
  induction k with
  | zero =>
    intro n lo hi hn a1 a2 a3 a4 a5
    obtain ⟨n, rfl⟩ : ∃ n', n = n' + 1 := ⟨n - 1, by omega⟩
    rw [ref37_Limit_L1_succ]
    have e : lo = limX m t := by simp at a5; omega
    rw [W_eq (n := hi - lo) (by omega) (by omega), decide_eq_false (show ¬ hi - lo > 1 by simp at a5; omega), cond_false, W_eq (n := lo + cr) (by omega) (by omega), e]
  | succ k ih =>
    intro n lo hi hn a1 a2 a3 a4 a5
    obtain ⟨n, rfl⟩ : ∃ n', n = n' + 1 := ⟨n - 1, by omega⟩
    rw [ref37_Limit_L1_succ]
    by_cases h : hi - lo > 1
    · have em : W ((W (lo + hi)).tdiv 2) = (lo + hi) / 2 := by
        rw [W_eq (n := lo + hi) (by omega) (by omega), Int.tdiv_eq_ediv_of_nonneg (by omega), W_eq (by omega) (by omega)]
      have p1 := mul_bd (a := (lo + hi) / 2) (b := (lo + hi) / 2) (A := 20000) (B := 20000) (by omega) (by omega)
      rw [W_eq (n := hi - lo) (by omega) (by omega), decide_eq_true h, cond_true, em, W_eq (n := (lo + hi) / 2 * ((lo + hi) / 2)) (by omega) (by omega), hm]
      have hiff := limX_iff h0 t (x := (lo + hi) / 2) (by omega) (by omega)
      have h2 : (2 : Int) ^ (k + 1) = 2 * 2 ^ k := by rw [Int.pow_succ]; omega
      by_cases hx : (lo + hi) / 2 * ((lo + hi) / 2) ≤ m
      · rw [decide_eq_true hx, cond_true]
        have := hiff.1 hx
        exact ih n _ hi (by omega) (by omega) this a3 a4 (by omega)
      · rw [decide_eq_false hx, cond_false]
        have := mt hiff.2 hx
        exact ih n lo _ (by omega) a1 a2 (by omega) (by omega) (by omega)
    · have e : lo = limX m t := by omega
      rw [W_eq (n := hi - lo) (by omega) (by omega), decide_eq_false h, cond_false, W_eq (n := lo + cr) (by omega) (by omega), e]

theorem limit_eq2 {dp tp dc cr mg rm : Int} (h : vH dp tp dc cr mg) : ref37_Limit 1000 (dp, tp, dc, cr, mg) rm = some (limitV tp dc cr rm) := by
  obtain ⟨h1, h2, h3, h4, h5⟩ := h
  unfold ref37_Limit limitV
  by_cases hr : rm ≤ 0
  · simp only [hr, decide_true, cond_true]
  · simp only [hr, decide_false, cond_false]
    obtain ⟨t, rfl⟩ := Int.eq_ofNat_of_zero_le (show 0 ≤ tp by omega)
    have q := mul_bd (a := 2 * dc) (b := min rm 1099511627776) (A := 10000) (B := 1099511627776) (by omega) (by omega)
    have hm : W ((W (2 * dc)) * (min rm 1099511627776)) = 2 * dc * min rm 1099511627776 := by
      rw [W_eq (n := 2 * dc) (by omega) (by omega), W_eq (by omega) (by omega)]
    rw [Int.toNat_natCast, limX_tp h3 (by omega) (by omega), W_eq (n := (t : Int) + 1) (by omega) (by omega)]
    have := limX_le (2 * dc * min rm 1099511627776) t
    rw [bis (m := 2 * dc * min rm 1099511627776) (t := t) ⟨rfl, by omega⟩ h4 q.1 hm 15 1000 0 (t + 1) (by omega) (by omega) (by omega) (by omega) (by omega) (by omega)]
    congr 1; congr 1; omega
end Go.Proofs.Ytjaoghekcifbhaa
