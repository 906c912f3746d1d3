/- Fans: made fans exist; when a fan is right; lines and curves. No condition of its own. -/
import Derived.Test.YtlclflgommkbcaaCd
set_option linter.all false
namespace Go.Proofs.Ytlclflgommkbcaa
open Go.Pv M

theorem curve_loop {N : Nat} (hN : 0 < N) : ∀ (n : Nat) (k : Nat) (d : T_Codes) (l : List T_Point), k < n → k ≤ 4 → Cd d → 0 < l.length → l.length + k ≤ 20 → ∃ r d', draw_Codes_Curve_L1 N n k d.1 d.2 l = some (r, d') ∧ Cd d' ∧ 0 < r.length ∧ r.length ≤ 20
  | n + 1, 0, d, l, hn, hk, hd, hl, hs => by
    rw [draw_Codes_Curve_L1_succ]
    exact ⟨l, d, rfl, hd, hl, by omega⟩
  | n + 1, k + 1, d, l, hn, hk, hd, hl, hs => by
    rw [draw_Codes_Curve_L1_succ]
    rw [decide_eq_true (show ((k + 1 : Nat) : Int) > 0 by omega), cond_true]
    simp only
    rw [W_eq (n := (l.length : Int) - 1) (by omega) (by omega), inB_true (by omega), cond_true]
    obtain ⟨v1, d1, e1, _, _, hd1⟩ := range_spec hN hd (a := 1) (b := 40) (by omega) (by omega) (by omega)
    rw [show ((d.1, d.2) : T_Codes) = d from rfl, e1, bind_some']
    obtain ⟨v2, d2, e2, _, _, hd2⟩ := next_spec hN hd1 (n := 900) (by omega)
    simp only
    rw [e2, bind_some', fitsB_true (by omega), cond_true, W_eq (n := ((k + 1 : Nat) : Int) - 1) (by omega) (by omega), show ((k + 1 : Nat) : Int) - 1 = (k : Int) by omega]
    exact curve_loop hN n k d2 _ (by omega) (by omega) hd2 (by simp) (by simp; omega)

theorem made_spec {N : Nat} (hN : 1000 ≤ N) {l : List Int} (h : ∀ a, a ∈ l → (Lit.int .u8 a).wf = true) (hl : l.length ≤ maxLen) (at_ by_ : Int) : ∃ f, law07_made N l at_ by_ = some f := by
  have hN' : 0 < N := by omega
  unfold law07_made
  obtain ⟨d, e, hd⟩ := new_spec N h hl
  rw [e, bind_some']
  obtain ⟨v1, d1, e1, _, _, hd1⟩ := next_spec hN' hd (n := 3) (by omega)
  simp only
  rw [e1, bind_some']
  obtain ⟨v2, d2, e2, hd2⟩ := one_spec hN' hd1 (n := 2) (by omega)
  simp only
  rw [e2, bind_some']
  unfold draw_Codes_Curve
  obtain ⟨v3, d3, e3, _, _, hd3⟩ := range_spec hN' hd2 (a := -20) (b := 10) (by omega) (by omega) (by omega)
  simp only
  rw [e3, bind_some']
  obtain ⟨v4, d4, e4, _, _, hd4⟩ := range_spec hN' hd3 (a := 500) (b := 3000) (by omega) (by omega) (by omega)
  simp only
  rw [e4, bind_some']
  obtain ⟨v5, d5, e5, a5, b5, hd5⟩ := next_spec hN' hd4 (n := 4) (by omega)
  simp only
  rw [e5, bind_some']
  obtain ⟨k, rfl⟩ := Int.eq_ofNat_of_zero_le a5
  obtain ⟨r, d6, e6, hd6, l1, l2⟩ := curve_loop hN' N k d5 [(v3, v4)] (by omega) (by omega) hd5 (by simp) (by simp; omega)
  simp only
  rw [e6, bind_some']
  obtain ⟨v7, d7, e7, _, _, hd7⟩ := next_spec hN' hd6 (n := 8) (by omega)
  simp only
  rw [e7, bind_some']
  simp only
  rw [mod_eq N at_ _ (by omega)]
  have hm := modS_range (n := at_) (m := (r.length : Int)) (by omega)
  have hi : inB (modS at_ (r.length : Int)) r.length = true := inB_true (by omega)
  simp only [bind_some', hi, cond_true]
  rw [fitsB_true (by omega)]
  cases (v7 == 1) with
  | true => exact ⟨_, rfl⟩
  | false =>
    cases (v7 == 2) with
    | true => exact ⟨_, rfl⟩
    | false =>
      cases (v7 == 3) with
      | true => exact ⟨_, rfl⟩
      | false =>
        cases (v7 == 4) with
        | true => exact ⟨_, rfl⟩
        | false => exact ⟨_, rfl⟩

/-! ### Right fans -/
abbrev pt (l : List T_Point) (k : Nat) : T_Point := l.getD k D_Point
def okPt (l : List T_Point) (k : Nat) : Prop := -1048576 ≤ (pt l k).1 ∧ (pt l k).1 ≤ 1048576 ∧ 0 ≤ (pt l k).2 ∧ (pt l k).2 ≤ 2199023255552
def okStep (l : List T_Point) (k : Nat) : Prop := (pt l k).1 < (pt l (k + 1)).1 ∧ (pt l (k + 1)).2 ≤ (pt l k).2
structure Right (l : List T_Point) : Prop where
  l1 : 1 ≤ l.length
  l2 : l.length ≤ 8
  ok : ∀ k, k < l.length → okPt l k
  st : ∀ k, k + 1 < l.length → okStep l k

theorem check_loop {N : Nat} (hN : 0 < N) (l : List T_Point) (hl : l.length ≤ 8) (a : Int) (b c : Bool) : ∀ (n m k : Nat), m + k = l.length → m < n → (∀ j, j < k → okPt l j) → (∀ j, j + 1 < k → okStep l j) →
    ∃ r, fan_Check_L1 N n l l.length k a b c l = some r ∧ ref07_Check_L1 N n k a b c l = some r ∧ (r = 0 ↔ (∀ j, j < l.length → okPt l j) ∧ (∀ j, j + 1 < l.length → okStep l j))
  | n + 1, 0, k, hk, hn, g1, g2 => by
    rw [fan_Check_L1_succ, ref07_Check_L1_succ, decide_eq_false (show ¬ ((k : Int) < (l.length : Int)) by omega)]
    have : k = l.length := by omega
    subst this
    exact ⟨0, rfl, rfl, fun _ => ⟨g1, g2⟩, fun _ => rfl⟩
  | n + 1, m + 1, k, hk, hn, g1, g2 => by
    obtain ⟨M, rfl⟩ : ∃ M, N = M + 1 := ⟨N - 1, by omega⟩
    rw [fan_Check_L1_succ, ref07_Check_L1_succ, decide_eq_true (show ((k : Int) < (l.length : Int)) by omega), cond_true, cond_true, inB_true (by omega), cond_true, cond_true, fan_Check_J1_eq, ref07_Check_J2_eq, Int.toNat_natCast]
    by_cases c1 : (pt l k).1 < -1048576
    · rw [decide_eq_true c1]; exact ⟨1, rfl, rfl, fun h => by omega, fun g => by have := g.1 k (by omega); unfold okPt at this; omega⟩
    rw [decide_eq_false c1, cond_false, cond_false]
    by_cases c2 : (pt l k).1 > 1048576
    · rw [decide_eq_true c2]; exact ⟨1, rfl, rfl, fun h => by omega, fun g => by have := g.1 k (by omega); unfold okPt at this; omega⟩
    rw [decide_eq_false c2, cond_false, cond_false]
    by_cases c3 : (pt l k).2 < 0
    · rw [decide_eq_true c3]; exact ⟨1, rfl, rfl, fun h => by omega, fun g => by have := g.1 k (by omega); unfold okPt at this; omega⟩
    rw [decide_eq_false c3, cond_false, cond_false]
    by_cases c4 : (pt l k).2 > 2199023255552
    · rw [decide_eq_true c4]; exact ⟨1, rfl, rfl, fun h => by omega, fun g => by have := g.1 k (by omega); unfold okPt at this; omega⟩
    rw [decide_eq_false c4, cond_false, cond_false]
    have hk1 : okPt l k := ⟨by omega, by omega, by omega, by omega⟩
    have g1' : ∀ j, j < k + 1 → okPt l j := fun j hj => by
      by_cases h : j = k
      · subst h; exact hk1
      · exact g1 j (by omega)
    rw [W_eq (n := (k : Int) + 1) (by omega) (by omega), show (k : Int) + 1 = ((k + 1 : Nat) : Int) by omega]
    by_cases c5 : (k : Int) > 0
    · rw [decide_eq_true c5, cond_true, cond_true, W_eq (n := (k : Int) - 1) (by omega) (by omega), inB_true (by omega), cond_true, cond_true, cond_true, cond_true, show ((k : Int) - 1).toNat = k - 1 by omega]
      by_cases c6 : (pt l k).1 ≤ (pt l (k - 1)).1
      · rw [decide_eq_true c6]; exact ⟨14, rfl, rfl, fun h => by omega, fun g => by have := g.2 (k - 1) (by omega); unfold okStep at this; rw [show k - 1 + 1 = k by omega] at this; omega⟩
      rw [decide_eq_false c6, cond_false, cond_false]
      by_cases c7 : (pt l k).2 > (pt l (k - 1)).2
      · rw [decide_eq_true c7]; exact ⟨14, rfl, rfl, fun h => by omega, fun g => by have := g.2 (k - 1) (by omega); unfold okStep at this; rw [show k - 1 + 1 = k by omega] at this; omega⟩
      rw [decide_eq_false c7, cond_false, cond_false]
      refine check_loop (by omega) l hl a b c n m (k + 1) (by omega) (by omega) g1' fun j hj => ?_
      by_cases h : j + 1 = k
      · subst h; exact ⟨by simp only [Nat.add_sub_cancel] at c6; omega, by simp only [Nat.add_sub_cancel] at c7; omega⟩
      · exact g2 j (by omega)
    · rw [decide_eq_false c5, cond_false, cond_false]
      exact check_loop (by omega) l hl a b c n m (k + 1) (by omega) (by omega) g1' fun j hj => g2 j (by omega)

theorem check_spec {N : Nat} (hN : 1000 ≤ N) (a : Int) (b c : Bool) (l : List T_Point) : ∃ r, fan_Check N (a, b, c, l) = some r ∧ ref07_Check N (a, b, c, l) = some r ∧ (r = 0 ↔ 0 ≤ a ∧ Right l) := by
  obtain ⟨M, rfl⟩ : ∃ M, N = M + 1 := ⟨N - 1, by omega⟩
  unfold fan_Check ref07_Check
  simp only
  by_cases c1 : a < 0
  · rw [decide_eq_true c1]; exact ⟨4, rfl, rfl, fun h => by omega, fun g => by omega⟩
  rw [decide_eq_false c1, cond_false, cond_false]
  by_cases c2 : (l.length : Int) < 1
  · rw [decide_eq_true c2]; exact ⟨2, rfl, rfl, fun h => by omega, fun g => by have := g.2.l1; have := g.2.l2; omega⟩
  rw [decide_eq_false c2, cond_false, cond_false]
  by_cases c3 : (l.length : Int) > 8
  · rw [decide_eq_true c3]; exact ⟨2, rfl, rfl, fun h => by omega, fun g => by have := g.2.l1; have := g.2.l2; omega⟩
  rw [decide_eq_false c3, cond_false, cond_false, ref07_Check_J1_eq]
  obtain ⟨r, e1, e2, h⟩ := check_loop (N := M + 1) (by omega) l (by omega) a b c (M + 1) l.length 0 rfl (by omega) (fun j hj => by omega) (fun j hj => by omega)
  exact ⟨r, e1, e2, fun h0 => ⟨by omega, by omega, by omega, (h.1 h0).1, (h.1 h0).2⟩, fun g => h.2 ⟨g.2.ok, g.2.st⟩⟩

/-! ### The line between two points -/
/-- Low and high on the line from p to q at x. -/
def line (p q : T_Point) (x : Int) : T_Point := (p.2 - ((p.2 - q.2) * (x - p.1)) / (q.1 - p.1) - (if ((p.2 - q.2) * (x - p.1)) % (q.1 - p.1) > 0 then 1 else 0), p.2 - ((p.2 - q.2) * (x - p.1)) / (q.1 - p.1))

theorem pr_bd {a b : Int} (h1 : 0 ≤ a ∧ a ≤ 2199023255552) (h2 : 0 ≤ b ∧ b ≤ 2097152) : 0 ≤ a * b ∧ a * b ≤ 4611686018427387904 := by
  have h3 := Int.mul_nonneg h1.1 h2.1
  have h4 := Int.mul_le_mul h1.2 h2.2 h2.1 (by omega)
  exact ⟨h3, by omega⟩
theorem u64_eq {n : Int} (h1 : 0 ≤ n) (h2 : n < 18446744073709551616) : IntKind.u64.wrap n = n := by
  have e : IntKind.u64.wrap n = n % 18446744073709551616 := by simp [IntKind.wrap, IntKind.signed, IntKind.bits]
  rw [e]; omega
theorem and32 {n : Int} (h1 : 0 ≤ n) (h2 : n < 18446744073709551616) : ((BitVec.ofInt IntKind.u64.bits n &&& BitVec.ofInt IntKind.u64.bits 4294967295).toNat : Int) = n % 4294967296 := by
  obtain ⟨k, rfl⟩ := Int.eq_ofNat_of_zero_le h1
  have e : (BitVec.ofInt IntKind.u64.bits (k : Int) &&& BitVec.ofInt IntKind.u64.bits 4294967295).toNat = k % 4294967296 := by
    rw [BitVec.toNat_and]
    have e1 : (BitVec.ofInt IntKind.u64.bits (k : Int)).toNat = k := by
      rw [BitVec.toNat_ofInt]
      show ((k : Int) % ((2 ^ 64 : Nat) : Int)).toNat = k
      omega
    have e2 : (BitVec.ofInt IntKind.u64.bits 4294967295).toNat = 2 ^ 32 - 1 := by decide
    rw [e1, e2, Nat.and_two_pow_sub_one_eq_mod]
  rw [e]; omega
theorem fdiv32 {n : Int} (h1 : 0 ≤ n) : n.fdiv (2 ^ (min (32 : Int).toNat IntKind.u64.bits)) = n / 4294967296 := by
  show n.fdiv 4294967296 = n / 4294967296
  rw [Int.fdiv_eq_ediv_of_nonneg _ (by omega)]

theorem mul_spec (N : Nat) {a b : Int} (h1 : 0 ≤ a ∧ a ≤ 2199023255552) (h2 : 0 ≤ b ∧ b ≤ 2097152) : math_bits_Mul64 N a b = some (0, a * b) := by
  have hb := pr_bd h1 h2
  unfold math_bits_Mul64
  simp only
  rw [and32 (by omega) (by omega), and32 (by omega) (by omega), fdiv32 (by omega), fdiv32 (by omega), u64_eq (n := a % 4294967296) (by omega) (by omega), u64_eq (n := b % 4294967296) (by omega) (by omega), show b / 4294967296 = 0 by omega, show b % 4294967296 = b by omega, Int.mul_zero, Int.mul_zero, u64_eq (n := 0) (by omega) (by omega)]
  have q1 : 0 ≤ a / 4294967296 * b ∧ a / 4294967296 * b ≤ 4611686018427387904 := pr_bd (by omega) h2
  have q2 : 0 ≤ a % 4294967296 * b ∧ a % 4294967296 * b ≤ 4611686018427387904 := pr_bd (by omega) h2
  have q3 : a * b = 4294967296 * (a / 4294967296 * b) + a % 4294967296 * b := by
    rw [← Int.mul_assoc, ← Int.add_mul, Int.mul_ediv_add_emod]
  generalize a / 4294967296 * b = u at *
  generalize a % 4294967296 * b = v at *
  generalize a * b = t at *
  rw [u64_eq (n := u) (by omega) (by omega), u64_eq (n := v) (by omega) (by omega), fdiv32 (n := v) (by omega), u64_eq (n := u + v / 4294967296) (by omega) (by omega), fdiv32 (n := u + v / 4294967296) (by omega), and32 (by omega) (by omega)]
  rw [u64_eq (n := (u + v / 4294967296) % 4294967296) (by omega) (by omega), u64_eq (n := t) (by omega) (by omega)]
  rw [u64_eq (n := (u + v / 4294967296) % 4294967296 + 0) (by omega) (by omega), fdiv32 (by omega), u64_eq (n := 0 + (u + v / 4294967296) / 4294967296) (by omega) (by omega), u64_eq (by omega) (by omega)]
  congr 2; omega

theorem div_spec (N : Nat) {a b : Int} (h1 : 0 ≤ a ∧ a ≤ 4611686018427387904) (h2 : 0 < b) : math_bits_Div64 N 0 a b = some (a / b, a % b) := by
  have h3 := Int.ediv_le_self b h1.1
  have h4 : 0 ≤ a / b := Int.ediv_nonneg h1.1 (by omega)
  unfold math_bits_Div64
  rw [show (b == 0) = false by simp; omega, cond_false, decide_eq_false (show ¬ b ≤ 0 by omega), cond_false, show ((0 : Int) == 0) = true from rfl, cond_true, cond_false, cond_false]
  rw [Int.tdiv_eq_ediv_of_nonneg h1.1, Int.tmod_eq_emod_of_nonneg h1.1, u64_eq (by omega) (by omega)]

theorem between_spec (N : Nat) {p q : T_Point} {x : Int} (hp1 : -1048576 ≤ p.1 ∧ p.1 ≤ 1048576) (hq1 : -1048576 ≤ q.1 ∧ q.1 ≤ 1048576) (hp2 : 0 ≤ p.2 ∧ p.2 ≤ 2199023255552) (hq2 : 0 ≤ q.2 ∧ q.2 ≤ p.2) (hx : p.1 ≤ x ∧ x ≤ q.1) (hlt : p.1 < q.1) : fan_between N p q x = some (line p q x) := by
  have hb := pr_bd (a := p.2 - q.2) (b := x - p.1) (by omega) (by omega)
  unfold fan_between
  rw [W_eq (n := p.2 - q.2) (by omega) (by omega), W_eq (n := x - p.1) (by omega) (by omega), W_eq (n := q.1 - p.1) (by omega) (by omega), u64_eq (n := p.2 - q.2) (by omega) (by omega), u64_eq (n := x - p.1) (by omega) (by omega), u64_eq (n := q.1 - p.1) (by omega) (by omega), mul_spec N (by omega) (by omega), bind_some']
  simp only
  rw [div_spec N hb (by omega), bind_some']
  unfold line
  generalize (p.2 - q.2) * (x - p.1) = t at *
  have h3 := Int.ediv_le_self (q.1 - p.1) hb.1
  have h4 : 0 ≤ t / (q.1 - p.1) := Int.ediv_nonneg hb.1 (by omega)
  generalize t / (q.1 - p.1) = u at *
  simp only
  rw [W_eq (n := u) (by omega) (by omega), W_eq (n := p.2 - u) (by omega) (by omega), W_eq (n := p.2 - u - 1) (by omega) (by omega)]
  split
  · rename_i h; rw [decide_eq_true h]; rfl
  · rename_i h; rw [decide_eq_false h, Int.sub_zero]; rfl
end Go.Proofs.Ytlclflgommkbcaa
