/- What the draws of choices give: numbers in range, at any choices that are not too long. No condition of its own. -/
import Derived.Test.YtdmggkpefjpknaaM
import Derived.Test.YtdmggkpefjpknaaPxN
set_option linter.all false
namespace Go.Proofs.Ytdmggkpefjpknaa
open Go.Pv M

/-- Choices from which can be drawn. -/
def Cd (d : T_Codes) : Prop := 0 ≤ d.2 ∧ d.2 ≤ d.1.length ∧ d.1.length ≤ 300 ∧ ∀ a, a ∈ d.1 → 0 ≤ a ∧ a ≤ 255

theorem ne2 {x y : Int} (h : x ≠ y) : (x == y) = false := by simpa using h
theorem bifs (a b : Bool) : (bif a then some b else some false) = some (a && b) := by cases a <;> rfl
theorem wf_u8 {n : Int} (h : (Lit.int .u8 n).wf = true) : 0 ≤ n ∧ n ≤ 255 := by
  simp only [Lit.wf, Bool.and_eq_true, decide_eq_true_eq] at h
  exact h
theorem mod_eq (N : Nat) (n m : Int) (h2 : m ≤ 4611686018427387904) : draw_Mod N n m = some (modS n m) := by
  unfold draw_Mod modS
  by_cases h : m < 1
  · simp [h]
  · have h0 : ¬ m = 0 := by omega
    have hr := tmod_lt (n := n) (m := m) (by omega)
    have he := tmod_emod (n := n) (m := m) (by omega)
    have h00 : (m == 0) = false := by simpa using h0
    simp only [h, decide_false, cond_false, h00, if_false]
    split at he
    · rename_i hlt
      simp only [hlt, decide_true, cond_true]
      rw [W_eq (by omega) (by omega), he]
    · rename_i hlt
      simp only [hlt, decide_false, cond_false]; rw [he]

theorem cd_get {d : List Int} (h : ∀ a, a ∈ d → 0 ≤ a ∧ a ≤ 255) (k : Nat) : 0 ≤ d.getD k 0 ∧ d.getD k 0 ≤ 255 := by
  rw [List.getD_eq_getElem?_getD]
  cases e : d[k]? with
  | none => simp
  | some x => exact h x (List.mem_of_getElem? e)

theorem next_spec {N : Nat} (hN : 0 < N) {d : T_Codes} (hd : Cd d) {n : Int} (h2 : n ≤ 4611686018427387904) : ∃ v d', draw_Codes_Next N d n = some (v, d') ∧ 0 ≤ v ∧ (v < n ∨ v = 0) ∧ Cd d' := by
  obtain ⟨a1, a2, a3, a4⟩ := hd
  obtain ⟨M, rfl⟩ : ∃ M, N = M + 1 := ⟨N - 1, by omega⟩
  unfold draw_Codes_Next
  by_cases h1 : n < 1
  · simp only [h1, decide_true, cond_true]
    exact ⟨0, d, rfl, by omega, .inr rfl, a1, a2, a3, a4⟩
  simp only [h1, decide_false, cond_false]
  by_cases h : d.2 ≥ (d.1.length : Int)
  · simp only [h, decide_true, cond_true]
    exact ⟨0, d, rfl, by omega, .inr rfl, a1, a2, a3, a4⟩
  · simp only [h, decide_false, cond_false]
    rw [draw_Codes_Next_J1_eq]
    have h0 : (n == 0) = false := by simp; omega
    rw [W_eq (n := d.2 + 1) (by omega) (by omega), W_eq (n := d.2 + 1 - 1) (by omega) (by omega), inB_true (by omega), cond_true]
    have g1 := cd_get a4 (d.2 + 1 - 1).toNat
    have g2 := cd_get a4 (d.2 + 1).toNat
    simp only [h0, cond_false]
    by_cases hn : n > 256
    · simp only [hn, decide_true, cond_true]
      by_cases hl : d.2 + 1 < (d.1.length : Int)
      · simp only [hl, decide_true, cond_true]
        rw [inB_true (by omega), cond_true]
        generalize d.1.getD (d.2 + 1 - 1).toNat 0 = x at g1 ⊢
        generalize d.1.getD (d.2 + 1).toNat 0 = y at g2 ⊢
        rw [W_eq (n := x) (by omega) (by omega), W_eq (n := y) (by omega) (by omega), W_eq (n := x * 256) (by omega) (by omega), W_eq (n := x * 256 + y) (by omega) (by omega), W_eq (n := d.2 + 1 + 1) (by omega) (by omega)]
        refine ⟨_, _, rfl, Int.tmod_nonneg _ (by omega), .inl (Int.tmod_lt_of_pos _ (by omega)), ?_, ?_, a3, a4⟩
        · show 0 ≤ d.2 + 1 + 1; omega
        · show d.2 + 1 + 1 ≤ (d.1.length : Int); omega
      · simp only [hl, decide_false, cond_false]
        rw [W_eq (n := d.1.getD (d.2 + 1 - 1).toNat 0) (by omega) (by omega)]
        refine ⟨_, _, rfl, Int.tmod_nonneg _ (by omega), .inl (Int.tmod_lt_of_pos _ (by omega)), ?_, ?_, a3, a4⟩
        · show 0 ≤ d.2 + 1; omega
        · show d.2 + 1 ≤ (d.1.length : Int); omega
    · simp only [hn, decide_false, cond_false]
      rw [W_eq (n := d.1.getD (d.2 + 1 - 1).toNat 0) (by omega) (by omega)]
      refine ⟨_, _, rfl, Int.tmod_nonneg _ (by omega), .inl (Int.tmod_lt_of_pos _ (by omega)), ?_, ?_, a3, a4⟩
      · show 0 ≤ d.2 + 1; omega
      · show d.2 + 1 ≤ (d.1.length : Int); omega

theorem one_spec {N : Nat} (hN : 0 < N) {d : T_Codes} (hd : Cd d) {n : Int} (h2 : n ≤ 4611686018427387904) : ∃ b d', draw_Codes_One N d n = some (b, d') ∧ Cd d' := by
  unfold draw_Codes_One
  obtain ⟨v, d', e, r1, r2, r3⟩ := next_spec hN hd h2
  rw [e, bind_some']
  exact ⟨_, _, rfl, r3⟩

theorem range_spec {N : Nat} (hN : 0 < N) {d : T_Codes} (hd : Cd d) {a b : Int} (h1 : a ≤ b) (h2 : -1000000 ≤ a) (h3 : b ≤ 1000000) : ∃ v d', draw_Codes_Range N d a b = some (v, d') ∧ a ≤ v ∧ v ≤ b ∧ Cd d' := by
  unfold draw_Codes_Range
  rw [W_eq (n := b - a) (by omega) (by omega), W_eq (n := b - a + 1) (by omega) (by omega)]
  obtain ⟨v, d', e, r1, r2, r3⟩ := next_spec hN hd (n := b - a + 1) (by omega)
  rw [e, bind_some']
  simp only
  rw [W_eq (n := a + v) (by omega) (by omega)]
  exact ⟨_, _, rfl, by omega, by omega, r3⟩

theorem new_spec (N : Nat) {l : List Int} (h : ∀ a, a ∈ l → (Lit.int .u8 a).wf = true) (hl : l.length ≤ maxLen) : ∃ d, draw_New N l = some (d, ()) ∧ Cd d := by
  unfold draw_New
  have : maxLen ≤ 9223372036854775807 := by decide
  simp only
  rw [slB_true (by omega), cond_true]
  refine ⟨_, rfl, by show (0 : Int) ≤ 0; omega, by show (0 : Int) ≤ _; omega, ?_, fun a ha => ?_⟩
  · show (l.take _).length ≤ 300
    rw [List.length_take]; omega
  · have := h a (List.mem_of_mem_take ha)
    simp only [Lit.wf, Bool.and_eq_true, decide_eq_true_eq] at this
    exact this
end Go.Proofs.Ytdmggkpefjpknaa
