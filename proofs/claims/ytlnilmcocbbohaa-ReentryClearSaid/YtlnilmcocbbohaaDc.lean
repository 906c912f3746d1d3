/- What the dice give: numbers in range, at any dice that are not too long. No condition of its own. -/
import Derived.Test.YtlnilmcocbbohaaM
import Derived.Test.YtlnilmcocbbohaaPxN
set_option linter.all false
namespace Go.Proofs.Ytlnilmcocbbohaa
open Go.Pv M

/-- Dice that can be rolled. -/
def Dk (d : T_Dice) : Prop := 0 ≤ d.2 ∧ d.2 ≤ d.1.length ∧ d.1.length ≤ 1000000

theorem mod_eq (N : Nat) (n m : Int) (h2 : m ≤ 4611686018427387904) : made_Mod N n m = some (modS n m) := by
  unfold made_Mod modS
  by_cases h : m < 1
  · simp [h]
  · have h0 : ¬ m = 0 := by omega
    have hr := tmod_lt (n := n) (m := m) (by omega)
    have he := tmod_emod (n := n) (m := m) (by omega)
    have h00 : (m == 0) = false := by simpa using h0
    simp only [h, decide_false, cond_false, h00, if_false]
    split at he
    · rename_i hlt
      simp only [hlt, decide_true, cond_true]
      rw [W_eq (by omega) (by omega), he]
    · rename_i hlt
      simp only [hlt, decide_false, cond_false]; rw [he]

theorem next_spec (N : Nat) {d : T_Dice} (hd : Dk d) {n : Int} (h1 : 1 ≤ n) (h2 : n ≤ 4611686018427387904) : ∃ v d', made_Dice_Next N d n = some (v, d') ∧ 0 ≤ v ∧ v < n ∧ Dk d' := by
  obtain ⟨a1, a2, a3⟩ := hd
  unfold made_Dice_Next
  by_cases h : d.2 ≥ (d.1.length : Int)
  · simp only [h, decide_true, cond_true]
    exact ⟨0, d, rfl, by omega, by omega, a1, a2, a3⟩
  · simp only [h, decide_false, cond_false]
    rw [W_eq (n := d.2 + 1) (by omega) (by omega), W_eq (n := d.2 + 1 - 1) (by omega) (by omega), inB_true (by omega), cond_true, mod_eq N _ _ h2, bind_some']
    have hr := modS_range (n := d.1.getD (d.2 + 1 - 1).toNat 0) h1
    exact ⟨_, _, rfl, hr.1, hr.2, by show 0 ≤ d.2 + 1; omega, by show d.2 + 1 ≤ (d.1.length : Int); omega, a3⟩

theorem of_spec (N : Nat) {d : T_Dice} (hd : Dk d) (l : List Int) (h1 : 0 < l.length) (h2 : l.length ≤ 1000000) : ∃ v d', made_Dice_Of N d l = some (v, d') ∧ v ∈ l ∧ Dk d' := by
  unfold made_Dice_Of
  obtain ⟨v, d', e, r1, r2, r3⟩ := next_spec N hd (n := l.length) (by omega) (by omega)
  rw [e, bind_some']
  simp only
  rw [inB_true ⟨r1, r2⟩, cond_true]
  refine ⟨_, _, rfl, ?_, r3⟩
  have : v.toNat < l.length := by omega
  rw [List.getD_eq_getElem?_getD, List.getElem?_eq_getElem this, Option.getD_some]
  exact List.getElem_mem this

theorem one_spec (N : Nat) {d : T_Dice} (hd : Dk d) {n : Int} (h1 : 1 ≤ n) (h2 : n ≤ 4611686018427387904) : ∃ b d', made_Dice_One N d n = some (b, d') ∧ Dk d' := by
  unfold made_Dice_One
  obtain ⟨v, d', e, r1, r2, r3⟩ := next_spec N hd h1 h2
  rw [e, bind_some']
  exact ⟨_, _, rfl, r3⟩

theorem roll_spec (N : Nat) (l : List Int) : made_Roll N l = some ((l, 0), ()) := rfl
theorem roll_ok {l : List Int} (h : l.length ≤ 400) : Dk (l, 0) := ⟨by show (0 : Int) ≤ 0; omega, by show (0 : Int) ≤ (l.length : Int); omega, by show l.length ≤ 1000000; omega⟩
theorem light_eq (N : Nat) (l : List Int) : made_Light N l = some (decide ((l.length : Int) ≤ 400)) := rfl
end Go.Proofs.Ytlnilmcocbbohaa
