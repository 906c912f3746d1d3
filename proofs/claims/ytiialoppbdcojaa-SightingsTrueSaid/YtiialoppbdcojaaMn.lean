/- Made mines: their places and roads. No condition of its own. -/
import Derived.Test.YtiialoppbdcojaaDc
set_option linter.all false
namespace Go.Proofs.Ytiialoppbdcojaa
open Go.Pv M

theorem ne2 {x y : Int} (h : x ≠ y) : (x == y) = false := by simpa using h
theorem eq2 {x y : Int} (h : x = y) : (x == y) = true := by simpa using h
theorem mem_app {α : Type} {P : α → Prop} {l : List α} {a : α} (h : ∀ x, x ∈ l → P x) (ha : P a) : ∀ x, x ∈ l ++ [a] → P x := fun x hx => by
  rcases List.mem_append.1 hx with hx | hx
  · exact h x hx
  · rw [List.mem_singleton.1 hx]; exact ha
/-- A place, a road and a mine as the dice make them. -/
def Pk (p : T_Place) : Prop := -30 ≤ p.1 ∧ p.1 ≤ 0
def Rk (n : Int) (r : T_Road) : Prop := (0 ≤ r.1 ∧ r.1 < n) ∧ (0 ≤ r.2.1 ∧ r.2.1 < n) ∧ r.1 ≠ r.2.1 ∧ (1 ≤ r.2.2.1 ∧ r.2.2.1 ≤ 200) ∧ (1 ≤ r.2.2.2.1 ∧ r.2.2.2.1 ≤ 20) ∧ r.2.2.2.2.2.2.1 = (1, 1) ∧ r.2.2.2.2.2.2.2 = (0, 0)
structure Mk (m : T_Mine) : Prop where
  n1 : 2 ≤ m.1.length
  n2 : m.1.length ≤ 7
  r2 : m.2.length ≤ 10
  p : ∀ x, x ∈ m.1 → Pk x
  r : ∀ x, x ∈ m.2 → Rk m.1.length x

theorem mine3 : ∀ (n k : Nat) (d : T_Dice) (ps : List T_Place) (rs : List T_Road), k < n → k ≤ 3 → Dk d → 2 ≤ ps.length → ps.length ≤ 7 → (∀ x, x ∈ ps → Pk x) → rs.length ≤ 10 → (∀ x, x ∈ rs → Rk ps.length x) →
    ∃ m d', made_Dice_Mine_L3 1000 n ps.length k d.1 d.2 0 0 12 10 true false 1 1 0 0 ps rs = some (m, d') ∧ Mk m ∧ Dk d'
  | n + 1, 0, d, ps, rs, hn, hk, hd, h1, h2, hp, h3, hr => by
    rw [made_Dice_Mine_L3_succ]
    exact ⟨(ps, rs), d, rfl, ⟨h1, h2, h3, hp, hr⟩, hd⟩
  | n + 1, k + 1, d, ps, rs, hn, hk, hd, h1, h2, hp, h3, hr => by
    rw [made_Dice_Mine_L3_succ, decide_eq_true (by omega), cond_true]
    by_cases hl : ((rs.length : Int) < 10)
    · rw [decide_eq_true hl, cond_true]
      obtain ⟨a, d1, e1, a1, a2, hd1⟩ := next_spec 1000 hd (n := (ps.length : Int)) (by omega) (by omega)
      rw [show ((d.1, d.2) : T_Dice) = d from rfl, e1, bind_some']
      obtain ⟨b, d2, e2, b1, b2, hd2⟩ := next_spec 1000 hd1 (n := (ps.length : Int)) (by omega) (by omega)
      simp only
      rw [e2, bind_some']
      obtain ⟨c, d3, e3, m3, hd3⟩ := of_spec 1000 hd2 [11, 59, 199] (by decide) (by decide)
      simp only
      rw [e3, bind_some']
      obtain ⟨g, d4, e4, m4, hd4⟩ := of_spec 1000 hd3 [9, 3] (by decide) (by decide)
      simp only
      rw [e4, bind_some']
      obtain ⟨w, d5, e5, w1, w2, hd5⟩ := next_spec 1000 hd4 (n := 5) (by omega) (by omega)
      simp only
      rw [e5, bind_some']
      obtain ⟨z, d6, e6, hd6⟩ := one_spec 1000 hd5 (n := 6) (by omega) (by omega)
      simp only
      rw [e6, bind_some']
      simp only
      simp only [List.mem_cons, List.not_mem_nil, or_false] at m3 m4
      rw [W_eq (n := ((k + 1 : Nat) : Int) - 1) (by omega) (by omega), show ((k + 1 : Nat) : Int) - 1 = (k : Int) by omega]
      by_cases hab : a = b
      · rw [show (a != b) = false by simp [hab], cond_false]
        exact mine3 n k d6 ps rs (by omega) (by omega) hd6 h1 h2 hp h3 hr
      · rw [show (a != b) = true by simp [hab], cond_true, fitsB_true (by omega), cond_true, W_eq (n := 1 + c) (by omega) (by omega), W_eq (n := 1 + g) (by omega) (by omega)]
        refine mine3 n k d6 ps _ (by omega) (by omega) hd6 h1 h2 hp (by rw [List.length_append, List.length_singleton]; omega) (mem_app hr ?_)
        exact ⟨⟨a1, a2⟩, ⟨b1, b2⟩, hab, ⟨by show 1 ≤ 1 + c; omega, by show 1 + c ≤ 200; omega⟩, ⟨by show 1 ≤ 1 + g; omega, by show 1 + g ≤ 20; omega⟩, rfl, rfl⟩
    · rw [decide_eq_false hl, cond_false]
      exact ⟨(ps, rs), d, rfl, ⟨h1, h2, h3, hp, hr⟩, hd⟩
theorem mine2 : ∀ (m n i : Nat) (d : T_Dice) (ps : List T_Place) (rs : List T_Road), m + i = ps.length → m < n → 1 ≤ i → rs.length + 1 = i → Dk d → 2 ≤ ps.length → ps.length ≤ 7 → (∀ x, x ∈ ps → Pk x) → (∀ x, x ∈ rs → Rk ps.length x) →
    ∃ m d', made_Dice_Mine_L2 1000 n ps.length i d.1 d.2 0 0 12 10 true false 1 1 0 0 ps rs = some (m, d') ∧ Mk m ∧ Dk d'
  | 0, n + 1, i, d, ps, rs, hm, hn, hi, hri, hd, h1, h2, hp, hr => by
    rw [made_Dice_Mine_L2_succ, decide_eq_false (by omega), cond_false]
    obtain ⟨a, d1, e1, a1, a2, hd1⟩ := next_spec 1000 hd (n := 4) (by omega) (by omega)
    rw [show ((d.1, d.2) : T_Dice) = d from rfl, e1, bind_some']
    obtain ⟨k, rfl⟩ := Int.eq_ofNat_of_zero_le a1
    exact mine3 1000 k d1 ps rs (by omega) (by omega) hd1 h1 h2 hp (by omega) hr
  | m + 1, n + 1, i, d, ps, rs, hm, hn, hi, hri, hd, h1, h2, hp, hr => by
    rw [made_Dice_Mine_L2_succ, decide_eq_true (by omega), cond_true]
    obtain ⟨a, d1, e1, a1, a2, hd1⟩ := next_spec 1000 hd (n := min (i : Int) 2) (by omega) (by omega)
    rw [show ((d.1, d.2) : T_Dice) = d from rfl, e1, bind_some']
    obtain ⟨c, d3, e3, m3, hd3⟩ := of_spec 1000 hd1 [11, 59, 119, 4] (by decide) (by decide)
    simp only
    rw [e3, bind_some']
    obtain ⟨g, d4, e4, m4, hd4⟩ := of_spec 1000 hd3 [9, 3, 19] (by decide) (by decide)
    simp only
    rw [e4, bind_some', fitsB_true (by omega), cond_true]
    simp only
    simp only [List.mem_cons, List.not_mem_nil, or_false] at m3 m4
    rw [W_eq (n := (i : Int) - 1) (by omega) (by omega), W_eq (n := (i : Int) - 1 - a) (by omega) (by omega), W_eq (n := 1 + c) (by omega) (by omega), W_eq (n := 1 + g) (by omega) (by omega), W_eq (n := (i : Int) + 1) (by omega) (by omega), show (i : Int) + 1 = ((i + 1 : Nat) : Int) by omega]
    refine mine2 m n (i + 1) d4 ps _ (by omega) (by omega) (by omega) (by rw [List.length_append, List.length_singleton]; omega) hd4 h1 h2 hp (mem_app hr ?_)
    exact ⟨⟨by show 0 ≤ (i : Int) - 1 - a; omega, by show (i : Int) - 1 - a < _; omega⟩, ⟨by show 0 ≤ (i : Int); omega, by show (i : Int) < _; omega⟩, by show (i : Int) - 1 - a ≠ i; omega, ⟨by show 1 ≤ 1 + c; omega, by show 1 + c ≤ 200; omega⟩, ⟨by show 1 ≤ 1 + g; omega, by show 1 + g ≤ 20; omega⟩, rfl, rfl⟩
theorem mine1 {q : Nat} (q1 : 2 ≤ q) (q2 : q ≤ 7) : ∀ (m n i : Nat) (d : T_Dice) (ps : List T_Place), m + i = q → m < n → ps.length = i → Dk d → (∀ x, x ∈ ps → Pk x) →
    ∃ m d', made_Dice_Mine_L1 1000 n q i d.1 d.2 ps = some (m, d') ∧ Mk m ∧ Dk d'
  | 0, n + 1, i, d, ps, hm, hn, hl, hd, hp => by
    rw [made_Dice_Mine_L1_succ, decide_eq_false (by omega), cond_false]
    have e : (q : Int) = (ps.length : Int) := by omega
    rw [e]
    exact mine2 (ps.length - 1) 1000 1 d ps [] (by omega) (by omega) (by omega) rfl hd (by omega) (by omega) hp (fun x hx => by cases hx)
  | m + 1, n + 1, i, d, ps, hm, hn, hl, hd, hp => by
    rw [made_Dice_Mine_L1_succ, decide_eq_true (by omega), cond_true]
    obtain ⟨a, d1, e1, a1, a2, hd1⟩ := next_spec 1000 hd (n := 4) (by omega) (by omega)
    rw [show ((d.1, d.2) : T_Dice) = d from rfl, e1, bind_some', W_eq (n := (i : Int) + 1) (by omega) (by omega), show (i : Int) + 1 = ((i + 1 : Nat) : Int) by omega]
    simp only
    rw [W_eq (n := -10 * a) (by omega) (by omega)]
    have hpk : ∀ b : Bool, Pk (-10 * a, b) := fun b => ⟨by show -30 ≤ -10 * a; omega, by show -10 * a ≤ 0; omega⟩
    by_cases h0 : (i : Int) = 0
    · rw [eq2 h0, cond_true, fitsB_true (by omega), cond_true]
      exact mine1 q1 q2 m n (i + 1) d1 _ (by omega) (by omega) (by rw [List.length_append, List.length_singleton]; omega) hd1 (mem_app hp (hpk _))
    · rw [ne2 h0, cond_false]
      obtain ⟨z, d6, e6, hd6⟩ := one_spec 1000 hd1 (n := 6) (by omega) (by omega)
      rw [e6, bind_some', fitsB_true (by omega), cond_true]
      exact mine1 q1 q2 m n (i + 1) d6 _ (by omega) (by omega) (by rw [List.length_append, List.length_singleton]; omega) hd6 (mem_app hp (hpk _))
theorem mine_spec {d : T_Dice} (hd : Dk d) : ∃ m d', made_Dice_Mine 1000 d = some (m, d') ∧ Mk m ∧ Dk d' := by
  unfold made_Dice_Mine
  obtain ⟨a, d1, e1, a1, a2, hd1⟩ := next_spec 1000 hd (n := 6) (by omega) (by omega)
  rw [e1, bind_some', W_eq (n := 2 + a) (by omega) (by omega), made_Dice_Mine_J1_eq, made_Dice_Mine_J1_eq]
  simp only
  obtain ⟨k, rfl⟩ := Int.eq_ofNat_of_zero_le a1
  by_cases h0 : (d1.1.length : Int) = 0
  · rw [eq2 h0, cond_true]
    exact mine1 (q := 4) (by omega) (by omega) 4 1000 0 d1 [] rfl (by omega) rfl hd1 (fun x hx => by cases hx)
  · rw [ne2 h0, cond_false, show 2 + (k : Int) = ((2 + k : Nat) : Int) by omega]
    exact mine1 (q := 2 + k) (by omega) (by omega) (2 + k) 1000 0 d1 [] rfl (by omega) rfl hd1 (fun x hx => by cases hx)

theorem some_loop {q : Nat} (hq : q ≤ 1000) : ∀ (m n i : Nat) (d : T_Dice) (l : List Int), m + i = q → m < n → l.length ≤ i → Dk d → (∀ x, x ∈ l → 0 ≤ x ∧ x < i) → (∀ k, k + 1 < l.length → l.getD k 0 < l.getD (k + 1) 0) →
    ∃ l' d', made_Dice_Some_L1 1000 n q i d.1 d.2 l = some (l', d') ∧ l'.length ≤ q ∧ (∀ x, x ∈ l' → 0 ≤ x ∧ x < q) ∧ (∀ k, k + 1 < l'.length → l'.getD k 0 < l'.getD (k + 1) 0) ∧ Dk d'
  | 0, n + 1, i, d, l, hm, hn, hl, hd, hx, ho => by
    rw [made_Dice_Some_L1_succ, decide_eq_false (by omega), cond_false]
    exact ⟨l, d, rfl, by omega, fun x h => by have := hx x h; omega, ho, hd⟩
  | m + 1, n + 1, i, d, l, hm, hn, hl, hd, hx, ho => by
    rw [made_Dice_Some_L1_succ, decide_eq_true (by omega), cond_true]
    obtain ⟨a, d1, e1, a1, a2, hd1⟩ := next_spec 1000 hd (n := 3) (by omega) (by omega)
    rw [show ((d.1, d.2) : T_Dice) = d from rfl, e1, bind_some', W_eq (n := (i : Int) + 1) (by omega) (by omega), show (i : Int) + 1 = ((i + 1 : Nat) : Int) by omega]
    simp only
    by_cases h0 : a = 0
    · rw [eq2 h0, cond_true, fitsB_true (by omega), cond_true]
      refine some_loop hq m n (i + 1) d1 _ (by omega) (by omega) (by rw [List.length_append, List.length_singleton]; omega) hd1 (fun x h => ?_) fun k hk => ?_
      · rcases List.mem_append.1 h with h | h
        · have := hx x h; omega
        · rw [List.mem_singleton.1 h]; omega
      · rw [List.length_append, List.length_singleton] at hk
        by_cases hk2 : k + 1 < l.length
        · have := ho k hk2
          simp only [List.getD_eq_getElem?_getD] at this ⊢
          rw [List.getElem?_append_left (by omega), List.getElem?_append_left hk2]; exact this
        · have hkl : k + 1 = l.length := by omega
          simp only [List.getD_eq_getElem?_getD]
          rw [List.getElem?_append_left (by omega), List.getElem?_append_right (by omega), hkl, Nat.sub_self]
          have hk3 : k < l.length := by omega
          rw [List.getElem?_eq_getElem hk3]
          have := hx _ (List.getElem_mem hk3)
          simp only [Option.getD_some, List.getElem?_cons_zero]; omega
    · rw [ne2 h0, cond_false]
      exact some_loop hq m n (i + 1) d1 l (by omega) (by omega) (by omega) hd1 (fun x h => by have := hx x h; omega) ho
theorem some_spec {d : T_Dice} (hd : Dk d) {q : Nat} (hq : q ≤ 900) : ∃ l d', made_Dice_Some 1000 d q = some (l, d') ∧ l.length ≤ q ∧ (∀ x, x ∈ l → 0 ≤ x ∧ x < q) ∧ (∀ k, k + 1 < l.length → l.getD k 0 < l.getD (k + 1) 0) ∧ Dk d' := by
  unfold made_Dice_Some
  exact some_loop (by omega) q 1000 0 d [] rfl (by omega) (Nat.le_refl _) hd (fun x hx => by cases hx) (fun k hk => by simp at hk)
end Go.Proofs.Ytiialoppbdcojaa
