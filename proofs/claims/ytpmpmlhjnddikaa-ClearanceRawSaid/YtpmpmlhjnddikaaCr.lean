/- Clearance: the reference's tests and sources are the program's. No condition of its own. -/
import Derived.Test.YtpmpmlhjnddikaaCw
set_option linter.all false
namespace Go.Proofs.Ytpmpmlhjnddikaa
open Go.Pv M

/-! ### Tests -/
theorem rcheck_road {m : T_Mine} (hm : Mk m) : ∀ (j n k : Nat), j + k = m.2.length → j < n → ref01_Check_L2 1000 n k m.1 m.2 = some 0
  | 0, n + 1, k, hk, hn => by rw [ref01_Check_L2_succ, decide_eq_false (by omega), cond_false]
  | j + 1, n + 1, k, hk, hn => by
    have hr := hm.r _ (getD_mem D_Road (show k < m.2.length by omega))
    have ih := rcheck_road hm j n (k + 1) (by omega) (by omega)
    have h10 := hm.r2
    rw [ref01_Check_L2_succ, decide_eq_true (by omega), cond_true, inB_true (by omega), cond_true, Int.toNat_natCast]
    generalize m.2.getD k D_Road = r at hr ⊢
    obtain ⟨⟨a1, a2⟩, ⟨b1, b2⟩, c, ⟨d1, d2⟩, ⟨e1, e2⟩, f1, f2⟩ := hr
    simp only
    rw [decide_eq_false (by omega), cond_false, decide_eq_false (by omega), cond_false, decide_eq_false (by omega), cond_false, decide_eq_false (by omega), cond_false, ne2 c, cond_false, ref01_Check_J2_eq, decide_eq_false (by omega), cond_false, decide_eq_false (by omega), cond_false, decide_eq_false (by omega), cond_false, decide_eq_false (by omega), cond_false, f1, f2]
    show ref01_Check_L2 1000 n (W ((k : Int) + 1)) m.1 m.2 = some 0
    rw [W_eq (n := (k : Int) + 1) (by omega) (by omega), show (k : Int) + 1 = ((k + 1 : Nat) : Int) by omega]
    exact ih
theorem rcheck_place {m : T_Mine} (hm : Mk m) : ∀ (j n k : Nat), j + k = m.1.length → j < n → ref01_Check_L1 1000 n k m.1 m.2 = some 0
  | 0, n + 1, k, hk, hn => by
    rw [ref01_Check_L1_succ, decide_eq_false (by omega), cond_false]
    exact rcheck_road hm m.2.length 1000 0 rfl (by have := hm.r2; omega)
  | j + 1, n + 1, k, hk, hn => by
    obtain ⟨p1, p2⟩ := hm.p _ (getD_mem D_Place (show k < m.1.length by omega))
    have ih := rcheck_place hm j n (k + 1) (by omega) (by omega)
    have h7 := hm.n2
    rw [ref01_Check_L1_succ, decide_eq_true (by omega), cond_true, inB_true (by omega), cond_true, Int.toNat_natCast, decide_eq_false (by omega), cond_false, decide_eq_false (by omega), cond_false, W_eq (n := (k : Int) + 1) (by omega) (by omega), show (k : Int) + 1 = ((k + 1 : Nat) : Int) by omega]
    exact ih
theorem rcheck {m : T_Mine} (hm : Mk m) : ref01_Check 1000 m = some 0 := by
  have h7 := hm.n2
  have h10 := hm.r2
  unfold ref01_Check
  rw [decide_eq_false (by omega), cond_false, decide_eq_false (by omega), cond_false, ref01_Check_J1_eq]
  exact rcheck_place hm m.1.length 1000 0 rfl (by omega)
theorem fume_any {l : List Int} (hl : l.length ≤ 900) : ∀ (j n k : Nat), j + k = l.length → j < n → (∀ i, i < k → Hk (l.getD i 0)) → ∃ r : Int, slices_IndexFunc_int_int_S1_L1 1000 n l l.length k = some (r, ()) ∧ (r ≥ 0 ↔ ¬ ∀ h, h ∈ l → Hk h)
  | 0, n + 1, k, hk, hn, hg => by
    rw [slices_IndexFunc_int_int_S1_L1_succ, decide_eq_false (by omega), cond_false]
    refine ⟨-1, rfl, fun h => by omega, fun h => absurd (fun x hx => ?_) h⟩
    obtain ⟨i, hi, e⟩ := List.mem_iff_getElem.1 hx
    have := hg i (by omega)
    rw [List.getD_eq_getElem?_getD, List.getElem?_eq_getElem hi, Option.getD_some, e] at this
    exact this
  | j + 1, n + 1, k, hk, hn, hg => by
    have hmem := getD_mem 0 (show k < l.length by omega)
    rw [slices_IndexFunc_int_int_S1_L1_succ, decide_eq_true (by omega), cond_true, inB_true (by omega), cond_true, Int.toNat_natCast]
    unfold clearance_Valid_1
    rw [in_eq, bind_some', bind_some']
    by_cases h : Hk (l.getD k 0)
    · rw [decide_eq_true h.1, decide_eq_true h.2]
      simp only [Bool.and_self, Bool.not_true, cond_false]
      rw [W_eq (n := (k : Int) + 1) (by omega) (by omega), show (k : Int) + 1 = ((k + 1 : Nat) : Int) by omega]
      refine fume_any hl j n (k + 1) (by omega) (by omega) fun i hi => ?_
      by_cases e : i = k
      · subst e; exact h
      · exact hg i (by omega)
    · have : (decide (0 ≤ l.getD k 0) && decide (l.getD k 0 ≤ 1000000)) = false := by
        rw [Bool.and_eq_false_iff]; simp only [decide_eq_false_iff_not]
        unfold Hk at h; omega
      rw [this]
      simp only [Bool.not_false, cond_true]
      exact ⟨k, rfl, fun _ hh => h (hh _ hmem), fun _ => by omega⟩
def Vd (m : T_Mine) (f : T_Fumes) : Prop := (0 ≤ f.1 ∧ f.1 ≤ 2147483648) ∧ Hr m f.2
theorem valid_eq {m : T_Mine} (hm : Mk m) {f : T_Fumes} (hf : f.2.length ≤ 900) : ∃ v, clearance_Valid 1000 m f = some v ∧ (v = true ↔ Vd m f) := by
  unfold clearance_Valid slices_ContainsFunc_int_int_S1 slices_IndexFunc_int_int_S1
  obtain ⟨r, e, h⟩ := fume_any hf f.2.length 1000 0 rfl (by omega) (fun i hi => by omega)
  rw [show ((0 : Nat) : Int) = 0 from rfl] at e
  rw [plan_valid hm, bind_some', cond_true]
  by_cases h1 : (f.2.length : Int) = (m.2.length : Int)
  · rw [eq2 h1, cond_true, in_eq, bind_some']
    by_cases h2 : 0 ≤ f.1 ∧ f.1 ≤ 2147483648
    · rw [decide_eq_true h2.1, decide_eq_true h2.2, e]
      refine ⟨!decide (r ≥ 0), rfl, ?_⟩
      rw [Bool.not_eq_true', decide_eq_false_iff_not, h]
      exact ⟨fun hh => ⟨h2, by omega, Classical.not_not.1 hh⟩, fun hh => Classical.not_not.2 hh.2.2⟩
    · have : (decide (0 ≤ f.1) && decide (f.1 ≤ 2147483648)) = false := by
        rw [Bool.and_eq_false_iff]; simp only [decide_eq_false_iff_not]; omega
      rw [this]
      exact ⟨false, rfl, fun hh => (by cases hh), fun hh => absurd hh.1 h2⟩
  · rw [ne2 h1]
    exact ⟨false, rfl, fun hh => (by cases hh), fun hh => absurd (by have := hh.2.1; omega) h1⟩
theorem rvalid_loop {m : T_Mine} (hm : Mk m) {t : Int} {l : List Int} (hl : l.length ≤ 900) : ∀ (j n k : Nat), j + k = l.length → j < n → (∀ i, i < k → Hk (l.getD i 0)) → ∃ v, ref35_Valid_L1 1000 n k m.1 m.2 t l = some v ∧ (v = true ↔ Vd m (t, l))
  | 0, n + 1, k, hk, hn, hg => by
    have all : ∀ h, h ∈ l → Hk h := fun x hx => by
      obtain ⟨i, hi, e⟩ := List.mem_iff_getElem.1 hx
      have := hg i (by omega)
      rw [List.getD_eq_getElem?_getD, List.getElem?_eq_getElem hi, Option.getD_some, e] at this
      exact this
    rw [ref35_Valid_L1_succ, decide_eq_false (by omega), cond_false, show ((m.1, m.2) : T_Mine) = m from rfl, rcheck hm, bind_some', show ((0 : Int) == 0) = true from rfl, cond_true]
    by_cases h1 : (l.length : Int) = (m.2.length : Int)
    · rw [eq2 h1, cond_true, bifs]
      refine ⟨_, rfl, ?_⟩
      rw [Bool.and_eq_true, decide_eq_true_iff, decide_eq_true_iff]
      exact ⟨fun ⟨a, b⟩ => ⟨⟨a, b⟩, by show l.length = m.2.length; omega, all⟩, fun hh => ⟨hh.1.1, hh.1.2⟩⟩
    · rw [ne2 h1]
      exact ⟨false, rfl, fun hh => (by cases hh), fun hh => absurd (by have : l.length = m.2.length := hh.2.1; omega) h1⟩
  | j + 1, n + 1, k, hk, hn, hg => by
    have hmem := getD_mem 0 (show k < l.length by omega)
    rw [ref35_Valid_L1_succ, decide_eq_true (by omega), cond_true, inB_true (by omega), cond_true, cond_true, Int.toNat_natCast]
    by_cases c1 : l.getD k 0 < 0
    · rw [decide_eq_true c1]
      exact ⟨false, rfl, fun hh => (by cases hh), fun hh => by have := (hh.2.2 _ hmem).1; omega⟩
    rw [decide_eq_false c1, cond_false]
    by_cases c2 : l.getD k 0 > 1000000
    · rw [decide_eq_true c2]
      exact ⟨false, rfl, fun hh => (by cases hh), fun hh => by have := (hh.2.2 _ hmem).2; omega⟩
    rw [decide_eq_false c2, cond_false, W_eq (n := (k : Int) + 1) (by omega) (by omega), show (k : Int) + 1 = ((k + 1 : Nat) : Int) by omega]
    refine rvalid_loop hm hl j n (k + 1) (by omega) (by omega) fun i hi => ?_
    by_cases e : i = k
    · subst e; exact ⟨by omega, by omega⟩
    · exact hg i (by omega)
theorem valid_both {m : T_Mine} (hm : Mk m) {f : T_Fumes} (hf : f.2.length ≤ 900) : ∃ v, clearance_Valid 1000 m f = some v ∧ ref35_Valid 1000 m f = some v ∧ (v = true ↔ Vd m f) := by
  obtain ⟨v, e, h⟩ := valid_eq hm hf
  obtain ⟨w, e2, h2⟩ := rvalid_loop hm (t := f.1) hf f.2.length 1000 0 rfl (by omega) (fun i hi => by omega)
  have : w = v := by rw [Bool.eq_iff_iff, h, h2]
  subst this
  exact ⟨w, e, e2, h⟩
theorem span_any {l : List T_Span} (hl : l.length ≤ 900) : ∀ (j n k : Nat), j + k = l.length → j < n → (∀ i, i < k → Sk (l.getD i D_Span)) → ∃ r : Int, slices_IndexFunc_api_Span_api_Span_S1_L1 1000 n l l.length k = some (r, ()) ∧ (r ≥ 0 ↔ ¬ ∀ h, h ∈ l → Sk h)
  | 0, n + 1, k, hk, hn, hg => by
    rw [slices_IndexFunc_api_Span_api_Span_S1_L1_succ, decide_eq_false (by omega), cond_false]
    refine ⟨-1, rfl, fun h => by omega, fun h => absurd (fun x hx => ?_) h⟩
    obtain ⟨i, hi, e⟩ := List.mem_iff_getElem.1 hx
    have := hg i (by omega)
    rw [List.getD_eq_getElem?_getD, List.getElem?_eq_getElem hi, Option.getD_some, e] at this
    exact this
  | j + 1, n + 1, k, hk, hn, hg => by
    have hmem := getD_mem D_Span (show k < l.length by omega)
    rw [slices_IndexFunc_api_Span_api_Span_S1_L1_succ, decide_eq_true (by omega), cond_true, inB_true (by omega), cond_true, Int.toNat_natCast]
    have bad : ¬ Sk (l.getD k D_Span) → ∃ r : Int, (some ((k : Int), ()) : Option (Int × Unit)) = some (r, ()) ∧ (r ≥ 0 ↔ ¬ ∀ h, h ∈ l → Sk h) := fun h => ⟨k, rfl, fun _ hh => h (hh _ hmem), fun _ => by omega⟩
    unfold clearance_given_1
    by_cases c1 : (l.getD k D_Span).1 < -1125899906842624
    · rw [decide_eq_true c1, cond_true, bind_some', cond_true]; exact bad fun h => by have := h.1; omega
    rw [decide_eq_false c1, cond_false]
    by_cases c2 : (l.getD k D_Span).2 > 1125899906842624
    · rw [decide_eq_true c2, cond_true, bind_some', cond_true]; exact bad fun h => by have := h.2.2; omega
    rw [decide_eq_false c2, cond_false, bind_some']
    by_cases c3 : (l.getD k D_Span).1 > (l.getD k D_Span).2
    · rw [decide_eq_true c3, cond_true]; exact bad fun h => by have := h.2.1; omega
    rw [decide_eq_false c3, cond_false, W_eq (n := (k : Int) + 1) (by omega) (by omega), show (k : Int) + 1 = ((k + 1 : Nat) : Int) by omega]
    refine span_any hl j n (k + 1) (by omega) (by omega) fun i hi => ?_
    by_cases e : i = k
    · subst e; exact ⟨by omega, by omega, by omega⟩
    · exact hg i (by omega)
def Fl (m : T_Mine) (x : List T_Span) : Prop := x.length = m.2.length ∧ ∀ s, s ∈ x → Sk s
theorem given_eq {m : T_Mine} (hm : Mk m) {x : List T_Span} (hx : x.length ≤ 900) {f : T_Fumes} (hf : f.2.length ≤ 900) : ∃ g, clearance_given 1000 m x f = some g ∧ (g = true ↔ Vd m f ∧ Fl m x) := by
  unfold clearance_given slices_ContainsFunc_api_Span_api_Span_S1 slices_IndexFunc_api_Span_api_Span_S1
  obtain ⟨v, e, h⟩ := valid_eq hm hf
  obtain ⟨r, e2, h2⟩ := span_any hx x.length 1000 0 rfl (by omega) (fun i hi => by omega)
  rw [show ((0 : Nat) : Int) = 0 from rfl] at e2
  rw [e, bind_some', e2]
  cases v with
  | false => exact ⟨false, rfl, fun hh => (by cases hh), fun hh => by have := h.2 hh.1; cases this⟩
  | true =>
    rw [cond_true]
    by_cases h1 : (x.length : Int) = (m.2.length : Int)
    · rw [eq2 h1, cond_true]
      refine ⟨!decide (r ≥ 0), rfl, ?_⟩
      rw [Bool.not_eq_true', decide_eq_false_iff_not, h2]
      exact ⟨fun hh => ⟨h.1 rfl, by omega, Classical.not_not.1 hh⟩, fun hh => Classical.not_not.2 hh.2.2⟩
    · rw [ne2 h1]
      exact ⟨false, rfl, fun hh => (by cases hh), fun hh => absurd (by have := hh.2.1; omega) h1⟩
theorem rflows_loop (m : T_Mine) {x : List T_Span} (hx : x.length ≤ 900) : ∀ (j n k : Nat), j + k = x.length → j < n → (∀ i, i < k → Sk (x.getD i D_Span)) → ∃ w, ref28_Flows_L1 1000 n x k m.1 m.2 = some w ∧ (w = true ↔ Fl m x)
  | 0, n + 1, k, hk, hn, hg => by
    rw [ref28_Flows_L1_succ, decide_eq_false (by omega), cond_false]
    refine ⟨_, rfl, ?_⟩
    rw [beq_iff_eq]
    refine ⟨fun h => ⟨by omega, fun s hs => ?_⟩, fun h => by have := h.1; omega⟩
    obtain ⟨i, hi, e⟩ := List.mem_iff_getElem.1 hs
    have := hg i (by omega)
    rw [List.getD_eq_getElem?_getD, List.getElem?_eq_getElem hi, Option.getD_some, e] at this
    exact this
  | j + 1, n + 1, k, hk, hn, hg => by
    have hmem := getD_mem D_Span (show k < x.length by omega)
    rw [ref28_Flows_L1_succ, decide_eq_true (by omega), cond_true, inB_true (by omega), cond_true, Int.toNat_natCast]
    unfold ref28_Span
    simp only [bifs]
    rw [bind_some']
    by_cases h : Sk (x.getD k D_Span)
    · obtain ⟨a, b, c⟩ := h
      have e : (decide ((x.getD k D_Span).1 ≥ -1125899906842624) && (decide ((x.getD k D_Span).2 ≤ 1125899906842624) && decide ((x.getD k D_Span).1 ≤ (x.getD k D_Span).2))) = true := by
        simp only [Bool.and_eq_true, decide_eq_true_eq]; omega
      rw [e, Bool.not_true, cond_false, W_eq (n := (k : Int) + 1) (by omega) (by omega), show (k : Int) + 1 = ((k + 1 : Nat) : Int) by omega]
      refine rflows_loop m hx j n (k + 1) (by omega) (by omega) fun i hi => ?_
      by_cases e : i = k
      · subst e; exact ⟨a, b, c⟩
      · exact hg i (by omega)
    · have e : (decide ((x.getD k D_Span).1 ≥ -1125899906842624) && (decide ((x.getD k D_Span).2 ≤ 1125899906842624) && decide ((x.getD k D_Span).1 ≤ (x.getD k D_Span).2))) = false := by
        rw [Bool.eq_false_iff]
        intro hh
        simp only [Bool.and_eq_true, decide_eq_true_eq] at hh
        exact h ⟨by omega, by omega, by omega⟩
      rw [e, Bool.not_false, cond_true]
      exact ⟨false, rfl, fun hh => (by cases hh), fun hh => absurd (hh.2 _ hmem) h⟩
theorem rflows_eq (m : T_Mine) {x : List T_Span} (hx : x.length ≤ 900) : ∃ w, ref28_Flows 1000 m x = some w ∧ (w = true ↔ Fl m x) := by
  unfold ref28_Flows
  exact rflows_loop m hx x.length 1000 0 rfl (by omega) (fun i hi => by omega)

/-! ### Rising lists -/
def rsAt (n : Nat) (l : List Int) (k : Nat) : Prop := Ri n (l.getD k 0) ∧ (0 < k → l.getD (k - 1) 0 < l.getD k 0)
theorem ris_loop (q : Nat) (l : List Int) (hl : l.length ≤ 900) : ∀ (m n k : Nat), m + k = l.length → m < n → (∀ j, j < k → rsAt q l j) → ∃ b, lists_Rising_L1 1000 n l 0 ((q : Int) - 1) l l.length k = some b ∧ (b = true ↔ ∀ j, j < l.length → rsAt q l j)
  | 0, n + 1, k, hk, hn, hg => by
    rw [lists_Rising_L1_succ, decide_eq_false (by omega), cond_false]
    exact ⟨true, rfl, fun _ j hj => hg j (by omega), fun _ => rfl⟩
  | m + 1, n + 1, k, hk, hn, hg => by
    rw [lists_Rising_L1_succ, decide_eq_true (by omega), cond_true, inB_true (by omega), cond_true, Int.toNat_natCast]
    have fail : ¬ rsAt q l k → ∃ b, (some false : Option Bool) = some b ∧ (b = true ↔ ∀ j, j < l.length → rsAt q l j) := fun h => ⟨false, rfl, fun e => (by cases e), fun hh => absurd (hh k (by omega)) h⟩
    by_cases c1 : l.getD k 0 < 0
    · rw [decide_eq_true c1]; exact fail fun h => by have := h.1.1; omega
    rw [decide_eq_false c1, cond_false]
    by_cases c2 : l.getD k 0 > (q : Int) - 1
    · rw [decide_eq_true c2]; exact fail fun h => by have := h.1.2; omega
    rw [decide_eq_false c2, cond_false, W_eq (n := (k : Int) + 1) (by omega) (by omega), show (k : Int) + 1 = ((k + 1 : Nat) : Int) by omega]
    have step : rsAt q l k → ∀ j, j < k + 1 → rsAt q l j := fun h j hj => by
      by_cases e : j = k
      · subst e; exact h
      · exact hg j (by omega)
    by_cases c3 : (k : Int) > 0
    · rw [decide_eq_true c3, cond_true, W_eq (n := (k : Int) - 1) (by omega) (by omega), inB_true (by omega), cond_true, show ((k : Int) - 1).toNat = k - 1 by omega]
      by_cases c4 : l.getD k 0 ≤ l.getD (k - 1) 0
      · rw [decide_eq_true c4]; exact fail fun h => by have := h.2 (by omega); omega
      rw [decide_eq_false c4, cond_false]
      exact ris_loop q l hl m n (k + 1) (by omega) (by omega) (step ⟨⟨by omega, by omega⟩, fun _ => by omega⟩)
    · rw [decide_eq_false c3, cond_false]
      exact ris_loop q l hl m n (k + 1) (by omega) (by omega) (step ⟨⟨by omega, by omega⟩, fun h => by omega⟩)
theorem set_loop (q : Nat) (l : List Int) (hl : l.length ≤ 900) : ∀ (m n k : Nat), m + k = l.length → m < n → (∀ j, j < k → rsAt q l j) → ∃ b, ref23_Set_L1 1000 n l q k = some b ∧ (b = true ↔ ∀ j, j < l.length → rsAt q l j)
  | 0, n + 1, k, hk, hn, hg => by
    rw [ref23_Set_L1_succ, decide_eq_false (show ¬ (k : Int) < (l.length : Int) by omega), cond_false]
    exact ⟨true, rfl, fun _ j hj => hg j (by omega), fun _ => rfl⟩
  | m + 1, n + 1, k, hk, hn, hg => by
    rw [ref23_Set_L1_succ, decide_eq_true (show (k : Int) < (l.length : Int) by omega), cond_true, inB_true (by omega), cond_true, cond_true, cond_true, Int.toNat_natCast]
    have fail : ¬ rsAt q l k → ∃ b, (some false : Option Bool) = some b ∧ (b = true ↔ ∀ j, j < l.length → rsAt q l j) := fun h => ⟨false, rfl, fun e => (by cases e), fun hh => absurd (hh k (by omega)) h⟩
    by_cases c1 : l.getD k 0 < 0
    · rw [decide_eq_true c1]; exact fail fun h => by have := h.1.1; omega
    rw [decide_eq_false c1, cond_false]
    by_cases c2 : l.getD k 0 ≥ (q : Int)
    · rw [decide_eq_true c2]; exact fail fun h => by have := h.1.2; omega
    rw [decide_eq_false c2, cond_false, W_eq (n := (k : Int) + 1) (by omega) (by omega), show (k : Int) + 1 = ((k + 1 : Nat) : Int) by omega]
    have step : rsAt q l k → ∀ j, j < k + 1 → rsAt q l j := fun h j hj => by
      by_cases e : j = k
      · subst e; exact h
      · exact hg j (by omega)
    by_cases c3 : (k : Int) > 0
    · rw [decide_eq_true c3, cond_true, W_eq (n := (k : Int) - 1) (by omega) (by omega), inB_true (by omega), cond_true, show ((k : Int) - 1).toNat = k - 1 by omega]
      by_cases c4 : l.getD k 0 ≤ l.getD (k - 1) 0
      · rw [decide_eq_true c4]; exact fail fun h => by have := h.2 (by omega); omega
      rw [decide_eq_false c4, cond_false]
      exact set_loop q l hl m n (k + 1) (by omega) (by omega) (step ⟨⟨by omega, by omega⟩, fun _ => by omega⟩)
    · rw [decide_eq_false c3, cond_false]
      exact set_loop q l hl m n (k + 1) (by omega) (by omega) (step ⟨⟨by omega, by omega⟩, fun h => by omega⟩)
theorem rising_both (q : Nat) (hq : q ≤ 1000) (l : List Int) (hl : l.length ≤ 900) : ∃ b, lists_Rising 1000 l 0 (W ((q : Int) - 1)) = some b ∧ ref23_Set 1000 l q = some b ∧ (b = true → ∀ a, a ∈ l → Ri q a) := by
  rw [W_eq (n := (q : Int) - 1) (by omega) (by omega)]
  unfold lists_Rising ref23_Set
  obtain ⟨b, e, h⟩ := ris_loop q l hl l.length 1000 0 rfl (by omega) (fun i hi => by omega)
  obtain ⟨c, e2, h2⟩ := set_loop q l hl l.length 1000 0 rfl (by omega) (fun i hi => by omega)
  have : c = b := by rw [Bool.eq_iff_iff, h, h2]
  subst this
  refine ⟨c, e, e2, fun hc a ha => ?_⟩
  obtain ⟨i, hi, e3⟩ := List.mem_iff_getElem.1 ha
  have := (h.1 hc i hi).1
  rw [List.getD_eq_getElem?_getD, List.getElem?_eq_getElem hi, Option.getD_some, e3] at this
  exact this
end Go.Proofs.Ytpmpmlhjnddikaa
