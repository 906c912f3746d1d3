/- Sightings: which readers are right; the law of any reports. No condition of its own. -/
import Derived.Test.YtiialoppbdcojaaSg
set_option linter.all false
namespace Go.Proofs.Ytiialoppbdcojaa
open Go.Pv M

theorem getD_mem {α : Type} {l : List α} {k : Nat} (d : α) (h : k < l.length) : l.getD k d ∈ l := by
  rw [List.getD_eq_getElem?_getD, List.getElem?_eq_getElem h]; exact List.getElem_mem _
/-! ### Mines -/
theorem road_both {ps : List T_Place} {rs : List T_Road} (hp : ps.length ≤ 900) (hr : rs.length ≤ 900) : ∀ (j n k : Nat), j + k = rs.length → j < n → ∃ v, plan_Check_L2 1000 n ps.length rs rs.length k = some v ∧ ref01_Check_L2 1000 n k ps rs = some v
  | 0, n + 1, k, hk, hn => by
    rw [plan_Check_L2_succ, ref01_Check_L2_succ, decide_eq_false (by omega), cond_false, cond_false]
    exact ⟨0, rfl, rfl⟩
  | j + 1, n + 1, k, hk, hn => by
    have ih := road_both hp hr j n (k + 1) (by omega) (by omega)
    rw [plan_Check_L2_succ, ref01_Check_L2_succ, decide_eq_true (show (k : Int) < (rs.length : Int) by omega), cond_true, cond_true, inB_true (by omega), cond_true, cond_true, Int.toNat_natCast]
    generalize rs.getD k D_Road = r
    obtain ⟨a, b, c, d, e, f, ⟨s1, s2⟩, ⟨t1, t2⟩⟩ := r
    simp only
    have fail : ∀ z : Int, ∃ v, (some z : Option Int) = some v ∧ (some z : Option Int) = some v := fun z => ⟨z, rfl, rfl⟩
    by_cases c1 : a < 0
    · rw [decide_eq_true c1]; exact fail 4
    rw [decide_eq_false c1, cond_false, cond_false]
    by_cases c2 : a ≥ (ps.length : Int)
    · rw [decide_eq_true c2]; exact fail 4
    rw [decide_eq_false c2, cond_false, cond_false]
    by_cases c3 : b < 0
    · rw [decide_eq_true c3]; exact fail 4
    rw [decide_eq_false c3, cond_false, cond_false]
    by_cases c4 : b ≥ (ps.length : Int)
    · rw [decide_eq_true c4]; exact fail 4
    rw [decide_eq_false c4, cond_false, cond_false]
    by_cases c5 : a = b
    · rw [eq2 c5]; exact fail 4
    rw [ne2 c5, cond_false, cond_false, plan_Check_J2_eq, ref01_Check_J2_eq]
    by_cases d1 : c < 1
    · rw [decide_eq_true d1]; exact fail 1
    rw [decide_eq_false d1, cond_false, cond_false]
    by_cases d2 : c > 100000
    · rw [decide_eq_true d2]; exact fail 1
    rw [decide_eq_false d2, cond_false, cond_false]
    by_cases d3 : d < 1
    · rw [decide_eq_true d3]; exact fail 1
    rw [decide_eq_false d3, cond_false, cond_false]
    by_cases d4 : d > 1000
    · rw [decide_eq_true d4]; exact fail 1
    rw [decide_eq_false d4, cond_false, cond_false]
    unfold plan_spanIn ref01_Span
    simp only [bifs, bind_some']
    cases (decide (1 ≤ s1) && (decide (s1 ≤ s2) && decide (s2 ≤ 262144))) with
    | false => exact fail 1
    | true =>
      simp only [Bool.not_true, cond_false]
      cases (decide (-2199023255552 ≤ t1) && (decide (t1 ≤ t2) && decide (t2 ≤ 2199023255552))) with
      | false => exact fail 1
      | true =>
        simp only [Bool.not_true, cond_false]
        rw [W_eq (n := (k : Int) + 1) (by omega) (by omega), show (k : Int) + 1 = ((k + 1 : Nat) : Int) by omega]
        exact ih
theorem place_both {ps : List T_Place} {rs : List T_Road} (hp : ps.length ≤ 900) (hr : rs.length ≤ 900) : ∀ (j n k : Nat), j + k = ps.length → j < n → ∃ v, plan_Check_L1 1000 n ps ps.length k ps rs = some v ∧ ref01_Check_L1 1000 n k ps rs = some v
  | 0, n + 1, k, hk, hn => by
    rw [plan_Check_L1_succ, ref01_Check_L1_succ, decide_eq_false (by omega), cond_false, cond_false]
    exact road_both hp hr rs.length 1000 0 rfl (by omega)
  | j + 1, n + 1, k, hk, hn => by
    have ih := place_both hp hr j n (k + 1) (by omega) (by omega)
    rw [plan_Check_L1_succ, ref01_Check_L1_succ, decide_eq_true (show (k : Int) < (ps.length : Int) by omega), cond_true, cond_true, inB_true (by omega), cond_true, cond_true, Int.toNat_natCast]
    by_cases c1 : (ps.getD k D_Place).1 < -10000
    · rw [decide_eq_true c1]; exact ⟨1, rfl, rfl⟩
    rw [decide_eq_false c1, cond_false, cond_false]
    by_cases c2 : (ps.getD k D_Place).1 > 10000
    · rw [decide_eq_true c2]; exact ⟨1, rfl, rfl⟩
    rw [decide_eq_false c2, cond_false, cond_false, W_eq (n := (k : Int) + 1) (by omega) (by omega), show (k : Int) + 1 = ((k + 1 : Nat) : Int) by omega]
    exact ih
theorem check_both {m : T_Mine} (hp : m.1.length ≤ 900) (hr : m.2.length ≤ 900) : ∃ v, plan_Check 1000 m = some v ∧ ref01_Check 1000 m = some v := by
  unfold plan_Check ref01_Check
  by_cases c1 : (m.1.length : Int) > 64
  · rw [decide_eq_true c1]; exact ⟨2, rfl, rfl⟩
  rw [decide_eq_false c1, cond_false, cond_false]
  by_cases c2 : (m.2.length : Int) > 128
  · rw [decide_eq_true c2]; exact ⟨2, rfl, rfl⟩
  rw [decide_eq_false c2, cond_false, cond_false, plan_Check_J1_eq, ref01_Check_J1_eq]
  exact place_both hp hr m.1.length 1000 0 rfl (by omega)

/-! ### Readers -/
theorem set_loop (q : Nat) (l : List Int) (hl : l.length ≤ 900) : ∀ (m n k : Nat), m + k = l.length → m < n → (∀ j, j < k → rsAt 0 ((q : Int) - 1) l j) → ∃ b, ref23_Set_L1 1000 n l q k = some b ∧ (b = true ↔ rsP 0 ((q : Int) - 1) l)
  | 0, n + 1, k, hk, hn, hg => by
    rw [ref23_Set_L1_succ, decide_eq_false (show ¬ (k : Int) < (l.length : Int) by omega), cond_false]
    exact ⟨true, rfl, fun _ j hj => hg j (by omega), fun _ => rfl⟩
  | m + 1, n + 1, k, hk, hn, hg => by
    rw [ref23_Set_L1_succ, decide_eq_true (show (k : Int) < (l.length : Int) by omega), cond_true, inB_true (by omega), cond_true, cond_true, cond_true, Int.toNat_natCast]
    have fail : ¬ rsAt 0 ((q : Int) - 1) l k → ∃ b, (some false : Option Bool) = some b ∧ (b = true ↔ rsP 0 ((q : Int) - 1) l) := fun h => ⟨false, rfl, fun e => (by cases e), fun hh => absurd (hh k (by omega)) h⟩
    by_cases c1 : l.getD k 0 < 0
    · rw [decide_eq_true c1]; exact fail fun h => by have := h.1; omega
    rw [decide_eq_false c1, cond_false]
    by_cases c2 : l.getD k 0 ≥ (q : Int)
    · rw [decide_eq_true c2]; exact fail fun h => by have := h.2.1; omega
    rw [decide_eq_false c2, cond_false, W_eq (n := (k : Int) + 1) (by omega) (by omega), show (k : Int) + 1 = ((k + 1 : Nat) : Int) by omega]
    have step : rsAt 0 ((q : Int) - 1) l k → ∀ j, j < k + 1 → rsAt 0 ((q : Int) - 1) l j := fun h j hj => by
      by_cases e : j = k
      · subst e; exact h
      · exact hg j (by omega)
    by_cases c3 : (k : Int) > 0
    · rw [decide_eq_true c3, cond_true, W_eq (n := (k : Int) - 1) (by omega) (by omega), inB_true (by omega), cond_true, show ((k : Int) - 1).toNat = k - 1 by omega]
      by_cases c4 : l.getD k 0 ≤ l.getD (k - 1) 0
      · rw [decide_eq_true c4]; exact fail fun h => by have := h.2.2 (by omega); omega
      rw [decide_eq_false c4, cond_false]
      exact set_loop q l hl m n (k + 1) (by omega) (by omega) (step ⟨by omega, by omega, fun _ => by omega⟩)
    · rw [decide_eq_false c3, cond_false]
      exact set_loop q l hl m n (k + 1) (by omega) (by omega) (step ⟨by omega, by omega, fun h => by omega⟩)
/-- A right reader of a mine with `q` places. -/
def Ro (q : Nat) (x : T_TagReader) : Prop := x.1.length ≠ 0 ∧ rsP 0 ((q : Int) - 1) x.1 ∧ (1 ≤ x.2.1 ∧ x.2.1 ≤ 600) ∧ (0 ≤ x.2.2.1 ∧ x.2.2.1 ≤ 10) ∧ (0 ≤ x.2.2.2 ∧ x.2.2.2 ≤ 60)
theorem in_t {a b c : Int} (h : b ≤ a ∧ a ≤ c) : (decide (b ≤ a) && decide (a ≤ c)) = true := by simp [h.1, h.2]
theorem in_f {a b c : Int} (h : ¬ (b ≤ a ∧ a ≤ c)) : (decide (b ≤ a) && decide (a ≤ c)) = false := by
  rw [Bool.and_eq_false_iff]; simp only [decide_eq_false_iff_not]; omega
theorem one_reader {m : T_Mine} (hm : m.1.length ≤ 900) (x : T_TagReader) (hx : x.1.length ≤ 900) : ∃ b, sightings_Valid_1 1000 x m = some (b, m) ∧ (b = true ↔ ¬ Ro m.1.length x) := by
  have bad : ¬ Ro m.1.length x → ∃ b, (some (true, m) : Option (Bool × T_Mine)) = some (b, m) ∧ (b = true ↔ ¬ Ro m.1.length x) := fun h => ⟨true, rfl, fun _ => h, fun _ => rfl⟩
  unfold sightings_Valid_1
  by_cases c1 : (x.1.length : Int) = 0
  · rw [eq2 c1]; exact bad fun h => h.1 (by omega)
  rw [ne2 c1, cond_false, W_eq (n := (m.1.length : Int) - 1) (by omega) (by omega)]
  obtain ⟨b, e, h⟩ := rising_eq 0 ((m.1.length : Int) - 1) x.1 hx
  rw [e, bind_some']
  cases b with
  | false => exact bad fun hh => by have := h.2 hh.2.1; cases this
  | true =>
    have hr := h.1 rfl
    simp only [Bool.not_true, cond_false, in_eq, bind_some']
    by_cases c2 : 1 ≤ x.2.1 ∧ x.2.1 ≤ 600
    · rw [in_t c2]
      simp only [Bool.not_true, cond_false]
      by_cases c3 : 0 ≤ x.2.2.1 ∧ x.2.2.1 ≤ 10
      · rw [in_t c3]
        simp only [Bool.not_true, cond_false]
        by_cases c4 : 0 ≤ x.2.2.2 ∧ x.2.2.2 ≤ 60
        · rw [in_t c4]; exact ⟨false, rfl, fun h => (by cases h), fun h => absurd ⟨by omega, hr, c2, c3, c4⟩ h⟩
        · rw [in_f c4]; exact bad fun hh => c4 hh.2.2.2.2
      · rw [in_f c3]; exact bad fun hh => c3 hh.2.2.2.1
    · rw [in_f c2]; exact bad fun hh => c2 hh.2.2.1
theorem readers_any {m : T_Mine} (hm : m.1.length ≤ 900) {l : List T_TagReader} (hl : l.length ≤ 900) (hx : ∀ x, x ∈ l → x.1.length ≤ 900) : ∀ (j n k : Nat), j + k = l.length → j < n → (∀ i, i < k → Ro m.1.length (l.getD i D_TagReader)) → ∃ r : Int, slices_IndexFunc_api_TagReader_api_TagReader_S1_L1 1000 n l l.length k m.1 m.2 = some (r, m) ∧ (r ≥ 0 ↔ ¬ ∀ x, x ∈ l → Ro m.1.length x)
  | 0, n + 1, k, hk, hn, hg => by
    rw [slices_IndexFunc_api_TagReader_api_TagReader_S1_L1_succ, decide_eq_false (by omega), cond_false]
    refine ⟨-1, rfl, fun h => by omega, fun h => absurd (fun x hx => ?_) h⟩
    obtain ⟨i, hi, e⟩ := List.mem_iff_getElem.1 hx
    have := hg i (by omega)
    rw [List.getD_eq_getElem?_getD, List.getElem?_eq_getElem hi, Option.getD_some, e] at this
    exact this
  | j + 1, n + 1, k, hk, hn, hg => by
    have hmem := getD_mem D_TagReader (show k < l.length by omega)
    obtain ⟨b, e, h⟩ := one_reader hm _ (hx _ hmem)
    rw [slices_IndexFunc_api_TagReader_api_TagReader_S1_L1_succ, decide_eq_true (by omega), cond_true, inB_true (by omega), cond_true, Int.toNat_natCast, show ((m.1, m.2) : T_Mine) = m from rfl, e, bind_some']
    cases b with
    | true => exact ⟨k, rfl, fun _ hh => (h.1 rfl) (hh _ hmem), fun _ => by omega⟩
    | false =>
      have ok : Ro m.1.length (l.getD k D_TagReader) := Classical.byContradiction fun hh => by have := h.2 hh; cases this
      simp only [cond_false]
      rw [W_eq (n := (k : Int) + 1) (by omega) (by omega), show (k : Int) + 1 = ((k + 1 : Nat) : Int) by omega]
      refine readers_any hm hl hx j n (k + 1) (by omega) (by omega) fun i hi => ?_
      by_cases e : i = k
      · subst e; exact ok
      · exact hg i (by omega)
theorem rreaders_any {m : T_Mine} (hm : m.1.length ≤ 900) {c : Int} (hc : ref01_Check 1000 m = some c) {l : List T_TagReader} (hl : l.length ≤ 900) (hx : ∀ x, x ∈ l → x.1.length ≤ 900) : ∀ (j n k : Nat), j + k = l.length → j < n → (∀ i, i < k → Ro m.1.length (l.getD i D_TagReader)) → ∃ v, ref24_Valid_L1 1000 n l k m.1 m.2 = some v ∧ (v = true ↔ (∀ x, x ∈ l → Ro m.1.length x) ∧ c = 0 ∧ l.length ≤ 32)
  | 0, n + 1, k, hk, hn, hg => by
    have all : ∀ x, x ∈ l → Ro m.1.length x := fun x hx => by
      obtain ⟨i, hi, e⟩ := List.mem_iff_getElem.1 hx
      have := hg i (by omega)
      rw [List.getD_eq_getElem?_getD, List.getElem?_eq_getElem hi, Option.getD_some, e] at this
      exact this
    rw [ref24_Valid_L1_succ, decide_eq_false (by omega), cond_false, show ((m.1, m.2) : T_Mine) = m from rfl, hc, bind_some']
    by_cases c0 : c = 0
    · rw [eq2 c0, cond_true]
      exact ⟨_, rfl, by rw [decide_eq_true_iff]; exact ⟨fun h => ⟨all, c0, by omega⟩, fun h => by have := h.2.2; omega⟩⟩
    · rw [ne2 c0]; exact ⟨false, rfl, fun h => (by cases h), fun h => absurd h.2.1 c0⟩
  | j + 1, n + 1, k, hk, hn, hg => by
    have hmem := getD_mem D_TagReader (show k < l.length by omega)
    have hx1 := hx _ hmem
    rw [ref24_Valid_L1_succ, decide_eq_true (by omega), cond_true, inB_true (by omega), cond_true, Int.toNat_natCast]
    simp only
    have bad : ¬ Ro m.1.length (l.getD k D_TagReader) → ∃ v, (some false : Option Bool) = some v ∧ (v = true ↔ (∀ x, x ∈ l → Ro m.1.length x) ∧ c = 0 ∧ l.length ≤ 32) := fun h => ⟨false, rfl, fun h => (by cases h), fun hh => absurd (hh.1 _ hmem) h⟩
    have next : Ro m.1.length (l.getD k D_TagReader) → ∃ v, ref24_Valid_L1 1000 n l (W ((k : Int) + 1)) m.1 m.2 = some v ∧ (v = true ↔ (∀ x, x ∈ l → Ro m.1.length x) ∧ c = 0 ∧ l.length ≤ 32) := fun h => by
      rw [W_eq (n := (k : Int) + 1) (by omega) (by omega), show (k : Int) + 1 = ((k + 1 : Nat) : Int) by omega]
      refine rreaders_any hm hc hl hx j n (k + 1) (by omega) (by omega) fun i hi => ?_
      by_cases e : i = k
      · subst e; exact h
      · exact hg i (by omega)
    generalize l.getD k D_TagReader = x at hx1 bad next
    by_cases c1 : (x.1.length : Int) = 0
    · rw [eq2 c1]; exact bad fun h => h.1 (by omega)
    rw [ne2 c1, cond_false]
    unfold ref23_Set
    obtain ⟨b, e, h⟩ := set_loop m.1.length x.1 hx1 x.1.length 1000 0 rfl (by omega) (fun i hi => by omega)
    rw [show ((0 : Nat) : Int) = 0 from rfl] at e
    rw [e, bind_some']
    cases b with
    | false => exact bad fun hh => by have := h.2 hh.2.1; cases this
    | true =>
      have hr := h.1 rfl
      simp only [Bool.not_true, cond_false]
      by_cases d1 : x.2.1 < 1
      · rw [decide_eq_true d1]; exact bad fun h => by have := h.2.2.1; omega
      rw [decide_eq_false d1, cond_false]
      by_cases d2 : x.2.1 > 600
      · rw [decide_eq_true d2]; exact bad fun h => by have := h.2.2.1; omega
      rw [decide_eq_false d2, cond_false]
      by_cases d3 : x.2.2.1 < 0
      · rw [decide_eq_true d3]; exact bad fun h => by have := h.2.2.2.1; omega
      rw [decide_eq_false d3, cond_false]
      by_cases d4 : x.2.2.1 > 10
      · rw [decide_eq_true d4]; exact bad fun h => by have := h.2.2.2.1; omega
      rw [decide_eq_false d4, cond_false]
      by_cases d5 : x.2.2.2 < 0
      · rw [decide_eq_true d5]; exact bad fun h => by have := h.2.2.2.2; omega
      rw [decide_eq_false d5, cond_false]
      by_cases d6 : x.2.2.2 > 60
      · rw [decide_eq_true d6]; exact bad fun h => by have := h.2.2.2.2; omega
      rw [decide_eq_false d6, cond_false]
      exact next ⟨by omega, hr, ⟨by omega, by omega⟩, ⟨by omega, by omega⟩, ⟨by omega, by omega⟩⟩
theorem sval_both {m : T_Mine} (hm : m.1.length ≤ 900) (hr : m.2.length ≤ 900) {l : List T_TagReader} (hl : l.length ≤ 900) (hx : ∀ x, x ∈ l → x.1.length ≤ 900) : ∃ v, sightings_Valid 1000 m l = some v ∧ ref24_Valid 1000 m l = some v ∧ (v = true ↔ (∀ x, x ∈ l → Ro m.1.length x) ∧ plan_Check 1000 m = some 0 ∧ l.length ≤ 32) := by
  obtain ⟨c, e1, e2⟩ := check_both hm hr
  obtain ⟨w, e3, hw⟩ := rreaders_any hm e2 hl hx l.length 1000 0 rfl (by omega) (fun i hi => by omega)
  obtain ⟨r, e4, h4⟩ := readers_any hm hl hx l.length 1000 0 rfl (by omega) (fun i hi => by omega)
  rw [show ((0 : Nat) : Int) = 0 from rfl] at e3 e4
  have key : ∀ v, sightings_Valid 1000 m l = some v → (v = true ↔ (∀ x, x ∈ l → Ro m.1.length x) ∧ c = 0 ∧ l.length ≤ 32) → ∃ v, sightings_Valid 1000 m l = some v ∧ ref24_Valid 1000 m l = some v ∧ (v = true ↔ (∀ x, x ∈ l → Ro m.1.length x) ∧ plan_Check 1000 m = some 0 ∧ l.length ≤ 32) := fun v hv h => by
    have : w = v := by rw [Bool.eq_iff_iff, hw, h]
    subst this
    refine ⟨w, hv, by unfold ref24_Valid; exact e3, ?_⟩
    rw [h, e1]
    exact ⟨fun ⟨a, b, c⟩ => ⟨a, by rw [b], c⟩, fun ⟨a, b, c⟩ => ⟨a, by injection b, c⟩⟩
  have ev : sightings_Valid 1000 m l = (bif c == 0 then bif decide ((l.length : Int) ≤ 32) then some (!decide (r ≥ 0)) else some false else some false) := by
    unfold sightings_Valid plan_Valid slices_ContainsFunc_api_TagReader_api_TagReader_S1 slices_IndexFunc_api_TagReader_api_TagReader_S1
    rw [e1, bind_some', bind_some', e4, bind_some', bind_some']
  by_cases c0 : c = 0
  · by_cases c1 : (l.length : Int) ≤ 32
    · rw [eq2 c0, decide_eq_true c1] at ev
      refine key _ ev ?_
      rw [Bool.not_eq_true', decide_eq_false_iff_not, h4]
      exact ⟨fun h => ⟨Classical.not_not.1 h, c0, by omega⟩, fun h => Classical.not_not.2 h.1⟩
    · rw [eq2 c0, decide_eq_false c1] at ev
      exact key _ ev ⟨fun h => (by cases h), fun h => absurd (by have := h.2.2; omega) c1⟩
  · rw [ne2 c0] at ev
    exact key _ ev ⟨fun h => (by cases h), fun h => absurd h.2.1 c0⟩
end Go.Proofs.Ytiialoppbdcojaa
