/- Sightings: the program's functions and its reference's answer the same, for readers in range and not too many reports. No condition of its own. -/
import Derived.Test.YtiialoppbdcojaaMn
set_option linter.all false
namespace Go.Proofs.Ytiialoppbdcojaa
open Go.Pv M

theorem bifs (a b : Bool) : (bif a then some b else some false) = some (a && b) := by cases a <;> rfl
theorem in_eq (N : Nat) (a b c : Int) : lists_In N a b c = some (decide (b ≤ a) && decide (a ≤ c)) := by
  unfold lists_In; simp only [bifs, ge_iff_le]
theorem awake_eq : law24_awake 1000 = some true := by kernel_rfl

/-! ### Lists that rise; reports that are right -/
def rsAt (lo hi : Int) (l : List Int) (k : Nat) : Prop := lo ≤ l.getD k 0 ∧ l.getD k 0 ≤ hi ∧ (0 < k → l.getD (k - 1) 0 < l.getD k 0)
def rsP (lo hi : Int) (l : List Int) : Prop := ∀ k, k < l.length → rsAt lo hi l k
theorem rising_loop (lo hi : Int) (l : List Int) (hl : l.length ≤ 900) : ∀ (m n k : Nat), m + k = l.length → m < n → (∀ j, j < k → rsAt lo hi l j) → ∃ b, lists_Rising_L1 1000 n l lo hi l l.length k = some b ∧ (b = true ↔ rsP lo hi l)
  | 0, n + 1, k, hk, hn, hg => by
    rw [lists_Rising_L1_succ, decide_eq_false (by omega), cond_false]
    exact ⟨true, rfl, fun _ j hj => hg j (by omega), fun _ => rfl⟩
  | m + 1, n + 1, k, hk, hn, hg => by
    rw [lists_Rising_L1_succ, decide_eq_true (by omega), cond_true, inB_true (by omega), cond_true, Int.toNat_natCast]
    have fail : ¬ rsAt lo hi l k → ∃ b, (some false : Option Bool) = some b ∧ (b = true ↔ rsP lo hi l) := fun h => ⟨false, rfl, fun e => (by cases e), fun hh => absurd (hh k (by omega)) h⟩
    by_cases c1 : l.getD k 0 < lo
    · rw [decide_eq_true c1]; exact fail fun h => by have := h.1; omega
    rw [decide_eq_false c1, cond_false]
    by_cases c2 : l.getD k 0 > hi
    · rw [decide_eq_true c2]; exact fail fun h => by have := h.2.1; omega
    rw [decide_eq_false c2, cond_false, W_eq (n := (k : Int) + 1) (by omega) (by omega), show (k : Int) + 1 = ((k + 1 : Nat) : Int) by omega]
    have step : rsAt lo hi l k → ∀ j, j < k + 1 → rsAt lo hi l j := fun h j hj => by
      by_cases e : j = k
      · subst e; exact h
      · exact hg j (by omega)
    by_cases c3 : (k : Int) > 0
    · rw [decide_eq_true c3, cond_true, W_eq (n := (k : Int) - 1) (by omega) (by omega), inB_true (by omega), cond_true, show ((k : Int) - 1).toNat = k - 1 by omega]
      by_cases c4 : l.getD k 0 ≤ l.getD (k - 1) 0
      · rw [decide_eq_true c4]; exact fail fun h => by have := h.2.2 (by omega); omega
      rw [decide_eq_false c4, cond_false]
      exact rising_loop lo hi l hl m n (k + 1) (by omega) (by omega) (step ⟨by omega, by omega, fun _ => by omega⟩)
    · rw [decide_eq_false c3, cond_false]
      exact rising_loop lo hi l hl m n (k + 1) (by omega) (by omega) (step ⟨by omega, by omega, fun h => by omega⟩)
theorem rising_eq (lo hi : Int) (l : List Int) (hl : l.length ≤ 900) : ∃ b, lists_Rising 1000 l lo hi = some b ∧ (b = true ↔ rsP lo hi l) := by
  unfold lists_Rising
  exact rising_loop lo hi l hl l.length 1000 0 rfl (by omega) fun j hj => by omega

def Vr (r : T_Report) : Prop := (0 ≤ r.1 ∧ r.1 ≤ 31) ∧ (0 ≤ r.2.1 ∧ r.2.1 ≤ 65535) ∧ (0 ≤ r.2.2.1 ∧ r.2.2.1 ≤ 2147483648) ∧ r.2.2.2.length ≤ 20 ∧ rsP 1 65535 r.2.2.2
theorem tags_valid (r : T_Report) : ∃ b, tags_Valid 1000 r = some b ∧ (b = true ↔ Vr r) := by
  unfold tags_Valid Vr
  simp only [in_eq, bind_some']
  by_cases c1 : 0 ≤ r.1 ∧ r.1 ≤ 31
  · by_cases c2 : 0 ≤ r.2.1 ∧ r.2.1 ≤ 65535
    · by_cases c3 : 0 ≤ r.2.2.1 ∧ r.2.2.1 ≤ 2147483648
      · by_cases c4 : (r.2.2.2.length : Int) ≤ 20
        · simp only [c1.1, c1.2, c2.1, c2.2, c3.1, c3.2, decide_true, Bool.and_self, cond_true, c4, and_self, true_and]
          obtain ⟨b, e, h⟩ := rising_eq 1 65535 r.2.2.2 (by omega)
          rw [e]
          exact ⟨b, rfl, h.trans ⟨fun h => ⟨by omega, h⟩, fun h => h.2⟩⟩
        · simp only [c1.1, c1.2, c2.1, c2.2, c3.1, c3.2, decide_true, Bool.and_self, cond_true, c4, decide_false, cond_false]
          exact ⟨false, rfl, by simp; intro; omega⟩
      · have : (decide (0 ≤ r.2.2.1) && decide (r.2.2.1 ≤ 2147483648)) = false := by simp; omega
        simp only [c1.1, c1.2, c2.1, c2.2, decide_true, Bool.and_self, cond_true, this, cond_false]
        exact ⟨false, rfl, fun e => (by cases e), fun h => absurd h.2.2.1 c3⟩
    · have : (decide (0 ≤ r.2.1) && decide (r.2.1 ≤ 65535)) = false := by simp; omega
      simp only [c1.1, c1.2, decide_true, Bool.and_self, cond_true, this, cond_false]
      exact ⟨false, rfl, fun e => (by cases e), fun h => absurd h.2.1 c2⟩
  · have : (decide (0 ≤ r.1) && decide (r.1 ≤ 31)) = false := by simp; omega
    simp only [this, cond_false]
    exact ⟨false, rfl, fun e => (by cases e), fun h => absurd h.1 c1⟩
theorem refv_loop (a b c : Int) (l : List Int) (hl : l.length ≤ 900) : ∀ (m n k : Nat), m + k = l.length → m < n → (∀ j, j < k → rsAt 1 65535 l j) → ∃ v, ref23_Valid_L1 1000 n k a b c l = some v ∧ (v = true ↔ Vr (a, b, c, l))
  | 0, n + 1, k, hk, hn, hg => by
    rw [ref23_Valid_L1_succ, decide_eq_false (by omega), cond_false]
    simp only [bifs, ge_iff_le]
    refine ⟨_, rfl, ?_⟩
    simp only [Bool.and_eq_true, decide_eq_true_eq, Vr]
    exact ⟨fun ⟨h1, h2, h3, h4, h5, h6, h7⟩ => ⟨⟨h1, by omega⟩, ⟨h3, h4⟩, ⟨h5, h6⟩, by omega, fun j hj => hg j (by omega)⟩, fun ⟨⟨h1, h2⟩, ⟨h3, h4⟩, ⟨h5, h6⟩, h7, h8⟩ => ⟨h1, by omega, h3, h4, h5, h6, by omega⟩⟩
  | m + 1, n + 1, k, hk, hn, hg => by
    rw [ref23_Valid_L1_succ, decide_eq_true (by omega), cond_true, inB_true (by omega), cond_true, cond_true, cond_true, Int.toNat_natCast]
    have fail : ¬ rsAt 1 65535 l k → ∃ v, (some false : Option Bool) = some v ∧ (v = true ↔ Vr (a, b, c, l)) := fun h => ⟨false, rfl, fun e => (by cases e), fun hh => absurd (hh.2.2.2.2 k (by show k < l.length; omega)) h⟩
    by_cases c1 : l.getD k 0 < 1
    · rw [decide_eq_true c1]; exact fail fun h => by have := h.1; omega
    rw [decide_eq_false c1, cond_false]
    by_cases c2 : l.getD k 0 > 65535
    · rw [decide_eq_true c2]; exact fail fun h => by have := h.2.1; omega
    rw [decide_eq_false c2, cond_false, W_eq (n := (k : Int) + 1) (by omega) (by omega), show (k : Int) + 1 = ((k + 1 : Nat) : Int) by omega]
    have step : rsAt 1 65535 l k → ∀ j, j < k + 1 → rsAt 1 65535 l j := fun h j hj => by
      by_cases e : j = k
      · subst e; exact h
      · exact hg j (by omega)
    by_cases c3 : (k : Int) > 0
    · rw [decide_eq_true c3, cond_true, W_eq (n := (k : Int) - 1) (by omega) (by omega), inB_true (by omega), cond_true, show ((k : Int) - 1).toNat = k - 1 by omega]
      by_cases c4 : l.getD k 0 ≤ l.getD (k - 1) 0
      · rw [decide_eq_true c4]; exact fail fun h => by have := h.2.2 (by omega); omega
      rw [decide_eq_false c4, cond_false]
      exact refv_loop a b c l hl m n (k + 1) (by omega) (by omega) (step ⟨by omega, by omega, fun _ => by omega⟩)
    · rw [decide_eq_false c3, cond_false]
      exact refv_loop a b c l hl m n (k + 1) (by omega) (by omega) (step ⟨by omega, by omega, fun h => by omega⟩)
theorem valid_both (r : T_Report) (hl : r.2.2.2.length ≤ 900) : ∃ b, tags_Valid 1000 r = some b ∧ ref23_Valid 1000 r = some b ∧ (b = true ↔ Vr r) := by
  obtain ⟨b, e, h⟩ := tags_valid r
  obtain ⟨a, n, c, l⟩ := r
  obtain ⟨v, e2, h2⟩ := refv_loop a n c l hl l.length 1000 0 rfl (by have : l.length ≤ 900 := hl; omega) fun j hj => by omega
  have : v = b := by
    rw [Bool.eq_iff_iff, h2, h]
  subst this
  exact ⟨v, e, e2, h⟩

/-! ### Membership, runs -/
theorem idx_loop (l : List Int) (t : Int) (hl : l.length ≤ 900) : ∀ (m n k : Nat), m + k = l.length → m < n → (∀ j, j < k → l.getD j 0 ≠ t) → ∃ r, slices_Index_int_int_L1 1000 n l t l.length k = some r ∧ (r ≥ 0 ↔ t ∈ l)
  | 0, n + 1, k, hk, hn, hg => by
    rw [slices_Index_int_int_L1_succ, decide_eq_false (by omega), cond_false]
    refine ⟨-1, rfl, fun h => by omega, fun h => ?_⟩
    obtain ⟨j, hj, e⟩ := List.mem_iff_getElem.1 h
    have := hg j (by omega)
    rw [List.getD_eq_getElem?_getD, List.getElem?_eq_getElem hj] at this
    exact absurd e this
  | m + 1, n + 1, k, hk, hn, hg => by
    rw [slices_Index_int_int_L1_succ, decide_eq_true (by omega), cond_true, inB_true (by omega), cond_true, Int.toNat_natCast]
    by_cases h : t = l.getD k 0
    · rw [eq2 h, cond_true]
      refine ⟨k, rfl, fun _ => ?_, fun _ => by omega⟩
      rw [h, List.getD_eq_getElem?_getD, List.getElem?_eq_getElem (by omega)]
      exact List.getElem_mem _
    · rw [ne2 h, cond_false, W_eq (n := (k : Int) + 1) (by omega) (by omega), show (k : Int) + 1 = ((k + 1 : Nat) : Int) by omega]
      refine idx_loop l t hl m n (k + 1) (by omega) (by omega) fun j hj => ?_
      by_cases e : j = k
      · subst e; exact fun h' => h h'.symm
      · exact hg j (by omega)
theorem contains_eq (l : List Int) (t : Int) (hl : l.length ≤ 900) : slices_Contains_int_int 1000 l t = some (decide (t ∈ l)) := by
  unfold slices_Contains_int_int slices_Index_int_int
  obtain ⟨r, e, h⟩ := idx_loop l t hl l.length 1000 0 rfl (by omega) fun j hj => by omega
  rw [show (0 : Int) = ((0 : Nat) : Int) from rfl, e, bind_some']
  congr 1
  exact decide_eq_decide.2 h
theorem has_loop (l : List Int) (t : Int) (hl : l.length ≤ 900) : ∀ (m n k : Nat), m + k = l.length → m < n → (∀ j, j < k → l.getD j 0 ≠ t) → ref23_Has_L1 1000 n l t k = some (decide (t ∈ l))
  | 0, n + 1, k, hk, hn, hg => by
    rw [ref23_Has_L1_succ, decide_eq_false (show ¬ (k : Int) < (l.length : Int) by omega), cond_false]
    congr 1
    refine (decide_eq_false fun h => ?_).symm
    obtain ⟨j, hj, e⟩ := List.mem_iff_getElem.1 h
    have := hg j (by omega)
    rw [List.getD_eq_getElem?_getD, List.getElem?_eq_getElem hj] at this
    exact absurd e this
  | m + 1, n + 1, k, hk, hn, hg => by
    rw [ref23_Has_L1_succ, decide_eq_true (show (k : Int) < (l.length : Int) by omega), cond_true, inB_true (by omega), cond_true, Int.toNat_natCast]
    by_cases h : l.getD k 0 = t
    · rw [eq2 h, cond_true]
      congr 1
      refine (decide_eq_true ?_).symm
      rw [← h, List.getD_eq_getElem?_getD, List.getElem?_eq_getElem (by omega)]
      exact List.getElem_mem _
    · rw [ne2 h, cond_false, W_eq (n := (k : Int) + 1) (by omega) (by omega), show (k : Int) + 1 = ((k + 1 : Nat) : Int) by omega]
      refine has_loop l t hl m n (k + 1) (by omega) (by omega) fun j hj => ?_
      by_cases e : j = k
      · subst e; exact h
      · exact hg j (by omega)
theorem has_eq (l : List Int) (t : Int) (hl : l.length ≤ 900) : ref23_Has 1000 l t = some (decide (t ∈ l)) := by
  unfold ref23_Has
  exact has_loop l t hl l.length 1000 0 rfl (by omega) fun j hj => by omega

/-- A reader in range. -/
def Rd (x : T_TagReader) : Prop := (0 ≤ x.2.1 ∧ x.2.1 ≤ 1000) ∧ (0 ≤ x.2.2.1 ∧ x.2.2.1 ≤ 100) ∧ (0 ≤ x.2.2.2 ∧ x.2.2.2 ≤ 100)
/-- A report's number and time in range. -/
def Tm (r : T_Report) : Prop := (0 ≤ r.2.1 ∧ r.2.1 ≤ 65535) ∧ (0 ≤ r.2.2.1 ∧ r.2.2.1 ≤ 2147483648)
def fo (x : T_TagReader) (a b : T_Report) : Bool := decide (b.2.1 = (a.2.1 + 1) % 65536) && (decide (b.2.2.1 ≥ a.2.2.1) && decide (b.2.2.1 - a.2.2.1 ≤ x.2.1 + 2 * x.2.2.2))
theorem follows_eq {x : T_TagReader} {a b : T_Report} (hx : Rd x) (ha : Tm a) (hb : Tm b) : sightings_follows 1000 x a b = some (fo x a b) ∧ ref24_follows 1000 x a b = some (fo x a b) := by
  obtain ⟨x1, x2, x3⟩ := hx
  obtain ⟨a1, a2⟩ := ha
  obtain ⟨b1, b2⟩ := hb
  have e : ∀ y : Int, (b.2.1 == y) = decide (b.2.1 = y) := fun y => by rw [Bool.eq_iff_iff]; simp
  unfold sightings_follows ref24_follows fo
  rw [W_eq (n := a.2.1 + 1) (by omega) (by omega), Int.tmod_eq_emod_of_nonneg (by omega), W_eq (n := b.2.2.1 - a.2.2.1) (by omega) (by omega), W_eq (n := 2 * x.2.2.2) (by omega) (by omega), W_eq (n := x.2.1 + 2 * x.2.2.2) (by omega) (by omega), e]
  simp only [bifs, and_self]

/-! ### Absences, by a run's first and last report -/
abbrev Sta := Option (T_Report × T_Report × Bool)
def fin (x : T_TagReader) (rd tag : Int) : Sta → List T_Absence → List T_Absence
  | some (a, b, true), out => if b.2.2.1 - x.2.2.2 > a.2.2.1 + x.2.2.2 then out ++ [(rd, (tag, (a.2.2.1 + x.2.2.2, b.2.2.1 - x.2.2.2)))] else out
  | _, out => out
def spc (x : T_TagReader) (rd tag : Int) : List T_Report → Sta → List T_Absence → List T_Absence
  | [], s, out => fin x rd tag s out
  | r :: l, s, out => if r.1 ≠ rd then spc x rd tag l s out else if tag ∈ r.2.2.2 then spc x rd tag l none (fin x rd tag s out) else match s with
    | none => spc x rd tag l (some (r, r, false)) out
    | some (a, b, m) => match fo x b r with
      | true => spc x rd tag l (some (a, r, true)) out
      | false => spc x rd tag l (some (r, r, false)) (fin x rd tag s out)
theorem spc_filter (x : T_TagReader) (rd tag : Int) : ∀ (l : List T_Report) (s : Sta) (out : List T_Absence), spc x rd tag (l.filter fun r => r.1 == rd) s out = spc x rd tag l s out
  | [], s, out => rfl
  | r :: l, s, out => by
    by_cases h : r.1 = rd
    · rw [List.filter_cons_of_pos (by simpa using h)]
      simp only [spc, h, ne_eq, not_true_eq_false, if_false]
      split
      · exact spc_filter x rd tag l _ _
      · cases s with
        | none => exact spc_filter x rd tag l _ _
        | some p =>
          obtain ⟨a, b, m⟩ := p
          simp only
          split <;> exact spc_filter x rd tag l _ _
    · rw [List.filter_cons_of_neg (by simpa using h)]
      simp only [spc, ne_eq, h, not_false_eq_true, if_true]
      exact spc_filter x rd tag l s out
theorem fin_len (x : T_TagReader) (rd tag : Int) (s : Sta) (out : List T_Absence) : (fin x rd tag s out).length ≤ out.length + 1 := by
  unfold fin
  split
  · split
    · simp
    · omega
  · omega
theorem drop_get {l : List T_Report} {k : Nat} (h : k < l.length) : l.drop k = l.getD k D_Report :: l.drop (k + 1) := by
  rw [List.drop_eq_getElem_cons h, List.getD_eq_getElem?_getD, List.getElem?_eq_getElem h]; rfl

/-- What is known of a run by its first and last report. -/
def Rn (run : List T_Report) (s : Sta) : Prop := (run = [] ∧ s = none) ∨ ∃ a b, s = some (a, b, decide (1 < run.length)) ∧ 0 < run.length ∧ run.getD 0 D_Report = a ∧ run.getD (run.length - 1) D_Report = b ∧ Tm a ∧ Tm b
theorem end_eq {x : T_TagReader} {rd tag : Int} {run : List T_Report} {s : Sta} {out : List T_Absence} (hx : Rd x) (h : Rn run s) (hl : run.length ≤ 400) (ho : out.length ≤ 500) : sightings_Absences_2 1000 run x out rd tag = some ((), ([], x, fin x rd tag s out, rd, tag)) := by
  obtain ⟨x1, x2, x3⟩ := hx
  unfold sightings_Absences_2
  rcases h with ⟨rfl, rfl⟩ | ⟨a, b, rfl, h0, ha, hb, ta, tb⟩
  · rw [decide_eq_false (by simp), cond_false]; rfl
  · obtain ⟨a1, a2⟩ := ta
    obtain ⟨b1, b2⟩ := tb
    by_cases hg : 1 < run.length
    · rw [decide_eq_true (show (run.length : Int) > 1 by omega), cond_true, inB_true (by omega), cond_true, W_eq (n := (run.length : Int) - 1) (by omega) (by omega)]
      simp only
      rw [inB_true (by omega), cond_true, show ((run.length : Int) - 1).toNat = run.length - 1 by omega, show (0 : Int).toNat = 0 from rfl, ha, hb, decide_eq_true hg, W_eq (n := b.2.2.1 - x.2.2.2) (by omega) (by omega), W_eq (n := a.2.2.1 + x.2.2.2) (by omega) (by omega)]
      simp only [fin]
      split
      · rename_i h; rw [decide_eq_true h, cond_true, fitsB_true (by omega), cond_true]
      · rename_i h; rw [decide_eq_false h, cond_false]
    · rw [decide_eq_false (show ¬ (run.length : Int) > 1 by omega), cond_false, decide_eq_false hg]; rfl

theorem rn_one {r : T_Report} (h : Tm r) : Rn [r] (some (r, r, false)) := .inr ⟨r, r, rfl, by simp, rfl, rfl, h, h⟩
theorem rn_more {run : List T_Report} {a b : T_Report} {m : Bool} {r : T_Report} (h : Rn run (some (a, b, m))) (hr : Tm r) : Rn (run ++ [r]) (some (a, r, true)) := by
  rcases h with ⟨_, h⟩ | ⟨a', b', h, h0, ha, hb, ta, tb⟩
  · cases h
  · injection h with h
    injection h with h1 h2
    injection h2 with h2 h3
    subst h1; subst h2
    refine .inr ⟨a, r, ?_, by simp, ?_, ?_, ta, hr⟩
    · rw [decide_eq_true (by rw [List.length_append, List.length_singleton]; omega)]
    · rw [List.getD_eq_getElem?_getD, List.getElem?_append_left h0, ← List.getD_eq_getElem?_getD, ha]
    · rw [List.length_append, List.length_singleton, Nat.add_sub_cancel, List.getD_eq_getElem?_getD, List.getElem?_append_right (Nat.le_refl _), Nat.sub_self]; rfl
theorem rn_last {run : List T_Report} {a b : T_Report} {m : Bool} (h : Rn run (some (a, b, m))) : 0 < run.length ∧ run.getD (run.length - 1) D_Report = b ∧ Tm b := by
  rcases h with ⟨_, h⟩ | ⟨a', b', h, h0, ha, hb, ta, tb⟩
  · cases h
  · injection h with h
    injection h with h1 h2
    injection h2 with h2 h3
    subst h1; subst h2
    exact ⟨h0, hb, tb⟩

theorem prog_loop {x : T_TagReader} (hx : Rd x) (rd tag : Int) (l : List T_Report) (hl : l.length ≤ 400) (hv : ∀ r, r ∈ l → Vr r) : ∀ (m n k : Nat) (out : List T_Absence) (run : List T_Report) (s : Sta), m + k = l.length → m < n → out.length ≤ k → run.length ≤ k → Rn run s →
    sightings_Absences_L1 1000 n l l.length k rd tag x.1 x.2.1 x.2.2.1 x.2.2.2 out run = some ((spc x rd tag (l.drop k) s out, 0), ())
  | 0, n + 1, k, out, run, s, hk, hn, ho, hr, hs => by
    rw [sightings_Absences_L1_succ, decide_eq_false (by omega), cond_false]
    rw [show (x.1, (x.2.1, (x.2.2.1, x.2.2.2))) = x from rfl, end_eq hx hs (by omega) (by omega), bind_some', List.drop_eq_nil_of_le (by omega)]; rfl
  | m + 1, n + 1, k, out, run, s, hk, hn, ho, hr, hs => by
    have hkl : k < l.length := by omega
    rw [sightings_Absences_L1_succ, decide_eq_true (by omega), cond_true, inB_true (by omega), cond_true, Int.toNat_natCast, drop_get hkl]
    have hrl : l.getD k D_Report ∈ l := by
      rw [List.getD_eq_getElem?_getD, List.getElem?_eq_getElem hkl]; exact List.getElem_mem hkl
    generalize l.getD k D_Report = r at hrl ⊢
    have vr := hv r hrl
    have tr : Tm r := ⟨vr.2.1, vr.2.2.1⟩
    simp only
    rw [W_eq (n := (k : Int) + 1) (by omega) (by omega), show (k : Int) + 1 = ((k + 1 : Nat) : Int) by omega]
    have fl := fin_len x rd tag s out
    by_cases hrd : r.1 = rd
    · rw [show (r.1 != rd) = false by simp [hrd], cond_false, contains_eq _ _ (by have := vr.2.2.2.1; omega), bind_some']
      have xe : (x.1, (x.2.1, (x.2.2.1, x.2.2.2))) = x := rfl
      simp only [spc, hrd, ne_eq, not_true_eq_false, if_false]
      by_cases ht : tag ∈ r.2.2.2
      · rw [decide_eq_true ht, cond_true, if_pos ht, xe, end_eq hx hs (by omega) (by omega), bind_some']
        exact prog_loop hx rd tag l hl hv m n (k + 1) (fin x rd tag s out) [] none (by omega) (by omega) (by omega) (by simp) (.inl ⟨rfl, rfl⟩)
      · rw [decide_eq_false ht, cond_false, if_neg ht]
        cases s with
        | none =>
          have : run = [] := by
            rcases hs with ⟨h, _⟩ | ⟨_, _, h, _⟩
            · exact h
            · cases h
          subst this
          rw [decide_eq_false (by simp), cond_false, fitsB_true (by simp), cond_true]
          exact prog_loop hx rd tag l hl hv m n (k + 1) _ _ _ (by omega) (by omega) (by omega) (by simp) (rn_one tr)
        | some p =>
          obtain ⟨a, b, mm⟩ := p
          obtain ⟨h0, hb, tb⟩ := rn_last hs
          rw [decide_eq_true (by omega), cond_true, W_eq (n := (run.length : Int) - 1) (by omega) (by omega), inB_true (by omega), cond_true, show ((run.length : Int) - 1).toNat = run.length - 1 by omega, hb, xe, (follows_eq hx tb tr).1, bind_some']
          simp only
          cases fo x b r with
          | true =>
            simp only [Bool.not_true, cond_false]
            rw [fitsB_true (by omega), cond_true]
            exact prog_loop hx rd tag l hl hv m n (k + 1) _ _ _ (by omega) (by omega) (by omega) (by rw [List.length_append, List.length_singleton]; omega) (rn_more hs tr)
          | false =>
            simp only [Bool.not_false, cond_true]
            rw [end_eq hx hs (by omega) (by omega), bind_some']
            simp only [List.length_nil, List.nil_append]
            rw [fitsB_true (by omega), cond_true]
            exact prog_loop hx rd tag l hl hv m n (k + 1) (fin x rd tag (some (a, b, mm)) out) [r] _ (by omega) (by omega) (by omega) (by simp) (rn_one tr)
    · rw [show (r.1 != rd) = true by simp [hrd], cond_true]
      simp only [spc, ne_eq, hrd, not_false_eq_true, if_true]
      exact prog_loop hx rd tag l hl hv m n (k + 1) _ _ _ (by omega) (by omega) (by omega) (by omega) hs

/-! ### The reference's absences -/
theorem ref_loops {x : T_TagReader} (hx : Rd x) (rd tag : Int) (l : List T_Report) (hl : l.length ≤ 400) (hv : ∀ r, r ∈ l → Vr r) (hrd : ∀ r, r ∈ l → r.1 = rd) : ∀ q : Nat,
    (∀ (i k n3 n4 : Nat) (out : List T_Absence), i ≤ k → k < l.length → l.length - k ≤ q → l.length - k ≤ n3 → l.length - k < n4 → out.length ≤ i → ref24_Absences_L4 1000 n3 n4 rd tag l i k x.1 x.2.1 x.2.2.1 x.2.2.2 out = some (spc x rd tag (l.drop (k + 1)) (some (l.getD i D_Report, l.getD k D_Report, decide (k > i))) out, 0)) ∧
    (∀ (i n3 : Nat) (out : List T_Absence), i ≤ l.length → l.length - i ≤ q → l.length - i < n3 → out.length ≤ i → ref24_Absences_L3 1000 n3 rd tag l i x.1 x.2.1 x.2.2.1 x.2.2.2 out = some (spc x rd tag (l.drop i) none out, 0)) := by
  have mem : ∀ k, k < l.length → l.getD k D_Report ∈ l := fun k hk => by
    rw [List.getD_eq_getElem?_getD, List.getElem?_eq_getElem hk]; exact List.getElem_mem hk
  have tm : ∀ k, k < l.length → Tm (l.getD k D_Report) := fun k hk => ⟨(hv _ (mem k hk)).2.1, (hv _ (mem k hk)).2.2.1⟩
  have xe : (x.1, (x.2.1, (x.2.2.1, x.2.2.2))) = x := rfl
  intro q
  induction q with
  | zero =>
    refine ⟨fun i k n3 n4 out h1 h2 h3 h4 h5 h6 => by omega, fun i n3 out h1 h2 h3 h4 => ?_⟩
    obtain ⟨n, rfl⟩ : ∃ n, n3 = n + 1 := ⟨n3 - 1, by omega⟩
    rw [ref24_Absences_L3_succ, decide_eq_false (by omega), cond_false, List.drop_eq_nil_of_le (by omega)]; rfl
  | succ q ih =>
    obtain ⟨ih4, ih3⟩ := ih
    have h4 : ∀ (i k n3 n4 : Nat) (out : List T_Absence), i ≤ k → k < l.length → l.length - k ≤ q + 1 → l.length - k ≤ n3 → l.length - k < n4 → out.length ≤ i → ref24_Absences_L4 1000 n3 n4 rd tag l i k x.1 x.2.1 x.2.2.1 x.2.2.2 out = some (spc x rd tag (l.drop (k + 1)) (some (l.getD i D_Report, l.getD k D_Report, decide (k > i))) out, 0) := by
      intro i k n3 n4 out h1 h2 h3 h4 h5 h6
      obtain ⟨n, rfl⟩ : ∃ n, n4 = n + 1 := ⟨n4 - 1, by omega⟩
      have ti := tm i (by omega)
      have tk := tm k h2
      obtain ⟨x1, x2, x3⟩ := hx
      have hxx : Rd x := ⟨x1, x2, x3⟩
      have fl := fin_len x rd tag (some (l.getD i D_Report, l.getD k D_Report, decide (k > i))) out
      -- what the end of a run does
      have J : ref24_Absences_J3 1000 n3 rd tag l i k x.1 x.2.1 x.2.2.1 x.2.2.2 out = some (spc x rd tag (l.drop (k + 1)) none (fin x rd tag (some (l.getD i D_Report, l.getD k D_Report, decide (k > i))) out), 0) := by
        have go := fun out' (ho : out'.length ≤ k + 1) => ih3 (k + 1) n3 out' (by omega) (by omega) (by omega) ho
        rw [ref24_Absences_J3_eq, inB_true (by omega), cond_true, Int.toNat_natCast]
        simp only
        rw [inB_true (by omega), cond_true, Int.toNat_natCast]
        obtain ⟨ti1, ti2⟩ := ti
        obtain ⟨tk1, tk2⟩ := tk
        rw [W_eq (n := (l.getD k D_Report).2.2.1 - x.2.2.2) (by omega) (by omega), W_eq (n := (l.getD i D_Report).2.2.1 + x.2.2.2) (by omega) (by omega), W_eq (n := (k : Int) + 1) (by omega) (by omega), show (k : Int) + 1 = ((k + 1 : Nat) : Int) by omega]
        by_cases hki : k > i
        · rw [decide_eq_true (show (k : Int) > (i : Int) by omega), cond_true]
          rw [decide_eq_true hki] at fl ⊢
          simp only [fin] at fl ⊢
          split
          · rename_i h
            rw [if_pos h] at fl
            rw [decide_eq_true h, cond_true, fitsB_true (by omega), cond_true]
            exact go _ (by omega)
          · rename_i h
            rw [decide_eq_false h, cond_false]
            exact go _ (by omega)
        · rw [decide_eq_false (show ¬ (k : Int) > (i : Int) by omega), cond_false]
          rw [decide_eq_false hki]
          exact go _ (by omega)
      rw [ref24_Absences_L4_succ, W_eq (n := (k : Int) + 1) (by omega) (by omega), show (k : Int) + 1 = ((k + 1 : Nat) : Int) by omega]
      by_cases hk1 : k + 1 < l.length
      · have hm := mem (k + 1) hk1
        have vr := hv _ hm
        rw [decide_eq_true (by omega), cond_true, inB_true (by omega), cond_true, Int.toNat_natCast, has_eq _ _ (by have := vr.2.2.2.1; omega), bind_some']
        rw [drop_get hk1] at J ⊢
        have hr := hrd _ hm
        have tm1 := tm (k + 1) hk1
        simp only [spc, hr, ne_eq, not_true_eq_false, if_false] at J ⊢
        by_cases ht : tag ∈ (l.getD (k + 1) D_Report).2.2.2
        · rw [if_pos ht] at J ⊢
          rw [decide_eq_true ht]
          simp only [Bool.not_true, cond_false]
          exact J
        · rw [if_neg ht] at J ⊢
          rw [decide_eq_false ht]
          simp only [Bool.not_false, cond_true]
          rw [inB_true (by omega), cond_true]
          simp only [Int.toNat_natCast]
          rw [xe, (follows_eq hxx tk tm1).2, bind_some']
          cases hf : fo x (l.getD k D_Report) (l.getD (k + 1) D_Report) with
          | true =>
            rw [cond_true]
            have := ih4 i (k + 1) n3 n out (by omega) hk1 (by omega) (by omega) (by omega) h6
            rw [this, decide_eq_true (show k + 1 > i by omega)]
          | false =>
            rw [cond_false]; exact J
      · rw [decide_eq_false (by omega), cond_false, J, List.drop_eq_nil_of_le (by omega)]; rfl
    refine ⟨h4, fun i n3 out h1 h2 h3 h5 => ?_⟩
    obtain ⟨n, rfl⟩ : ∃ n, n3 = n + 1 := ⟨n3 - 1, by omega⟩
    rw [ref24_Absences_L3_succ]
    by_cases hi : i < l.length
    · have hm := mem i hi
      have vr := hv _ hm
      have hr := hrd _ hm
      rw [decide_eq_true (by omega), cond_true, inB_true (by omega), cond_true, Int.toNat_natCast, has_eq _ _ (by have := vr.2.2.2.1; omega), bind_some', drop_get hi]
      simp only [spc, hr, ne_eq, not_true_eq_false, if_false]
      by_cases ht : tag ∈ (l.getD i D_Report).2.2.2
      · rw [decide_eq_true ht, cond_true, if_pos ht, W_eq (n := (i : Int) + 1) (by omega) (by omega), show (i : Int) + 1 = ((i + 1 : Nat) : Int) by omega]
        exact ih3 (i + 1) n out (by omega) (by omega) (by omega) (by omega)
      · rw [decide_eq_false ht, cond_false, if_neg ht]
        have := h4 i i n 1000 out (by omega) hi (by omega) (by omega) (by omega) h5
        rw [this, decide_eq_false (by omega)]
    · rw [decide_eq_false (by omega), cond_false, List.drop_eq_nil_of_le (by omega)]; rfl

theorem filt_loop {x : T_TagReader} (hx : Rd x) (rd tag : Int) (l : List T_Report) (hl : l.length ≤ 400) (hv : ∀ r, r ∈ l → Vr r) : ∀ (m n k : Nat), m + k = l.length → m < n →
    ref24_Absences_L2 1000 n rd tag l k x.1 x.2.1 x.2.2.1 x.2.2.2 ((l.take k).filter fun r => r.1 == rd) = some (spc x rd tag l none [], 0)
  | 0, n + 1, k, hk, hn => by
    rw [ref24_Absences_L2_succ, decide_eq_false (by omega), cond_false, List.take_of_length_le (by omega)]
    have hlen : (l.filter fun r => r.1 == rd).length ≤ 400 := Nat.le_trans (List.length_filter_le _ _) hl
    have := (ref_loops hx rd tag (l.filter fun r => r.1 == rd) hlen (fun r h => hv r (List.mem_filter.1 h).1) (fun r h => by have := (List.mem_filter.1 h).2; simpa using this) 400).2 0 1000 [] (by omega) (by omega) (by omega) (by simp)
    rw [show (0 : Int) = ((0 : Nat) : Int) from rfl, this, List.drop_zero, spc_filter]; rfl
  | m + 1, n + 1, k, hk, hn => by
    have hkl : k < l.length := by omega
    rw [ref24_Absences_L2_succ, decide_eq_true (by omega), cond_true, inB_true (by omega), cond_true, Int.toNat_natCast, W_eq (n := (k : Int) + 1) (by omega) (by omega), show (k : Int) + 1 = ((k + 1 : Nat) : Int) by omega]
    have ih := filt_loop hx rd tag l hl hv m n (k + 1) (by omega) (by omega)
    have et : l.take (k + 1) = l.take k ++ [l.getD k D_Report] := by
      rw [List.take_succ, List.getD_eq_getElem?_getD, List.getElem?_eq_getElem hkl]; rfl
    rw [et, List.filter_append] at ih
    have hlen : ((l.take k).filter fun r => r.1 == rd).length ≤ 400 := Nat.le_trans (List.length_filter_le _ _) (by rw [List.length_take]; omega)
    by_cases hr : (l.getD k D_Report).1 = rd
    · rw [eq2 hr, cond_true, cond_true, fitsB_true (by omega), cond_true]
      rw [List.filter_cons_of_pos (by simpa using hr)] at ih
      exact ih
    · rw [ne2 hr, cond_false]
      rw [List.filter_cons_of_neg (by simpa using hr), List.filter_nil, List.append_nil] at ih
      exact ih

/-! ### Both answers -/
theorem cf_loop (l : List T_Report) (hl : l.length ≤ 400) : ∀ (m n k : Nat), m + k = l.length → m < n → (∀ j, j < k → Vr (l.getD j D_Report)) → ∃ r, slices_IndexFunc_api_Report_api_Report_S1_L1 1000 n l l.length k = some (r, ()) ∧ (r ≥ 0 ↔ ¬ ∀ x, x ∈ l → Vr x)
  | 0, n + 1, k, hk, hn, hg => by
    rw [slices_IndexFunc_api_Report_api_Report_S1_L1_succ, decide_eq_false (by omega), cond_false]
    refine ⟨-1, rfl, fun h => by omega, fun h => absurd (fun x hx => ?_) h⟩
    obtain ⟨j, hj, e⟩ := List.mem_iff_getElem.1 hx
    have := hg j (by omega)
    rw [List.getD_eq_getElem?_getD, List.getElem?_eq_getElem hj] at this
    rw [← e]; exact this
  | m + 1, n + 1, k, hk, hn, hg => by
    rw [slices_IndexFunc_api_Report_api_Report_S1_L1_succ, decide_eq_true (by omega), cond_true, inB_true (by omega), cond_true, Int.toNat_natCast]
    obtain ⟨b, e, h⟩ := tags_valid (l.getD k D_Report)
    unfold sightings_Absences_1
    rw [e, bind_some', bind_some']
    cases b with
    | true =>
      simp only [Bool.not_true, cond_false]
      rw [W_eq (n := (k : Int) + 1) (by omega) (by omega), show (k : Int) + 1 = ((k + 1 : Nat) : Int) by omega]
      refine cf_loop l hl m n (k + 1) (by omega) (by omega) fun j hj => ?_
      by_cases e : j = k
      · subst e; exact h.1 rfl
      · exact hg j (by omega)
    | false =>
      simp only [Bool.not_false, cond_true]
      refine ⟨k, rfl, fun _ hh => ?_, fun _ => by omega⟩
      have := h.2 (hh _ (by rw [List.getD_eq_getElem?_getD, List.getElem?_eq_getElem (by omega)]; exact List.getElem_mem _))
      cases this
theorem rv_loop (rs : List T_TagReader) (rd tag : Int) (l : List T_Report) (hl : l.length ≤ 400) (ht : ∀ r, r ∈ l → r.2.2.2.length ≤ 900) : ∀ (m n k : Nat), m + k = l.length → m < n → (∀ j, j < k → Vr (l.getD j D_Report)) →
    (¬ (∀ x, x ∈ l → Vr x) ∧ ref24_Absences_L1 1000 n rs rd tag l k = some ([], 6)) ∨ ((∀ x, x ∈ l → Vr x) ∧ ref24_Absences_L1 1000 n rs rd tag l k = (bif (decide (rd < 0)) then some ([], 40) else bif (decide (rd ≥ (rs.length : Int))) then some ([], 40) else ref24_Absences_J1 1000 rs rd tag l))
  | 0, n + 1, k, hk, hn, hg => by
    refine .inr ⟨fun x hx => ?_, ?_⟩
    · obtain ⟨j, hj, e⟩ := List.mem_iff_getElem.1 hx
      have := hg j (by omega)
      rw [List.getD_eq_getElem?_getD, List.getElem?_eq_getElem hj] at this
      rw [← e]; exact this
    · rw [ref24_Absences_L1_succ, decide_eq_false (show ¬ (k : Int) < (l.length : Int) by omega), cond_false]
  | m + 1, n + 1, k, hk, hn, hg => by
    have hm : l.getD k D_Report ∈ l := by rw [List.getD_eq_getElem?_getD, List.getElem?_eq_getElem (by omega)]; exact List.getElem_mem _
    rw [ref24_Absences_L1_succ, decide_eq_true (show (k : Int) < (l.length : Int) by omega), cond_true, inB_true (by omega), cond_true, Int.toNat_natCast]
    obtain ⟨b, _, e, h⟩ := valid_both (l.getD k D_Report) (ht _ hm)
    rw [e, bind_some']
    cases b with
    | true =>
      simp only [Bool.not_true, cond_false]
      rw [W_eq (n := (k : Int) + 1) (by omega) (by omega), show (k : Int) + 1 = ((k + 1 : Nat) : Int) by omega]
      refine rv_loop rs rd tag l hl ht m n (k + 1) (by omega) (by omega) fun j hj => ?_
      by_cases e : j = k
      · subst e; exact h.1 rfl
      · exact hg j (by omega)
    | false =>
      simp only [Bool.not_false, cond_true]
      refine .inl ⟨fun hh => ?_, trivial⟩
      have := h.2 (hh _ hm)
      cases this
theorem abs_both {rs : List T_TagReader} (hrs : ∀ x, x ∈ rs → Rd x) (hn : rs.length ≤ 1000) (rd tag : Int) (l : List T_Report) (hl : l.length ≤ 400) (ht : ∀ r, r ∈ l → r.2.2.2.length ≤ 900) :
    ∃ o e, sightings_Absences 1000 rs rd tag l = some ((o, e), ()) ∧ ref24_Absences 1000 rs rd tag l = some (o, e) ∧ o.length ≤ 401 ∧ ((e = 0 ∧ (∀ r, r ∈ l → Vr r) ∧ 0 ≤ rd ∧ rd < rs.length ∧ 1 ≤ tag ∧ tag ≤ 65535 ∧ o = spc (rs.getD rd.toNat D_TagReader) rd tag l none []) ∨ (e ≠ 0 ∧ o = [])) := by
  have slen : ∀ (x : T_TagReader) (l : List T_Report) (s : Sta) (out : List T_Absence), (spc x rd tag l s out).length ≤ out.length + l.length + 1 := by
    intro x l
    induction l with
    | nil => intro s out; have := fin_len x rd tag s out; simpa [spc] using this
    | cons r l ih =>
      intro s out
      have fl := fin_len x rd tag s out
      simp only [spc, List.length_cons]
      split
      · have := ih s out; omega
      · split
        · have := ih none (fin x rd tag s out); omega
        · cases s with
          | none => have := ih (some (r, r, false)) out; simp only; omega
          | some p =>
            obtain ⟨a, b, m⟩ := p
            simp only
            split
            · have := ih (some (a, r, true)) out; omega
            · have := ih (some (r, r, false)) (fin x rd tag (some (a, b, m)) out); omega
  unfold sightings_Absences ref24_Absences slices_ContainsFunc_api_Report_api_Report_S1 slices_IndexFunc_api_Report_api_Report_S1
  rw [decide_eq_false (by omega), cond_false, cond_false]
  obtain ⟨r, e1, h1⟩ := cf_loop l hl l.length 1000 0 rfl (by omega) fun j hj => by omega
  rw [show ((0 : Nat) : Int) = 0 from rfl] at e1
  rw [e1, bind_some', bind_some']
  simp only
  rcases rv_loop rs rd tag l hl ht l.length 1000 0 rfl (by omega) (fun j hj => by omega) with ⟨g, e2⟩ | ⟨g, e2⟩ <;> rw [show ((0 : Nat) : Int) = 0 from rfl] at e2
  · rw [decide_eq_true (h1.2 g), cond_true, e2]
    exact ⟨[], 6, rfl, rfl, by simp, .inr ⟨by omega, rfl⟩⟩
  · have : ¬ r ≥ 0 := fun h => (h1.1 h) g
    rw [decide_eq_false this, cond_false, e2]
    by_cases c1 : rd < 0
    · rw [decide_eq_true c1]; exact ⟨[], 40, rfl, rfl, by simp, .inr ⟨by omega, rfl⟩⟩
    rw [decide_eq_false c1, cond_false, cond_false]
    by_cases c2 : rd ≥ (rs.length : Int)
    · rw [decide_eq_true c2]; exact ⟨[], 40, rfl, rfl, by simp, .inr ⟨by omega, rfl⟩⟩
    rw [decide_eq_false c2, cond_false, cond_false, in_eq, bind_some', ref24_Absences_J1_eq]
    by_cases c3 : tag < 1
    · have : (decide ((1 : Int) ≤ tag) && decide (tag ≤ 65535)) = false := by simp; omega
      rw [decide_eq_true c3, this]; exact ⟨[], 41, rfl, rfl, by simp, .inr ⟨by omega, rfl⟩⟩
    by_cases c4 : tag > 65535
    · have : (decide ((1 : Int) ≤ tag) && decide (tag ≤ 65535)) = false := by simp; omega
      rw [decide_eq_false c3, decide_eq_true c4, this]; exact ⟨[], 41, rfl, rfl, by simp, .inr ⟨by omega, rfl⟩⟩
    have : (decide ((1 : Int) ≤ tag) && decide (tag ≤ 65535)) = true := by simp; omega
    rw [decide_eq_false c3, decide_eq_false c4, this]
    simp only [Bool.not_true, cond_false]
    rw [ref24_Absences_J2_eq, inB_true (by omega), cond_true]
    simp only
    have hx : Rd (rs.getD rd.toNat D_TagReader) := hrs _ (by rw [List.getD_eq_getElem?_getD, List.getElem?_eq_getElem (by omega)]; exact List.getElem_mem _)
    have p1 := prog_loop hx rd tag l hl g l.length 1000 0 [] [] none rfl (by omega) (by simp) (by simp) (.inl ⟨rfl, rfl⟩)
    have p2 := filt_loop hx rd tag l hl g l.length 1000 0 rfl (by omega)
    simp only [List.take_zero, List.filter_nil, List.drop_zero] at p1 p2
    have := slen (rs.getD rd.toNat D_TagReader) l none []
    simp only [List.length_nil] at this
    exact ⟨_, 0, p1, p2, by omega, .inl ⟨rfl, g, by omega, by omega, by omega, by omega, rfl⟩⟩

def ofS (x : T_TagReader) (r : T_Report) : List T_Absence := r.2.2.2.map fun t => (r.1, (t, (max 0 (r.2.2.1 - x.2.2.2), r.2.2.1 + x.2.2.2)))
theorem map_take {l : List Int} {k : Nat} (f : Int → T_Absence) (h : k < l.length) : (l.take k).map f ++ [f (l.getD k 0)] = (l.take (k + 1)).map f := by
  rw [List.take_succ, List.getD_eq_getElem?_getD, List.getElem?_eq_getElem h, List.map_append]; rfl
theorem of_both {rs : List T_TagReader} (hrs : ∀ x, x ∈ rs → Rd x) (r : T_Report) (hl : r.2.2.2.length ≤ 900) : ∃ o e, sightings_Of 1000 rs r = some (o, e) ∧ ref24_Of 1000 rs r = some (o, e) ∧ o.length ≤ 900 ∧ ((e = 0 ∧ Vr r ∧ r.1 < rs.length ∧ o = ofS (rs.getD r.1.toNat D_TagReader) r) ∨ (e ≠ 0 ∧ ¬ (Vr r ∧ r.1 < rs.length))) := by
  obtain ⟨b, e1, e2, h⟩ := valid_both r hl
  unfold sightings_Of ref24_Of
  rw [e1, e2, bind_some', bind_some']
  cases b with
  | false => exact ⟨[], 6, rfl, rfl, by simp, .inr ⟨by omega, fun hh => by have := h.2 hh.1; cases this⟩⟩
  | true =>
    have vr := h.1 rfl
    simp only [Bool.not_true, cond_false]
    by_cases c : r.1 ≥ (rs.length : Int)
    · rw [decide_eq_true c]; exact ⟨[], 40, rfl, rfl, by simp, .inr ⟨by omega, fun hh => by omega⟩⟩
    rw [decide_eq_false c, cond_false, cond_false]
    have r0 := vr.1.1
    rw [inB_true (by omega), cond_true]
    have hx : Rd (rs.getD r.1.toNat D_TagReader) := hrs _ (by rw [List.getD_eq_getElem?_getD, List.getElem?_eq_getElem (by omega)]; exact List.getElem_mem _)
    obtain ⟨x1, x2, x3⟩ := hx
    have t := vr.2.2.1
    have w1 : W (r.2.2.1 - (rs.getD r.1.toNat D_TagReader).2.2.2) = r.2.2.1 - (rs.getD r.1.toNat D_TagReader).2.2.2 := W_eq (by omega) (by omega)
    have w2 : W (r.2.2.1 + (rs.getD r.1.toNat D_TagReader).2.2.2) = r.2.2.1 + (rs.getD r.1.toNat D_TagReader).2.2.2 := W_eq (by omega) (by omega)
    have p1 : ∀ (m n k : Nat), m + k = r.2.2.2.length → m < n → sightings_Of_L1 1000 n (rs.getD r.1.toNat D_TagReader).2.2.2 r.2.2.2 r.2.2.2.length k r.1 r.2.1 r.2.2.1 r.2.2.2 ((r.2.2.2.take k).map fun t => (r.1, (t, (max 0 (r.2.2.1 - (rs.getD r.1.toNat D_TagReader).2.2.2), r.2.2.1 + (rs.getD r.1.toNat D_TagReader).2.2.2)))) = some (ofS (rs.getD r.1.toNat D_TagReader) r, 0) := by
      intro m
      induction m with
      | zero =>
        intro n k hk hn
        obtain ⟨n, rfl⟩ : ∃ n', n = n' + 1 := ⟨n - 1, by omega⟩
        rw [sightings_Of_L1_succ, decide_eq_false (by omega), cond_false, List.take_of_length_le (by omega)]; rfl
      | succ m ih =>
        intro n k hk hn
        obtain ⟨n, rfl⟩ : ∃ n', n = n' + 1 := ⟨n - 1, by omega⟩
        rw [sightings_Of_L1_succ, decide_eq_true (by omega), cond_true, inB_true (by omega), cond_true, fitsB_true (by rw [List.length_map, List.length_take]; omega), cond_true, Int.toNat_natCast, W_eq (n := (k : Int) + 1) (by omega) (by omega), show (k : Int) + 1 = ((k + 1 : Nat) : Int) by omega, w1, w2, map_take (fun t => (r.1, (t, (max 0 (r.2.2.1 - (rs.getD r.1.toNat D_TagReader).2.2.2), r.2.2.1 + (rs.getD r.1.toNat D_TagReader).2.2.2)))) (by omega)]
        exact ih n (k + 1) (by omega) (by omega)
    have p2 : ∀ (m n k : Nat), m + k = r.2.2.2.length → m < n → ref24_Of_L1 1000 n rs k r.1 r.2.1 r.2.2.1 r.2.2.2 ((r.2.2.2.take k).map fun t => (r.1, (t, (max 0 (r.2.2.1 - (rs.getD r.1.toNat D_TagReader).2.2.2), r.2.2.1 + (rs.getD r.1.toNat D_TagReader).2.2.2)))) = some (ofS (rs.getD r.1.toNat D_TagReader) r, 0) := by
      intro m
      induction m with
      | zero =>
        intro n k hk hn
        obtain ⟨n, rfl⟩ : ∃ n', n = n' + 1 := ⟨n - 1, by omega⟩
        rw [ref24_Of_L1_succ, decide_eq_false (by omega), cond_false, List.take_of_length_le (by omega)]; rfl
      | succ m ih =>
        intro n k hk hn
        obtain ⟨n, rfl⟩ : ∃ n', n = n' + 1 := ⟨n - 1, by omega⟩
        rw [ref24_Of_L1_succ, decide_eq_true (by omega), cond_true, inB_true (by omega), cond_true, inB_true (by omega), cond_true, cond_true, fitsB_true (by rw [List.length_map, List.length_take]; omega), cond_true, Int.toNat_natCast, W_eq (n := (k : Int) + 1) (by omega) (by omega), show (k : Int) + 1 = ((k + 1 : Nat) : Int) by omega, w1, w2, map_take (fun t => (r.1, (t, (max 0 (r.2.2.1 - (rs.getD r.1.toNat D_TagReader).2.2.2), r.2.2.1 + (rs.getD r.1.toNat D_TagReader).2.2.2)))) (by omega)]
        exact ih n (k + 1) (by omega) (by omega)
    exact ⟨_, 0, p1 r.2.2.2.length 1000 0 rfl (by omega), p2 r.2.2.2.length 1000 0 rfl (by omega), by unfold ofS; rw [List.length_map]; omega, .inl ⟨rfl, vr, by omega, rfl⟩⟩

theorem same4 (v : T_Absence) : (!((v.1 == v.1) && ((v.2.1 == v.2.1) && ((v.2.2.1 == v.2.2.1) && (v.2.2.2 == v.2.2.2))))) = false := by simp
theorem sameA (l : List T_Absence) (hl : l.length ≤ 950) : law24_sameAbsences 1000 l l = some true := by
  unfold law24_sameAbsences
  rw [bne_self_eq_false, cond_false]
  have : ∀ (m n k : Nat), m + k = l.length → m < n → law24_sameAbsences_L1 1000 n l l k = some true := by
    intro m
    induction m with
    | zero =>
      intro n k hk hn
      obtain ⟨n, rfl⟩ : ∃ n', n = n' + 1 := ⟨n - 1, by omega⟩
      rw [law24_sameAbsences_L1_succ, decide_eq_false (by omega), cond_false]
    | succ m ih =>
      intro n k hk hn
      obtain ⟨n, rfl⟩ : ∃ n', n = n' + 1 := ⟨n - 1, by omega⟩
      rw [law24_sameAbsences_L1_succ, decide_eq_true (by omega), cond_true, inB_true (by omega), cond_true, cond_true]
      simp only [same4, cond_false]
      rw [W_eq (n := (k : Int) + 1) (by omega) (by omega), show (k : Int) + 1 = ((k + 1 : Nat) : Int) by omega]
      exact ih n (k + 1) (by omega) (by omega)
  exact this l.length 1000 0 rfl (by omega)
theorem sameS (l : List T_Absence) (hl : l.length ≤ 950) : law24_sameSights 1000 l l = some true := by
  unfold law24_sameSights
  rw [bne_self_eq_false, cond_false]
  have : ∀ (m n k : Nat), m + k = l.length → m < n → law24_sameSights_L1 1000 n l l k = some true := by
    intro m
    induction m with
    | zero =>
      intro n k hk hn
      obtain ⟨n, rfl⟩ : ∃ n', n = n' + 1 := ⟨n - 1, by omega⟩
      rw [law24_sameSights_L1_succ, decide_eq_false (by omega), cond_false]
    | succ m ih =>
      intro n k hk hn
      obtain ⟨n, rfl⟩ : ∃ n', n = n' + 1 := ⟨n - 1, by omega⟩
      rw [law24_sameSights_L1_succ, decide_eq_true (by omega), cond_true, inB_true (by omega), cond_true, cond_true]
      simp only [same4, cond_false]
      rw [W_eq (n := (k : Int) + 1) (by omega) (by omega), show (k : Int) + 1 = ((k + 1 : Nat) : Int) by omega]
      exact ih n (k + 1) (by omega) (by omega)
  exact this l.length 1000 0 rfl (by omega)
theorem agree_true {rs : List T_TagReader} (hrs : ∀ x, x ∈ rs → Rd x) (hn : rs.length ≤ 1000) (rd tag : Int) (l : List T_Report) (hl : l.length ≤ 400) (ht : ∀ r, r ∈ l → r.2.2.2.length ≤ 900) : law24_agree 1000 rs rd tag l = some true := by
  unfold law24_agree
  have : ∀ (m n k : Nat), m + k = l.length → m < n → law24_agree_L1 1000 n rs rd tag l k = some true := by
    intro m
    induction m with
    | zero =>
      intro n k hk hn
      obtain ⟨n, rfl⟩ : ∃ n', n = n' + 1 := ⟨n - 1, by omega⟩
      rw [law24_agree_L1_succ, decide_eq_false (by omega), cond_false]
      obtain ⟨o, e, h1, h2, h3, _⟩ := abs_both hrs (by omega) rd tag l hl ht
      rw [h1, h2, bind_some', bind_some']
      simp only
      rw [beq_self_eq_true, cond_true, sameA o (by omega)]; rfl
    | succ m ih =>
      intro n k hk hn
      obtain ⟨n, rfl⟩ : ∃ n', n = n' + 1 := ⟨n - 1, by omega⟩
      have hm : l.getD k D_Report ∈ l := by rw [List.getD_eq_getElem?_getD, List.getElem?_eq_getElem (by omega)]; exact List.getElem_mem _
      obtain ⟨o, e, h1, h2, h3, _⟩ := of_both hrs (l.getD k D_Report) (ht _ hm)
      rw [law24_agree_L1_succ, decide_eq_true (by omega), cond_true, inB_true (by omega), cond_true, Int.toNat_natCast, h1, bind_some', cond_true, h2, bind_some']
      simp only
      rw [bne_self_eq_false, cond_false, sameS o (by omega), bind_some']
      simp only [Bool.not_true, cond_false]
      rw [W_eq (n := (k : Int) + 1) (by omega) (by omega), show (k : Int) + 1 = ((k + 1 : Nat) : Int) by omega]
      exact ih n (k + 1) (by omega) (by omega)
  exact this l.length 1000 0 rfl (by omega)

theorem readers_loop {ps : List T_Place} {rs : List T_Road} (hp : 1 ≤ ps.length ∧ ps.length ≤ 100) : ∀ (n k : Nat) (d : T_Dice) (l : List T_TagReader), k < n → k ≤ 3 → l.length + k ≤ 3 → Dk d → (∀ x, x ∈ l → Rd x) →
    ∃ l' d', made_Dice_Readers_L1 1000 n k d.1 d.2 ps rs l = some (l', d') ∧ l'.length ≤ 3 ∧ (∀ x, x ∈ l' → Rd x) ∧ Dk d'
  | n + 1, 0, d, l, hn, hk, hl, hd, hx => by
    rw [made_Dice_Readers_L1_succ]
    exact ⟨l, d, rfl, by omega, hx, hd⟩
  | n + 1, k + 1, d, l, hn, hk, hl, hd, hx => by
    rw [made_Dice_Readers_L1_succ, decide_eq_true (by omega), cond_true]
    obtain ⟨s, d1, e1, _, _, _, hd1⟩ := some_spec hd (q := ps.length) (by omega)
    rw [show ((d.1, d.2) : T_Dice) = d from rfl, e1, bind_some']
    obtain ⟨c, d3, e3, m3, hd3⟩ := of_spec 1000 hd1 [9, 29, 4] (by decide) (by decide)
    simp only
    rw [e3, bind_some']
    obtain ⟨w, d5, e5, w1, w2, hd5⟩ := next_spec 1000 hd3 (n := 3) (by omega) (by omega)
    simp only
    rw [e5, bind_some']
    obtain ⟨g, d4, e4, m4, hd4⟩ := of_spec 1000 hd5 [0, 1, 5] (by decide) (by decide)
    simp only
    rw [e4, bind_some']
    simp only
    simp only [List.mem_cons, List.not_mem_nil, or_false] at m3 m4
    rw [W_eq (n := ((k + 1 : Nat) : Int) - 1) (by omega) (by omega), show ((k + 1 : Nat) : Int) - 1 = (k : Int) by omega, W_eq (n := 1 + c) (by omega) (by omega), fitsB_true (by omega)]
    have hr : ∀ p : List Int, Rd (p, (1 + c, (w, g))) := fun p => ⟨⟨by show 0 ≤ 1 + c; omega, by show 1 + c ≤ 1000; omega⟩, ⟨by show 0 ≤ w; omega, by show w ≤ 100; omega⟩, ⟨by show 0 ≤ g; omega, by show g ≤ 100; omega⟩⟩
    by_cases h0 : (s.length : Int) = 0
    · rw [eq2 h0, cond_true]
      obtain ⟨z, d6, e6, _, _, hd6⟩ := next_spec 1000 hd4 (n := (ps.length : Int)) (by omega) (by omega)
      rw [e6, bind_some', cond_true]
      exact readers_loop hp n k d6 _ (by omega) (by omega) (by rw [List.length_append, List.length_singleton]; omega) hd6 (mem_app hx (hr _))
    · rw [ne2 h0, cond_false, cond_true]
      exact readers_loop hp n k d4 _ (by omega) (by omega) (by rw [List.length_append, List.length_singleton]; omega) hd4 (mem_app hx (hr _))
theorem readers_spec {d : T_Dice} (hd : Dk d) {m : T_Mine} (hm : Mk m) : ∃ l d', made_Dice_Readers 1000 d m = some (l, d') ∧ l.length ≤ 3 ∧ (∀ x, x ∈ l → Rd x) ∧ Dk d' := by
  unfold made_Dice_Readers
  obtain ⟨a, d1, e1, a1, a2, hd1⟩ := next_spec 1000 hd (n := 4) (by omega) (by omega)
  rw [e1, bind_some']
  obtain ⟨k, rfl⟩ := Int.eq_ofNat_of_zero_le a1
  exact readers_loop ⟨by have := hm.n1; omega, by have := hm.n2; omega⟩ 1000 k d1 [] (by omega) (by omega) (by simp; omega) hd1 (fun x hx => by cases hx)

/-! ### The law of made rows -/
theorem made2 {rs : List T_TagReader} (hrs : ∀ x, x ∈ rs → Rd x) (hn : rs.length ≤ 4) (l : List T_Report) (hl : l.length ≤ 400) (ht : ∀ r, r ∈ l → r.2.2.2.length ≤ 900) : ∀ (m n k : Nat) (d : T_Dice), m + k = rs.length → m < n → Dk d → law24_SightingsMade_L2 1000 n l k d.1 d.2 rs = some true
  | 0, n + 1, k, d, hk, hn', hd => by
    rw [law24_SightingsMade_L2_succ, decide_eq_false (by omega), cond_false, awake_eq]; rfl
  | m + 1, n + 1, k, d, hk, hn', hd => by
    rw [law24_SightingsMade_L2_succ, decide_eq_true (by omega), cond_true, inB_true (by omega), cond_true, Int.toNat_natCast]
    rw [show sightings_Blind 1000 (rs.getD k D_TagReader) = some (W ((W ((rs.getD k D_TagReader).2.2.1 + 1)) * (rs.getD k D_TagReader).2.1)) from rfl, show ref24_Blind 1000 (rs.getD k D_TagReader) = some (W ((W ((rs.getD k D_TagReader).2.2.1 + 1)) * (rs.getD k D_TagReader).2.1)) from rfl, bind_some', cond_true, bind_some', bne_self_eq_false, cond_false]
    obtain ⟨c, d3, e3, m3, hd3⟩ := of_spec 1000 hd [4, 5] (by decide) (by decide)
    rw [show ((d.1, d.2) : T_Dice) = d from rfl, e3, bind_some', agree_true hrs (by omega) _ _ l hl ht, bind_some']
    simp only [Bool.not_true, cond_false]
    rw [W_eq (n := (k : Int) + 1) (by omega) (by omega), show (k : Int) + 1 = ((k + 1 : Nat) : Int) by omega]
    exact made2 hrs hn l hl ht m n (k + 1) d3 (by omega) (by omega) hd3
theorem made1 {rs : List T_TagReader} (hrs : ∀ x, x ∈ rs → Rd x) (hn : rs.length ≤ 4) : ∀ (n k : Nat) (d : T_Dice) (num time : Int) (l : List T_Report), k < n → k ≤ 20 → l.length + k ≤ 20 → Dk d → (∀ r, r ∈ l → r.2.2.2.length ≤ 900) → law24_SightingsMade_L1 1000 n num time k d.1 d.2 rs l = some true
  | n + 1, 0, d, num, time, l, hk, hk2, hl, hd, ht => by
    rw [law24_SightingsMade_L1_succ]
    exact made2 hrs hn l (by omega) ht rs.length 1000 0 d rfl (by omega) hd
  | n + 1, k + 1, d, num, time, l, hk, hk2, hl, hd, ht => by
    rw [law24_SightingsMade_L1_succ, decide_eq_true (by omega), cond_true]
    obtain ⟨c, d3, e3, m3, hd3⟩ := of_spec 1000 hd [0, 0, 0, 1] (by decide) (by decide)
    rw [show ((d.1, d.2) : T_Dice) = d from rfl, e3, bind_some']
    obtain ⟨z, d6, e6, hd6⟩ := one_spec 1000 hd3 (n := 5) (by omega) (by omega)
    simp only
    rw [e6, bind_some']
    simp only
    obtain ⟨g, d4, e4, m4, hd4⟩ := of_spec 1000 hd6 [1, 1, 1, 2] (by decide) (by decide)
    rw [e4, bind_some', bind_some']
    simp only
    obtain ⟨h, d5, e5, m5, hd5⟩ := of_spec 1000 hd4 [10, 5, 14, 15, (-1), 0] (by simp) (by simp)
    rw [e5, bind_some', bind_some', fitsB_true (by omega), cond_true, cond_true, W_eq (n := ((k + 1 : Nat) : Int) - 1) (by omega) (by omega), show ((k + 1 : Nat) : Int) - 1 = (k : Int) by omega]
    cases z with
    | true => exact made1 hrs hn n k d5 _ _ _ (by omega) (by omega) (by rw [List.length_append, List.length_singleton]; omega) hd5 (mem_app ht (by show [4].length ≤ 900; decide))
    | false => exact made1 hrs hn n k d5 _ _ _ (by omega) (by omega) (by rw [List.length_append, List.length_singleton]; omega) hd5 (mem_app ht (by show ([] : List Int).length ≤ 900; decide))
theorem made_true (t : List Int) : law24_SightingsMade 1000 t = some true := by
  unfold law24_SightingsMade
  rw [light_eq, bind_some']
  by_cases h : (t.length : Int) ≤ 400
  · simp only [h, decide_true, Bool.not_true, cond_false]
    rw [roll_spec, bind_some']
    obtain ⟨m, d1, e1, hm, hd1⟩ := mine_spec (rollD_ok (l := t) (by omega))
    simp only
    rw [e1, bind_some']
    obtain ⟨rs, d2, e2, hl, hrs, hd2⟩ := readers_spec hd1 hm
    simp only
    rw [e2, bind_some']
    simp only
    rw [fitsB_true (by omega), cond_true]
    obtain ⟨c, d3, e3, m3, hd3⟩ := of_spec 1000 hd2 [0, 65530, 7] (by decide) (by decide)
    rw [e3, bind_some']
    obtain ⟨a, d4, e4, a1, a2, hd4⟩ := next_spec 1000 hd3 (n := 20) (by omega) (by omega)
    simp only
    rw [e4, bind_some']
    obtain ⟨k, rfl⟩ := Int.eq_ofNat_of_zero_le a1
    exact made1 (mem_app hrs ⟨⟨by decide, by decide⟩, ⟨by decide, by decide⟩, ⟨by decide, by decide⟩⟩) (by rw [List.length_append, List.length_singleton]; omega) 1000 k d4 _ _ [] (by omega) (by omega) (by simp; omega) hd4 (fun r hr => by cases hr)
  · simp only [h, decide_false, Bool.not_false, cond_true]
    rw [awake_eq]; rfl
theorem sightingsMade_any (dargs : List DV) (h : TyAs [(false, [.sl [.it .i64]])] dargs) : CallOK Try.prog 3 dargs [] 0 (B true) [] 0 :=
  law_any (law24_SightingsMade_pure 1000) (fun x _ => made_true _) rfl dargs h
end Go.Proofs.Ytiialoppbdcojaa
