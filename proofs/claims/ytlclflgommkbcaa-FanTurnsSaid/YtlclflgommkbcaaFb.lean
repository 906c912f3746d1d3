/- Fans: the curves of the program and of its reference are the same, and fall. No condition of its own. -/
import Derived.Test.YtlclflgommkbcaaFa
set_option linter.all false
namespace Go.Proofs.Ytlclflgommkbcaa
open Go.Pv M

/-! ### Lines -/
def ce (t w : Int) : Int := t / w + (if t % w > 0 then 1 else 0)
theorem div_mono {t t' w : Int} (hw : 0 < w) (h : t ≤ t') : t / w ≤ t' / w := Int.ediv_le_ediv hw h
theorem ce_mono {t t' w : Int} (hw : 0 < w) (h : t ≤ t') : ce t w ≤ ce t' w := by
  have h1 := div_mono hw h
  have e1 := Int.mul_ediv_add_emod t w
  have e2 := Int.mul_ediv_add_emod t' w
  have := Int.emod_nonneg t (show w ≠ 0 by omega)
  have := Int.emod_nonneg t' (show w ≠ 0 by omega)
  unfold ce
  by_cases he : t / w = t' / w
  · rw [he] at e1 ⊢
    split <;> split <;> omega
  · split <;> split <;> omega
theorem ce_le {t w D : Int} (hw : 0 < w) (h : t ≤ D * w) : ce t w ≤ D := by
  have h1 : t / w ≤ D := Int.ediv_le_of_le_mul hw h
  have e1 := Int.mul_ediv_add_emod t w
  have := Int.emod_nonneg t (show w ≠ 0 by omega)
  unfold ce
  by_cases he : t / w = D
  · rw [he, Int.mul_comm] at e1
    split <;> omega
  · split <;> omega
theorem line_eq (p q : T_Point) (x : Int) : line p q x = (p.2 - ce ((p.2 - q.2) * (x - p.1)) (q.1 - p.1), p.2 - ((p.2 - q.2) * (x - p.1)) / (q.1 - p.1)) := by
  unfold line ce; rw [Int.sub_sub]
theorem line_bd {p q : T_Point} {x : Int} (h1 : p.1 < q.1) (h2 : q.2 ≤ p.2) (hx : p.1 ≤ x ∧ x ≤ q.1) : q.2 ≤ (line p q x).1 ∧ (line p q x).1 ≤ (line p q x).2 ∧ (line p q x).2 ≤ p.2 ∧ (line p q x).2 - (line p q x).1 ≤ 1 := by
  rw [line_eq]
  have hw : 0 < q.1 - p.1 := by omega
  have t0 : 0 ≤ (p.2 - q.2) * (x - p.1) := Int.mul_nonneg (by omega) (by omega)
  have t1 : (p.2 - q.2) * (x - p.1) ≤ (p.2 - q.2) * (q.1 - p.1) := Int.mul_le_mul_of_nonneg_left (by omega) (by omega)
  have c1 := ce_le hw t1
  have c2 : 0 ≤ ((p.2 - q.2) * (x - p.1)) / (q.1 - p.1) := Int.ediv_nonneg t0 (by omega)
  have c3 : ce ((p.2 - q.2) * (x - p.1)) (q.1 - p.1) - ((p.2 - q.2) * (x - p.1)) / (q.1 - p.1) ≤ 1 ∧ 0 ≤ ce ((p.2 - q.2) * (x - p.1)) (q.1 - p.1) - ((p.2 - q.2) * (x - p.1)) / (q.1 - p.1) := by
    unfold ce; split <;> omega
  show q.2 ≤ p.2 - _ ∧ p.2 - _ ≤ p.2 - _ ∧ p.2 - _ ≤ p.2 ∧ p.2 - _ - (p.2 - _) ≤ 1
  omega
theorem line_mono {p q : T_Point} {x y : Int} (h1 : p.1 < q.1) (h2 : q.2 ≤ p.2) (hx : x ≤ y) : (line p q y).1 ≤ (line p q x).1 ∧ (line p q y).2 ≤ (line p q x).2 := by
  rw [line_eq, line_eq]
  have hw : 0 < q.1 - p.1 := by omega
  have t1 : (p.2 - q.2) * (x - p.1) ≤ (p.2 - q.2) * (y - p.1) := Int.mul_le_mul_of_nonneg_left (by omega) (by omega)
  have c1 := ce_mono hw t1
  have c2 := div_mono hw t1
  show p.2 - _ ≤ p.2 - _ ∧ p.2 - _ ≤ p.2 - _
  omega

/-! ### Right curves -/
theorem Right.lt {l : List T_Point} (h : Right l) : ∀ (d i : Nat), i + d + 1 < l.length → (pt l i).1 < (pt l (i + d + 1)).1 ∧ (pt l (i + d + 1)).2 ≤ (pt l i).2
  | 0, i, hi => h.st i hi
  | d + 1, i, hi => by
    have h1 := Right.lt h d i (by omega)
    have h2 := h.st (i + d + 1) hi
    unfold okStep at h2
    have e : i + (d + 1) + 1 = i + d + 1 + 1 := by omega
    rw [e]; omega
theorem Right.lt' {l : List T_Point} (h : Right l) {i j : Nat} (h1 : i < j) (h2 : j < l.length) : (pt l i).1 < (pt l j).1 ∧ (pt l j).2 ≤ (pt l i).2 := by
  have := h.lt (j - i - 1) i (by omega)
  rw [show i + (j - i - 1) + 1 = j by omega] at this; exact this
theorem Right.le {l : List T_Point} (h : Right l) {i j : Nat} (h1 : i ≤ j) (h2 : j < l.length) : (pt l i).1 ≤ (pt l j).1 ∧ (pt l j).2 ≤ (pt l i).2 := by
  by_cases e : i = j
  · subst e; exact ⟨Int.le_refl _, Int.le_refl _⟩
  · have := h.lt' (i := i) (j := j) (by omega) h2; omega

/-- What a curve answers. -/
def Sp (l : List T_Point) (x : Int) (r : T_Point) : Prop :=
  (x ≤ (pt l 0).1 ∧ r = ((pt l 0).2, (pt l 0).2)) ∨ ((pt l (l.length - 1)).1 ≤ x ∧ r = ((pt l (l.length - 1)).2, (pt l (l.length - 1)).2)) ∨
  ∃ i, i + 1 < l.length ∧ (pt l i).1 ≤ x ∧ x ≤ (pt l (i + 1)).1 ∧ r = line (pt l i) (pt l (i + 1)) x
theorem Sp.lo {l : List T_Point} (h : Right l) {x : Int} {r : T_Point} (hs : Sp l x r) {j : Nat} (hj : j < l.length) (hx : (pt l j).1 ≤ x) : r.2 ≤ (pt l j).2 := by
  rcases hs with ⟨h1, rfl⟩ | ⟨h1, rfl⟩ | ⟨i, hi, h1, h2, rfl⟩
  · by_cases e : j = 0
    · subst e; exact Int.le_refl _
    · have := h.lt' (i := 0) (j := j) (by omega) hj; omega
  · exact (h.le (i := j) (j := l.length - 1) (by omega) (by omega)).2
  · have b := line_bd (h.st i hi).1 (h.st i hi).2 ⟨h1, h2⟩
    by_cases e : j ≤ i
    · have := (h.le e (by omega)).2; omega
    · have k := h.le (i := i + 1) (j := j) (by omega) hj
      have e2 : j = i + 1 := by
        apply Classical.byContradiction; intro hne
        have := h.lt' (i := i + 1) (j := j) (by omega) hj; omega
      subst e2
      have ex : x = (pt l (i + 1)).1 := by omega
      have hw := (h.st i hi).1
      have : (line (pt l i) (pt l (i + 1)) x).2 = (pt l (i + 1)).2 := by
        rw [line_eq, ex]
        show (pt l i).2 - ((pt l i).2 - (pt l (i + 1)).2) * ((pt l (i + 1)).1 - (pt l i).1) / ((pt l (i + 1)).1 - (pt l i).1) = _
        rw [Int.mul_ediv_cancel _ (by omega)]; omega
      omega
theorem Sp.hi {l : List T_Point} (h : Right l) {x : Int} {r : T_Point} (hs : Sp l x r) {j : Nat} (hj : j < l.length) (hx : x ≤ (pt l j).1) : (pt l j).2 ≤ r.1 := by
  rcases hs with ⟨h1, rfl⟩ | ⟨h1, rfl⟩ | ⟨i, hi, h1, h2, rfl⟩
  · exact (h.le (i := 0) (j := j) (by omega) hj).2
  · by_cases e : j = l.length - 1
    · subst e; exact Int.le_refl _
    · have := h.lt' (i := j) (j := l.length - 1) (by omega) (by omega); omega
  · have b := line_bd (h.st i hi).1 (h.st i hi).2 ⟨h1, h2⟩
    by_cases e : i < j
    · have := (h.le (i := i + 1) (j := j) (by omega) hj).2; omega
    · have e2 : j = i := by
        apply Classical.byContradiction; intro hne
        have := h.lt' (i := j) (j := i) (by omega) (by omega); omega
      subst e2
      have ex : x = (pt l j).1 := by omega
      have : (line (pt l j) (pt l (j + 1)) x).1 = (pt l j).2 := by
        rw [line_eq, ex]
        show (pt l j).2 - ce (((pt l j).2 - (pt l (j + 1)).2) * ((pt l j).1 - (pt l j).1)) _ = _
        rw [Int.sub_self, Int.mul_zero]; unfold ce; simp
      omega
theorem Sp.le {l : List T_Point} (h : Right l) {x : Int} {r : T_Point} (hs : Sp l x r) : r.1 ≤ r.2 ∧ r.2 - r.1 ≤ 1 ∧ (pt l (l.length - 1)).2 ≤ r.1 ∧ r.2 ≤ (pt l 0).2 := by
  have hl := h.l1
  have h0 := (h.le (i := 0) (j := l.length - 1) (by omega) (by omega)).2
  rcases hs with ⟨h1, rfl⟩ | ⟨h1, rfl⟩ | ⟨i, hi, h1, h2, rfl⟩
  · exact ⟨Int.le_refl _, by simp only; omega, h0, Int.le_refl _⟩
  · exact ⟨Int.le_refl _, by simp only; omega, Int.le_refl _, h0⟩
  · have b := line_bd (h.st i hi).1 (h.st i hi).2 ⟨h1, h2⟩
    have := (h.le (i := 0) (j := i) (by omega) (by omega)).2
    have := (h.le (i := i + 1) (j := l.length - 1) (by omega) (by omega)).2
    omega
theorem Sp.mono {l : List T_Point} (h : Right l) {x y : Int} {r s : T_Point} (hr : Sp l x r) (hs : Sp l y s) (hxy : x ≤ y) : s.1 ≤ r.1 ∧ s.2 ≤ r.2 := by
  have hl := h.l1
  have br := Sp.le h hr
  have bs := Sp.le h hs
  have key : ∀ j, j < l.length → x ≤ (pt l j).1 → (pt l j).1 ≤ y → s.1 ≤ r.1 ∧ s.2 ≤ r.2 := fun j hj a b => by
    have := Sp.lo h hs hj b
    have := Sp.hi h hr hj a
    omega
  have hs' := hs
  rcases hs with ⟨h1, rfl⟩ | ⟨h1, rfl⟩ | ⟨i, hi, h1, h2, rfl⟩
  · have := Sp.hi h hr (j := 0) (by omega) (by omega)
    exact ⟨this, by simp only at *; omega⟩
  · exact ⟨br.2.2.1, by simp only at *; omega⟩
  · by_cases a : x ≤ (pt l i).1
    · exact key i (by omega) a h1
    by_cases b : (pt l (i + 1)).1 ≤ y
    · exact key (i + 1) hi (by omega) b
    rcases hr with ⟨q1, rfl⟩ | ⟨q1, rfl⟩ | ⟨j, hj, q1, q2, rfl⟩
    · have := (h.le (i := 0) (j := i) (by omega) (by omega)).1; omega
    · have := (h.le (i := i + 1) (j := l.length - 1) (by omega) (by omega)).1; omega
    · have e : i = j := by
        rcases Nat.lt_trichotomy i j with c | c | c
        · have := (h.le (i := i + 1) (j := j) (by omega) (by omega)).1; omega
        · exact c
        · have := (h.le (i := j + 1) (j := i) (by omega) (by omega)).1; omega
      subst e
      exact line_mono (h.st i hi).1 (h.st i hi).2 hxy
theorem Sp.uniq {l : List T_Point} (h : Right l) {x : Int} {r s : T_Point} (hr : Sp l x r) (hs : Sp l x s) : r = s := by
  have a := Sp.mono h hr hs (Int.le_refl _)
  have b := Sp.mono h hs hr (Int.le_refl _)
  exact Prod.ext (by omega) (by omega)

/-! ### The two curves -/
theorem fan_loop (N : Nat) {l : List T_Point} (h : Right l) (x : Int) (a : Int) (b c : Bool) (u v w : Int) : ∀ (n m i : Nat), m + i = l.length → m < n → 1 ≤ i → (∀ j, j < i → (pt l j).1 < x) →
    ∃ r, fan_curve_L1 N n x i a b c l u v w (pt l (l.length - 1)).2 = some r ∧ Sp l x r
  | n + 1, 0, i, hi, hn, h1, hj => by
    rw [fan_curve_L1_succ, decide_eq_false (by omega)]
    have := hj (l.length - 1) (by omega)
    exact ⟨_, rfl, .inr (.inl ⟨by omega, rfl⟩)⟩
  | n + 1, m + 1, i, hi, hn, h1, hj => by
    have hl2 := h.l2
    rw [fan_curve_L1_succ, decide_eq_true (by omega), cond_true, inB_true (by omega), cond_true, cond_true, Int.toNat_natCast]
    by_cases hx : x ≤ (pt l i).1
    · obtain ⟨k, rfl⟩ : ∃ k, i = k + 1 := ⟨i - 1, by omega⟩
      have p1 := h.ok k (by omega)
      have p2 := h.ok (k + 1) (by omega)
      have s1 := h.st k (by omega)
      have x1 := hj k (by omega)
      unfold okPt at p1 p2
      unfold okStep at s1
      rw [decide_eq_true hx, cond_true, W_eq (n := ((k + 1 : Nat) : Int) - 1) (by omega) (by omega), inB_true (by omega), cond_true, show (((k + 1 : Nat) : Int) - 1).toNat = k by omega]
      rw [between_spec N (p := pt l k) (q := pt l (k + 1)) ⟨p1.1, p1.2.1⟩ ⟨p2.1, p2.2.1⟩ p1.2.2 ⟨p2.2.2.1, s1.2⟩ ⟨by omega, hx⟩ s1.1]
      exact ⟨_, rfl, .inr (.inr ⟨k, by omega, by omega, hx, rfl⟩)⟩
    · rw [decide_eq_false hx, cond_false, W_eq (n := (i : Int) + 1) (by omega) (by omega), show (i : Int) + 1 = ((i + 1 : Nat) : Int) by omega]
      refine fan_loop N h x a b c u v w n m (i + 1) (by omega) (by omega) (by omega) fun j hj' => ?_
      by_cases e : j = i
      · subst e; omega
      · exact hj j (by omega)
theorem fan_curve_ex {N : Nat} (hN : 1000 ≤ N) {l : List T_Point} (h : Right l) (x : Int) (a : Int) (b c : Bool) : ∃ r, fan_curve N (a, b, c, l) x = some r ∧ Sp l x r := by
  have h1 := h.l1
  have h2 := h.l2
  unfold fan_curve
  simp only
  rw [inB_true (by omega), cond_true, W_eq (n := (l.length : Int) - 1) (by omega) (by omega), inB_true (by omega), cond_true, show ((l.length : Int) - 1).toNat = l.length - 1 by omega, show (0 : Int).toNat = 0 from rfl]
  by_cases hx : x ≤ (pt l 0).1
  · rw [decide_eq_true hx]; exact ⟨_, rfl, .inl ⟨hx, rfl⟩⟩
  · rw [decide_eq_false hx, cond_false]
    exact fan_loop N h x a b c _ _ _ N (l.length - 1) 1 (by omega) (by omega) (by omega) fun j hj => by
      have : j = 0 := by omega
      subst this; omega

theorem floor_eq {N : Nat} {t w : Int} (hw : 0 < w) (ht : -4611686018427387904 ≤ t ∧ t ≤ 4611686018427387904) : ref05_Floor N t w = some (t / w) := by
  unfold ref05_Floor
  rw [show (w == 0) = false by simp; omega, cond_false, cond_false]
  have e1 := Int.mul_ediv_add_emod t w
  have e2 := Int.mul_tdiv_add_tmod t w
  have r1 := Int.emod_nonneg t (show w ≠ 0 by omega)
  have r2 := Int.emod_lt_of_pos t hw
  have q1 := tmod_emod (n := t) (m := w) (by omega)
  have b1 : -4611686018427387904 ≤ t.tdiv w ∧ t.tdiv w ≤ 4611686018427387904 := by
    have := Int.natAbs_tdiv_le_natAbs t w; omega
  rw [W_eq (n := t.tdiv w) (by omega) (by omega), W_eq (n := t.tdiv w - 1) (by omega) (by omega)]
  split at q1
  · rename_i hlt
    rw [decide_eq_true hlt, cond_true]
    have : w * (t.tdiv w - 1) = w * (t / w) := by rw [Int.mul_sub]; omega
    rw [Int.eq_of_mul_eq_mul_left (by omega) this]
  · rename_i hlt
    rw [decide_eq_false hlt, cond_false]
    have : w * (t.tdiv w) = w * (t / w) := by omega
    rw [Int.eq_of_mul_eq_mul_left (by omega) this]
theorem neg_div {t w : Int} (hw : 0 < w) : (-t) / w = -(ce t w) := by
  have e1 := Int.mul_ediv_add_emod t w
  have r1 := Int.emod_nonneg t (show w ≠ 0 by omega)
  have r2 := Int.emod_lt_of_pos t hw
  unfold ce
  split
  · refine ((Int.ediv_emod_unique (r := w - t % w) hw).2 ⟨?_, by omega, by omega⟩).1
    rw [show w * -(t / w + 1) = -(w * (t / w)) - w by rw [Int.mul_neg, Int.mul_add, Int.mul_one]; omega]; omega
  · refine ((Int.ediv_emod_unique (r := 0) hw).2 ⟨?_, by omega, by omega⟩).1
    rw [show w * -(t / w + 0) = -(w * (t / w)) by rw [Int.mul_neg, Int.add_zero]]; omega

theorem ref_loop {N : Nat} {l : List T_Point} (h : Right l) (x : Int) (a : Int) (b c : Bool) (u v : Int) (hx : x < (pt l (l.length - 1)).1) : ∀ (n m k : Nat), m + k + 1 = l.length → m < n → (pt l k).1 ≤ x →
    ∃ r, ref07_Inner_L1 N n x k a b c l u v = some r ∧ Sp l x r
  | n + 1, 0, k, hk, hn, h1 => by
    have : l.length - 1 = k := by omega
    rw [this] at hx; omega
  | n + 1, m + 1, k, hk, hn, h1 => by
    have hl2 := h.l2
    rw [ref07_Inner_L1_succ, W_eq (n := (k : Int) + 1) (by omega) (by omega), inB_true (by omega), cond_true, show ((k : Int) + 1).toNat = k + 1 by omega]
    by_cases h2 : (pt l (k + 1)).1 ≤ x
    · rw [decide_eq_true h2, cond_true, show (k : Int) + 1 = ((k + 1 : Nat) : Int) by omega]
      exact ref_loop h x a b c u v hx n m (k + 1) (by omega) (by omega) h2
    · have p1 := h.ok k (by omega)
      have p2 := h.ok (k + 1) (by omega)
      have s1 := h.st k (by omega)
      unfold okPt at p1 p2
      unfold okStep at s1
      have hb := pr_bd (a := (pt l k).2 - (pt l (k + 1)).2) (b := x - (pt l k).1) (by omega) (by omega)
      rw [decide_eq_false h2, cond_false, inB_true (by omega), cond_true, cond_true, Int.toNat_natCast]
      simp only
      rw [W_eq (n := (pt l (k + 1)).2 - (pt l k).2) (by omega) (by omega), W_eq (n := x - (pt l k).1) (by omega) (by omega), W_eq (n := (pt l (k + 1)).1 - (pt l k).1) (by omega) (by omega)]
      have en : ((pt l (k + 1)).2 - (pt l k).2) * (x - (pt l k).1) = -(((pt l k).2 - (pt l (k + 1)).2) * (x - (pt l k).1)) := by
        rw [← Int.neg_mul]; congr 1; omega
      have bl := line_bd s1.1 s1.2 (x := x) ⟨h1, by omega⟩
      rw [line_eq] at bl
      rw [en]
      have ee := line_eq (pt l k) (pt l (k + 1)) x
      generalize ht : ((pt l k).2 - (pt l (k + 1)).2) * (x - (pt l k).1) = t at *
      rw [W_eq (n := -t) (by omega) (by omega), floor_eq (by omega) (by omega), bind_some']
      unfold ref05_Ceil
      rw [W_eq (n := 0 - -t) (by omega) (by omega), floor_eq (by omega) (by omega), bind_some', bind_some', show 0 - -t = t by omega, neg_div (by omega)]
      generalize hce : ce t ((pt l (k + 1)).1 - (pt l k).1) = ct at *
      generalize hdv : t / ((pt l (k + 1)).1 - (pt l k).1) = dt at *
      simp only at bl
      rw [W_eq (n := 0 - dt) (by omega) (by omega), W_eq (n := (pt l k).2 + (0 - dt)) (by omega) (by omega), W_eq (n := (pt l k).2 + -ct) (by omega) (by omega)]
      refine ⟨_, rfl, .inr (.inr ⟨k, by omega, h1, by omega, ?_⟩)⟩
      rw [ee]
      exact Prod.ext (by simp only; omega) (by simp only; omega)
theorem ref_curve_ex {N : Nat} (hN : 1000 ≤ N) {l : List T_Point} (h : Right l) (x : Int) (a : Int) (b c : Bool) : ∃ r, ref07_Inner N (a, b, c, l) x = some r ∧ Sp l x r := by
  have h1 := h.l1
  have h2 := h.l2
  unfold ref07_Inner
  simp only
  rw [inB_true (by omega), cond_true, show (0 : Int).toNat = 0 from rfl]
  by_cases hx : x ≤ (pt l 0).1
  · rw [decide_eq_true hx, cond_true, cond_true, cond_true]; exact ⟨_, rfl, .inl ⟨hx, rfl⟩⟩
  · rw [decide_eq_false hx, cond_false, W_eq (n := (l.length : Int) - 1) (by omega) (by omega), inB_true (by omega), cond_true, show ((l.length : Int) - 1).toNat = l.length - 1 by omega]
    by_cases hy : x ≥ (pt l (l.length - 1)).1
    · rw [decide_eq_true hy]; exact ⟨_, rfl, .inr (.inl ⟨hy, rfl⟩)⟩
    · rw [decide_eq_false hy, cond_false]
      exact ref_loop h x a b c _ _ (by omega) N (l.length - 1) 0 (by omega) (by omega) (by omega)

/-- The value of a curve. -/
def cv (l : List T_Point) (x : Int) : T_Point := (ref07_Inner 1000 (0, false, false, l) x).getD D_Point
theorem cv_sp {l : List T_Point} (h : Right l) (x : Int) : Sp l x (cv l x) := by
  obtain ⟨r, e, hs⟩ := ref_curve_ex (N := 1000) (by omega) h x 0 false false
  unfold cv; rw [e]; exact hs
theorem fan_curve_eq {N : Nat} (hN : 1000 ≤ N) {l : List T_Point} (h : Right l) (x : Int) (a : Int) (b c : Bool) : fan_curve N (a, b, c, l) x = some (cv l x) := by
  obtain ⟨r, e, hs⟩ := fan_curve_ex hN h x a b c
  rw [e, Sp.uniq h hs (cv_sp h x)]
theorem ref_curve_eq {N : Nat} (hN : 1000 ≤ N) {l : List T_Point} (h : Right l) (x : Int) (a : Int) (b c : Bool) : ref07_Inner N (a, b, c, l) x = some (cv l x) := by
  obtain ⟨r, e, hs⟩ := ref_curve_ex hN h x a b c
  rw [e, Sp.uniq h hs (cv_sp h x)]
theorem cv_bd {l : List T_Point} (h : Right l) (x : Int) : 0 ≤ (cv l x).1 ∧ (cv l x).1 ≤ (cv l x).2 ∧ (cv l x).2 - (cv l x).1 ≤ 1 ∧ (cv l x).2 ≤ 2199023255552 := by
  have b := Sp.le h (cv_sp h x)
  have hl := h.l1
  have p1 := h.ok (l.length - 1) (by omega)
  have p2 := h.ok 0 (by omega)
  unfold okPt at p1 p2
  omega

/-! ### What a fan gives -/
def alS (l : List T_Point) (back : Bool) (x : Int) : T_Point := bif back then (-(cv l (-x)).2, -(cv l (-x)).1) else cv l x
def stS (l : List T_Point) (b : Bool) (s x : Int) : T_Point :=
  if s = 1 then alS l b x else if s = 2 then alS l (!b) x else if s = -1 then (min (min (alS l false x).1 (alS l true x).1) 0, max (max (alS l false x).2 (alS l true x).2) 0) else (0, 0)
theorem along_eq {N : Nat} (hN : 1000 ≤ N) {l : List T_Point} (h : Right l) {x : Int} (hx : -1048577 ≤ x ∧ x ≤ 1048577) (a : Int) (b c back : Bool) : fan_along N (a, b, c, l) back x = some (alS l back x) ∧ ref07_Along N (a, b, c, l) back x = some (alS l back x) := by
  unfold fan_along ref07_Along alS
  cases back with
  | false =>
    simp only [Bool.not_false, cond_true, cond_false]
    rw [fan_curve_eq hN h, ref_curve_eq hN h]; exact ⟨rfl, rfl⟩
  | true =>
    have hb := cv_bd h (-x)
    simp only [Bool.not_true, cond_true, cond_false]
    rw [W_eq (n := 0 - x) (by omega) (by omega), show 0 - x = -x by omega, fan_curve_eq hN h, ref_curve_eq hN h, bind_some', W_eq (n := 0 - (cv l (-x)).2) (by omega) (by omega), W_eq (n := 0 - (cv l (-x)).1) (by omega) (by omega), show 0 - (cv l (-x)).2 = -(cv l (-x)).2 by omega, show 0 - (cv l (-x)).1 = -(cv l (-x)).1 by omega]
    exact ⟨rfl, rfl⟩
theorem state_eq {N : Nat} (hN : 1000 ≤ N) {l : List T_Point} (h : Right l) {x s : Int} (hx : -1048577 ≤ x ∧ x ≤ 1048577) (hs : -1 ≤ s ∧ s ≤ 2) (a : Int) (b c : Bool) : fan_Sure N (a, b, c, l) s x = some (stS l b s x) ∧ ref07_State N (a, b, c, l) s x = some (stS l b s x) := by
  have e := fun back => along_eq hN h hx a b c back
  unfold fan_Sure ref07_State stS
  rcases (by omega : s = 0 ∨ s = 1 ∨ s = 2 ∨ s = -1) with rfl | rfl | rfl | rfl
  · exact ⟨rfl, rfl⟩
  · simp only [(e _).1, (e _).2]; exact ⟨rfl, rfl⟩
  · simp only [(e _).1, (e _).2]; exact ⟨rfl, rfl⟩
  · simp only [(e _).1, (e _).2]
    refine ⟨?_, rfl⟩
    show some (_, _) = some (_, _)
    congr 2 <;> omega
def atS (l : List T_Point) (b : Bool) (s x : Int) : T_Point := if -1 ≤ s ∧ s ≤ 2 ∧ -1048577 ≤ x ∧ x ≤ 1048577 then stS l b s x else (0, 0)
theorem at_eq {N : Nat} (hN : 1000 ≤ N) (a : Int) (b c : Bool) (l : List T_Point) (s x : Int) : ∃ r, fan_At N (a, b, c, l) s x = some r ∧ ref07_At N (a, b, c, l) s x = some r := by
  unfold fan_At ref07_At
  obtain ⟨r, e1, e2, hr⟩ := check_spec hN a b c l
  rw [e1, e2, bind_some', bind_some']
  by_cases h0 : r = 0
  · have h := (hr.1 h0).2
    subst h0
    simp only [bne_self_eq_false, cond_false]
    by_cases c1 : s < -1
    · rw [decide_eq_true c1]; exact ⟨_, rfl, rfl⟩
    rw [decide_eq_false c1, cond_false, cond_false]
    by_cases c2 : s > 2
    · rw [decide_eq_true c2]; exact ⟨_, rfl, rfl⟩
    rw [decide_eq_false c2, cond_false, cond_false]
    by_cases c3 : x < -1048577
    · rw [decide_eq_true c3]; exact ⟨_, rfl, rfl⟩
    rw [decide_eq_false c3, cond_false, cond_false]
    by_cases c4 : x > 1048577
    · rw [decide_eq_true c4]; exact ⟨_, rfl, rfl⟩
    rw [decide_eq_false c4, cond_false, cond_false]
    have e := state_eq hN h (x := x) (s := s) (by omega) (by omega) a b c
    rw [e.1, e.2]; exact ⟨_, rfl, rfl⟩
  · rw [show (r != 0) = true by simpa using h0]; exact ⟨_, rfl, rfl⟩
/-- Where a fan is right, and the flow and the state too. -/
theorem at_right {N : Nat} (hN : 1000 ≤ N) (a : Int) (b c : Bool) {l : List T_Point} (hc : ref07_Check N (a, b, c, l) = some 0) {s x : Int} (hs : -1 ≤ s ∧ s ≤ 2) (hx : -1048577 ≤ x ∧ x ≤ 1048577) (b' : Bool) : fan_At N (a, b', c, l) s x = some (stS l b' s x) := by
  obtain ⟨r, e1, e2, hr⟩ := check_spec hN a b c l
  rw [e2] at hc
  injection hc with hc
  have h := (hr.1 hc).2
  obtain ⟨r', e1', e2', hr'⟩ := check_spec hN a b' c l
  have : r' = 0 := hr'.2 (hr.1 hc)
  unfold fan_At
  rw [e1', bind_some', this]
  simp only [bne_self_eq_false, cond_false]
  rw [decide_eq_false (by omega), cond_false, decide_eq_false (by omega), cond_false, decide_eq_false (by omega), cond_false, decide_eq_false (by omega), cond_false, (state_eq hN h hx hs a b' c).1]; rfl
theorem awake_eq : law07_awake 1000 = some true := by kernel_rfl
end Go.Proofs.Ytlclflgommkbcaa
