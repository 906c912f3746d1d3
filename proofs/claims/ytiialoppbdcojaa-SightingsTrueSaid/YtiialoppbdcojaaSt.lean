/- Sightings: a reader that looks each period tells the truth. No condition of its own. -/
import Derived.Test.YtiialoppbdcojaaSh
set_option linter.all false
namespace Go.Proofs.Ytiialoppbdcojaa
open Go.Pv M

theorem get_low {α : Type} {l : List α} {v d : α} {j : Nat} (h : j < l.length) : (l ++ [v]).getD j d = l.getD j d := by
  rw [List.getD_eq_getElem?_getD, List.getElem?_append_left h, ← List.getD_eq_getElem?_getD]
theorem get_top {α : Type} (l : List α) (v d : α) : (l ++ [v]).getD l.length d = v := by
  rw [List.getD_eq_getElem?_getD, List.getElem?_append_right (Nat.le_refl _), Nat.sub_self]; rfl

/-! ### What the absences say -/
/-- An absence lies between two reports; from the one to the other none has the tag. -/
def Pab (x : T_TagReader) (tag : Int) (R : List T_Report) (a : T_Absence) : Prop := ∃ i j, i ≤ j ∧ j < R.length ∧ a.2.2.1 = (R.getD i D_Report).2.2.1 + x.2.2.2 ∧ a.2.2.2 = (R.getD j D_Report).2.2.1 - x.2.2.2 ∧ ∀ k, i ≤ k → k ≤ j → ¬ tag ∈ (R.getD k D_Report).2.2.2
def Ps (tag : Int) (R : List T_Report) (k : Nat) (s : Sta) : Prop := s = none ∨ ∃ i m, i < k ∧ s = some (R.getD i D_Report, R.getD (k - 1) D_Report, m) ∧ ∀ q, i ≤ q → q < k → ¬ tag ∈ (R.getD q D_Report).2.2.2
theorem fin_ab {x : T_TagReader} {rd tag : Int} {R : List T_Report} {k : Nat} {s : Sta} {out : List T_Absence} (hk : k ≤ R.length) (hs : Ps tag R k s) (ho : ∀ a, a ∈ out → Pab x tag R a) : ∀ a, a ∈ fin x rd tag s out → Pab x tag R a := by
  rcases hs with rfl | ⟨i, m, hi, rfl, hq⟩
  · exact ho
  · cases m with
    | false => exact ho
    | true =>
      unfold fin
      simp only
      split
      · exact mem_app ho ⟨i, k - 1, by omega, by omega, rfl, rfl, fun q h1 h2 => hq q h1 (by omega)⟩
      · exact ho
theorem spc_ab (x : T_TagReader) (rd tag : Int) (R : List T_Report) (hr : ∀ j, j < R.length → (R.getD j D_Report).1 = rd) : ∀ (m k : Nat) (s : Sta) (out : List T_Absence), m + k = R.length → Ps tag R k s → (∀ a, a ∈ out → Pab x tag R a) → ∀ a, a ∈ spc x rd tag (R.drop k) s out → Pab x tag R a
  | 0, k, s, out, hk, hs, ho => by
    rw [List.drop_eq_nil_of_le (by omega)]; exact fin_ab (by omega) hs ho
  | m + 1, k, s, out, hk, hs, ho => by
    rw [drop_get (by omega)]
    have h1 := hr k (by omega)
    simp only [spc, h1, ne_eq, not_true_eq_false, if_false]
    by_cases ht : tag ∈ (R.getD k D_Report).2.2.2
    · rw [if_pos ht]
      exact spc_ab x rd tag R hr m (k + 1) none _ (by omega) (.inl rfl) (fin_ab (by omega) hs ho)
    · rw [if_neg ht]
      have one : ∀ b : Bool, Ps tag R (k + 1) (some (R.getD k D_Report, R.getD k D_Report, b)) := fun b => .inr ⟨k, b, by omega, rfl, fun q q1 q2 => by
        have : q = k := by omega
        subst this; exact ht⟩
      rcases hs with rfl | ⟨i, b, hi, rfl, hq⟩
      · exact spc_ab x rd tag R hr m (k + 1) _ out (by omega) (one false) ho
      · simp only
        split
        · exact spc_ab x rd tag R hr m (k + 1) _ out (by omega) (.inr ⟨i, true, by omega, rfl, fun q q1 q2 => by
            by_cases e : q = k
            · subst e; exact ht
            · exact hq q q1 (by omega)⟩) ho
        · exact spc_ab x rd tag R hr m (k + 1) _ _ (by omega) (one false) (fin_ab (by omega) (.inr ⟨i, b, hi, rfl, hq⟩) ho)

/-! ### The reports that are made -/
def thr (S : List T_Span) (L : Int) : Prop := ∃ p, p ∈ S ∧ p.1 ≤ L ∧ L ≤ p.2
def good (S : List T_Span) (P : Int) (R : List T_Report) (j : Nat) : Prop := (6 : Int) ∈ (R.getD j D_Report).2.2.2 ∨ ¬ thr S (50 + j * P)
structure Inv (S : List T_Span) (P : Int) (M : Nat) (K : Int) (i mi : Nat) (R : List T_Report) (lk : List Int) : Prop where
  len : R.length = i
  lkl : lk.length = i
  rep : ∀ j, j < i → (R.getD j D_Report).1 = 0 ∧ (R.getD j D_Report).2.1 = j ∧ (50 + j * P - K ≤ (R.getD j D_Report).2.2.1 ∧ (R.getD j D_Report).2.2.1 ≤ 50 + j * P + K) ∧ ((R.getD j D_Report).2.2.2 = [6] ∨ (R.getD j D_Report).2.2.2 = [])
  look : ∀ j, j < i → lk.getD j 0 = 50 + j * P
  win : ∀ k, k + M < i → ∃ j, k ≤ j ∧ j ≤ k + M ∧ good S P R j
  le : mi ≤ M
  lei : mi ≤ i
  last : mi = i ∨ good S P R (i - mi - 1)
theorem good_low {S : List T_Span} {P : Int} {R : List T_Report} {v : T_Report} {j : Nat} (h : j < R.length) : good S P (R ++ [v]) j ↔ good S P R j := by
  unfold good; rw [get_low h]
theorem inv_next {S : List T_Span} {P : Int} {M : Nat} {K : Int} {i mi : Nat} {R : List T_Report} {lk : List Int} (h : Inv S P M K i mi R lk) {time : Int} {t : List Int} (ht : 50 + i * P - K ≤ time ∧ time ≤ 50 + i * P + K) {mi' : Nat}
    (hc : (t = [6] ∧ mi' = 0) ∨ (t = [] ∧ ¬ thr S (50 + i * P) ∧ mi' = 0) ∨ (t = [] ∧ mi < M ∧ mi' = mi + 1)) : Inv S P M K (i + 1) mi' (R ++ [((0, ((i : Int), (time, t))) : T_Report)]) (lk ++ [50 + i * P]) := by
  obtain ⟨h1, h2, h3, h4, h5, h6, h7, h8⟩ := h
  have low : ∀ j, j < i → (R ++ [((0, ((i : Int), (time, t))) : T_Report)]).getD j D_Report = R.getD j D_Report := fun j hj => get_low (by omega)
  have top : (R ++ [((0, ((i : Int), (time, t))) : T_Report)]).getD i D_Report = ((0, ((i : Int), (time, t))) : T_Report) := by rw [← h1]; exact get_top R _ _
  have tt : t = [6] ∨ t = [] := by rcases hc with ⟨h, _⟩ | ⟨h, _⟩ | ⟨h, _⟩ <;> simp [h]
  have glow : ∀ j, j < i → good S P R j → good S P (R ++ [((0, ((i : Int), (time, t))) : T_Report)]) j := fun j hj g => (good_low (by omega)).2 g
  have gtop : mi' = 0 → good S P (R ++ [((0, ((i : Int), (time, t))) : T_Report)]) i := fun e => by
    unfold good; rw [top]
    rcases hc with ⟨rfl, _⟩ | ⟨_, g, _⟩ | ⟨_, _, g⟩
    · exact .inl (by show (6 : Int) ∈ [6]; exact List.mem_singleton.2 rfl)
    · exact .inr g
    · omega
  refine ⟨by rw [List.length_append, h1]; rfl, by rw [List.length_append, h2]; rfl, fun j hj => ?_, fun j hj => ?_, fun k hk => ?_, ?_, ?_, ?_⟩
  · by_cases e : j = i
    · subst e; rw [top]; exact ⟨rfl, rfl, ht, tt⟩
    · rw [low j (by omega)]; exact h3 j (by omega)
  · by_cases e : j = i
    · subst e; rw [← h2]; exact get_top _ _ _
    · rw [get_low (by omega)]; exact h4 j (by omega)
  · by_cases e : k + M < i
    · obtain ⟨j, j1, j2, g⟩ := h5 k e
      exact ⟨j, j1, j2, glow j (by omega) g⟩
    · by_cases e0 : mi' = 0
      · exact ⟨i, by omega, by omega, gtop e0⟩
      · have : mi < M ∧ mi' = mi + 1 := by
          rcases hc with ⟨_, h⟩ | ⟨_, _, h⟩ | ⟨_, h⟩
          · exact absurd h e0
          · exact absurd h e0
          · exact h
        rcases h8 with h8 | h8
        · omega
        · exact ⟨i - mi - 1, by omega, by omega, glow _ (by omega) h8⟩
  · rcases hc with ⟨_, h⟩ | ⟨_, _, h⟩ | ⟨_, h, h'⟩ <;> omega
  · rcases hc with ⟨_, h⟩ | ⟨_, _, h⟩ | ⟨_, h, h'⟩ <;> omega
  · by_cases e0 : mi' = 0
    · subst e0; exact .inr (gtop rfl)
    · have : mi < M ∧ mi' = mi + 1 := by
        rcases hc with ⟨_, h⟩ | ⟨_, _, h⟩ | ⟨_, h⟩
        · exact absurd h e0
        · exact absurd h e0
        · exact h
      rcases h8 with h8 | h8
      · exact .inl (by omega)
      · by_cases e : mi = i
        · exact .inl (by omega)
        · refine .inr ?_
          rw [show i + 1 - mi' - 1 = i - mi - 1 by omega]
          exact glow _ (by omega) h8

/-! ### No absence covers a span for long -/
/-- A stretch of more than `(M + 1) P` holds `M + 1` looks in a row. -/
theorem looks_in {P u v : Int} (hP : 1 ≤ P) {M : Nat} (h : v - u ≥ (M + 1) * P) (hu : 50 ≤ u) : ∃ q : Nat, ∀ k : Nat, q ≤ k → k ≤ q + M → u ≤ 50 + k * P ∧ 50 + k * P ≤ v := by
  have e := Int.emod_add_mul_ediv (u - 50 + P - 1) P
  have e1 := Int.emod_nonneg (u - 50 + P - 1) (b := P) (by omega)
  have e2 := Int.emod_lt_of_pos (u - 50 + P - 1) (b := P) (by omega)
  have q0 : 0 ≤ (u - 50 + P - 1) / P := Int.ediv_nonneg (by omega) (by omega)
  obtain ⟨q, hq⟩ := Int.eq_ofNat_of_zero_le q0
  rw [hq] at e
  have c : P * (q : Int) = (q : Int) * P := Int.mul_comm _ _
  refine ⟨q, fun k k1 k2 => ?_⟩
  have a1 : (q : Int) * P ≤ (k : Int) * P := Int.mul_le_mul_of_nonneg_right (by omega) (by omega)
  have a2 : (k : Int) * P ≤ ((q : Int) + M) * P := Int.mul_le_mul_of_nonneg_right (by omega) (by omega)
  have a3 : ((q : Int) + M) * P = (q : Int) * P + M * P := Int.add_mul _ _ _
  have a4 : ((M : Int) + 1) * P = M * P + P := by rw [Int.add_mul, Int.one_mul]
  omega
theorem true_one {S : List T_Span} {P : Int} {M : Nat} {K : Int} {mi n : Nat} {R : List T_Report} {lk : List Int} (hP : 1 ≤ P) (h : Inv S P M K n mi R lk) (hK : 0 ≤ K) {pl : List Int} {a : T_Absence} (ha : Pab (pl, (P, ((M : Int), K))) 6 R a) {p : T_Span} (hp : p ∈ S) : ¬ min p.2 a.2.2.2 - max p.1 a.2.2.1 > (M + 1) * P := by
  intro hh
  obtain ⟨i, j, hij, hj, f1, f2, hno⟩ := ha
  rw [h.len] at hj
  have ri := (h.rep i (by omega)).2.2.1
  have rj := (h.rep j hj).2.2.1
  have g1 : 50 + i * P ≤ a.2.2.1 := by rw [f1]; show 50 + i * P ≤ (R.getD i D_Report).2.2.1 + K; omega
  have g2 : a.2.2.2 ≤ 50 + j * P := by rw [f2]; show (R.getD j D_Report).2.2.1 - K ≤ 50 + j * P; omega
  have i0 : 0 ≤ (i : Int) * P := Int.mul_nonneg (by omega) (by omega)
  obtain ⟨q, hq⟩ := looks_in (P := P) (u := max p.1 a.2.2.1) (v := min p.2 a.2.2.2) hP (M := M) (by omega) (by omega)
  have q1 := hq q (Nat.le_refl _) (by omega)
  have q2 := hq (q + M) (by omega) (Nat.le_refl _)
  have hqi : i ≤ q := by
    by_cases e : i ≤ q
    · exact e
    · have := Int.mul_le_mul_of_nonneg_right (show (q : Int) + 1 ≤ i by omega) (show 0 ≤ P by omega)
      rw [Int.add_mul, Int.one_mul] at this
      omega
  have hqj : q + M ≤ j := by
    by_cases e : q + M ≤ j
    · exact e
    · have := Int.mul_le_mul_of_nonneg_right (show (j : Int) + 1 ≤ ((q + M : Nat) : Int) by omega) (show 0 ≤ P by omega)
      rw [Int.add_mul, Int.one_mul] at this
      omega
  obtain ⟨w, w1, w2, g⟩ := h.win q (by omega)
  rcases g with g | g
  · exact hno w (by omega) (by omega) g
  · have := hq w w1 w2
    exact g ⟨p, hp, by omega, by omega⟩

/-! ### The law -/
theorem rd_x {P : Int} {M : Nat} {K : Int} (hP : 1 ≤ P ∧ P ≤ 20) (hM : M ≤ 2) (hK : 0 ≤ K ∧ K ≤ 3) : ∀ x, x ∈ [(([0], (P, ((M : Int), K))) : T_TagReader)] → Rd x := fun x hx => by
  rw [List.mem_singleton] at hx; subst hx
  exact ⟨⟨by show 0 ≤ P; omega, by show P ≤ 1000; omega⟩, ⟨by show 0 ≤ (M : Int); omega, by show (M : Int) ≤ 100; omega⟩, ⟨by show 0 ≤ K; omega, by show K ≤ 100; omega⟩⟩
theorem ip_bd {P : Int} (hP : 1 ≤ P ∧ P ≤ 20) {i : Nat} (hi : i ≤ 30) : 0 ≤ (i : Int) * P ∧ (i : Int) * P ≤ 600 :=
  ⟨Int.mul_nonneg (by omega) (by omega), by have := Int.mul_le_mul (show (i : Int) ≤ 30 by omega) (show P ≤ 20 by omega) (by omega) (by omega); omega⟩
theorem inv_vr {S : List T_Span} {P : Int} {M : Nat} {K : Int} {i mi : Nat} {R : List T_Report} {lk : List Int} (hP : 1 ≤ P ∧ P ≤ 20) (hK : 0 ≤ K ∧ K ≤ 3) (hi : i ≤ 30) (h : Inv S P M K i mi R lk) {j : Nat} (hj : j < i) : Vr (R.getD j D_Report) := by
  obtain ⟨r1, r2, r3, r4⟩ := h.rep j hj
  have := ip_bd hP (show j ≤ 30 by omega)
  exact vr_mk (rd := (R.getD j D_Report).1) (num := (R.getD j D_Report).2.1) (time := (R.getD j D_Report).2.2.1) (t := (R.getD j D_Report).2.2.2) (by omega) (by omega) (by omega) (.inr r4)
theorem t6 {S : List T_Span} {P : Int} {M : Nat} {K : Int} {mi : Nat} {R : List T_Report} {lk : List Int} (hP : 1 ≤ P ∧ P ≤ 20) (hM : M ≤ 2) (hK : 0 ≤ K ∧ K ≤ 3) (h : Inv S P M K 30 mi R lk) : ∀ (m n k : Nat), m + k = 30 → m < n → law24_SightingsTrue_L6 1000 n R lk 0 k [0] P M K = some true
  | 0, n + 1, k, hk, hn => by
    rw [law24_SightingsTrue_L6_succ, decide_eq_false (by have := h.len; omega), cond_false, awake_eq]; rfl
  | m + 1, n + 1, k, hk, hn => by
    have ih := t6 hP hM hK h m n (k + 1) (by omega) (by omega)
    have hlen := h.len
    have hlk := h.lkl
    have vr := inv_vr hP hK (Nat.le_refl _) h (j := k) (by omega)
    have look := h.look k (by omega)
    obtain ⟨r1, r2, r3, r4⟩ := h.rep k (by omega)
    have ipb := ip_bd hP (show k ≤ 30 by omega)
    rw [law24_SightingsTrue_L6_succ, decide_eq_true (by omega), cond_true, inB_true (by omega), cond_true]
    simp only [Int.toNat_natCast]
    generalize R.getD k D_Report = r at vr r1 r2 r3 r4 ⊢
    obtain ⟨o, e, h1, _, h3, h4⟩ := of_both (rd_x hP hM hK) r (by have := vr.2.2.2.1; omega)
    rcases h4 with ⟨e0, _, _, ho⟩ | ⟨_, hh⟩
    · subst e0
      rw [h1, bind_some']
      simp only
      rw [show ((0 : Int) != 0) = false from rfl, cond_false, cond_true]
      rw [W_eq (n := (k : Int) + 1) (by omega) (by omega), show (k : Int) + 1 = ((k + 1 : Nat) : Int) by omega]
      rcases r4 with r4 | r4
      · have ho' : o = [(0, (6, (max 0 (r.2.2.1 - K), r.2.2.1 + K)))] := by rw [ho, ofS, r4, r1]; rfl
        rw [ho', r4]
        rw [show ((([((0 : Int), ((6 : Int), (max 0 (r.2.2.1 - K), r.2.2.1 + K)))] : List T_Absence).length : Int) != (([(6 : Int)] : List Int).length : Int)) = false from rfl, cond_false, show ((([((0 : Int), ((6 : Int), (max 0 (r.2.2.1 - K), r.2.2.1 + K)))] : List T_Absence).length : Int) == 1) = true from rfl, cond_true]
        rw [inB_true (by simp), cond_true, inB_true (by omega), cond_true, decide_eq_false (by show ¬ max 0 (r.2.2.1 - K) > lk.getD k 0; omega), cond_false, cond_true, cond_true, decide_eq_false (by show ¬ r.2.2.1 + K < lk.getD k 0; omega), cond_false]
        exact ih
      · have ho' : o = [] := by rw [ho, ofS, r4]; rfl
        rw [ho', r4]
        exact ih
    · exact absurd ⟨vr, by rw [r1]; show (0 : Int) < 1; omega⟩ hh
theorem t5 {S : List T_Span} {P : Int} {M : Nat} {K : Int} {mi : Nat} {R : List T_Report} {lk : List Int} (hS : ∀ p, p ∈ S → (0 ≤ p.1 ∧ p.1 ≤ 5000) ∧ (0 ≤ p.2 ∧ p.2 ≤ 5000)) (hS4 : S.length ≤ 100) (hP : 1 ≤ P ∧ P ≤ 20) (hM : M ≤ 2) (hK : 0 ≤ K ∧ K ≤ 3) (h : Inv S P M K 30 mi R lk) {out : List T_Absence} (ho : ∀ a, a ∈ out → Ab a ∧ Pab ([0], (P, ((M : Int), K))) 6 R a) (n4 k : Nat) (hk : k < out.length) (hnext : law24_SightingsTrue_L4 1000 n4 S R lk 0 (W ((k : Int) + 1)) [0] P M K out = some true) : ∀ (m n q : Nat), m + q = S.length → m < n → law24_SightingsTrue_L5 1000 n4 n S R lk 0 k q [0] P M K out = some true
  | 0, n + 1, q, hq, hn => by
    rw [law24_SightingsTrue_L5_succ, decide_eq_false (by omega), cond_false]; exact hnext
  | m + 1, n + 1, q, hq, hn => by
    have ih := t5 hS hS4 hP hM hK h ho n4 k hk hnext m n (q + 1) (by omega) (by omega)
    have hp : S.getD q D_Span ∈ S := by rw [List.getD_eq_getElem?_getD, List.getElem?_eq_getElem (by omega)]; exact List.getElem_mem _
    have ha : out.getD k D_Absence ∈ out := by rw [List.getD_eq_getElem?_getD, List.getElem?_eq_getElem hk]; exact List.getElem_mem _
    rw [law24_SightingsTrue_L5_succ, decide_eq_true (by omega), cond_true, inB_true (by omega), cond_true, inB_true (by omega), cond_true, cond_true, cond_true, Int.toNat_natCast, Int.toNat_natCast]
    obtain ⟨⟨p1, p2⟩, p3, p4⟩ := hS _ hp
    obtain ⟨⟨⟨a1, a2⟩, a3, a4⟩, pa⟩ := ho _ ha
    have key := true_one hP.1 h hK.1 pa hp
    generalize S.getD q D_Span = p at p1 p2 p3 p4 key ⊢
    generalize out.getD k D_Absence = a at a1 a2 a3 a4 key ⊢
    have mp : (M + 1 : Int) * P ≤ 60 := by have := Int.mul_le_mul (show (M + 1 : Int) ≤ 3 by omega) hP.2 (by omega) (by omega); omega
    have mp0 : 0 ≤ (M + 1 : Int) * P := Int.mul_nonneg (by omega) (by omega)
    rw [show sightings_Blind 1000 ([0], (P, ((M : Int), K))) = some (W ((W ((M : Int) + 1)) * P)) from rfl, bind_some', W_eq (n := (M : Int) + 1) (by omega) (by omega), W_eq (n := ((M : Int) + 1) * P) (by omega) (by omega), W_eq (n := min p.2 a.2.2.2 - max p.1 a.2.2.1) (by omega) (by omega), decide_eq_false key, cond_false, W_eq (n := (q : Int) + 1) (by omega) (by omega), show (q : Int) + 1 = ((q + 1 : Nat) : Int) by omega]
    exact ih
theorem t4 {S : List T_Span} {P : Int} {M : Nat} {K : Int} {mi : Nat} {R : List T_Report} {lk : List Int} (hS : ∀ p, p ∈ S → (0 ≤ p.1 ∧ p.1 ≤ 5000) ∧ (0 ≤ p.2 ∧ p.2 ≤ 5000)) (hS4 : S.length ≤ 100) (hP : 1 ≤ P ∧ P ≤ 20) (hM : M ≤ 2) (hK : 0 ≤ K ∧ K ≤ 3) (h : Inv S P M K 30 mi R lk) {out : List T_Absence} (ho : ∀ a, a ∈ out → Ab a ∧ Pab ([0], (P, ((M : Int), K))) 6 R a) (hl : out.length ≤ 500) : ∀ (m n k : Nat), m + k = out.length → m < n → law24_SightingsTrue_L4 1000 n S R lk 0 k [0] P M K out = some true
  | 0, n + 1, k, hk, hn => by
    rw [law24_SightingsTrue_L4_succ, decide_eq_false (by omega), cond_false, law24_SightingsTrue_J2_eq]
    exact t6 hP hM hK h 30 1000 0 (by omega) (by omega)
  | m + 1, n + 1, k, hk, hn => by
    have ih := t4 hS hS4 hP hM hK h ho hl m n (k + 1) (by omega) (by omega)
    rw [law24_SightingsTrue_L4_succ, decide_eq_true (by omega), cond_true, show ((0 : Int) == 0) = true from rfl, cond_true]
    exact t5 hS hS4 hP hM hK h ho n k (by omega) (by rw [W_eq (n := (k : Int) + 1) (by omega) (by omega), show (k : Int) + 1 = ((k + 1 : Nat) : Int) by omega]; exact ih) S.length 1000 0 (by omega) (by omega)

theorem thr_succ {S : List T_Span} {L : Int} {k : Nat} (h : k < S.length) : thr (S.take (k + 1)) L ↔ thr (S.take k) L ∨ ((S.getD k D_Span).1 ≤ L ∧ L ≤ (S.getD k D_Span).2) := by
  have et : S.take (k + 1) = S.take k ++ [S.getD k D_Span] := by
    rw [List.take_succ, List.getD_eq_getElem?_getD, List.getElem?_eq_getElem h]; rfl
  rw [et]
  constructor
  · rintro ⟨p, hp, h1⟩
    rcases List.mem_append.1 hp with hp | hp
    · exact .inl ⟨p, hp, h1⟩
    · rw [List.mem_singleton] at hp; subst hp; exact .inr h1
  · rintro (⟨p, hp, h1⟩ | h1)
    · exact ⟨p, List.mem_append_left _ hp, h1⟩
    · exact ⟨_, List.mem_append_right _ (List.mem_singleton.2 rfl), h1⟩
theorem t3 {S : List T_Span} (hS4 : S.length ≤ 100) (n2 : Nat) (mi i L : Int) (d : T_Dice) (pl : List Int) (P M K : Int) (R : List T_Report) (lk : List Int)
    (H : ∀ (n : Nat) (b : Bool), (b = true ↔ thr S L) → law24_SightingsTrue_L3 1000 n2 (n + 1) S mi i L b S.length d.1 d.2 pl P M K R lk = some true) : ∀ (m n k : Nat) (b : Bool), m + k = S.length → m < n → (b = true ↔ thr (S.take k) L) → law24_SightingsTrue_L3 1000 n2 n S mi i L b k d.1 d.2 pl P M K R lk = some true
  | 0, n + 1, k, b, hk, hn, hb => by
    have : k = S.length := by omega
    subst this
    rw [List.take_of_length_le (Nat.le_refl _)] at hb
    exact H n b hb
  | m + 1, n + 1, k, b, hk, hn, hb => by
    have hs := thr_succ (S := S) (L := L) (k := k) (by omega)
    have ih := fun b' hb' => t3 hS4 n2 mi i L d pl P M K R lk H m n (k + 1) b' (by omega) (by omega) hb'
    rw [law24_SightingsTrue_L3_succ, decide_eq_true (by omega), cond_true, W_eq (n := (k : Int) + 1) (by omega) (by omega), show (k : Int) + 1 = ((k + 1 : Nat) : Int) by omega]
    cases b with
    | true => rw [cond_true]; exact ih true ⟨fun _ => hs.2 (.inl (hb.1 rfl)), fun _ => rfl⟩
    | false =>
      have nb : ¬ thr (S.take k) L := fun h => by have := hb.2 h; cases this
      rw [cond_false, inB_true (by omega), cond_true, Int.toNat_natCast]
      by_cases c : (S.getD k D_Span).1 ≤ L
      · rw [decide_eq_true c, cond_true, cond_true]
        exact ih _ ⟨fun h => hs.2 (.inr ⟨c, of_decide_eq_true h⟩), fun h => decide_eq_true (by
          rcases hs.1 h with h | h
          · exact absurd h nb
          · exact h.2)⟩
      · rw [decide_eq_false c, cond_false]
        exact ih _ ⟨fun h => (by cases h), fun h => by
          rcases hs.1 h with h | h
          · exact absurd h nb
          · exact absurd h.1 c⟩
theorem t2 {S : List T_Span} {P : Int} {M : Nat} {K : Int} (hS : ∀ p, p ∈ S → (0 ≤ p.1 ∧ p.1 ≤ 5000) ∧ (0 ≤ p.2 ∧ p.2 ≤ 5000)) (hS4 : S.length ≤ 100) (hP : 1 ≤ P ∧ P ≤ 20) (hM : M ≤ 2) (hK : 0 ≤ K ∧ K ≤ 3) : ∀ (m n i mi : Nat) (d : T_Dice) (R : List T_Report) (lk : List Int), m + i = 30 → m < n → Inv S P M K i mi R lk → Dk d → law24_SightingsTrue_L2 1000 n S mi i d.1 d.2 [0] P M K R lk = some true
  | 0, n + 1, i, mi, d, R, lk, hi, hn, h, hd => by
    have : i = 30 := by omega
    subst this
    have hlen := h.len
    have vr : ∀ r, r ∈ R → Vr r := fun r hr => by
      obtain ⟨j, hj, e⟩ := List.mem_iff_getElem.1 hr
      have := inv_vr hP hK (Nat.le_refl _) h (j := j) (by omega)
      rw [List.getD_eq_getElem?_getD, List.getElem?_eq_getElem hj] at this
      rw [← e]; exact this
    rw [law24_SightingsTrue_L2_succ, decide_eq_false (by omega), cond_false, abs_ok (rd_x hP hM hK) (by omega) (by omega) vr (Nat.succ_pos 0), bind_some']
    simp only
    have x0 : ([(([0], (P, ((M : Int), K))) : T_TagReader)]).getD 0 D_TagReader = ([0], (P, ((M : Int), K))) := rfl
    rw [x0]
    have hm := spc_mem (rd_x hP hM hK _ (List.mem_singleton.2 rfl)) 0 6 R none [] vr st_none (fun a h => by cases h)
    have hp := spc_ab ([0], (P, ((M : Int), K))) 0 6 R (fun j hj => (h.rep j (by omega)).1) R.length 0 none [] rfl (.inl rfl) (fun a h => by cases h)
    rw [List.drop_zero] at hp
    have hl := spc_len ([0], (P, ((M : Int), K))) 0 6 R none []
    rw [List.length_nil] at hl
    exact t4 hS hS4 hP hM hK h (fun a ha => ⟨hm a ha, hp a ha⟩) (by omega) _ 1000 0 rfl (by omega)
  | m + 1, n + 1, i, mi, d, R, lk, hi, hn, h, hd => by
    have ipb := ip_bd hP (show i ≤ 30 by omega)
    rw [law24_SightingsTrue_L2_succ, decide_eq_true (by omega), cond_true, W_eq (n := (i : Int) * P) (by omega) (by omega), W_eq (n := 50 + (i : Int) * P) (by omega) (by omega)]
    refine t3 hS4 n mi i (50 + (i : Int) * P) d [0] P M K R lk (fun n3 b hb => ?_) S.length 1000 0 false (by omega) (by omega) ⟨fun h => (by cases h), fun h => by
      obtain ⟨p, hp, _⟩ := h
      rw [List.take_zero] at hp; cases hp⟩
    rw [law24_SightingsTrue_L3_succ, decide_eq_false (by omega), cond_false]
    obtain ⟨v, d1, e1, v1, v2, hd1⟩ := next_spec 1000 hd (n := 2 * K + 1) (by omega) (by omega)
    rw [W_eq (n := 2 * K) (by omega) (by omega), W_eq (n := 2 * K + 1) (by omega) (by omega), show ((d.1, d.2) : T_Dice) = d from rfl, e1, bind_some']
    simp only
    rw [W_eq (n := 50 + (i : Int) * P + v) (by omega) (by omega), W_eq (n := 50 + (i : Int) * P + v - K) (by omega) (by omega)]
    have hle := h.le
    have hlen := h.len
    have hlk := h.lkl
    have go : ∀ (t : List Int) (mi' : Nat) (d' : T_Dice), Dk d' → ((t = [6] ∧ mi' = 0) ∨ (t = [] ∧ ¬ thr S (50 + (i : Int) * P) ∧ mi' = 0) ∨ (t = [] ∧ mi < M ∧ mi' = mi + 1)) →
        law24_SightingsTrue_J1 1000 n S mi' i (50 + (i : Int) * P) d'.1 d'.2 [0] P M K R lk 0 i (50 + (i : Int) * P + v - K) t = some true := by
      intro t mi' d' hd' hc
      rw [law24_SightingsTrue_J1_eq, fitsB_true (by omega), cond_true, fitsB_true (by omega), cond_true, W_eq (n := (i : Int) + 1) (by omega) (by omega), show (i : Int) + 1 = ((i + 1 : Nat) : Int) by omega]
      exact t2 hS hS4 hP hM hK m n (i + 1) mi' d' _ _ (by omega) (by omega) (inv_next h ⟨by omega, by omega⟩ hc) hd'
    cases b with
    | true =>
      simp only [cond_true]
      by_cases c : mi ≥ M
      · rw [decide_eq_true (by omega), cond_true]
        exact go [6] 0 d1 hd1 (.inl ⟨rfl, rfl⟩)
      · rw [decide_eq_false (by omega), cond_false]
        obtain ⟨z, d6, e6, hd6⟩ := one_spec 1000 hd1 (n := 2) (by omega) (by omega)
        rw [e6, bind_some']
        cases z with
        | true => exact go [6] 0 d6 hd6 (.inl ⟨rfl, rfl⟩)
        | false =>
          simp only [cond_false]
          rw [W_eq (n := (mi : Int) + 1) (by omega) (by omega), show (mi : Int) + 1 = ((mi + 1 : Nat) : Int) by omega]
          exact go [] (mi + 1) d6 hd6 (.inr (.inr ⟨rfl, by omega, rfl⟩))
    | false =>
      simp only [cond_false]
      exact go [] 0 d1 hd1 (.inr (.inl ⟨rfl, fun hh => (by have := hb.2 hh; cases this), rfl⟩))
theorem t1 {P : Int} {M : Nat} {K : Int} (hP : 1 ≤ P ∧ P ≤ 20) (hM : M ≤ 2) (hK : 0 ≤ K ∧ K ≤ 3) : ∀ (n k : Nat) (d : T_Dice) (at_ : Int) (S : List T_Span), k < n → k ≤ 4 → S.length + k ≤ 4 → 0 ≤ at_ → at_ + 250 * k ≤ 2000 → Dk d → (∀ p, p ∈ S → (0 ≤ p.1 ∧ p.1 ≤ 5000) ∧ (0 ≤ p.2 ∧ p.2 ≤ 5000)) → law24_SightingsTrue_L1 1000 n at_ k d.1 d.2 [0] P M K S = some true
  | n + 1, 0, d, a, S, hn, hk, hl, h1, h2, hd, hS => by
    rw [law24_SightingsTrue_L1_succ, decide_eq_false (by omega), cond_false]
    refine t2 hS (by omega) hP hM hK 30 1000 0 0 d [] [] (by omega) (by omega) ⟨rfl, rfl, fun j hj => absurd hj (Nat.not_lt_zero _), fun j hj => absurd hj (Nat.not_lt_zero _), fun k hk => absurd hk (Nat.not_lt_zero _), Nat.zero_le _, Nat.le_refl _, .inl rfl⟩ hd
  | n + 1, k + 1, d, a, S, hn, hk, hl, h1, h2, hd, hS => by
    rw [law24_SightingsTrue_L1_succ, decide_eq_true (by omega), cond_true]
    obtain ⟨v, d1, e1, v1, v2, hd1⟩ := next_spec 1000 hd (n := 80) (by omega) (by omega)
    rw [show ((d.1, d.2) : T_Dice) = d from rfl, e1, bind_some']
    obtain ⟨w, d2, e2, w1, w2, hd2⟩ := next_spec 1000 hd1 (n := 120) (by omega) (by omega)
    simp only
    rw [e2, bind_some']
    simp only
    rw [fitsB_true (by omega), cond_true, W_eq (n := a + v) (by omega) (by omega), W_eq (n := a + v + w) (by omega) (by omega), W_eq (n := a + v + w + 1) (by omega) (by omega), W_eq (n := ((k + 1 : Nat) : Int) - 1) (by omega) (by omega), show ((k + 1 : Nat) : Int) - 1 = (k : Int) by omega]
    exact t1 hP hM hK n k d2 _ _ (by omega) (by omega) (by rw [List.length_append, List.length_singleton]; omega) (by omega) (by omega) hd2 (mem_app hS ⟨⟨by show 0 ≤ a + v; omega, by show a + v ≤ 5000; omega⟩, ⟨by show 0 ≤ a + v + w; omega, by show a + v + w ≤ 5000; omega⟩⟩)
theorem true_true (t : List Int) : law24_SightingsTrue 1000 t = some true := by
  unfold law24_SightingsTrue
  rw [light_eq, bind_some']
  by_cases h : (t.length : Int) ≤ 400
  · simp only [h, decide_true, Bool.not_true, cond_false]
    rw [roll_spec, bind_some']
    obtain ⟨a, d1, e1, a1, a2, hd1⟩ := next_spec 1000 (rollD_ok (l := t) (by omega)) (n := 20) (by omega) (by omega)
    simp only
    rw [e1, bind_some']
    obtain ⟨b, d2, e2, b1, b2, hd2⟩ := next_spec 1000 hd1 (n := 3) (by omega) (by omega)
    simp only
    rw [e2, bind_some']
    obtain ⟨c, d3, e3, c1, c2, hd3⟩ := next_spec 1000 hd2 (n := 4) (by omega) (by omega)
    simp only
    rw [e3, bind_some']
    obtain ⟨k, d4, e4, k1, k2, hd4⟩ := next_spec 1000 hd3 (n := 5) (by omega) (by omega)
    simp only
    rw [e4, bind_some']
    obtain ⟨k, rfl⟩ := Int.eq_ofNat_of_zero_le k1
    obtain ⟨b, rfl⟩ := Int.eq_ofNat_of_zero_le b1
    simp only
    rw [W_eq (n := 1 + a) (by omega) (by omega)]
    exact t1 ⟨by omega, by omega⟩ (by omega) ⟨by omega, by omega⟩ 1000 k d4 50 [] (by omega) (by omega) (by simp; omega) (by omega) (by omega) hd4 (fun p h => by cases h)
  · simp only [h, decide_false, Bool.not_false, cond_true]
    rw [awake_eq]; rfl
theorem sightingsTrue_any (dargs : List DV) (h : TyAs [(false, [.sl [.it .i64]])] dargs) : CallOK Try.prog 4 dargs [] 0 (B true) [] 0 :=
  law_any (law24_SightingsTrue_pure 1000) (fun x _ => true_true _) rfl dargs h
end Go.Proofs.Ytiialoppbdcojaa
