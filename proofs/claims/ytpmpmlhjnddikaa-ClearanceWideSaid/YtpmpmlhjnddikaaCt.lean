/- Clearance: one step of right fumes. No condition of its own. -/
import Derived.Test.YtpmpmlhjnddikaaCp
set_option linter.all false
namespace Go.Proofs.Ytpmpmlhjnddikaa
open Go.Pv M

/-! ### What the fumes depend on -/
def sureV (r : T_Road) (s : T_Span) : Int := if r.2.2.2.2.2.1 = true then 0 else min (max (max 0 s.1) (0 - s.2)) 1048576
theorem sureV_bd (r : T_Road) (s : T_Span) : 0 ≤ sureV r s ∧ sureV r s ≤ 1048576 := by
  unfold sureV; split <;> omega
/-- The sources of each road, and what is sure to flow in it. -/
structure Air (m : T_Mine) (x : List T_Span) (ss : List (List Int)) (qs : List Int) : Prop where
  l1 : ss.length = m.2.length
  l2 : qs.length = m.2.length
  s : ∀ k, k < m.2.length → clearance_Sources 1000 m x k = some (ss.getD k []) ∧ (ss.getD k []).length ≤ m.2.length ∧ ∀ a, a ∈ ss.getD k [] → Ri m.2.length a
  q : ∀ k, k < m.2.length → qs.getD k 0 = sureV (m.2.getD k D_Road) (x.getD k D_Span)
theorem getD_low {α : Type} {l : List α} {v d : α} {j : Nat} (h : j < l.length) : (l ++ [v]).getD j d = l.getD j d := by
  rw [List.getD_eq_getElem?_getD, List.getElem?_append_left h, ← List.getD_eq_getElem?_getD]
theorem getD_top {α : Type} (l : List α) (v d : α) : (l ++ [v]).getD l.length d = v := by
  rw [List.getD_eq_getElem?_getD, List.getElem?_append_right (Nat.le_refl _), Nat.sub_self]; rfl
theorem of_loop {m : T_Mine} (hm : m.1.length ≤ 1000) (h2 : m.2.length ≤ 128) {x : List T_Span} (hx : x.length = m.2.length) (hs : ∀ s, s ∈ x → Sk s) : ∀ (j n k : Nat) (ss : List (List Int)) (qs : List Int), j + k = m.2.length → j < n → ss.length = k → qs.length = k →
    (∀ i, i < k → clearance_Sources 1000 m x i = some (ss.getD i []) ∧ (ss.getD i []).length ≤ m.2.length ∧ ∀ a, a ∈ ss.getD i [] → Ri m.2.length a) → (∀ i, i < k → qs.getD i 0 = sureV (m.2.getD i D_Road) (x.getD i D_Span)) →
    ∃ ss' qs', clearance_of_L1 1000 n x m.2 m.2.length k m.1 m.2 m.1 m.2 ss qs = some (m, (ss', qs')) ∧ Air m x ss' qs'
  | 0, n + 1, k, ss, qs, hk, hn, l1, l2, g1, g2 => by
    rw [clearance_of_L1_succ, decide_eq_false (by omega), cond_false]
    exact ⟨ss, qs, rfl, by omega, by omega, fun i hi => g1 i (by omega), fun i hi => g2 i (by omega)⟩
  | j + 1, n + 1, k, ss, qs, hk, hn, l1, l2, g1, g2 => by
    obtain ⟨l, e, k1, k2⟩ := sources_spec hm h2 hx (r := k) (by omega)
    obtain ⟨b1, b2, b3⟩ := hs _ (getD_mem D_Span (show k < x.length by omega))
    have go := fun (v : Int) (hv : v = sureV (m.2.getD k D_Road) (x.getD k D_Span)) => of_loop hm h2 hx hs j n (k + 1) (ss ++ [l]) (qs ++ [v]) (by omega) (by omega) (by rw [List.length_append, List.length_singleton, l1]) (by rw [List.length_append, List.length_singleton, l2]) (fun i hi => by
      by_cases h : i = k
      · subst h; rw [← l1, getD_top, l1]; exact ⟨e, k1, k2⟩
      · rw [getD_low (by omega)]; exact g1 i (by omega)) (fun i hi => by
      by_cases h : i = k
      · subst h; rw [← l2, getD_top, l2]; exact hv
      · rw [getD_low (by omega)]; exact g2 i (by omega))
    rw [clearance_of_L1_succ, decide_eq_true (by omega), cond_true, inB_true (by omega), cond_true, inB_true (by omega), cond_true, cond_true, Int.toNat_natCast, show ((m.1, m.2) : T_Mine) = m from rfl, e, bind_some', bind_some', fitsB_true (by omega), cond_true, fitsB_true (by omega), cond_true, cond_true, cond_true, W_eq (n := (k : Int) + 1) (by omega) (by omega), show (k : Int) + 1 = ((k + 1 : Nat) : Int) by omega, W_eq (n := 0 - (x.getD k D_Span).2) (by omega) (by omega)]
    cases hc : (m.2.getD k D_Road).2.2.2.2.2.1 with
    | true => exact go _ (by unfold sureV; rw [if_pos hc])
    | false => exact go _ (by unfold sureV; rw [if_neg (by rw [hc]; exact Bool.false_ne_true)])
theorem of_spec' {m : T_Mine} (hm : m.1.length ≤ 1000) (h2 : m.2.length ≤ 128) {x : List T_Span} (hx : x.length = m.2.length) (hs : ∀ s, s ∈ x → Sk s) : ∃ ss qs, clearance_of 1000 m x = some (m, (ss, qs)) ∧ Air m x ss qs := by
  unfold clearance_of
  exact of_loop hm h2 hx hs m.2.length 1000 0 [] [] rfl (by omega) rfl rfl (fun i hi => by omega) (fun i hi => by omega)

/-! ### The concentrations after some seconds -/
/-- The greatest one of some roads, or what there is. -/
def mx (high : List Int) (c : Int) (l : List Int) : Int := l.foldl (fun c a => max c (high.getD a.toNat 0)) c
theorem mx_ge (high : List Int) : ∀ (l : List Int) (c : Int), c ≤ mx high c l
  | [], c => Int.le_refl _
  | a :: l, c => by
    have := mx_ge high l (max c (high.getD a.toNat 0))
    show c ≤ mx high (max c (high.getD a.toNat 0)) l
    omega
theorem mx_mono (high : List Int) : ∀ (l : List Int) (c d : Int), c ≤ d → mx high c l ≤ mx high d l
  | [], c, d, h => h
  | a :: l, c, d, h => mx_mono high l _ _ (by show max c (high.getD a.toNat 0) ≤ max d (high.getD a.toNat 0); omega)
theorem mx_bd {high : List Int} {n : Nat} (hl : high.length = n) (hh : ∀ h, h ∈ high → Hk h) : ∀ (l : List Int) (c : Int), Hk c → (∀ a, a ∈ l → Ri n a) → Hk (mx high c l)
  | [], c, hc, _ => hc
  | a :: l, c, hc, hr => by
    obtain ⟨a0, a1⟩ := hr a List.mem_cons_self
    obtain ⟨g0, g1⟩ := hh _ (getD_mem 0 (show a.toNat < high.length by omega))
    obtain ⟨c0, c1⟩ := hc
    exact mx_bd hl hh l _ ⟨by show 0 ≤ max c (high.getD a.toNat 0); omega, by show max c (high.getD a.toNat 0) ≤ 1000000; omega⟩ fun b hb => hr b (List.mem_cons_of_mem _ hb)
theorem mx_step (high : List Int) (c : Int) (l : List Int) {k : Nat} (hk : k < l.length) : mx high c (l.take (k + 1)) = max (mx high c (l.take k)) (high.getD (l.getD k 0).toNat 0) := by
  have e : l.getD k 0 = l[k] := by rw [List.getD_eq_getElem?_getD, List.getElem?_eq_getElem hk]; rfl
  rw [List.take_succ, List.getElem?_eq_getElem hk, e]
  unfold mx
  rw [Option.toList_some, List.foldl_append]
  rfl
/-- What a road has after some seconds. -/
def aft (m : T_Mine) (high : List Int) (s : Int) (l : List Int) (q : Int) (k : Nat) : Int :=
  stp (mx high 0 l) (high.getD k 0) ((m.2.getD k D_Road).2.2.1 * (m.2.getD k D_Road).2.2.2.1 * 1000) (q * s)
/-- A road's volume is in range. -/
def Vk (r : T_Road) : Prop := 1 ≤ r.2.2.1 * r.2.2.2.1 ∧ r.2.2.1 * r.2.2.2.1 ≤ 100000000
theorem set_at {l : List Int} {k : Nat} (v : Int) (h : k < l.length) : (l.set k v).getD k 0 = v := by
  rw [List.getD_eq_getElem?_getD, List.getElem?_set_self h]; rfl
theorem set_off {l : List Int} {k i : Nat} (v : Int) (h : i ≠ k) : (l.set k v).getD i 0 = l.getD i 0 := by
  rw [List.getD_eq_getElem?_getD, List.getElem?_set_ne (Ne.symm h), ← List.getD_eq_getElem?_getD]
theorem after_loop {m : T_Mine} (h2 : m.2.length ≤ 128) (hv : ∀ r, r ∈ m.2 → Vk r) {x : List T_Span} {ss : List (List Int)} {qs : List Int} (ha : Air m x ss qs) {high : List Int} (hl : high.length = m.2.length) (hh : ∀ h, h ∈ high → Hk h) {s : Int} (hs : 0 ≤ s ∧ s ≤ 2147483648) :
    ∀ (j n k : Nat) (out : List Int), j + k = m.2.length → j < n → out.length = m.2.length → (∀ i, i < k → out.getD i 0 = aft m high s (ss.getD i []) (qs.getD i 0) i) →
    ∃ out', clearance_air_after_L1 1000 n high s high high.length k m.1 m.2 ss qs out = some out' ∧ out'.length = m.2.length ∧ ∀ i, i < m.2.length → out'.getD i 0 = aft m high s (ss.getD i []) (qs.getD i 0) i
  | 0, n + 1, k, out, hk, hn, ho, hg => by
    rw [clearance_air_after_L1_succ, decide_eq_false (by omega), cond_false]
    exact ⟨out, rfl, ho, fun i hi => hg i (by omega)⟩
  | j + 1, n + 1, k, out, hk, hn, ho, hg => by
    obtain ⟨s1, s2, s3⟩ := ha.s k (by omega)
    have hq := ha.q k (by omega)
    have hqb := sureV_bd (m.2.getD k D_Road) (x.getD k D_Span)
    rw [← hq] at hqb
    have l1 := ha.l1
    have l2 := ha.l2
    obtain ⟨v1, v2⟩ := hv _ (getD_mem D_Road (show k < m.2.length by omega))
    obtain ⟨g1, g2⟩ := hh _ (getD_mem 0 (show k < high.length by omega))
    have go := fun out' h1 h2' => after_loop h2 hv ha hl hh hs j n (k + 1) out' (by omega) (by omega) h1 h2'
    rw [clearance_air_after_L1_succ, decide_eq_true (by omega), cond_true, inB_true (by omega), cond_true, inB_true (by omega), cond_true, Int.toNat_natCast]
    have L2 : ∀ (j' n' k' : Nat), j' + k' = (ss.getD k []).length → j' < n' → ∃ out', clearance_air_after_L2 1000 n n' high s k (high.getD k 0) (mx high 0 ((ss.getD k []).take k')) high high.length k (ss.getD k []) (ss.getD k []).length k' m.1 m.2 ss qs out = some out' ∧ out'.length = m.2.length ∧ ∀ i, i < m.2.length → out'.getD i 0 = aft m high s (ss.getD i []) (qs.getD i 0) i := by
      intro j'
      induction j' with
      | succ j' ih =>
        intro n' k' hk' hn'
        obtain ⟨n', rfl⟩ : ∃ n, n' = n + 1 := ⟨n' - 1, by omega⟩
        obtain ⟨r1, r2⟩ := s3 _ (getD_mem 0 (show k' < (ss.getD k []).length by omega))
        rw [clearance_air_after_L2_succ, decide_eq_true (by omega), cond_true, inB_true (by omega), cond_true, Int.toNat_natCast, inB_true (by omega), cond_true, W_eq (n := (k' : Int) + 1) (by omega) (by omega), show (k' : Int) + 1 = ((k' + 1 : Nat) : Int) by omega, ← mx_step high 0 _ (by omega)]
        exact ih n' (k' + 1) (by omega) (by omega)
      | zero =>
        intro n' k' hk' hn'
        obtain ⟨n', rfl⟩ : ∃ n, n' = n + 1 := ⟨n' - 1, by omega⟩
        rw [clearance_air_after_L2_succ, decide_eq_false (by omega), cond_false, List.take_of_length_le (by omega)]
        have hc := mx_bd hl hh (ss.getD k []) 0 ⟨by omega, by omega⟩ s3
        obtain ⟨c1, c2⟩ := hc
        have ev : aft m high s (ss.getD k []) (qs.getD k 0) k = stp (mx high 0 (ss.getD k [])) (high.getD k 0) ((m.2.getD k D_Road).2.2.1 * (m.2.getD k D_Road).2.2.2.1 * 1000) (qs.getD k 0 * s) := rfl
        generalize hcc : mx high 0 (ss.getD k []) = c at ev c1 c2
        generalize hgg : high.getD k 0 = h at ev g1 g2
        generalize hqq : qs.getD k 0 = q at ev hqb
        rw [inB_true (by omega), cond_true, cond_true, Int.toNat_natCast]
        generalize hvv : (m.2.getD k D_Road).2.2.1 * (m.2.getD k D_Road).2.2.2.1 = v at ev v1 v2
        have qs0 : 0 ≤ q * s := Int.mul_nonneg hqb.1 hs.1
        have qs1 : q * s ≤ 1048576 * 2147483648 := Int.mul_le_mul hqb.2 hs.2 hs.1 (by omega)
        simp only
        rw [W_eq (n := v) (by omega) (by omega), inB_true (by omega), cond_true]
        rw [W_eq (n := (k : Int) + 1) (by omega) (by omega), show (k : Int) + 1 = ((k + 1 : Nat) : Int) by omega]
        by_cases hhc : h > c
        · have d1 : 0 ≤ (h - c) * (v * 1000) := Int.mul_nonneg (by omega) (by omega)
          have d2 : (h - c) * (v * 1000) ≤ 1000000 * 100000000000 := Int.mul_le_mul (by omega) (by omega) (by omega) (by omega)
          rw [decide_eq_true hhc, cond_true, inB_true (by omega), cond_true, W_eq (n := v * 1000) (by omega) (by omega), hqq, W_eq (n := q * s) (by omega) (by omega), W_eq (n := v * 1000 + q * s) (by omega) (by omega), inB_true (by rw [List.length_set]; omega), cond_true, ne2 (show v * 1000 + q * s ≠ 0 by omega), cond_false, cond_true, set_at _ (by omega), W_eq (n := h - c) (by omega) (by omega), W_eq (n := (h - c) * (v * 1000)) (by omega) (by omega), W_eq (n := (h - c) * (v * 1000) + (v * 1000 + q * s)) (by omega) (by omega), W_eq (n := (h - c) * (v * 1000) + (v * 1000 + q * s) - 1) (by omega) (by omega), Int.tdiv_eq_ediv_of_nonneg (by omega)]
          have es : stp c h (v * 1000) (q * s) = c + ((h - c) * (v * 1000) + (v * 1000 + q * s) - 1) / (v * 1000 + q * s) := by unfold stp; rw [if_pos hhc]
          have b1 := stp_ge (c := c) (h := h) (v := v * 1000) (q := q * s) (by omega) (by omega)
          have b2 := stp_le (c := c) (h := h) (v := v * 1000) (q := q * s) (by omega) (by omega)
          rw [es] at b1 b2
          rw [W_eq (n := ((h - c) * (v * 1000) + (v * 1000 + q * s) - 1) / (v * 1000 + q * s)) (by omega) (by omega), W_eq (n := c + ((h - c) * (v * 1000) + (v * 1000 + q * s) - 1) / (v * 1000 + q * s)) (by omega) (by omega)]
          refine go _ (by rw [List.length_set, List.length_set, ho]) fun i hi => ?_
          by_cases e : i = k
          · subst e
            rw [set_at _ (by rw [List.length_set]; omega), hqq, ev, es]
          · rw [set_off _ e, set_off _ e]; exact hg i (by omega)
        · rw [decide_eq_false hhc, cond_false]
          refine go _ (by rw [List.length_set, ho]) fun i hi => ?_
          by_cases e : i = k
          · subst e
            rw [set_at _ (by omega), hqq, ev]
            unfold stp; rw [if_neg hhc]
          · rw [set_off _ e]; exact hg i (by omega)
    have := L2 (ss.getD k []).length 1000 0 (by omega) (by omega)
    rw [List.take_zero] at this
    exact this
/-- A step of right fumes. -/
theorem step_spec {m : T_Mine} (hm : Mk m) {x : List T_Span} (hx : x.length = m.2.length) (hs : ∀ s, s ∈ x → Sk s) {ss : List (List Int)} {qs : List Int} (hof : clearance_of 1000 m x = some (m, (ss, qs))) (ha : Air m x ss qs) {f : T_Fumes} (ht : 0 ≤ f.1) (hf : f.2.length = m.2.length) (hh : ∀ h, h ∈ f.2 → Hk h) {t : Int} (t1 : f.1 ≤ t) (t2 : t ≤ 2147483648) :
    ∃ out, clearance_Step 1000 m x f t = some ((t, out), 0) ∧ out.length = m.2.length ∧ (∀ i, i < m.2.length → out.getD i 0 = aft m f.2 (t - f.1) (ss.getD i []) (qs.getD i 0) i) ∧ ∀ h, h ∈ out → Hk h := by
  have h7 := hm.n2
  have h10 := hm.r2
  have hv : ∀ r, r ∈ m.2 → Vk r := fun r hr => by
    obtain ⟨_, _, _, ⟨d1, d2⟩, ⟨e1, e2⟩, _⟩ := hm.r r hr
    have a1 := Int.mul_le_mul d2 e2 (by omega) (by omega)
    have a2 := Int.mul_le_mul d1 e1 (by omega) (by omega)
    exact ⟨by omega, by omega⟩
  unfold clearance_Step
  rw [given_true hm hx hs ⟨ht, by omega⟩ hf hh, bind_some']
  simp only [Bool.not_true, cond_false]
  rw [decide_eq_false (by omega), cond_false, decide_eq_false (by omega), cond_false, hof, bind_some', W_eq (n := t - f.1) (by omega) (by omega)]
  unfold clearance_air_after
  rw [mkB_true (by omega), cond_true]
  simp only
  obtain ⟨out, e, k1, k2⟩ := after_loop (by omega) hv ha hf hh (s := t - f.1) ⟨by omega, by omega⟩ m.2.length 1000 0 (List.replicate (f.2.length : Int).toNat 0) rfl (by omega) (by rw [List.length_replicate]; omega) (fun i hi => by omega)
  rw [show ((0 : Nat) : Int) = 0 from rfl] at e
  rw [e, bind_some']
  refine ⟨out, rfl, k1, k2, fun h hm' => ?_⟩
  obtain ⟨i, hi, e⟩ := List.mem_iff_getElem.1 hm'
  have := k2 i (by omega)
  rw [List.getD_eq_getElem?_getD, List.getElem?_eq_getElem hi, Option.getD_some, e] at this
  rw [this]
  obtain ⟨s1, s2, s3⟩ := ha.s i (by omega)
  obtain ⟨c1, c2⟩ := mx_bd hf hh (ss.getD i []) 0 ⟨by omega, by omega⟩ s3
  obtain ⟨g1, g2⟩ := hh _ (getD_mem 0 (show i < f.2.length by omega))
  obtain ⟨v1, v2⟩ := hv _ (getD_mem D_Road (show i < m.2.length by omega))
  have hq := sureV_bd (m.2.getD i D_Road) (x.getD i D_Span)
  rw [← ha.q i (by omega)] at hq
  have qs0 : 0 ≤ qs.getD i 0 * (t - f.1) := Int.mul_nonneg hq.1 (by omega)
  have b1 := stp_ge (c := mx f.2 0 (ss.getD i [])) (h := f.2.getD i 0) (v := (m.2.getD i D_Road).2.2.1 * (m.2.getD i D_Road).2.2.2.1 * 1000) (q := qs.getD i 0 * (t - f.1)) (by omega) qs0
  have b2 := stp_le (c := mx f.2 0 (ss.getD i [])) (h := f.2.getD i 0) (v := (m.2.getD i D_Road).2.2.1 * (m.2.getD i D_Road).2.2.2.1 * 1000) (q := qs.getD i 0 * (t - f.1)) (by omega) qs0
  unfold aft
  exact ⟨by omega, by omega⟩
end Go.Proofs.Ytpmpmlhjnddikaa
