/- Clearance: the reference and the program answer the same, for made mines and any flows and fumes. No condition of its own. -/
import Derived.Test.YtpmpmlhjnddikaaCq
set_option linter.all false
namespace Go.Proofs.Ytpmpmlhjnddikaa
open Go.Pv M

theorem ext_getD {l l' : List Int} (hl : l.length = l'.length) (h : ∀ i, i < l.length → l.getD i 0 = l'.getD i 0) : l = l' := by
  refine List.ext_getElem hl fun i h1 h2 => ?_
  have := h i h1
  rw [List.getD_eq_getElem?_getD, List.getD_eq_getElem?_getD, List.getElem?_eq_getElem h1, List.getElem?_eq_getElem h2] at this
  exact this
/-! ### One step -/
theorem rsure_eq {m : T_Mine} {x : List T_Span} (hx : x.length = m.2.length) (hs : ∀ s, s ∈ x → Sk s) {k : Nat} (hk : k < m.2.length) : ref35_sure 1000 m x k = some (sureV (m.2.getD k D_Road) (x.getD k D_Span)) := by
  obtain ⟨b1, b2, b3⟩ := hs _ (getD_mem D_Span (show k < x.length by omega))
  unfold ref35_sure sureV
  rw [inB_true (by omega), cond_true, inB_true (show 0 ≤ (k : Int) ∧ (k : Int) < x.length by omega), Int.toNat_natCast, W_eq (n := 0 - (x.getD k D_Span).2) (by omega) (by omega)]
  cases (m.2.getD k D_Road).2.2.2.2.2.1 <;> rfl
theorem rstep_loop {m : T_Mine} (hm : Mk m) {x : List T_Span} (hx : x.length = m.2.length) (hs : ∀ s, s ∈ x → Sk s) {ss : List (List Int)} {qs : List Int} (ha : Air m x ss qs) {high : List Int} (hr : Hr m high) {t0 t : Int} (ht : 0 ≤ t - t0 ∧ t - t0 ≤ 2147483648) (z : Int) :
    ∀ (j n k : Nat) (out : List Int), j + k = m.2.length → j < n → out.length = k → (∀ i, i < k → out.getD i 0 = aft m high (t - t0) (ss.getD i []) (qs.getD i 0) i) →
    ∃ out', ref35_Step_L1 1000 n x t k m.1 m.2 t0 0 z high out = some ((z, out'), 0) ∧ out'.length = m.2.length ∧ ∀ i, i < m.2.length → out'.getD i 0 = aft m high (t - t0) (ss.getD i []) (qs.getD i 0) i
  | 0, n + 1, k, out, hk, hn, ho, hg => by
    rw [ref35_Step_L1_succ, decide_eq_false (by omega), cond_false]
    exact ⟨out, rfl, by omega, fun i hi => hg i (by omega)⟩
  | j + 1, n + 1, k, out, hk, hn, ho, hg => by
    have h7 := hm.n2
    have h10 := hm.r2
    obtain ⟨hl, hh⟩ := hr
    obtain ⟨s1, s2, s3⟩ := ha.s k (by omega)
    have hq := ha.q k (by omega)
    have hqb := sureV_bd (m.2.getD k D_Road) (x.getD k D_Span)
    have hsu := rsure_eq hx hs (k := k) (by omega)
    rw [← hq] at hqb hsu
    obtain ⟨v1, v2⟩ := mk_vol hm _ (getD_mem D_Road (show k < m.2.length by omega))
    obtain ⟨g1, g2⟩ := hh _ (getD_mem 0 (show k < high.length by omega))
    have go := fun (w : Int) (hw : w = aft m high (t - t0) (ss.getD k []) (qs.getD k 0) k) => rstep_loop hm hx hs ha ⟨hl, hh⟩ ht z j n (k + 1) (out ++ [w]) (by omega) (by omega) (by rw [List.length_append, List.length_singleton, ho]) (fun i hi => by
      by_cases e : i = k
      · subst e; rw [← ho, getD_top, ho]; exact hw
      · rw [getD_low (by omega)]; exact hg i (by omega))
    obtain ⟨l, e1, e2⟩ := sources_both (by omega) (by omega) hx (r := k) (by omega)
    rw [s1] at e1
    injection e1 with e1
    rw [ref35_Step_L1_succ, decide_eq_true (by omega), cond_true, show ((m.1, m.2) : T_Mine) = m from rfl, e2, bind_some', ← e1]
    have L2 : ∀ (j' n' k' : Nat), j' + k' = (ss.getD k []).length → j' < n' → ∃ out', ref35_Step_L2 1000 n n' x t k (mx high 0 ((ss.getD k []).take k')) (ss.getD k []) k' m.1 m.2 t0 0 z high out = some ((z, out'), 0) ∧ out'.length = m.2.length ∧ ∀ i, i < m.2.length → out'.getD i 0 = aft m high (t - t0) (ss.getD i []) (qs.getD i 0) i := by
      intro j'
      induction j' with
      | succ j' ih =>
        intro n' k' hk' hn'
        obtain ⟨n', rfl⟩ : ∃ n, n' = n + 1 := ⟨n' - 1, by omega⟩
        obtain ⟨r1, r2⟩ := s3 _ (getD_mem 0 (show k' < (ss.getD k []).length by omega))
        rw [ref35_Step_L2_succ, decide_eq_true (by omega), cond_true, inB_true (by omega), cond_true, Int.toNat_natCast, inB_true (by omega), cond_true, W_eq (n := (k' : Int) + 1) (by omega) (by omega), show (k' : Int) + 1 = ((k' + 1 : Nat) : Int) by omega, ← mx_step high 0 _ (by omega)]
        exact ih n' (k' + 1) (by omega) (by omega)
      | zero =>
        intro n' k' hk' hn'
        obtain ⟨n', rfl⟩ : ∃ n, n' = n + 1 := ⟨n' - 1, by omega⟩
        rw [ref35_Step_L2_succ, decide_eq_false (by omega), cond_false, List.take_of_length_le (by omega)]
        obtain ⟨c1, c2⟩ := mx_bd hl hh (ss.getD k []) 0 ⟨by omega, by omega⟩ s3
        have ev : aft m high (t - t0) (ss.getD k []) (qs.getD k 0) k = stp (mx high 0 (ss.getD k [])) (high.getD k 0) ((m.2.getD k D_Road).2.2.1 * (m.2.getD k D_Road).2.2.2.1 * 1000) (qs.getD k 0 * (t - t0)) := rfl
        rw [inB_true (by omega), cond_true, Int.toNat_natCast]
        generalize mx high 0 (ss.getD k []) = c at ev c1 c2 ⊢
        generalize high.getD k 0 = h at ev g1 g2 ⊢
        generalize qs.getD k 0 = q at ev hqb hsu go
        have qs0 : 0 ≤ q * (t - t0) := Int.mul_nonneg hqb.1 ht.1
        have qs1 : q * (t - t0) ≤ 1048576 * 2147483648 := Int.mul_le_mul hqb.2 ht.2 ht.1 (by omega)
        rw [W_eq (n := (k : Int) + 1) (by omega) (by omega), show (k : Int) + 1 = ((k + 1 : Nat) : Int) by omega, fitsB_true (by omega), cond_true]
        by_cases hhc : h > c
        · rw [decide_eq_true hhc, cond_true, inB_true (by omega), cond_true, cond_true]
          simp only
          rw [hsu, bind_some']
          generalize (m.2.getD k D_Road).2.2.1 * (m.2.getD k D_Road).2.2.2.1 = v at ev v1 v2 ⊢
          have d1 : 0 ≤ (h - c) * (v * 1000) := Int.mul_nonneg (by omega) (by omega)
          have d2 : (h - c) * (v * 1000) ≤ 1000000 * 100000000000 := Int.mul_le_mul (by omega) (by omega) (by omega) (by omega)
          rw [W_eq (n := v) (by omega) (by omega), W_eq (n := v * 1000) (by omega) (by omega), W_eq (n := t - t0) (by omega) (by omega), W_eq (n := q * (t - t0)) (by omega) (by omega), W_eq (n := v * 1000 + q * (t - t0)) (by omega) (by omega), ne2 (show v * 1000 + q * (t - t0) ≠ 0 by omega), cond_false, cond_true, W_eq (n := h - c) (by omega) (by omega), W_eq (n := (h - c) * (v * 1000)) (by omega) (by omega), W_eq (n := (h - c) * (v * 1000) + (v * 1000 + q * (t - t0))) (by omega) (by omega), W_eq (n := (h - c) * (v * 1000) + (v * 1000 + q * (t - t0)) - 1) (by omega) (by omega), Int.tdiv_eq_ediv_of_nonneg (by omega)]
          have es : stp c h (v * 1000) (q * (t - t0)) = c + ((h - c) * (v * 1000) + (v * 1000 + q * (t - t0)) - 1) / (v * 1000 + q * (t - t0)) := by unfold stp; rw [if_pos hhc]
          have b1 := stp_ge (c := c) (h := h) (v := v * 1000) (q := q * (t - t0)) (by omega) (by omega)
          have b2 := stp_le (c := c) (h := h) (v := v * 1000) (q := q * (t - t0)) (by omega) (by omega)
          rw [es] at b1 b2
          rw [W_eq (n := ((h - c) * (v * 1000) + (v * 1000 + q * (t - t0)) - 1) / (v * 1000 + q * (t - t0))) (by omega) (by omega), W_eq (n := c + ((h - c) * (v * 1000) + (v * 1000 + q * (t - t0)) - 1) / (v * 1000 + q * (t - t0))) (by omega) (by omega)]
          exact go _ (by rw [ev, es])
        · rw [decide_eq_false hhc, cond_false]
          exact go _ (by rw [ev]; unfold stp; rw [if_neg hhc])
    have := L2 (ss.getD k []).length 1000 0 (by omega) (by omega)
    rw [List.take_zero] at this
    exact this
theorem step_both {m : T_Mine} (hm : Mk m) {x : List T_Span} (hx : x.length ≤ 900) {f : T_Fumes} (hf : f.2.length ≤ 900) (t : Int) : ∃ r, clearance_Step 1000 m x f t = some r ∧ ref35_Step 1000 m x f t = some r ∧ r.1.2.length ≤ 900 := by
  have h7 := hm.n2
  have h10 := hm.r2
  obtain ⟨g, eg, hg⟩ := given_eq hm hx hf
  obtain ⟨v, _, ev, hv⟩ := valid_both hm hf
  obtain ⟨w, ew, hw⟩ := rflows_eq m hx
  unfold clearance_Step ref35_Step ref35_Copy
  rw [eg, bind_some', fitsB_true (by omega), cond_true, bind_some']
  simp only
  rw [ev, bind_some']
  cases v with
  | false =>
    have : g = false := by
      cases g with
      | false => rfl
      | true => have := hv.2 (hg.1 rfl).1; cases this
    subst this
    exact ⟨(f, 6), rfl, rfl, hf⟩
  | true =>
    simp only [Bool.not_true, cond_false]
    rw [ew, bind_some']
    cases w with
    | false =>
      have : g = false := by
        cases g with
        | false => rfl
        | true => have := hw.2 (hg.1 rfl).2; cases this
      subst this
      exact ⟨(f, 6), rfl, rfl, hf⟩
    | true =>
      have : g = true := hg.2 ⟨hv.1 rfl, hw.1 rfl⟩
      subst this
      obtain ⟨⟨t0, t1⟩, hr⟩ := hv.1 rfl
      obtain ⟨hxl, hs⟩ := hw.1 rfl
      simp only [Bool.not_true, cond_false]
      rw [ref35_Step_J1_eq]
      by_cases c1 : t < f.1
      · rw [decide_eq_true c1]; exact ⟨(f, 8), rfl, rfl, hf⟩
      rw [decide_eq_false c1, cond_false, cond_false]
      by_cases c2 : t > 2147483648
      · rw [decide_eq_true c2]; exact ⟨(f, 8), rfl, rfl, hf⟩
      rw [decide_eq_false c2, cond_false, cond_false, ref35_Step_J2_eq]
      obtain ⟨ss, qs, hof, ha⟩ := of_spec' (by omega) (by omega) hxl hs
      obtain ⟨out, ea, ka, A⟩ := after_tot hm ha hr (s := t - f.1) ⟨by omega, by omega⟩
      obtain ⟨out2, e2, k2, B⟩ := rstep_loop hm hxl hs ha hr (t0 := f.1) (t := t) ⟨by omega, by omega⟩ t m.2.length 1000 0 [] rfl (by omega) rfl (fun i hi => by omega)
      rw [show ((0 : Nat) : Int) = 0 from rfl] at e2
      have : out2 = out := ext_getD (by rw [k2, ka.1]) fun i hi => by rw [B i (by omega), A i (by omega)]
      subst this
      rw [hof, bind_some', W_eq (n := t - f.1) (by omega) (by omega), ea, bind_some']
      exact ⟨_, rfl, e2, by show out2.length ≤ 900; omega⟩

/-! ### Until -/
theorem rlow_loop {l : List Int} {lim t : Int} {high : List Int} (hl : l.length ≤ 900) (hr : ∀ r, r ∈ l → Ri high.length r) : ∀ (j n k : Nat), j + k = l.length → j < n → (∀ i, i < k → high.getD (l.getD i 0).toNat 0 ≤ lim) → ∃ b, ref35_low_L1 1000 n l lim k t high = some b ∧ (b = true ↔ Low l lim high)
  | 0, n + 1, k, hk, hn, hg => by
    rw [ref35_low_L1_succ, decide_eq_false (show ¬ (k : Int) < (l.length : Int) by omega), cond_false]
    refine ⟨true, rfl, fun _ r hr => ?_, fun _ => rfl⟩
    obtain ⟨i, hi, e⟩ := List.mem_iff_getElem.1 hr
    have := hg i (by omega)
    rw [List.getD_eq_getElem?_getD (l := l), List.getElem?_eq_getElem hi, Option.getD_some, e] at this
    exact this
  | j + 1, n + 1, k, hk, hn, hg => by
    have hmem := getD_mem 0 (show k < l.length by omega)
    obtain ⟨a, b⟩ := hr _ hmem
    rw [ref35_low_L1_succ, decide_eq_true (show (k : Int) < (l.length : Int) by omega), cond_true, inB_true (by omega), cond_true, Int.toNat_natCast, inB_true ⟨a, b⟩, cond_true]
    by_cases h : high.getD (l.getD k 0).toNat 0 > lim
    · rw [decide_eq_true h]
      exact ⟨false, rfl, fun hh => (by cases hh), fun hh => by have := hh _ hmem; omega⟩
    · rw [decide_eq_false h, cond_false, W_eq (n := (k : Int) + 1) (by omega) (by omega), show (k : Int) + 1 = ((k + 1 : Nat) : Int) by omega]
      refine rlow_loop hl hr j n (k + 1) (by omega) (by omega) fun i hi => ?_
      by_cases e : i = k
      · subst e; omega
      · exact hg i (by omega)
theorem until_joint {m : T_Mine} (hm : Mk m) {x : List T_Span} (hx : x.length = m.2.length) (hs : ∀ s, s ∈ x → Sk s) {ss : List (List Int)} {qs : List Int} (hof : clearance_of 1000 m x = some (m, (ss, qs))) (ha : Air m x ss qs)
    {high : List Int} (hr : Hr m high) {t0 : Int} (ht : 0 ≤ t0) {l : List Int} (hl : l.length ≤ 900) (hri : ∀ r, r ∈ l → Ri m.2.length r) {lim s : Int} (hs1 : 1 ≤ s ∧ s ≤ 3600) (st : Nat) (hst : st ≤ 20) :
    ∀ (j n n' k : Nat), j + k = st → j + 1 < n → j + 1 < n' → t0 + k * s ≤ 2147483648 → ∃ r, clearance_Until_L1 1000 n l s st k t0 high lim m.1 m.2 ss qs (seqH (m, (ss, qs)) s high k) = some r ∧ ref35_Until_L1 1000 n' x l lim s st k m.1 m.2 (t0 + k * s) (seqH (m, (ss, qs)) s high k) = some r
  | j, n + 1, n' + 1, k, hk, hn, hn', htk => by
    have h10 := hm.r2
    have kb : 0 ≤ (k : Int) * s ∧ (k : Int) * s ≤ 72000 := ⟨Int.mul_nonneg (by omega) (by omega), by have := Int.mul_le_mul (show (k : Int) ≤ 20 by omega) hs1.2 (by omega) (by omega); omega⟩
    have hk' := seqH_hr hm ha hr (s := s) ⟨by omega, by omega⟩ k
    have hk2 := seqH_hr hm ha hr (s := s) ⟨by omega, by omega⟩ (k + 1)
    obtain ⟨b, e, hb⟩ := over_eq (l := l) (lim := lim) (high := seqH (m, (ss, qs)) s high k) hl (by rw [hk'.1]; exact hri)
    obtain ⟨c, e2, hc⟩ := rlow_loop (l := l) (lim := lim) (t := t0 + k * s) (high := seqH (m, (ss, qs)) s high k) hl (by rw [hk'.1]; exact hri) l.length 1000 0 rfl (by omega) (fun i hi => by omega)
    rw [show ((0 : Nat) : Int) = 0 from rfl] at e2
    have hcb : c = !b := by
      cases b with
      | true =>
        cases c with
        | false => rfl
        | true => exact absurd (hc.1 rfl) (hb.1 rfl)
      | false =>
        have : Low l lim (seqH (m, (ss, qs)) s high k) := Classical.byContradiction fun h => by have := hb.2 h; cases this
        rw [hc.2 this]; rfl
    subst hcb
    rw [clearance_Until_L1_succ, ref35_Until_L1_succ, decide_eq_true (by omega), cond_true, W_eq (n := (k : Int) * s) (by omega) (by omega), W_eq (n := t0 + (k : Int) * s) (by omega) (by omega), decide_eq_true (by omega), cond_true, e, bind_some']
    unfold ref35_low
    rw [e2, bind_some']
    cases b with
    | false => exact ⟨_, rfl, rfl⟩
    | true =>
      simp only [Bool.not_true, cond_false]
      rw [show (((m.1, m.2), (ss, qs)) : T_air) = (m, (ss, qs)) from rfl, seqH_next hm ha hr ⟨by omega, by omega⟩ k, bind_some', W_eq (n := (k : Int) + 1) (by omega) (by omega), show (k : Int) + 1 = ((k + 1 : Nat) : Int) by omega]
      have ek : t0 + (k : Int) * s + s = t0 + ((k + 1 : Nat) : Int) * s := by
        rw [show ((k + 1 : Nat) : Int) = (k : Int) + 1 by omega, Int.add_mul, Int.one_mul]; omega
      by_cases hks : (k : Int) = (st : Int)
      · obtain ⟨n, rfl⟩ : ∃ n1, n = n1 + 1 := ⟨n - 1, by omega⟩
        rw [eq2 hks, cond_true, clearance_Until_L1_succ, decide_eq_false (by omega), cond_false]
        exact ⟨_, rfl, rfl⟩
      · rw [ne2 hks, cond_false, W_eq (n := t0 + (k : Int) * s + s) (by omega) (by omega), show ((m.1, m.2) : T_Mine) = m from rfl]
        obtain ⟨r, er1, er2, _⟩ := step_both hm (x := x) (by omega) (f := (t0 + (k : Int) * s, seqH (m, (ss, qs)) s high k)) (by show (seqH (m, (ss, qs)) s high k).length ≤ 900; rw [hk'.1]; omega) (t0 + (k : Int) * s + s)
        rw [er2, bind_some']
        by_cases h31 : t0 + (k : Int) * s + s ≤ 2147483648
        · have := step_eq hm hx hs hof hk' (t := t0 + (k : Int) * s) (by omega) (by omega) h31 (seqH_next hm ha hr ⟨by omega, by omega⟩ k)
          rw [this] at er1
          injection er1 with er1
          subst er1
          simp only
          rw [show ((0 : Int) != 0) = false from rfl, cond_false, ek]
          exact until_joint hm hx hs hof ha hr ht hl hri hs1 st hst (j - 1) n n' (k + 1) (by omega) (by omega) (by omega) (by omega)
        · have hst8 : clearance_Step 1000 m x (t0 + (k : Int) * s, seqH (m, (ss, qs)) s high k) (t0 + (k : Int) * s + s) = some ((t0 + (k : Int) * s, seqH (m, (ss, qs)) s high k), 8) := by
            unfold clearance_Step
            rw [given_true hm hx hs (f := (t0 + (k : Int) * s, seqH (m, (ss, qs)) s high k)) ⟨by show 0 ≤ t0 + (k : Int) * s; omega, htk⟩ hk'.1 hk'.2, bind_some']
            simp only [Bool.not_true, cond_false]
            rw [decide_eq_false (by omega), cond_false, decide_eq_true (by omega)]; rfl
          rw [hst8] at er1
          injection er1 with er1
          subst er1
          obtain ⟨n, rfl⟩ : ∃ n1, n = n1 + 1 := ⟨n - 1, by omega⟩
          have k1b : ((k + 1 : Nat) : Int) * s = (k : Int) * s + s := by rw [show ((k + 1 : Nat) : Int) = (k : Int) + 1 by omega, Int.add_mul, Int.one_mul]
          rw [clearance_Until_L1_succ, decide_eq_true (by omega), cond_true, W_eq (n := ((k + 1 : Nat) : Int) * s) (by omega) (by omega), W_eq (n := t0 + ((k + 1 : Nat) : Int) * s) (by omega) (by omega), decide_eq_false (by omega), cond_false]
          exact ⟨_, rfl, rfl⟩
theorem in_cases (a b c : Int) : (decide (b ≤ a) && decide (a ≤ c)) = (!(decide (a < b)) && !(decide (a > c))) := by
  rw [Bool.eq_iff_iff]; simp
theorem until_both {m : T_Mine} (hm : Mk m) {x : List T_Span} (hx : x.length ≤ 900) {f : T_Fumes} (hf : f.2.length ≤ 900) {l : List Int} (hl : l.length ≤ 900) (lim s st : Int) (hst : st ≤ 20 ∨ st > 1000) : ∃ r, clearance_Until 1000 m x f l lim s st = some r ∧ ref35_Until 1000 m x f l lim s st = some r := by
  have h7 := hm.n2
  have h10 := hm.r2
  obtain ⟨g, eg, hg⟩ := given_eq hm hx hf
  obtain ⟨v, _, ev, hv⟩ := valid_both hm hf
  obtain ⟨w, ew, hw⟩ := rflows_eq m hx
  unfold clearance_Until ref35_Until
  rw [eg, bind_some', ev, bind_some']
  cases v with
  | false =>
    have : g = false := by
      cases g with
      | false => rfl
      | true => have := hv.2 (hg.1 rfl).1; cases this
    subst this
    exact ⟨(0, 6), rfl, rfl⟩
  | true =>
    simp only [Bool.not_true, cond_false]
    rw [ew, bind_some']
    cases w with
    | false =>
      have : g = false := by
        cases g with
        | false => rfl
        | true => have := hw.2 (hg.1 rfl).2; cases this
      subst this
      exact ⟨(0, 6), rfl, rfl⟩
    | true =>
      have : g = true := hg.2 ⟨hv.1 rfl, hw.1 rfl⟩
      subst this
      obtain ⟨⟨t0, t1⟩, hr⟩ := hv.1 rfl
      obtain ⟨hxl, hs⟩ := hw.1 rfl
      obtain ⟨b, eb, eb2, hb⟩ := rising_both m.2.length (by omega) l hl
      simp only [Bool.not_true, cond_false]
      rw [eb, eb2, bind_some', bind_some']
      cases b with
      | false => exact ⟨(0, 4), rfl, rfl⟩
      | true =>
        simp only [Bool.not_true, cond_false]
        rw [in_eq, in_cases lim, bind_some']
        by_cases c1 : lim < 0
        · rw [decide_eq_true c1]; exact ⟨(0, 1), rfl, rfl⟩
        by_cases c2 : lim > 1000000
        · rw [decide_eq_false c1, decide_eq_true c2]; exact ⟨(0, 1), rfl, rfl⟩
        rw [decide_eq_false c1, decide_eq_false c2]
        simp only [Bool.not_false, Bool.and_self, Bool.not_true, cond_false]
        rw [in_eq, in_cases s, bind_some']
        by_cases c3 : s < 1
        · rw [decide_eq_true c3]; exact ⟨(0, 1), rfl, rfl⟩
        by_cases c4 : s > 3600
        · rw [decide_eq_false c3, decide_eq_true c4]; exact ⟨(0, 1), rfl, rfl⟩
        rw [decide_eq_false c3, decide_eq_false c4]
        simp only [Bool.not_false, Bool.and_self, Bool.not_true, cond_false]
        rw [in_eq, in_cases st, bind_some']
        by_cases c5 : st < 0
        · rw [decide_eq_true c5]; exact ⟨(0, 1), rfl, rfl⟩
        by_cases c6 : st > 1000
        · rw [decide_eq_false c5, decide_eq_true c6]; exact ⟨(0, 1), rfl, rfl⟩
        rw [decide_eq_false c5, decide_eq_false c6]
        simp only [Bool.not_false, Bool.and_self, Bool.not_true, cond_false]
        rw [clearance_Until_J1_eq, ref35_Until_J1_eq]
        unfold ref35_Copy
        obtain ⟨ss, qs, hof, ha⟩ := of_spec' (by omega) (by omega) hxl hs
        rw [show ((m.1, m.2) : T_Mine) = m from rfl, hof, bind_some', show ((999 + 1 : Nat)) = 1000 from rfl, fitsB_true (by show f.2.length * 8 ≤ 140737488355328 ∧ f.2.length ≤ 9223372036854775807; omega), cond_true, bind_some']
        obtain ⟨st, rfl⟩ := Int.eq_ofNat_of_zero_le (show 0 ≤ st by omega)
        have := until_joint hm hxl hs hof ha hr t0 hl (hb rfl) (lim := lim) (s := s) ⟨by omega, by omega⟩ st (by omega) st 1000 1000 0 rfl (by omega) (by omega) (by rw [show ((0 : Nat) : Int) = 0 from rfl, Int.zero_mul]; omega)
        rw [show ((0 : Nat) : Int) = 0 from rfl, Int.zero_mul, Int.add_zero] at this
        exact this
end Go.Proofs.Ytpmpmlhjnddikaa
