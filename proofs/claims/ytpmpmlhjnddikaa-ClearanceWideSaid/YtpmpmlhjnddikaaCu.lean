/- Clearance: when roads are clear. No condition of its own. -/
import Derived.Test.YtpmpmlhjnddikaaCt
set_option linter.all false
namespace Go.Proofs.Ytpmpmlhjnddikaa
open Go.Pv M

theorem mk_vol {m : T_Mine} (hm : Mk m) : ∀ r, r ∈ m.2 → Vk r := fun r hr => by
  obtain ⟨_, _, _, ⟨d1, d2⟩, ⟨e1, e2⟩, _⟩ := hm.r r hr
  have a1 := Int.mul_le_mul d2 e2 (by omega) (by omega)
  have a2 := Int.mul_le_mul d1 e1 (by omega) (by omega)
  exact ⟨by omega, by omega⟩
/-- Right concentrations. -/
def Hr (m : T_Mine) (l : List Int) : Prop := l.length = m.2.length ∧ ∀ h, h ∈ l → Hk h
theorem after_tot {m : T_Mine} (hm : Mk m) {x : List T_Span} {ss : List (List Int)} {qs : List Int} (ha : Air m x ss qs) {high : List Int} (hr : Hr m high) {s : Int} (hs : 0 ≤ s ∧ s ≤ 2147483648) :
    ∃ out, clearance_air_after 1000 (m, (ss, qs)) high s = some out ∧ Hr m out ∧ ∀ i, i < m.2.length → out.getD i 0 = aft m high s (ss.getD i []) (qs.getD i 0) i := by
  obtain ⟨hf, hh⟩ := hr
  have h10 := hm.r2
  have hv := mk_vol hm
  unfold clearance_air_after
  rw [mkB_true (by omega), cond_true]
  simp only
  obtain ⟨out, e, k1, k2⟩ := after_loop (by omega) hv ha hf hh hs m.2.length 1000 0 (List.replicate (high.length : Int).toNat 0) rfl (by omega) (by rw [List.length_replicate]; omega) (fun i hi => by omega)
  rw [show ((0 : Nat) : Int) = 0 from rfl] at e
  refine ⟨out, e, ⟨k1, fun h hm' => ?_⟩, k2⟩
  obtain ⟨i, hi, e⟩ := List.mem_iff_getElem.1 hm'
  have := k2 i (by omega)
  rw [List.getD_eq_getElem?_getD, List.getElem?_eq_getElem hi, Option.getD_some, e] at this
  rw [this]
  obtain ⟨s1, s2, s3⟩ := ha.s i (by omega)
  obtain ⟨c1, c2⟩ := mx_bd hf hh (ss.getD i []) 0 ⟨by omega, by omega⟩ s3
  obtain ⟨g1, g2⟩ := hh _ (getD_mem 0 (show i < high.length by omega))
  obtain ⟨v1, v2⟩ := hv _ (getD_mem D_Road (show i < m.2.length by omega))
  have hq := sureV_bd (m.2.getD i D_Road) (x.getD i D_Span)
  rw [← ha.q i (by omega)] at hq
  have qs0 : 0 ≤ qs.getD i 0 * s := Int.mul_nonneg hq.1 hs.1
  have b1 := stp_ge (c := mx high 0 (ss.getD i [])) (h := high.getD i 0) (v := (m.2.getD i D_Road).2.2.1 * (m.2.getD i D_Road).2.2.2.1 * 1000) (q := qs.getD i 0 * s) (by omega) qs0
  have b2 := stp_le (c := mx high 0 (ss.getD i [])) (h := high.getD i 0) (v := (m.2.getD i D_Road).2.2.1 * (m.2.getD i D_Road).2.2.2.1 * 1000) (q := qs.getD i 0 * s) (by omega) qs0
  unfold aft
  exact ⟨by omega, by omega⟩
theorem step_eq {m : T_Mine} (hm : Mk m) {x : List T_Span} (hx : x.length = m.2.length) (hs : ∀ s, s ∈ x → Sk s) {ss : List (List Int)} {qs : List Int} (hof : clearance_of 1000 m x = some (m, (ss, qs))) {t : Int} {high out : List Int} (hr : Hr m high) {s : Int} (t0 : 0 ≤ t) (s0 : 0 ≤ s) (ht : t + s ≤ 2147483648) (ho : clearance_air_after 1000 (m, (ss, qs)) high s = some out) :
    clearance_Step 1000 m x (t, high) (t + s) = some ((t + s, out), 0) := by
  unfold clearance_Step
  rw [given_true hm hx hs (f := (t, high)) ⟨t0, by show t ≤ _; omega⟩ hr.1 hr.2, bind_some']
  simp only [Bool.not_true, cond_false]
  rw [decide_eq_false (by omega), cond_false, decide_eq_false (by omega), cond_false, hof, bind_some', W_eq (n := t + s - t) (by omega) (by omega), show t + s - t = s by omega, ho, bind_some']

/-! ### One step after the other -/
def seqH (a : T_air) (s : Int) (h : List Int) : Nat → List Int
  | 0 => h
  | n + 1 => (clearance_air_after 1000 a (seqH a s h n) s).getD []
theorem seqH_hr {m : T_Mine} (hm : Mk m) {x : List T_Span} {ss : List (List Int)} {qs : List Int} (ha : Air m x ss qs) {high : List Int} (hr : Hr m high) {s : Int} (hs : 0 ≤ s ∧ s ≤ 2147483648) : ∀ n, Hr m (seqH (m, (ss, qs)) s high n)
  | 0 => hr
  | n + 1 => by
    obtain ⟨out, e, k, _⟩ := after_tot hm ha (seqH_hr hm ha hr hs n) hs
    show Hr m ((clearance_air_after 1000 (m, (ss, qs)) (seqH (m, (ss, qs)) s high n) s).getD [])
    rw [e]; exact k
theorem seqH_next {m : T_Mine} (hm : Mk m) {x : List T_Span} {ss : List (List Int)} {qs : List Int} (ha : Air m x ss qs) {high : List Int} (hr : Hr m high) {s : Int} (hs : 0 ≤ s ∧ s ≤ 2147483648) (n : Nat) : clearance_air_after 1000 (m, (ss, qs)) (seqH (m, (ss, qs)) s high n) s = some (seqH (m, (ss, qs)) s high (n + 1)) := by
  obtain ⟨out, e, k, _⟩ := after_tot hm ha (seqH_hr hm ha hr hs n) hs
  show _ = some ((clearance_air_after 1000 (m, (ss, qs)) (seqH (m, (ss, qs)) s high n) s).getD [])
  rw [e]; rfl
/-- All of some roads have at most a limit. -/
def Low (l : List Int) (lim : Int) (high : List Int) : Prop := ∀ r, r ∈ l → high.getD r.toNat 0 ≤ lim
theorem over_loop {l : List Int} {lim : Int} {high : List Int} (hl : l.length ≤ 900) (hr : ∀ r, r ∈ l → Ri high.length r) : ∀ (j n k : Nat), j + k = l.length → j < n → (∀ i, i < k → high.getD (l.getD i 0).toNat 0 ≤ lim) → ∃ r : Int, slices_IndexFunc_int_int_S3_L1 1000 n l l.length k high lim = some (r, (high, lim)) ∧ (r ≥ 0 ↔ ¬ Low l lim high)
  | 0, n + 1, k, hk, hn, hg => by
    rw [slices_IndexFunc_int_int_S3_L1_succ, decide_eq_false (by omega), cond_false]
    refine ⟨-1, rfl, fun h => by omega, fun h => absurd (fun r hr => ?_) h⟩
    obtain ⟨i, hi, e⟩ := List.mem_iff_getElem.1 hr
    have := hg i (by omega)
    rw [List.getD_eq_getElem?_getD (l := l), List.getElem?_eq_getElem hi, Option.getD_some, e] at this
    exact this
  | j + 1, n + 1, k, hk, hn, hg => by
    obtain ⟨a, b⟩ := hr _ (getD_mem 0 (show k < l.length by omega))
    rw [slices_IndexFunc_int_int_S3_L1_succ, decide_eq_true (by omega), cond_true, inB_true (by omega), cond_true, Int.toNat_natCast]
    unfold clearance_Until_1
    rw [inB_true ⟨a, b⟩, cond_true, bind_some']
    simp only
    by_cases h : high.getD (l.getD k 0).toNat 0 > lim
    · rw [decide_eq_true h, cond_true]
      refine ⟨k, rfl, fun _ hh => ?_, fun _ => by omega⟩
      have := hh _ (getD_mem 0 (show k < l.length by omega)); omega
    · rw [decide_eq_false h, cond_false, W_eq (n := (k : Int) + 1) (by omega) (by omega), show (k : Int) + 1 = ((k + 1 : Nat) : Int) by omega]
      refine over_loop hl hr j n (k + 1) (by omega) (by omega) fun i hi => ?_
      by_cases e : i = k
      · subst e; omega
      · exact hg i (by omega)
theorem over_eq {l : List Int} {lim : Int} {high : List Int} (hl : l.length ≤ 900) (hr : ∀ r, r ∈ l → Ri high.length r) : ∃ b, slices_ContainsFunc_int_int_S3 1000 l high lim = some (b, (high, lim)) ∧ (b = true ↔ ¬ Low l lim high) := by
  unfold slices_ContainsFunc_int_int_S3 slices_IndexFunc_int_int_S3
  obtain ⟨r, e, h⟩ := over_loop (lim := lim) hl hr l.length 1000 0 rfl (by omega) (fun i hi => by omega)
  rw [show ((0 : Nat) : Int) = 0 from rfl] at e
  rw [e]
  exact ⟨_, rfl, by rw [decide_eq_true_iff]; exact h⟩
theorem rising_loop {l : List Int} {n0 : Nat} (hl : l.length ≤ 900) (hr : ∀ r, r ∈ l → Ri n0 r) (ho : ∀ k, k + 1 < l.length → l.getD k 0 < l.getD (k + 1) 0) : ∀ (j n k : Nat), j + k = l.length → j < n → lists_Rising_L1 1000 n l 0 ((n0 : Int) - 1) l l.length k = some true
  | 0, n + 1, k, hk, hn => by rw [lists_Rising_L1_succ, decide_eq_false (by omega), cond_false]
  | j + 1, n + 1, k, hk, hn => by
    have ih := rising_loop hl hr ho j n (k + 1) (by omega) (by omega)
    obtain ⟨a, b⟩ := hr _ (getD_mem 0 (show k < l.length by omega))
    rw [lists_Rising_L1_succ, decide_eq_true (by omega), cond_true, inB_true (by omega), cond_true, Int.toNat_natCast, decide_eq_false (by omega), cond_false, decide_eq_false (by omega), cond_false, W_eq (n := (k : Int) + 1) (by omega) (by omega), show (k : Int) + 1 = ((k + 1 : Nat) : Int) by omega]
    by_cases h : (k : Int) > 0
    · have := ho (k - 1) (by omega)
      rw [show k - 1 + 1 = k by omega] at this
      rw [decide_eq_true h, cond_true, W_eq (n := (k : Int) - 1) (by omega) (by omega), inB_true (by omega), cond_true, show ((k : Int) - 1).toNat = k - 1 by omega, decide_eq_false (by omega), cond_false]
      exact ih
    · rw [decide_eq_false h, cond_false]; exact ih
section
variable {m : T_Mine} (hm : Mk m) {x : List T_Span} (hx : x.length = m.2.length) (hs : ∀ s, s ∈ x → Sk s) {ss : List (List Int)} {qs : List Int} (hof : clearance_of 1000 m x = some (m, (ss, qs))) (ha : Air m x ss qs)
  {high : List Int} (hr : Hr m high) {t0 : Int} (ht : 0 ≤ t0 ∧ t0 ≤ 200) {l : List Int} (hl : l.length ≤ 900) (hri : ∀ r, r ∈ l → Ri m.2.length r) (ho : ∀ k, k + 1 < l.length → l.getD k 0 < l.getD (k + 1) 0) {lim s : Int} (hlim : 0 ≤ lim ∧ lim ≤ 1000000) (hs1 : 1 ≤ s ∧ s ≤ 200)
include hm ha hr ht hl hri hs1
theorem ks_bd {k : Nat} (hk : k ≤ 30) : 0 ≤ (k : Int) * s ∧ (k : Int) * s ≤ 6000 :=
  ⟨Int.mul_nonneg (by omega) (by omega), by have := Int.mul_le_mul (show (k : Int) ≤ 30 by omega) hs1.2 (by omega) (by omega); omega⟩
/-- What 'Until' finds. -/
def Found (m : T_Mine) (ss : List (List Int)) (qs : List Int) (high l : List Int) (lim s : Int) (r : Int × Int) : Prop :=
  (∃ k : Nat, k ≤ 20 ∧ r = ((k : Int) * s, 0) ∧ Low l lim (seqH (m, (ss, qs)) s high k) ∧ ∀ i, i < k → ¬ Low l lim (seqH (m, (ss, qs)) s high i)) ∨ r = (0, 50)
theorem until_loop : ∀ (j n k : Nat), j + k = 21 → j < n → (∀ i, i < k → ¬ Low l lim (seqH (m, (ss, qs)) s high i)) → ∃ r, clearance_Until_L1 1000 n l s 20 k t0 high lim m.1 m.2 ss qs (seqH (m, (ss, qs)) s high k) = some r ∧ Found m ss qs high l lim s r
  | 0, n + 1, k, hk, hn, hg => by
    rw [clearance_Until_L1_succ, decide_eq_false (by omega), cond_false]
    exact ⟨_, rfl, .inr rfl⟩
  | j + 1, n + 1, k, hk, hn, hg => by
    have kb := ks_bd hm ha hr ht hl hri hs1 (k := k) (by omega)
    have hk' := seqH_hr hm ha hr (s := s) ⟨by omega, by omega⟩ k
    obtain ⟨b, e, hb⟩ := over_eq (l := l) (lim := lim) (high := seqH (m, (ss, qs)) s high k) hl (by rw [hk'.1]; exact hri)
    rw [clearance_Until_L1_succ, decide_eq_true (by omega), cond_true, W_eq (n := (k : Int) * s) (by omega) (by omega), W_eq (n := t0 + (k : Int) * s) (by omega) (by omega), decide_eq_true (by omega), cond_true, e, bind_some']
    cases b with
    | false =>
      have hlow : Low l lim (seqH (m, (ss, qs)) s high k) := Classical.byContradiction fun h => by have := hb.2 h; cases this
      exact ⟨_, rfl, .inl ⟨k, by omega, rfl, hlow, hg⟩⟩
    | true =>
      simp only [Bool.not_true, cond_false]
      rw [show (((m.1, m.2), (ss, qs)) : T_air) = (m, (ss, qs)) from rfl, seqH_next hm ha hr ⟨by omega, by omega⟩ k, bind_some', W_eq (n := (k : Int) + 1) (by omega) (by omega), show (k : Int) + 1 = ((k + 1 : Nat) : Int) by omega]
      refine until_loop j n (k + 1) (by omega) (by omega) fun i hi => ?_
      by_cases e : i = k
      · subst e; exact hb.1 rfl
      · exact hg i (by omega)
include hx hs hof ho hlim
theorem until_spec : ∃ r, clearance_Until 1000 m x (t0, high) l lim s 20 = some r ∧ Found m ss qs high l lim s r := by
  have h10 := hm.r2
  unfold clearance_Until lists_Rising
  have er := rising_loop hl hri ho l.length 1000 0 rfl (by omega)
  rw [show ((0 : Nat) : Int) = 0 from rfl] at er
  rw [given_true hm hx hs (f := (t0, high)) ⟨ht.1, by show t0 ≤ _; omega⟩ hr.1 hr.2, bind_some']
  simp only [Bool.not_true, cond_false]
  rw [W_eq (n := (m.2.length : Int) - 1) (by omega) (by omega), er, bind_some', in_eq, decide_eq_true hlim.1, decide_eq_true hlim.2, in_eq, decide_eq_true hs1.1, decide_eq_true (show s ≤ 3600 by omega), in_eq]
  simp only [Bool.not_true, cond_false, bind_some', Bool.and_self, decide_true, show decide ((0 : Int) ≤ 20) = true from rfl, show decide ((20 : Int) ≤ 1000) = true from rfl]
  rw [clearance_Until_J1_eq, show ((m.1, m.2) : T_Mine) = m from rfl, hof, bind_some']
  exact until_loop hm ha hr ht hl hri hs1 21 1000 0 rfl (by omega) (fun i hi => by omega)
theorem low_law (z : Nat) (hz : z ≤ 20) (hlow : Low l lim (seqH (m, (ss, qs)) s high z)) (hno : ∀ i, i < z → ¬ Low l lim (seqH (m, (ss, qs)) s high i)) : ∀ (j n k : Nat), j + k = z + 1 → j < n → law35_ClearanceUntil_L1 1000 n x l lim s ((z : Int) * s) k m.1 m.2 (t0 + k * s) (seqH (m, (ss, qs)) s high k) = some true
  | j, n + 1, k, hk, hn => by
    have zb := ks_bd hm ha hr ht hl hri hs1 (k := z) (by omega)
    have kb := ks_bd hm ha hr ht hl hri hs1 (k := k) (by omega)
    have ed : ((z : Int) * s).tdiv s = z := Int.mul_tdiv_cancel _ (by omega)
    have em : ((z : Int) * s).tmod s = 0 := Int.mul_tmod_left _ _
    rw [law35_ClearanceUntil_L1_succ, ne2 (show s ≠ 0 by omega), cond_false, cond_false, ed, em, W_eq (n := (z : Int)) (by omega) (by omega)]
    by_cases h : k ≤ z
    · have hk' := seqH_hr hm ha hr (s := s) ⟨by omega, by omega⟩ k
      rw [decide_eq_true (by omega), cond_true]
      have L2 : ∀ (j' n' i : Nat) (b : Bool), j' + i = l.length → j' < n' → (b = true ↔ ∀ q, q < i → (seqH (m, (ss, qs)) s high k).getD (l.getD q 0).toNat 0 ≤ lim) → law35_ClearanceUntil_L2 1000 n n' x l lim s ((z : Int) * s) k b i m.1 m.2 (t0 + k * s) (seqH (m, (ss, qs)) s high k) = some true := by
        intro j'
        induction j' with
        | succ j' ih =>
          intro n' i b hi hn' hb
          obtain ⟨n', rfl⟩ : ∃ n, n' = n + 1 := ⟨n' - 1, by omega⟩
          obtain ⟨r1, r2⟩ := hri _ (getD_mem 0 (show i < l.length by omega))
          rw [law35_ClearanceUntil_L2_succ, decide_eq_true (by omega), cond_true, W_eq (n := (i : Int) + 1) (by omega) (by omega), show (i : Int) + 1 = ((i + 1 : Nat) : Int) by omega]
          cases b with
          | true =>
            rw [cond_true, inB_true (by omega), cond_true, Int.toNat_natCast, inB_true (by rw [hk'.1]; omega), cond_true]
            refine ih n' (i + 1) _ (by omega) (by omega) ⟨fun hd q hq => ?_, fun hh => decide_eq_true (hh i (by omega))⟩
            by_cases e : q = i
            · subst e; exact of_decide_eq_true hd
            · exact hb.1 rfl q (by omega)
          | false =>
            rw [cond_false]
            refine ih n' (i + 1) _ (by omega) (by omega) ⟨fun h => (by cases h), fun hh => ?_⟩
            exact hb.2 fun q hq => hh q (by omega)
        | zero =>
          intro n' i b hi hn' hb
          obtain ⟨n', rfl⟩ : ∃ n, n' = n + 1 := ⟨n' - 1, by omega⟩
          have hb' : b = true ↔ Low l lim (seqH (m, (ss, qs)) s high k) := by
            rw [hb]
            constructor
            · intro hh r hr'
              obtain ⟨q, hq, e⟩ := List.mem_iff_getElem.1 hr'
              have := hh q (by omega)
              rw [List.getD_eq_getElem?_getD (l := l), List.getElem?_eq_getElem hq, Option.getD_some, e] at this
              exact this
            · intro hh q hq
              exact hh _ (getD_mem 0 (by omega))
          have hbe : (b == ((k : Int) * s == (z : Int) * s)) = true := by
            by_cases e : k = z
            · subst e
              rw [hb'.2 hlow, beq_self_eq_true]; rfl
            · have : b = false := by
                cases b with
                | false => rfl
                | true => exact absurd (hb'.1 rfl) (hno k (by omega))
              rw [this]
              have : (k : Int) * s ≠ (z : Int) * s := fun hh => by
                have := Int.eq_of_mul_eq_mul_right (show s ≠ 0 by omega) hh
                omega
              rw [ne2 this]; rfl
          rw [law35_ClearanceUntil_L2_succ, decide_eq_false (by omega), cond_false, W_eq (n := (k : Int) * s) (by omega) (by omega), hbe, Bool.not_true, cond_false, W_eq (n := t0 + (k : Int) * s + s) (by omega) (by omega), show ((m.1, m.2) : T_Mine) = m from rfl, step_eq hm hx hs hof hk' (t := t0 + (k : Int) * s) (by omega) (by omega) (by omega) (seqH_next hm ha hr ⟨by omega, by omega⟩ k), bind_some']
          simp only
          have hk2 := seqH_hr hm ha hr (s := s) ⟨by omega, by omega⟩ (k + 1)
          rw [show ((0 : Int) != 0) = false from rfl, cond_false, hk2.1, bne_self_eq_false, cond_false, W_eq (n := (k : Int) + 1) (by omega) (by omega), show (k : Int) + 1 = ((k + 1 : Nat) : Int) by omega]
          have e : t0 + (k : Int) * s + s = t0 + ((k + 1 : Nat) : Int) * s := by
            rw [show ((k + 1 : Nat) : Int) = (k : Int) + 1 by omega, Int.add_mul, Int.one_mul]; omega
          rw [e]
          obtain ⟨j, rfl⟩ : ∃ j', j = j' + 1 := ⟨j - 1, by omega⟩
          exact low_law z hz hlow hno j n (k + 1) (by omega) (by omega)
      exact L2 l.length 1000 0 true (by omega) (by omega) ⟨fun _ q hq => by omega, fun _ => rfl⟩
    · rw [decide_eq_false (by omega), cond_false, awake_eq, bind_some', cond_true]; rfl
end
theorem until_true (t : List Int) : law35_ClearanceUntil 1000 t = some true := by
  unfold law35_ClearanceUntil
  rw [light_eq, bind_some']
  by_cases h : (t.length : Int) ≤ 400
  · simp only [h, decide_true, Bool.not_true, cond_false]
    rw [roll_spec, bind_some']
    obtain ⟨m, d1, e1, hm, hd1⟩ := mine_spec (rollD_ok (l := t) (by omega))
    simp only
    rw [e1, bind_some']
    obtain ⟨x, d2, e2, hx, hs, hd2⟩ := flows_spec hd1 hm
    simp only
    rw [e2, bind_some']
    obtain ⟨f, d3, e3, ⟨f1, f2⟩, hf, hh, hd3⟩ := fumes_spec hd2 hm
    simp only
    rw [e3, bind_some']
    have h7 := hm.n2
    have h10 := hm.r2
    obtain ⟨l, d4, e4, l1, l2, l3, hd4⟩ := some_spec hd3 (q := m.2.length) (by omega)
    simp only
    rw [e4, bind_some']
    obtain ⟨lim, d5, e5, m5, hd5⟩ := of_spec 1000 hd4 [30, 500, 0] (by decide) (by decide)
    simp only
    rw [e5, bind_some']
    obtain ⟨z, d6, e6, z1, z2, hd6⟩ := next_spec 1000 hd5 (n := 200) (by omega) (by omega)
    simp only
    rw [e6, bind_some']
    simp only [List.mem_cons, List.not_mem_nil, or_false] at m5
    obtain ⟨ss, qs, hof, ha⟩ := of_spec' (by omega) (by omega) hx hs
    simp only
    rw [W_eq (n := 1 + z) (by omega) (by omega)]
    obtain ⟨r, er, fr⟩ := until_spec hm hx hs hof ha (high := f.2) ⟨hf, hh⟩ (t0 := f.1) ⟨by omega, by omega⟩ (l := l) (by omega) l2 l3 (lim := lim) (s := 1 + z) ⟨by omega, by omega⟩ ⟨by omega, by omega⟩
    rw [show ((f.1, f.2) : T_Fumes) = f from rfl] at er
    rw [er, bind_some']
    rcases fr with ⟨k, k1, rfl, k3, k4⟩ | rfl
    · simp only
      rw [show ((0 : Int) != 0) = false from rfl, cond_false]
      have := low_law hm hx hs hof ha (high := f.2) ⟨hf, hh⟩ (t0 := f.1) ⟨by omega, by omega⟩ (l := l) (by omega) l2 l3 (lim := lim) (s := 1 + z) ⟨by omega, by omega⟩ ⟨by omega, by omega⟩ k k1 k3 k4 (k + 1) 1000 0 rfl (by omega)
      rw [show ((0 : Nat) : Int) = 0 from rfl, Int.zero_mul, Int.add_zero] at this
      exact this
    · simp only
      rw [awake_eq]; rfl
  · simp only [h, decide_false, Bool.not_false, cond_true]
    rw [awake_eq]; rfl
theorem clearanceUntil_any (dargs : List DV) (h : TyAs [(false, [.sl [.it .i64]])] dargs) : CallOK Try.prog 5 dargs [] 0 (B true) [] 0 :=
  law_any (law35_ClearanceUntil_pure 1000) (fun x _ => until_true _) rfl dargs h
end Go.Proofs.Ytpmpmlhjnddikaa
