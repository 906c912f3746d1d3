/- Clearance: where air can come from; one step. No condition of its own. -/
import Derived.Test.YtpmpmlhjnddikaaCl
set_option linter.all false
namespace Go.Proofs.Ytpmpmlhjnddikaa
open Go.Pv M

/-! ### Membership -/
theorem idx_loop (l : List Int) (t : Int) (hl : l.length ≤ 900) : ∀ (m n k : Nat), m + k = l.length → m < n → (∀ j, j < k → l.getD j 0 ≠ t) → ∃ r, slices_Index_int_int_L1 1000 n l t l.length k = some r ∧ (r ≥ 0 ↔ t ∈ l)
  | 0, n + 1, k, hk, hn, hg => by
    rw [slices_Index_int_int_L1_succ, decide_eq_false (by omega), cond_false]
    refine ⟨-1, rfl, fun h => by omega, fun h => ?_⟩
    obtain ⟨j, hj, e⟩ := List.mem_iff_getElem.1 h
    have := hg j (by omega)
    rw [List.getD_eq_getElem?_getD, List.getElem?_eq_getElem hj] at this
    exact absurd e this
  | m + 1, n + 1, k, hk, hn, hg => by
    rw [slices_Index_int_int_L1_succ, decide_eq_true (by omega), cond_true, inB_true (by omega), cond_true, Int.toNat_natCast]
    by_cases h : t = l.getD k 0
    · rw [eq2 h, cond_true]
      refine ⟨k, rfl, fun _ => ?_, fun _ => by omega⟩
      rw [h]; exact getD_mem 0 (by omega)
    · rw [ne2 h, cond_false, W_eq (n := (k : Int) + 1) (by omega) (by omega), show (k : Int) + 1 = ((k + 1 : Nat) : Int) by omega]
      refine idx_loop l t hl m n (k + 1) (by omega) (by omega) fun j hj => ?_
      by_cases e : j = k
      · subst e; exact fun h' => h h'.symm
      · exact hg j (by omega)
theorem contains_eq (l : List Int) (t : Int) (hl : l.length ≤ 900) : slices_Contains_int_int 1000 l t = some (decide (t ∈ l)) := by
  unfold slices_Contains_int_int slices_Index_int_int
  obtain ⟨r, e, h⟩ := idx_loop l t hl l.length 1000 0 rfl (by omega) fun j hj => by omega
  rw [show ((0 : Nat) : Int) = 0 from rfl] at e
  rw [e, bind_some']
  congr 1
  exact decide_eq_decide.2 h

/-! ### Which road feeds which -/
def outs (r : T_Road) (s : T_Span) : List Int := if r.2.2.2.2.2.1 = true then [] else (if s.2 > 0 then [r.2.1] else []) ++ (if s.1 < 0 then [r.1] else [])
def inns (r : T_Road) (s : T_Span) : List Int := if r.2.2.2.2.2.1 = true then [] else (if s.2 > 0 then [r.1] else []) ++ (if s.1 < 0 then [r.2.1] else [])
theorem ends_eq (r : T_Road) (s : T_Span) : clearance_ends 1000 r s = some (outs r s, inns r s) := by
  unfold clearance_ends outs inns
  cases hb : r.2.2.2.2.2.1 with
  | true => rfl
  | false =>
    rw [cond_false]
    simp only [Bool.false_eq_true, if_false]
    by_cases h1 : s.2 > 0
    · rw [decide_eq_true h1, cond_true, if_pos h1, if_pos h1, fitsB_true (by simp), fitsB_true (by simp), cond_true, cond_true]
      by_cases h2 : s.1 < 0
      · rw [decide_eq_true h2, cond_true, if_pos h2, if_pos h2, fitsB_true (by simp), fitsB_true (by simp), cond_true, cond_true]
      · rw [decide_eq_false h2, cond_false, if_neg h2, if_neg h2]; rfl
    · rw [decide_eq_false h1, cond_false, if_neg h1, if_neg h1]
      by_cases h2 : s.1 < 0
      · rw [decide_eq_true h2, cond_true, if_pos h2, if_pos h2, fitsB_true (by simp), fitsB_true (by simp), cond_true, cond_true]; rfl
      · rw [decide_eq_false h2, cond_false, if_neg h2, if_neg h2]; rfl
theorem outs_len (r : T_Road) (s : T_Span) : (outs r s).length ≤ 2 ∧ (inns r s).length ≤ 2 := by
  unfold outs inns
  constructor
  · split
    · simp
    · split <;> split <;> simp
  · split
    · simp
    · split <;> split <;> simp
def okp (m : T_Mine) (l : List Int) (p : Int) : Prop := (0 ≤ p ∧ p < m.1.length) ∧ (m.1.getD p.toNat D_Place).2 = false ∧ p ∈ l
instance (m : T_Mine) (l : List Int) (p : Int) : Decidable (okp m l p) := inferInstanceAs (Decidable (_ ∧ _ ∧ _))
theorem feeds1_eq {m : T_Mine} (hm : m.1.length ≤ 1000) (p : Int) (l : List Int) (hl : l.length ≤ 900) : clearance_feeds_1 1000 p m l = some (decide (okp m l p), (m, l)) := by
  unfold clearance_feeds_1
  rw [W_eq (n := (m.1.length : Int) - 1) (by omega) (by omega), in_eq, bind_some']
  by_cases h : 0 ≤ p ∧ p < m.1.length
  · rw [decide_eq_true h.1, decide_eq_true (show p ≤ (m.1.length : Int) - 1 by omega)]
    simp only [Bool.and_self, cond_true]
    rw [inB_true h, cond_true, contains_eq l p hl, bind_some']
    cases hs : (m.1.getD p.toNat D_Place).2 with
    | true => rw [decide_eq_false (show ¬ okp m l p from fun hh => by have := hh.2.1; rw [hs] at this; cases this)]; rfl
    | false =>
      rw [Bool.not_false, cond_true]
      congr 1; congr 1
      exact decide_eq_decide.2 ⟨fun hh => ⟨h, hs, hh⟩, fun hh => hh.2.2⟩
  · have : (decide (0 ≤ p) && decide (p ≤ (m.1.length : Int) - 1)) = false := by
      rw [Bool.and_eq_false_iff]; simp only [decide_eq_false_iff_not]; omega
    rw [this, cond_false, decide_eq_false (show ¬ okp m l p from fun hh => h hh.1)]
theorem feedsF_loop {m : T_Mine} (hm : m.1.length ≤ 1000) (q l : List Int) (hl : l.length ≤ 900) (hq : q.length ≤ 900) : ∀ (j n k : Nat), j + k = q.length → j < n → (∀ i, i < k → ¬ okp m l (q.getD i 0)) → ∃ r : Int, slices_IndexFunc_int_int_S2_L1 1000 n q q.length k m.1 m.2 l = some (r, (m, l)) ∧ (r ≥ 0 ↔ ∃ p, p ∈ q ∧ okp m l p)
  | 0, n + 1, k, hk, hn, hg => by
    rw [slices_IndexFunc_int_int_S2_L1_succ, decide_eq_false (by omega), cond_false]
    refine ⟨-1, rfl, fun h => by omega, fun ⟨p, hp, h⟩ => ?_⟩
    obtain ⟨i, hi, e⟩ := List.mem_iff_getElem.1 hp
    have := hg i (by omega)
    rw [List.getD_eq_getElem?_getD, List.getElem?_eq_getElem hi, Option.getD_some, e] at this
    exact absurd h this
  | j + 1, n + 1, k, hk, hn, hg => by
    rw [slices_IndexFunc_int_int_S2_L1_succ, decide_eq_true (by omega), cond_true, inB_true (by omega), cond_true, Int.toNat_natCast, show ((m.1, m.2) : T_Mine) = m from rfl, feeds1_eq hm _ l hl, bind_some']
    by_cases h : okp m l (q.getD k 0)
    · rw [decide_eq_true h, cond_true]
      exact ⟨k, rfl, fun _ => ⟨_, getD_mem 0 (by omega), h⟩, fun _ => by omega⟩
    · rw [decide_eq_false h, cond_false, W_eq (n := (k : Int) + 1) (by omega) (by omega), show (k : Int) + 1 = ((k + 1 : Nat) : Int) by omega]
      refine feedsF_loop hm q l hl hq j n (k + 1) (by omega) (by omega) fun i hi => ?_
      by_cases e : i = k
      · subst e; exact h
      · exact hg i (by omega)
/-- Road `a` feeds road `b`. -/
def fd (m : T_Mine) (x : List T_Span) (a b : Nat) : Prop := ∃ p, p ∈ outs (m.2.getD a D_Road) (x.getD a D_Span) ∧ okp m (inns (m.2.getD b D_Road) (x.getD b D_Span)) p
theorem feeds_eq {m : T_Mine} (hm : m.1.length ≤ 1000) {x : List T_Span} (hx : x.length = m.2.length) {a b : Nat} (ha : a < m.2.length) (hb : b < m.2.length) : ∃ v, clearance_feeds 1000 m x a b = some v ∧ (v = true ↔ fd m x a b) := by
  unfold clearance_feeds slices_ContainsFunc_int_int_S2 slices_IndexFunc_int_int_S2
  rw [inB_true (by omega), cond_true, inB_true (by omega), cond_true, Int.toNat_natCast, ends_eq, bind_some', inB_true (by omega), cond_true, inB_true (by omega), cond_true, Int.toNat_natCast, ends_eq, bind_some']
  obtain ⟨r, e, h⟩ := feedsF_loop hm (outs (m.2.getD a D_Road) (x.getD a D_Span)) (inns (m.2.getD b D_Road) (x.getD b D_Span)) (by have := (outs_len (m.2.getD b D_Road) (x.getD b D_Span)).2; omega) (by have := (outs_len (m.2.getD a D_Road) (x.getD a D_Span)).1; omega) _ 1000 0 rfl (by have := (outs_len (m.2.getD a D_Road) (x.getD a D_Span)).1; omega) (fun i hi => by omega)
  rw [show ((0 : Nat) : Int) = 0 from rfl] at e
  simp only
  rw [e, bind_some', bind_some']
  refine ⟨_, rfl, ?_⟩
  rw [decide_eq_true_iff]; exact h

/-! ### From where air comes -/
def cntF : List Bool → Nat
  | [] => 0
  | true :: l => cntF l
  | false :: l => cntF l + 1
theorem cntF_set : ∀ (l : List Bool) (k : Nat), k < l.length → l.getD k false = false → cntF (l.set k true) + 1 = cntF l
  | [], k, h, _ => absurd h (Nat.not_lt_zero _)
  | false :: l, 0, _, _ => rfl
  | true :: l, 0, _, h => by cases h
  | false :: l, k + 1, h, e => by
    have := cntF_set l k (by simpa using h) (by simpa using e)
    show cntF (l.set k true) + 1 + 1 = cntF l + 1
    omega
  | true :: l, k + 1, h, e => cntF_set l k (by simpa using h) (by simpa using e)
theorem cntF_rep : ∀ n : Nat, cntF (List.replicate n false) = n
  | 0 => rfl
  | n + 1 => by rw [List.replicate_succ]; show cntF _ + 1 = _; rw [cntF_rep n]
def Ri (n : Nat) (a : Int) : Prop := 0 ≤ a ∧ a < n
theorem where_loop (q : List Bool) (hq : q.length ≤ 900) : ∀ (j n k : Nat) (l : List Int), j + k = q.length → j < n → l.length ≤ k → (∀ a, a ∈ l → Ri q.length a) → ∃ l', lists_Where_S1_L1 1000 n q.length k q l = some (l', q) ∧ l'.length ≤ q.length ∧ ∀ a, a ∈ l' → Ri q.length a
  | 0, n + 1, k, l, hk, hn, hl, hr => by
    rw [lists_Where_S1_L1_succ, decide_eq_false (by omega), cond_false]
    exact ⟨l, rfl, by omega, hr⟩
  | j + 1, n + 1, k, l, hk, hn, hl, hr => by
    rw [lists_Where_S1_L1_succ, decide_eq_true (by omega), cond_true]
    unfold clearance_Sources_1
    rw [inB_true (by omega), cond_true, bind_some', Int.toNat_natCast, W_eq (n := (k : Int) + 1) (by omega) (by omega), show (k : Int) + 1 = ((k + 1 : Nat) : Int) by omega]
    cases q.getD k false with
    | true =>
      simp only [cond_true]
      rw [fitsB_true (by omega), cond_true]
      exact where_loop q hq j n (k + 1) _ (by omega) (by omega) (by rw [List.length_append, List.length_singleton]; omega) (mem_app hr ⟨by omega, by omega⟩)
    | false => exact where_loop q hq j n (k + 1) l (by omega) (by omega) (by omega) hr
theorem src_loops {m : T_Mine} (hm : m.1.length ≤ 1000) (h2 : m.2.length ≤ 128) {x : List T_Span} (hx : x.length = m.2.length) : ∀ (n1 : Nat) (o : List Int) (f : List Bool), f.length = m.2.length → (∀ a, a ∈ o → Ri m.2.length a) → o.length + cntF f < n1 → o.length + cntF f ≤ 300 → ∃ l, clearance_Sources_L1 1000 n1 x m.1 m.2 o f = some l ∧ l.length ≤ m.2.length ∧ ∀ a, a ∈ l → Ri m.2.length a
  | n1 + 1, o, f, hf, ho, hn, h300 => by
    rw [clearance_Sources_L1_succ]
    by_cases h : (o.length : Int) > 0
    · rw [decide_eq_true h, cond_true, inB_true (by omega), cond_true, slB_true (by omega), cond_true]
      have e1 : (o.drop (1 : Int).toNat).take ((o.length : Int).toNat - (1 : Int).toNat) = o.drop 1 := by
        show (o.drop 1).take ((o.length : Int).toNat - 1) = o.drop 1
        rw [Int.toNat_natCast]; exact List.take_of_length_le (by rw [List.length_drop]; omega)
      rw [e1]
      have hb := ho _ (getD_mem 0 (show 0 < o.length by omega))
      have hd : ∀ a, a ∈ o.drop 1 → Ri m.2.length a := fun a ha => ho a (List.mem_of_mem_drop ha)
      have hdl : (o.drop 1).length + 1 = o.length := by rw [List.length_drop]; omega
      show ∃ l, clearance_Sources_L2 1000 n1 1000 x (o.getD 0 0) m.2.length 0 m.1 m.2 (o.drop 1) f = some l ∧ _
      generalize o.drop 1 = o' at hd hdl
      generalize o.getD 0 0 = b at hb
      obtain ⟨b0, b1⟩ := hb
      obtain ⟨b, rfl⟩ := Int.eq_ofNat_of_zero_le b0
      have L2 : ∀ (j n k : Nat) (o : List Int) (f : List Bool), j + k = m.2.length → j < n → f.length = m.2.length → (∀ a, a ∈ o → Ri m.2.length a) → o.length + cntF f < n1 → o.length + cntF f ≤ 300 → ∃ l, clearance_Sources_L2 1000 n1 n x b m.2.length k m.1 m.2 o f = some l ∧ l.length ≤ m.2.length ∧ ∀ a, a ∈ l → Ri m.2.length a := by
        intro j
        induction j with
        | zero =>
          intro n k o f hk hn hf ho hc hc2
          obtain ⟨n, rfl⟩ : ∃ n', n = n' + 1 := ⟨n - 1, by omega⟩
          rw [clearance_Sources_L2_succ, decide_eq_false (by omega), cond_false]
          exact src_loops hm h2 hx n1 o f hf ho hc hc2
        | succ j ih =>
          intro n k o f hk hn hf ho hc hc2
          obtain ⟨n, rfl⟩ : ∃ n', n = n' + 1 := ⟨n - 1, by omega⟩
          rw [clearance_Sources_L2_succ, decide_eq_true (by omega), cond_true, inB_true (by omega), cond_true, Int.toNat_natCast, W_eq (n := (k : Int) + 1) (by omega) (by omega), show (k : Int) + 1 = ((k + 1 : Nat) : Int) by omega]
          cases hfk : f.getD k false with
          | true =>
            simp only [Bool.not_true, cond_false]
            exact ih n (k + 1) o f (by omega) (by omega) hf ho hc hc2
          | false =>
            simp only [Bool.not_false, cond_true]
            obtain ⟨v, e, _⟩ := feeds_eq hm hx (a := k) (b := b) (by omega) (by omega)
            rw [show ((m.1, m.2) : T_Mine) = m from rfl, e, bind_some']
            cases v with
            | false => exact ih n (k + 1) o f (by omega) (by omega) hf ho hc hc2
            | true =>
              have := cntF_set f k (by omega) hfk
              simp only [cond_true]
              rw [fitsB_true (by omega), cond_true]
              exact ih n (k + 1) _ _ (by omega) (by omega) (by rw [List.length_set, hf]) (mem_app ho ⟨by omega, by omega⟩) (by rw [List.length_append, List.length_singleton]; omega) (by rw [List.length_append, List.length_singleton]; omega)
      exact L2 m.2.length 1000 0 o' f (by omega) (by omega) hf hd (by omega) (by omega)
    · rw [decide_eq_false h, cond_false]
      unfold lists_Where_S1
      obtain ⟨l, e, k1, k2⟩ := where_loop f (by omega) f.length 1000 0 [] rfl (by omega) (by simp) (fun a h => by cases h)
      rw [show ((0 : Nat) : Int) = 0 from rfl] at e
      rw [e]
      exact ⟨l, rfl, by omega, by rw [← hf]; exact k2⟩
theorem sources_spec {m : T_Mine} (hm : m.1.length ≤ 1000) (h2 : m.2.length ≤ 128) {x : List T_Span} (hx : x.length = m.2.length) {r : Nat} (hr : r < m.2.length) : ∃ l, clearance_Sources 1000 m x r = some l ∧ l.length ≤ m.2.length ∧ ∀ a, a ∈ l → Ri m.2.length a := by
  unfold clearance_Sources
  rw [W_eq (n := (m.2.length : Int) - 1) (by omega) (by omega), in_eq, decide_eq_true (show (0 : Int) ≤ (r : Int) by omega), decide_eq_true (show (r : Int) ≤ (m.2.length : Int) - 1 by omega), bind_some']
  simp only [Bool.and_self, Bool.not_true, cond_false]
  rw [show ((x.length : Int) != (m.2.length : Int)) = false by rw [hx]; exact bne_self_eq_false _, cond_false, mkB_true (by omega), cond_true, Int.toNat_natCast]
  have := cntF_rep m.2.length
  exact src_loops hm h2 hx 1000 [(r : Int)] _ (by rw [List.length_replicate]) (fun a ha => by rw [List.mem_singleton.1 ha]; exact ⟨by omega, by omega⟩) (by rw [this]; simp; omega) (by rw [this]; simp; omega)
end Go.Proofs.Ytpmpmlhjnddikaa
