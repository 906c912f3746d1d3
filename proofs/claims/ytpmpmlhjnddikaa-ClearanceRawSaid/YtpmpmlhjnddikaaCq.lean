/- Clearance: the reference's sources are the program's. No condition of its own. -/
import Derived.Test.YtpmpmlhjnddikaaCr
set_option linter.all false
namespace Go.Proofs.Ytpmpmlhjnddikaa
open Go.Pv M

theorem mem_outs {r : T_Road} {s : T_Span} {p : Int} : p ∈ outs r s ↔ r.2.2.2.2.2.1 = false ∧ ((s.2 > 0 ∧ p = r.2.1) ∨ (s.1 < 0 ∧ p = r.1)) := by
  unfold outs
  cases hb : r.2.2.2.2.2.1 with
  | true => simp
  | false =>
    simp only [Bool.false_eq_true, if_false, List.mem_append, true_and]
    by_cases h1 : s.2 > 0 <;> by_cases h2 : s.1 < 0 <;> simp [h1, h2]
theorem mem_inns {r : T_Road} {s : T_Span} {p : Int} : p ∈ inns r s ↔ r.2.2.2.2.2.1 = false ∧ ((s.2 > 0 ∧ p = r.1) ∨ (s.1 < 0 ∧ p = r.2.1)) := by
  unfold inns
  cases hb : r.2.2.2.2.2.1 with
  | true => simp
  | false =>
    simp only [Bool.false_eq_true, if_false, List.mem_append, true_and]
    by_cases h1 : s.2 > 0 <;> by_cases h2 : s.1 < 0 <;> simp [h1, h2]
theorem rout_eq {m : T_Mine} {x : List T_Span} (hx : x.length = m.2.length) {a : Nat} (ha : a < m.2.length) (p : Int) : ∃ v, ref35_out 1000 m x a p = some v ∧ (v = true ↔ p ∈ outs (m.2.getD a D_Road) (x.getD a D_Span)) := by
  rw [mem_outs]
  unfold ref35_out
  rw [inB_true (by omega), cond_true, inB_true (show 0 ≤ (a : Int) ∧ (a : Int) < x.length by omega), Int.toNat_natCast]
  simp only [cond_true]
  generalize m.2.getD a D_Road = r
  generalize x.getD a D_Span = s
  cases hb : r.2.2.2.2.2.1 with
  | true => exact ⟨false, rfl, by simp⟩
  | false =>
    simp only [Bool.not_false, cond_true, true_and]
    by_cases h1 : r.2.1 = p
    · rw [eq2 h1, cond_true]
      by_cases h2 : s.2 > 0
      · rw [decide_eq_true h2]; exact ⟨true, rfl, fun _ => .inl ⟨h2, h1.symm⟩, fun _ => rfl⟩
      · rw [decide_eq_false h2, cond_false]
        by_cases h3 : r.1 = p
        · rw [eq2 h3]; exact ⟨_, rfl, by rw [decide_eq_true_iff]; exact ⟨fun h => .inr ⟨h, h3.symm⟩, fun h => h.elim (fun h => absurd h.1 h2) (fun h => h.1)⟩⟩
        · rw [ne2 h3]; exact ⟨false, rfl, fun h => (by cases h), fun h => h.elim (fun h => absurd h.1 h2) (fun h => absurd h.2.symm h3)⟩
    · rw [ne2 h1, cond_false]
      by_cases h3 : r.1 = p
      · rw [eq2 h3]; exact ⟨_, rfl, by rw [decide_eq_true_iff]; exact ⟨fun h => .inr ⟨h, h3.symm⟩, fun h => h.elim (fun h => absurd h.2.symm h1) (fun h => h.1)⟩⟩
      · rw [ne2 h3]; exact ⟨false, rfl, fun h => (by cases h), fun h => h.elim (fun h => absurd h.2.symm h1) (fun h => absurd h.2.symm h3)⟩
theorem rin_eq {m : T_Mine} {x : List T_Span} (hx : x.length = m.2.length) {a : Nat} (ha : a < m.2.length) (p : Int) : ∃ v, ref35_in 1000 m x a p = some v ∧ (v = true ↔ p ∈ inns (m.2.getD a D_Road) (x.getD a D_Span)) := by
  rw [mem_inns]
  unfold ref35_in
  rw [inB_true (by omega), cond_true, inB_true (show 0 ≤ (a : Int) ∧ (a : Int) < x.length by omega), Int.toNat_natCast]
  simp only [cond_true]
  generalize m.2.getD a D_Road = r
  generalize x.getD a D_Span = s
  cases hb : r.2.2.2.2.2.1 with
  | true => exact ⟨false, rfl, by simp⟩
  | false =>
    simp only [Bool.not_false, cond_true, true_and]
    by_cases h1 : r.1 = p
    · rw [eq2 h1, cond_true]
      by_cases h2 : s.2 > 0
      · rw [decide_eq_true h2]; exact ⟨true, rfl, fun _ => .inl ⟨h2, h1.symm⟩, fun _ => rfl⟩
      · rw [decide_eq_false h2, cond_false]
        by_cases h3 : r.2.1 = p
        · rw [eq2 h3]; exact ⟨_, rfl, by rw [decide_eq_true_iff]; exact ⟨fun h => .inr ⟨h, h3.symm⟩, fun h => h.elim (fun h => absurd h.1 h2) (fun h => h.1)⟩⟩
        · rw [ne2 h3]; exact ⟨false, rfl, fun h => (by cases h), fun h => h.elim (fun h => absurd h.1 h2) (fun h => absurd h.2.symm h3)⟩
    · rw [ne2 h1, cond_false]
      by_cases h3 : r.2.1 = p
      · rw [eq2 h3]; exact ⟨_, rfl, by rw [decide_eq_true_iff]; exact ⟨fun h => .inr ⟨h, h3.symm⟩, fun h => h.elim (fun h => absurd h.2.symm h1) (fun h => h.1)⟩⟩
      · rw [ne2 h3]; exact ⟨false, rfl, fun h => (by cases h), fun h => h.elim (fun h => absurd h.2.symm h1) (fun h => absurd h.2.symm h3)⟩
theorem rfeeds_loop {m : T_Mine} (hm : m.1.length ≤ 900) {x : List T_Span} (hx : x.length = m.2.length) {a b : Nat} (ha : a < m.2.length) (hb : b < m.2.length) : ∀ (j n k : Nat), j + k = m.1.length → j < n → (∀ i, i < k → ¬ ((i : Int) ∈ outs (m.2.getD a D_Road) (x.getD a D_Span) ∧ okp m (inns (m.2.getD b D_Road) (x.getD b D_Span)) i)) →
    ∃ v, ref35_feeds_L1 1000 n x a b k m.1 m.2 = some v ∧ (v = true ↔ fd m x a b)
  | 0, n + 1, k, hk, hn, hg => by
    rw [ref35_feeds_L1_succ, decide_eq_false (by omega), cond_false]
    refine ⟨false, rfl, fun h => (by cases h), fun ⟨p, h1, h2⟩ => ?_⟩
    obtain ⟨p0, p1⟩ := h2.1
    obtain ⟨p, rfl⟩ := Int.eq_ofNat_of_zero_le p0
    exact absurd ⟨h1, h2⟩ (hg p (by omega))
  | j + 1, n + 1, k, hk, hn, hg => by
    have next : ¬ ((k : Int) ∈ outs (m.2.getD a D_Road) (x.getD a D_Span) ∧ okp m (inns (m.2.getD b D_Road) (x.getD b D_Span)) k) → ∃ v, ref35_feeds_L1 1000 n x a b (W ((k : Int) + 1)) m.1 m.2 = some v ∧ (v = true ↔ fd m x a b) := fun h => by
      rw [W_eq (n := (k : Int) + 1) (by omega) (by omega), show (k : Int) + 1 = ((k + 1 : Nat) : Int) by omega]
      refine rfeeds_loop hm hx ha hb j n (k + 1) (by omega) (by omega) fun i hi => ?_
      by_cases e : i = k
      · subst e; exact h
      · exact hg i (by omega)
    rw [ref35_feeds_L1_succ, decide_eq_true (by omega), cond_true, inB_true (by omega), cond_true, Int.toNat_natCast]
    cases hs : (m.1.getD k D_Place).2 with
    | true =>
      rw [Bool.not_true, cond_false]
      exact next fun h => by have := h.2.2.1; rw [Int.toNat_natCast, hs] at this; cases this
    | false =>
      rw [Bool.not_false, cond_true]
      obtain ⟨v, e, hv⟩ := rout_eq hx ha (k : Int)
      rw [show ((m.1, m.2) : T_Mine) = m from rfl, e, bind_some']
      cases v with
      | false =>
        rw [cond_false]
        exact next fun h => by have := hv.2 h.1; cases this
      | true =>
        rw [cond_true]
        obtain ⟨w, e2, hw⟩ := rin_eq hx hb (k : Int)
        rw [e2, bind_some']
        cases w with
        | false =>
          rw [cond_false]
          exact next fun h => by have := hw.2 h.2.2.2; cases this
        | true => exact ⟨true, rfl, fun _ => ⟨k, hv.1 rfl, ⟨by omega, by omega⟩, by rw [Int.toNat_natCast]; exact hs, hw.1 rfl⟩, fun _ => rfl⟩
theorem rfeeds_eq {m : T_Mine} (hm : m.1.length ≤ 900) {x : List T_Span} (hx : x.length = m.2.length) {a b : Nat} (ha : a < m.2.length) (hb : b < m.2.length) : ∃ v, ref35_feeds 1000 m x a b = some v ∧ (v = true ↔ fd m x a b) := by
  unfold ref35_feeds
  exact rfeeds_loop hm hx ha hb m.1.length 1000 0 rfl (by omega) (fun i hi => by omega)

/-! ### Lists of what is found -/
def selF (f : List Bool) : Nat → List Int
  | 0 => []
  | k + 1 => selF f k ++ (if f.getD k false = true then [(k : Int)] else [])
theorem selF_len (f : List Bool) : ∀ k, (selF f k).length ≤ k
  | 0 => Nat.le_refl _
  | k + 1 => by
    have := selF_len f k
    show (selF f k ++ _).length ≤ _
    rw [List.length_append]; split <;> simp <;> omega
theorem selF_mem (f : List Bool) : ∀ (k : Nat) (a : Int), a ∈ selF f k ↔ Ri k a ∧ f.getD a.toNat false = true
  | 0, a => ⟨fun h => (by cases h), fun ⟨⟨a0, a1⟩, _⟩ => by omega⟩
  | k + 1, a => by
    show a ∈ selF f k ++ _ ↔ _
    rw [List.mem_append, selF_mem f k a]
    constructor
    · rintro (⟨⟨a0, a1⟩, h⟩ | h)
      · exact ⟨⟨a0, by omega⟩, h⟩
      · split at h
        · rename_i hk
          rw [List.mem_singleton] at h; subst h
          exact ⟨⟨by omega, by omega⟩, by rw [Int.toNat_natCast]; exact hk⟩
        · cases h
    · rintro ⟨⟨a0, a1⟩, h⟩
      by_cases e : a = k
      · subst e; rw [Int.toNat_natCast] at h; rw [if_pos h]; exact .inr (List.mem_singleton.2 rfl)
      · exact .inl ⟨⟨a0, by omega⟩, h⟩
theorem selF_congr {f g : List Bool} : ∀ (k : Nat), (∀ i, i < k → f.getD i false = g.getD i false) → selF f k = selF g k
  | 0, h => rfl
  | k + 1, h => by
    show selF f k ++ _ = selF g k ++ _
    rw [selF_congr k fun i hi => h i (by omega), h k (by omega)]
theorem where_sel (q : List Bool) (hq : q.length ≤ 900) : ∀ (j n k : Nat), j + k = q.length → j < n → lists_Where_S1_L1 1000 n q.length k q (selF q k) = some (selF q q.length, q)
  | 0, n + 1, k, hk, hn => by
    rw [lists_Where_S1_L1_succ, decide_eq_false (by omega), cond_false, show k = q.length by omega]
  | j + 1, n + 1, k, hk, hn => by
    have ih := where_sel q hq j n (k + 1) (by omega) (by omega)
    have hl := selF_len q k
    rw [lists_Where_S1_L1_succ, decide_eq_true (by omega), cond_true]
    unfold clearance_Sources_1
    rw [inB_true (by omega), cond_true, bind_some', Int.toNat_natCast, W_eq (n := (k : Int) + 1) (by omega) (by omega), show (k : Int) + 1 = ((k + 1 : Nat) : Int) by omega]
    cases hqk : q.getD k false with
    | true =>
      simp only [cond_true]
      rw [fitsB_true (by omega), cond_true]
      have : selF q (k + 1) = selF q k ++ [(k : Int)] := by show selF q k ++ _ = _; rw [if_pos hqk]
      rw [← this]; exact ih
    | false =>
      have : selF q (k + 1) = selF q k := by show selF q k ++ _ = _; rw [if_neg (by rw [hqk]; exact Bool.false_ne_true), List.append_nil]
      rw [this] at ih; exact ih
theorem rwhere_sel (q : List Bool) (hq : q.length ≤ 900) : ∀ (j n k : Nat), j + k = q.length → j < n → ref35_Sources_L4 1000 n k q (selF q k) = some (selF q q.length)
  | 0, n + 1, k, hk, hn => by
    rw [ref35_Sources_L4_succ, decide_eq_false (show ¬ (k : Int) < (q.length : Int) by omega), cond_false, show k = q.length by omega]
  | j + 1, n + 1, k, hk, hn => by
    have ih := rwhere_sel q hq j n (k + 1) (by omega) (by omega)
    have hl := selF_len q k
    rw [ref35_Sources_L4_succ, decide_eq_true (show (k : Int) < (q.length : Int) by omega), cond_true, inB_true (by omega), cond_true, Int.toNat_natCast, W_eq (n := (k : Int) + 1) (by omega) (by omega), show (k : Int) + 1 = ((k + 1 : Nat) : Int) by omega]
    cases hqk : q.getD k false with
    | true =>
      simp only [cond_true]
      rw [fitsB_true (by omega), cond_true]
      have : selF q (k + 1) = selF q k ++ [(k : Int)] := by show selF q k ++ _ = _; rw [if_pos hqk]
      rw [← this]; exact ih
    | false =>
      have : selF q (k + 1) = selF q k := by show selF q k ++ _ = _; rw [if_neg (by rw [hqk]; exact Bool.false_ne_true), List.append_nil]
      rw [this] at ih; exact ih
/-- Two such lists with the same members are the same. -/
theorem selF_ext {f g : List Bool} {n : Nat} (h : ∀ a : Int, a ∈ selF f n ↔ a ∈ selF g n) : selF f n = selF g n := by
  refine selF_congr n fun i hi => ?_
  have := h i
  rw [selF_mem, selF_mem, Int.toNat_natCast] at this
  rw [Bool.eq_iff_iff]
  exact ⟨fun hf => (this.1 ⟨⟨by omega, by omega⟩, hf⟩).2, fun hg => (this.2 ⟨⟨by omega, by omega⟩, hg⟩).2⟩
/-- What the program finds is such a list. -/
theorem src_sel {m : T_Mine} (hm : m.1.length ≤ 1000) (h2 : m.2.length ≤ 128) {x : List T_Span} (hx : x.length = m.2.length) : ∀ (n1 : Nat) (o : List Int) (f : List Bool), f.length = m.2.length → (∀ a, a ∈ o → Ri m.2.length a) → o.length + cntF f < n1 → o.length + cntF f ≤ 300 → ∃ g, clearance_Sources_L1 1000 n1 x m.1 m.2 o f = some (selF g m.2.length)
  | n1 + 1, o, f, hf, ho, hn, h300 => by
    rw [clearance_Sources_L1_succ]
    by_cases h : (o.length : Int) > 0
    · rw [decide_eq_true h, cond_true, inB_true (by omega), cond_true, slB_true (by omega), cond_true]
      have e1 : (o.drop (1 : Int).toNat).take ((o.length : Int).toNat - (1 : Int).toNat) = o.drop 1 := by
        show (o.drop 1).take ((o.length : Int).toNat - 1) = o.drop 1
        rw [Int.toNat_natCast]; exact List.take_of_length_le (by rw [List.length_drop]; omega)
      rw [e1]
      have hb := ho _ (getD_mem 0 (show 0 < o.length by omega))
      have hd : ∀ a, a ∈ o.drop 1 → Ri m.2.length a := fun a ha => ho a (List.mem_of_mem_drop ha)
      have hdl : (o.drop 1).length + 1 = o.length := by rw [List.length_drop]; omega
      show ∃ g, clearance_Sources_L2 1000 n1 1000 x (o.getD 0 0) m.2.length 0 m.1 m.2 (o.drop 1) f = some (selF g m.2.length)
      generalize o.drop 1 = o' at hd hdl
      generalize o.getD 0 0 = b at hb
      obtain ⟨b0, b1⟩ := hb
      obtain ⟨b, rfl⟩ := Int.eq_ofNat_of_zero_le b0
      have L2 : ∀ (j n k : Nat) (o : List Int) (f : List Bool), j + k = m.2.length → j < n → f.length = m.2.length → (∀ a, a ∈ o → Ri m.2.length a) → o.length + cntF f < n1 → o.length + cntF f ≤ 300 → ∃ g, clearance_Sources_L2 1000 n1 n x b m.2.length k m.1 m.2 o f = some (selF g m.2.length) := by
        intro j
        induction j with
        | zero =>
          intro n k o f hk hn hf ho hc hc2
          obtain ⟨n, rfl⟩ : ∃ n', n = n' + 1 := ⟨n - 1, by omega⟩
          rw [clearance_Sources_L2_succ, decide_eq_false (by omega), cond_false]
          exact src_sel hm h2 hx n1 o f hf ho hc hc2
        | succ j ih =>
          intro n k o f hk hn hf ho hc hc2
          obtain ⟨n, rfl⟩ : ∃ n', n = n' + 1 := ⟨n - 1, by omega⟩
          rw [clearance_Sources_L2_succ, decide_eq_true (by omega), cond_true, inB_true (by omega), cond_true, Int.toNat_natCast, W_eq (n := (k : Int) + 1) (by omega) (by omega), show (k : Int) + 1 = ((k + 1 : Nat) : Int) by omega]
          cases hfk : f.getD k false with
          | true =>
            simp only [Bool.not_true, cond_false]
            exact ih n (k + 1) o f (by omega) (by omega) hf ho hc hc2
          | false =>
            simp only [Bool.not_false, cond_true]
            obtain ⟨v, e, _⟩ := feeds_eq hm hx (a := k) (b := b) (by omega) (by omega)
            rw [show ((m.1, m.2) : T_Mine) = m from rfl, e, bind_some']
            cases v with
            | false => exact ih n (k + 1) o f (by omega) (by omega) hf ho hc hc2
            | true =>
              have := cntF_set f k (by omega) hfk
              simp only [cond_true]
              rw [fitsB_true (by omega), cond_true]
              exact ih n (k + 1) _ _ (by omega) (by omega) (by rw [List.length_set, hf]) (mem_app ho ⟨by omega, by omega⟩) (by rw [List.length_append, List.length_singleton]; omega) (by rw [List.length_append, List.length_singleton]; omega)
      exact L2 m.2.length 1000 0 o' f (by omega) (by omega) hf hd (by omega) (by omega)
    · rw [decide_eq_false h, cond_false]
      unfold lists_Where_S1
      have e := where_sel f (by omega) f.length 1000 0 rfl (by omega)
      rw [show ((0 : Nat) : Int) = 0 from rfl] at e
      show ∃ g, (lists_Where_S1_L1 1000 1000 f.length 0 f (selF f 0)).bind _ = _
      rw [e]
      exact ⟨f, by rw [hf]; rfl⟩

/-! ### The reference's rounds -/
theorem rsrc_rounds {m : T_Mine} (hm : m.1.length ≤ 900) (h2 : m.2.length ≤ 128) {x : List T_Span} (hx : x.length = m.2.length) {r : Nat} (hr : r < m.2.length) : ∀ (n1 : Nat) (ag : Bool) (f : List Bool), f.length = m.2.length → cntF f + (if ag = true then 2 else 1) ≤ n1 → (∀ a, f.getD a false = true → Rch m x r a) → (ag = false → ∀ a b, a < m.2.length → b < m.2.length → (b = r ∨ f.getD b false = true) → fd m x a b → f.getD a false = true) →
    ∃ g, ref35_Sources_L1 1000 n1 x r ag m.1 m.2 f = some (selF g m.2.length) ∧ ∀ a : Int, a ∈ selF g m.2.length ↔ Ri m.2.length a ∧ Rch m x r a.toNat
  | 0, ag, f, hf, hn, I1, I2 => by split at hn <;> omega
  | n1 + 1, false, f, hf, hn, I1, I2 => by
    rw [ref35_Sources_L1_succ, cond_false]
    have e := rwhere_sel f (by omega) f.length 1000 0 rfl (by omega)
    rw [show ((0 : Nat) : Int) = 0 from rfl] at e
    have all : ∀ a, Rch m x r a → f.getD a false = true := fun a ha => by
      induction ha with
      | one h1 h2' => exact I2 rfl _ r h1 hr (.inl rfl) h2'
      | next h1 h2' hk ih =>
        refine I2 rfl _ _ h1 ?_ (.inr ih) h2'
        cases hk with
        | one h _ => exact h
        | next h _ _ => exact h
    refine ⟨f, by rw [← hf]; exact e, fun a => ?_⟩
    rw [selF_mem]
    exact ⟨fun ⟨h1, h⟩ => ⟨h1, I1 _ h⟩, fun ⟨h1, h⟩ => ⟨h1, all _ h⟩⟩
  | n1 + 1, true, f0, hf0, hn, I1, I2 => by
    rw [ref35_Sources_L1_succ, cond_true]
    have hn : cntF f0 + 2 ≤ n1 + 1 := hn
    have L3 : ∀ (i n2 k : Nat), i + k = m.2.length → i < n2 → ∀ (j n n2' : Nat) (b : Nat) (ag : Bool) (f : List Bool), (∀ (ag : Bool) (f : List Bool), f.length = m.2.length → (if ag = true then cntF f + 1 ≤ cntF f0 else cntF f ≤ cntF f0) → (∀ a, f.getD a false = true → Rch m x r a) → (ag = false → ∀ a b, a < k + 1 → b < m.2.length → (b = r ∨ f.getD b false = true) → fd m x a b → f.getD a false = true) → ∃ g, ref35_Sources_L2 1000 n1 n2' x r ag ((k + 1 : Nat) : Int) m.1 m.2 f = some (selF g m.2.length) ∧ ∀ a : Int, a ∈ selF g m.2.length ↔ Ri m.2.length a ∧ Rch m x r a.toNat) → k < m.2.length → j + b = m.2.length → j < n → f.length = m.2.length → (if ag = true then cntF f + 1 ≤ cntF f0 else cntF f ≤ cntF f0) → (∀ a, f.getD a false = true → Rch m x r a) → (ag = false → ∀ a b, a < k → b < m.2.length → (b = r ∨ f.getD b false = true) → fd m x a b → f.getD a false = true) → (ag = false → ∀ b', b' < b → (b' = r ∨ f.getD b' false = true) → fd m x k b' → f.getD k false = true) →
        ∃ g, ref35_Sources_L3 1000 n2' n1 n x r ag k b m.1 m.2 f = some (selF g m.2.length) ∧ ∀ a : Int, a ∈ selF g m.2.length ↔ Ri m.2.length a ∧ Rch m x r a.toNat := by
      intro i n2 k hik hin j
      induction j with
      | zero =>
        intro n n2' b ag f next hk hb hjn hf hc J1 J2 J3
        obtain ⟨n, rfl⟩ : ∃ n', n = n' + 1 := ⟨n - 1, by omega⟩
        rw [ref35_Sources_L3_succ, decide_eq_false (by omega), cond_false, W_eq (n := (k : Int) + 1) (by omega) (by omega), show (k : Int) + 1 = ((k + 1 : Nat) : Int) by omega]
        refine next ag f hf hc J1 fun ha a' b' h1 h2' h3 h4 => ?_
        by_cases e : a' = k
        · subst e; exact J3 ha b' (by omega) h3 h4
        · exact J2 ha a' b' (by omega) h2' h3 h4
      | succ j ih =>
        intro n n2' b ag f next hk hb hjn hf hc J1 J2 J3
        obtain ⟨n, rfl⟩ : ∃ n', n = n' + 1 := ⟨n - 1, by omega⟩
        rw [ref35_Sources_L3_succ, decide_eq_true (by omega), cond_true, inB_true (by omega), cond_true, cond_true, Int.toNat_natCast, Int.toNat_natCast]
        rw [inB_true (show 0 ≤ (b : Int) ∧ (b : Int) < f.length by omega), cond_true, W_eq (n := (k : Int) + 1) (by omega) (by omega), show (k : Int) + 1 = ((k + 1 : Nat) : Int) by omega, W_eq (n := (b : Int) + 1) (by omega) (by omega), show (b : Int) + 1 = ((b + 1 : Nat) : Int) by omega]
        cases hfk : f.getD k false with
        | true =>
          simp only [Bool.not_true, cond_false]
          refine next ag f hf hc J1 fun ha a' b' h1 h2' h3 h4 => ?_
          by_cases e : a' = k
          · subst e; exact hfk
          · exact J2 ha a' b' (by omega) h2' h3 h4
        | false =>
          simp only [Bool.not_false, cond_true]
          -- b is not yet reached: go on
          have skip : ¬ ((b = r ∨ f.getD b false = true) ∧ fd m x k b) → ∃ g, ref35_Sources_L3 1000 n2' n1 n x r ag k ((b + 1 : Nat) : Int) m.1 m.2 f = some (selF g m.2.length) ∧ ∀ a : Int, a ∈ selF g m.2.length ↔ Ri m.2.length a ∧ Rch m x r a.toNat := fun hno =>
            ih n n2' (b + 1) ag f next hk (by omega) (by omega) hf hc J1 J2 fun ha b' h1 h3 h4 => by
              by_cases e : b' = b
              · subst e; exact absurd ⟨h3, h4⟩ hno
              · exact J3 ha b' (by omega) h3 h4
          have hit : (b = r ∨ f.getD b false = true) → fd m x k b → ∃ g, ref35_Sources_L3 1000 n2' n1 n x r true k ((b + 1 : Nat) : Int) m.1 m.2 (f.set k true) = some (selF g m.2.length) ∧ ∀ a : Int, a ∈ selF g m.2.length ↔ Ri m.2.length a ∧ Rch m x r a.toNat := fun hbr hfd => by
            have hcn := cntF_set f k (by omega) hfk
            have bs := fun i => bset (f := f) (k := k) (i := i) (by omega)
            refine ih n n2' (b + 1) true _ next hk (by omega) (by omega) (by rw [List.length_set, hf]) ?_ (fun a ha => ?_) (fun h => by cases h) (fun h => by cases h)
            · rw [if_pos rfl]
              split at hc <;> omega
            · rcases (bs a).1 ha with rfl | ha
              · rcases hbr with rfl | hb'
                · exact .one (by omega) hfd
                · exact .next (by omega) hfd (J1 b hb')
              · exact J1 a ha
          obtain ⟨v, e, hv⟩ := rfeeds_eq hm hx (a := k) (b := b) (by omega) (by omega)
          rw [show ((m.1, m.2) : T_Mine) = m from rfl, e]
          by_cases hbr : (b : Int) = (r : Int)
          · rw [eq2 hbr, cond_true, bind_some']
            cases v with
            | true => exact hit (.inl (by omega)) (hv.1 rfl)
            | false => exact skip fun h => by have := hv.2 h.2; cases this
          · rw [ne2 hbr, cond_false]
            cases hfb : f.getD b false with
            | true =>
              rw [cond_true, bind_some']
              cases v with
              | true => exact hit (.inr hfb) (hv.1 rfl)
              | false => exact skip fun h => by have := hv.2 h.2; cases this
            | false =>
              exact skip fun h => by
                rcases h.1 with h1 | h1
                · exact hbr (by omega)
                · rw [hfb] at h1; cases h1
    have L2 : ∀ (i n2 k : Nat) (ag : Bool) (f : List Bool), i + k = m.2.length → i < n2 → f.length = m.2.length → (if ag = true then cntF f + 1 ≤ cntF f0 else cntF f ≤ cntF f0) → (∀ a, f.getD a false = true → Rch m x r a) → (ag = false → ∀ a b, a < k → b < m.2.length → (b = r ∨ f.getD b false = true) → fd m x a b → f.getD a false = true) →
        ∃ g, ref35_Sources_L2 1000 n1 n2 x r ag k m.1 m.2 f = some (selF g m.2.length) ∧ ∀ a : Int, a ∈ selF g m.2.length ↔ Ri m.2.length a ∧ Rch m x r a.toNat := by
      intro i
      induction i with
      | zero =>
        intro n2 k ag f hi hin hf hc J1 J2
        obtain ⟨n2, rfl⟩ : ∃ n', n2 = n' + 1 := ⟨n2 - 1, by omega⟩
        rw [ref35_Sources_L2_succ, decide_eq_false (by omega), cond_false]
        refine rsrc_rounds hm h2 hx hr n1 ag f hf ?_ J1 fun ha a b h1 h2' h3 h4 => J2 ha a b (by omega) h2' h3 h4
        cases ag with
        | true => rw [if_pos rfl] at hc ⊢; omega
        | false => rw [if_neg Bool.false_ne_true] at hc ⊢; omega
      | succ i ih2 =>
        intro n2 k ag f hi hin hf hc J1 J2
        obtain ⟨n2, rfl⟩ : ∃ n', n2 = n' + 1 := ⟨n2 - 1, by omega⟩
        rw [ref35_Sources_L2_succ, decide_eq_true (by omega), cond_true]
        exact L3 (i + 1) (n2 + 1) k (by omega) (by omega) m.2.length 1000 n2 0 ag f (fun ag f h1 h2' h3 h4 => ih2 n2 (k + 1) ag f (by omega) (by omega) h1 h2' h3 h4) (by omega) (by omega) (by omega) hf hc J1 J2 (fun _ b' h => absurd h (Nat.not_lt_zero _))
    exact L2 m.2.length 1000 0 false f0 (by omega) (by omega) hf0 (by rw [if_neg Bool.false_ne_true]; exact Nat.le_refl _) I1 (fun _ a b h => absurd h (Nat.not_lt_zero _))
theorem sources_both {m : T_Mine} (hm : m.1.length ≤ 900) (h2 : m.2.length ≤ 128) {x : List T_Span} (hx : x.length = m.2.length) {r : Nat} (hr : r < m.2.length) : ∃ l, clearance_Sources 1000 m x r = some l ∧ ref35_Sources 1000 m x r = some l := by
  obtain ⟨l, e, hl⟩ := sources_exact (by omega) h2 hx hr
  have hc := cntF_rep m.2.length
  have hfal : ∀ a, (List.replicate m.2.length false).getD a false = false := fun a => by
    rw [List.getD_eq_getElem?_getD, List.getElem?_replicate]; split <;> rfl
  obtain ⟨g, e2, hg⟩ := rsrc_rounds hm h2 hx hr 1000 true (List.replicate m.2.length false) (by rw [List.length_replicate]) (by rw [hc, if_pos rfl]; omega) (fun a ha => by rw [hfal] at ha; cases ha) (fun h => by cases h)
  have e3 : ref35_Sources 1000 m x r = some (selF g m.2.length) := by
    unfold ref35_Sources
    rw [decide_eq_false (by omega), cond_false, decide_eq_false (by omega), cond_false, ref35_Sources_J1_eq, mkB_true (by omega), cond_true, Int.toNat_natCast]
    exact e2
  have e4 : ∃ g', clearance_Sources 1000 m x r = some (selF g' m.2.length) := by
    unfold clearance_Sources
    rw [W_eq (n := (m.2.length : Int) - 1) (by omega) (by omega), in_eq, decide_eq_true (show (0 : Int) ≤ (r : Int) by omega), decide_eq_true (show (r : Int) ≤ (m.2.length : Int) - 1 by omega), bind_some']
    simp only [Bool.and_self, Bool.not_true, cond_false]
    rw [show ((x.length : Int) != (m.2.length : Int)) = false by rw [hx]; exact bne_self_eq_false _, cond_false, mkB_true (by omega), cond_true, Int.toNat_natCast]
    exact src_sel (by omega) h2 hx 1000 [(r : Int)] _ (by rw [List.length_replicate]) (fun a ha => by rw [List.mem_singleton.1 ha]; exact ⟨by omega, by omega⟩) (by rw [hc]; simp; omega) (by rw [hc]; simp; omega)
  obtain ⟨g', e4⟩ := e4
  rw [e] at e4
  injection e4 with e4
  refine ⟨l, e, ?_⟩
  rw [e3, e4, selF_ext fun a => ?_]
  rw [hg a, ← e4, hl a]
end Go.Proofs.Ytpmpmlhjnddikaa
