/- Clearance: what is known less exactly never gives a lesser bound. No condition of its own. -/
import Derived.Test.YtpmpmlhjnddikaaCu
set_option linter.all false
namespace Go.Proofs.Ytpmpmlhjnddikaa
open Go.Pv M

/-! ### The roads from which air comes, exactly -/
inductive Rch (m : T_Mine) (x : List T_Span) (r : Nat) : Nat → Prop
  | one {a : Nat} (h : a < m.2.length) (f : fd m x a r) : Rch m x r a
  | next {a b : Nat} (h : a < m.2.length) (f : fd m x a b) (k : Rch m x r b) : Rch m x r a
theorem bset {f : List Bool} {k i : Nat} (h : k < f.length) : (f.set k true).getD i false = true ↔ i = k ∨ f.getD i false = true := by
  by_cases e : i = k
  · subst e
    rw [List.getD_eq_getElem?_getD, List.getElem?_set_self h]; simp
  · rw [List.getD_eq_getElem?_getD, List.getElem?_set_ne (Ne.symm e), ← List.getD_eq_getElem?_getD]
    exact ⟨.inr, fun h => h.resolve_left e⟩
theorem where_exact (q : List Bool) (hq : q.length ≤ 900) : ∀ (j n k : Nat) (l : List Int), j + k = q.length → j < n → l.length ≤ k → (∀ a : Int, a ∈ l ↔ Ri k a ∧ q.getD a.toNat false = true) → ∃ l', lists_Where_S1_L1 1000 n q.length k q l = some (l', q) ∧ l'.length ≤ q.length ∧ ∀ a : Int, a ∈ l' ↔ Ri q.length a ∧ q.getD a.toNat false = true
  | 0, n + 1, k, l, hk, hn, hl, hr => by
    rw [lists_Where_S1_L1_succ, decide_eq_false (by omega), cond_false]
    have : k = q.length := by omega
    subst this
    exact ⟨l, rfl, by omega, hr⟩
  | j + 1, n + 1, k, l, hk, hn, hl, hr => by
    rw [lists_Where_S1_L1_succ, decide_eq_true (by omega), cond_true]
    unfold clearance_Sources_1
    rw [inB_true (by omega), cond_true, bind_some', Int.toNat_natCast, W_eq (n := (k : Int) + 1) (by omega) (by omega), show (k : Int) + 1 = ((k + 1 : Nat) : Int) by omega]
    cases hqk : q.getD k false with
    | true =>
      simp only [cond_true]
      rw [fitsB_true (by omega), cond_true]
      refine where_exact q hq j n (k + 1) _ (by omega) (by omega) (by rw [List.length_append, List.length_singleton]; omega) fun a => ?_
      rw [List.mem_append, List.mem_singleton, hr]
      constructor
      · rintro (⟨⟨a0, a1⟩, h⟩ | rfl)
        · exact ⟨⟨a0, by omega⟩, h⟩
        · exact ⟨⟨by omega, by omega⟩, by rw [Int.toNat_natCast]; exact hqk⟩
      · rintro ⟨⟨a0, a1⟩, h⟩
        by_cases e : a = k
        · exact .inr e
        · exact .inl ⟨⟨a0, by omega⟩, h⟩
    | false =>
      refine where_exact q hq j n (k + 1) l (by omega) (by omega) (by omega) fun a => ?_
      rw [hr]
      constructor
      · rintro ⟨⟨a0, a1⟩, h⟩
        exact ⟨⟨a0, by omega⟩, h⟩
      · rintro ⟨⟨a0, a1⟩, h⟩
        by_cases e : a = k
        · subst e; rw [Int.toNat_natCast, hqk] at h; cases h
        · exact ⟨⟨a0, by omega⟩, h⟩
theorem src_exact {m : T_Mine} (hm : m.1.length ≤ 1000) (h2 : m.2.length ≤ 128) {x : List T_Span} (hx : x.length = m.2.length) {r : Nat} (hr : r < m.2.length) : ∀ (n1 : Nat) (o : List Int) (f : List Bool), f.length = m.2.length → (∀ a, a ∈ o → Ri m.2.length a) → o.length + cntF f < n1 → o.length + cntF f ≤ 300 →
    (∀ a, f.getD a false = true → Rch m x r a) → (∀ a : Nat, (a : Int) ∈ o → a = r ∨ f.getD a false = true) → (∀ b : Nat, (b = r ∨ f.getD b false = true) → ¬ (b : Int) ∈ o → ∀ a, a < m.2.length → fd m x a b → f.getD a false = true) →
    ∃ l, clearance_Sources_L1 1000 n1 x m.1 m.2 o f = some l ∧ ∀ a : Int, a ∈ l ↔ Ri m.2.length a ∧ Rch m x r a.toNat
  | n1 + 1, o, f, hf, ho, hn, h300, I1, I2, I3 => by
    rw [clearance_Sources_L1_succ]
    by_cases h : (o.length : Int) > 0
    · rw [decide_eq_true h, cond_true, inB_true (by omega), cond_true, slB_true (by omega), cond_true]
      have e1 : (o.drop (1 : Int).toNat).take ((o.length : Int).toNat - (1 : Int).toNat) = o.drop 1 := by
        show (o.drop 1).take ((o.length : Int).toNat - 1) = o.drop 1
        rw [Int.toNat_natCast]; exact List.take_of_length_le (by rw [List.length_drop]; omega)
      rw [e1]
      have hb := ho _ (getD_mem 0 (show 0 < o.length by omega))
      have hd : ∀ a, a ∈ o.drop 1 → Ri m.2.length a := fun a ha => ho a (List.mem_of_mem_drop ha)
      have hdl : (o.drop 1).length + 1 = o.length := by rw [List.length_drop]; omega
      have hI2 : ∀ a : Nat, (a : Int) ∈ o.drop 1 → a = r ∨ f.getD a false = true := fun a ha => I2 a (List.mem_of_mem_drop ha)
      have hbo : ∀ c : Int, c ∈ o ↔ c = o.getD 0 0 ∨ c ∈ o.drop 1 := fun c => by
        cases o with
        | nil => simp at h
        | cons y ys => simp
      have hbI : ∀ b : Nat, o.getD 0 0 = (b : Int) → b = r ∨ f.getD b false = true := fun b e => I2 b (by rw [← e]; exact getD_mem 0 (by omega))
      have hI3 : ∀ b : Nat, o.getD 0 0 = (b : Int) → ∀ c : Nat, c ≠ b → (c = r ∨ f.getD c false = true) → ¬ (c : Int) ∈ o.drop 1 → ∀ a, a < m.2.length → fd m x a c → f.getD a false = true := fun b e c hc h1 h2 => I3 c h1 (fun h3 => by
        rcases (hbo c).1 h3 with h3 | h3
        · rw [e] at h3; exact hc (by omega)
        · exact h2 h3)
      show ∃ l, clearance_Sources_L2 1000 n1 1000 x (o.getD 0 0) m.2.length 0 m.1 m.2 (o.drop 1) f = some l ∧ _
      generalize o.drop 1 = o' at hd hdl hI2 hI3
      generalize o.getD 0 0 = b at hb hbI hI3
      obtain ⟨b0, b1⟩ := hb
      obtain ⟨b, rfl⟩ := Int.eq_ofNat_of_zero_le b0
      have hbI := hbI b rfl
      have hI3 := hI3 b rfl
      have L2 : ∀ (j n k : Nat) (o : List Int) (f : List Bool), j + k = m.2.length → j < n → f.length = m.2.length → (∀ a, a ∈ o → Ri m.2.length a) → o.length + cntF f < n1 → o.length + cntF f ≤ 300 →
          (∀ a, f.getD a false = true → Rch m x r a) → (∀ a : Nat, (a : Int) ∈ o → a = r ∨ f.getD a false = true) → (b = r ∨ f.getD b false = true) → (∀ c : Nat, c ≠ b → (c = r ∨ f.getD c false = true) → ¬ (c : Int) ∈ o → ∀ a, a < m.2.length → fd m x a c → f.getD a false = true) → (∀ a, a < k → fd m x a b → f.getD a false = true) →
          ∃ l, clearance_Sources_L2 1000 n1 n x b m.2.length k m.1 m.2 o f = some l ∧ ∀ a : Int, a ∈ l ↔ Ri m.2.length a ∧ Rch m x r a.toNat := by
        intro j
        induction j with
        | zero =>
          intro n k o f hk hn hf ho hc hc2 J1 J2 Jb J3 Jk
          obtain ⟨n, rfl⟩ : ∃ n', n = n' + 1 := ⟨n - 1, by omega⟩
          rw [clearance_Sources_L2_succ, decide_eq_false (by omega), cond_false]
          refine src_exact hm h2 hx hr n1 o f hf ho hc hc2 J1 J2 fun c h1 h2' a ha hfd => ?_
          by_cases e : c = b
          · subst e; exact Jk a (by omega) hfd
          · exact J3 c e h1 h2' a ha hfd
        | succ j ih =>
          intro n k o f hk hn hf ho hc hc2 J1 J2 Jb J3 Jk
          obtain ⟨n, rfl⟩ : ∃ n', n = n' + 1 := ⟨n - 1, by omega⟩
          rw [clearance_Sources_L2_succ, decide_eq_true (by omega), cond_true, inB_true (by omega), cond_true, Int.toNat_natCast, W_eq (n := (k : Int) + 1) (by omega) (by omega), show (k : Int) + 1 = ((k + 1 : Nat) : Int) by omega]
          cases hfk : f.getD k false with
          | true =>
            simp only [Bool.not_true, cond_false]
            refine ih n (k + 1) o f (by omega) (by omega) hf ho hc hc2 J1 J2 Jb J3 fun a ha hfd => ?_
            by_cases e : a = k
            · subst e; exact hfk
            · exact Jk a (by omega) hfd
          | false =>
            simp only [Bool.not_false, cond_true]
            obtain ⟨v, e, hv⟩ := feeds_eq hm hx (a := k) (b := b) (by omega) (by omega)
            rw [show ((m.1, m.2) : T_Mine) = m from rfl, e, bind_some']
            cases v with
            | false =>
              refine ih n (k + 1) o f (by omega) (by omega) hf ho hc hc2 J1 J2 Jb J3 fun a ha hfd => ?_
              by_cases e : a = k
              · subst e; have := hv.2 hfd; cases this
              · exact Jk a (by omega) hfd
            | true =>
              have hfd := hv.1 rfl
              have hcn := cntF_set f k (by omega) hfk
              have bs := fun i => bset (f := f) (k := k) (i := i) (by omega)
              simp only [cond_true]
              rw [fitsB_true (by omega), cond_true]
              refine ih n (k + 1) _ _ (by omega) (by omega) (by rw [List.length_set, hf]) (mem_app ho ⟨by omega, by omega⟩) (by rw [List.length_append, List.length_singleton]; omega) (by rw [List.length_append, List.length_singleton]; omega) (fun a ha => ?_) (fun a ha => ?_) ?_ (fun c hcb h1 h2' a ha hca => ?_) fun a ha hfa => ?_
              · rcases (bs a).1 ha with rfl | ha
                · rcases Jb with rfl | Jb
                  · exact .one (by omega) hfd
                  · exact .next (by omega) hfd (J1 b Jb)
                · exact J1 a ha
              · rcases List.mem_append.1 ha with ha | ha
                · exact (J2 a ha).imp id fun h => (bs a).2 (.inr h)
                · rw [List.mem_singleton] at ha
                  exact .inr ((bs a).2 (.inl (by omega)))
              · exact Jb.imp id fun h => (bs b).2 (.inr h)
              · have hck : c ≠ k := fun e => h2' (List.mem_append.2 (.inr (List.mem_singleton.2 (by rw [e]))))
                exact (bs a).2 (.inr (J3 c hcb (h1.imp id fun h => ((bs c).1 h).resolve_left hck) (fun h => h2' (List.mem_append_left _ h)) a ha hca))
              · by_cases e : a = k
                · exact (bs a).2 (.inl e)
                · exact (bs a).2 (.inr (Jk a (by omega) hfa))
      exact L2 m.2.length 1000 0 o' f (by omega) (by omega) hf hd (by omega) (by omega) I1 hI2 hbI hI3 (fun a ha => absurd ha (Nat.not_lt_zero _))
    · rw [decide_eq_false h, cond_false]
      unfold lists_Where_S1
      have ho0 : o = [] := List.length_eq_zero_iff.1 (by omega)
      subst ho0
      have all : ∀ a, Rch m x r a → f.getD a false = true := fun a ha => by
        induction ha with
        | one h1 h2' => exact I3 r (.inl rfl) (fun h => by cases h) _ h1 h2'
        | next h1 h2' _ ih => exact I3 _ (.inr ih) (fun h => by cases h) _ h1 h2'
      obtain ⟨l, e, k1, k2⟩ := where_exact f (by omega) f.length 1000 0 [] rfl (by omega) (by simp) (fun a => ⟨fun h => (by cases h), fun ⟨⟨a0, a1⟩, _⟩ => by omega⟩)
      rw [show ((0 : Nat) : Int) = 0 from rfl] at e
      rw [e]
      refine ⟨l, rfl, fun a => ?_⟩
      rw [k2, hf]
      exact ⟨fun ⟨h1, h2'⟩ => ⟨h1, I1 _ h2'⟩, fun ⟨h1, h2'⟩ => ⟨h1, all _ h2'⟩⟩
theorem sources_exact {m : T_Mine} (hm : m.1.length ≤ 1000) (h2 : m.2.length ≤ 128) {x : List T_Span} (hx : x.length = m.2.length) {r : Nat} (hr : r < m.2.length) : ∃ l, clearance_Sources 1000 m x r = some l ∧ ∀ a : Int, a ∈ l ↔ Ri m.2.length a ∧ Rch m x r a.toNat := by
  unfold clearance_Sources
  rw [W_eq (n := (m.2.length : Int) - 1) (by omega) (by omega), in_eq, decide_eq_true (show (0 : Int) ≤ (r : Int) by omega), decide_eq_true (show (r : Int) ≤ (m.2.length : Int) - 1 by omega), bind_some']
  simp only [Bool.and_self, Bool.not_true, cond_false]
  rw [show ((x.length : Int) != (m.2.length : Int)) = false by rw [hx]; exact bne_self_eq_false _, cond_false, mkB_true (by omega), cond_true, Int.toNat_natCast]
  have hc := cntF_rep m.2.length
  have hfal : ∀ a, (List.replicate m.2.length false).getD a false = false := fun a => by
    rw [List.getD_eq_getElem?_getD, List.getElem?_replicate]; split <;> rfl
  refine src_exact hm h2 hx hr 1000 [(r : Int)] _ (by rw [List.length_replicate]) (fun a ha => by rw [List.mem_singleton.1 ha]; exact ⟨by omega, by omega⟩) (by rw [hc]; simp; omega) (by rw [hc]; simp; omega) (fun a ha => by rw [hfal] at ha; cases ha) (fun a ha => .inl (by rw [List.mem_singleton] at ha; omega)) fun b hb hbo => ?_
  rcases hb with rfl | hb
  · exact absurd (List.mem_singleton.2 rfl) hbo
  · rw [hfal] at hb; cases hb

/-! ### More, and less exactly -/
theorem mx_le {high : List Int} {b : Int} : ∀ (l : List Int) (c : Int), c ≤ b → (∀ a, a ∈ l → high.getD a.toNat 0 ≤ b) → mx high c l ≤ b
  | [], c, hc, _ => hc
  | a :: l, c, hc, h => mx_le l _ (by have := h a List.mem_cons_self; show max c (high.getD a.toNat 0) ≤ b; omega) fun q hq => h q (List.mem_cons_of_mem _ hq)
theorem mx_mem {high : List Int} : ∀ (l : List Int) (c : Int) (a : Int), a ∈ l → high.getD a.toNat 0 ≤ mx high c l
  | b :: l, c, a, h => by
    rcases List.mem_cons.1 h with rfl | h
    · have := mx_ge high l (max c (high.getD a.toNat 0))
      show _ ≤ mx high (max c (high.getD a.toNat 0)) l
      omega
    · exact mx_mem l (max c (high.getD b.toNat 0)) a h
theorem stp_mono {c c' h h' v q q' : Int} (hc : c ≤ c') (hh : h ≤ h') (hv : 0 < v) (q0 : 0 ≤ q') (hq : q' ≤ q) : stp c h v q ≤ stp c' h' v q' := by
  have k1 := stp_ge (c := c') (h := h') hv q0
  by_cases h1 : h > c
  · by_cases h2 : h' > c'
    · have e1 : stp c h v q = c + ((h - c) * v + (v + q) - 1) / (v + q) := by unfold stp; rw [if_pos h1]
      have e2 : stp c' h' v q' = c' + ((h' - c') * v + (v + q') - 1) / (v + q') := by unfold stp; rw [if_pos h2]
      have u := ceil_up (a := (h' - c') * v) (R := v + q') (by omega)
      have n0 : 0 ≤ ((h' - c') * v + (v + q') - 1) / (v + q') := Int.ediv_nonneg (by have := Int.mul_nonneg (show 0 ≤ h' - c' by omega) (show 0 ≤ v by omega); omega) (by omega)
      rw [e1, e2]
      generalize ((h' - c') * v + (v + q') - 1) / (v + q') = y at u n0
      have w1 : y * (v + q') ≤ y * (v + q) := Int.mul_le_mul_of_nonneg_left (by omega) n0
      have w2 : (c' - c) * v ≤ (c' - c) * (v + q) := Int.mul_le_mul_of_nonneg_left (by omega) (by omega)
      have w3 : (h - c) * v ≤ (h' - c) * v := Int.mul_le_mul_of_nonneg_right (by omega) (by omega)
      have w4 : (h' - c) * v = (h' - c') * v + (c' - c) * v := by grind
      have w5 : (c' - c + y) * (v + q) = (c' - c) * (v + q) + y * (v + q) := Int.add_mul _ _ _
      have := ceil_le (a := (h - c) * v) (b := c' - c + y) (R := v + q) (by omega) (by omega)
      omega
    · have k2 := stp_le (c := c) (h := h) (v := v) (q := q) hv (by omega)
      omega
  · have : stp c h v q = c := by unfold stp; rw [if_neg h1]
    omega
/-- A span that knows less. -/
def Wd (s s' : T_Span) : Prop := s'.1 ≤ s.1 ∧ s.2 ≤ s'.2
theorem outs_wd {r : T_Road} {s s' : T_Span} (h : Wd s s') {p : Int} : (p ∈ outs r s → p ∈ outs r s') ∧ (p ∈ inns r s → p ∈ inns r s') := by
  obtain ⟨h1, h2⟩ := h
  unfold outs inns
  split
  · exact ⟨id, id⟩
  · constructor <;> intro hp <;> rw [List.mem_append] at hp ⊢ <;> rcases hp with hp | hp <;> split at hp <;> (try cases hp; done)
    all_goals first
      | exact .inl (by rw [if_pos (by omega)]; exact hp)
      | exact .inr (by rw [if_pos (by omega)]; exact hp)
theorem fd_wd {m : T_Mine} {x x' : List T_Span} (h : ∀ k, Wd (x.getD k D_Span) (x'.getD k D_Span)) {a b : Nat} : fd m x a b → fd m x' a b := fun ⟨p, h1, h2, h3, h4⟩ => ⟨p, (outs_wd (h a)).1 h1, h2, h3, (outs_wd (h b)).2 h4⟩
theorem rch_wd {m : T_Mine} {x x' : List T_Span} (h : ∀ k, Wd (x.getD k D_Span) (x'.getD k D_Span)) {r a : Nat} (k : Rch m x r a) : Rch m x' r a := by
  induction k with
  | one h1 h2 => exact .one h1 (fd_wd h h2)
  | next h1 h2 _ ih => exact .next h1 (fd_wd h h2) ih
theorem sure_wd {r : T_Road} {s s' : T_Span} (h : Wd s s') : sureV r s' ≤ sureV r s := by
  obtain ⟨h1, h2⟩ := h
  unfold sureV; split <;> omega
theorem air_mem {m : T_Mine} (hm : m.1.length ≤ 1000) (h2 : m.2.length ≤ 128) {x : List T_Span} (hx : x.length = m.2.length) {ss : List (List Int)} {qs : List Int} (ha : Air m x ss qs) {k : Nat} (hk : k < m.2.length) (a : Int) : a ∈ ss.getD k [] ↔ Ri m.2.length a ∧ Rch m x k a.toNat := by
  obtain ⟨l, e, h⟩ := sources_exact hm h2 hx hk
  rw [(ha.s k hk).1] at e
  injection e with e
  rw [e]; exact h a
theorem aft_mono {m : T_Mine} (hm : Mk m) {x x' : List T_Span} (hx : x.length = m.2.length) (hx' : x'.length = m.2.length) (hw : ∀ k, Wd (x.getD k D_Span) (x'.getD k D_Span)) {ss ss' : List (List Int)} {qs qs' : List Int} (ha : Air m x ss qs) (ha' : Air m x' ss' qs')
    {hi hi' : List Int} (hh : ∀ k, hi.getD k 0 ≤ hi'.getD k 0) (h0 : ∀ h, h ∈ hi' → Hk h) (hl : hi'.length = m.2.length) {s : Int} (s0 : 0 ≤ s) {k : Nat} (hk : k < m.2.length) : aft m hi s (ss.getD k []) (qs.getD k 0) k ≤ aft m hi' s (ss'.getD k []) (qs'.getD k 0) k := by
  have h7 := hm.n2
  have h10 := hm.r2
  unfold aft
  have hv := mk_vol hm _ (getD_mem D_Road hk)
  refine stp_mono ?_ (hh k) (by obtain ⟨v1, v2⟩ := hv; omega) (Int.mul_nonneg (by rw [ha'.q k hk]; exact (sureV_bd _ _).1) s0) (Int.mul_le_mul_of_nonneg_right (by rw [ha.q k hk, ha'.q k hk]; exact sure_wd (hw k)) s0)
  refine mx_le _ _ (mx_ge _ _ _) fun a hm' => ?_
  obtain ⟨h1, h2⟩ := (air_mem (by omega) (by omega) hx ha hk a).1 hm'
  have := (air_mem (by omega) (by omega) hx' ha' hk a).2 ⟨h1, rch_wd hw h2⟩
  exact Int.le_trans (hh _) (mx_mem _ 0 a this)
theorem wide_l1 (m : T_Mine) (h10 : m.2.length ≤ 10) {oa ob oc : List Int} (la : oa.length = m.2.length) (lb : ob.length = m.2.length) (lc : oc.length = m.2.length) (hb : ∀ k, k < m.2.length → oa.getD k 0 ≤ ob.getD k 0) (hc : ∀ k, k < m.2.length → oa.getD k 0 ≤ oc.getD k 0) (ta tb tc : Int) :
    ∀ (j n k : Nat), j + k = m.2.length → j < n → law35_ClearanceWide_L1 1000 n k m.1 m.2 ta oa tb ob tc oc = some true
  | 0, n + 1, k, hk, hn => by
    rw [law35_ClearanceWide_L1_succ, decide_eq_false (by omega), cond_false, awake_eq]; rfl
  | j + 1, n + 1, k, hk, hn => by
    have ih := wide_l1 m h10 la lb lc hb hc ta tb tc j n (k + 1) (by omega) (by omega)
    have h1 := hb k (by omega)
    have h2 := hc k (by omega)
    rw [law35_ClearanceWide_L1_succ, decide_eq_true (by omega), cond_true, inB_true (by omega), cond_true, inB_true (by omega), cond_true, cond_true, Int.toNat_natCast, decide_eq_false (by omega), cond_false, inB_true (by omega), cond_true, decide_eq_false (by omega), cond_false, W_eq (n := (k : Int) + 1) (by omega) (by omega), show (k : Int) + 1 = ((k + 1 : Nat) : Int) by omega]
    exact ih
end Go.Proofs.Ytpmpmlhjnddikaa
