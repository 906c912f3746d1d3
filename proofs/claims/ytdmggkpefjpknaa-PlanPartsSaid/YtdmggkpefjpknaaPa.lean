/- Plan: what Check, Valid say of any mine, by the program and by the reference; made mines. No condition of its own. -/
import Derived.Test.YtdmggkpefjpknaaCd
set_option linter.all false
namespace Go.Proofs.Ytdmggkpefjpknaa
open Go.Pv M

theorem eq2 {x y : Int} (h : x = y) : (x == y) = true := by simpa using h
theorem dt {p : Prop} [Decidable p] {α : Type} {x y : α} (h : p) : (bif decide p then x else y) = x := by rw [decide_eq_true h]; rfl
theorem df {p : Prop} [Decidable p] {α : Type} {x y : α} (h : ¬ p) : (bif decide p then x else y) = y := by rw [decide_eq_false h]; rfl
theorem et {a b : Int} {α : Type} {x y : α} (h : a = b) : (bif a == b then x else y) = x := by rw [eq2 h]; rfl
theorem ef {a b : Int} {α : Type} {x y : α} (h : a ≠ b) : (bif a == b then x else y) = y := by rw [ne2 h]; rfl
theorem it {n : Int} {l : Nat} {α : Type} {x y : α} (h : 0 ≤ n ∧ n < l) : (bif inB n l then x else y) = x := by rw [inB_true h]; rfl
theorem drop_cons {α : Type} {l : List α} {k : Nat} (d : α) (h : k < l.length) : l.drop k = l.getD k d :: l.drop (k + 1) := by
  rw [List.drop_eq_getElem_cons h, List.getD_eq_getElem?_getD, List.getElem?_eq_getElem h]; rfl
theorem drop_nil {α : Type} {l : List α} {k : Nat} (h : l.length ≤ k) : l.drop k = [] := List.drop_eq_nil_of_le h
theorem W_succ {k : Nat} (h : k < 1000000000) : W ((k : Int) + 1) = ((k + 1 : Nat) : Int) := by rw [W_eq (by omega) (by omega)]; omega
theorem getD_mem {α : Type} {l : List α} (d : α) {k : Nat} (h : k < l.length) : l.getD k d ∈ l := by
  rw [List.getD_eq_getElem?_getD, List.getElem?_eq_getElem h]; exact List.getElem_mem h

/-! ### Check -/
def badP (p : T_Place) : Prop := p.1 < -10000 ∨ p.1 > 10000
instance (p : T_Place) : Decidable (badP p) := inferInstanceAs (Decidable (_ ∨ _))
def endE (n : Int) (r : T_Road) : Prop := r.1 < 0 ∨ r.1 ≥ n ∨ r.2.1 < 0 ∨ r.2.1 ≥ n ∨ r.1 = r.2.1
instance (n : Int) (r : T_Road) : Decidable (endE n r) := inferInstanceAs (Decidable (_ ∨ _ ∨ _ ∨ _ ∨ _))
def spanO (s : T_Span) (a b : Int) : Prop := a ≤ s.1 ∧ s.1 ≤ s.2 ∧ s.2 ≤ b
instance (s : T_Span) (a b : Int) : Decidable (spanO s a b) := inferInstanceAs (Decidable (_ ∧ _ ∧ _))
def rngE (r : T_Road) : Prop := r.2.2.1 < 1 ∨ r.2.2.1 > 100000 ∨ r.2.2.2.1 < 1 ∨ r.2.2.2.1 > 1000 ∨ ¬ spanO r.2.2.2.2.2.2.1 1 262144 ∨ ¬ spanO r.2.2.2.2.2.2.2 (-2199023255552) 2199023255552
instance (r : T_Road) : Decidable (rngE r) := inferInstanceAs (Decidable (_ ∨ _ ∨ _ ∨ _ ∨ ¬ _ ∨ ¬ _))
def rE (n : Int) (r : T_Road) : Int := if endE n r then 4 else if rngE r then 1 else 0
def rdE (n : Int) : List T_Road → Int
  | [] => 0
  | r :: rs => if rE n r = 0 then rdE n rs else rE n r
theorem rdE_4 {n : Int} {r : T_Road} (rs : List T_Road) (h : endE n r) : rdE n (r :: rs) = 4 := by simp [rdE, rE, h]
theorem rdE_1 {n : Int} {r : T_Road} (rs : List T_Road) (h1 : ¬ endE n r) (h : rngE r) : rdE n (r :: rs) = 1 := by simp [rdE, rE, h1, h]
theorem rdE_0 {n : Int} {r : T_Road} (rs : List T_Road) (h1 : ¬ endE n r) (h : ¬ rngE r) : rdE n (r :: rs) = rdE n rs := by simp [rdE, rE, h1, h]
def plE : List T_Place → Bool
  | [] => false
  | p :: ps => decide (badP p) || plE ps
def chk (m : T_Mine) : Int := if m.1.length > 64 ∨ m.2.length > 128 then 2 else if plE m.1 = true then 1 else rdE m.1.length m.2

theorem span_eq (N : Nat) (s : T_Span) (a b : Int) : plan_spanIn N s a b = some (decide (spanO s a b)) := by
  unfold plan_spanIn spanO
  by_cases h1 : a ≤ s.1 <;> by_cases h2 : s.1 ≤ s.2 <;> by_cases h3 : s.2 ≤ b <;> simp [h1, h2, h3]
theorem rspan_eq (N : Nat) (s : T_Span) (a b : Int) : ref01_Span N s a b = some (decide (spanO s a b)) := by
  unfold ref01_Span spanO
  by_cases h1 : a ≤ s.1 <;> by_cases h2 : s.1 ≤ s.2 <;> by_cases h3 : s.2 ≤ b <;> simp [h1, h2, h3]
theorem bnot_t {b : Bool} {α : Type} {x y : α} (h : b = true) : (bif !b then x else y) = y := by rw [h]; rfl
theorem bnot_f {b : Bool} {α : Type} {x y : α} (h : b = false) : (bif !b then x else y) = x := by rw [h]; rfl

theorem check_road (n : Nat) {rs : List T_Road} (hr : rs.length ≤ 128) : ∀ (j f k : Nat), j + k = rs.length → j < f → plan_Check_L2 1000 f n rs rs.length k = some (rdE n (rs.drop k))
  | 0, f + 1, k, hk, hf => by rw [plan_Check_L2_succ, df (by omega), drop_nil (by omega)]; rfl
  | j + 1, f + 1, k, hk, hf => by
    have ih := check_road n hr j f (k + 1) (by omega) (by omega)
    rw [plan_Check_L2_succ, dt (by omega), it (by omega), Int.toNat_natCast, drop_cons D_Road (by omega)]
    generalize rs.getD k D_Road = r
    by_cases h1 : r.1 < 0
    · rw [dt h1, rdE_4 _ (.inl h1)]
    rw [df h1]
    by_cases h2 : r.1 ≥ n
    · rw [dt h2, rdE_4 _ (.inr (.inl h2))]
    rw [df h2]
    by_cases h3 : r.2.1 < 0
    · rw [dt h3, rdE_4 _ (.inr (.inr (.inl h3)))]
    rw [df h3]
    by_cases h4 : r.2.1 ≥ n
    · rw [dt h4, rdE_4 _ (.inr (.inr (.inr (.inl h4))))]
    rw [df h4]
    by_cases h5 : r.1 = r.2.1
    · rw [et h5, rdE_4 _ (.inr (.inr (.inr (.inr h5))))]
    have hne : ¬ endE (n : Int) r := by unfold endE; omega
    rw [ef h5, plan_Check_J2_eq]
    by_cases g1 : r.2.2.1 < 1
    · rw [dt g1, rdE_1 _ hne (.inl g1)]
    rw [df g1]
    by_cases g2 : r.2.2.1 > 100000
    · rw [dt g2, rdE_1 _ hne (.inr (.inl g2))]
    rw [df g2]
    by_cases g3 : r.2.2.2.1 < 1
    · rw [dt g3, rdE_1 _ hne (.inr (.inr (.inl g3)))]
    rw [df g3]
    by_cases g4 : r.2.2.2.1 > 1000
    · rw [dt g4, rdE_1 _ hne (.inr (.inr (.inr (.inl g4))))]
    rw [df g4, span_eq, bind_some']
    by_cases g5 : spanO r.2.2.2.2.2.2.1 1 262144
    · rw [bnot_t (decide_eq_true g5), span_eq, bind_some']
      by_cases g6 : spanO r.2.2.2.2.2.2.2 (-2199023255552) 2199023255552
      · rw [bnot_t (decide_eq_true g6), W_succ (by omega), ih, rdE_0 _ hne (by unfold rngE; intro h; rcases h with h | h | h | h | h | h <;> first | omega | exact h g5 | exact h g6)]
      · rw [bnot_f (decide_eq_false g6), rdE_1 _ hne (.inr (.inr (.inr (.inr (.inr g6)))))]
    · rw [bnot_f (decide_eq_false g5), rdE_1 _ hne (.inr (.inr (.inr (.inr (.inl g5)))))]
theorem check_place {ps : List T_Place} {rs : List T_Road} (hp : ps.length ≤ 64) (hr : rs.length ≤ 128) : ∀ (j f k : Nat), j + k = ps.length → j < f → plan_Check_L1 1000 f ps ps.length k ps rs = some (if plE (ps.drop k) = true then 1 else rdE ps.length rs)
  | 0, f + 1, k, hk, hf => by
    rw [plan_Check_L1_succ, df (by omega), drop_nil (by omega)]
    exact check_road ps.length hr rs.length 1000 0 rfl (by omega)
  | j + 1, f + 1, k, hk, hf => by
    have ih := check_place hp hr j f (k + 1) (by omega) (by omega)
    rw [plan_Check_L1_succ, dt (by omega), it (by omega), Int.toNat_natCast, drop_cons D_Place (by omega)]
    generalize ps.getD k D_Place = p
    simp only [plE, Bool.or_eq_true, decide_eq_true_eq]
    by_cases h1 : p.1 < -10000
    · rw [dt h1, if_pos (.inl (.inl h1))]
    rw [df h1]
    by_cases h2 : p.1 > 10000
    · rw [dt h2, if_pos (.inl (.inr h2))]
    rw [df h2, W_succ (by omega), ih]
    by_cases h3 : plE (ps.drop (k + 1)) = true
    · rw [if_pos h3, if_pos (.inr h3)]
    · rw [if_neg h3, if_neg (fun h => h.elim (fun h => h.elim (by omega) (by omega)) h3)]
theorem check_eq (m : T_Mine) : plan_Check 1000 m = some (chk m) := by
  unfold plan_Check chk
  by_cases h1 : m.1.length > 64
  · rw [dt (by omega), if_pos (.inl h1)]
  rw [df (by omega)]
  by_cases h2 : m.2.length > 128
  · rw [dt (by omega), if_pos (.inr h2)]
  rw [df (by omega), plan_Check_J1_eq, if_neg (by omega)]
  exact check_place (by omega) (by omega) m.1.length 1000 0 rfl (by omega)
theorem valid_eq (m : T_Mine) : plan_Valid 1000 m = some (chk m == 0) := by unfold plan_Valid; rw [check_eq]; rfl

theorem rcheck_road (ps : List T_Place) {rs : List T_Road} (hr : rs.length ≤ 128) : ∀ (j f k : Nat), j + k = rs.length → j < f → ref01_Check_L2 1000 f k ps rs = some (rdE ps.length (rs.drop k))
  | 0, f + 1, k, hk, hf => by rw [ref01_Check_L2_succ, df (by omega), drop_nil (by omega)]; rfl
  | j + 1, f + 1, k, hk, hf => by
    have ih := rcheck_road ps hr j f (k + 1) (by omega) (by omega)
    rw [ref01_Check_L2_succ, dt (by omega), it (by omega), Int.toNat_natCast, drop_cons D_Road (by omega)]
    generalize rs.getD k D_Road = r
    by_cases h1 : r.1 < 0
    · rw [dt h1, rdE_4 _ (.inl h1)]
    rw [df h1]
    by_cases h2 : r.1 ≥ ps.length
    · rw [dt h2, rdE_4 _ (.inr (.inl h2))]
    rw [df h2]
    by_cases h3 : r.2.1 < 0
    · rw [dt h3, rdE_4 _ (.inr (.inr (.inl h3)))]
    rw [df h3]
    by_cases h4 : r.2.1 ≥ ps.length
    · rw [dt h4, rdE_4 _ (.inr (.inr (.inr (.inl h4))))]
    rw [df h4]
    by_cases h5 : r.1 = r.2.1
    · rw [et h5, rdE_4 _ (.inr (.inr (.inr (.inr h5))))]
    have hne : ¬ endE (ps.length : Int) r := by unfold endE; omega
    rw [ef h5, ref01_Check_J2_eq]
    by_cases g1 : r.2.2.1 < 1
    · rw [dt g1, rdE_1 _ hne (.inl g1)]
    rw [df g1]
    by_cases g2 : r.2.2.1 > 100000
    · rw [dt g2, rdE_1 _ hne (.inr (.inl g2))]
    rw [df g2]
    by_cases g3 : r.2.2.2.1 < 1
    · rw [dt g3, rdE_1 _ hne (.inr (.inr (.inl g3)))]
    rw [df g3]
    by_cases g4 : r.2.2.2.1 > 1000
    · rw [dt g4, rdE_1 _ hne (.inr (.inr (.inr (.inl g4))))]
    rw [df g4, rspan_eq, bind_some']
    by_cases g5 : spanO r.2.2.2.2.2.2.1 1 262144
    · rw [bnot_t (decide_eq_true g5), rspan_eq, bind_some']
      by_cases g6 : spanO r.2.2.2.2.2.2.2 (-2199023255552) 2199023255552
      · rw [bnot_t (decide_eq_true g6), W_succ (by omega), ih, rdE_0 _ hne (by unfold rngE; intro h; rcases h with h | h | h | h | h | h <;> first | omega | exact h g5 | exact h g6)]
      · rw [bnot_f (decide_eq_false g6), rdE_1 _ hne (.inr (.inr (.inr (.inr (.inr g6)))))]
    · rw [bnot_f (decide_eq_false g5), rdE_1 _ hne (.inr (.inr (.inr (.inr (.inl g5)))))]
theorem rcheck_place {ps : List T_Place} {rs : List T_Road} (hp : ps.length ≤ 64) (hr : rs.length ≤ 128) : ∀ (j f k : Nat), j + k = ps.length → j < f → ref01_Check_L1 1000 f k ps rs = some (if plE (ps.drop k) = true then 1 else rdE ps.length rs)
  | 0, f + 1, k, hk, hf => by
    rw [ref01_Check_L1_succ, df (by omega), drop_nil (by omega)]
    exact rcheck_road ps hr rs.length 1000 0 rfl (by omega)
  | j + 1, f + 1, k, hk, hf => by
    have ih := rcheck_place hp hr j f (k + 1) (by omega) (by omega)
    rw [ref01_Check_L1_succ, dt (by omega), it (by omega), Int.toNat_natCast, drop_cons D_Place (by omega)]
    generalize ps.getD k D_Place = p
    simp only [plE, Bool.or_eq_true, decide_eq_true_eq]
    by_cases h1 : p.1 < -10000
    · rw [dt h1, if_pos (.inl (.inl h1))]
    rw [df h1]
    by_cases h2 : p.1 > 10000
    · rw [dt h2, if_pos (.inl (.inr h2))]
    rw [df h2, W_succ (by omega), ih]
    by_cases h3 : plE (ps.drop (k + 1)) = true
    · rw [if_pos h3, if_pos (.inr h3)]
    · rw [if_neg h3, if_neg (fun h => h.elim (fun h => h.elim (by omega) (by omega)) h3)]
theorem rcheck_eq (m : T_Mine) : ref01_Check 1000 m = some (chk m) := by
  unfold ref01_Check chk
  by_cases h1 : m.1.length > 64
  · rw [dt (by omega), if_pos (.inl h1)]
  rw [df (by omega)]
  by_cases h2 : m.2.length > 128
  · rw [dt (by omega), if_pos (.inr h2)]
  rw [df (by omega), ref01_Check_J1_eq, if_neg (by omega)]
  exact rcheck_place (by omega) (by omega) m.1.length 1000 0 rfl (by omega)

/-! ### What a valid mine is -/
structure Vm (m : T_Mine) : Prop where
  n : m.1.length ≤ 64
  k : m.2.length ≤ 128
  p : ∀ x, x ∈ m.1 → ¬ badP x
  r : ∀ x, x ∈ m.2 → ¬ endE m.1.length x ∧ ¬ rngE x
theorem plE_iff : ∀ (ps : List T_Place), plE ps = true ↔ ∃ x, x ∈ ps ∧ badP x
  | [] => by simp [plE]
  | p :: ps => by simp [plE, plE_iff ps]
theorem rE_zero (n : Int) (r : T_Road) : rE n r = 0 ↔ ¬ endE n r ∧ ¬ rngE r := by
  unfold rE
  by_cases h1 : endE n r
  · simp [h1]
  · by_cases h2 : rngE r <;> simp [h1, h2]
theorem rdE_iff (n : Int) : ∀ (rs : List T_Road), rdE n rs = 0 ↔ ∀ x, x ∈ rs → ¬ endE n x ∧ ¬ rngE x
  | [] => by simp [rdE]
  | r :: rs => by
    simp only [rdE, List.mem_cons, forall_eq_or_imp]
    by_cases h : rE n r = 0
    · rw [if_pos h, rdE_iff n rs]; exact ⟨fun k => ⟨(rE_zero n r).1 h, k⟩, fun k => k.2⟩
    · rw [if_neg h]; exact ⟨fun k => absurd k h, fun k => absurd ((rE_zero n r).2 k.1) h⟩
theorem chk_zero (m : T_Mine) : chk m = 0 ↔ Vm m := by
  unfold chk
  by_cases h1 : m.1.length > 64 ∨ m.2.length > 128
  · rw [if_pos h1]
    exact ⟨fun h => (by cases h), fun v => by have := v.n; have := v.k; omega⟩
  · rw [if_neg h1]
    by_cases h2 : plE m.1 = true
    · rw [if_pos h2]
      exact ⟨fun h => (by cases h), fun v => by obtain ⟨x, hx, hb⟩ := (plE_iff _).1 h2; exact absurd hb (v.p x hx)⟩
    · rw [if_neg h2, rdE_iff]
      exact ⟨fun h => ⟨by omega, by omega, fun x hx hb => h2 ((plE_iff _).2 ⟨x, hx, hb⟩), h⟩, fun v => v.r⟩

/-! ### Made mines -/
def Pk (p : T_Place) : Prop := -60 ≤ p.1 ∧ p.1 ≤ 60
def Bk (r : T_Road) : Prop := (1 ≤ r.2.2.1 ∧ r.2.2.1 ≤ 400) ∧ (4 ≤ r.2.2.2.1 ∧ r.2.2.2.1 ≤ 30) ∧ (1 ≤ r.2.2.2.2.2.2.1.1 ∧ r.2.2.2.2.2.2.1.1 ≤ r.2.2.2.2.2.2.1.2 ∧ r.2.2.2.2.2.2.1.2 ≤ 30) ∧ (-300 ≤ r.2.2.2.2.2.2.2.1 ∧ r.2.2.2.2.2.2.2.1 ≤ r.2.2.2.2.2.2.2.2 ∧ r.2.2.2.2.2.2.2.2 ≤ 400)
def Rk (n : Int) (r : T_Road) : Prop := (0 ≤ r.1 ∧ r.1 < n) ∧ (0 ≤ r.2.1 ∧ r.2.1 < n) ∧ r.1 ≠ r.2.1 ∧ Bk r
structure Mk (m : T_Mine) : Prop where
  n1 : 2 ≤ m.1.length
  n2 : m.1.length ≤ 7
  r2 : m.2.length ≤ 8
  p : ∀ x, x ∈ m.1 → Pk x
  r : ∀ x, x ∈ m.2 → Rk m.1.length x
theorem Bk.rng {r : T_Road} (h : Bk r) : ¬ rngE r := by
  obtain ⟨h1, h2, h3, h4⟩ := h
  unfold rngE spanO
  omega
theorem Rk.ok {n : Int} {r : T_Road} (h : Rk n r) : ¬ endE n r ∧ ¬ rngE r := by
  obtain ⟨h1, h2, h3, h4⟩ := h
  exact ⟨by unfold endE; omega, h4.rng⟩
theorem Mk.vm {m : T_Mine} (h : Mk m) : Vm m := ⟨by have := h.n2; omega, by have := h.r2; omega, fun x hx => by have := h.p x hx; unfold Pk at this; unfold badP; omega, fun x hx => (h.r x hx).ok⟩
theorem mem_app {α : Type} {P : α → Prop} {l : List α} {a : α} (h : ∀ x, x ∈ l → P x) (ha : P a) : ∀ x, x ∈ l ++ [a] → P x := fun x hx => by
  rcases List.mem_append.1 hx with hx | hx
  · exact h x hx
  · rw [List.mem_singleton.1 hx]; exact ha
theorem road_spec {d : T_Codes} (hd : Cd d) (a b : Int) : ∃ r d', draw_Codes_Road 1000 d a b = some (r, d') ∧ r.1 = a ∧ r.2.1 = b ∧ Bk r ∧ r.2.2.2.2.2.1 = false ∧ Cd d' := by
  unfold draw_Codes_Road
  obtain ⟨v1, d1, e1, a1, b1, hd1⟩ := range_spec (N := 1000) (by omega) hd (a := 1) (b := 400) (by omega) (by omega) (by omega)
  rw [e1, bind_some']
  obtain ⟨v2, d2, e2, a2, b2, hd2⟩ := range_spec (N := 1000) (by omega) hd1 (a := 4) (b := 30) (by omega) (by omega) (by omega)
  simp only
  rw [e2, bind_some']
  obtain ⟨v3, d3, e3, a3, b3, hd3⟩ := next_spec (N := 1000) (by omega) hd2 (n := 4) (by omega)
  simp only
  rw [e3, bind_some']
  obtain ⟨v4, d4, e4, a4, b4, hd4⟩ := range_spec (N := 1000) (by omega) hd3 (a := 1) (b := 20) (by omega) (by omega) (by omega)
  simp only
  rw [e4, bind_some']
  obtain ⟨v5, d5, e5, a5, b5, hd5⟩ := next_spec (N := 1000) (by omega) hd4 (n := 3) (by omega)
  simp only
  rw [e5, bind_some']
  obtain ⟨v6, d6, e6, a6, b6, hd6⟩ := range_spec (N := 1000) (by omega) hd5 (a := -300) (b := 300) (by omega) (by omega) (by omega)
  simp only
  rw [e6, bind_some']
  obtain ⟨v7, d7, e7, a7, b7, hd7⟩ := next_spec (N := 1000) (by omega) hd6 (n := 20) (by omega)
  simp only
  rw [e7, bind_some']
  simp only
  rw [W_eq (n := v4 + v5) (by omega) (by omega), W_eq (n := v6 + v7) (by omega) (by omega)]
  exact ⟨_, _, rfl, rfl, rfl, ⟨⟨a1, b1⟩, ⟨a2, b2⟩, ⟨a4, by show v4 ≤ v4 + v5; omega, by show v4 + v5 ≤ 30; omega⟩, ⟨a6, by show v6 ≤ v6 + v7; omega, by show v6 + v7 ≤ 400; omega⟩⟩, rfl, hd7⟩

theorem mine2 {ps : List T_Place} (h1 : 2 ≤ ps.length) (h2 : ps.length ≤ 7) (hp : ∀ x, x ∈ ps → Pk x) : ∀ (k f : Nat) (d : T_Codes) (rs : List T_Road), k < f → k + rs.length ≤ 8 → Cd d → (∀ x, x ∈ rs → Rk ps.length x) →
    ∃ m d', draw_Codes_Mine_L2 1000 f ps.length k d.1 d.2 ps rs = some (m, d') ∧ Mk m ∧ Cd d'
  | 0, f + 1, d, rs, hf, hk, hd, hr => by
    rw [draw_Codes_Mine_L2_succ, df (by omega)]
    exact ⟨(ps, rs), d, rfl, ⟨h1, h2, by show rs.length ≤ 8; omega, hp, hr⟩, hd⟩
  | k + 1, f + 1, d, rs, hf, hk, hd, hr => by
    rw [draw_Codes_Mine_L2_succ, dt (by omega)]
    obtain ⟨v1, d1, e1, a1, b1, hd1⟩ := next_spec (N := 1000) (by omega) hd (n := (ps.length : Int)) (by omega)
    rw [show ((d.1, d.2) : T_Codes) = d from rfl, e1, bind_some']
    obtain ⟨v2, d2, e2, a2, b2, hd2⟩ := next_spec (N := 1000) (by omega) hd1 (n := (ps.length : Int) - 1) (by omega)
    simp only
    rw [W_eq (n := (ps.length : Int) - 1) (by omega) (by omega), e2, bind_some', ef (by omega)]
    simp only
    rw [W_eq (n := v1 + 1) (by omega) (by omega), W_eq (n := v1 + 1 + v2) (by omega) (by omega)]
    have em : (v1 + 1 + v2).tmod ps.length = if v1 + 1 + v2 < ps.length then v1 + 1 + v2 else v1 + 1 + v2 - ps.length := by
      rw [Int.tmod_eq_emod_of_nonneg (by omega)]
      by_cases h : v1 + 1 + v2 < ps.length
      · rw [if_pos h, Int.emod_eq_of_lt (by omega) h]
      · rw [if_neg h, ← Int.sub_emod_right, Int.emod_eq_of_lt (by omega) (by omega)]
    obtain ⟨r, d3, e3, c1, c2, c3, c4, hd3⟩ := road_spec hd2 v1 ((v1 + 1 + v2).tmod ps.length)
    rw [e3, bind_some']
    obtain ⟨z, d4, e4, hd4⟩ := one_spec (N := 1000) (by omega) hd3 (n := 6) (by omega)
    simp only
    rw [e4, bind_some', fitsB_true (by omega), cond_true]
    simp only
    rw [W_eq (n := ((k + 1 : Nat) : Int) - 1) (by omega) (by omega), show ((k + 1 : Nat) : Int) - 1 = (k : Int) by omega]
    refine mine2 h1 h2 hp k f d4 _ (by omega) (by rw [List.length_append, List.length_singleton]; omega) hd4 (mem_app hr ?_)
    rw [em] at c2
    refine ⟨⟨by show 0 ≤ r.1; omega, by show r.1 < _; omega⟩, ⟨by show 0 ≤ r.2.1; split at c2 <;> omega, by show r.2.1 < _; split at c2 <;> omega⟩, by show r.1 ≠ r.2.1; split at c2 <;> omega, c3⟩
theorem mine1 : ∀ (k f : Nat) (d : T_Codes) (ps : List T_Place), k < f → 1 ≤ ps.length → k + ps.length ≤ 7 → 2 ≤ k + ps.length → Cd d → (∀ x, x ∈ ps → Pk x) →
    ∃ m d', draw_Codes_Mine_L1 1000 f k d.1 d.2 ps = some (m, d') ∧ Mk m ∧ Cd d'
  | 0, f + 1, d, ps, hf, h1, h2, h3, hd, hp => by
    rw [draw_Codes_Mine_L1_succ, df (by omega)]
    obtain ⟨v1, d1, e1, a1, b1, hd1⟩ := next_spec (N := 1000) (by omega) hd (n := 9) (by omega)
    rw [show ((d.1, d.2) : T_Codes) = d from rfl, e1, bind_some']
    obtain ⟨k, rfl⟩ := Int.eq_ofNat_of_zero_le a1
    exact mine2 (by omega) (by omega) hp k 1000 d1 [] (by omega) (by simp; omega) hd1 (fun x hx => by cases hx)
  | k + 1, f + 1, d, ps, hf, h1, h2, h3, hd, hp => by
    rw [draw_Codes_Mine_L1_succ, dt (by omega)]
    obtain ⟨v1, d1, e1, a1, b1, hd1⟩ := range_spec (N := 1000) (by omega) hd (a := -60) (b := 60) (by omega) (by omega) (by omega)
    rw [show ((d.1, d.2) : T_Codes) = d from rfl, e1, bind_some']
    obtain ⟨z, d2, e2, hd2⟩ := one_spec (N := 1000) (by omega) hd1 (n := 5) (by omega)
    simp only
    rw [e2, bind_some', fitsB_true (by omega), cond_true]
    simp only
    rw [W_eq (n := ((k + 1 : Nat) : Int) - 1) (by omega) (by omega), show ((k + 1 : Nat) : Int) - 1 = (k : Int) by omega]
    exact mine1 k f d2 _ (by omega) (by rw [List.length_append, List.length_singleton]; omega) (by rw [List.length_append, List.length_singleton]; omega) (by rw [List.length_append, List.length_singleton]; omega) hd2 (mem_app hp ⟨a1, b1⟩)
theorem mine_spec {d : T_Codes} (hd : Cd d) : ∃ m d', draw_Codes_Mine 1000 d = some (m, d') ∧ Mk m ∧ Cd d' := by
  unfold draw_Codes_Mine
  obtain ⟨v1, d1, e1, a1, b1, hd1⟩ := next_spec (N := 1000) (by omega) hd (n := 6) (by omega)
  rw [e1, bind_some']
  obtain ⟨k, rfl⟩ := Int.eq_ofNat_of_zero_le a1
  simp only
  rw [W_eq (by omega) (by omega), show 1 + (k : Int) = ((1 + k : Nat) : Int) by omega]
  exact mine1 (1 + k) 1000 d1 [(0, true)] (by omega) (by simp) (by simp; omega) (by simp) hd1 (fun x hx => by rw [List.mem_singleton.1 hx]; exact ⟨by show (-60 : Int) ≤ 0; omega, by show (0 : Int) ≤ 60; omega⟩)
end Go.Proofs.Ytdmggkpefjpknaa
