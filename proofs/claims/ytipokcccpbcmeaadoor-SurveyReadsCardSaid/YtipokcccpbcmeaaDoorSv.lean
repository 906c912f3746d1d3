/- SurveyReads. No condition of its own. -/
import Derived.Test.YtipokcccpbcmeaaDoorM
import Derived.Test.YtipokcccpbcmeaaDoorPxN
set_option linter.all false
namespace Go.Proofs.YtipokcccpbcmeaaDoor
open Go.Pv M
def Cd (d : T_Codes) : Prop := 0 ≤ d.2 ∧ d.2 ≤ d.1.length ∧ d.1.length ≤ 300 ∧ ∀ a, a ∈ d.1 → 0 ≤ a ∧ a ≤ 255
theorem ne2 {x y : Int} (h : x ≠ y) : (x == y) = false := by simpa using h
theorem cd_get {d : List Int} (h : ∀ a, a ∈ d → 0 ≤ a ∧ a ≤ 255) (k : Nat) : 0 ≤ d.getD k 0 ∧ d.getD k 0 ≤ 255 := by
  rw [List.getD_eq_getElem?_getD]
  cases e : d[k]? with
  | none => simp
  | some x => exact h x (List.mem_of_getElem? e)
theorem next_spec {N : Nat} (hN : 0 < N) {d : T_Codes} (hd : Cd d) {n : Int} (h2 : n ≤ 4611686018427387904) : ∃ v d', draw_Codes_Next N d n = some (v, d') ∧ 0 ≤ v ∧ (v < n ∨ v = 0) ∧ Cd d' := by
  obtain ⟨a1, a2, a3, a4⟩ := hd
  obtain ⟨M, rfl⟩ : ∃ M, N = M + 1 := ⟨N - 1, by omega⟩
  unfold draw_Codes_Next
  by_cases h1 : n < 1
  · simp only [h1, decide_true, cond_true]
    exact ⟨0, d, rfl, by omega, .inr rfl, a1, a2, a3, a4⟩
  simp only [h1, decide_false, cond_false]
  by_cases h : d.2 ≥ (d.1.length : Int)
  · simp only [h, decide_true, cond_true]
    exact ⟨0, d, rfl, by omega, .inr rfl, a1, a2, a3, a4⟩
  · simp only [h, decide_false, cond_false]
    rw [draw_Codes_Next_J1_eq]
    have h0 : (n == 0) = false := by simp; omega
    rw [W_eq (n := d.2 + 1) (by omega) (by omega), W_eq (n := d.2 + 1 - 1) (by omega) (by omega), inB_true (by omega), cond_true]
    have g1 := cd_get a4 (d.2 + 1 - 1).toNat
    have g2 := cd_get a4 (d.2 + 1).toNat
    simp only [h0, cond_false]
    by_cases hn : n > 256
    · simp only [hn, decide_true, cond_true]
      by_cases hl : d.2 + 1 < (d.1.length : Int)
      · simp only [hl, decide_true, cond_true]
        rw [inB_true (by omega), cond_true]
        generalize d.1.getD (d.2 + 1 - 1).toNat 0 = x at g1 ⊢
        generalize d.1.getD (d.2 + 1).toNat 0 = y at g2 ⊢
        rw [W_eq (n := x) (by omega) (by omega), W_eq (n := y) (by omega) (by omega), W_eq (n := x * 256) (by omega) (by omega), W_eq (n := x * 256 + y) (by omega) (by omega), W_eq (n := d.2 + 1 + 1) (by omega) (by omega)]
        refine ⟨_, _, rfl, Int.tmod_nonneg _ (by omega), .inl (Int.tmod_lt_of_pos _ (by omega)), ?_, ?_, a3, a4⟩
        · show 0 ≤ d.2 + 1 + 1; omega
        · show d.2 + 1 + 1 ≤ (d.1.length : Int); omega
      · simp only [hl, decide_false, cond_false]
        rw [W_eq (n := d.1.getD (d.2 + 1 - 1).toNat 0) (by omega) (by omega)]
        refine ⟨_, _, rfl, Int.tmod_nonneg _ (by omega), .inl (Int.tmod_lt_of_pos _ (by omega)), ?_, ?_, a3, a4⟩
        · show 0 ≤ d.2 + 1; omega
        · show d.2 + 1 ≤ (d.1.length : Int); omega
    · simp only [hn, decide_false, cond_false]
      rw [W_eq (n := d.1.getD (d.2 + 1 - 1).toNat 0) (by omega) (by omega)]
      refine ⟨_, _, rfl, Int.tmod_nonneg _ (by omega), .inl (Int.tmod_lt_of_pos _ (by omega)), ?_, ?_, a3, a4⟩
      · show 0 ≤ d.2 + 1; omega
      · show d.2 + 1 ≤ (d.1.length : Int); omega
theorem one_spec {N : Nat} (hN : 0 < N) {d : T_Codes} (hd : Cd d) {n : Int} (h2 : n ≤ 4611686018427387904) : ∃ b d', draw_Codes_One N d n = some (b, d') ∧ Cd d' := by
  unfold draw_Codes_One
  obtain ⟨v, d', e, r1, r2, r3⟩ := next_spec hN hd h2
  rw [e, bind_some']
  exact ⟨_, _, rfl, r3⟩
theorem range_spec {N : Nat} (hN : 0 < N) {d : T_Codes} (hd : Cd d) {a b : Int} (h1 : a ≤ b) (h2 : -1000000 ≤ a) (h3 : b ≤ 1000000) : ∃ v d', draw_Codes_Range N d a b = some (v, d') ∧ a ≤ v ∧ v ≤ b ∧ Cd d' := by
  unfold draw_Codes_Range
  rw [W_eq (n := b - a) (by omega) (by omega), W_eq (n := b - a + 1) (by omega) (by omega)]
  obtain ⟨v, d', e, r1, r2, r3⟩ := next_spec hN hd (n := b - a + 1) (by omega)
  rw [e, bind_some']
  simp only
  rw [W_eq (n := a + v) (by omega) (by omega)]
  exact ⟨_, _, rfl, by omega, by omega, r3⟩
theorem new_spec (N : Nat) {l : List Int} (h : ∀ a, a ∈ l → (Lit.int .u8 a).wf = true) (hl : l.length ≤ maxLen) : ∃ d, draw_New N l = some (d, ()) ∧ Cd d := by
  unfold draw_New
  have : maxLen ≤ 9223372036854775807 := by decide
  simp only
  rw [slB_true (by omega), cond_true]
  refine ⟨_, rfl, by show (0 : Int) ≤ 0; omega, by show (0 : Int) ≤ _; omega, ?_, fun a ha => ?_⟩
  · show (l.take _).length ≤ 300
    rw [List.length_take]; omega
  · have := h a (List.mem_of_mem_take ha)
    simp only [Lit.wf, Bool.and_eq_true, decide_eq_true_eq] at this
    exact this
end Go.Proofs.YtipokcccpbcmeaaDoor
set_option linter.all false
namespace Go.Proofs.YtipokcccpbcmeaaDoor
open Go.Pv M
theorem eq2 {x y : Int} (h : x = y) : (x == y) = true := by simpa using h
theorem dt {p : Prop} [Decidable p] {α : Type} {x y : α} (h : p) : (bif decide p then x else y) = x := by rw [decide_eq_true h]; rfl
theorem df {p : Prop} [Decidable p] {α : Type} {x y : α} (h : ¬ p) : (bif decide p then x else y) = y := by rw [decide_eq_false h]; rfl
theorem et {a b : Int} {α : Type} {x y : α} (h : a = b) : (bif a == b then x else y) = x := by rw [eq2 h]; rfl
theorem ef {a b : Int} {α : Type} {x y : α} (h : a ≠ b) : (bif a == b then x else y) = y := by rw [ne2 h]; rfl
theorem it {n : Int} {l : Nat} {α : Type} {x y : α} (h : 0 ≤ n ∧ n < l) : (bif inB n l then x else y) = x := by rw [inB_true h]; rfl
theorem drop_cons {α : Type} {l : List α} {k : Nat} (d : α) (h : k < l.length) : l.drop k = l.getD k d :: l.drop (k + 1) := by
  rw [List.drop_eq_getElem_cons h, List.getD_eq_getElem?_getD, List.getElem?_eq_getElem h]; rfl
theorem drop_nil {α : Type} {l : List α} {k : Nat} (h : l.length ≤ k) : l.drop k = [] := List.drop_eq_nil_of_le h
theorem W_succ {k : Nat} (h : k < 1000000000) : W ((k : Int) + 1) = ((k + 1 : Nat) : Int) := by rw [W_eq (by omega) (by omega)]; omega
theorem getD_mem {α : Type} {l : List α} (d : α) {k : Nat} (h : k < l.length) : l.getD k d ∈ l := by
  rw [List.getD_eq_getElem?_getD, List.getElem?_eq_getElem h]; exact List.getElem_mem h
def badP (p : T_Place) : Prop := p.1 < -10000 ∨ p.1 > 10000
instance (p : T_Place) : Decidable (badP p) := inferInstanceAs (Decidable (_ ∨ _))
def endE (n : Int) (r : T_Road) : Prop := r.1 < 0 ∨ r.1 ≥ n ∨ r.2.1 < 0 ∨ r.2.1 ≥ n ∨ r.1 = r.2.1
instance (n : Int) (r : T_Road) : Decidable (endE n r) := inferInstanceAs (Decidable (_ ∨ _ ∨ _ ∨ _ ∨ _))
def spanO (s : T_Span) (a b : Int) : Prop := a ≤ s.1 ∧ s.1 ≤ s.2 ∧ s.2 ≤ b
instance (s : T_Span) (a b : Int) : Decidable (spanO s a b) := inferInstanceAs (Decidable (_ ∧ _ ∧ _))
def rngE (r : T_Road) : Prop := r.2.2.1 < 1 ∨ r.2.2.1 > 100000 ∨ r.2.2.2.1 < 1 ∨ r.2.2.2.1 > 1000 ∨ ¬ spanO r.2.2.2.2.2.2.1 1 262144 ∨ ¬ spanO r.2.2.2.2.2.2.2 (-2199023255552) 2199023255552
instance (r : T_Road) : Decidable (rngE r) := inferInstanceAs (Decidable (_ ∨ _ ∨ _ ∨ _ ∨ ¬ _ ∨ ¬ _))
def rE (n : Int) (r : T_Road) : Int := if endE n r then 4 else if rngE r then 1 else 0
def rdE (n : Int) : List T_Road → Int
  | [] => 0
  | r :: rs => if rE n r = 0 then rdE n rs else rE n r
theorem rdE_4 {n : Int} {r : T_Road} (rs : List T_Road) (h : endE n r) : rdE n (r :: rs) = 4 := by simp [rdE, rE, h]
theorem rdE_1 {n : Int} {r : T_Road} (rs : List T_Road) (h1 : ¬ endE n r) (h : rngE r) : rdE n (r :: rs) = 1 := by simp [rdE, rE, h1, h]
theorem rdE_0 {n : Int} {r : T_Road} (rs : List T_Road) (h1 : ¬ endE n r) (h : ¬ rngE r) : rdE n (r :: rs) = rdE n rs := by simp [rdE, rE, h1, h]
def plE : List T_Place → Bool
  | [] => false
  | p :: ps => decide (badP p) || plE ps
def chk (m : T_Mine) : Int := if m.1.length > 64 ∨ m.2.length > 128 then 2 else if plE m.1 = true then 1 else rdE m.1.length m.2
theorem span_eq (N : Nat) (s : T_Span) (a b : Int) : plan_spanIn N s a b = some (decide (spanO s a b)) := by
  unfold plan_spanIn spanO
  by_cases h1 : a ≤ s.1 <;> by_cases h2 : s.1 ≤ s.2 <;> by_cases h3 : s.2 ≤ b <;> simp [h1, h2, h3]
theorem rspan_eq (N : Nat) (s : T_Span) (a b : Int) : ref01_Span N s a b = some (decide (spanO s a b)) := by
  unfold ref01_Span spanO
  by_cases h1 : a ≤ s.1 <;> by_cases h2 : s.1 ≤ s.2 <;> by_cases h3 : s.2 ≤ b <;> simp [h1, h2, h3]
theorem bnot_t {b : Bool} {α : Type} {x y : α} (h : b = true) : (bif !b then x else y) = y := by rw [h]; rfl
theorem bnot_f {b : Bool} {α : Type} {x y : α} (h : b = false) : (bif !b then x else y) = x := by rw [h]; rfl
theorem check_road (n : Nat) {rs : List T_Road} (hr : rs.length ≤ 128) : ∀ (j f k : Nat), j + k = rs.length → j < f → plan_Check_L2 1267650600228229401496703205376 f n rs rs.length k = some (rdE n (rs.drop k))
  | 0, f + 1, k, hk, hf => by rw [plan_Check_L2_succ, df (by omega), drop_nil (by omega)]; rfl
  | j + 1, f + 1, k, hk, hf => by
    have ih := check_road n hr j f (k + 1) (by omega) (by omega)
    rw [plan_Check_L2_succ, dt (by omega), it (by omega), Int.toNat_natCast, drop_cons D_Road (by omega)]
    generalize rs.getD k D_Road = r
    by_cases h1 : r.1 < 0
    · rw [dt h1, rdE_4 _ (.inl h1)]
    rw [df h1]
    by_cases h2 : r.1 ≥ n
    · rw [dt h2, rdE_4 _ (.inr (.inl h2))]
    rw [df h2]
    by_cases h3 : r.2.1 < 0
    · rw [dt h3, rdE_4 _ (.inr (.inr (.inl h3)))]
    rw [df h3]
    by_cases h4 : r.2.1 ≥ n
    · rw [dt h4, rdE_4 _ (.inr (.inr (.inr (.inl h4))))]
    rw [df h4]
    by_cases h5 : r.1 = r.2.1
    · rw [et h5, rdE_4 _ (.inr (.inr (.inr (.inr h5))))]
    have hne : ¬ endE (n : Int) r := by unfold endE; omega
    rw [ef h5, plan_Check_J2_eq]
    by_cases g1 : r.2.2.1 < 1
    · rw [dt g1, rdE_1 _ hne (.inl g1)]
    rw [df g1]
    by_cases g2 : r.2.2.1 > 100000
    · rw [dt g2, rdE_1 _ hne (.inr (.inl g2))]
    rw [df g2]
    by_cases g3 : r.2.2.2.1 < 1
    · rw [dt g3, rdE_1 _ hne (.inr (.inr (.inl g3)))]
    rw [df g3]
    by_cases g4 : r.2.2.2.1 > 1000
    · rw [dt g4, rdE_1 _ hne (.inr (.inr (.inr (.inl g4))))]
    rw [df g4, span_eq, bind_some']
    by_cases g5 : spanO r.2.2.2.2.2.2.1 1 262144
    · rw [bnot_t (decide_eq_true g5), span_eq, bind_some']
      by_cases g6 : spanO r.2.2.2.2.2.2.2 (-2199023255552) 2199023255552
      · rw [bnot_t (decide_eq_true g6), W_succ (by omega), ih, rdE_0 _ hne (by unfold rngE; intro h; rcases h with h | h | h | h | h | h <;> first | omega | exact h g5 | exact h g6)]
      · rw [bnot_f (decide_eq_false g6), rdE_1 _ hne (.inr (.inr (.inr (.inr (.inr g6)))))]
    · rw [bnot_f (decide_eq_false g5), rdE_1 _ hne (.inr (.inr (.inr (.inr (.inl g5)))))]
theorem check_place {ps : List T_Place} {rs : List T_Road} (hp : ps.length ≤ 64) (hr : rs.length ≤ 128) : ∀ (j f k : Nat), j + k = ps.length → j < f → plan_Check_L1 1267650600228229401496703205376 f ps ps.length k ps rs = some (if plE (ps.drop k) = true then 1 else rdE ps.length rs)
  | 0, f + 1, k, hk, hf => by
    rw [plan_Check_L1_succ, df (by omega), drop_nil (by omega)]
    exact check_road ps.length hr rs.length 1267650600228229401496703205376 0 rfl (by omega)
  | j + 1, f + 1, k, hk, hf => by
    have ih := check_place hp hr j f (k + 1) (by omega) (by omega)
    rw [plan_Check_L1_succ, dt (by omega), it (by omega), Int.toNat_natCast, drop_cons D_Place (by omega)]
    generalize ps.getD k D_Place = p
    simp only [plE, Bool.or_eq_true, decide_eq_true_eq]
    by_cases h1 : p.1 < -10000
    · rw [dt h1, if_pos (.inl (.inl h1))]
    rw [df h1]
    by_cases h2 : p.1 > 10000
    · rw [dt h2, if_pos (.inl (.inr h2))]
    rw [df h2, W_succ (by omega), ih]
    by_cases h3 : plE (ps.drop (k + 1)) = true
    · rw [if_pos h3, if_pos (.inr h3)]
    · rw [if_neg h3, if_neg (fun h => h.elim (fun h => h.elim (by omega) (by omega)) h3)]
theorem check_eq (m : T_Mine) : plan_Check 1267650600228229401496703205376 m = some (chk m) := by
  unfold plan_Check chk
  by_cases h1 : m.1.length > 64
  · rw [dt (by omega), if_pos (.inl h1)]
  rw [df (by omega)]
  by_cases h2 : m.2.length > 128
  · rw [dt (by omega), if_pos (.inr h2)]
  rw [df (by omega), plan_Check_J1_eq, if_neg (by omega)]
  exact check_place (by omega) (by omega) m.1.length 1267650600228229401496703205376 0 rfl (by omega)
theorem rcheck_road (ps : List T_Place) {rs : List T_Road} (hr : rs.length ≤ 128) : ∀ (j f k : Nat), j + k = rs.length → j < f → ref01_Check_L2 1267650600228229401496703205376 f k ps rs = some (rdE ps.length (rs.drop k))
  | 0, f + 1, k, hk, hf => by rw [ref01_Check_L2_succ, df (by omega), drop_nil (by omega)]; rfl
  | j + 1, f + 1, k, hk, hf => by
    have ih := rcheck_road ps hr j f (k + 1) (by omega) (by omega)
    rw [ref01_Check_L2_succ, dt (by omega), it (by omega), Int.toNat_natCast, drop_cons D_Road (by omega)]
    generalize rs.getD k D_Road = r
    by_cases h1 : r.1 < 0
    · rw [dt h1, rdE_4 _ (.inl h1)]
    rw [df h1]
    by_cases h2 : r.1 ≥ ps.length
    · rw [dt h2, rdE_4 _ (.inr (.inl h2))]
    rw [df h2]
    by_cases h3 : r.2.1 < 0
    · rw [dt h3, rdE_4 _ (.inr (.inr (.inl h3)))]
    rw [df h3]
    by_cases h4 : r.2.1 ≥ ps.length
    · rw [dt h4, rdE_4 _ (.inr (.inr (.inr (.inl h4))))]
    rw [df h4]
    by_cases h5 : r.1 = r.2.1
    · rw [et h5, rdE_4 _ (.inr (.inr (.inr (.inr h5))))]
    have hne : ¬ endE (ps.length : Int) r := by unfold endE; omega
    rw [ef h5, ref01_Check_J2_eq]
    by_cases g1 : r.2.2.1 < 1
    · rw [dt g1, rdE_1 _ hne (.inl g1)]
    rw [df g1]
    by_cases g2 : r.2.2.1 > 100000
    · rw [dt g2, rdE_1 _ hne (.inr (.inl g2))]
    rw [df g2]
    by_cases g3 : r.2.2.2.1 < 1
    · rw [dt g3, rdE_1 _ hne (.inr (.inr (.inl g3)))]
    rw [df g3]
    by_cases g4 : r.2.2.2.1 > 1000
    · rw [dt g4, rdE_1 _ hne (.inr (.inr (.inr (.inl g4))))]
    rw [df g4, rspan_eq, bind_some']
    by_cases g5 : spanO r.2.2.2.2.2.2.1 1 262144
    · rw [bnot_t (decide_eq_true g5), rspan_eq, bind_some']
      by_cases g6 : spanO r.2.2.2.2.2.2.2 (-2199023255552) 2199023255552
      · rw [bnot_t (decide_eq_true g6), W_succ (by omega), ih, rdE_0 _ hne (by unfold rngE; intro h; rcases h with h | h | h | h | h | h <;> first | omega | exact h g5 | exact h g6)]
      · rw [bnot_f (decide_eq_false g6), rdE_1 _ hne (.inr (.inr (.inr (.inr (.inr g6)))))]
    · rw [bnot_f (decide_eq_false g5), rdE_1 _ hne (.inr (.inr (.inr (.inr (.inl g5)))))]
theorem rcheck_place {ps : List T_Place} {rs : List T_Road} (hp : ps.length ≤ 64) (hr : rs.length ≤ 128) : ∀ (j f k : Nat), j + k = ps.length → j < f → ref01_Check_L1 1267650600228229401496703205376 f k ps rs = some (if plE (ps.drop k) = true then 1 else rdE ps.length rs)
  | 0, f + 1, k, hk, hf => by
    rw [ref01_Check_L1_succ, df (by omega), drop_nil (by omega)]
    exact rcheck_road ps hr rs.length 1267650600228229401496703205376 0 rfl (by omega)
  | j + 1, f + 1, k, hk, hf => by
    have ih := rcheck_place hp hr j f (k + 1) (by omega) (by omega)
    rw [ref01_Check_L1_succ, dt (by omega), it (by omega), Int.toNat_natCast, drop_cons D_Place (by omega)]
    generalize ps.getD k D_Place = p
    simp only [plE, Bool.or_eq_true, decide_eq_true_eq]
    by_cases h1 : p.1 < -10000
    · rw [dt h1, if_pos (.inl (.inl h1))]
    rw [df h1]
    by_cases h2 : p.1 > 10000
    · rw [dt h2, if_pos (.inl (.inr h2))]
    rw [df h2, W_succ (by omega), ih]
    by_cases h3 : plE (ps.drop (k + 1)) = true
    · rw [if_pos h3, if_pos (.inr h3)]
    · rw [if_neg h3, if_neg (fun h => h.elim (fun h => h.elim (by omega) (by omega)) h3)]
theorem rcheck_eq (m : T_Mine) : ref01_Check 1267650600228229401496703205376 m = some (chk m) := by
  unfold ref01_Check chk
  by_cases h1 : m.1.length > 64
  · rw [dt (by omega), if_pos (.inl h1)]
  rw [df (by omega)]
  by_cases h2 : m.2.length > 128
  · rw [dt (by omega), if_pos (.inr h2)]
  rw [df (by omega), ref01_Check_J1_eq, if_neg (by omega)]
  exact rcheck_place (by omega) (by omega) m.1.length 1267650600228229401496703205376 0 rfl (by omega)
structure Vm (m : T_Mine) : Prop where
  n : m.1.length ≤ 64
  k : m.2.length ≤ 128
  p : ∀ x, x ∈ m.1 → ¬ badP x
  r : ∀ x, x ∈ m.2 → ¬ endE m.1.length x ∧ ¬ rngE x
theorem plE_iff : ∀ (ps : List T_Place), plE ps = true ↔ ∃ x, x ∈ ps ∧ badP x
  | [] => by simp [plE]
  | p :: ps => by simp [plE, plE_iff ps]
theorem rE_zero (n : Int) (r : T_Road) : rE n r = 0 ↔ ¬ endE n r ∧ ¬ rngE r := by
  unfold rE
  by_cases h1 : endE n r
  · simp [h1]
  · by_cases h2 : rngE r <;> simp [h1, h2]
theorem rdE_iff (n : Int) : ∀ (rs : List T_Road), rdE n rs = 0 ↔ ∀ x, x ∈ rs → ¬ endE n x ∧ ¬ rngE x
  | [] => by simp [rdE]
  | r :: rs => by
    simp only [rdE, List.mem_cons, forall_eq_or_imp]
    by_cases h : rE n r = 0
    · rw [if_pos h, rdE_iff n rs]; exact ⟨fun k => ⟨(rE_zero n r).1 h, k⟩, fun k => k.2⟩
    · rw [if_neg h]; exact ⟨fun k => absurd k h, fun k => absurd ((rE_zero n r).2 k.1) h⟩
theorem chk_zero (m : T_Mine) : chk m = 0 ↔ Vm m := by
  unfold chk
  by_cases h1 : m.1.length > 64 ∨ m.2.length > 128
  · rw [if_pos h1]
    exact ⟨fun h => (by cases h), fun v => by have := v.n; have := v.k; omega⟩
  · rw [if_neg h1]
    by_cases h2 : plE m.1 = true
    · rw [if_pos h2]
      exact ⟨fun h => (by cases h), fun v => by obtain ⟨x, hx, hb⟩ := (plE_iff _).1 h2; exact absurd hb (v.p x hx)⟩
    · rw [if_neg h2, rdE_iff]
      exact ⟨fun h => ⟨by omega, by omega, fun x hx hb => h2 ((plE_iff _).2 ⟨x, hx, hb⟩), h⟩, fun v => v.r⟩
def Pk (p : T_Place) : Prop := -60 ≤ p.1 ∧ p.1 ≤ 60
def Bk (r : T_Road) : Prop := (1 ≤ r.2.2.1 ∧ r.2.2.1 ≤ 400) ∧ (4 ≤ r.2.2.2.1 ∧ r.2.2.2.1 ≤ 30) ∧ (1 ≤ r.2.2.2.2.2.2.1.1 ∧ r.2.2.2.2.2.2.1.1 ≤ r.2.2.2.2.2.2.1.2 ∧ r.2.2.2.2.2.2.1.2 ≤ 30) ∧ (-300 ≤ r.2.2.2.2.2.2.2.1 ∧ r.2.2.2.2.2.2.2.1 ≤ r.2.2.2.2.2.2.2.2 ∧ r.2.2.2.2.2.2.2.2 ≤ 400)
def Rk (n : Int) (r : T_Road) : Prop := (0 ≤ r.1 ∧ r.1 < n) ∧ (0 ≤ r.2.1 ∧ r.2.1 < n) ∧ r.1 ≠ r.2.1 ∧ Bk r
structure Mk (m : T_Mine) : Prop where
  n1 : 2 ≤ m.1.length
  n2 : m.1.length ≤ 7
  r2 : m.2.length ≤ 8
  p : ∀ x, x ∈ m.1 → Pk x
  r : ∀ x, x ∈ m.2 → Rk m.1.length x
theorem Bk.rng {r : T_Road} (h : Bk r) : ¬ rngE r := by
  obtain ⟨h1, h2, h3, h4⟩ := h
  unfold rngE spanO
  omega
theorem Rk.ok {n : Int} {r : T_Road} (h : Rk n r) : ¬ endE n r ∧ ¬ rngE r := by
  obtain ⟨h1, h2, h3, h4⟩ := h
  exact ⟨by unfold endE; omega, h4.rng⟩
theorem mem_app {α : Type} {P : α → Prop} {l : List α} {a : α} (h : ∀ x, x ∈ l → P x) (ha : P a) : ∀ x, x ∈ l ++ [a] → P x := fun x hx => by
  rcases List.mem_append.1 hx with hx | hx
  · exact h x hx
  · rw [List.mem_singleton.1 hx]; exact ha
theorem road_spec {d : T_Codes} (hd : Cd d) (a b : Int) : ∃ r d', draw_Codes_Road 1267650600228229401496703205376 d a b = some (r, d') ∧ r.1 = a ∧ r.2.1 = b ∧ Bk r ∧ r.2.2.2.2.2.1 = false ∧ Cd d' := by
  unfold draw_Codes_Road
  obtain ⟨v1, d1, e1, a1, b1, hd1⟩ := range_spec (N := 1267650600228229401496703205376) (by omega) hd (a := 1) (b := 400) (by omega) (by omega) (by omega)
  rw [e1, bind_some']
  obtain ⟨v2, d2, e2, a2, b2, hd2⟩ := range_spec (N := 1267650600228229401496703205376) (by omega) hd1 (a := 4) (b := 30) (by omega) (by omega) (by omega)
  simp only
  rw [e2, bind_some']
  obtain ⟨v3, d3, e3, a3, b3, hd3⟩ := next_spec (N := 1267650600228229401496703205376) (by omega) hd2 (n := 4) (by omega)
  simp only
  rw [e3, bind_some']
  obtain ⟨v4, d4, e4, a4, b4, hd4⟩ := range_spec (N := 1267650600228229401496703205376) (by omega) hd3 (a := 1) (b := 20) (by omega) (by omega) (by omega)
  simp only
  rw [e4, bind_some']
  obtain ⟨v5, d5, e5, a5, b5, hd5⟩ := next_spec (N := 1267650600228229401496703205376) (by omega) hd4 (n := 3) (by omega)
  simp only
  rw [e5, bind_some']
  obtain ⟨v6, d6, e6, a6, b6, hd6⟩ := range_spec (N := 1267650600228229401496703205376) (by omega) hd5 (a := -300) (b := 300) (by omega) (by omega) (by omega)
  simp only
  rw [e6, bind_some']
  obtain ⟨v7, d7, e7, a7, b7, hd7⟩ := next_spec (N := 1267650600228229401496703205376) (by omega) hd6 (n := 20) (by omega)
  simp only
  rw [e7, bind_some']
  simp only
  rw [W_eq (n := v4 + v5) (by omega) (by omega), W_eq (n := v6 + v7) (by omega) (by omega)]
  exact ⟨_, _, rfl, rfl, rfl, ⟨⟨a1, b1⟩, ⟨a2, b2⟩, ⟨a4, by show v4 ≤ v4 + v5; omega, by show v4 + v5 ≤ 30; omega⟩, ⟨a6, by show v6 ≤ v6 + v7; omega, by show v6 + v7 ≤ 400; omega⟩⟩, rfl, hd7⟩
theorem mine2 {ps : List T_Place} (h1 : 2 ≤ ps.length) (h2 : ps.length ≤ 7) (hp : ∀ x, x ∈ ps → Pk x) : ∀ (k f : Nat) (d : T_Codes) (rs : List T_Road), k < f → k + rs.length ≤ 8 → Cd d → (∀ x, x ∈ rs → Rk ps.length x) →
    ∃ m d', draw_Codes_Mine_L2 1267650600228229401496703205376 f ps.length k d.1 d.2 ps rs = some (m, d') ∧ Mk m ∧ Cd d'
  | 0, f + 1, d, rs, hf, hk, hd, hr => by
    rw [draw_Codes_Mine_L2_succ, df (by omega)]
    exact ⟨(ps, rs), d, rfl, ⟨h1, h2, by show rs.length ≤ 8; omega, hp, hr⟩, hd⟩
  | k + 1, f + 1, d, rs, hf, hk, hd, hr => by
    rw [draw_Codes_Mine_L2_succ, dt (by omega)]
    obtain ⟨v1, d1, e1, a1, b1, hd1⟩ := next_spec (N := 1267650600228229401496703205376) (by omega) hd (n := (ps.length : Int)) (by omega)
    rw [show ((d.1, d.2) : T_Codes) = d from rfl, e1, bind_some']
    obtain ⟨v2, d2, e2, a2, b2, hd2⟩ := next_spec (N := 1267650600228229401496703205376) (by omega) hd1 (n := (ps.length : Int) - 1) (by omega)
    simp only
    rw [W_eq (n := (ps.length : Int) - 1) (by omega) (by omega), e2, bind_some', ef (by omega)]
    simp only
    rw [W_eq (n := v1 + 1) (by omega) (by omega), W_eq (n := v1 + 1 + v2) (by omega) (by omega)]
    have em : (v1 + 1 + v2).tmod ps.length = if v1 + 1 + v2 < ps.length then v1 + 1 + v2 else v1 + 1 + v2 - ps.length := by
      rw [Int.tmod_eq_emod_of_nonneg (by omega)]
      by_cases h : v1 + 1 + v2 < ps.length
      · rw [if_pos h, Int.emod_eq_of_lt (by omega) h]
      · rw [if_neg h, ← Int.sub_emod_right, Int.emod_eq_of_lt (by omega) (by omega)]
    obtain ⟨r, d3, e3, c1, c2, c3, c4, hd3⟩ := road_spec hd2 v1 ((v1 + 1 + v2).tmod ps.length)
    rw [e3, bind_some']
    obtain ⟨z, d4, e4, hd4⟩ := one_spec (N := 1267650600228229401496703205376) (by omega) hd3 (n := 6) (by omega)
    simp only
    rw [e4, bind_some', fitsB_true (by omega), cond_true]
    simp only
    rw [W_eq (n := ((k + 1 : Nat) : Int) - 1) (by omega) (by omega), show ((k + 1 : Nat) : Int) - 1 = (k : Int) by omega]
    refine mine2 h1 h2 hp k f d4 _ (by omega) (by rw [List.length_append, List.length_singleton]; omega) hd4 (mem_app hr ?_)
    rw [em] at c2
    refine ⟨⟨by show 0 ≤ r.1; omega, by show r.1 < _; omega⟩, ⟨by show 0 ≤ r.2.1; split at c2 <;> omega, by show r.2.1 < _; split at c2 <;> omega⟩, by show r.1 ≠ r.2.1; split at c2 <;> omega, c3⟩
theorem mine1 : ∀ (k f : Nat) (d : T_Codes) (ps : List T_Place), k < f → 1 ≤ ps.length → k + ps.length ≤ 7 → 2 ≤ k + ps.length → Cd d → (∀ x, x ∈ ps → Pk x) →
    ∃ m d', draw_Codes_Mine_L1 1267650600228229401496703205376 f k d.1 d.2 ps = some (m, d') ∧ Mk m ∧ Cd d'
  | 0, f + 1, d, ps, hf, h1, h2, h3, hd, hp => by
    rw [draw_Codes_Mine_L1_succ, df (by omega)]
    obtain ⟨v1, d1, e1, a1, b1, hd1⟩ := next_spec (N := 1267650600228229401496703205376) (by omega) hd (n := 9) (by omega)
    rw [show ((d.1, d.2) : T_Codes) = d from rfl, e1, bind_some']
    obtain ⟨k, rfl⟩ := Int.eq_ofNat_of_zero_le a1
    exact mine2 (by omega) (by omega) hp k 1267650600228229401496703205376 d1 [] (by omega) (by simp; omega) hd1 (fun x hx => by cases hx)
  | k + 1, f + 1, d, ps, hf, h1, h2, h3, hd, hp => by
    rw [draw_Codes_Mine_L1_succ, dt (by omega)]
    obtain ⟨v1, d1, e1, a1, b1, hd1⟩ := range_spec (N := 1267650600228229401496703205376) (by omega) hd (a := -60) (b := 60) (by omega) (by omega) (by omega)
    rw [show ((d.1, d.2) : T_Codes) = d from rfl, e1, bind_some']
    obtain ⟨z, d2, e2, hd2⟩ := one_spec (N := 1267650600228229401496703205376) (by omega) hd1 (n := 5) (by omega)
    simp only
    rw [e2, bind_some', fitsB_true (by omega), cond_true]
    simp only
    rw [W_eq (n := ((k + 1 : Nat) : Int) - 1) (by omega) (by omega), show ((k + 1 : Nat) : Int) - 1 = (k : Int) by omega]
    exact mine1 k f d2 _ (by omega) (by rw [List.length_append, List.length_singleton]; omega) (by rw [List.length_append, List.length_singleton]; omega) (by rw [List.length_append, List.length_singleton]; omega) hd2 (mem_app hp ⟨a1, b1⟩)
theorem mine_spec {d : T_Codes} (hd : Cd d) : ∃ m d', draw_Codes_Mine 1267650600228229401496703205376 d = some (m, d') ∧ Mk m ∧ Cd d' := by
  unfold draw_Codes_Mine
  obtain ⟨v1, d1, e1, a1, b1, hd1⟩ := next_spec (N := 1267650600228229401496703205376) (by omega) hd (n := 6) (by omega)
  rw [e1, bind_some']
  obtain ⟨k, rfl⟩ := Int.eq_ofNat_of_zero_le a1
  simp only
  rw [W_eq (by omega) (by omega), show 1 + (k : Int) = ((1 + k : Nat) : Int) by omega]
  exact mine1 (1 + k) 1267650600228229401496703205376 d1 [(0, true)] (by omega) (by simp) (by simp; omega) (by simp) hd1 (fun x hx => by rw [List.mem_singleton.1 hx]; exact ⟨by show (-60 : Int) ≤ 0; omega, by show (0 : Int) ≤ 60; omega⟩)
end Go.Proofs.YtipokcccpbcmeaaDoor
set_option linter.all false
namespace Go.Proofs.YtipokcccpbcmeaaDoor
open Go.Pv M
theorem copy_eq' {m : T_Mine} (h1 : m.1.length ≤ 100000) (h2 : m.2.length ≤ 100000) : ref01_Copy 1267650600228229401496703205376 m = some (m, ()) := by
  unfold ref01_Copy
  rw [fitsB_true (by omega), cond_true, fitsB_true (by omega), cond_true]
theorem clone_eq {m : T_Mine} (h1 : m.1.length ≤ 100000) (h2 : m.2.length ≤ 100000) : plan_clone 1267650600228229401496703205376 m = some (m, ()) := by
  unfold plan_clone
  rw [fitsB_true (by omega), cond_true, fitsB_true (by omega), cond_true]
theorem nt {a b : Int} {α : Type} {x y : α} (h : a ≠ b) : (bif a != b then x else y) = x := by rw [show (a != b) = true by simpa using h]; rfl
theorem nf {a b : Int} {α : Type} {x y : α} (h : a = b) : (bif a != b then x else y) = y := by rw [show (a != b) = false by simpa using h]; rfl
abbrev Res := T_Mine × Int
def no (e : Int) : Res := (([], []), e)
def fin0 (x : T_Mine) : Res := if chk x = 0 then (x, 0) else no (chk x)
def rest (r : T_Road) (a b : Int) : T_Road := (r.1, (r.2.1, (r.2.2.1, (r.2.2.2.1, (r.2.2.2.2.1, (r.2.2.2.2.2.1, ((a, b), r.2.2.2.2.2.2.2)))))))
def lift (r : T_Road) (a b : Int) : T_Road := (r.1, (r.2.1, (r.2.2.1, (r.2.2.2.1, (r.2.2.2.2.1, (r.2.2.2.2.2.1, (r.2.2.2.2.2.2.1, (a, b))))))))
def clos (r : T_Road) (c : Bool) : T_Road := (r.1, (r.2.1, (r.2.2.1, (r.2.2.2.1, (r.2.2.2.2.1, (c, r.2.2.2.2.2.2))))))
def roadE (e : T_Edit) (r : T_Road) : Option T_Road := if e.1 = 5 then some (rest r e.2.2.2.2.1 e.2.2.2.2.2) else if e.1 = 6 then some (lift r e.2.2.2.2.1 e.2.2.2.2.2) else if r.2.2.2.2.2.1 = (e.1 == 3) then none else some (clos r (e.1 == 3))
def appl (m : T_Mine) (e : T_Edit) : Res :=
  if chk m ≠ 0 then no (chk m)
  else if e.1 = 1 then fin0 (m.1 ++ [e.2.1], m.2)
  else if e.1 = 2 then fin0 (m.1, m.2 ++ [e.2.2.1])
  else if 3 ≤ e.1 ∧ e.1 ≤ 6 then
    if e.2.2.2.1 < 0 ∨ e.2.2.2.1 ≥ m.2.length then no 4
    else match roadE e (m.2.getD e.2.2.2.1.toNat D_Road) with
      | none => no 10
      | some r => fin0 (m.1, m.2.set e.2.2.2.1.toNat r)
  else no 5
theorem fin_eq (x : T_Mine) : (Option.bind (plan_Check 1267650600228229401496703205376 x) fun r => bif (r != 0) then some (([], []), r) else some (x, 0)) = some (fin0 x) := by
  rw [check_eq, bind_some']
  unfold fin0 no
  by_cases h : chk x = 0
  · rw [nf h, if_pos h]
  · rw [nt h, if_neg h]
theorem rfin_eq (x : T_Mine) : ref01_Apply_J3 1267650600228229401496703205376 1267650600228229401496703205376 x.1 x.2 = some (fin0 x) := by
  rw [ref01_Apply_J3_eq, rcheck_eq, bind_some']
  unfold fin0 no
  by_cases h : chk (x.1, x.2) = 0
  · rw [nf h, if_pos h]
  · rw [nt h, if_neg h]
theorem beqB {a b : Bool} {α : Type} {x y : α} (h : a = b) : (bif a == b then x else y) = x := by rw [h]; simp
theorem bneB {a b : Bool} {α : Type} {x y : α} (h : a ≠ b) : (bif a == b then x else y) = y := by rw [show (a == b) = false by simpa using h]; rfl
theorem apply_eq (m : T_Mine) (e : T_Edit) : plan_Apply 1267650600228229401496703205376 m e = some (appl m e) := by
  obtain ⟨k, ⟨p1, p2⟩, ⟨b1, b2, b3, b4, b5, b6, ⟨b7, b8⟩, b9, b10⟩, rd, s1, s2⟩ := e
  unfold plan_Apply appl
  rw [check_eq, bind_some']
  by_cases h0 : chk m = 0
  · have v := (chk_zero m).1 h0
    have h1 := v.n
    have h2 := v.k
    rw [nf h0, if_neg (by simpa using h0), clone_eq (by omega) (by omega), bind_some']
    simp only
    have road : ∀ kk : Int, kk = k → 3 ≤ k → k ≤ 6 → plan_Apply_J1 1267650600228229401496703205376 1267650600228229401496703205376 true k p1 p2 b1 b2 b3 b4 b5 b6 b7 b8 b9 b10 rd s1 s2 m.1 m.2 =
        some (if rd < 0 ∨ rd ≥ (m.2.length : Int) then no 4 else match roadE (k, (p1, p2), (b1, b2, b3, b4, b5, b6, (b7, b8), b9, b10), rd, s1, s2) (m.2.getD rd.toNat D_Road) with
          | none => no 10
          | some r => fin0 (m.1, m.2.set rd.toNat r)) := by
      intro kk _ k3 k6
      rw [plan_Apply_J1_eq, cond_true]
      by_cases g1 : rd < 0
      · rw [dt g1, if_pos (.inl g1)]; rfl
      rw [df g1]
      by_cases g2 : rd ≥ (m.2.length : Int)
      · rw [dt g2, if_pos (.inr g2)]; rfl
      rw [df g2, it (by omega), if_neg (show ¬ (rd < 0 ∨ rd ≥ (m.2.length : Int)) by omega)]
      by_cases g5 : k = 5
      · rw [et g5]
        simp only [roadE, if_pos g5]
        exact fin_eq _
      rw [ef g5]
      by_cases g6 : k = 6
      · rw [et g6]
        simp only [roadE, if_neg g5, if_pos g6]
        exact fin_eq _
      rw [ef g6]
      simp only [roadE, if_neg g5, if_neg g6]
      by_cases gc : (m.2.getD rd.toNat D_Road).2.2.2.2.2.1 = (k == 3)
      · rw [beqB gc, if_pos gc]; rfl
      · rw [bneB gc, if_neg gc]
        exact fin_eq _
    by_cases k1 : k = 1
    · rw [et k1, if_pos k1, fitsB_true (by omega), cond_true]
      exact fin_eq _
    rw [ef k1, if_neg k1]
    by_cases k2 : k = 2
    · rw [et k2, if_pos k2, fitsB_true (by omega), cond_true]
      exact fin_eq _
    rw [ef k2, if_neg k2]
    by_cases k3 : k = 3
    · rw [et k3, road k rfl (by omega) (by omega), if_pos (show 3 ≤ k ∧ k ≤ 6 by omega)]
    rw [ef k3]
    by_cases k4 : k = 4
    · rw [et k4, road k rfl (by omega) (by omega), if_pos (show 3 ≤ k ∧ k ≤ 6 by omega)]
    rw [ef k4]
    by_cases k5 : k = 5
    · rw [et k5, road k rfl (by omega) (by omega), if_pos (show 3 ≤ k ∧ k ≤ 6 by omega)]
    rw [ef k5]
    by_cases k6 : k = 6
    · rw [eq2 k6, road k rfl (by omega) (by omega), if_pos (show 3 ≤ k ∧ k ≤ 6 by omega)]
    · rw [ne2 k6, plan_Apply_J1_eq, cond_false, if_neg (show ¬ (3 ≤ k ∧ k ≤ 6) by omega)]; rfl
  · rw [nt h0, if_pos h0]; rfl
theorem rapply_eq (m : T_Mine) (e : T_Edit) : ref01_Apply 1267650600228229401496703205376 m e = some (appl m e) := by
  obtain ⟨k, ⟨p1, p2⟩, ⟨b1, b2, b3, b4, b5, b6, ⟨b7, b8⟩, b9, b10⟩, rd, s1, s2⟩ := e
  unfold ref01_Apply appl
  rw [rcheck_eq, bind_some']
  by_cases h0 : chk m = 0
  · have v := (chk_zero m).1 h0
    have h1 := v.n
    have h2 := v.k
    rw [nf h0, if_neg (by simpa using h0)]
    simp only
    by_cases k0 : k < 1
    · rw [dt k0, if_neg (show ¬ k = 1 by omega), if_neg (show ¬ k = 2 by omega), if_neg (show ¬ (3 ≤ k ∧ k ≤ 6) by omega)]; rfl
    rw [df k0]
    by_cases k7 : k > 6
    · rw [dt k7, if_neg (show ¬ k = 1 by omega), if_neg (show ¬ k = 2 by omega), if_neg (show ¬ (3 ≤ k ∧ k ≤ 6) by omega)]; rfl
    rw [df k7, ref01_Apply_J1_eq]
    by_cases k3 : k ≥ 3
    · rw [dt k3, if_neg (show ¬ k = 1 by omega), if_neg (show ¬ k = 2 by omega), if_pos (show 3 ≤ k ∧ k ≤ 6 by omega)]
      by_cases g1 : rd < 0
      · rw [dt g1, if_pos (.inl g1)]; rfl
      rw [df g1]
      by_cases g2 : rd ≥ (m.2.length : Int)
      · rw [dt g2, if_pos (.inr g2)]; rfl
      rw [df g2, if_neg (show ¬ (rd < 0 ∨ rd ≥ (m.2.length : Int)) by omega), ref01_Apply_J2_eq, copy_eq' (by show m.1.length ≤ _; omega) (by show m.2.length ≤ _; omega), bind_some', ef (by omega), ef (by omega)]
      simp only
      by_cases c3 : k = 3
      · rw [et c3, it (by omega)]
        simp only [roadE]
        rw [if_neg (show ¬ k = 5 by omega), if_neg (show ¬ k = 6 by omega)]
        by_cases gc : (m.2.getD rd.toNat D_Road).2.2.2.2.2.1 = (k == 3)
        · rw [beqB gc, if_pos gc]; rfl
        · rw [bneB gc, if_neg gc, it (by omega)]
          exact rfin_eq (_, _)
      rw [ef c3]
      by_cases c4 : k = 4
      · rw [et c4, it (by omega)]
        simp only [roadE]
        rw [if_neg (show ¬ k = 5 by omega), if_neg (show ¬ k = 6 by omega)]
        by_cases gc : (m.2.getD rd.toNat D_Road).2.2.2.2.2.1 = (k == 3)
        · rw [beqB gc, if_pos gc]; rfl
        · rw [bneB gc, if_neg gc, it (by omega)]
          exact rfin_eq (_, _)
      rw [ef c4]
      by_cases c5 : k = 5
      · rw [et c5, it (by omega)]
        simp only [roadE, if_pos c5]
        exact rfin_eq (_, _)
      · rw [ef c5, it (by omega)]
        simp only [roadE, if_neg c5]
        rw [if_pos (show k = 6 by omega)]
        exact rfin_eq (_, _)
    · rw [df k3, ref01_Apply_J2_eq, copy_eq' (by show m.1.length ≤ _; omega) (by show m.2.length ≤ _; omega), bind_some']
      simp only
      by_cases c1 : k = 1
      · rw [et c1, if_pos c1, fitsB_true (by omega), cond_true]
        exact rfin_eq (_, _)
      · rw [ef c1, if_neg c1, et (show k = 2 by omega), if_pos (show k = 2 by omega), fitsB_true (by omega), cond_true]
        exact rfin_eq (_, _)
  · rw [nt h0, if_pos h0]; rfl
theorem same_road (ps qs : List T_Place) {rs : List T_Road} (h2 : rs.length ≤ 900) : ∀ (j f k : Nat), j + k = rs.length → j < f → ref01_Same_L2 1267650600228229401496703205376 f k ps rs qs rs = some true
  | 0, f + 1, k, hk, hf => by rw [ref01_Same_L2_succ, df (by omega)]
  | j + 1, f + 1, k, hk, hf => by
    rw [ref01_Same_L2_succ, dt (by omega), it (by omega)]
    simp only
    rw [it (by omega), W_succ (by omega)]
    simp only [beq_self_eq_true, Bool.and_self, Bool.not_true, cond_false]
    exact same_road ps qs h2 j f (k + 1) (by omega) (by omega)
theorem same_place {ps : List T_Place} {rs : List T_Road} (h1 : ps.length ≤ 900) (h2 : rs.length ≤ 900) : ∀ (j f k : Nat), j + k = ps.length → j < f → ref01_Same_L1 1267650600228229401496703205376 f k ps rs ps rs = some true
  | 0, f + 1, k, hk, hf => by
    rw [ref01_Same_L1_succ, df (by omega)]
    exact same_road ps ps h2 rs.length 1267650600228229401496703205376 0 rfl (by omega)
  | j + 1, f + 1, k, hk, hf => by
    rw [ref01_Same_L1_succ, dt (by omega), it (by omega), it (by omega), W_succ (by omega)]
    simp only [beq_self_eq_true, Bool.and_self, Bool.not_true, cond_false]
    exact same_place h1 h2 j f (k + 1) (by omega) (by omega)
theorem same_refl {m : T_Mine} (h1 : m.1.length ≤ 900) (h2 : m.2.length ≤ 900) : ref01_Same 1267650600228229401496703205376 m m = some true := by
  unfold ref01_Same
  rw [nf rfl, nf rfl]
  exact same_place h1 h2 m.1.length 1267650600228229401496703205376 0 rfl (by omega)
end Go.Proofs.YtipokcccpbcmeaaDoor
set_option linter.all false
namespace Go.Proofs.YtipokcccpbcmeaaDoor
open Go.Pv M
theorem bt {b : Bool} {α : Type} {x y : α} (h : b = true) : (bif b then x else y) = x := by rw [h]; rfl
theorem bf {b : Bool} {α : Type} {x y : α} (h : b = false) : (bif b then x else y) = y := by rw [h]; rfl
def dg (c : UInt8) : Prop := 48 ≤ c.toNat ∧ c.toNat ≤ 57
def val : List UInt8 → Nat → Nat
  | [], a => a
  | c :: l, a => val l (a * 10 + (c.toNat - 48))
theorem val_app : ∀ (l m : List UInt8) (a : Nat), val (l ++ m) a = val m (val l a)
  | [], _, _ => rfl
  | c :: l, m, a => val_app l m _
theorem toNat_of {n : Nat} (h : n < 256) : (UInt8.ofNat n).toNat = n := by simp [UInt8.toNat_ofNat']; omega
theorem dg_of {n : Nat} (h : n < 10) : dg (UInt8.ofNat (48 + n)) := by unfold dg; rw [toNat_of (by omega)]; omega
theorem digs_spec : ∀ (f u : Nat), u < 10 ^ f → 0 < f → (∀ c, c ∈ digs f u → dg c) ∧ val (digs f u) 0 = u ∧ 0 < (digs f u).length ∧ (∀ k, 0 < k → u < 10 ^ k → (digs f u).length ≤ k) ∧ (0 < u → (digs f u).getD 0 0 ≠ 48)
  | f + 1, u, hu, _ => by
    rw [digs]
    by_cases h1 : u < 10
    · rw [dt h1]
      refine ⟨fun c hc => by rw [List.mem_singleton.1 hc]; exact dg_of h1, ?_, by simp, fun k hk _ => by simp; omega, fun h0 e => ?_⟩
      · show 0 * 10 + ((UInt8.ofNat (48 + u)).toNat - 48) = u
        rw [toNat_of (by omega)]; omega
      · have e : UInt8.ofNat (48 + u) = 48 := e
        have := congrArg UInt8.toNat e
        rw [toNat_of (by omega)] at this
        have h48 : (48 : UInt8).toNat = 48 := rfl
        omega
    · rw [df h1]
      have hf : 0 < f := by
        rcases Nat.eq_zero_or_pos f with rfl | h
        · simp at hu; omega
        · exact h
      have hd : u / 10 < 10 ^ f := Nat.div_lt_of_lt_mul (by rw [Nat.pow_succ, Nat.mul_comm] at hu; exact hu)
      obtain ⟨g1, g2, g3, g4, g5⟩ := digs_spec f (u / 10) hd hf
      have hm : u % 10 < 10 := Nat.mod_lt _ (by omega)
      refine ⟨fun c hc => ?_, ?_, by simp, fun k hk hlt => ?_, fun h0 e => ?_⟩
      · rcases List.mem_append.1 hc with hc | hc
        · exact g1 c hc
        · rw [List.mem_singleton.1 hc]; exact dg_of hm
      · rw [val_app, g2]
        show u / 10 * 10 + ((UInt8.ofNat (48 + u % 10)).toNat - 48) = u
        rw [toNat_of (by omega)]; omega
      · rw [List.length_append, List.length_singleton]
        have hk1 : 1 < k := by
          rcases Nat.lt_or_ge 1 k with h | h
          · exact h
          · have : k = 1 := by omega
            subst this; simp at hlt; omega
        have hk2 : u / 10 < 10 ^ (k - 1) := by
          obtain ⟨k', rfl⟩ : ∃ k', k = k' + 1 := ⟨k - 1, by omega⟩
          rw [Nat.pow_succ] at hlt
          exact Nat.div_lt_of_lt_mul (by rw [Nat.mul_comm]; exact hlt)
        have := g4 (k - 1) (by omega) hk2
        omega
      · have e' : (digs f (u / 10) ++ [UInt8.ofNat (48 + u % 10)]).getD 0 0 = (digs f (u / 10)).getD 0 0 := by
          rw [List.getD_eq_getElem?_getD, List.getElem?_append_left g3, ← List.getD_eq_getElem?_getD]
        rw [e'] at e
        exact g5 (by omega) e
theorem getD0_app {l m : List UInt8} (h : 0 < l.length) : (l ++ m).getD 0 0 = l.getD 0 0 := by
  rw [List.getD_eq_getElem?_getD, List.getElem?_append_left h, ← List.getD_eq_getElem?_getD]
theorem val_pos : ∀ (l : List UInt8) (a : Nat), a ≤ val l a
  | [], a => Nat.le_refl _
  | c :: l, a => by
    have := val_pos l (a * 10 + (c.toNat - 48))
    rw [val]; omega
theorem val_lt : ∀ (l : List UInt8) (a : Nat), (∀ c, c ∈ l → dg c) → val l a < (a + 1) * 10 ^ l.length
  | [], a, _ => by simp [val]
  | c :: l, a, h => by
    have h1 := h c (List.mem_cons_self ..)
    have h2 := val_lt l (a * 10 + (c.toNat - 48)) fun d hd => h d (List.mem_cons_of_mem _ hd)
    unfold dg at h1
    rw [val, List.length_cons, Nat.pow_succ]
    have h3 : (a * 10 + (c.toNat - 48) + 1) ≤ (a + 1) * 10 := by omega
    calc _ < (a * 10 + (c.toNat - 48) + 1) * 10 ^ l.length := h2
      _ ≤ (a + 1) * 10 * 10 ^ l.length := Nat.mul_le_mul_right _ h3
      _ = (a + 1) * (10 ^ l.length * 10) := by rw [Nat.mul_assoc, Nat.mul_comm 10]
theorem digs_back : ∀ (n : Nat) (l : List UInt8) (f : Nat), l.length = n → 0 < n → n ≤ f → (∀ c, c ∈ l → dg c) → (l.getD 0 0 ≠ 48 ∨ l.length = 1) → digs f (val l 0) = l
  | n, l, 0, hn, h0, hf, _, _ => by omega
  | 0, l, f + 1, hn, h0, hf, _, _ => by omega
  | n + 1, l, f + 1, hn, h0, hf, hd, hz => by
    obtain ⟨m, c, rfl⟩ : ∃ m c, l = m ++ [c] := ⟨l.dropLast, l.getLast (by intro e; simp [e] at hn), (List.dropLast_concat_getLast _).symm⟩
    have hc := hd c (by simp)
    unfold dg at hc
    have hm : m.length = n := by simpa using hn
    have hcc : UInt8.ofNat (48 + (c.toNat - 48)) = c := by
      rw [show 48 + (c.toNat - 48) = c.toNat by omega]; exact UInt8.ofNat_toNat
    rw [digs, val_app]
    show (bif decide (val m 0 * 10 + (c.toNat - 48) < 10) then [UInt8.ofNat (48 + (val m 0 * 10 + (c.toNat - 48)))] else digs f ((val m 0 * 10 + (c.toNat - 48)) / 10) ++ [UInt8.ofNat (48 + (val m 0 * 10 + (c.toNat - 48)) % 10)]) = _
    by_cases hn0 : n = 0
    · have : m = [] := List.length_eq_zero_iff.1 (by omega)
      subst this
      have hx : val [] 0 * 10 + (c.toNat - 48) = c.toNat - 48 := by simp [val]
      rw [hx, dt (by omega), hcc]; rfl
    · have hm0 : 0 < m.length := by omega
      have hz' : m.getD 0 0 ≠ 48 := by
        rcases hz with h | h
        · rw [getD0_app hm0] at h; exact h
        · rw [List.length_append, List.length_singleton] at h; omega
      have hv : 1 ≤ val m 0 := by
        cases m with
        | nil => simp at hm0
        | cons d m =>
          have h1 := hd d (by simp)
          unfold dg at h1
          have h2 : d ≠ 48 := hz'
          have h3 : d.toNat ≠ 48 := fun e => h2 (UInt8.toNat_inj.1 e)
          have := val_pos m (0 * 10 + (d.toNat - 48))
          rw [val]; omega
      rw [df (by omega), show (val m 0 * 10 + (c.toNat - 48)) / 10 = val m 0 by omega, show (val m 0 * 10 + (c.toNat - 48)) % 10 = c.toNat - 48 by omega, hcc, digs_back n m f hm (by omega) (by omega) (fun d h => hd d (by simp [h])) (.inl hz')]
def Sh (v : Int) : Prop := -1000000000000000000 < v ∧ v < 1000000000000000000
def isNum (s : List UInt8) (v : Int) : Prop := Sh v ∧ s = itoaM v
theorem itoa_form {v : Int} (h : Sh v) : ∃ d : List UInt8, itoaM v = (if v < 0 then [45] else []) ++ d ∧ (∀ c, c ∈ d → dg c) ∧ val d 0 = v.natAbs ∧ 1 ≤ d.length ∧ d.length ≤ 18 ∧ (d.getD 0 0 = 48 → v = 0 ∧ d = [48]) := by
  unfold Sh at h
  have hn : v.natAbs < 10 ^ 18 := by omega
  obtain ⟨g1, g2, g3, g4, g5⟩ := digs_spec 20 v.natAbs (Nat.lt_of_lt_of_le hn (by decide)) (by omega)
  have hz : (digs 20 v.natAbs).getD 0 0 = 48 → v = 0 ∧ digs 20 v.natAbs = [48] := fun e => by
    rcases Nat.eq_zero_or_pos v.natAbs with h0 | h0
    · rw [h0]; exact ⟨by omega, by decide⟩
    · exact absurd e (g5 h0)
  unfold itoaM
  by_cases h0 : v < 0
  · rw [decide_eq_true h0, cond_true, if_pos h0]
    exact ⟨_, rfl, g1, g2, g3, g4 18 (by omega) hn, hz⟩
  · rw [decide_eq_false h0, cond_false, if_neg h0, show v.toNat = v.natAbs by omega]
    exact ⟨_, rfl, g1, g2, g3, g4 18 (by omega) hn, hz⟩
theorem itoa_some' (N : Nat) {v : Int} (h0 : -9223372036854775808 ≤ v) (h1 : v ≤ 9223372036854775807) : strconv_Itoa N v = some (itoaM v) := by
  unfold strconv_Itoa; rw [dt ⟨h0, h1⟩]
theorem trim_eq (N : Nat) (s : List UInt8) : strings_TrimPrefix N s [45] = some (if s.head? = some 45 then s.drop 1 else s) := by
  unfold strings_TrimPrefix
  cases s with
  | nil => rfl
  | cons c s =>
    have e : [45].isPrefixOf (c :: s) = (c == 45) := by
      simp only [List.isPrefixOf, Bool.and_true]
      by_cases h : c = 45
      · subst h; rfl
      · rw [beq_eq_false_iff_ne.2 h, beq_eq_false_iff_ne.2 (Ne.symm h)]
    rw [e]
    by_cases h : c = 45
    · subst h; simp
    · rw [beq_eq_false_iff_ne.2 h]; simp [h]
theorem u8m {n : Nat} (h0 : 48 ≤ n) (h1 : n < 256) : IntKind.u8.wrap ((n : Int) - 48) = ((n - 48 : Nat) : Int) := by
  have e : ((n : Int) - 48) = ((n - 48 : Nat) : Int) := by omega
  rw [e, IntKind.wrap_u8]; omega
theorem np_loop {s d : List UInt8} (hd : d.length ≤ 18) : ∀ (j f k a : Nat), j + k = d.length → j < f → a < 10 ^ k → ((∀ c, c ∈ d.drop k → dg c) → survey_number_L1 1267650600228229401496703205376 f s d a k = (bif decide ((d.length : Int) < (s.length : Int)) then some (W (0 - (val (d.drop k) a : Int)), true) else some ((val (d.drop k) a : Int), true))) ∧ ((∃ c, c ∈ d.drop k ∧ ¬ dg c) → survey_number_L1 1267650600228229401496703205376 f s d a k = some (0, false))
  | 0, f + 1, k, a, hk, hf, ha => by
    rw [drop_nil (by omega), survey_number_L1_succ, df (by omega)]
    exact ⟨fun _ => rfl, fun ⟨c, hc, _⟩ => by cases hc⟩
  | j + 1, f + 1, k, a, hk, hf, ha => by
    have hkl : k < d.length := by omega
    rw [drop_cons 0 hkl, survey_number_L1_succ, dt (by omega), it (by omega), Int.toNat_natCast]
    have hp : 10 ^ k ≤ 10 ^ 17 := Nat.pow_le_pow_right (by decide) (by omega)
    by_cases h1 : 48 ≤ (d.getD k 0).toNat
    · rw [df (by omega), it (by omega)]
      by_cases h2 : (d.getD k 0).toNat ≤ 57
      · have hu : (d.getD k 0).toNat < 256 := by omega
        rw [df (by omega), it (by omega), u8m h1 hu, W_eq (n := (a : Int) * 10) (by omega) (by omega), W_eq (n := (((d.getD k 0).toNat - 48 : Nat) : Int)) (by omega) (by omega), W_eq (by omega) (by omega), W_succ (by omega), show ((a : Int) * 10 + (((d.getD k 0).toNat - 48 : Nat) : Int)) = ((a * 10 + ((d.getD k 0).toNat - 48) : Nat) : Int) by omega]
        have ih := np_loop (s := s) hd j f (k + 1) (a * 10 + ((d.getD k 0).toNat - 48)) (by omega) (by omega) (by rw [Nat.pow_succ]; omega)
        refine ⟨fun h => ?_, fun ⟨c, hc, hn⟩ => ?_⟩
        · rw [ih.1 fun c hc => h c (List.mem_cons_of_mem _ hc)]; rfl
        · rcases List.mem_cons.1 hc with rfl | hc
          · exact absurd ⟨h1, h2⟩ hn
          · exact ih.2 ⟨c, hc, hn⟩
      · rw [dt (by omega)]
        exact ⟨fun h => absurd (h _ (List.mem_cons_self ..)).2 h2, fun _ => rfl⟩
    · rw [dt (by omega)]
      exact ⟨fun h => absurd (h _ (List.mem_cons_self ..)).1 h1, fun _ => rfl⟩
theorem nr_loop {s d : List UInt8} (hd : d.length ≤ 18) : ∀ (j f k a : Nat), j + k = d.length → j < f → a < 10 ^ k → ((∀ c, c ∈ d.drop k → dg c) → ref02_number_L1 1267650600228229401496703205376 f s d a k = (bif decide ((d.length : Int) < (s.length : Int)) then (Option.bind (strconv_Itoa 1267650600228229401496703205376 (W (0 - (val (d.drop k) a : Int)))) fun r => some (W (0 - (val (d.drop k) a : Int)), r == s)) else Option.bind (strconv_Itoa 1267650600228229401496703205376 (val (d.drop k) a : Int)) fun r => some ((val (d.drop k) a : Int), r == s))) ∧ ((∃ c, c ∈ d.drop k ∧ ¬ dg c) → ref02_number_L1 1267650600228229401496703205376 f s d a k = some (0, false))
  | 0, f + 1, k, a, hk, hf, ha => by
    rw [drop_nil (by omega), ref02_number_L1_succ, df (by omega)]
    exact ⟨fun _ => rfl, fun ⟨c, hc, _⟩ => by cases hc⟩
  | j + 1, f + 1, k, a, hk, hf, ha => by
    have hkl : k < d.length := by omega
    rw [drop_cons 0 hkl, ref02_number_L1_succ, dt (by omega), it (by omega), Int.toNat_natCast]
    have hp : 10 ^ k ≤ 10 ^ 17 := Nat.pow_le_pow_right (by decide) (by omega)
    by_cases h1 : 48 ≤ (d.getD k 0).toNat
    · rw [df (by omega), it (by omega)]
      by_cases h2 : (d.getD k 0).toNat ≤ 57
      · have hu : (d.getD k 0).toNat < 256 := by omega
        rw [df (by omega), it (by omega), u8m h1 hu, W_eq (n := 10 * (a : Int)) (by omega) (by omega), Int.mul_comm 10 (a : Int), W_eq (n := (((d.getD k 0).toNat - 48 : Nat) : Int)) (by omega) (by omega), W_eq (by omega) (by omega), W_succ (by omega), show ((a : Int) * 10 + (((d.getD k 0).toNat - 48 : Nat) : Int)) = ((a * 10 + ((d.getD k 0).toNat - 48) : Nat) : Int) by omega]
        have ih := nr_loop (s := s) hd j f (k + 1) (a * 10 + ((d.getD k 0).toNat - 48)) (by omega) (by omega) (by rw [Nat.pow_succ]; omega)
        refine ⟨fun h => ?_, fun ⟨c, hc, hn⟩ => ?_⟩
        · rw [ih.1 fun c hc => h c (List.mem_cons_of_mem _ hc)]; rfl
        · rcases List.mem_cons.1 hc with rfl | hc
          · exact absurd ⟨h1, h2⟩ hn
          · exact ih.2 ⟨c, hc, hn⟩
      · rw [dt (by omega)]
        exact ⟨fun h => absurd (h _ (List.mem_cons_self ..)).2 h2, fun _ => rfl⟩
    · rw [dt (by omega)]
      exact ⟨fun h => absurd (h _ (List.mem_cons_self ..)).1 h1, fun _ => rfl⟩
def dig (s : List UInt8) : List UInt8 := if s.head? = some 45 then s.drop 1 else s
theorem dig_neg (d : List UInt8) : dig (45 :: d) = d := rfl
theorem dig_pos {d : List UInt8} (h : ∀ c, c ∈ d → dg c) (h0 : 1 ≤ d.length) : dig d = d := by
  cases d with
  | nil => simp at h0
  | cons c d =>
    have hc := h c (List.mem_cons_self ..)
    unfold dig
    rw [if_neg]
    intro e
    injection e with e
    subst e
    exact absurd hc.1 (by decide)
def okNum (s : List UInt8) : Prop := 1 ≤ (dig s).length ∧ (dig s).length ≤ 18 ∧ (∀ c, c ∈ dig s → dg c) ∧ ((dig s).getD 0 0 = 48 → s = [48])
def numV (s : List UInt8) : Int := if s.head? = some 45 then -(val (dig s) 0 : Int) else val (dig s) 0
theorem val18 {d : List UInt8} (h : d.length ≤ 18) (hd : ∀ c, c ∈ d → dg c) : val d 0 < 1000000000000000000 := by
  have h1 := val_lt d 0 hd
  have h2 : 10 ^ d.length ≤ 10 ^ 18 := Nat.pow_le_pow_right (by decide) h
  omega
theorem ok_isNum {s : List UInt8} (h : okNum s) : isNum s (numV s) := by
  obtain ⟨h1, h2, h3, h4⟩ := h
  have hv := val18 h2 h3
  unfold numV isNum Sh
  by_cases hs : s.head? = some 45
  · obtain ⟨d, rfl⟩ : ∃ d, s = 45 :: d := by
      cases s with
      | nil => cases hs
      | cons c s => injection hs with hs; exact ⟨s, by rw [hs]⟩
    rw [dig_neg] at h1 h2 h3 h4 hv
    rw [dig_neg, if_pos hs]
    have hz : d.getD 0 0 ≠ 48 := fun e => by have := h4 e; injection this with e1 e2; exact absurd e1 (by decide)
    have hb := digs_back d.length d 20 rfl (by omega) (by omega) h3 (.inl hz)
    have hp : 0 < val d 0 := by
      cases d with
      | nil => simp at h1
      | cons c d =>
        have hc := h3 c (by simp)
        unfold dg at hc
        have h5 : c ≠ 48 := hz
        have h6 : c.toNat ≠ 48 := fun e => h5 (UInt8.toNat_inj.1 e)
        have := val_pos d (0 * 10 + (c.toNat - 48))
        rw [val]; omega
    refine ⟨by omega, ?_⟩
    unfold itoaM
    rw [dt (by omega), show (-(val d 0 : Int)).natAbs = val d 0 by omega, hb]
  · have e : dig s = s := by unfold dig; rw [if_neg hs]
    rw [e] at h1 h2 h3 h4 hv
    rw [e, if_neg hs]
    have hz : s.getD 0 0 ≠ 48 ∨ s.length = 1 := by
      by_cases h5 : s.getD 0 0 = 48
      · right; rw [h4 h5]; rfl
      · exact .inl h5
    have hb := digs_back s.length s 20 rfl (by omega) (by omega) h3 hz
    refine ⟨by omega, ?_⟩
    unfold itoaM
    rw [df (by omega), Int.toNat_natCast, hb]
theorem isNum_ok {s : List UInt8} {v : Int} (h : isNum s v) : okNum s ∧ numV s = v := by
  obtain ⟨h0, rfl⟩ := h
  obtain ⟨d, e, g1, g2, g3, g4, g5⟩ := itoa_form h0
  by_cases hv : v < 0
  · rw [if_pos hv] at e
    have e : itoaM v = 45 :: d := e
    unfold okNum numV
    rw [e, dig_neg, if_pos (show (45 :: d).head? = some 45 from rfl)]
    exact ⟨⟨g3, g4, g1, fun h => by have := (g5 h).1; omega⟩, by omega⟩
  · rw [if_neg hv] at e
    have e : itoaM v = d := e
    have hh : d.head? ≠ some 45 := by
      cases d with
      | nil => simp at g3
      | cons c d =>
        have hc := g1 c (List.mem_cons_self ..)
        intro e
        injection e with e
        subst e
        exact absurd hc.1 (by decide)
    unfold okNum numV
    rw [e, dig_pos g1 g3, if_neg hh]
    exact ⟨⟨g3, g4, g1, fun h => (g5 h).2⟩, by omega⟩
theorem isNum_iff {s : List UInt8} : (∃ v, isNum s v) ↔ okNum s := ⟨fun ⟨_, h⟩ => (isNum_ok h).1, fun h => ⟨_, ok_isNum h⟩⟩
theorem dig_lt (s : List UInt8) : (dig s).length < s.length ↔ s.head? = some 45 := by
  unfold dig
  by_cases h : s.head? = some 45
  · rw [if_pos h, List.length_drop]
    cases s with
    | nil => cases h
    | cons c s => simp [h]
  · rw [if_neg h]; simp [h]
theorem trim_dig (N : Nat) (s : List UInt8) : strings_TrimPrefix N s [45] = some (dig s) := trim_eq N s
theorem getD0 (l : List UInt8) : l.getD (0 : Int).toNat 0 = l.getD 0 0 := rfl
theorem num_P {s : List UInt8} (h : okNum s) : survey_number 1267650600228229401496703205376 s = some (numV s, true) := by
  obtain ⟨h1, h2, h3, h4⟩ := h
  have hv := val18 h2 h3
  have key : survey_number_L1 1267650600228229401496703205376 1267650600228229401496703205376 s (dig s) 0 0 = some (numV s, true) := by
    have := (np_loop (s := s) h2 (dig s).length 1267650600228229401496703205376 0 0 rfl (by omega) (by simp)).1 h3
    rw [List.drop_zero] at this
    refine Eq.trans this ?_
    unfold numV
    by_cases hs : s.head? = some 45
    · rw [dt (by have := (dig_lt s).2 hs; omega), if_pos hs, W_eq (by omega) (by omega), Int.zero_sub]
    · rw [df (by intro e; exact hs ((dig_lt s).1 (by omega))), if_neg hs]
  unfold survey_number
  rw [trim_dig, bind_some', df (by omega), df (by omega), it (by omega), getD0]
  by_cases h5 : (dig s).getD 0 0 = 48
  · have e := h4 h5
    rw [bt (by rw [h5]; rfl), bf (by rw [e]; rfl), survey_number_J1_eq]
    exact key
  · rw [bf (by
      have : ((dig s).getD 0 0).toNat ≠ 48 := fun e => h5 (UInt8.toNat_inj.1 e)
      exact beq_eq_false_iff_ne.2 (by omega)), survey_number_J1_eq]
    exact key
theorem num_Pn {s : List UInt8} (h : ¬ okNum s) : ∃ x, survey_number 1267650600228229401496703205376 s = some (x, false) := by
  unfold survey_number
  rw [trim_dig, bind_some']
  by_cases h1 : 1 ≤ (dig s).length
  · rw [df (by omega)]
    by_cases h2 : (dig s).length ≤ 18
    · rw [df (by omega), it (by omega), getD0]
      have key : (¬ ∀ c, c ∈ dig s → dg c) → ∃ x, survey_number_L1 1267650600228229401496703205376 1267650600228229401496703205376 s (dig s) 0 0 = some (x, false) := fun hn => by
        have h3 : ∃ c, c ∈ (dig s).drop 0 ∧ ¬ dg c := by
          rw [List.drop_zero]
          exact Classical.byContradiction fun e => hn fun c hc => Classical.byContradiction fun e' => e ⟨c, hc, e'⟩
        exact ⟨0, (np_loop (s := s) h2 (dig s).length 1267650600228229401496703205376 0 0 rfl (by omega) (by simp)).2 h3⟩
      by_cases h5 : (dig s).getD 0 0 = 48
      · rw [bt (by rw [h5]; rfl)]
        by_cases e : s = [48]
        · exfalso
          refine h ⟨h1, h2, ?_, fun _ => e⟩
          subst e
          intro c hc
          rw [show c = 48 by simpa [dig] using hc]
          exact ⟨by decide, by decide⟩
        · rw [bt (by rw [beq_eq_false_iff_ne.2 e]; rfl)]
          exact ⟨0, rfl⟩
      · rw [bf (by
          have : ((dig s).getD 0 0).toNat ≠ 48 := fun e => h5 (UInt8.toNat_inj.1 e)
          exact beq_eq_false_iff_ne.2 (by omega)), survey_number_J1_eq]
        exact key fun h3 => h ⟨h1, h2, h3, fun e => absurd e h5⟩
    · rw [dt (by omega)]; exact ⟨0, rfl⟩
  · rw [dt (by omega)]; exact ⟨0, rfl⟩
theorem nr_end {s : List UInt8} (h2 : (dig s).length ≤ 18) (h3 : ∀ c, c ∈ dig s → dg c) : ref02_number 1267650600228229401496703205376 s = some (numV s, itoaM (numV s) == s) := by
  have hv := val18 h2 h3
  unfold ref02_number
  rw [trim_dig, bind_some', df (by omega)]
  have := (nr_loop (s := s) h2 (dig s).length 1267650600228229401496703205376 0 0 rfl (by omega) (by simp)).1 h3
  rw [List.drop_zero] at this
  refine Eq.trans this ?_
  unfold numV
  by_cases hs : s.head? = some 45
  · rw [dt (by have := (dig_lt s).2 hs; omega), if_pos hs, W_eq (by omega) (by omega), Int.zero_sub, itoa_some' _ (by omega) (by omega)]; rfl
  · rw [df (by intro e; exact hs ((dig_lt s).1 (by omega))), if_neg hs, itoa_some' _ (by omega) (by omega)]; rfl
theorem num_R {s : List UInt8} (h : okNum s) : ref02_number 1267650600228229401496703205376 s = some (numV s, true) := by
  rw [nr_end h.2.1 h.2.2.1, ← (ok_isNum h).2, beq_self_eq_true]
theorem num_Rn {s : List UInt8} (h : ¬ okNum s) : ∃ x, ref02_number 1267650600228229401496703205376 s = some (x, false) := by
  by_cases h2 : (dig s).length ≤ 18
  · by_cases h3 : ∀ c, c ∈ dig s → dg c
    · refine ⟨numV s, ?_⟩
      rw [nr_end h2 h3, beq_eq_false_iff_ne.2]
      intro e
      have hv := val18 h2 h3
      refine h (isNum_iff.1 ⟨numV s, ?_, e.symm⟩)
      unfold Sh numV
      split <;> omega
    · have h3 : ∃ c, c ∈ (dig s).drop 0 ∧ ¬ dg c := by
        rw [List.drop_zero]
        exact Classical.byContradiction fun e => h3 fun c hc => Classical.byContradiction fun e' => e ⟨c, hc, e'⟩
      unfold ref02_number
      rw [trim_dig, bind_some', df (by omega)]
      exact ⟨0, (nr_loop (s := s) h2 (dig s).length 1267650600228229401496703205376 0 0 rfl (by omega) (by simp)).2 h3⟩
  · unfold ref02_number
    rw [trim_dig, bind_some', dt (by omega)]
    exact ⟨0, rfl⟩
end Go.Proofs.YtipokcccpbcmeaaDoor
set_option linter.all false
namespace Go.Proofs.YtipokcccpbcmeaaDoor
open Go.Pv M
abbrev PL : List UInt8 := [112, 108, 97, 99, 101]
abbrev RO : List UInt8 := [114, 111, 97, 100]
abbrev CL : List UInt8 := [99, 108, 111, 115, 101]
abbrev OP : List UInt8 := [111, 112, 101, 110]
abbrev RE : List UInt8 := [114, 101, 115, 116]
abbrev LI : List UInt8 := [108, 105, 102, 116]
abbrev SU : List UInt8 := [115, 117, 114, 102, 97, 99, 101]
abbrev BE : List UInt8 := [98, 101, 108, 111, 119]
abbrev WA : List UInt8 := [119, 97, 108, 107]
abbrev MA : List UInt8 := [109, 97, 99, 104, 105, 110, 101]
abbrev SM : List UInt8 := [115, 117, 109]
theorem it2 {b : Bool} {α : Type} {x y : α} (h : b = true) : (bif b then x else y) = x := by rw [h]; rfl
def okAll (l : List (List UInt8)) : Prop := ∀ s, s ∈ l → okNum s
theorem okAll_cons {s : List UInt8} {l : List (List UInt8)} : okAll (s :: l) ↔ okNum s ∧ okAll l := ⟨fun h => ⟨h s (List.mem_cons_self ..), fun x hx => h x (List.mem_cons_of_mem _ hx)⟩, fun ⟨h1, h2⟩ x hx => by
  rcases List.mem_cons.1 hx with rfl | hx
  · exact h1
  · exact h2 x hx⟩
theorem nums_loop {l : List (List UInt8)} (hl : l.length ≤ 100) : ∀ (j f k : Nat) (out : List Int), j + k = l.length → j < f → out.length ≤ k → (okAll (l.drop k) → survey_numbers_L1 1267650600228229401496703205376 f l (l.length : Int) k out = some (out ++ (l.drop k).map numV, true)) ∧ (¬ okAll (l.drop k) → survey_numbers_L1 1267650600228229401496703205376 f l (l.length : Int) k out = some ([], false))
  | 0, f + 1, k, out, hk, hf, ho => by
    rw [drop_nil (by omega), survey_numbers_L1_succ, df (by omega)]
    exact ⟨fun _ => by simp, fun h => absurd (fun s hs => by cases hs) h⟩
  | j + 1, f + 1, k, out, hk, hf, ho => by
    rw [drop_cons [] (by omega : k < l.length), survey_numbers_L1_succ, dt (by omega), it (by omega), Int.toNat_natCast]
    by_cases h : okNum (l.getD k [])
    · rw [num_P h, bind_some', bnot_t rfl, fitsB_true (by omega), cond_true, W_succ (by omega)]
      have ih := nums_loop hl j f (k + 1) (out ++ [numV (l.getD k [])]) (by omega) (by omega) (by simp; omega)
      refine ⟨fun ha => ?_, fun ha => ih.2 fun h2 => ha (okAll_cons.2 ⟨h, h2⟩)⟩
      rw [ih.1 (okAll_cons.1 ha).2]; simp
    · obtain ⟨y, hy⟩ := num_Pn h
      rw [hy, bind_some', bnot_f rfl]
      exact ⟨fun ha => absurd (okAll_cons.1 ha).1 h, fun _ => rfl⟩
theorem nums_eq {l : List (List UInt8)} (hl : l.length ≤ 100) {n : Int} (hn : (l.length : Int) = n) : (okAll l → survey_numbers 1267650600228229401496703205376 l n = some (l.map numV, true)) ∧ (¬ okAll l → survey_numbers 1267650600228229401496703205376 l n = some ([], false)) := by
  have := nums_loop hl l.length 1267650600228229401496703205376 0 [] rfl (by omega) (Nat.zero_le _)
  rw [List.drop_zero] at this
  unfold survey_numbers
  rw [nf hn]
  exact ⟨fun h => (this.1 h).trans (by simp), this.2⟩
theorem nums_ne {l : List (List UInt8)} {n : Int} (hn : (l.length : Int) ≠ n) : survey_numbers 1267650600228229401496703205376 l n = some ([], false) := by
  unfold survey_numbers; rw [nt hn]
theorem rnums_loop {l : List (List UInt8)} (hl : l.length ≤ 100) : ∀ (j f k : Nat) (out : List Int), j + k = l.length → j < f → out.length ≤ k → (okAll (l.drop k) → ref02_numbers_L1 1267650600228229401496703205376 f l k out = some (out ++ (l.drop k).map numV, true)) ∧ (¬ okAll (l.drop k) → ref02_numbers_L1 1267650600228229401496703205376 f l k out = some ([], false))
  | 0, f + 1, k, out, hk, hf, ho => by
    rw [drop_nil (by omega), ref02_numbers_L1_succ, df (by omega)]
    exact ⟨fun _ => by simp, fun h => absurd (fun s hs => by cases hs) h⟩
  | j + 1, f + 1, k, out, hk, hf, ho => by
    rw [drop_cons [] (by omega : k < l.length), ref02_numbers_L1_succ, dt (by omega), it (by omega), Int.toNat_natCast]
    by_cases h : okNum (l.getD k [])
    · rw [num_R h, bind_some', bnot_t rfl, fitsB_true (by omega), cond_true, W_succ (by omega)]
      have ih := rnums_loop hl j f (k + 1) (out ++ [numV (l.getD k [])]) (by omega) (by omega) (by simp; omega)
      refine ⟨fun ha => ?_, fun ha => ih.2 fun h2 => ha (okAll_cons.2 ⟨h, h2⟩)⟩
      rw [ih.1 (okAll_cons.1 ha).2]; simp
    · obtain ⟨y, hy⟩ := num_Rn h
      rw [hy, bind_some', bnot_f rfl]
      exact ⟨fun ha => absurd (okAll_cons.1 ha).1 h, fun _ => rfl⟩
theorem rnums_eq {l : List (List UInt8)} (hl : l.length ≤ 100) : (okAll l → ref02_numbers 1267650600228229401496703205376 l = some (l.map numV, true)) ∧ (¬ okAll l → ref02_numbers 1267650600228229401496703205376 l = some ([], false)) := by
  have := rnums_loop hl l.length 1267650600228229401496703205376 0 [] rfl (by omega) (Nat.zero_le _)
  rw [List.drop_zero] at this
  unfold ref02_numbers
  exact ⟨fun h => (this.1 h).trans (by simp), this.2⟩
def eP (h : Int) (s : Bool) : T_Edit := (1, ((h, s), ((0, (0, (0, (0, (false, (false, ((0, 0), (0, 0)))))))), (0, (0, 0)))))
def eR (f t l a : Int) (w : Bool) (r1 r2 l1 l2 : Int) : T_Edit := (2, ((0, false), ((f, (t, (l, (a, (w, (false, ((r1, r2), (l1, l2)))))))), (0, (0, 0)))))
def eN (k r : Int) (a b : Int) : T_Edit := (k, ((0, false), ((0, (0, (0, (0, (false, (false, ((0, 0), (0, 0)))))))), (r, (a, b)))))
inductive PlE : T_Edit → List (List UInt8) → Prop
  | p (a : List UInt8) (s : Bool) (h : okNum a) : PlE (eP (numV a) s) [PL, a, if s then SU else BE]
  | r (a1 a2 a3 a4 b1 b2 b3 b4 : List UInt8) (w : Bool) (h : okAll [a1, a2, a3, a4]) (h' : okAll [b1, b2, b3, b4]) : PlE (eR (numV a1) (numV a2) (numV a3) (numV a4) w (numV b1) (numV b2) (numV b3) (numV b4)) [RO, a1, a2, a3, a4, if w then WA else MA, b1, b2, b3, b4]
  | c (a : List UInt8) (h : okNum a) : PlE (eN 3 (numV a) 0 0) [CL, a]
  | o (a : List UInt8) (h : okNum a) : PlE (eN 4 (numV a) 0 0) [OP, a]
  | s (a b c : List UInt8) (h : okAll [a, b, c]) : PlE (eN 5 (numV a) (numV b) (numV c)) [RE, a, b, c]
  | l (a b c : List UInt8) (h : okAll [a, b, c]) : PlE (eN 6 (numV a) (numV b) (numV c)) [LI, a, b, c]
def rdOK (e : T_Edit) (x : List UInt8) : Prop := survey_read 1267650600228229401496703205376 x = some (e, true) ∧ ref02_edit 1267650600228229401496703205376 x = some (e, true)
def rdNo (x : List UInt8) : Prop := (∃ y, survey_read 1267650600228229401496703205376 x = some (y, false)) ∧ ∃ y, ref02_edit 1267650600228229401496703205376 x = some (y, false)
abbrev NoE : T_Edit := (0, ((0, false), ((0, (0, (0, (0, (false, (false, ((0, 0), (0, 0)))))))), (0, (0, 0)))))
section
variable {x : List UInt8}
theorem sp_place {a b : List UInt8} (h : strings_Split 1267650600228229401496703205376 x [32] = some [PL, a, b]) : survey_read 1267650600228229401496703205376 x = bif (!(b == SU)) then (bif (!(b == BE)) then some (NoE, false) else Option.bind (survey_number 1267650600228229401496703205376 a) fun r => some (eP r.1 (b == SU), r.2)) else Option.bind (survey_number 1267650600228229401496703205376 a) fun r => some (eP r.1 (b == SU), r.2) := by
  unfold survey_read; rw [h]; kernel_rfl
theorem rp_place {a b : List UInt8} (h : strings_Split 1267650600228229401496703205376 x [32] = some [PL, a, b]) : ref02_edit 1267650600228229401496703205376 x = bif (b == SU) then (Option.bind (ref02_number 1267650600228229401496703205376 a) fun r => some (eP r.1 (b == SU), r.2)) else bif (b == BE) then (Option.bind (ref02_number 1267650600228229401496703205376 a) fun r => some (eP r.1 (b == SU), r.2)) else ref02_edit_J1 1267650600228229401496703205376 1267650600228229401496703205376 [PL, a, b] 0 0 false 0 0 0 0 false false 0 0 0 0 0 0 0 := by
  unfold ref02_edit; rw [h]; kernel_rfl
theorem r_J4 {w : List (List UInt8)} (h0 : 0 < w.length) (h1 : ¬ (w.getD 0 [] = RE ∧ w.length = 4)) (h2 : ¬ (w.getD 0 [] = LI ∧ w.length = 4)) : ref02_edit_J4 1267650600228229401496703205376 1267650600228229401496703205376 w 0 0 false 0 0 0 0 false false 0 0 0 0 0 0 0 = some (NoE, false) := by
  rw [ref02_edit_J4_eq, it (by omega)]
  have e0 : w.getD (0 : Int).toNat [] = w.getD 0 [] := rfl
  rw [e0]
  by_cases g1 : w.getD 0 [] = RE
  · rw [bt (by rw [g1]; rfl), bf (beq_eq_false_iff_ne.2 (by intro e; exact h1 ⟨g1, by omega⟩))]
  · rw [bf (beq_eq_false_iff_ne.2 g1), it (by omega)]
    by_cases g2 : w.getD 0 [] = LI
    · rw [bt (by rw [g2]; rfl), bf (beq_eq_false_iff_ne.2 (by intro e; exact h2 ⟨g2, by omega⟩))]
    · rw [bf (beq_eq_false_iff_ne.2 g2)]
theorem r_J3 {w : List (List UInt8)} (h0 : 0 < w.length) (h1 : ¬ (w.getD 0 [] = CL ∧ w.length = 2)) (h2 : ¬ (w.getD 0 [] = OP ∧ w.length = 2)) : ref02_edit_J3 1267650600228229401496703205376 1267650600228229401496703205376 w 0 0 false 0 0 0 0 false false 0 0 0 0 0 0 0 = ref02_edit_J4 1267650600228229401496703205376 1267650600228229401496703205376 w 0 0 false 0 0 0 0 false false 0 0 0 0 0 0 0 := by
  rw [ref02_edit_J3_eq, it (by omega)]
  have e0 : w.getD (0 : Int).toNat [] = w.getD 0 [] := rfl
  rw [e0]
  by_cases g1 : w.getD 0 [] = CL
  · rw [bt (by rw [g1]; rfl), bf (beq_eq_false_iff_ne.2 (by intro e; exact h1 ⟨g1, by omega⟩))]
  · rw [bf (beq_eq_false_iff_ne.2 g1), it (by omega)]
    by_cases g2 : w.getD 0 [] = OP
    · rw [bt (by rw [g2]; rfl), bf (beq_eq_false_iff_ne.2 (by intro e; exact h2 ⟨g2, by omega⟩))]
    · rw [bf (beq_eq_false_iff_ne.2 g2)]
theorem r_J1 {w : List (List UInt8)} (h0 : 0 < w.length) (h1 : ¬ (w.getD 0 [] = RO ∧ w.length = 10)) : ref02_edit_J1 1267650600228229401496703205376 1267650600228229401496703205376 w 0 0 false 0 0 0 0 false false 0 0 0 0 0 0 0 = ref02_edit_J3 1267650600228229401496703205376 1267650600228229401496703205376 w 0 0 false 0 0 0 0 false false 0 0 0 0 0 0 0 := by
  rw [ref02_edit_J1_eq, it (by omega)]
  have e0 : w.getD (0 : Int).toNat [] = w.getD 0 [] := rfl
  rw [e0]
  by_cases g1 : w.getD 0 [] = RO
  · rw [bt (by rw [g1]; rfl), bf (beq_eq_false_iff_ne.2 (by intro e; exact h1 ⟨g1, by omega⟩))]
  · rw [bf (beq_eq_false_iff_ne.2 g1)]
theorem r_0 {w : List (List UInt8)} (h : strings_Split 1267650600228229401496703205376 x [32] = some w) (h0 : 0 < w.length) (h1 : ¬ (w.getD 0 [] = PL ∧ w.length = 3)) : ref02_edit 1267650600228229401496703205376 x = ref02_edit_J1 1267650600228229401496703205376 1267650600228229401496703205376 w 0 0 false 0 0 0 0 false false 0 0 0 0 0 0 0 := by
  unfold ref02_edit
  rw [h, bind_some', it (by omega)]
  have e0 : w.getD (0 : Int).toNat [] = w.getD 0 [] := rfl
  rw [e0]
  by_cases g1 : w.getD 0 [] = PL
  · rw [bt (by rw [g1]; rfl), bf (beq_eq_false_iff_ne.2 (by intro e; exact h1 ⟨g1, by omega⟩))]
  · rw [bf (beq_eq_false_iff_ne.2 g1)]
theorem sp_road {a1 a2 a3 a4 k b1 b2 b3 b4 : List UInt8} (h : strings_Split 1267650600228229401496703205376 x [32] = some [RO, a1, a2, a3, a4, k, b1, b2, b3, b4]) : survey_read 1267650600228229401496703205376 x = bif (!(k == WA)) then (bif (!(k == MA)) then some (NoE, false) else survey_read_J1 1267650600228229401496703205376 1267650600228229401496703205376 [RO, a1, a2, a3, a4, k, b1, b2, b3, b4] 0 0 false 0 0 0 0 false false 0 0 0 0 0 0 0) else survey_read_J1 1267650600228229401496703205376 1267650600228229401496703205376 [RO, a1, a2, a3, a4, k, b1, b2, b3, b4] 0 0 false 0 0 0 0 false false 0 0 0 0 0 0 0 := by
  unfold survey_read; rw [h]; kernel_rfl
theorem sJ1_yes {a1 a2 a3 a4 k b1 b2 b3 b4 : List UInt8} (h : okAll [a1, a2, a3, a4]) (h' : okAll [b1, b2, b3, b4]) : survey_read_J1 1267650600228229401496703205376 1267650600228229401496703205376 [RO, a1, a2, a3, a4, k, b1, b2, b3, b4] 0 0 false 0 0 0 0 false false 0 0 0 0 0 0 0 = some (eR (numV a1) (numV a2) (numV a3) (numV a4) (k == WA) (numV b1) (numV b2) (numV b3) (numV b4), true) := by
  rw [survey_read_J1_eq, it2 (by kernel_rfl)]
  show Option.bind (survey_numbers 1267650600228229401496703205376 [a1, a2, a3, a4] 4) _ = _
  rw [(nums_eq (n := 4) (by simp) rfl).1 h, bind_some', it2 (by kernel_rfl)]
  show Option.bind (survey_numbers 1267650600228229401496703205376 [b1, b2, b3, b4] 4) _ = _
  rw [(nums_eq (n := 4) (by simp) rfl).1 h', bind_some']
  kernel_rfl
theorem sJ1_no {a1 a2 a3 a4 k b1 b2 b3 b4 : List UInt8} (h : ¬ (okAll [a1, a2, a3, a4] ∧ okAll [b1, b2, b3, b4])) : survey_read_J1 1267650600228229401496703205376 1267650600228229401496703205376 [RO, a1, a2, a3, a4, k, b1, b2, b3, b4] 0 0 false 0 0 0 0 false false 0 0 0 0 0 0 0 = some (NoE, false) := by
  rw [survey_read_J1_eq, it2 (by kernel_rfl)]
  show Option.bind (survey_numbers 1267650600228229401496703205376 [a1, a2, a3, a4] 4) _ = _
  by_cases g1 : okAll [a1, a2, a3, a4]
  · rw [(nums_eq (n := 4) (by simp) rfl).1 g1, bind_some', it2 (by kernel_rfl)]
    show Option.bind (survey_numbers 1267650600228229401496703205376 [b1, b2, b3, b4] 4) _ = _
    rw [(nums_eq (n := 4) (by simp) rfl).2 fun g2 => h ⟨g1, g2⟩, bind_some']
    rfl
  · rw [(nums_eq (n := 4) (by simp) rfl).2 g1, bind_some', it2 (by kernel_rfl)]
    show Option.bind (survey_numbers 1267650600228229401496703205376 [b1, b2, b3, b4] 4) _ = _
    by_cases g2 : okAll [b1, b2, b3, b4]
    · rw [(nums_eq (n := 4) (by simp) rfl).1 g2, bind_some']; rfl
    · rw [(nums_eq (n := 4) (by simp) rfl).2 g2, bind_some']; rfl
theorem rJ2_yes {a1 a2 a3 a4 k b1 b2 b3 b4 : List UInt8} (h : okAll [a1, a2, a3, a4]) (h' : okAll [b1, b2, b3, b4]) : ref02_edit_J2 1267650600228229401496703205376 1267650600228229401496703205376 [RO, a1, a2, a3, a4, k, b1, b2, b3, b4] 0 0 false 0 0 0 0 false false 0 0 0 0 0 0 0 = some (eR (numV a1) (numV a2) (numV a3) (numV a4) (k == WA) (numV b1) (numV b2) (numV b3) (numV b4), true) := by
  rw [ref02_edit_J2_eq, it2 (by kernel_rfl)]
  show Option.bind (ref02_numbers 1267650600228229401496703205376 [a1, a2, a3, a4]) _ = _
  rw [(rnums_eq (by simp)).1 h, bind_some', it2 (by kernel_rfl)]
  show Option.bind (ref02_numbers 1267650600228229401496703205376 [b1, b2, b3, b4]) _ = _
  rw [(rnums_eq (by simp)).1 h', bind_some']
  kernel_rfl
theorem rJ2_no {a1 a2 a3 a4 k b1 b2 b3 b4 : List UInt8} (h : ¬ (okAll [a1, a2, a3, a4] ∧ okAll [b1, b2, b3, b4])) : ref02_edit_J2 1267650600228229401496703205376 1267650600228229401496703205376 [RO, a1, a2, a3, a4, k, b1, b2, b3, b4] 0 0 false 0 0 0 0 false false 0 0 0 0 0 0 0 = some (NoE, false) := by
  rw [ref02_edit_J2_eq, it2 (by kernel_rfl)]
  show Option.bind (ref02_numbers 1267650600228229401496703205376 [a1, a2, a3, a4]) _ = _
  by_cases g1 : okAll [a1, a2, a3, a4]
  · rw [(rnums_eq (by simp)).1 g1, bind_some', it2 (by kernel_rfl)]
    show Option.bind (ref02_numbers 1267650600228229401496703205376 [b1, b2, b3, b4]) _ = _
    rw [(rnums_eq (by simp)).2 fun g2 => h ⟨g1, g2⟩, bind_some']
    rfl
  · rw [(rnums_eq (by simp)).2 g1, bind_some', it2 (by kernel_rfl)]
    show Option.bind (ref02_numbers 1267650600228229401496703205376 [b1, b2, b3, b4]) _ = _
    by_cases g2 : okAll [b1, b2, b3, b4]
    · rw [(rnums_eq (by simp)).1 g2, bind_some']; rfl
    · rw [(rnums_eq (by simp)).2 g2, bind_some']; rfl
theorem rp_road {a1 a2 a3 a4 k b1 b2 b3 b4 : List UInt8} : ref02_edit_J1 1267650600228229401496703205376 1267650600228229401496703205376 [RO, a1, a2, a3, a4, k, b1, b2, b3, b4] 0 0 false 0 0 0 0 false false 0 0 0 0 0 0 0 = bif (k == WA) then ref02_edit_J2 1267650600228229401496703205376 1267650600228229401496703205376 [RO, a1, a2, a3, a4, k, b1, b2, b3, b4] 0 0 false 0 0 0 0 false false 0 0 0 0 0 0 0 else bif (k == MA) then ref02_edit_J2 1267650600228229401496703205376 1267650600228229401496703205376 [RO, a1, a2, a3, a4, k, b1, b2, b3, b4] 0 0 false 0 0 0 0 false false 0 0 0 0 0 0 0 else ref02_edit_J3 1267650600228229401496703205376 1267650600228229401496703205376 [RO, a1, a2, a3, a4, k, b1, b2, b3, b4] 0 0 false 0 0 0 0 false false 0 0 0 0 0 0 0 := by
  rw [ref02_edit_J1_eq]; kernel_rfl
theorem s_0 {w : List (List UInt8)} (h : strings_Split 1267650600228229401496703205376 x [32] = some w) (h0 : 0 < w.length) (h1 : w.getD 0 [] = PL → w.length ≠ 3) (h2 : w.getD 0 [] = RO → w.length ≠ 10) :
    survey_read 1267650600228229401496703205376 x = if w.getD 0 [] = PL ∨ w.getD 0 [] = RO then some (NoE, false) else survey_read_J2 1267650600228229401496703205376 1267650600228229401496703205376 w (w.getD 0 []) (decide (w.getD 0 [] = CL ∨ w.getD 0 [] = OP)) 0 0 false 0 0 0 0 false false 0 0 0 0 0 0 0 := by
  unfold survey_read
  rw [h, bind_some', it (by omega)]
  have e0 : w.getD (0 : Int).toNat [] = w.getD 0 [] := rfl
  simp only []
  rw [e0]
  by_cases g1 : w.getD 0 [] = PL
  · rw [bt (by rw [g1]; rfl), nt (by have := h1 g1; omega), if_pos (.inl g1)]
  · rw [bf (beq_eq_false_iff_ne.2 g1)]
    by_cases g2 : w.getD 0 [] = RO
    · rw [bt (by rw [g2]; rfl), nt (by have := h2 g2; omega), if_pos (.inr g2)]
    · rw [bf (beq_eq_false_iff_ne.2 g2), if_neg (fun h => h.elim g1 g2)]
      by_cases g3 : w.getD 0 [] = CL
      · rw [bt (by rw [g3]; rfl), decide_eq_true (.inl g3)]
      · rw [bf (beq_eq_false_iff_ne.2 g3)]
        by_cases g4 : w.getD 0 [] = OP
        · rw [decide_eq_true (.inr g4), g4]; rfl
        · rw [decide_eq_false (fun h => h.elim g3 g4), beq_eq_false_iff_ne.2 g4]
theorem s_1 {w : List (List UInt8)} {w0 : List UInt8} (h0 : 0 < w.length) (hl : w.length ≤ 10000000) (hn : ((w.drop 1).length : Int) ≠ 1) : survey_read_J2 1267650600228229401496703205376 1267650600228229401496703205376 w w0 true 0 0 false 0 0 0 0 false false 0 0 0 0 0 0 0 = some (NoE, false) := by
  rw [survey_read_J2_eq, cond_true, slB_true (by omega), cond_true]
  show Option.bind (survey_numbers 1267650600228229401496703205376 (w.drop 1) 1) _ = _
  rw [nums_ne hn, bind_some']; rfl
theorem s_3 {w : List (List UInt8)} {w0 : List UInt8} (h0 : 0 < w.length) (hl : w.length ≤ 10000000) (hn : ((w.drop 1).length : Int) ≠ 3 ∨ (w0 ≠ RE ∧ w0 ≠ LI)) : survey_read_J2 1267650600228229401496703205376 1267650600228229401496703205376 w w0 false 0 0 false 0 0 0 0 false false 0 0 0 0 0 0 0 = some (NoE, false) := by
  rw [survey_read_J2_eq, cond_false]
  by_cases g1 : w0 = RE
  · rw [bt (by rw [g1]; rfl), slB_true (by omega), cond_true]
    show Option.bind (survey_numbers 1267650600228229401496703205376 (w.drop 1) 3) _ = _
    rw [nums_ne (hn.resolve_right fun h => h.1 g1), bind_some']; rfl
  · rw [bf (beq_eq_false_iff_ne.2 g1)]
    by_cases g2 : w0 = LI
    · rw [bt (by rw [g2]; rfl), slB_true (by omega), cond_true]
      show Option.bind (survey_numbers 1267650600228229401496703205376 (w.drop 1) 3) _ = _
      rw [nums_ne (hn.resolve_right fun h => h.2 g2), bind_some']; rfl
    · rw [bf (beq_eq_false_iff_ne.2 g2)]
theorem three {w : List (List UInt8)} {n : Nat} (h0 : 0 < w.length) (h : w.length = n + 1) : ∃ t, w = w.getD 0 [] :: t ∧ t.length = n := by
  cases w with
  | nil => simp at h0
  | cons a t => exact ⟨t, rfl, by simpa using h⟩
theorem l1 {t : List (List UInt8)} (h : t.length = 1) : ∃ a, t = [a] := by
  match t, h with
  | [a], _ => exact ⟨a, rfl⟩
theorem l2 {t : List (List UInt8)} (h : t.length = 2) : ∃ a b, t = [a, b] := by
  match t, h with
  | [a, b], _ => exact ⟨a, b, rfl⟩
theorem l3 {t : List (List UInt8)} (h : t.length = 3) : ∃ a b c, t = [a, b, c] := by
  match t, h with
  | [a, b, c], _ => exact ⟨a, b, c, rfl⟩
theorem l9 {t : List (List UInt8)} (h : t.length = 9) : ∃ a1 a2 a3 a4 k b1 b2 b3 b4, t = [a1, a2, a3, a4, k, b1, b2, b3, b4] := by
  match t, h with
  | [a1, a2, a3, a4, k, b1, b2, b3, b4], _ => exact ⟨a1, a2, a3, a4, k, b1, b2, b3, b4, rfl⟩
def Cls (x : List UInt8) (w : List (List UInt8)) : Prop := (∃ e, PlE e w ∧ rdOK e x) ∨ ((∀ e, ¬ PlE e w) ∧ rdNo x)
theorem cls_place {a b : List UInt8} (h : strings_Split 1267650600228229401496703205376 x [32] = some [PL, a, b]) : Cls x [PL, a, b] := by
  have hs := sp_place h
  have hr := rp_place h
  have nb : ∀ s : Bool, (if s then SU else BE) ≠ b → b ≠ SU ∧ b ≠ BE → True := fun _ _ _ => trivial
  by_cases g1 : b = SU ∨ b = BE
  · have e1 : survey_read 1267650600228229401496703205376 x = Option.bind (survey_number 1267650600228229401496703205376 a) fun r => some (eP r.1 (b == SU), r.2) := by
      rw [hs]; rcases g1 with rfl | rfl
      · rw [bnot_t (show (SU == SU) = true from rfl)]
      · rw [bnot_f (show (BE == SU) = false from rfl), bnot_t (show (BE == BE) = true from rfl)]
    have e2 : ref02_edit 1267650600228229401496703205376 x = Option.bind (ref02_number 1267650600228229401496703205376 a) fun r => some (eP r.1 (b == SU), r.2) := by
      rw [hr]; rcases g1 with rfl | rfl
      · rw [bt (show (SU == SU) = true from rfl)]
      · rw [bf (show (BE == SU) = false from rfl), bt (show (BE == BE) = true from rfl)]
    have eb : b = if (b == SU) then SU else BE := by rcases g1 with rfl | rfl <;> rfl
    by_cases g2 : okNum a
    · rw [num_P g2] at e1
      rw [num_R g2] at e2
      refine .inl ⟨eP (numV a) (b == SU), ?_, e1, e2⟩
      have := PlE.p a (b == SU) g2
      rw [← eb] at this
      exact this
    · obtain ⟨y, hy⟩ := num_Pn g2
      obtain ⟨z, hz⟩ := num_Rn g2
      rw [hy] at e1
      rw [hz] at e2
      refine .inr ⟨fun e he => ?_, ⟨_, e1⟩, ⟨_, e2⟩⟩
      generalize hw : [PL, a, b] = w at he
      cases he <;> injection hw with w0 w1 <;> first
        | (injection w1 with w1 w2; subst w1; contradiction)
        | exact absurd w0 (by decide)
  · have q1 : b ≠ SU := fun e => g1 (.inl e)
    have q2 : b ≠ BE := fun e => g1 (.inr e)
    refine .inr ⟨fun e he => ?_, ⟨NoE, ?_⟩, ⟨NoE, ?_⟩⟩
    · generalize hw : [PL, a, b] = w at he
      cases he with
      | p a' s h' =>
        injection hw with w0 w1; injection w1 with w1 w2; injection w2 with w2 w3
        cases s
        · exact q2 w2
        · exact q1 w2
      | _ => injection hw with w0 w1; exact absurd w0 (by decide)
    · rw [hs, bnot_f (beq_eq_false_iff_ne.2 q1), bnot_f (beq_eq_false_iff_ne.2 q2)]
    · rw [hr, bf (beq_eq_false_iff_ne.2 q1), bf (beq_eq_false_iff_ne.2 q2), r_J1 (by simp) (by rintro ⟨e, _⟩; exact absurd (show PL = RO from e) (by decide)), r_J3 (by simp) (by rintro ⟨e, _⟩; exact absurd (show PL = CL from e) (by decide)) (by rintro ⟨e, _⟩; exact absurd (show PL = OP from e) (by decide)), r_J4 (by simp) (by rintro ⟨e, _⟩; exact absurd (show PL = RE from e) (by decide)) (by rintro ⟨e, _⟩; exact absurd (show PL = LI from e) (by decide))]
theorem cls_road {a1 a2 a3 a4 k b1 b2 b3 b4 : List UInt8} (h : strings_Split 1267650600228229401496703205376 x [32] = some [RO, a1, a2, a3, a4, k, b1, b2, b3, b4]) : Cls x [RO, a1, a2, a3, a4, k, b1, b2, b3, b4] := by
  have hs := sp_road h
  have hr := (r_0 h (by simp) (by rintro ⟨e, _⟩; exact absurd (show RO = PL from e) (by decide))).trans rp_road
  by_cases g1 : k = WA ∨ k = MA
  · have e1 : survey_read 1267650600228229401496703205376 x = survey_read_J1 1267650600228229401496703205376 1267650600228229401496703205376 [RO, a1, a2, a3, a4, k, b1, b2, b3, b4] 0 0 false 0 0 0 0 false false 0 0 0 0 0 0 0 := by
      rw [hs]; rcases g1 with rfl | rfl
      · rw [bnot_t (show (WA == WA) = true from rfl)]
      · rw [bnot_f (show (MA == WA) = false from rfl), bnot_t (show (MA == MA) = true from rfl)]
    have e2 : ref02_edit 1267650600228229401496703205376 x = ref02_edit_J2 1267650600228229401496703205376 1267650600228229401496703205376 [RO, a1, a2, a3, a4, k, b1, b2, b3, b4] 0 0 false 0 0 0 0 false false 0 0 0 0 0 0 0 := by
      rw [hr]; rcases g1 with rfl | rfl
      · rw [bt (show (WA == WA) = true from rfl)]
      · rw [bf (show (MA == WA) = false from rfl), bt (show (MA == MA) = true from rfl)]
    have eb : k = if (k == WA) then WA else MA := by rcases g1 with rfl | rfl <;> rfl
    by_cases g2 : okAll [a1, a2, a3, a4] ∧ okAll [b1, b2, b3, b4]
    · rw [sJ1_yes g2.1 g2.2] at e1
      rw [rJ2_yes g2.1 g2.2] at e2
      refine .inl ⟨_, ?_, e1, e2⟩
      have := PlE.r a1 a2 a3 a4 b1 b2 b3 b4 (k == WA) g2.1 g2.2
      rw [← eb] at this
      exact this
    · rw [sJ1_no g2] at e1
      rw [rJ2_no g2] at e2
      refine .inr ⟨fun e he => ?_, ⟨_, e1⟩, ⟨_, e2⟩⟩
      generalize hw : [RO, a1, a2, a3, a4, k, b1, b2, b3, b4] = w at he
      cases he with
      | r c1 c2 c3 c4 d1 d2 d3 d4 w p q =>
        simp only [List.cons.injEq] at hw
        obtain ⟨_, rfl, rfl, rfl, rfl, _, rfl, rfl, rfl, rfl, _⟩ := hw
        exact g2 ⟨p, q⟩
      | _ => injection hw with w0 w1; exact absurd w0 (by decide)
  · have q1 : k ≠ WA := fun e => g1 (.inl e)
    have q2 : k ≠ MA := fun e => g1 (.inr e)
    refine .inr ⟨fun e he => ?_, ⟨NoE, ?_⟩, ⟨NoE, ?_⟩⟩
    · generalize hw : [RO, a1, a2, a3, a4, k, b1, b2, b3, b4] = w at he
      cases he with
      | r c1 c2 c3 c4 d1 d2 d3 d4 w p q =>
        simp only [List.cons.injEq] at hw
        obtain ⟨_, _, _, _, _, e, _⟩ := hw
        cases w
        · exact q2 e
        · exact q1 e
      | _ => injection hw with w0 w1; exact absurd w0 (by decide)
    · rw [hs, bnot_f (beq_eq_false_iff_ne.2 q1), bnot_f (beq_eq_false_iff_ne.2 q2)]
    · rw [hr, bf (beq_eq_false_iff_ne.2 q1), bf (beq_eq_false_iff_ne.2 q2), r_J3 (by simp) (by rintro ⟨e, _⟩; exact absurd (show RO = CL from e) (by decide)) (by rintro ⟨e, _⟩; exact absurd (show RO = OP from e) (by decide)), r_J4 (by simp) (by rintro ⟨e, _⟩; exact absurd (show RO = RE from e) (by decide)) (by rintro ⟨e, _⟩; exact absurd (show RO = LI from e) (by decide))]
theorem rJ3_CL (a : List UInt8) : ref02_edit_J3 1267650600228229401496703205376 1267650600228229401496703205376 [CL, a] 0 0 false 0 0 0 0 false false 0 0 0 0 0 0 0 = Option.bind (ref02_number 1267650600228229401496703205376 a) fun r => some (eN 3 r.1 0 0, r.2) := by
  rw [ref02_edit_J3_eq]; kernel_rfl
theorem sJ2_CL (a : List UInt8) : survey_read_J2 1267650600228229401496703205376 1267650600228229401496703205376 [CL, a] CL true 0 0 false 0 0 0 0 false false 0 0 0 0 0 0 0 = Option.bind (survey_numbers 1267650600228229401496703205376 [a] 1) fun r => bif (!r.2) then some (NoE, false) else bif inB 0 r.1.length then some (eN 3 (r.1.getD 0 0) 0 0, true) else none := by
  rw [survey_read_J2_eq]; kernel_rfl
theorem cls_CL {a : List UInt8} (h : strings_Split 1267650600228229401496703205376 x [32] = some [CL, a]) : Cls x [CL, a] := by
  have hs := s_0 h (by simp) (fun e => absurd (show CL = PL from e) (by decide)) (fun e => absurd (show CL = RO from e) (by decide))
  rw [show ([CL, a] : List (List UInt8)).getD 0 [] = CL from rfl, if_neg (show ¬ (CL = PL ∨ CL = RO) by decide), show decide (CL = CL ∨ CL = OP) = true by decide] at hs
  have hs : survey_read 1267650600228229401496703205376 x = survey_read_J2 1267650600228229401496703205376 1267650600228229401496703205376 [CL, a] CL true 0 0 false 0 0 0 0 false false 0 0 0 0 0 0 0 := hs
  have hr := (r_0 h (by simp) (by rintro ⟨e, _⟩; exact absurd (show CL = PL from e) (by decide))).trans ((r_J1 (by simp) (by rintro ⟨e, _⟩; exact absurd (show CL = RO from e) (by decide))).trans (rJ3_CL a))
  rw [sJ2_CL] at hs
  by_cases g : okNum a
  · rw [(nums_eq (n := 1) (l := [a]) (by simp) rfl).1 (okAll_cons.2 ⟨g, fun s hs => by cases hs⟩), bind_some'] at hs
    rw [num_R g, bind_some'] at hr
    exact .inl ⟨_, .c a g, hs, hr⟩
  · rw [(nums_eq (n := 1) (l := [a]) (by simp) rfl).2 (fun h => g (okAll_cons.1 h).1), bind_some'] at hs
    obtain ⟨z, hz⟩ := num_Rn g
    rw [hz, bind_some'] at hr
    refine .inr ⟨fun e he => ?_, ⟨_, hs⟩, ⟨_, hr⟩⟩
    generalize hw : [CL, a] = w at he
    cases he <;> injection hw with w0 w1 <;> first
      | (injection w1 with w1 w2; subst w1; contradiction)
      | exact absurd w0 (by decide)
theorem rJ3_OP (a : List UInt8) : ref02_edit_J3 1267650600228229401496703205376 1267650600228229401496703205376 [OP, a] 0 0 false 0 0 0 0 false false 0 0 0 0 0 0 0 = Option.bind (ref02_number 1267650600228229401496703205376 a) fun r => some (eN 4 r.1 0 0, r.2) := by
  rw [ref02_edit_J3_eq]; kernel_rfl
theorem sJ2_OP (a : List UInt8) : survey_read_J2 1267650600228229401496703205376 1267650600228229401496703205376 [OP, a] OP true 0 0 false 0 0 0 0 false false 0 0 0 0 0 0 0 = Option.bind (survey_numbers 1267650600228229401496703205376 [a] 1) fun r => bif (!r.2) then some (NoE, false) else bif inB 0 r.1.length then some (eN 4 (r.1.getD 0 0) 0 0, true) else none := by
  rw [survey_read_J2_eq]; kernel_rfl
theorem cls_OP {a : List UInt8} (h : strings_Split 1267650600228229401496703205376 x [32] = some [OP, a]) : Cls x [OP, a] := by
  have hs := s_0 h (by simp) (fun e => absurd (show OP = PL from e) (by decide)) (fun e => absurd (show OP = RO from e) (by decide))
  rw [show ([OP, a] : List (List UInt8)).getD 0 [] = OP from rfl, if_neg (show ¬ (OP = PL ∨ OP = RO) by decide), show decide (OP = CL ∨ OP = OP) = true by decide] at hs
  have hs : survey_read 1267650600228229401496703205376 x = survey_read_J2 1267650600228229401496703205376 1267650600228229401496703205376 [OP, a] OP true 0 0 false 0 0 0 0 false false 0 0 0 0 0 0 0 := hs
  have hr := (r_0 h (by simp) (by rintro ⟨e, _⟩; exact absurd (show OP = PL from e) (by decide))).trans ((r_J1 (by simp) (by rintro ⟨e, _⟩; exact absurd (show OP = RO from e) (by decide))).trans (rJ3_OP a))
  rw [sJ2_OP] at hs
  by_cases g : okNum a
  · rw [(nums_eq (n := 1) (l := [a]) (by simp) rfl).1 (okAll_cons.2 ⟨g, fun s hs => by cases hs⟩), bind_some'] at hs
    rw [num_R g, bind_some'] at hr
    exact .inl ⟨_, .o a g, hs, hr⟩
  · rw [(nums_eq (n := 1) (l := [a]) (by simp) rfl).2 (fun h => g (okAll_cons.1 h).1), bind_some'] at hs
    obtain ⟨z, hz⟩ := num_Rn g
    rw [hz, bind_some'] at hr
    refine .inr ⟨fun e he => ?_, ⟨_, hs⟩, ⟨_, hr⟩⟩
    generalize hw : [OP, a] = w at he
    cases he <;> injection hw with w0 w1 <;> first
      | (injection w1 with w1 w2; subst w1; contradiction)
      | exact absurd w0 (by decide)
theorem rJ4_RE (a b c : List UInt8) : ref02_edit_J4 1267650600228229401496703205376 1267650600228229401496703205376 [RE, a, b, c] 0 0 false 0 0 0 0 false false 0 0 0 0 0 0 0 = ref02_edit_J5 1267650600228229401496703205376 1267650600228229401496703205376 [RE, a, b, c] 0 0 false 0 0 0 0 false false 0 0 0 0 0 0 0 := by
  rw [ref02_edit_J4_eq]; kernel_rfl
theorem rJ5_RE (a b c : List UInt8) : ref02_edit_J5 1267650600228229401496703205376 1267650600228229401496703205376 [RE, a, b, c] 0 0 false 0 0 0 0 false false 0 0 0 0 0 0 0 = Option.bind (ref02_numbers 1267650600228229401496703205376 [a, b, c]) fun r => bif (!r.2) then some (NoE, false) else bif inB 0 r.1.length then bif inB 1 r.1.length then bif inB 2 r.1.length then some (eN 5 (r.1.getD 0 0) (r.1.getD 1 0) (r.1.getD 2 0), true) else none else none else none := by
  rw [ref02_edit_J5_eq]; kernel_rfl
theorem sJ2_RE (a b c : List UInt8) : survey_read_J2 1267650600228229401496703205376 1267650600228229401496703205376 [RE, a, b, c] RE false 0 0 false 0 0 0 0 false false 0 0 0 0 0 0 0 = Option.bind (survey_numbers 1267650600228229401496703205376 [a, b, c] 3) fun r => bif (!r.2) then some (NoE, false) else bif inB 0 r.1.length then bif inB 1 r.1.length then bif inB 2 r.1.length then some (eN 5 (r.1.getD 0 0) (r.1.getD 1 0) (r.1.getD 2 0), true) else none else none else none := by
  rw [survey_read_J2_eq]; kernel_rfl
theorem cls_RE {a b c : List UInt8} (h : strings_Split 1267650600228229401496703205376 x [32] = some [RE, a, b, c]) : Cls x [RE, a, b, c] := by
  have hs := s_0 h (by simp) (fun e => absurd (show RE = PL from e) (by decide)) (fun e => absurd (show RE = RO from e) (by decide))
  rw [show ([RE, a, b, c] : List (List UInt8)).getD 0 [] = RE from rfl, if_neg (show ¬ (RE = PL ∨ RE = RO) by decide), show decide (RE = CL ∨ RE = OP) = false by decide] at hs
  have hs : survey_read 1267650600228229401496703205376 x = survey_read_J2 1267650600228229401496703205376 1267650600228229401496703205376 [RE, a, b, c] RE false 0 0 false 0 0 0 0 false false 0 0 0 0 0 0 0 := hs
  have hr := (r_0 h (by simp) (by rintro ⟨e, _⟩; exact absurd (show RE = PL from e) (by decide))).trans ((r_J1 (by simp) (by rintro ⟨e, _⟩; exact absurd (show RE = RO from e) (by decide))).trans ((r_J3 (by simp) (by rintro ⟨e, _⟩; exact absurd (show RE = CL from e) (by decide)) (by rintro ⟨e, _⟩; exact absurd (show RE = OP from e) (by decide))).trans ((rJ4_RE a b c).trans (rJ5_RE a b c))))
  rw [sJ2_RE] at hs
  by_cases g : okAll [a, b, c]
  · rw [(nums_eq (n := 3) (l := [a, b, c]) (by simp) rfl).1 g, bind_some'] at hs
    rw [(rnums_eq (l := [a, b, c]) (by simp)).1 g, bind_some'] at hr
    exact .inl ⟨_, .s a b c g, hs, hr⟩
  · rw [(nums_eq (n := 3) (l := [a, b, c]) (by simp) rfl).2 g, bind_some'] at hs
    rw [(rnums_eq (l := [a, b, c]) (by simp)).2 g, bind_some'] at hr
    refine .inr ⟨fun e he => ?_, ⟨_, hs⟩, ⟨_, hr⟩⟩
    generalize hw : [RE, a, b, c] = w at he
    cases he <;> injection hw with w0 w1 <;> first
      | (injection w1 with w1 w2; injection w2 with w2 w3; injection w3 with w3 w4; subst w1; subst w2; subst w3; contradiction)
      | exact absurd w0 (by decide)
theorem rJ4_LI (a b c : List UInt8) : ref02_edit_J4 1267650600228229401496703205376 1267650600228229401496703205376 [LI, a, b, c] 0 0 false 0 0 0 0 false false 0 0 0 0 0 0 0 = ref02_edit_J5 1267650600228229401496703205376 1267650600228229401496703205376 [LI, a, b, c] 0 0 false 0 0 0 0 false false 0 0 0 0 0 0 0 := by
  rw [ref02_edit_J4_eq]; kernel_rfl
theorem rJ5_LI (a b c : List UInt8) : ref02_edit_J5 1267650600228229401496703205376 1267650600228229401496703205376 [LI, a, b, c] 0 0 false 0 0 0 0 false false 0 0 0 0 0 0 0 = Option.bind (ref02_numbers 1267650600228229401496703205376 [a, b, c]) fun r => bif (!r.2) then some (NoE, false) else bif inB 0 r.1.length then bif inB 1 r.1.length then bif inB 2 r.1.length then some (eN 6 (r.1.getD 0 0) (r.1.getD 1 0) (r.1.getD 2 0), true) else none else none else none := by
  rw [ref02_edit_J5_eq]; kernel_rfl
theorem sJ2_LI (a b c : List UInt8) : survey_read_J2 1267650600228229401496703205376 1267650600228229401496703205376 [LI, a, b, c] LI false 0 0 false 0 0 0 0 false false 0 0 0 0 0 0 0 = Option.bind (survey_numbers 1267650600228229401496703205376 [a, b, c] 3) fun r => bif (!r.2) then some (NoE, false) else bif inB 0 r.1.length then bif inB 1 r.1.length then bif inB 2 r.1.length then some (eN 6 (r.1.getD 0 0) (r.1.getD 1 0) (r.1.getD 2 0), true) else none else none else none := by
  rw [survey_read_J2_eq]; kernel_rfl
theorem cls_LI {a b c : List UInt8} (h : strings_Split 1267650600228229401496703205376 x [32] = some [LI, a, b, c]) : Cls x [LI, a, b, c] := by
  have hs := s_0 h (by simp) (fun e => absurd (show LI = PL from e) (by decide)) (fun e => absurd (show LI = RO from e) (by decide))
  rw [show ([LI, a, b, c] : List (List UInt8)).getD 0 [] = LI from rfl, if_neg (show ¬ (LI = PL ∨ LI = RO) by decide), show decide (LI = CL ∨ LI = OP) = false by decide] at hs
  have hs : survey_read 1267650600228229401496703205376 x = survey_read_J2 1267650600228229401496703205376 1267650600228229401496703205376 [LI, a, b, c] LI false 0 0 false 0 0 0 0 false false 0 0 0 0 0 0 0 := hs
  have hr := (r_0 h (by simp) (by rintro ⟨e, _⟩; exact absurd (show LI = PL from e) (by decide))).trans ((r_J1 (by simp) (by rintro ⟨e, _⟩; exact absurd (show LI = RO from e) (by decide))).trans ((r_J3 (by simp) (by rintro ⟨e, _⟩; exact absurd (show LI = CL from e) (by decide)) (by rintro ⟨e, _⟩; exact absurd (show LI = OP from e) (by decide))).trans ((rJ4_LI a b c).trans (rJ5_LI a b c))))
  rw [sJ2_LI] at hs
  by_cases g : okAll [a, b, c]
  · rw [(nums_eq (n := 3) (l := [a, b, c]) (by simp) rfl).1 g, bind_some'] at hs
    rw [(rnums_eq (l := [a, b, c]) (by simp)).1 g, bind_some'] at hr
    exact .inl ⟨_, .l a b c g, hs, hr⟩
  · rw [(nums_eq (n := 3) (l := [a, b, c]) (by simp) rfl).2 g, bind_some'] at hs
    rw [(rnums_eq (l := [a, b, c]) (by simp)).2 g, bind_some'] at hr
    refine .inr ⟨fun e he => ?_, ⟨_, hs⟩, ⟨_, hr⟩⟩
    generalize hw : [LI, a, b, c] = w at he
    cases he <;> injection hw with w0 w1 <;> first
      | (injection w1 with w1 w2; injection w2 with w2 w3; injection w3 with w3 w4; subst w1; subst w2; subst w3; contradiction)
      | exact absurd w0 (by decide)
theorem PlE.shape {e : T_Edit} {w : List (List UInt8)} (h : PlE e w) : (w.getD 0 [] = PL ∧ w.length = 3) ∨ (w.getD 0 [] = RO ∧ w.length = 10) ∨ (w.getD 0 [] = CL ∧ w.length = 2) ∨ (w.getD 0 [] = OP ∧ w.length = 2) ∨ (w.getD 0 [] = RE ∧ w.length = 4) ∨ (w.getD 0 [] = LI ∧ w.length = 4) := by
  cases h <;> simp
theorem cls_of {w : List (List UInt8)} (h : strings_Split 1267650600228229401496703205376 x [32] = some w) (h0 : 0 < w.length) (hl : w.length ≤ 10000000) : Cls x w := by
  by_cases p1 : w.getD 0 [] = PL ∧ w.length = 3
  · obtain ⟨t, e, ht⟩ := three h0 p1.2
    obtain ⟨a, b, rfl⟩ := l2 ht
    rw [p1.1] at e
    rw [e] at h ⊢; exact cls_place h
  by_cases p2 : w.getD 0 [] = RO ∧ w.length = 10
  · obtain ⟨t, e, ht⟩ := three h0 p2.2
    obtain ⟨a1, a2, a3, a4, k, b1, b2, b3, b4, rfl⟩ := l9 ht
    rw [p2.1] at e
    rw [e] at h ⊢; exact cls_road h
  by_cases p3 : w.getD 0 [] = CL ∧ w.length = 2
  · obtain ⟨t, e, ht⟩ := three h0 p3.2
    obtain ⟨a, rfl⟩ := l1 ht
    rw [p3.1] at e
    rw [e] at h ⊢; exact cls_CL h
  by_cases p4 : w.getD 0 [] = OP ∧ w.length = 2
  · obtain ⟨t, e, ht⟩ := three h0 p4.2
    obtain ⟨a, rfl⟩ := l1 ht
    rw [p4.1] at e
    rw [e] at h ⊢; exact cls_OP h
  by_cases p5 : w.getD 0 [] = RE ∧ w.length = 4
  · obtain ⟨t, e, ht⟩ := three h0 p5.2
    obtain ⟨a, b, c, rfl⟩ := l3 ht
    rw [p5.1] at e
    rw [e] at h ⊢; exact cls_RE h
  by_cases p6 : w.getD 0 [] = LI ∧ w.length = 4
  · obtain ⟨t, e, ht⟩ := three h0 p6.2
    obtain ⟨a, b, c, rfl⟩ := l3 ht
    rw [p6.1] at e
    rw [e] at h ⊢; exact cls_LI h
  refine .inr ⟨fun e he => ?_, ⟨NoE, ?_⟩, ⟨NoE, ?_⟩⟩
  · rcases he.shape with q | q | q | q | q | q
    · exact p1 q
    · exact p2 q
    · exact p3 q
    · exact p4 q
    · exact p5 q
    · exact p6 q
  · rw [s_0 h h0 (fun e1 e2 => p1 ⟨e1, e2⟩) (fun e1 e2 => p2 ⟨e1, e2⟩)]
    by_cases q : w.getD 0 [] = PL ∨ w.getD 0 [] = RO
    · rw [if_pos q]
    · rw [if_neg q]
      by_cases q2 : w.getD 0 [] = CL ∨ w.getD 0 [] = OP
      · rw [decide_eq_true q2]
        refine s_1 h0 hl ?_
        rw [List.length_drop]
        rcases q2 with q2 | q2
        · have : w.length ≠ 2 := fun e => p3 ⟨q2, e⟩; omega
        · have : w.length ≠ 2 := fun e => p4 ⟨q2, e⟩; omega
      · rw [decide_eq_false q2]
        refine s_3 h0 hl ?_
        rw [List.length_drop]
        by_cases q3 : w.getD 0 [] = RE
        · have : w.length ≠ 4 := fun e => p5 ⟨q3, e⟩; left; omega
        · by_cases q4 : w.getD 0 [] = LI
          · have : w.length ≠ 4 := fun e => p6 ⟨q4, e⟩; left; omega
          · exact .inr ⟨q3, q4⟩
  · rw [r_0 h h0 p1, r_J1 h0 p2, r_J3 h0 p3 p4, r_J4 h0 p5 p6]
end
end Go.Proofs.YtipokcccpbcmeaaDoor
set_option linter.all false
namespace Go.Proofs.YtipokcccpbcmeaaDoor
open Go.Pv M
def jn : List (List UInt8) → List UInt8
  | [] => []
  | [a] => a
  | a :: b :: t => a ++ 32 :: jn (b :: t)
theorem spl_pos (c : UInt8) : ∀ s, 0 < (spl c s).length
  | [] => by simp [spl]
  | b :: l => by
    have := spl_pos c l
    rw [spl]
    cases b == c with
    | true => simp
    | false =>
      cases h : spl c l with
      | nil => simp
      | cons x t => simp
theorem spl_len (c : UInt8) : ∀ s, (spl c s).length ≤ s.length + 1
  | [] => by simp [spl]
  | b :: l => by
    have h1 := spl_len c l
    have h2 := spl_pos c l
    rw [spl]
    cases b == c with
    | true => simp; omega
    | false =>
      cases h : spl c l with
      | nil => simp
      | cons x t => rw [h] at h1; simp at h1 ⊢; omega
theorem jn_spl : ∀ s, jn (spl 32 s) = s
  | [] => rfl
  | b :: l => by
    have ih := jn_spl l
    have hp := spl_pos 32 l
    rw [spl]
    by_cases h : b = 32
    · subst h
      rw [beq_self_eq_true, cond_true]
      cases hs : spl 32 l with
      | nil => rw [hs] at hp; simp at hp
      | cons x t => rw [hs] at ih; simp only [jn, List.nil_append]; rw [ih]
    · rw [beq_eq_false_iff_ne.2 h, cond_false]
      cases hs : spl 32 l with
      | nil => rw [hs] at hp; simp at hp
      | cons x t =>
        rw [hs] at ih
        simp only
        cases t with
        | nil => simp only [jn] at ih ⊢; rw [ih]
        | cons y t => simp only [jn, List.cons_append] at ih ⊢; rw [ih]
theorem spl_word : ∀ (a : List UInt8), (∀ c, c ∈ a → c ≠ 32) → spl 32 a = [a]
  | [], _ => rfl
  | b :: l, h => by
    rw [spl, beq_eq_false_iff_ne.2 (h b (List.mem_cons_self ..)), cond_false, spl_word l fun c hc => h c (List.mem_cons_of_mem _ hc)]
theorem spl_app : ∀ (a s : List UInt8), (∀ c, c ∈ a → c ≠ 32) → spl 32 (a ++ 32 :: s) = a :: spl 32 s
  | [], s, _ => by rw [List.nil_append, spl, beq_self_eq_true, cond_true]
  | b :: l, s, h => by
    rw [List.cons_append, spl, beq_eq_false_iff_ne.2 (h b (List.mem_cons_self ..)), cond_false, spl_app l s fun c hc => h c (List.mem_cons_of_mem _ hc)]
def clean (w : List (List UInt8)) : Prop := ∀ a, a ∈ w → ∀ c, c ∈ a → c ≠ 32 ∧ c ≠ 10
theorem spl_jn : ∀ (w : List (List UInt8)), w ≠ [] → clean w → spl 32 (jn w) = w
  | [a], _, h => spl_word a fun c hc => (h a (List.mem_cons_self ..) c hc).1
  | a :: b :: t, _, h => by
    rw [jn, spl_app a _ fun c hc => (h a (List.mem_cons_self ..) c hc).1, spl_jn (b :: t) (by simp) fun x hx => h x (List.mem_cons_of_mem _ hx)]
theorem okNum_clean {a : List UInt8} (h : okNum a) : ∀ c, c ∈ a → c ≠ 32 ∧ c ≠ 10 := by
  obtain ⟨h1, h2, h3, h4⟩ := h
  have hd : ∀ c, dg c → c ≠ 32 ∧ c ≠ 10 := fun c hc => ⟨by rintro rfl; exact absurd hc.1 (by decide), by rintro rfl; exact absurd hc.1 (by decide)⟩
  intro c hc
  unfold dig at h3
  by_cases hs : a.head? = some 45
  · rw [if_pos hs] at h3
    cases a with
    | nil => cases hc
    | cons b a =>
      injection hs with hs
      subst hs
      rcases List.mem_cons.1 hc with rfl | hc
      · exact ⟨by decide, by decide⟩
      · exact hd c (h3 c hc)
  · rw [if_neg hs] at h3; exact hd c (h3 c hc)
theorem wclean {a : List UInt8} (h : (a.all fun c => decide (c ≠ 32) && decide (c ≠ 10)) = true) : ∀ c, c ∈ a → c ≠ 32 ∧ c ≠ 10 := fun c hc => by
  have := List.all_eq_true.1 h c hc
  simpa using this
theorem PlE.clean {e : T_Edit} {w : List (List UInt8)} (h : PlE e w) : clean w := by
  have cn : ∀ {a : List UInt8} {t : List (List UInt8)}, (∀ c, c ∈ a → c ≠ 32 ∧ c ≠ 10) → Go.Proofs.YtipokcccpbcmeaaDoor.clean t → Go.Proofs.YtipokcccpbcmeaaDoor.clean (a :: t) := fun h1 h2 x hx => by
    rcases List.mem_cons.1 hx with rfl | hx
    · exact h1
    · exact h2 x hx
  have c0 : Go.Proofs.YtipokcccpbcmeaaDoor.clean [] := fun x hx => by cases hx
  have call : ∀ {l : List (List UInt8)}, okAll l → Go.Proofs.YtipokcccpbcmeaaDoor.clean l := fun h x hx => okNum_clean (h x hx)
  cases h with
  | p a s h => exact cn (wclean (by decide)) (cn (okNum_clean h) (cn (wclean (by cases s <;> decide)) c0))
  | r a1 a2 a3 a4 b1 b2 b3 b4 w h h' =>
    simp only [okAll_cons] at h h'
    exact cn (wclean (by decide)) (cn (okNum_clean h.1) (cn (okNum_clean h.2.1) (cn (okNum_clean h.2.2.1) (cn (okNum_clean h.2.2.2.1) (cn (wclean (by cases w <;> decide)) (call (fun x hx => by
      simp only [List.mem_cons, List.not_mem_nil, or_false] at hx
      rcases hx with rfl | rfl | rfl | rfl
      · exact h'.1
      · exact h'.2.1
      · exact h'.2.2.1
      · exact h'.2.2.2.1)))))))
  | c a h => exact cn (wclean (by decide)) (cn (okNum_clean h) c0)
  | o a h => exact cn (wclean (by decide)) (cn (okNum_clean h) c0)
  | s a b c h => exact cn (wclean (by decide)) (call h)
  | l a b c h => exact cn (wclean (by decide)) (call h)
theorem PlE.ne {e : T_Edit} {w : List (List UInt8)} (h : PlE e w) : w ≠ [] := by cases h <;> simp
theorem PlE.spl {e : T_Edit} {w : List (List UInt8)} (h : PlE e w) : spl 32 (jn w) = w := spl_jn w h.ne h.clean
def I64 (n : Int) : Prop := -9223372036854775808 ≤ n ∧ n ≤ 9223372036854775807
def cat : List Int → List UInt8
  | [] => []
  | n :: l => 32 :: itoaM n ++ cat l
theorem digs_len : ∀ (f u : Nat), (digs f u).length ≤ f
  | 0, _ => Nat.le_refl _
  | f + 1, u => by
    rw [digs]
    by_cases h : u < 10
    · rw [dt h]; simp
    · rw [df h]
      have := digs_len f (u / 10)
      simp; omega
theorem itoa_len (k : Int) : (itoaM k).length ≤ 21 := by
  unfold itoaM
  have h1 := digs_len 20 k.natAbs
  have h2 := digs_len 20 k.toNat
  by_cases h : k < 0
  · rw [dt h]; simp; omega
  · rw [df h]; omega
theorem words_loop {l : List Int} (hl : l.length ≤ 20) (hi : ∀ n, n ∈ l → I64 n) : ∀ (j f k : Nat) (acc : List UInt8), j + k = l.length → j < f → acc.length ≤ 1000 + 22 * k → survey_words_L1 1267650600228229401496703205376 f acc l (l.length : Int) k = some (acc ++ cat (l.drop k))
  | 0, f + 1, k, acc, hk, hf, ha => by
    rw [drop_nil (by omega), survey_words_L1_succ, df (by omega)]
    simp [cat]
  | j + 1, f + 1, k, acc, hk, hf, ha => by
    have hkl : k < l.length := by omega
    have hn := hi _ (getD_mem 0 hkl)
    have hlen := itoa_len (l.getD k 0)
    rw [drop_cons 0 hkl, survey_words_L1_succ, dt (by omega), it (by omega), Int.toNat_natCast, itoa_some' _ hn.1 hn.2, bind_some']
    generalize l.getD k 0 = v at hn hlen ⊢
    simp only []
    rw [dt (by simp; omega), dt (by simp; omega), W_succ (by omega)]
    rw [words_loop hl hi j f (k + 1) (acc ++ ([32] ++ itoaM v)) (by omega) (by omega) (by simp; omega)]
    simp [cat]
theorem rwords_loop {l : List Int} (hl : l.length ≤ 20) (hi : ∀ n, n ∈ l → I64 n) : ∀ (j f k : Nat) (acc : List UInt8), j + k = l.length → j < f → acc.length ≤ 1000 + 22 * k → ref02_words_L1 1267650600228229401496703205376 f acc l k = some (acc ++ cat (l.drop k))
  | 0, f + 1, k, acc, hk, hf, ha => by
    rw [drop_nil (by omega), ref02_words_L1_succ, df (by omega)]
    simp [cat]
  | j + 1, f + 1, k, acc, hk, hf, ha => by
    have hkl : k < l.length := by omega
    have hn := hi _ (getD_mem 0 hkl)
    have hlen := itoa_len (l.getD k 0)
    rw [drop_cons 0 hkl, ref02_words_L1_succ, dt (by omega), it (by omega), Int.toNat_natCast, itoa_some' _ hn.1 hn.2, bind_some']
    generalize l.getD k 0 = v at hn hlen ⊢
    simp only []
    rw [dt (by simp; omega), dt (by simp; omega), W_succ (by omega)]
    rw [rwords_loop hl hi j f (k + 1) (acc ++ ([32] ++ itoaM v)) (by omega) (by omega) (by simp; omega)]
    simp [cat]
theorem words_eq {a : List UInt8} {l : List Int} (ha : a.length ≤ 1000) (hl : l.length ≤ 20) (hi : ∀ n, n ∈ l → I64 n) : survey_words 1267650600228229401496703205376 a l = some (a ++ cat l) ∧ ref02_words 1267650600228229401496703205376 a l = some (a ++ cat l) := ⟨words_loop hl hi l.length 1267650600228229401496703205376 0 a rfl (by omega) (by omega), rwords_loop hl hi l.length 1267650600228229401496703205376 0 a rfl (by omega) (by omega)⟩
theorem cat_len : ∀ (l : List Int), (cat l).length ≤ 22 * l.length
  | [] => by simp [cat]
  | n :: l => by
    have h1 := itoa_len n
    have h2 := cat_len l
    simp [cat]; omega
instance (v : Int) : Decidable (Sh v) := inferInstanceAs (Decidable (_ ∧ _))
def shA (l : List Int) : Bool := l.all fun n => decide (Sh n)
theorem short_loop {l : List Int} (hl : l.length ≤ 20) : ∀ (j f k : Nat), j + k = l.length → j < f → survey_short_L1 1267650600228229401496703205376 f l (l.length : Int) k = some (shA (l.drop k))
  | 0, f + 1, k, hk, hf => by
    rw [drop_nil (by omega), survey_short_L1_succ, df (by omega)]
    rfl
  | j + 1, f + 1, k, hk, hf => by
    have hkl : k < l.length := by omega
    rw [drop_cons 0 hkl, survey_short_L1_succ, dt (by omega), it (by omega), Int.toNat_natCast]
    have ih := short_loop hl j f (k + 1) (by omega) (by omega)
    have e : shA (l.getD k 0 :: l.drop (k + 1)) = (decide (Sh (l.getD k 0)) && shA (l.drop (k + 1))) := rfl
    rw [e]
    by_cases h1 : l.getD k 0 < -999999999999999999
    · rw [dt h1, decide_eq_false (by unfold Sh; omega)]; rfl
    · rw [df h1]
      by_cases h2 : l.getD k 0 > 999999999999999999
      · rw [dt h2, decide_eq_false (by unfold Sh; omega)]; rfl
      · rw [df h2, decide_eq_true (by unfold Sh; omega), Bool.true_and, W_succ (by omega)]
        exact ih
theorem rshort_loop {l : List Int} (hl : l.length ≤ 20) : ∀ (j f k : Nat), j + k = l.length → j < f → ref02_short_L1 1267650600228229401496703205376 f l k = some (shA (l.drop k))
  | 0, f + 1, k, hk, hf => by
    rw [drop_nil (by omega), ref02_short_L1_succ, df (by omega)]
    rfl
  | j + 1, f + 1, k, hk, hf => by
    have hkl : k < l.length := by omega
    rw [drop_cons 0 hkl, ref02_short_L1_succ, dt (by omega), it (by omega), Int.toNat_natCast]
    have ih := rshort_loop hl j f (k + 1) (by omega) (by omega)
    have e : shA (l.getD k 0 :: l.drop (k + 1)) = (decide (Sh (l.getD k 0)) && shA (l.drop (k + 1))) := rfl
    rw [e]
    by_cases h1 : l.getD k 0 ≤ -1000000000000000000
    · rw [dt h1, decide_eq_false (by unfold Sh; omega)]; rfl
    · rw [df h1, it (by omega)]
      by_cases h2 : l.getD k 0 ≥ 1000000000000000000
      · rw [dt h2, decide_eq_false (by unfold Sh; omega)]; rfl
      · rw [df h2, decide_eq_true (by unfold Sh; omega), Bool.true_and, W_succ (by omega)]
        exact ih
theorem short_eq {l : List Int} (hl : l.length ≤ 20) : survey_short 1267650600228229401496703205376 l = some (shA l) ∧ ref02_short 1267650600228229401496703205376 l = some (shA l) := ⟨short_loop hl l.length 1267650600228229401496703205376 0 rfl (by omega), rshort_loop hl l.length 1267650600228229401496703205376 0 rfl (by omega)⟩
theorem shA_cons {n : Int} {l : List Int} : shA (n :: l) = true ↔ Sh n ∧ shA l = true := by
  show (decide (Sh n) && shA l) = true ↔ _
  simp
theorem num_of {v : Int} (h : Sh v) : okNum (itoaM v) ∧ numV (itoaM v) = v := isNum_ok ⟨h, rfl⟩
end Go.Proofs.YtipokcccpbcmeaaDoor
set_option linter.all false
namespace Go.Proofs.YtipokcccpbcmeaaDoor
open Go.Pv M
def ch (k h : Int) (s : Bool) (f t l a : Int) (w c : Bool) (r1 r2 l1 l2 rd s1 s2 : Int) : Bool := ((k == 0) && ((h == 0) && ((s == false) && ((f == 0) && ((t == 0) && ((l == 0) && ((a == 0) && ((w == false) && ((c == false) && ((r1 == 0) && ((r2 == 0) && ((l1 == 0) && ((l2 == 0) && ((rd == 0) && ((s1 == 0) && (s2 == 0))))))))))))))))
def rc (k h : Int) (s : Bool) (f t l a : Int) (w c : Bool) (r1 r2 l1 l2 rd s1 s2 : Int) (k' h' : Int) (s' : Bool) (f' t' l' a' : Int) (w' c' : Bool) (r1' r2' l1' l2' rd' s1' s2' : Int) : Bool := ((k == k') && ((h == h') && ((s == s') && ((f == f') && ((t == t') && ((l == l') && ((a == a') && ((w == w') && ((c == c') && ((r1 == r1') && ((r2 == r2') && ((l1 == l1') && ((l2 == l2') && ((rd == rd') && ((s1 == s1') && (s2 == s2'))))))))))))))))
section
variable (h : Int) (s : Bool) (f t l a : Int) (w c : Bool) (r1 r2 l1 l2 rd s1 s2 : Int)
theorem pl_1 : survey_line 1267650600228229401496703205376 (1, ((h, s), ((f, (t, (l, (a, (w, (c, ((r1, r2), (l1, l2)))))))), (rd, (s1, s2))))) = bif s then (Option.bind (survey_words 1267650600228229401496703205376 PL [h]) fun r => bif decide (r.length + (32 :: SU).length ≤ 9223372036854775807) then (bif ch 0 0 false f t l a w c r1 r2 l1 l2 rd s1 s2 then Option.bind (survey_short 1267650600228229401496703205376 [h]) fun q => some (r ++ 32 :: SU, q) else some (r ++ 32 :: SU, false)) else none) else (Option.bind (survey_words 1267650600228229401496703205376 PL [h]) fun r => bif decide (r.length + (32 :: BE).length ≤ 9223372036854775807) then (bif ch 0 0 false f t l a w c r1 r2 l1 l2 rd s1 s2 then Option.bind (survey_short 1267650600228229401496703205376 [h]) fun q => some (r ++ 32 :: BE, q) else some (r ++ 32 :: BE, false)) else none) := by
  unfold survey_line; simp only []; rw [et (rfl : (1 : Int) = 1)]; rfl
theorem pl_2 : survey_line 1267650600228229401496703205376 (2, ((h, s), ((f, (t, (l, (a, (w, (c, ((r1, r2), (l1, l2)))))))), (rd, (s1, s2))))) = bif w then (Option.bind (survey_words 1267650600228229401496703205376 RO [f, t, l, a]) fun r => Option.bind (survey_words 1267650600228229401496703205376 (32 :: WA) [r1, r2, l1, l2]) fun r' => bif decide (r.length + r'.length ≤ 9223372036854775807) then (bif ch 0 h s 0 0 0 0 false false 0 0 0 0 rd s1 s2 then (bif !c then Option.bind (survey_short 1267650600228229401496703205376 [f, t, l, a, r1, r2, l1, l2]) fun q => some (r ++ r', q) else some (r ++ r', false)) else some (r ++ r', false)) else none) else (Option.bind (survey_words 1267650600228229401496703205376 RO [f, t, l, a]) fun r => Option.bind (survey_words 1267650600228229401496703205376 (32 :: MA) [r1, r2, l1, l2]) fun r' => bif decide (r.length + r'.length ≤ 9223372036854775807) then (bif ch 0 h s 0 0 0 0 false false 0 0 0 0 rd s1 s2 then (bif !c then Option.bind (survey_short 1267650600228229401496703205376 [f, t, l, a, r1, r2, l1, l2]) fun q => some (r ++ r', q) else some (r ++ r', false)) else some (r ++ r', false)) else none) := by
  have e : survey_line 1267650600228229401496703205376 (2, ((h, s), ((f, (t, (l, (a, (w, (c, ((r1, r2), (l1, l2)))))))), (rd, (s1, s2))))) = bif w then survey_line_J1 1267650600228229401496703205376 1267650600228229401496703205376 (32 :: WA) 0 h s 0 0 0 0 false false 0 0 0 0 rd s1 s2 f t l a w c r1 r2 l1 l2 else survey_line_J1 1267650600228229401496703205376 1267650600228229401496703205376 (32 :: MA) 0 h s 0 0 0 0 false false 0 0 0 0 rd s1 s2 f t l a w c r1 r2 l1 l2 := by
    unfold survey_line; simp only []; rw [ef (by decide : (2 : Int) ≠ 1), et (rfl : (2 : Int) = 2)]
  rw [e, survey_line_J1_eq, survey_line_J1_eq]; rfl
theorem pl_3 : survey_line 1267650600228229401496703205376 (3, ((h, s), ((f, (t, (l, (a, (w, (c, ((r1, r2), (l1, l2)))))))), (rd, (s1, s2))))) = Option.bind (survey_words 1267650600228229401496703205376 CL [rd]) fun r => bif ch 0 h s f t l a w c r1 r2 l1 l2 0 s1 s2 then Option.bind (survey_short 1267650600228229401496703205376 [rd]) fun q => some (r, q) else some (r, false) := by
  have e : survey_line 1267650600228229401496703205376 (3, ((h, s), ((f, (t, (l, (a, (w, (c, ((r1, r2), (l1, l2)))))))), (rd, (s1, s2))))) = survey_line_J2 1267650600228229401496703205376 1267650600228229401496703205376 3 true 3 h s f t l a w c r1 r2 l1 l2 rd s1 s2 0 h s f t l a w c r1 r2 l1 l2 rd s1 s2 := by
    unfold survey_line; simp only []; rw [ef (by decide : (3 : Int) ≠ 1), ef (by decide : (3 : Int) ≠ 2), et rfl]
  rw [e, survey_line_J2_eq, cond_true, et (rfl : (3 : Int) = 3)]; rfl
theorem pl_4 : survey_line 1267650600228229401496703205376 (4, ((h, s), ((f, (t, (l, (a, (w, (c, ((r1, r2), (l1, l2)))))))), (rd, (s1, s2))))) = Option.bind (survey_words 1267650600228229401496703205376 OP [rd]) fun r => bif ch 0 h s f t l a w c r1 r2 l1 l2 0 s1 s2 then Option.bind (survey_short 1267650600228229401496703205376 [rd]) fun q => some (r, q) else some (r, false) := by
  have e : survey_line 1267650600228229401496703205376 (4, ((h, s), ((f, (t, (l, (a, (w, (c, ((r1, r2), (l1, l2)))))))), (rd, (s1, s2))))) = survey_line_J2 1267650600228229401496703205376 1267650600228229401496703205376 4 ((4 : Int) == 4) 4 h s f t l a w c r1 r2 l1 l2 rd s1 s2 0 h s f t l a w c r1 r2 l1 l2 rd s1 s2 := by
    unfold survey_line; simp only []; rw [ef (by decide : (4 : Int) ≠ 1), ef (by decide : (4 : Int) ≠ 2), ef (by decide : (4 : Int) ≠ 3)]
  rw [e, survey_line_J2_eq, et (rfl : (4 : Int) = 4), ef (by decide : (4 : Int) ≠ 3)]; rfl
theorem pl_5 : survey_line 1267650600228229401496703205376 (5, ((h, s), ((f, (t, (l, (a, (w, (c, ((r1, r2), (l1, l2)))))))), (rd, (s1, s2))))) = Option.bind (survey_words 1267650600228229401496703205376 RE [rd, s1, s2]) fun r => bif ch 0 h s f t l a w c r1 r2 l1 l2 0 0 0 then Option.bind (survey_short 1267650600228229401496703205376 [rd, s1, s2]) fun q => some (r, q) else some (r, false) := by
  have e : survey_line 1267650600228229401496703205376 (5, ((h, s), ((f, (t, (l, (a, (w, (c, ((r1, r2), (l1, l2)))))))), (rd, (s1, s2))))) = survey_line_J2 1267650600228229401496703205376 1267650600228229401496703205376 5 ((5 : Int) == 4) 5 h s f t l a w c r1 r2 l1 l2 rd s1 s2 0 h s f t l a w c r1 r2 l1 l2 rd s1 s2 := by
    unfold survey_line; simp only []; rw [ef (by decide : (5 : Int) ≠ 1), ef (by decide : (5 : Int) ≠ 2), ef (by decide : (5 : Int) ≠ 3)]
  rw [e, survey_line_J2_eq, ef (by decide : (5 : Int) ≠ 4), et (rfl : (5 : Int) = 5), ef (by decide : (5 : Int) ≠ 6)]; rfl
theorem pl_6 : survey_line 1267650600228229401496703205376 (6, ((h, s), ((f, (t, (l, (a, (w, (c, ((r1, r2), (l1, l2)))))))), (rd, (s1, s2))))) = Option.bind (survey_words 1267650600228229401496703205376 LI [rd, s1, s2]) fun r => bif ch 0 h s f t l a w c r1 r2 l1 l2 0 0 0 then Option.bind (survey_short 1267650600228229401496703205376 [rd, s1, s2]) fun q => some (r, q) else some (r, false) := by
  have e : survey_line 1267650600228229401496703205376 (6, ((h, s), ((f, (t, (l, (a, (w, (c, ((r1, r2), (l1, l2)))))))), (rd, (s1, s2))))) = survey_line_J2 1267650600228229401496703205376 1267650600228229401496703205376 6 ((6 : Int) == 4) 6 h s f t l a w c r1 r2 l1 l2 rd s1 s2 0 h s f t l a w c r1 r2 l1 l2 rd s1 s2 := by
    unfold survey_line; simp only []; rw [ef (by decide : (6 : Int) ≠ 1), ef (by decide : (6 : Int) ≠ 2), ef (by decide : (6 : Int) ≠ 3)]
  rw [e, survey_line_J2_eq, ef (by decide : (6 : Int) ≠ 4), ef (by decide : (6 : Int) ≠ 5), et (rfl : (6 : Int) = 6), et (rfl : (6 : Int) = 6)]; rfl
theorem pl_0 {k : Int} (h1 : k ≠ 1) (h2 : k ≠ 2) (h3 : k ≠ 3) (h4 : k ≠ 4) (h5 : k ≠ 5) (h6 : k ≠ 6) : survey_line 1267650600228229401496703205376 (k, ((h, s), ((f, (t, (l, (a, (w, (c, ((r1, r2), (l1, l2)))))))), (rd, (s1, s2))))) = some ([], false) := by
  unfold survey_line
  simp only []
  rw [ef h1, ef h2, ef h3, ne2 h4, survey_line_J2_eq, cond_false, ef h5, ef h6]
theorem rp_1 : ref02_Plain 1267650600228229401496703205376 (1, ((h, s), ((f, (t, (l, (a, (w, (c, ((r1, r2), (l1, l2)))))))), (rd, (s1, s2))))) = bif rc 1 h s 0 0 0 0 false false 0 0 0 0 0 0 0 1 h s f t l a w c r1 r2 l1 l2 rd s1 s2 then Option.bind (ref02_short 1267650600228229401496703205376 [h, rd, s1, s2, f, t, l, a, r1, r2, l1, l2]) fun q => some q else some false := by
  have e : ref02_Plain 1267650600228229401496703205376 (1, ((h, s), ((f, (t, (l, (a, (w, (c, ((r1, r2), (l1, l2)))))))), (rd, (s1, s2))))) = ref02_Plain_J1 1267650600228229401496703205376 1267650600228229401496703205376 1 h s f t l a w c r1 r2 l1 l2 rd s1 s2 1 h s 0 0 0 0 false false 0 0 0 0 0 0 0 := by
    unfold ref02_Plain; simp only []; rw [et (rfl : (1 : Int) = 1)]
  rw [e, ref02_Plain_J1_eq]; rfl
theorem rp_2 : ref02_Plain 1267650600228229401496703205376 (2, ((h, s), ((f, (t, (l, (a, (w, (c, ((r1, r2), (l1, l2)))))))), (rd, (s1, s2))))) = bif rc 2 0 false f t l a w false r1 r2 l1 l2 0 0 0 2 h s f t l a w c r1 r2 l1 l2 rd s1 s2 then Option.bind (ref02_short 1267650600228229401496703205376 [h, rd, s1, s2, f, t, l, a, r1, r2, l1, l2]) fun q => some q else some false := by
  have e : ref02_Plain 1267650600228229401496703205376 (2, ((h, s), ((f, (t, (l, (a, (w, (c, ((r1, r2), (l1, l2)))))))), (rd, (s1, s2))))) = ref02_Plain_J1 1267650600228229401496703205376 1267650600228229401496703205376 2 h s f t l a w c r1 r2 l1 l2 rd s1 s2 2 0 false f t l a w false r1 r2 l1 l2 0 0 0 := by
    unfold ref02_Plain; simp only []; rw [ef (by decide : (2 : Int) ≠ 1), et (rfl : (2 : Int) = 2)]
  rw [e, ref02_Plain_J1_eq]; rfl
theorem rp_3 : ref02_Plain 1267650600228229401496703205376 (3, ((h, s), ((f, (t, (l, (a, (w, (c, ((r1, r2), (l1, l2)))))))), (rd, (s1, s2))))) = bif rc 3 0 false 0 0 0 0 false false 0 0 0 0 rd 0 0 3 h s f t l a w c r1 r2 l1 l2 rd s1 s2 then Option.bind (ref02_short 1267650600228229401496703205376 [h, rd, s1, s2, f, t, l, a, r1, r2, l1, l2]) fun q => some q else some false := by
  have e : ref02_Plain 1267650600228229401496703205376 (3, ((h, s), ((f, (t, (l, (a, (w, (c, ((r1, r2), (l1, l2)))))))), (rd, (s1, s2))))) = ref02_Plain_J1 1267650600228229401496703205376 1267650600228229401496703205376 3 h s f t l a w c r1 r2 l1 l2 rd s1 s2 3 0 false 0 0 0 0 false false 0 0 0 0 rd 0 0 := by
    unfold ref02_Plain; simp only []; rw [ef (by decide : (3 : Int) ≠ 1), ef (by decide : (3 : Int) ≠ 2), et (rfl : (3 : Int) = 3)]
  rw [e, ref02_Plain_J1_eq]; rfl
theorem rp_4 : ref02_Plain 1267650600228229401496703205376 (4, ((h, s), ((f, (t, (l, (a, (w, (c, ((r1, r2), (l1, l2)))))))), (rd, (s1, s2))))) = bif rc 4 0 false 0 0 0 0 false false 0 0 0 0 rd 0 0 4 h s f t l a w c r1 r2 l1 l2 rd s1 s2 then Option.bind (ref02_short 1267650600228229401496703205376 [h, rd, s1, s2, f, t, l, a, r1, r2, l1, l2]) fun q => some q else some false := by
  have e : ref02_Plain 1267650600228229401496703205376 (4, ((h, s), ((f, (t, (l, (a, (w, (c, ((r1, r2), (l1, l2)))))))), (rd, (s1, s2))))) = ref02_Plain_J1 1267650600228229401496703205376 1267650600228229401496703205376 4 h s f t l a w c r1 r2 l1 l2 rd s1 s2 4 0 false 0 0 0 0 false false 0 0 0 0 rd 0 0 := by
    unfold ref02_Plain; simp only []; rw [ef (by decide : (4 : Int) ≠ 1), ef (by decide : (4 : Int) ≠ 2), ef (by decide : (4 : Int) ≠ 3), et (rfl : (4 : Int) = 4)]
  rw [e, ref02_Plain_J1_eq]; rfl
theorem rp_5 : ref02_Plain 1267650600228229401496703205376 (5, ((h, s), ((f, (t, (l, (a, (w, (c, ((r1, r2), (l1, l2)))))))), (rd, (s1, s2))))) = bif rc 5 0 false 0 0 0 0 false false 0 0 0 0 rd s1 s2 5 h s f t l a w c r1 r2 l1 l2 rd s1 s2 then Option.bind (ref02_short 1267650600228229401496703205376 [h, rd, s1, s2, f, t, l, a, r1, r2, l1, l2]) fun q => some q else some false := by
  have e : ref02_Plain 1267650600228229401496703205376 (5, ((h, s), ((f, (t, (l, (a, (w, (c, ((r1, r2), (l1, l2)))))))), (rd, (s1, s2))))) = ref02_Plain_J1 1267650600228229401496703205376 1267650600228229401496703205376 5 h s f t l a w c r1 r2 l1 l2 rd s1 s2 5 0 false 0 0 0 0 false false 0 0 0 0 rd s1 s2 := by
    unfold ref02_Plain; simp only []; rw [ef (by decide : (5 : Int) ≠ 1), ef (by decide : (5 : Int) ≠ 2), ef (by decide : (5 : Int) ≠ 3), ef (by decide : (5 : Int) ≠ 4), et (rfl : (5 : Int) = 5)]
  rw [e, ref02_Plain_J1_eq]; rfl
theorem rp_6 : ref02_Plain 1267650600228229401496703205376 (6, ((h, s), ((f, (t, (l, (a, (w, (c, ((r1, r2), (l1, l2)))))))), (rd, (s1, s2))))) = bif rc 6 0 false 0 0 0 0 false false 0 0 0 0 rd s1 s2 6 h s f t l a w c r1 r2 l1 l2 rd s1 s2 then Option.bind (ref02_short 1267650600228229401496703205376 [h, rd, s1, s2, f, t, l, a, r1, r2, l1, l2]) fun q => some q else some false := by
  have e : ref02_Plain 1267650600228229401496703205376 (6, ((h, s), ((f, (t, (l, (a, (w, (c, ((r1, r2), (l1, l2)))))))), (rd, (s1, s2))))) = ref02_Plain_J1 1267650600228229401496703205376 1267650600228229401496703205376 6 h s f t l a w c r1 r2 l1 l2 rd s1 s2 6 0 false 0 0 0 0 false false 0 0 0 0 rd s1 s2 := by
    unfold ref02_Plain; simp only []; rw [ef (by decide : (6 : Int) ≠ 1), ef (by decide : (6 : Int) ≠ 2), ef (by decide : (6 : Int) ≠ 3), ef (by decide : (6 : Int) ≠ 4), ef (by decide : (6 : Int) ≠ 5), et (rfl : (6 : Int) = 6)]
  rw [e, ref02_Plain_J1_eq]; rfl
theorem rp_0 {k : Int} (h1 : k ≠ 1) (h2 : k ≠ 2) (h3 : k ≠ 3) (h4 : k ≠ 4) (h5 : k ≠ 5) (h6 : k ≠ 6) : ref02_Plain 1267650600228229401496703205376 (k, ((h, s), ((f, (t, (l, (a, (w, (c, ((r1, r2), (l1, l2)))))))), (rd, (s1, s2))))) = some false := by
  unfold ref02_Plain
  simp only []
  rw [ef h1, ef h2, ef h3, ef h4, ef h5, ef h6]
end
end Go.Proofs.YtipokcccpbcmeaaDoor
set_option linter.all false
namespace Go.Proofs.YtipokcccpbcmeaaDoor
open Go.Pv M
def PP (e : T_Edit) : Prop := (∃ h s, e = eP h s ∧ Sh h) ∨ (∃ f t l a w r1 r2 l1 l2, e = eR f t l a w r1 r2 l1 l2 ∧ Sh f ∧ Sh t ∧ Sh l ∧ Sh a ∧ Sh r1 ∧ Sh r2 ∧ Sh l1 ∧ Sh l2) ∨ (∃ r, e = eN 3 r 0 0 ∧ Sh r) ∨ (∃ r, e = eN 4 r 0 0 ∧ Sh r) ∨ (∃ r a b, e = eN 5 r a b ∧ Sh r ∧ Sh a ∧ Sh b) ∨ (∃ r a b, e = eN 6 r a b ∧ Sh r ∧ Sh a ∧ Sh b)
theorem shN {a : List UInt8} (h : okNum a) : Sh (numV a) := (ok_isNum h).1
theorem PlE.pp {e : T_Edit} {w : List (List UInt8)} (h : PlE e w) : PP e := by
  cases h with
  | p a s h => exact .inl ⟨_, _, rfl, shN h⟩
  | r a1 a2 a3 a4 b1 b2 b3 b4 w h h' =>
    simp only [okAll_cons] at h h'
    exact .inr (.inl ⟨_, _, _, _, _, _, _, _, _, rfl, shN h.1, shN h.2.1, shN h.2.2.1, shN h.2.2.2.1, shN h'.1, shN h'.2.1, shN h'.2.2.1, shN h'.2.2.2.1⟩)
  | c a h => exact .inr (.inr (.inl ⟨_, rfl, shN h⟩))
  | o a h => exact .inr (.inr (.inr (.inl ⟨_, rfl, shN h⟩)))
  | s a b c h =>
    simp only [okAll_cons] at h
    exact .inr (.inr (.inr (.inr (.inl ⟨_, _, _, rfl, shN h.1, shN h.2.1, shN h.2.2.1⟩))))
  | l a b c h =>
    simp only [okAll_cons] at h
    exact .inr (.inr (.inr (.inr (.inr ⟨_, _, _, rfl, shN h.1, shN h.2.1, shN h.2.2.1⟩))))
def LY (e : T_Edit) : Prop := ∃ w, PlE e w ∧ survey_line 1267650600228229401496703205376 e = some (jn w, true) ∧ ref02_Plain 1267650600228229401496703205376 e = some true ∧ ref02_line 1267650600228229401496703205376 e = some (jn w ++ [10])
def LN (e : T_Edit) : Prop := (∃ s, survey_line 1267650600228229401496703205376 e = some (s, false)) ∧ ref02_Plain 1267650600228229401496703205376 e = some false
theorem Sh.i {v : Int} (h : Sh v) : I64 v := by unfold Sh at h; unfold I64; omega
theorem i0 : I64 0 := by unfold I64; omega
theorem all1 {P : Int → Prop} {a : Int} (h : P a) : ∀ n, n ∈ [a] → P n := fun n hn => by rw [List.mem_singleton.1 hn]; exact h
theorem all3 {P : Int → Prop} {a b c : Int} (h1 : P a) (h2 : P b) (h3 : P c) : ∀ n, n ∈ [a, b, c] → P n := fun n hn => by
  simp only [List.mem_cons, List.not_mem_nil, or_false] at hn
  rcases hn with rfl | rfl | rfl <;> assumption
theorem all4 {P : Int → Prop} {a b c d : Int} (h1 : P a) (h2 : P b) (h3 : P c) (h4 : P d) : ∀ n, n ∈ [a, b, c, d] → P n := fun n hn => by
  simp only [List.mem_cons, List.not_mem_nil, or_false] at hn
  rcases hn with rfl | rfl | rfl | rfl <;> assumption
theorem chT : ch 0 0 false 0 0 0 0 false false 0 0 0 0 0 0 0 = true := rfl
theorem shT {n : Int} {l : List Int} (h : Sh n) : shA (n :: l) = shA l := by show (decide (Sh n) && shA l) = _; rw [decide_eq_true h]; rfl
theorem sh0T {l : List Int} : shA (0 :: l) = shA l := rfl
theorem okAll4 {a b c d : List UInt8} (h1 : okNum a) (h2 : okNum b) (h3 : okNum c) (h4 : okNum d) : okAll [a, b, c, d] := okAll_cons.2 ⟨h1, okAll_cons.2 ⟨h2, okAll_cons.2 ⟨h3, okAll_cons.2 ⟨h4, fun s hs => by cases hs⟩⟩⟩⟩
theorem okAll3 {a b c : List UInt8} (h1 : okNum a) (h2 : okNum b) (h3 : okNum c) : okAll [a, b, c] := okAll_cons.2 ⟨h1, okAll_cons.2 ⟨h2, okAll_cons.2 ⟨h3, fun s hs => by cases hs⟩⟩⟩
theorem ly_1 {h : Int} {s : Bool} (hh : Sh h) : LY (eP h s) := by
  have hp := PlE.p (itoaM h) s (num_of hh).1
  rw [(num_of hh).2] at hp
  have hw := words_eq (a := PL) (l := [h]) (by decide) (by simp) (all1 hh.i)
  have hl := cat_len [h]
  refine ⟨_, hp, ?_, ?_, ?_⟩
  · unfold eP
    rw [pl_1]
    cases s with
    | true => rw [cond_true, hw.1, bind_some', dt (by simp at hl ⊢; omega), bt chT, (short_eq (by simp)).1, bind_some', shT hh]; simp [jn, cat, shA]
    | false => rw [cond_false, hw.1, bind_some', dt (by simp at hl ⊢; omega), bt chT, (short_eq (by simp)).1, bind_some', shT hh]; simp [jn, cat, shA]
  · unfold eP
    rw [rp_1, bt (by simp [rc]), (short_eq (by simp)).2, bind_some', shT hh]; rfl
  · unfold eP ref02_line
    simp only []
    rw [et (rfl : (1 : Int) = 1)]
    cases s with
    | true => rw [cond_true, hw.2, bind_some', dt (by simp at hl ⊢; omega)]; simp [jn, cat]
    | false => rw [cond_false, hw.2, bind_some', dt (by simp at hl ⊢; omega)]; simp [jn, cat]
theorem ly_2 {f t l a : Int} {w : Bool} {r1 r2 l1 l2 : Int} (h1 : Sh f) (h2 : Sh t) (h3 : Sh l) (h4 : Sh a) (h5 : Sh r1) (h6 : Sh r2) (h7 : Sh l1) (h8 : Sh l2) : LY (eR f t l a w r1 r2 l1 l2) := by
  have hp := PlE.r (itoaM f) (itoaM t) (itoaM l) (itoaM a) (itoaM r1) (itoaM r2) (itoaM l1) (itoaM l2) w (okAll4 (num_of h1).1 (num_of h2).1 (num_of h3).1 (num_of h4).1) (okAll4 (num_of h5).1 (num_of h6).1 (num_of h7).1 (num_of h8).1)
  rw [(num_of h1).2, (num_of h2).2, (num_of h3).2, (num_of h4).2, (num_of h5).2, (num_of h6).2, (num_of h7).2, (num_of h8).2] at hp
  have hw := words_eq (a := RO) (l := [f, t, l, a]) (by decide) (by simp) (all4 h1.i h2.i h3.i h4.i)
  have hwa := words_eq (a := 32 :: WA) (l := [r1, r2, l1, l2]) (by decide) (by simp) (all4 h5.i h6.i h7.i h8.i)
  have hma := words_eq (a := 32 :: MA) (l := [r1, r2, l1, l2]) (by decide) (by simp) (all4 h5.i h6.i h7.i h8.i)
  have hl := cat_len [f, t, l, a]
  have hl' := cat_len [r1, r2, l1, l2]
  refine ⟨_, hp, ?_, ?_, ?_⟩
  · unfold eR
    rw [pl_2]
    cases w with
    | true => rw [cond_true, hw.1, bind_some', hwa.1, bind_some', dt (by simp at hl hl' ⊢; omega), bt chT, bnot_f rfl, (short_eq (by simp)).1, bind_some', shT h1, shT h2, shT h3, shT h4, shT h5, shT h6, shT h7, shT h8]; simp [jn, cat, shA]
    | false => rw [cond_false, hw.1, bind_some', hma.1, bind_some', dt (by simp at hl hl' ⊢; omega), bt chT, bnot_f rfl, (short_eq (by simp)).1, bind_some', shT h1, shT h2, shT h3, shT h4, shT h5, shT h6, shT h7, shT h8]; simp [jn, cat, shA]
  · unfold eR
    rw [rp_2, bt (by simp [rc]), (short_eq (by simp)).2, bind_some', sh0T, sh0T, sh0T, sh0T, shT h1, shT h2, shT h3, shT h4, shT h5, shT h6, shT h7, shT h8]; rfl
  · unfold eR ref02_line
    simp only []
    rw [ef (by decide : (2 : Int) ≠ 1), et (rfl : (2 : Int) = 2)]
    cases w with
    | true => rw [cond_true, hw.2, bind_some', hwa.2, bind_some', dt (by simp at hl hl' ⊢; omega), dt (by simp at hl hl' ⊢; omega)]; simp [jn, cat]
    | false => rw [cond_false, hw.2, bind_some', hma.2, bind_some', dt (by simp at hl hl' ⊢; omega), dt (by simp at hl hl' ⊢; omega)]; simp [jn, cat]
theorem ly_3 {r : Int} (h1 : Sh r) : LY (eN 3 r 0 0) := by
  have hp := PlE.c (itoaM r) (num_of h1).1
  rw [(num_of h1).2] at hp
  have hw := words_eq (a := CL) (l := [r]) (by decide) (by simp) (all1 h1.i)
  have hl := cat_len [r]
  refine ⟨_, hp, ?_, ?_, ?_⟩
  · unfold eN
    rw [pl_3, hw.1, bind_some', bt chT, (short_eq (by simp)).1, bind_some', shT h1]; simp [jn, cat, shA]
  · unfold eN
    rw [rp_3, bt (by simp [rc]), (short_eq (by simp)).2, bind_some', sh0T, shT h1]; rfl
  · unfold eN ref02_line
    simp only []
    rw [ef (by decide : (3 : Int) ≠ 1), ef (by decide : (3 : Int) ≠ 2), et (rfl : (3 : Int) = 3), hw.2, bind_some', dt (by simp at hl ⊢; omega)]; simp [jn, cat]
theorem ly_4 {r : Int} (h1 : Sh r) : LY (eN 4 r 0 0) := by
  have hp := PlE.o (itoaM r) (num_of h1).1
  rw [(num_of h1).2] at hp
  have hw := words_eq (a := OP) (l := [r]) (by decide) (by simp) (all1 h1.i)
  have hl := cat_len [r]
  refine ⟨_, hp, ?_, ?_, ?_⟩
  · unfold eN
    rw [pl_4, hw.1, bind_some', bt chT, (short_eq (by simp)).1, bind_some', shT h1]; simp [jn, cat, shA]
  · unfold eN
    rw [rp_4, bt (by simp [rc]), (short_eq (by simp)).2, bind_some', sh0T, shT h1]; rfl
  · unfold eN ref02_line
    simp only []
    rw [ef (by decide : (4 : Int) ≠ 1), ef (by decide : (4 : Int) ≠ 2), ef (by decide : (4 : Int) ≠ 3), et (rfl : (4 : Int) = 4), hw.2, bind_some', dt (by simp at hl ⊢; omega)]; simp [jn, cat]
theorem ly_5 {r a b : Int} (h1 : Sh r) (h2 : Sh a) (h3 : Sh b) : LY (eN 5 r a b) := by
  have hp := PlE.s (itoaM r) (itoaM a) (itoaM b) (okAll3 (num_of h1).1 (num_of h2).1 (num_of h3).1)
  rw [(num_of h1).2, (num_of h2).2, (num_of h3).2] at hp
  have hw := words_eq (a := RE) (l := [r, a, b]) (by decide) (by simp) (all3 h1.i h2.i h3.i)
  have hl := cat_len [r, a, b]
  refine ⟨_, hp, ?_, ?_, ?_⟩
  · unfold eN
    rw [pl_5, hw.1, bind_some', bt chT, (short_eq (by simp)).1, bind_some', shT h1, shT h2, shT h3]; simp [jn, cat, shA]
  · unfold eN
    rw [rp_5, bt (by simp [rc]), (short_eq (by simp)).2, bind_some', sh0T, shT h1, shT h2, shT h3]; rfl
  · unfold eN ref02_line
    simp only []
    rw [ef (by decide : (5 : Int) ≠ 1), ef (by decide : (5 : Int) ≠ 2), ef (by decide : (5 : Int) ≠ 3), ef (by decide : (5 : Int) ≠ 4), et (rfl : (5 : Int) = 5), hw.2, bind_some', dt (by simp at hl ⊢; omega)]; simp [jn, cat]
theorem ly_6 {r a b : Int} (h1 : Sh r) (h2 : Sh a) (h3 : Sh b) : LY (eN 6 r a b) := by
  have hp := PlE.l (itoaM r) (itoaM a) (itoaM b) (okAll3 (num_of h1).1 (num_of h2).1 (num_of h3).1)
  rw [(num_of h1).2, (num_of h2).2, (num_of h3).2] at hp
  have hw := words_eq (a := LI) (l := [r, a, b]) (by decide) (by simp) (all3 h1.i h2.i h3.i)
  have hl := cat_len [r, a, b]
  refine ⟨_, hp, ?_, ?_, ?_⟩
  · unfold eN
    rw [pl_6, hw.1, bind_some', bt chT, (short_eq (by simp)).1, bind_some', shT h1, shT h2, shT h3]; simp [jn, cat, shA]
  · unfold eN
    rw [rp_6, bt (by simp [rc]), (short_eq (by simp)).2, bind_some', sh0T, shT h1, shT h2, shT h3]; rfl
  · unfold eN ref02_line
    simp only []
    rw [ef (by decide : (6 : Int) ≠ 1), ef (by decide : (6 : Int) ≠ 2), ef (by decide : (6 : Int) ≠ 3), ef (by decide : (6 : Int) ≠ 4), ef (by decide : (6 : Int) ≠ 5), hw.2, bind_some', dt (by simp at hl ⊢; omega)]; simp [jn, cat]
theorem pp_ly {e : T_Edit} (h : PP e) : LY e := by
  rcases h with ⟨h, s, rfl, p⟩ | ⟨f, t, l, a, w, r1, r2, l1, l2, rfl, p1, p2, p3, p4, p5, p6, p7, p8⟩ | ⟨r, rfl, p⟩ | ⟨r, rfl, p⟩ | ⟨r, a, b, rfl, p1, p2, p3⟩ | ⟨r, a, b, rfl, p1, p2, p3⟩
  · exact ly_1 p
  · exact ly_2 p1 p2 p3 p4 p5 p6 p7 p8
  · exact ly_3 p
  · exact ly_4 p
  · exact ly_5 p1 p2 p3
  · exact ly_6 p1 p2 p3
def InE (e : T_Edit) : Prop := I64 e.2.1.1 ∧ I64 e.2.2.1.1 ∧ I64 e.2.2.1.2.1 ∧ I64 e.2.2.1.2.2.1 ∧ I64 e.2.2.1.2.2.2.1 ∧ I64 e.2.2.1.2.2.2.2.2.2.1.1 ∧ I64 e.2.2.1.2.2.2.2.2.2.1.2 ∧ I64 e.2.2.1.2.2.2.2.2.2.2.1 ∧ I64 e.2.2.1.2.2.2.2.2.2.2.2 ∧ I64 e.2.2.2.1 ∧ I64 e.2.2.2.2.1 ∧ I64 e.2.2.2.2.2
theorem rc_no {b : Bool} {l : List Int} (hl : l.length ≤ 20) (h : b = true → shA l = true → False) : (bif b then Option.bind (ref02_short 1267650600228229401496703205376 l) fun q => some q else some false) = some false := by
  cases b with
  | false => rfl
  | true =>
    rw [cond_true, (short_eq hl).2, bind_some']
    cases hs : shA l with
    | false => rfl
    | true => exact (h rfl hs).elim
theorem ch_no {b : Bool} {l : List Int} {x : List UInt8} (hl : l.length ≤ 20) (h : b = true → shA l = true → False) : ∃ y, (bif b then Option.bind (survey_short 1267650600228229401496703205376 l) fun q => some (x, q) else some (x, false)) = some (y, false) := by
  cases b with
  | false => exact ⟨x, rfl⟩
  | true =>
    rw [cond_true, (short_eq hl).1, bind_some']
    cases hs : shA l with
    | false => exact ⟨x, rfl⟩
    | true => exact (h rfl hs).elim
section
variable {h : Int} {s : Bool} {f t l a : Int} {w c : Bool} {r1 r2 l1 l2 rd s1 s2 : Int}
theorem ln_1 (i1 : I64 h) (hn : ¬ PP (1, ((h, s), ((f, (t, (l, (a, (w, (c, ((r1, r2), (l1, l2)))))))), (rd, (s1, s2)))))) : LN (1, ((h, s), ((f, (t, (l, (a, (w, (c, ((r1, r2), (l1, l2)))))))), (rd, (s1, s2))))) := by
  have hr : ref02_Plain 1267650600228229401496703205376 (1, ((h, s), ((f, (t, (l, (a, (w, (c, ((r1, r2), (l1, l2)))))))), (rd, (s1, s2))))) = some false := by
    rw [rp_1]
    refine rc_no (by simp) fun h1 h2 => ?_
    simp only [rc, Bool.and_eq_true, beq_iff_eq] at h1
    simp only [shA_cons] at h2
    obtain (⟨-, -, -, rfl, rfl, rfl, rfl, rfl, rfl, rfl, rfl, rfl, rfl, rfl, rfl, rfl⟩) := h1
    obtain ⟨q_h, -, -, -, -, -, -, -, -, -, -, -, -⟩ := h2
    exact hn (.inl ⟨h, s, rfl, q_h⟩)
  have hw := words_eq (a := PL) (l := [h]) (by decide) (by simp) (all1 i1)
  have hl := cat_len [h]
  refine ⟨?_, hr⟩
  rw [pl_1]
  cases s with
  | true =>
    rw [cond_true, hw.1, bind_some', dt (by simp at hl ⊢; omega)]
    exact ch_no (by simp) (fun h1 h2 => by
      simp only [ch, Bool.and_eq_true, beq_iff_eq] at h1
      simp only [shA_cons] at h2
      obtain (⟨-, -, -, rfl, rfl, rfl, rfl, rfl, rfl, rfl, rfl, rfl, rfl, rfl, rfl, rfl⟩) := h1
      obtain ⟨q_h, -⟩ := h2
      exact hn (.inl ⟨h, true, rfl, q_h⟩))
  | false =>
    rw [cond_false, hw.1, bind_some', dt (by simp at hl ⊢; omega)]
    exact ch_no (by simp) (fun h1 h2 => by
      simp only [ch, Bool.and_eq_true, beq_iff_eq] at h1
      simp only [shA_cons] at h2
      obtain (⟨-, -, -, rfl, rfl, rfl, rfl, rfl, rfl, rfl, rfl, rfl, rfl, rfl, rfl, rfl⟩) := h1
      obtain ⟨q_h, -⟩ := h2
      exact hn (.inl ⟨h, false, rfl, q_h⟩))
theorem ln_2 (i1 : I64 f) (i2 : I64 t) (i3 : I64 l) (i4 : I64 a) (i5 : I64 r1) (i6 : I64 r2) (i7 : I64 l1) (i8 : I64 l2) (hn : ¬ PP (2, ((h, s), ((f, (t, (l, (a, (w, (c, ((r1, r2), (l1, l2)))))))), (rd, (s1, s2)))))) : LN (2, ((h, s), ((f, (t, (l, (a, (w, (c, ((r1, r2), (l1, l2)))))))), (rd, (s1, s2))))) := by
  have hr : ref02_Plain 1267650600228229401496703205376 (2, ((h, s), ((f, (t, (l, (a, (w, (c, ((r1, r2), (l1, l2)))))))), (rd, (s1, s2))))) = some false := by
    rw [rp_2]
    refine rc_no (by simp) fun h1 h2 => ?_
    simp only [rc, Bool.and_eq_true, beq_iff_eq] at h1
    simp only [shA_cons] at h2
    obtain (⟨-, rfl, rfl, -, -, -, -, -, rfl, -, -, -, -, rfl, rfl, rfl⟩) := h1
    obtain ⟨-, -, -, -, q_f, q_t, q_l, q_a, q_r1, q_r2, q_l1, q_l2, -⟩ := h2
    exact hn (.inr (.inl ⟨f, t, l, a, w, r1, r2, l1, l2, rfl, q_f, q_t, q_l, q_a, q_r1, q_r2, q_l1, q_l2⟩))
  have hw := words_eq (a := RO) (l := [f, t, l, a]) (by decide) (by simp) (all4 i1 i2 i3 i4)
  have hwWA := words_eq (a := 32 :: WA) (l := [r1, r2, l1, l2]) (by decide) (by simp) (all4 i5 i6 i7 i8)
  have hwMA := words_eq (a := 32 :: MA) (l := [r1, r2, l1, l2]) (by decide) (by simp) (all4 i5 i6 i7 i8)
  have hl := cat_len [f, t, l, a]
  have hl' := cat_len [r1, r2, l1, l2]
  refine ⟨?_, hr⟩
  rw [pl_2]
  cases w with
  | true =>
    rw [cond_true, hw.1, bind_some', hwWA.1, bind_some', dt (by simp at hl hl' ⊢; omega)]
    cases c with
    | true =>
      rw [bnot_t (show true = true from rfl)]
      cases ch 0 h s 0 0 0 0 false false 0 0 0 0 rd s1 s2 <;> exact ⟨_, rfl⟩
    | false =>
      rw [bnot_f (show false = false from rfl)]
      exact ch_no (by simp) (fun h1 h2 => by
        simp only [ch, Bool.and_eq_true, beq_iff_eq] at h1
        simp only [shA_cons] at h2
        obtain (⟨-, rfl, rfl, -, -, -, -, -, -, -, -, -, -, rfl, rfl, rfl⟩) := h1
        obtain ⟨q_f, q_t, q_l, q_a, q_r1, q_r2, q_l1, q_l2, -⟩ := h2
        exact hn (.inr (.inl ⟨f, t, l, a, true, r1, r2, l1, l2, rfl, q_f, q_t, q_l, q_a, q_r1, q_r2, q_l1, q_l2⟩)))
  | false =>
    rw [cond_false, hw.1, bind_some', hwMA.1, bind_some', dt (by simp at hl hl' ⊢; omega)]
    cases c with
    | true =>
      rw [bnot_t (show true = true from rfl)]
      cases ch 0 h s 0 0 0 0 false false 0 0 0 0 rd s1 s2 <;> exact ⟨_, rfl⟩
    | false =>
      rw [bnot_f (show false = false from rfl)]
      exact ch_no (by simp) (fun h1 h2 => by
        simp only [ch, Bool.and_eq_true, beq_iff_eq] at h1
        simp only [shA_cons] at h2
        obtain (⟨-, rfl, rfl, -, -, -, -, -, -, -, -, -, -, rfl, rfl, rfl⟩) := h1
        obtain ⟨q_f, q_t, q_l, q_a, q_r1, q_r2, q_l1, q_l2, -⟩ := h2
        exact hn (.inr (.inl ⟨f, t, l, a, false, r1, r2, l1, l2, rfl, q_f, q_t, q_l, q_a, q_r1, q_r2, q_l1, q_l2⟩)))
theorem ln_3 (i1 : I64 rd) (hn : ¬ PP (3, ((h, s), ((f, (t, (l, (a, (w, (c, ((r1, r2), (l1, l2)))))))), (rd, (s1, s2)))))) : LN (3, ((h, s), ((f, (t, (l, (a, (w, (c, ((r1, r2), (l1, l2)))))))), (rd, (s1, s2))))) := by
  have hr : ref02_Plain 1267650600228229401496703205376 (3, ((h, s), ((f, (t, (l, (a, (w, (c, ((r1, r2), (l1, l2)))))))), (rd, (s1, s2))))) = some false := by
    rw [rp_3]
    refine rc_no (by simp) fun h1 h2 => ?_
    simp only [rc, Bool.and_eq_true, beq_iff_eq] at h1
    simp only [shA_cons] at h2
    obtain (⟨-, rfl, rfl, rfl, rfl, rfl, rfl, rfl, rfl, rfl, rfl, rfl, rfl, -, rfl, rfl⟩) := h1
    obtain ⟨-, q_rd, -, -, -, -, -, -, -, -, -, -, -⟩ := h2
    exact hn (.inr (.inr (.inl ⟨rd, rfl, q_rd⟩)))
  have hw := words_eq (a := CL) (l := [rd]) (by decide) (by simp) (all1 i1)
  refine ⟨?_, hr⟩
  rw [pl_3, hw.1, bind_some']
  exact ch_no (by simp) (fun h1 h2 => by
      simp only [ch, Bool.and_eq_true, beq_iff_eq] at h1
      simp only [shA_cons] at h2
      obtain (⟨-, rfl, rfl, rfl, rfl, rfl, rfl, rfl, rfl, rfl, rfl, rfl, rfl, -, rfl, rfl⟩) := h1
      obtain ⟨q_rd, -⟩ := h2
      exact hn (.inr (.inr (.inl ⟨rd, rfl, q_rd⟩))))
theorem ln_4 (i1 : I64 rd) (hn : ¬ PP (4, ((h, s), ((f, (t, (l, (a, (w, (c, ((r1, r2), (l1, l2)))))))), (rd, (s1, s2)))))) : LN (4, ((h, s), ((f, (t, (l, (a, (w, (c, ((r1, r2), (l1, l2)))))))), (rd, (s1, s2))))) := by
  have hr : ref02_Plain 1267650600228229401496703205376 (4, ((h, s), ((f, (t, (l, (a, (w, (c, ((r1, r2), (l1, l2)))))))), (rd, (s1, s2))))) = some false := by
    rw [rp_4]
    refine rc_no (by simp) fun h1 h2 => ?_
    simp only [rc, Bool.and_eq_true, beq_iff_eq] at h1
    simp only [shA_cons] at h2
    obtain (⟨-, rfl, rfl, rfl, rfl, rfl, rfl, rfl, rfl, rfl, rfl, rfl, rfl, -, rfl, rfl⟩) := h1
    obtain ⟨-, q_rd, -, -, -, -, -, -, -, -, -, -, -⟩ := h2
    exact hn (.inr (.inr (.inr (.inl ⟨rd, rfl, q_rd⟩))))
  have hw := words_eq (a := OP) (l := [rd]) (by decide) (by simp) (all1 i1)
  refine ⟨?_, hr⟩
  rw [pl_4, hw.1, bind_some']
  exact ch_no (by simp) (fun h1 h2 => by
      simp only [ch, Bool.and_eq_true, beq_iff_eq] at h1
      simp only [shA_cons] at h2
      obtain (⟨-, rfl, rfl, rfl, rfl, rfl, rfl, rfl, rfl, rfl, rfl, rfl, rfl, -, rfl, rfl⟩) := h1
      obtain ⟨q_rd, -⟩ := h2
      exact hn (.inr (.inr (.inr (.inl ⟨rd, rfl, q_rd⟩)))))
theorem ln_5 (i1 : I64 rd) (i2 : I64 s1) (i3 : I64 s2) (hn : ¬ PP (5, ((h, s), ((f, (t, (l, (a, (w, (c, ((r1, r2), (l1, l2)))))))), (rd, (s1, s2)))))) : LN (5, ((h, s), ((f, (t, (l, (a, (w, (c, ((r1, r2), (l1, l2)))))))), (rd, (s1, s2))))) := by
  have hr : ref02_Plain 1267650600228229401496703205376 (5, ((h, s), ((f, (t, (l, (a, (w, (c, ((r1, r2), (l1, l2)))))))), (rd, (s1, s2))))) = some false := by
    rw [rp_5]
    refine rc_no (by simp) fun h1 h2 => ?_
    simp only [rc, Bool.and_eq_true, beq_iff_eq] at h1
    simp only [shA_cons] at h2
    obtain (⟨-, rfl, rfl, rfl, rfl, rfl, rfl, rfl, rfl, rfl, rfl, rfl, rfl, -, -, -⟩) := h1
    obtain ⟨-, q_rd, q_s1, q_s2, -, -, -, -, -, -, -, -, -⟩ := h2
    exact hn (.inr (.inr (.inr (.inr (.inl ⟨rd, s1, s2, rfl, q_rd, q_s1, q_s2⟩)))))
  have hw := words_eq (a := RE) (l := [rd, s1, s2]) (by decide) (by simp) (all3 i1 i2 i3)
  refine ⟨?_, hr⟩
  rw [pl_5, hw.1, bind_some']
  exact ch_no (by simp) (fun h1 h2 => by
      simp only [ch, Bool.and_eq_true, beq_iff_eq] at h1
      simp only [shA_cons] at h2
      obtain (⟨-, rfl, rfl, rfl, rfl, rfl, rfl, rfl, rfl, rfl, rfl, rfl, rfl, -, -, -⟩) := h1
      obtain ⟨q_rd, q_s1, q_s2, -⟩ := h2
      exact hn (.inr (.inr (.inr (.inr (.inl ⟨rd, s1, s2, rfl, q_rd, q_s1, q_s2⟩))))))
theorem ln_6 (i1 : I64 rd) (i2 : I64 s1) (i3 : I64 s2) (hn : ¬ PP (6, ((h, s), ((f, (t, (l, (a, (w, (c, ((r1, r2), (l1, l2)))))))), (rd, (s1, s2)))))) : LN (6, ((h, s), ((f, (t, (l, (a, (w, (c, ((r1, r2), (l1, l2)))))))), (rd, (s1, s2))))) := by
  have hr : ref02_Plain 1267650600228229401496703205376 (6, ((h, s), ((f, (t, (l, (a, (w, (c, ((r1, r2), (l1, l2)))))))), (rd, (s1, s2))))) = some false := by
    rw [rp_6]
    refine rc_no (by simp) fun h1 h2 => ?_
    simp only [rc, Bool.and_eq_true, beq_iff_eq] at h1
    simp only [shA_cons] at h2
    obtain (⟨-, rfl, rfl, rfl, rfl, rfl, rfl, rfl, rfl, rfl, rfl, rfl, rfl, -, -, -⟩) := h1
    obtain ⟨-, q_rd, q_s1, q_s2, -, -, -, -, -, -, -, -, -⟩ := h2
    exact hn (.inr (.inr (.inr (.inr (.inr ⟨rd, s1, s2, rfl, q_rd, q_s1, q_s2⟩)))))
  have hw := words_eq (a := LI) (l := [rd, s1, s2]) (by decide) (by simp) (all3 i1 i2 i3)
  refine ⟨?_, hr⟩
  rw [pl_6, hw.1, bind_some']
  exact ch_no (by simp) (fun h1 h2 => by
      simp only [ch, Bool.and_eq_true, beq_iff_eq] at h1
      simp only [shA_cons] at h2
      obtain (⟨-, rfl, rfl, rfl, rfl, rfl, rfl, rfl, rfl, rfl, rfl, rfl, rfl, -, -, -⟩) := h1
      obtain ⟨q_rd, q_s1, q_s2, -⟩ := h2
      exact hn (.inr (.inr (.inr (.inr (.inr ⟨rd, s1, s2, rfl, q_rd, q_s1, q_s2⟩))))))
end
theorem ln_of {e : T_Edit} (hi : InE e) (hn : ¬ PP e) : LN e := by
  obtain ⟨k, ⟨h, s⟩, ⟨f, t, l, a, w, c, ⟨r1, r2⟩, l1, l2⟩, rd, s1, s2⟩ := e
  obtain ⟨i1, i2, i3, i4, i5, i6, i7, i8, i9, i10, i11, i12⟩ := hi
  by_cases k1 : k = 1
  · subst k1; exact ln_1 i1 hn
  by_cases k2 : k = 2
  · subst k2; exact ln_2 i2 i3 i4 i5 i6 i7 i8 i9 hn
  by_cases k3 : k = 3
  · subst k3; exact ln_3 i10 hn
  by_cases k4 : k = 4
  · subst k4; exact ln_4 i10 hn
  by_cases k5 : k = 5
  · subst k5; exact ln_5 i10 i11 i12 hn
  by_cases k6 : k = 6
  · subst k6; exact ln_6 i10 i11 i12 hn
  exact ⟨⟨[], pl_0 h s f t l a w c r1 r2 l1 l2 rd s1 s2 k1 k2 k3 k4 k5 k6⟩, rp_0 h s f t l a w c r1 r2 l1 l2 rd s1 s2 k1 k2 k3 k4 k5 k6⟩
end Go.Proofs.YtipokcccpbcmeaaDoor
set_option linter.all false
namespace Go.Proofs.YtipokcccpbcmeaaDoor
open Go.Pv M
def sm : Nat → List UInt8 → Nat
  | h, [] => h
  | h, c :: l => sm ((h * 31 + c.toNat) % 65521) l
theorem sm_lt : ∀ (l : List UInt8) (h : Nat), h < 65521 → sm h l < 65521
  | [], h, hh => hh
  | c :: l, h, hh => sm_lt l _ (Nat.mod_lt _ (by omega))
theorem u8lt (c : UInt8) : c.toNat < 256 := c.toNat_lt
theorem sum_loop {s : List UInt8} (hs : s.length ≤ 1000000000000000000) : ∀ (j f k h : Nat), j + k = s.length → j < f → h < 65521 → survey_Sum_L1 1267650600228229401496703205376 f s h k = some (sm h (s.drop k) : Int)
  | 0, f + 1, k, h, hk, hf, hh => by
    rw [drop_nil (by omega), survey_Sum_L1_succ, df (by omega)]; rfl
  | j + 1, f + 1, k, h, hk, hf, hh => by
    have hc := u8lt (s.getD k 0)
    rw [drop_cons 0 (by omega : k < s.length), survey_Sum_L1_succ, dt (by omega), it (by omega), Int.toNat_natCast, W_eq (n := (h : Int) * 31) (by omega) (by omega), W_eq (n := ((s.getD k 0).toNat : Int)) (by omega) (by omega), W_eq (by omega) (by omega), W_eq (n := (k : Int) + 1) (by omega) (by omega),
      show ((h : Int) * 31 + ((s.getD k 0).toNat : Int)) = ((h * 31 + (s.getD k 0).toNat : Nat) : Int) by omega, show (65521 : Int) = ((65521 : Nat) : Int) from rfl, ← Int.ofNat_tmod, show ((k : Int) + 1) = ((k + 1 : Nat) : Int) by omega]
    exact sum_loop hs j f (k + 1) _ (by omega) (by omega) (Nat.mod_lt _ (by omega))
theorem rsum_loop {s : List UInt8} (hs : s.length ≤ 1000000000000000000) : ∀ (j f k h : Nat), j + k = s.length → j < f → h < 65521 → ref02_Sum_L1 1267650600228229401496703205376 f s h k = some (sm h (s.drop k) : Int)
  | 0, f + 1, k, h, hk, hf, hh => by
    rw [drop_nil (by omega), ref02_Sum_L1_succ, df (by omega)]; rfl
  | j + 1, f + 1, k, h, hk, hf, hh => by
    have hc := u8lt (s.getD k 0)
    rw [drop_cons 0 (by omega : k < s.length), ref02_Sum_L1_succ, dt (by omega), it (by omega), Int.toNat_natCast, W_eq (n := (h : Int) * 31) (by omega) (by omega), W_eq (n := ((s.getD k 0).toNat : Int)) (by omega) (by omega), W_eq (by omega) (by omega), W_eq (n := (k : Int) + 1) (by omega) (by omega),
      show ((h : Int) * 31 + ((s.getD k 0).toNat : Int)) = ((h * 31 + (s.getD k 0).toNat : Nat) : Int) by omega, show (65521 : Int) = ((65521 : Nat) : Int) from rfl, ← Int.ofNat_tmod, show ((k : Int) + 1) = ((k + 1 : Nat) : Int) by omega]
    exact rsum_loop hs j f (k + 1) _ (by omega) (by omega) (Nat.mod_lt _ (by omega))
theorem sum_eq {s : List UInt8} (hs : s.length ≤ 1000000000000000000) : survey_Sum 1267650600228229401496703205376 s = some (sm 1 s : Int) := sum_loop hs s.length 1267650600228229401496703205376 0 1 rfl (by omega) (by omega)
theorem rsum_eq {s : List UInt8} (hs : s.length ≤ 1000000000000000000) : ref02_Sum 1267650600228229401496703205376 s = some (sm 1 s : Int) := rsum_loop hs s.length 1267650600228229401496703205376 0 1 rfl (by omega) (by omega)
inductive Body : List T_Edit → List UInt8 → Prop
  | nil : Body [] []
  | cons {e : T_Edit} {w : List (List UInt8)} {l : List T_Edit} {t : List UInt8} (h : PlE e w) (k : Body l t) : Body (e :: l) (jn w ++ [10] ++ t)
theorem okNum_len {a : List UInt8} (h : okNum a) : a.length ≤ 19 := by
  obtain ⟨h1, h2, _⟩ := h
  unfold dig at h2
  split at h2
  · rw [List.length_drop] at h2; omega
  · omega
theorem jn_len : ∀ (w : List (List UInt8)), (∀ a, a ∈ w → a.length ≤ 19) → (jn w).length ≤ 20 * w.length
  | [], _ => by simp [jn]
  | [a], h => by have := h a (by simp); simp [jn]; omega
  | a :: b :: t, h => by
    have h1 := h a (by simp)
    have h2 := jn_len (b :: t) fun x hx => h x (List.mem_cons_of_mem _ hx)
    rw [jn, List.length_append, List.length_cons]
    simp only [List.length_cons] at h2 ⊢
    omega
theorem PlE.len {e : T_Edit} {w : List (List UInt8)} (h : PlE e w) : (jn w).length ≤ 200 := by
  have key : (∀ a, a ∈ w → a.length ≤ 19) ∧ w.length ≤ 10 := by
    have ol : ∀ {l : List (List UInt8)}, okAll l → ∀ a, a ∈ l → a.length ≤ 19 := fun h a ha => okNum_len (h a ha)
    cases h with
    | p a s h => exact ⟨fun x hx => by
        simp only [List.mem_cons, List.not_mem_nil, or_false] at hx
        rcases hx with rfl | rfl | rfl
        · decide
        · exact okNum_len h
        · cases s <;> decide, by simp⟩
    | r a1 a2 a3 a4 b1 b2 b3 b4 w h h' =>
      simp only [okAll_cons] at h h'
      exact ⟨fun x hx => by
        simp only [List.mem_cons, List.not_mem_nil, or_false] at hx
        rcases hx with rfl | rfl | rfl | rfl | rfl | rfl | rfl | rfl | rfl | rfl
        · decide
        · exact okNum_len h.1
        · exact okNum_len h.2.1
        · exact okNum_len h.2.2.1
        · exact okNum_len h.2.2.2.1
        · cases w <;> decide
        · exact okNum_len h'.1
        · exact okNum_len h'.2.1
        · exact okNum_len h'.2.2.1
        · exact okNum_len h'.2.2.2.1, by simp⟩
    | c a h | o a h => exact ⟨fun x hx => by
        simp only [List.mem_cons, List.not_mem_nil, or_false] at hx
        rcases hx with rfl | rfl
        · decide
        · exact okNum_len h, by simp⟩
    | s a b c h | l a b c h => exact ⟨fun x hx => by
        rcases List.mem_cons.1 hx with rfl | hx
        · decide
        · exact ol h x hx, by simp⟩
  have := jn_len w key.1
  omega
theorem Body.len {l : List T_Edit} {t : List UInt8} (h : Body l t) : t.length ≤ 201 * l.length := by
  induction h with
  | nil => simp
  | cons h k ih =>
    have := h.len
    simp only [List.length_append, List.length_cons, List.length_nil]; omega
theorem body_of : ∀ (l : List T_Edit), (∀ e, e ∈ l → PP e) → ∃ t, Body l t
  | [], _ => ⟨[], .nil⟩
  | e :: l, h => by
    obtain ⟨w, hw, _⟩ := pp_ly (h e (List.mem_cons_self ..))
    obtain ⟨t, ht⟩ := body_of l fun x hx => h x (List.mem_cons_of_mem _ hx)
    exact ⟨_, .cons hw ht⟩
def wo (e : T_Edit) : List (List UInt8) :=
  if e.1 = 1 then [PL, itoaM e.2.1.1, if e.2.1.2 then SU else BE]
  else if e.1 = 2 then [RO, itoaM e.2.2.1.1, itoaM e.2.2.1.2.1, itoaM e.2.2.1.2.2.1, itoaM e.2.2.1.2.2.2.1, if e.2.2.1.2.2.2.2.1 then WA else MA, itoaM e.2.2.1.2.2.2.2.2.2.1.1, itoaM e.2.2.1.2.2.2.2.2.2.1.2, itoaM e.2.2.1.2.2.2.2.2.2.2.1, itoaM e.2.2.1.2.2.2.2.2.2.2.2]
  else if e.1 = 3 then [CL, itoaM e.2.2.2.1]
  else if e.1 = 4 then [OP, itoaM e.2.2.2.1]
  else if e.1 = 5 then [RE, itoaM e.2.2.2.1, itoaM e.2.2.2.2.1, itoaM e.2.2.2.2.2]
  else [LI, itoaM e.2.2.2.1, itoaM e.2.2.2.2.1, itoaM e.2.2.2.2.2]
theorem num1 {a : List UInt8} (h : okNum a) : itoaM (numV a) = a := (ok_isNum h).2.symm
theorem PlE.wo {e : T_Edit} {w : List (List UInt8)} (h : PlE e w) : w = wo e := by
  cases h with
  | p a s h =>
    show _ = [PL, itoaM (numV a), if s then SU else BE]
    rw [num1 h]
  | r a1 a2 a3 a4 b1 b2 b3 b4 x h k =>
    simp only [okAll_cons] at h k
    show _ = [RO, itoaM (numV a1), itoaM (numV a2), itoaM (numV a3), itoaM (numV a4), if x then WA else MA, itoaM (numV b1), itoaM (numV b2), itoaM (numV b3), itoaM (numV b4)]
    rw [num1 h.1, num1 h.2.1, num1 h.2.2.1, num1 h.2.2.2.1, num1 k.1, num1 k.2.1, num1 k.2.2.1, num1 k.2.2.2.1]
  | c a h => show _ = [CL, itoaM (numV a)]; rw [num1 h]
  | o a h => show _ = [OP, itoaM (numV a)]; rw [num1 h]
  | s a b c h =>
    simp only [okAll_cons] at h
    show _ = [RE, itoaM (numV a), itoaM (numV b), itoaM (numV c)]
    rw [num1 h.1, num1 h.2.1, num1 h.2.2.1]
  | l a b c h =>
    simp only [okAll_cons] at h
    show _ = [LI, itoaM (numV a), itoaM (numV b), itoaM (numV c)]
    rw [num1 h.1, num1 h.2.1, num1 h.2.2.1]
theorem PlE.one {e : T_Edit} {w : List (List UInt8)} (h : PlE e w) : survey_line 1267650600228229401496703205376 e = some (jn w, true) ∧ ref02_line 1267650600228229401496703205376 e = some (jn w ++ [10]) := by
  obtain ⟨w', h', h1, _, h2⟩ := pp_ly h.pp
  have hw : w = w' := h.wo.trans h'.wo.symm
  rw [hw]; exact ⟨h1, h2⟩
theorem plain_yes {e : T_Edit} (h : PP e) : ref02_Plain 1267650600228229401496703205376 e = some true := by obtain ⟨_, _, _, h, _⟩ := pp_ly h; exact h
def endL (t : List UInt8) : List UInt8 := SM ++ cat [(sm 1 t : Int)] ++ [10]
def full (t : List UInt8) : List UInt8 := t ++ endL t
def fin (t : List UInt8) : List UInt8 × Int := if (full t).length > 65536 then ([], 2) else (full t, 0)
theorem endL_len (t : List UInt8) : (endL t).length ≤ 26 := by
  have := cat_len [(sm 1 t : Int)]
  unfold endL
  simp only [List.length_append, List.length_cons, List.length_nil] at this ⊢
  omega
theorem sumw (t : List UInt8) : survey_words 1267650600228229401496703205376 SM [(sm 1 t : Int)] = some (SM ++ cat [(sm 1 t : Int)]) ∧ ref02_words 1267650600228229401496703205376 SM [(sm 1 t : Int)] = some (SM ++ cat [(sm 1 t : Int)]) :=
  words_eq (by decide) (by simp) (all1 (by have := sm_lt t 1 (by omega); unfold I64; omega))
theorem rprint_loop {l : List T_Edit} (hl : l.length ≤ 1000) (hi : ∀ e, e ∈ l → InE e) : ∀ (j f k : Nat) (acc : List UInt8), j + k = l.length → j < f → acc.length ≤ 201 * k → (∀ t, Body (l.drop k) t → ref02_Print_L1 1267650600228229401496703205376 f l acc k = some (fin (acc ++ t))) ∧ ((¬ ∀ e, e ∈ l.drop k → PP e) → ref02_Print_L1 1267650600228229401496703205376 f l acc k = some ([], 6))
  | 0, f + 1, k, acc, hk, hf, ha => by
    rw [drop_nil (by omega)]
    refine ⟨fun t ht => ?_, fun h => absurd (fun e he => by cases he) h⟩
    cases ht
    have hl' := endL_len acc
    unfold endL at hl'
    rw [ref02_Print_L1_succ, df (by omega), rsum_eq (by omega), bind_some']
    show Option.bind (ref02_words 1267650600228229401496703205376 SM [(sm 1 acc : Int)]) _ = _
    rw [(sumw acc).2, bind_some']
    simp only []
    rw [dt (by simp only [List.length_append, List.length_cons, List.length_nil] at hl' ⊢; omega), dt (by simp only [List.length_append, List.length_cons, List.length_nil] at hl' ⊢; omega), List.append_nil]
    unfold fin full endL
    by_cases h : (acc ++ (SM ++ cat [(sm 1 acc : Int)] ++ [10])).length > 65536
    · rw [dt (by omega), if_pos h]
    · rw [df (by omega), if_neg h]
  | j + 1, f + 1, k, acc, hk, hf, ha => by
    have hkl : k < l.length := by omega
    have hie := hi _ (getD_mem D_Edit hkl)
    rw [drop_cons D_Edit hkl, ref02_Print_L1_succ, dt (by omega), it (by omega), Int.toNat_natCast]
    by_cases hp : PP (l.getD k D_Edit)
    · rw [plain_yes hp, bind_some', bnot_t rfl, it (by omega)]
      have step : ∀ {w : List (List UInt8)}, PlE (l.getD k D_Edit) w → ref02_line 1267650600228229401496703205376 (l.getD k D_Edit) = some (jn w ++ [10]) := fun h => h.one.2
      obtain ⟨w0, hw0, _⟩ := pp_ly hp
      have hlen := hw0.len
      rw [step hw0, bind_some', dt (by simp only [List.length_append, List.length_cons, List.length_nil]; omega), W_succ (by omega)]
      have ih := rprint_loop hl hi j f (k + 1) (acc ++ (jn w0 ++ [10])) (by omega) (by omega) (by simp only [List.length_append, List.length_cons, List.length_nil]; omega)
      refine ⟨fun t ht => ?_, fun h => ih.2 fun h2 => h fun x hx => ?_⟩
      · cases ht with
        | @cons e w l' t h k' =>
          have e := (step h).symm.trans (step hw0)
          injection e with e
          rw [ih.1 _ k', ← e]; simp
      · rcases List.mem_cons.1 hx with rfl | hx
        · exact hp
        · exact h2 x hx
    · rw [(ln_of hie hp).2, bind_some', bnot_f rfl]
      refine ⟨fun t ht => ?_, fun _ => rfl⟩
      cases ht with
      | cons h k' => exact absurd h.pp hp
theorem rprint_yes {l : List T_Edit} {t : List UInt8} (hl : l.length ≤ 1000) (hi : ∀ e, e ∈ l → InE e) (h : Body l t) : ref02_Print 1267650600228229401496703205376 l = some (fin t) := by
  unfold ref02_Print
  rw [df (by omega)]
  exact (rprint_loop hl hi l.length 1267650600228229401496703205376 0 [] rfl (by omega) (by simp)).1 t (by rw [List.drop_zero]; exact h)
end Go.Proofs.YtipokcccpbcmeaaDoor
set_option linter.all false
namespace Go.Proofs.YtipokcccpbcmeaaDoor
open Go.Pv M
theorem idx_lt (c : UInt8) : ∀ (l : List UInt8) (i : Nat), M.idx c l = i → i < l.length ∧ l.getD i 0 = c ∧ ∀ j, j < i → l.getD j 0 ≠ c
  | [], i, h => by rw [M.idx] at h; omega
  | b :: l, i, h => by
    rw [M.idx] at h
    by_cases hb : b = c
    · subst hb
      rw [bt (by simp)] at h
      have : i = 0 := by omega
      subst this
      exact ⟨by simp, rfl, fun j hj => by omega⟩
    · rw [bf (beq_eq_false_iff_ne.2 hb)] at h
      cases hz : M.idx c l == -1 with
      | true => rw [hz, cond_true] at h; omega
      | false =>
        rw [hz, cond_false] at h
        have hge := idx_ge c l
        have hne : M.idx c l ≠ -1 := by simpa using hz
        obtain ⟨k, hk⟩ : ∃ k : Nat, M.idx c l = k := ⟨(M.idx c l).toNat, by omega⟩
        obtain ⟨g1, g2, g3⟩ := idx_lt c l k hk
        have : i = k + 1 := by omega
        subst this
        refine ⟨by simp; omega, g2, fun j hj => ?_⟩
        cases j with
        | zero => exact hb
        | succ j => exact g3 j (by omega)
theorem cut_eq (r : List UInt8) (hr : r.length ≤ 1000000000000000000) : strings_Cut 1267650600228229401496703205376 r [10] = some (if M.idx 10 r = -1 then (r, [], false) else (r.take (M.idx 10 r).toNat, r.drop ((M.idx 10 r).toNat + 1), true)) := by
  unfold strings_Cut internal_stringslite_Cut internal_stringslite_Index
  simp only [bind_some']
  have hge := idx_ge 10 r
  by_cases h : M.idx 10 r = -1
  · rw [if_pos h, df (by omega)]; rfl
  · rw [if_neg h, dt (by omega)]
    obtain ⟨i, hi⟩ : ∃ i : Nat, M.idx 10 r = i := ⟨(M.idx 10 r).toNat, by omega⟩
    obtain ⟨g1, _⟩ := idx_lt 10 r i hi
    rw [hi, slB_true (by omega), cond_true]
    have hw : W ((i : Int) + (([10] : List UInt8).length : Int)) = ((i + 1 : Nat) : Int) := by rw [W_eq (by simp; omega) (by simp; omega)]; simp
    rw [hw, slB_true (by omega), cond_true]
    rfl
theorem index_eq (r : List UInt8) : strings_Index 1267650600228229401496703205376 r [10] = some (M.idx 10 r) := rfl
theorem split_eq {x : List UInt8} (hx : x.length < 4294967281) : strings_Split 1267650600228229401496703205376 x [32] = some (spl 32 x) := by
  unfold strings_Split; rw [dt hx]
def SMb (b : List UInt8) : List UInt8 := SM ++ 32 :: b
theorem pre_iff {x : List UInt8} : Lib.hasPrefix x (SM ++ [32]) = true ↔ ∃ b, x = SMb b := by
  unfold Lib.hasPrefix
  rw [List.isPrefixOf_iff_prefix]
  constructor
  · rintro ⟨b, rfl⟩; exact ⟨b, by simp [SMb]⟩
  · rintro ⟨b, rfl⟩; exact ⟨b, by simp [SMb]⟩
theorem hasP (x : List UInt8) : strings_HasPrefix 1267650600228229401496703205376 x [115, 117, 109, 32] = some (Lib.hasPrefix x (SM ++ [32])) := rfl
theorem smb_spl {b : List UInt8} (h : okNum b) : spl 32 (SMb b) = [SM, b] := by
  unfold SMb
  rw [spl_app SM b (fun c hc => (wclean (a := SM) (by decide) c hc).1), spl_word b fun c hc => (okNum_clean h c hc).1]
theorem spl_smb {x b : List UInt8} (h : spl 32 x = [SM, b]) : x = SMb b := by
  have := jn_spl x
  rw [h] at this
  rw [← this]; rfl
def sumR (s : List UInt8) (a i n : Nat) (b : List UInt8) (out : List T_Edit) : List T_Edit × Int × Int := if numV b ≠ (sm 1 (s.take a) : Int) then ([], (n : Int), 7) else if a + i + 1 < s.length then ([], ((n + 1 : Nat) : Int), 6) else (out, 0, 0)
inductive Stp (s : List UInt8) (a n : Nat) (out : List T_Edit) (f : Nat) : Prop
  | none (h : M.idx 10 (s.drop a) = -1) (p : survey_Parse_L1 1267650600228229401496703205376 (f + 1) s a n out = some ([], (n : Int), 6)) (r : ref02_Parse_L1 1267650600228229401496703205376 (f + 1) s a n out = some ([], (n : Int), 6))
  | sum (i : Nat) (b : List UInt8) (h : M.idx 10 (s.drop a) = i) (hx : (s.drop a).take i = SMb b) (hb : okNum b) (p : survey_Parse_L1 1267650600228229401496703205376 (f + 1) s a n out = some (sumR s a i n b out)) (r : ref02_Parse_L1 1267650600228229401496703205376 (f + 1) s a n out = some (sumR s a i n b out))
  | edit (i : Nat) (e : T_Edit) (w : List (List UInt8)) (h : M.idx 10 (s.drop a) = i) (hx : (s.drop a).take i = jn w) (he : PlE e w) (p : survey_Parse_L1 1267650600228229401496703205376 (f + 1) s a n out = if n > 1000 then some ([], (n : Int), 2) else survey_Parse_L1 1267650600228229401496703205376 f s ((a + i + 1 : Nat) : Int) ((n + 1 : Nat) : Int) (out ++ [e])) (r : ref02_Parse_L1 1267650600228229401496703205376 (f + 1) s a n out = if n > 1000 then some ([], (n : Int), 2) else ref02_Parse_L1 1267650600228229401496703205376 f s ((a + i + 1 : Nat) : Int) ((n + 1 : Nat) : Int) (out ++ [e]))
  | bad (i : Nat) (h : M.idx 10 (s.drop a) = i) (h1 : ∀ b, okNum b → (s.drop a).take i ≠ SMb b) (h2 : ∀ e w, PlE e w → (s.drop a).take i ≠ jn w) (p : survey_Parse_L1 1267650600228229401496703205376 (f + 1) s a n out = some ([], (n : Int), 6)) (r : ref02_Parse_L1 1267650600228229401496703205376 (f + 1) s a n out = some ([], (n : Int), 6))
theorem ple_word {e : T_Edit} {w : List (List UInt8)} (h : PlE e w) : w.getD 0 [] ≠ SM ∧ ∀ b, jn w ≠ SMb b := by
  have key : w.getD 0 [] ≠ SM := by
    cases h with
    | p => intro e; exact absurd (show PL = SM from e) (by decide)
    | r => intro e; exact absurd (show RO = SM from e) (by decide)
    | c => intro e; exact absurd (show CL = SM from e) (by decide)
    | o => intro e; exact absurd (show OP = SM from e) (by decide)
    | s => intro e; exact absurd (show RE = SM from e) (by decide)
    | l => intro e; exact absurd (show LI = SM from e) (by decide)
  refine ⟨key, fun b hb => ?_⟩
  have := h.spl
  rw [hb] at this
  have e : spl 32 (SMb b) = SM :: spl 32 b := by unfold SMb; rw [spl_app SM b fun c hc => (wclean (a := SM) (by decide) c hc).1]
  rw [e] at this
  rw [← this] at key
  exact key rfl
theorem stp {s : List UInt8} (hs : s.length ≤ 65536) {a n : Nat} (ha : a ≤ s.length) (hn : n ≤ 100000) {out : List T_Edit} (ho : out.length ≤ 100000) (f : Nat) : Stp s a n out f := by
  have hdl : (s.drop a).length = s.length - a := List.length_drop ..
  have hge := idx_ge 10 (s.drop a)
  by_cases h : M.idx 10 (s.drop a) = -1
  · refine .none h ?_ ?_
    · rw [survey_Parse_L1_succ, slB_true (by omega), cond_true, Int.toNat_natCast, cut_eq _ (by omega), if_pos h, bind_some', bnot_f rfl]
    · rw [ref02_Parse_L1_succ, slB_true (by omega), cond_true, Int.toNat_natCast, index_eq, bind_some', dt (by omega)]
  · obtain ⟨i, hi⟩ : ∃ i : Nat, M.idx 10 (s.drop a) = i := ⟨(M.idx 10 (s.drop a)).toNat, by omega⟩
    obtain ⟨g1, g2, g3⟩ := idx_lt 10 _ i hi
    obtain ⟨x, hx⟩ : ∃ x, (s.drop a).take i = x := ⟨_, rfl⟩
    have hxl : x.length = i := by rw [← hx, List.length_take]; omega
    have hsp : strings_Split 1267650600228229401496703205376 x [32] = some (spl 32 x) := split_eq (by omega)
    have hp0 := spl_pos 32 x
    have hpl := spl_len 32 x
    have p1 : survey_Parse_L1 1267650600228229401496703205376 (f + 1) s a n out = bif ((spl 32 x).getD 0 [] == SM) then (Option.bind (survey_numbers 1267650600228229401496703205376 ((spl 32 x).drop 1) 1) fun r10 => bif (!r10.2) then some ([], (n : Int), 6) else bif inB 0 r10.1.length then (bif (r10.1.getD 0 0 != (sm 1 (s.take a) : Int)) then some ([], (n : Int), 7) else bif decide (((a + i + 1 : Nat) : Int) < (s.length : Int)) then some ([], ((n + 1 : Nat) : Int), 6) else some (out, 0, 0)) else none)
        else Option.bind (survey_read 1267650600228229401496703205376 x) fun r15 => bif (!r15.2) then some ([], (n : Int), 6) else bif decide ((n : Int) > 1000) then some ([], (n : Int), 2) else survey_Parse_L1 1267650600228229401496703205376 f s ((a + i + 1 : Nat) : Int) ((n + 1 : Nat) : Int) (out ++ [r15.1]) := by
      rw [survey_Parse_L1_succ, slB_true (by omega), cond_true, Int.toNat_natCast, cut_eq _ (by omega), if_neg h, bind_some', bnot_t rfl, hi, Int.toNat_natCast]
      simp only []
      rw [hx, hsp, bind_some', it (by omega), fitsB_true (by omega), slB_true (a := 1) (by omega), slB_true (a := 0) (by omega)]
      have e0 : (spl 32 x).getD (0 : Int).toNat [] = (spl 32 x).getD 0 [] := rfl
      have e1 : (spl 32 x).drop (1 : Int).toNat = (spl 32 x).drop 1 := rfl
      rw [e0, e1, sum_eq (by rw [List.length_take]; omega), hxl, W_eq (n := (a : Int) + (i : Int)) (by omega) (by omega), W_eq (n := (a : Int) + (i : Int) + 1) (by omega) (by omega), W_eq (n := (i : Int) + 1) (by omega) (by omega), W_eq (n := (a : Int) + ((i : Int) + 1)) (by omega) (by omega), W_eq (n := (n : Int) + 1) (by omega) (by omega),
        show (a : Int) + (i : Int) + 1 = ((a + i + 1 : Nat) : Int) by omega, show (a : Int) + ((i : Int) + 1) = ((a + i + 1 : Nat) : Int) by omega, show (n : Int) + 1 = ((n + 1 : Nat) : Int) by omega]
      rfl
    have r1 : ref02_Parse_L1 1267650600228229401496703205376 (f + 1) s a n out = bif Lib.hasPrefix x (SM ++ [32]) then (Option.bind (ref02_number 1267650600228229401496703205376 (x.drop 4)) fun r10 => bif (!r10.2) then some ([], (n : Int), 6) else (bif (r10.1 != (sm 1 (s.take a) : Int)) then some ([], (n : Int), 7) else bif decide (((a + i + 1 : Nat) : Int) < (s.length : Int)) then some ([], ((n + 1 : Nat) : Int), 6) else some (out, 0, 0)))
        else Option.bind (ref02_edit 1267650600228229401496703205376 x) fun r15 => bif (!r15.2) then some ([], (n : Int), 6) else bif decide ((n : Int) > 1000) then some ([], (n : Int), 2) else ref02_Parse_L1 1267650600228229401496703205376 f s ((a + i + 1 : Nat) : Int) ((n + 1 : Nat) : Int) (out ++ [r15.1]) := by
      rw [ref02_Parse_L1_succ, slB_true (by omega), cond_true, Int.toNat_natCast, index_eq, bind_some', hi, df (by omega), W_eq (n := (a : Int) + (i : Int)) (by omega) (by omega), slB_true (by omega), cond_true]
      have ex : (s.drop a).take (((a : Int) + (i : Int)).toNat - a) = x := by rw [← hx]; congr 1; omega
      simp only []
      rw [ex, hasP, bind_some', fitsB_true (by omega), rsum_eq (by rw [List.length_take]; omega), W_eq (n := (a : Int) + (i : Int) + 1) (by omega) (by omega), W_eq (n := (i : Int) + 1) (by omega) (by omega), W_eq (n := (a : Int) + ((i : Int) + 1)) (by omega) (by omega), W_eq (n := (n : Int) + 1) (by omega) (by omega),
        show (a : Int) + (i : Int) + 1 = ((a + i + 1 : Nat) : Int) by omega, show (a : Int) + ((i : Int) + 1) = ((a + i + 1 : Nat) : Int) by omega, show (n : Int) + 1 = ((n + 1 : Nat) : Int) by omega]
      cases hpre : Lib.hasPrefix x (SM ++ [32]) with
      | false => rfl
      | true =>
        obtain ⟨b, rfl⟩ := pre_iff.1 hpre
        rw [cond_true, cond_true, slB_true (a := 4) (by simp [SMb] at hxl ⊢; omega), slB_true (a := 0) (by omega)]
        rfl
    have hcls := cls_of hsp hp0 (by omega)
    by_cases hS : ∃ b, okNum b ∧ x = SMb b
    · obtain ⟨b, hb, rfl⟩ := hS
      refine .sum i b hi hx hb ?_ ?_
      · rw [p1, smb_spl hb]
        rw [show ([SM, b] : List (List UInt8)).getD 0 [] = SM from rfl, bt (beq_self_eq_true SM), show ([SM, b] : List (List UInt8)).drop 1 = [b] from rfl, (nums_eq (n := 1) (l := [b]) (by simp) rfl).1 (okAll_cons.2 ⟨hb, fun s hs => by cases hs⟩), bind_some', bnot_t rfl, it (by simp)]
        show (bif (numV b != (sm 1 (s.take a) : Int)) then _ else _) = _
        unfold sumR
        by_cases q : numV b = (sm 1 (s.take a) : Int)
        · rw [nf q, if_neg (fun h => h q)]
          by_cases q2 : a + i + 1 < s.length
          · rw [dt (by omega), if_pos q2]
          · rw [df (by omega), if_neg q2]
        · rw [nt q, if_pos q]
      · rw [r1, bt (pre_iff.2 ⟨b, rfl⟩), show (SMb b).drop 4 = b from rfl, num_R hb, bind_some', bnot_t rfl]
        show (bif (numV b != (sm 1 (s.take a) : Int)) then _ else _) = _
        unfold sumR
        by_cases q : numV b = (sm 1 (s.take a) : Int)
        · rw [nf q, if_neg (fun h => h q)]
          by_cases q2 : a + i + 1 < s.length
          · rw [dt (by omega), if_pos q2]
          · rw [df (by omega), if_neg q2]
        · rw [nt q, if_pos q]
    · have nS : ∀ b, okNum b → x ≠ SMb b := fun b hb e => hS ⟨b, hb, e⟩
      have hpre : Lib.hasPrefix x (SM ++ [32]) = true → ref02_Parse_L1 1267650600228229401496703205376 (f + 1) s a n out = some ([], (n : Int), 6) := fun hq => by
        obtain ⟨b, hb⟩ := pre_iff.1 hq
        have hnb : ¬ okNum b := fun h => nS b h hb
        obtain ⟨z, hz⟩ := num_Rn hnb
        rw [r1, bt hq, hb, show (SMb b).drop 4 = b from rfl, hz, bind_some', bnot_f rfl]
      rcases hcls with ⟨e, he, h1, h2⟩ | ⟨hne, ⟨y, h1⟩, z, h2⟩
      · have hw := ple_word he
        have hxw : x = jn (spl 32 x) := (jn_spl x).symm
        have hnp : Lib.hasPrefix x (SM ++ [32]) = false := by
          cases hq : Lib.hasPrefix x (SM ++ [32]) with
          | false => rfl
          | true =>
            obtain ⟨b, hb⟩ := pre_iff.1 hq
            exact absurd (hxw.symm.trans hb) (hw.2 b)
        refine .edit i e (spl 32 x) hi (hx.trans hxw) he ?_ ?_
        · rw [p1, bf (beq_eq_false_iff_ne.2 hw.1), h1, bind_some', bnot_t rfl]
          by_cases q : n > 1000
          · rw [dt (by omega), if_pos q]
          · rw [df (by omega), if_neg q]
        · rw [r1, bf hnp, h2, bind_some', bnot_t rfl]
          by_cases q : n > 1000
          · rw [dt (by omega), if_pos q]
          · rw [df (by omega), if_neg q]
      · refine .bad i hi (fun b hb e => nS b hb (hx.symm.trans e)) (fun e w he h => ?_) ?_ ?_
        · have e1 : spl 32 x = w := by rw [← hx, h, he.spl]
          exact hne e (e1 ▸ he)
        · rw [p1]
          by_cases q : (spl 32 x).getD 0 [] = SM
          · rw [bt (by rw [q]; rfl)]
            by_cases q1 : (((spl 32 x).drop 1).length : Int) = 1
            · obtain ⟨t, ht, hl⟩ := three hp0 (n := 1) (by rw [List.length_drop] at q1; omega)
              obtain ⟨b, rfl⟩ := l1 hl
              rw [q] at ht
              have hnb : ¬ okNum b := fun h => nS b h (spl_smb ht)
              rw [(nums_eq (by omega) q1).2 (by rw [ht]; exact fun h => hnb (okAll_cons.1 h).1), bind_some', bnot_f rfl]
            · rw [nums_ne q1, bind_some', bnot_f rfl]
          · rw [bf (beq_eq_false_iff_ne.2 q), h1, bind_some', bnot_f rfl]
        · cases hq : Lib.hasPrefix x (SM ++ [32]) with
          | true => exact hpre hq
          | false => rw [r1, bf hq, h2, bind_some', bnot_f rfl]
theorem parse_loop {s : List UInt8} (hs : s.length ≤ 65536) : ∀ (m f a n : Nat) (out : List T_Edit), s.length - a < m → m ≤ f → a ≤ s.length → n ≤ 1001 → out.length < n → ∃ r, survey_Parse_L1 1267650600228229401496703205376 f s a n out = some r ∧ ref02_Parse_L1 1267650600228229401496703205376 f s a n out = some r
  | 0, f, a, n, out, h, _, _, _, _ => by omega
  | m + 1, 0, a, n, out, _, h, _, _, _ => by omega
  | m + 1, f + 1, a, n, out, hm, hf, ha, hn, ho => by
    cases stp hs ha (by omega) (by omega) f (out := out) (n := n) with
    | none h p r => exact ⟨_, p, r⟩
    | sum i b h hx hb p r => exact ⟨_, p, r⟩
    | bad i h h1 h2 p r => exact ⟨_, p, r⟩
    | edit i e w h hx he p r =>
      obtain ⟨g1, _⟩ := idx_lt 10 _ i h
      rw [List.length_drop] at g1
      rw [p, r]
      by_cases q : n > 1000
      · rw [if_pos q, if_pos q]; exact ⟨_, rfl, rfl⟩
      · rw [if_neg q, if_neg q]
        exact parse_loop hs m f (a + i + 1) (n + 1) (out ++ [e]) (by omega) (by omega) (by omega) (by omega) (by simp; omega)
theorem parse_eq (s : List UInt8) : ∃ r, survey_Parse 1267650600228229401496703205376 s = some r ∧ ref02_Parse 1267650600228229401496703205376 s = some r := by
  unfold survey_Parse ref02_Parse
  by_cases h : s.length ≤ 65536
  · rw [df (by omega), df (by omega)]
    exact parse_loop h (s.length + 1) 1267650600228229401496703205376 0 1 [] (by omega) (by omega) (by omega) (by omega) (by simp)
  · rw [dt (by omega), dt (by omega)]; exact ⟨_, rfl, rfl⟩
end Go.Proofs.YtipokcccpbcmeaaDoor
set_option linter.all false
namespace Go.Proofs.YtipokcccpbcmeaaDoor
open Go.Pv M
theorem awake_true : law02_awake 1267650600228229401496703205376 = some true := by kernel_rfl
theorem PP.inE {e : T_Edit} (h : PP e) : InE e := by
  rcases h with ⟨h, s, rfl, p⟩ | ⟨f, t, l, a, w, r1, r2, l1, l2, rfl, p1, p2, p3, p4, p5, p6, p7, p8⟩ | ⟨r, rfl, p⟩ | ⟨r, rfl, p⟩ | ⟨r, a, b, rfl, p1, p2, p3⟩ | ⟨r, a, b, rfl, p1, p2, p3⟩
  · exact ⟨p.i, i0, i0, i0, i0, i0, i0, i0, i0, i0, i0, i0⟩
  · exact ⟨i0, p1.i, p2.i, p3.i, p4.i, p5.i, p6.i, p7.i, p8.i, i0, i0, i0⟩
  · exact ⟨i0, i0, i0, i0, i0, i0, i0, i0, i0, p.i, i0, i0⟩
  · exact ⟨i0, i0, i0, i0, i0, i0, i0, i0, i0, p.i, i0, i0⟩
  · exact ⟨i0, i0, i0, i0, i0, i0, i0, i0, i0, p1.i, p2.i, p3.i⟩
  · exact ⟨i0, i0, i0, i0, i0, i0, i0, i0, i0, p1.i, p2.i, p3.i⟩
theorem sh {v : Int} (h1 : -1000000 ≤ v) (h2 : v ≤ 1000000) : Sh v := by unfold Sh; omega
theorem edit_pp {m : T_Mine} (hm : Mk m) {d : T_Codes} (hd : Cd d) : ∃ e d', draw_Codes_Edit 1267650600228229401496703205376 d m = some (e, d') ∧ PP e ∧ Cd d' := by
  have n1 := hm.n1
  have n2 := hm.n2
  have n3 := hm.r2
  unfold draw_Codes_Edit
  obtain ⟨k, d1, e1, a1, b1, hd1⟩ := range_spec (N := 1267650600228229401496703205376) (by omega) hd (a := 1) (b := 6) (by omega) (by omega) (by omega)
  rw [e1, bind_some']
  simp only
  by_cases k1 : k = 1
  · rw [et k1]
    obtain ⟨v2, d2, e2, a2, b2, hd2⟩ := range_spec (N := 1267650600228229401496703205376) (by omega) hd1 (a := -100) (b := 100) (by omega) (by omega) (by omega)
    rw [e2, bind_some']
    obtain ⟨v3, d3, e3, hd3⟩ := one_spec (N := 1267650600228229401496703205376) (by omega) hd2 (n := 4) (by omega)
    simp only
    rw [e3, k1]
    exact ⟨_, _, rfl, .inl ⟨v2, v3, rfl, sh (by omega) (by omega)⟩, hd3⟩
  rw [ef k1, W_succ (by omega)]
  by_cases k2 : k = 2
  · rw [et k2]
    obtain ⟨v2, d2, e2, a2, b2, hd2⟩ := next_spec (N := 1267650600228229401496703205376) (by omega) hd1 (n := ((m.1.length + 1 : Nat) : Int)) (by omega)
    rw [e2, bind_some']
    obtain ⟨v3, d3, e3, a3, b3, hd3⟩ := next_spec (N := 1267650600228229401496703205376) (by omega) hd2 (n := (m.1.length : Int)) (by omega)
    simp only
    rw [e3, bind_some']
    obtain ⟨⟨rf, rt, rl, ra, rw_, rcl, ⟨x1, x2⟩, x3, x4⟩, d4, e4, q1, q2, q3, q4, hd4⟩ := road_spec hd3 v2 v3
    simp only
    rw [e4, k2]
    simp only at q1 q2 q4
    subst q1; subst q2; subst q4
    obtain ⟨⟨c1, c2⟩, ⟨c3, c4⟩, ⟨c5, c6, c7⟩, c8, c9, c10⟩ := q3
    simp only at c1 c2 c3 c4 c5 c6 c7 c8 c9 c10
    exact ⟨_, _, rfl, .inr (.inl ⟨rf, rt, rl, ra, rw_, x1, x2, x3, x4, rfl, sh (by omega) (by omega), sh (by omega) (by omega), sh (by omega) (by omega), sh (by omega) (by omega), sh (by omega) (by omega), sh (by omega) (by omega), sh (by omega) (by omega), sh (by omega) (by omega)⟩), hd4⟩
  rw [ef k2, W_succ (by omega)]
  obtain ⟨v2, d2, e2, a2, b2, hd2⟩ := next_spec (N := 1267650600228229401496703205376) (by omega) hd1 (n := ((m.2.length + 1 : Nat) : Int)) (by omega)
  rw [e2]
  simp only [bind_some']
  have s2 : Sh v2 := sh (by omega) (by omega)
  by_cases k3 : k = 3
  · rw [et k3, k3]; exact ⟨_, _, rfl, .inr (.inr (.inl ⟨v2, rfl, s2⟩)), hd2⟩
  rw [ef k3]
  by_cases k4 : k = 4
  · rw [et k4, k4]; exact ⟨_, _, rfl, .inr (.inr (.inr (.inl ⟨v2, rfl, s2⟩))), hd2⟩
  rw [ef k4]
  obtain ⟨v3, d3, e3, a3, b3, hd3⟩ := range_spec (N := 1267650600228229401496703205376) (by omega) hd2 (a := 0) (b := 30) (by omega) (by omega) (by omega)
  rw [e3, bind_some']
  obtain ⟨v4, d4, e4, a4, b4, hd4⟩ := range_spec (N := 1267650600228229401496703205376) (by omega) hd3 (a := -1) (b := 5) (by omega) (by omega) (by omega)
  simp only
  rw [e4, bind_some']
  simp only
  rw [W_eq (by omega) (by omega)]
  have s3 : Sh v3 := sh (by omega) (by omega)
  have s4 : Sh (v3 + v4) := sh (by omega) (by omega)
  have hk : k = 5 ∨ k = 6 := by omega
  rcases hk with rfl | rfl
  · exact ⟨_, _, rfl, .inr (.inr (.inr (.inr (.inl ⟨v2, v3, v3 + v4, rfl, s2, s3, s4⟩)))), hd4⟩
  · exact ⟨_, _, rfl, .inr (.inr (.inr (.inr (.inr ⟨v2, v3, v3 + v4, rfl, s2, s3, s4⟩)))), hd4⟩
theorem edits_loop {m : T_Mine} (hm : Mk m) : ∀ (f j : Nat) (d : T_Codes) (l : List T_Edit), Cd d → j < f → j + l.length ≤ 20 → (∀ e, e ∈ l → PP e) → ∃ l' d', draw_Codes_Edits_L1 1267650600228229401496703205376 f (j : Int) d.1 d.2 l m.1 m.2 = some (l', d') ∧ l'.length ≤ 20 ∧ (∀ e, e ∈ l' → PP e) ∧ Cd d'
  | f + 1, 0, d, l, hd, hf, hl, hp => by
    rw [draw_Codes_Edits_L1_succ, df (by omega)]
    exact ⟨l, d, rfl, by omega, hp, hd⟩
  | f + 1, j + 1, d, l, hd, hf, hl, hp => by
    obtain ⟨e, d', h1, hpe, hd'⟩ := edit_pp hm hd
    rw [draw_Codes_Edits_L1_succ, dt (by omega), show ((d.1, d.2) : T_Codes) = d from rfl, show ((m.1, m.2) : T_Mine) = m from rfl, h1, bind_some', fitsB_true (by omega), cond_true]
    have : W (((j + 1 : Nat) : Int) - 1) = (j : Int) := by rw [W_eq (by omega) (by omega)]; omega
    rw [this]
    exact edits_loop hm f j d' _ hd' (by omega) (by simp; omega) (mem_app hp hpe)
theorem edits_spec {d : T_Codes} (hd : Cd d) {n : Int} (h0 : 0 ≤ n) (hn : n ≤ 15) : ∃ l d', draw_Codes_Edits 1267650600228229401496703205376 d n = some (l, d') ∧ l.length ≤ 20 ∧ (∀ e, e ∈ l → PP e) ∧ Cd d' := by
  unfold draw_Codes_Edits
  obtain ⟨m2, d2, e2, hm2, hd2⟩ := mine_spec hd
  rw [e2, bind_some', W_eq (by omega) (by omega)]
  obtain ⟨v, d3, e3, a3, b3, hd3⟩ := next_spec (N := 1267650600228229401496703205376) (by omega) hd2 (n := n + 1) (by omega)
  simp only
  rw [e3, bind_some']
  obtain ⟨j, rfl⟩ := Int.eq_ofNat_of_zero_le a3
  exact edits_loop hm2 1267650600228229401496703205376 j d3 [] hd3 (by omega) (by simp; omega) (fun e he => by cases he)
end Go.Proofs.YtipokcccpbcmeaaDoor
set_option linter.all false
namespace Go.Proofs.YtipokcccpbcmeaaDoor
open Go.Pv M
theorem appl_small (m : T_Mine) (e : T_Edit) : (appl m e).1.1.length ≤ 64 ∧ (appl m e).1.2.length ≤ 128 := by
  have no0 : ∀ k, (no k).1.1.length ≤ 64 ∧ (no k).1.2.length ≤ 128 := fun k => ⟨Nat.zero_le _, Nat.zero_le _⟩
  have f0 : ∀ x, (fin0 x).1.1.length ≤ 64 ∧ (fin0 x).1.2.length ≤ 128 := fun x => by
    unfold fin0
    by_cases h : chk x = 0
    · rw [if_pos h]
      have v := (chk_zero x).1 h
      exact ⟨v.n, v.k⟩
    · rw [if_neg h]; exact no0 _
  unfold appl
  split
  · exact no0 _
  split
  · exact f0 _
  split
  · exact f0 _
  split
  · split
    · exact no0 _
    · split
      · exact no0 _
      · exact f0 _
  · exact no0 _
theorem all_eq (l : List T_Edit) (hl : l.length ≤ 5000) : ∀ (j f k : Nat) (m : T_Mine), j + k = l.length → j < f → m.1.length ≤ 900 → m.2.length ≤ 900 → ∃ r : T_Mine × Int × Int, plan_All_L1 1267650600228229401496703205376 f l l (l.length : Int) k m.1 m.2 = some r ∧ ref01_All_L1 1267650600228229401496703205376 f l k m.1 m.2 = some r ∧ r.1.1.length ≤ 900 ∧ r.1.2.length ≤ 900
  | 0, f + 1, k, m, hk, hf, h1, h2 => by
    rw [plan_All_L1_succ, ref01_All_L1_succ, df (by omega), df (by omega)]
    exact ⟨_, rfl, rfl, h1, h2⟩
  | j + 1, f + 1, k, m, hk, hf, h1, h2 => by
    rw [plan_All_L1_succ, ref01_All_L1_succ, dt (by omega), dt (by omega), it (by omega), it (by omega), apply_eq, rapply_eq, bind_some', bind_some']
    have hs := appl_small (m.1, m.2) (l.getD (k : Int).toNat D_Edit)
    generalize appl (m.1, m.2) (l.getD (k : Int).toNat D_Edit) = a at hs ⊢
    by_cases h : a.2 = 0
    · rw [nf h, nf h, W_succ (by omega)]
      exact all_eq l hl j f (k + 1) a.1 (by omega) (by omega) (by omega) (by omega)
    · rw [nt h, nt h]
      exact ⟨_, rfl, rfl, h1, h2⟩
theorem all_all {m : T_Mine} (h1 : m.1.length ≤ 900) (h2 : m.2.length ≤ 900) {l : List T_Edit} (hl : l.length ≤ 5000) : ∃ r : T_Mine × Int × Int, plan_All 1267650600228229401496703205376 m l = some r ∧ ref01_All 1267650600228229401496703205376 m l = some r ∧ r.1.1.length ≤ 900 ∧ r.1.2.length ≤ 900 := by
  obtain ⟨r, e1, e2, g1, g2⟩ := all_eq l hl l.length 1267650600228229401496703205376 0 m rfl (by omega) h1 h2
  refine ⟨r, ?_, e2, g1, g2⟩
  unfold plan_All
  rw [clone_eq (by omega) (by omega), bind_some']
  exact e1
theorem all_nil {m : T_Mine} (h1 : m.1.length ≤ 900) (h2 : m.2.length ≤ 900) : plan_All 1267650600228229401496703205376 m [] = some (m, 0, 0) := by
  have hB : 1267650600228229401496703205376 = 1267650600228229401496703205375 + 1 := rfl
  unfold plan_All
  rw [clone_eq (by omega) (by omega), bind_some']
  have key : ∀ f : Nat, plan_All_L1 1267650600228229401496703205376 (f + 1) [] [] (([] : List T_Edit).length : Int) 0 m.1 m.2 = some (m, 0, 0) := fun f => by
    rw [plan_All_L1_succ, df (by simp)]; rfl
  exact key 1267650600228229401496703205375
theorem parse_small {s : List UInt8} (hs : s.length ≤ 65536) : ∀ (m f a n : Nat) (out : List T_Edit) (r : List T_Edit × Int × Int), s.length - a < m → m ≤ f → a ≤ s.length → n ≤ 1001 → out.length < n → survey_Parse_L1 1267650600228229401496703205376 f s a n out = some r → r.1.length ≤ 1001
  | 0, f, a, n, out, r, h, _, _, _, _, _ => by omega
  | m + 1, 0, a, n, out, r, _, h, _, _, _, _ => by omega
  | m + 1, f + 1, a, n, out, r, hm, hf, ha, hn, ho, hr => by
    cases stp hs ha (by omega) (by omega) f (out := out) (n := n) with
    | none h p q => rw [p] at hr; injection hr with hr; rw [← hr]; simp
    | bad i h h1 h2 p q => rw [p] at hr; injection hr with hr; rw [← hr]; simp
    | sum i b h hx hb p q =>
      rw [p] at hr
      injection hr with hr
      rw [← hr]
      unfold sumR
      split
      · simp
      split
      · simp
      · show out.length ≤ 1001; omega
    | edit i e w h hx he p q =>
      obtain ⟨g1, g2, _⟩ := idx_lt 10 _ i h
      rw [List.length_drop] at g1
      rw [p] at hr
      by_cases q : n > 1000
      · rw [if_pos q] at hr; injection hr with hr; rw [← hr]; simp
      · rw [if_neg q] at hr
        exact parse_small hs m f (a + i + 1) (n + 1) (out ++ [e]) r (by omega) (by omega) (by omega) (by omega) (by simp; omega) hr
theorem parse_both (s : List UInt8) : ∃ r, survey_Parse 1267650600228229401496703205376 s = some r ∧ ref02_Parse 1267650600228229401496703205376 s = some r ∧ r.1.length ≤ 1001 := by
  obtain ⟨r, h1, h2⟩ := parse_eq s
  refine ⟨r, h1, h2, ?_⟩
  unfold survey_Parse at h1
  by_cases h : s.length ≤ 65536
  · rw [df (by omega)] at h1
    exact parse_small h (s.length + 1) 1267650600228229401496703205376 0 1 [] r (by omega) (by omega) (by omega) (by omega) (by simp) h1
  · rw [dt (by omega)] at h1; injection h1 with h1; rw [← h1]; simp
theorem read_eq {m : T_Mine} (h1 : m.1.length ≤ 900) (h2 : m.2.length ≤ 900) (s : List UInt8) : ∃ r, survey_Read 1267650600228229401496703205376 m s = some r ∧ ref02_Read 1267650600228229401496703205376 m s = some r ∧ r.1.1.length ≤ 900 ∧ r.1.2.length ≤ 900 := by
  obtain ⟨r, e1, e2, hl⟩ := parse_both s
  unfold survey_Read ref02_Read
  rw [e1, e2, bind_some', bind_some']
  by_cases h : r.2.2 = 0
  · rw [nf h, nf h]
    obtain ⟨x, q1, q2, q3, q4⟩ := all_all h1 h2 (l := r.1) (by omega)
    rw [q1, q2]
    exact ⟨_, rfl, rfl, q3, q4⟩
  · rw [nt h, nt h, all_nil h1 h2]
    exact ⟨_, rfl, rfl, h1, h2⟩
theorem reads_eq {cs : List Int} (h : ∀ a, a ∈ cs → (Lit.int .u8 a).wf = true) (hl : cs.length ≤ maxLen) (raw : List UInt8) : law02_SurveyReads 1267650600228229401496703205376 cs raw = some true := by
  unfold law02_SurveyReads
  obtain ⟨d, e0, hd⟩ := new_spec 1267650600228229401496703205376 h hl
  rw [e0, bind_some']
  obtain ⟨m, d1, e1, hm, hd1⟩ := mine_spec hd
  simp only
  rw [e1, bind_some']
  obtain ⟨l, d2, e2, hl1, hp1, hd2⟩ := edits_spec hd1 (n := 6) (by omega) (by omega)
  simp only
  rw [e2, bind_some']
  simp only
  obtain ⟨t, ht⟩ := body_of l hp1
  obtain ⟨r1, q2⟩ : ∃ r1, ref02_Print 1267650600228229401496703205376 l = some r1 := ⟨_, rprint_yes (by omega) (fun e he => (hp1 e he).inE) ht⟩
  rw [q2, bind_some']
  have n2 := hm.n2
  have r2 := hm.r2
  have e3 : (([r1.1, raw] : List (List UInt8)).length : Int) = 2 := rfl
  rw [e3]
  have rd : ∀ s, ∃ r, survey_Read 1267650600228229401496703205376 (m.1, m.2) s = some r ∧ ref02_Read 1267650600228229401496703205376 (m.1, m.2) s = some r ∧ r.1.1.length ≤ 900 ∧ r.1.2.length ≤ 900 := fun s => read_eq (m := (m.1, m.2)) (by show m.1.length ≤ _; omega) (by show m.2.length ≤ _; omega) s
  have key : ∀ f : Nat, law02_SurveyReads_L1 1267650600228229401496703205376 (f + 1 + 1 + 1) [r1.1, raw] 2 0 m.1 m.2 = some true := fun f => by
    obtain ⟨a, a1, a2, a3, a4⟩ := rd r1.1
    obtain ⟨b, b1, b2, b3, b4⟩ := rd raw
    rw [law02_SurveyReads_L1_succ, dt (by omega), it (by simp)]
    rw [show ([r1.1, raw] : List (List UInt8)).getD (0 : Int).toNat [] = r1.1 from rfl, a1, a2, bind_some', bind_some', same_refl a3 a4, bind_some', bnot_t rfl, nf rfl, nf rfl, show W (0 + 1) = 1 from by decide]
    rw [law02_SurveyReads_L1_succ, dt (by omega), it (by simp)]
    rw [show ([r1.1, raw] : List (List UInt8)).getD (1 : Int).toNat [] = raw from rfl, b1, b2, bind_some', bind_some', same_refl b3 b4, bind_some', bnot_t rfl, nf rfl, nf rfl, show W (1 + 1) = 2 from by decide]
    rw [law02_SurveyReads_L1_succ, df (by omega), awake_true]
    rfl
  exact key 1267650600228229401496703205373
theorem surveyReads_any (dargs : List DV) (h : TyAs [(false, [.sl [.it .u8]]), (false, [.st])] dargs) : CallOK Tryd.prog 6 dargs [] 0 (B true) [] 0 :=
  law_any (law02_SurveyReads_pure 1267650600228229401496703205376) (fun x hx => reads_eq hx.1.2 hx.1.1 x.2) rfl dargs h
end Go.Proofs.YtipokcccpbcmeaaDoor
