/- Clearance: what the program's functions give for right mines, flows and fumes. No condition of its own. -/
import Derived.Test.YtpmpmlhjnddikaaMn
set_option linter.all false
namespace Go.Proofs.Ytpmpmlhjnddikaa
open Go.Pv M

theorem bifs (a b : Bool) : (bif a then some b else some false) = some (a && b) := by cases a <;> rfl
theorem in_eq (N : Nat) (a b c : Int) : lists_In N a b c = some (decide (b ≤ a) && decide (a ≤ c)) := by
  unfold lists_In; simp only [bifs, ge_iff_le]
theorem getD_mem {α : Type} {l : List α} {k : Nat} (d : α) (h : k < l.length) : l.getD k d ∈ l := by
  rw [List.getD_eq_getElem?_getD, List.getElem?_eq_getElem h]; exact List.getElem_mem _
theorem awake_eq : law35_awake 1000 = some true := by kernel_rfl

/-! ### Made mines are right -/
theorem check_road {m : T_Mine} (hm : Mk m) : ∀ (j n k : Nat), j + k = m.2.length → j < n → plan_Check_L2 1000 n m.1.length m.2 m.2.length k = some 0
  | 0, n + 1, k, hk, hn => by rw [plan_Check_L2_succ, decide_eq_false (by omega), cond_false]
  | j + 1, n + 1, k, hk, hn => by
    have hr := hm.r _ (getD_mem D_Road (show k < m.2.length by omega))
    have ih := check_road hm j n (k + 1) (by omega) (by omega)
    have h10 := hm.r2
    rw [plan_Check_L2_succ, decide_eq_true (by omega), cond_true, inB_true (by omega), cond_true, Int.toNat_natCast]
    generalize m.2.getD k D_Road = r at hr ⊢
    obtain ⟨⟨a1, a2⟩, ⟨b1, b2⟩, c, ⟨d1, d2⟩, ⟨e1, e2⟩, f1, f2⟩ := hr
    simp only
    rw [decide_eq_false (by omega), cond_false, decide_eq_false (by omega), cond_false, decide_eq_false (by omega), cond_false, decide_eq_false (by omega), cond_false, ne2 c, cond_false, plan_Check_J2_eq, decide_eq_false (by omega), cond_false, decide_eq_false (by omega), cond_false, decide_eq_false (by omega), cond_false, decide_eq_false (by omega), cond_false, f1, f2]
    show plan_Check_L2 1000 n m.1.length m.2 m.2.length (W ((k : Int) + 1)) = some 0
    rw [W_eq (n := (k : Int) + 1) (by omega) (by omega), show (k : Int) + 1 = ((k + 1 : Nat) : Int) by omega]
    exact ih
theorem check_place {m : T_Mine} (hm : Mk m) : ∀ (j n k : Nat), j + k = m.1.length → j < n → plan_Check_L1 1000 n m.1 m.1.length k m.1 m.2 = some 0
  | 0, n + 1, k, hk, hn => by
    rw [plan_Check_L1_succ, decide_eq_false (by omega), cond_false]
    exact check_road hm m.2.length 1000 0 rfl (by have := hm.r2; omega)
  | j + 1, n + 1, k, hk, hn => by
    obtain ⟨p1, p2⟩ := hm.p _ (getD_mem D_Place (show k < m.1.length by omega))
    have ih := check_place hm j n (k + 1) (by omega) (by omega)
    have h7 := hm.n2
    rw [plan_Check_L1_succ, decide_eq_true (by omega), cond_true, inB_true (by omega), cond_true, Int.toNat_natCast, decide_eq_false (by omega), cond_false, decide_eq_false (by omega), cond_false, W_eq (n := (k : Int) + 1) (by omega) (by omega), show (k : Int) + 1 = ((k + 1 : Nat) : Int) by omega]
    exact ih
theorem plan_valid {m : T_Mine} (hm : Mk m) : plan_Valid 1000 m = some true := by
  have h7 := hm.n2
  have h10 := hm.r2
  unfold plan_Valid plan_Check
  rw [decide_eq_false (by omega), cond_false, decide_eq_false (by omega), cond_false, plan_Check_J1_eq, show ((999 + 1 : Nat)) = 1000 from rfl, show (0 : Int) = ((0 : Nat) : Int) from rfl, check_place hm m.1.length 1000 0 rfl (by omega)]
  rfl

/-! ### Made flows and fumes -/
def Sk (s : T_Span) : Prop := -1125899906842624 ≤ s.1 ∧ s.1 ≤ s.2 ∧ s.2 ≤ 1125899906842624
def Hk (h : Int) : Prop := 0 ≤ h ∧ h ≤ 1000000
theorem mem_set {α : Type} {P : α → Prop} {l : List α} {k : Nat} {a : α} (h : ∀ x, x ∈ l → P x) (ha : P a) : ∀ x, x ∈ l.set k a → P x := fun x hx => by
  rcases List.mem_or_eq_of_mem_set hx with h1 | h1
  · exact h x h1
  · rw [h1]; exact ha
theorem flows_loop {ps : List T_Place} {rs : List T_Road} (hr : rs.length ≤ 10) : ∀ (j n k : Nat) (d : T_Dice) (l : List T_Span), j + k = rs.length → j < n → l.length = k → Dk d → (∀ x, x ∈ l → Sk x) →
    ∃ l' d', made_Dice_Flows_L1 1000 n k d.1 d.2 ps rs l = some (l', d') ∧ l'.length = rs.length ∧ (∀ x, x ∈ l' → Sk x) ∧ Dk d'
  | 0, n + 1, k, d, l, hk, hn, hl, hd, hx => by
    rw [made_Dice_Flows_L1_succ, decide_eq_false (by omega), cond_false]
    exact ⟨l, d, rfl, by omega, hx, hd⟩
  | j + 1, n + 1, k, d, l, hk, hn, hl, hd, hx => by
    rw [made_Dice_Flows_L1_succ, decide_eq_true (by omega), cond_true]
    obtain ⟨a, d1, e1, m1, hd1⟩ := of_spec 1000 hd [0, 1000, 5000, 20000, (-5000), (-20000), 4999, 100] (by simp) (by simp)
    obtain ⟨b, d2, e2, m2, hd2⟩ := of_spec 1000 hd1 [0, 1, 1000, 6000] (by simp) (by simp)
    obtain ⟨c, d3, e3, m3, hd3⟩ := of_spec 1000 hd2 [0, 1, 500] (by simp) (by simp)
    obtain ⟨z, d4, e4, hd4⟩ := one_spec 1000 hd3 (n := 9) (by omega) (by omega)
    rw [show ((d.1, d.2) : T_Dice) = d from rfl, e1, bind_some']
    simp only
    rw [e2, bind_some']
    simp only
    rw [e3, bind_some', fitsB_true (by omega), cond_true]
    simp only
    rw [e4, bind_some', W_eq (n := (k : Int) + 1) (by omega) (by omega), show (k : Int) + 1 = ((k + 1 : Nat) : Int) by omega]
    simp only [List.mem_cons, List.not_mem_nil, or_false] at m1 m2 m3
    rw [W_eq (n := a - b) (by omega) (by omega), W_eq (n := a + c) (by omega) (by omega)]
    have hs : Sk ((a - b, a + c) : T_Span) := ⟨by show -1125899906842624 ≤ a - b; omega, by show a - b ≤ a + c; omega, by show a + c ≤ 1125899906842624; omega⟩
    have hl' : (l ++ [((a - b, a + c) : T_Span)]).length = k + 1 := by rw [List.length_append, List.length_singleton, hl]
    cases z with
    | true =>
      simp only [cond_true]
      rw [inB_true (by rw [hl']; omega), cond_true]
      exact flows_loop hr j n (k + 1) d4 _ (by omega) (by omega) (by rw [List.length_set, hl']) hd4 (mem_set (mem_app hx hs) ⟨by decide, by decide, by decide⟩)
    | false =>
      simp only [cond_false]
      exact flows_loop hr j n (k + 1) d4 _ (by omega) (by omega) hl' hd4 (mem_app hx hs)
theorem flows_spec {d : T_Dice} (hd : Dk d) {m : T_Mine} (hm : Mk m) : ∃ l d', made_Dice_Flows 1000 d m = some (l, d') ∧ l.length = m.2.length ∧ (∀ x, x ∈ l → Sk x) ∧ Dk d' := by
  unfold made_Dice_Flows
  exact flows_loop hm.r2 m.2.length 1000 0 d [] rfl (by have := hm.r2; omega) rfl hd (fun x h => by cases h)
theorem fumes_loop {ps : List T_Place} {rs : List T_Road} (hr : rs.length ≤ 10) (t : Int) : ∀ (j n k : Nat) (d : T_Dice) (l : List Int), j + k = rs.length → j < n → l.length = k → Dk d → (∀ x, x ∈ l → Hk x) →
    ∃ l' d', law35_fumes_L1 1000 n k d.1 d.2 ps rs 0 t l = some ((t, l'), d') ∧ l'.length = rs.length ∧ (∀ x, x ∈ l' → Hk x) ∧ Dk d'
  | 0, n + 1, k, d, l, hk, hn, hl, hd, hx => by
    rw [law35_fumes_L1_succ, decide_eq_false (by omega), cond_false]
    exact ⟨l, d, rfl, by omega, hx, hd⟩
  | j + 1, n + 1, k, d, l, hk, hn, hl, hd, hx => by
    rw [law35_fumes_L1_succ, decide_eq_true (by omega), cond_true]
    obtain ⟨a, d1, e1, m1, hd1⟩ := of_spec 1000 hd [0, 1000, 30, 5, 999999, 1000000] (by simp) (by simp)
    rw [show ((d.1, d.2) : T_Dice) = d from rfl, e1, bind_some', fitsB_true (by omega), cond_true, W_eq (n := (k : Int) + 1) (by omega) (by omega), show (k : Int) + 1 = ((k + 1 : Nat) : Int) by omega]
    simp only [List.mem_cons, List.not_mem_nil, or_false] at m1
    exact fumes_loop hr t j n (k + 1) d1 _ (by omega) (by omega) (by rw [List.length_append, List.length_singleton, hl]) hd1 (mem_app hx ⟨by omega, by omega⟩)
theorem fumes_spec {d : T_Dice} (hd : Dk d) {m : T_Mine} (hm : Mk m) : ∃ f d', law35_fumes 1000 d m = some (f, d') ∧ (0 ≤ f.1 ∧ f.1 < 200) ∧ f.2.length = m.2.length ∧ (∀ x, x ∈ f.2 → Hk x) ∧ Dk d' := by
  unfold law35_fumes
  obtain ⟨a, d1, e1, a1, a2, hd1⟩ := next_spec 1000 hd (n := 200) (by omega) (by omega)
  rw [e1, bind_some']
  obtain ⟨l, d2, e2, h1, h2, hd2⟩ := fumes_loop (ps := m.1) hm.r2 a m.2.length 1000 0 d1 [] rfl (by have := hm.r2; omega) rfl hd1 (fun x h => by cases h)
  exact ⟨_, d2, e2, ⟨a1, a2⟩, h1, h2, hd2⟩

/-! ### What is given is right -/
theorem no_fume {l : List Int} (hl : l.length ≤ 900) (h : ∀ x, x ∈ l → Hk x) : ∀ (j n k : Nat), j + k = l.length → j < n → slices_IndexFunc_int_int_S1_L1 1000 n l l.length k = some (-1, ())
  | 0, n + 1, k, hk, hn => by rw [slices_IndexFunc_int_int_S1_L1_succ, decide_eq_false (by omega), cond_false]
  | j + 1, n + 1, k, hk, hn => by
    have ih := no_fume hl h j n (k + 1) (by omega) (by omega)
    obtain ⟨a, b⟩ := h _ (getD_mem 0 (show k < l.length by omega))
    rw [slices_IndexFunc_int_int_S1_L1_succ, decide_eq_true (by omega), cond_true, inB_true (by omega), cond_true, Int.toNat_natCast]
    unfold clearance_Valid_1
    rw [in_eq, decide_eq_true a, decide_eq_true b, bind_some', bind_some']
    simp only [Bool.and_self, Bool.not_true, cond_false]
    rw [W_eq (n := (k : Int) + 1) (by omega) (by omega), show (k : Int) + 1 = ((k + 1 : Nat) : Int) by omega]
    exact ih
theorem no_span {l : List T_Span} (hl : l.length ≤ 900) (h : ∀ x, x ∈ l → Sk x) : ∀ (j n k : Nat), j + k = l.length → j < n → slices_IndexFunc_api_Span_api_Span_S1_L1 1000 n l l.length k = some (-1, ())
  | 0, n + 1, k, hk, hn => by rw [slices_IndexFunc_api_Span_api_Span_S1_L1_succ, decide_eq_false (by omega), cond_false]
  | j + 1, n + 1, k, hk, hn => by
    have ih := no_span hl h j n (k + 1) (by omega) (by omega)
    obtain ⟨a, b, c⟩ := h _ (getD_mem D_Span (show k < l.length by omega))
    rw [slices_IndexFunc_api_Span_api_Span_S1_L1_succ, decide_eq_true (by omega), cond_true, inB_true (by omega), cond_true, Int.toNat_natCast]
    unfold clearance_given_1
    rw [decide_eq_false (by omega), cond_false, decide_eq_false (by omega), cond_false, decide_eq_false (by omega), bind_some', cond_false, W_eq (n := (k : Int) + 1) (by omega) (by omega), show (k : Int) + 1 = ((k + 1 : Nat) : Int) by omega]
    exact ih
theorem given_true {m : T_Mine} (hm : Mk m) {x : List T_Span} (hx : x.length = m.2.length) (hs : ∀ s, s ∈ x → Sk s) {f : T_Fumes} (ht : 0 ≤ f.1 ∧ f.1 ≤ 2147483648) (hf : f.2.length = m.2.length) (hh : ∀ h, h ∈ f.2 → Hk h) : clearance_given 1000 m x f = some true := by
  have h10 := hm.r2
  have e1 := no_fume (by omega) hh f.2.length 1000 0 rfl (by omega)
  have e2 := no_span (by omega) hs x.length 1000 0 rfl (by omega)
  rw [show ((0 : Nat) : Int) = 0 from rfl] at e1 e2
  unfold clearance_given clearance_Valid slices_ContainsFunc_int_int_S1 slices_IndexFunc_int_int_S1 slices_ContainsFunc_api_Span_api_Span_S1 slices_IndexFunc_api_Span_api_Span_S1
  rw [plan_valid hm, bind_some', cond_true, eq2 (by omega), cond_true, in_eq, decide_eq_true ht.1, decide_eq_true ht.2, e1, e2]
  simp only [Bool.and_self, bind_some', cond_true, eq2 (show (x.length : Int) = (m.2.length : Int) by omega)]
  rfl
end Go.Proofs.Ytpmpmlhjnddikaa
