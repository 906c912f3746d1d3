/- Clearance: the law of any flows, fumes, roads and numbers. No condition of its own. -/
import Derived.Test.YtpmpmlhjnddikaaCy
set_option linter.all false
namespace Go.Proofs.Ytpmpmlhjnddikaa
open Go.Pv M

/-! ### Start -/
theorem has_loop (l : List Int) (t : Int) (hl : l.length ≤ 900) : ∀ (m n k : Nat), m + k = l.length → m < n → (∀ j, j < k → l.getD j 0 ≠ t) → ref23_Has_L1 1000 n l t k = some (decide (t ∈ l))
  | 0, n + 1, k, hk, hn, hg => by
    rw [ref23_Has_L1_succ, decide_eq_false (show ¬ (k : Int) < (l.length : Int) by omega), cond_false]
    congr 1
    refine (decide_eq_false fun h => ?_).symm
    obtain ⟨j, hj, e⟩ := List.mem_iff_getElem.1 h
    have := hg j (by omega)
    rw [List.getD_eq_getElem?_getD, List.getElem?_eq_getElem hj] at this
    exact absurd e this
  | m + 1, n + 1, k, hk, hn, hg => by
    rw [ref23_Has_L1_succ, decide_eq_true (show (k : Int) < (l.length : Int) by omega), cond_true, inB_true (by omega), cond_true, Int.toNat_natCast]
    by_cases h : l.getD k 0 = t
    · rw [eq2 h, cond_true]
      congr 1
      refine (decide_eq_true ?_).symm
      rw [← h]; exact getD_mem 0 (by omega)
    · rw [ne2 h, cond_false, W_eq (n := (k : Int) + 1) (by omega) (by omega), show (k : Int) + 1 = ((k + 1 : Nat) : Int) by omega]
      refine has_loop l t hl m n (k + 1) (by omega) (by omega) fun j hj => ?_
      by_cases e : j = k
      · subst e; exact h
      · exact hg j (by omega)
theorem has_eq (l : List Int) (t : Int) (hl : l.length ≤ 900) : ref23_Has 1000 l t = some (decide (t ∈ l)) := by
  unfold ref23_Has
  exact has_loop l t hl l.length 1000 0 rfl (by omega) fun j hj => by omega
theorem start_loop (q : Nat) {l : List Int} (hl : l.length ≤ 900) (hr : ∀ a, a ∈ l → Ri q a) (hi z t : Int) : ∀ (j n k : Nat) (out : List Int), j + k = l.length → j < n → out.length = q → (∀ i, i < q → out.getD i 0 = if (i : Int) ∈ l.take k then hi else 0) →
    ∃ out', clearance_Start_L1 1000 n hi l l.length k z t out = some ((t, out'), 0) ∧ out'.length = q ∧ ∀ i, i < q → out'.getD i 0 = if (i : Int) ∈ l then hi else 0
  | 0, n + 1, k, out, hk, hn, ho, hg => by
    rw [clearance_Start_L1_succ, decide_eq_false (by omega), cond_false]
    rw [List.take_of_length_le (by omega)] at hg
    exact ⟨out, rfl, ho, hg⟩
  | j + 1, n + 1, k, out, hk, hn, ho, hg => by
    obtain ⟨a0, a1⟩ := hr _ (getD_mem 0 (show k < l.length by omega))
    rw [clearance_Start_L1_succ, decide_eq_true (by omega), cond_true, inB_true (by omega), cond_true, Int.toNat_natCast, inB_true (by rw [ho]; exact ⟨a0, a1⟩), cond_true, W_eq (n := (k : Int) + 1) (by omega) (by omega), show (k : Int) + 1 = ((k + 1 : Nat) : Int) by omega]
    refine start_loop q hl hr hi z t j n (k + 1) _ (by omega) (by omega) (by rw [List.length_set, ho]) fun i hi' => ?_
    have et : l.take (k + 1) = l.take k ++ [l.getD k 0] := by
      rw [List.take_succ, List.getD_eq_getElem?_getD, List.getElem?_eq_getElem (by omega)]; rfl
    rw [et]
    by_cases e : i = (l.getD k 0).toNat
    · have : (i : Int) = l.getD k 0 := by omega
      rw [← e, set_at _ (by omega), if_pos (List.mem_append_right _ (List.mem_singleton.2 this))]
    · rw [set_off _ e, hg i hi']
      have hne : (i : Int) ≠ l.getD k 0 := by omega
      by_cases hm : (i : Int) ∈ l.take k
      · rw [if_pos hm, if_pos (List.mem_append_left _ hm)]
      · rw [if_neg hm, if_neg fun h => by
          rcases List.mem_append.1 h with h | h
          · exact hm h
          · exact hne (List.mem_singleton.1 h)]
theorem rstart_loop {m : T_Mine} (h2 : m.2.length ≤ 128) {l : List Int} (hl : l.length ≤ 900) (hi z t : Int) : ∀ (j n k : Nat) (out : List Int), j + k = m.2.length → j < n → out.length = k → (∀ i, i < k → out.getD i 0 = if (i : Int) ∈ l then hi else 0) →
    ∃ out', ref35_Start_L1 1000 n l hi k m.1 m.2 z t out = some ((t, out'), 0) ∧ out'.length = m.2.length ∧ ∀ i, i < m.2.length → out'.getD i 0 = if (i : Int) ∈ l then hi else 0
  | 0, n + 1, k, out, hk, hn, ho, hg => by
    rw [ref35_Start_L1_succ, decide_eq_false (by omega), cond_false]
    exact ⟨out, rfl, by omega, fun i hi => hg i (by omega)⟩
  | j + 1, n + 1, k, out, hk, hn, ho, hg => by
    have go := fun (w : Int) (hw : w = if (k : Int) ∈ l then hi else 0) => rstart_loop h2 hl hi z t j n (k + 1) (out ++ [w]) (by omega) (by omega) (by rw [List.length_append, List.length_singleton, ho]) (fun i hi' => by
      by_cases e : i = k
      · subst e; rw [← ho, getD_top, ho]; exact hw
      · rw [getD_low (by omega)]; exact hg i (by omega))
    rw [ref35_Start_L1_succ, decide_eq_true (by omega), cond_true, has_eq l k hl, bind_some', fitsB_true (by omega), cond_true, cond_true, W_eq (n := (k : Int) + 1) (by omega) (by omega), show (k : Int) + 1 = ((k + 1 : Nat) : Int) by omega]
    by_cases h : (k : Int) ∈ l
    · rw [decide_eq_true h, cond_true]; exact go hi (by rw [if_pos h])
    · rw [decide_eq_false h, cond_false]; exact go 0 (by rw [if_neg h])
theorem start_both {m : T_Mine} (hm : Mk m) {l : List Int} (hl : l.length ≤ 900) (hi t : Int) : ∃ r, clearance_Start 1000 m l hi t = some r ∧ ref35_Start 1000 m l hi t = some r ∧ r.1.2.length ≤ 900 := by
  have h10 := hm.r2
  obtain ⟨b, eb, eb2, hb⟩ := rising_both m.2.length (by omega) l hl
  unfold clearance_Start ref35_Start
  rw [plan_valid hm, rcheck hm, bind_some', bind_some', show ((0 : Int) != 0) = false from rfl, cond_false]
  simp only [Bool.not_true, cond_false]
  rw [eb, eb2, bind_some', bind_some']
  cases b with
  | false => exact ⟨((0, []), 4), rfl, rfl, by simp⟩
  | true =>
    simp only [Bool.not_true, cond_false]
    rw [in_eq, in_cases hi, bind_some']
    by_cases c1 : hi < 0
    · rw [decide_eq_true c1]; exact ⟨((0, []), 1), rfl, rfl, by simp⟩
    by_cases c2 : hi > 1000000
    · rw [decide_eq_false c1, decide_eq_true c2]; exact ⟨((0, []), 1), rfl, rfl, by simp⟩
    rw [decide_eq_false c1, decide_eq_false c2]
    simp only [Bool.not_false, Bool.and_self, Bool.not_true, cond_false]
    rw [in_eq, in_cases t, bind_some']
    by_cases c3 : t < 0
    · rw [decide_eq_true c3]; exact ⟨((0, []), 8), rfl, rfl, by simp⟩
    by_cases c4 : t > 2147483648
    · rw [decide_eq_false c3, decide_eq_true c4]; exact ⟨((0, []), 8), rfl, rfl, by simp⟩
    rw [decide_eq_false c3, decide_eq_false c4]
    simp only [Bool.not_false, Bool.and_self, Bool.not_true, cond_false]
    rw [mkB_true (by omega), cond_true, ref35_Start_J1_eq]
    obtain ⟨o1, e1, k1, g1⟩ := start_loop m.2.length hl (hb rfl) hi 0 t l.length 1000 0 (List.replicate (m.2.length : Int).toNat 0) rfl (by omega) (by rw [List.length_replicate]; omega) (fun i hi' => by
      rw [List.take_zero, if_neg (fun h => by cases h), List.getD_eq_getElem?_getD, List.getElem?_replicate]; split <;> rfl)
    obtain ⟨o2, e2, k2, g2⟩ := rstart_loop (m := m) (by omega) hl hi 0 t m.2.length 1000 0 [] rfl (by omega) rfl (fun i hi => by omega)
    rw [show ((0 : Nat) : Int) = 0 from rfl] at e1 e2
    have : o2 = o1 := ext_getD (by rw [k1, k2]) fun i hi => by rw [g1 i (by omega), g2 i (by omega)]
    subst this
    exact ⟨_, e1, e2, by show o2.length ≤ 900; omega⟩

/-! ### The law -/
theorem same_ints (l : List Int) (hl : l.length ≤ 900) : ref23_SameInts 1000 l l = some true := by
  unfold ref23_SameInts
  rw [bne_self_eq_false, cond_false]
  have : ∀ (m n k : Nat), m + k = l.length → m < n → ref23_SameInts_L1 1000 n l l k = some true := by
    intro m
    induction m with
    | zero =>
      intro n k hk hn
      obtain ⟨n, rfl⟩ : ∃ n', n = n' + 1 := ⟨n - 1, by omega⟩
      rw [ref23_SameInts_L1_succ, decide_eq_false (by omega), cond_false]
    | succ m ih =>
      intro n k hk hn
      obtain ⟨n, rfl⟩ : ∃ n', n = n' + 1 := ⟨n - 1, by omega⟩
      rw [ref23_SameInts_L1_succ, decide_eq_true (by omega), cond_true, inB_true (by omega), cond_true, cond_true, bne_self_eq_false, cond_false, W_eq (n := (k : Int) + 1) (by omega) (by omega), show (k : Int) + 1 = ((k + 1 : Nat) : Int) by omega]
      exact ih n (k + 1) (by omega) (by omega)
  exact this l.length 1000 0 rfl (by omega)
theorem same_eq (f : T_Fumes) (hf : f.2.length ≤ 900) : ref35_Same 1000 f f = some true := by
  unfold ref35_Same
  rw [beq_self_eq_true, cond_true, same_ints _ hf]; rfl
theorem agree_true {m : T_Mine} (hm : Mk m) {x : List T_Span} (hx : x.length ≤ 900) {f : T_Fumes} (hf : f.2.length ≤ 900) {l : List Int} (hl : l.length ≤ 900) (n1 n2 n3 n4 : Int) (hn : n4 ≤ 20 ∨ n4 > 1000) : law35_agree 1000 m x f l (n1, (n2, (n3, n4))) = some true := by
  obtain ⟨r1, a1, b1, k1⟩ := start_both hm hl n1 n2
  obtain ⟨r2, a2, b2, k2⟩ := step_both hm hx hf n2
  obtain ⟨r3, a3, b3⟩ := until_both hm hx hf hl n1 n3 n4 hn
  obtain ⟨v, a4, b4, _⟩ := valid_both hm hf
  unfold law35_agree
  simp only
  rw [a1, b1, a2, b2, a3, b3]
  simp only [bind_some']
  rw [beq_self_eq_true, cond_true, same_eq _ k1, bind_some', cond_true, beq_self_eq_true, cond_true, same_eq _ k2, bind_some', cond_true, beq_self_eq_true, cond_true, beq_self_eq_true, cond_true, a4, b4, bind_some', bind_some', beq_self_eq_true]
theorem ints_loop : ∀ (n k : Nat) (d : T_Dice) (l : List Int), k < n → k ≤ 4 → l.length + k ≤ 4 → Dk d → ∃ l' d', made_Dice_Ints_L1 1000 n k d.1 d.2 l = some (l', d') ∧ l'.length ≤ 4 ∧ Dk d'
  | n + 1, 0, d, l, hn, hk, hl, hd => by
    rw [made_Dice_Ints_L1_succ]
    exact ⟨l, d, rfl, by omega, hd⟩
  | n + 1, k + 1, d, l, hn, hk, hl, hd => by
    rw [made_Dice_Ints_L1_succ, decide_eq_true (by omega), cond_true]
    obtain ⟨a, d1, e1, a1, a2, hd1⟩ := next_spec 1000 hd (n := 9) (by omega) (by omega)
    rw [show ((d.1, d.2) : T_Dice) = d from rfl, e1, bind_some', fitsB_true (by omega), cond_true, W_eq (n := ((k + 1 : Nat) : Int) - 1) (by omega) (by omega), show ((k + 1 : Nat) : Int) - 1 = (k : Int) by omega]
    exact ints_loop n k d1 _ (by omega) (by omega) (by rw [List.length_append, List.length_singleton]; omega) hd1
theorem ints_spec {d : T_Dice} (hd : Dk d) : ∃ l d', made_Dice_Ints 1000 d = some (l, d') ∧ l.length ≤ 4 ∧ Dk d' := by
  unfold made_Dice_Ints
  obtain ⟨a, d1, e1, a1, a2, hd1⟩ := next_spec 1000 hd (n := 5) (by omega) (by omega)
  rw [e1, bind_some']
  obtain ⟨k, rfl⟩ := Int.eq_ofNat_of_zero_le a1
  exact ints_loop 1000 k d1 [] (by omega) (by omega) (by simp; omega) hd1
theorem raw_true (t : List Int) (x0 : List T_Span) (f0 : T_Fumes) : law35_ClearanceRaw 1000 t x0 f0 = some true := by
  unfold law35_ClearanceRaw
  rw [light_eq, bind_some']
  by_cases h : (t.length : Int) ≤ 400
  · simp only [h, decide_true, Bool.not_true, cond_false]
    by_cases h1 : (x0.length : Int) > 140
    · rw [decide_eq_true h1, cond_true, awake_eq]; rfl
    rw [decide_eq_false h1, cond_false]
    by_cases h2 : (f0.2.length : Int) > 140
    · rw [decide_eq_true h2, cond_true, awake_eq]; rfl
    rw [decide_eq_false h2, cond_false, law35_ClearanceRaw_J1_eq, show ((999 + 1 : Nat)) = 1000 from rfl, roll_spec, bind_some']
    obtain ⟨m, d1, e1, hm, hd1⟩ := mine_spec (rollD_ok (l := t) (by omega))
    simp only
    rw [e1, bind_some']
    obtain ⟨x, d2, e2, hx, hs, hd2⟩ := flows_spec hd1 hm
    simp only
    rw [e2, bind_some']
    obtain ⟨f, d3, e3, ⟨f1, f2⟩, hf, hh, hd3⟩ := fumes_spec hd2 hm
    simp only
    rw [e3, bind_some']
    have h7 := hm.n2
    have h10 := hm.r2
    obtain ⟨li, d4, e4, l4, hd4⟩ := ints_spec hd3
    simp only
    rw [e4, bind_some']
    obtain ⟨n1, d5, e5, m5, hd5⟩ := of_spec 1000 hd4 [30, 0, (-1), 1000000, 1000001] (by simp) (by simp)
    simp only
    rw [e5, bind_some']
    obtain ⟨n2, d6, e6, m6, hd6⟩ := of_spec 1000 hd5 [f0.1, 500, (-1), 2147483648, 2147483649] (by simp) (by simp)
    simp only
    rw [e6, bind_some']
    obtain ⟨n3, d7, e7, m7, hd7⟩ := of_spec 1000 hd6 [60, 0, 3600, 3601, (-5)] (by simp) (by simp)
    simp only
    rw [e7, bind_some']
    obtain ⟨n4, d8, e8, m8, hd8⟩ := of_spec 1000 hd7 [5, 0, 20, (-1), 1001] (by simp) (by simp)
    simp only
    rw [e8, bind_some', awake_eq, bind_some', cond_true]
    obtain ⟨la, d9, e9, la1, la2, la3, hd9⟩ := some_spec hd8 (q := m.2.length) (by omega)
    simp only
    rw [e9, bind_some']
    simp only [List.mem_cons, List.not_mem_nil, or_false] at m8
    have hn4 : n4 ≤ 20 ∨ n4 > 1000 := by omega
    simp only
    rw [agree_true hm (by omega) (by omega) (by omega) n1 n2 n3 n4 hn4, bind_some', cond_true]
    obtain ⟨lb, d10, e10, lb1, lb2, lb3, hd10⟩ := some_spec hd9 (q := m.2.length) (by omega)
    rw [e10, bind_some']
    simp only
    rw [show ((f0.1, f0.2) : T_Fumes) = f0 from rfl, agree_true hm (by omega) (by omega) (by omega) n1 n2 n3 n4 hn4, bind_some', cond_true, agree_true hm (by omega) (by omega) (by omega) n1 n2 n3 n4 hn4]
    rfl
  · simp only [h, decide_false, Bool.not_false, cond_true]
    rw [awake_eq]; rfl
theorem clearanceRaw_any (dargs : List DV) (h : TyAs [(false, [.sl [.it .i64]]), (false, [.sl [.it .i64, .it .i64]]), (true, [.it .i64, .sl [.it .i64]])] dargs) : CallOK Try.prog 3 dargs [] 0 (B true) [] 0 :=
  law_any (law35_ClearanceRaw_pure 1000) (fun x _ => raw_true x.1 x.2.1 x.2.2) rfl dargs h
end Go.Proofs.Ytpmpmlhjnddikaa
