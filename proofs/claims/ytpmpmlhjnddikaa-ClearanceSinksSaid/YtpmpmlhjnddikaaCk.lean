/- Clearance: bounds never rise above the sources'; where no air is sure nothing gets less; two steps leave at most 2 more. No condition of its own. -/
import Derived.Test.YtpmpmlhjnddikaaCt
set_option linter.all false
namespace Go.Proofs.Ytpmpmlhjnddikaa
open Go.Pv M

theorem vol_pos {m : T_Mine} (hm : Mk m) {k : Nat} (hk : k < m.2.length) : 0 < (m.2.getD k D_Road).2.2.1 * (m.2.getD k D_Road).2.2.2.1 * 1000 := by
  obtain ⟨_, _, _, ⟨d1, d2⟩, ⟨e1, e2⟩, _⟩ := hm.r _ (getD_mem D_Road hk)
  have a2 := Int.mul_le_mul d1 e1 (by omega) (by omega)
  omega
section
variable {m : T_Mine} (hm : Mk m) {x : List T_Span} (hx : x.length = m.2.length) {ss : List (List Int)} {qs : List Int} (ha : Air m x ss qs)
  {hi oa ob oc : List Int} (lh : hi.length = m.2.length) (la : oa.length = m.2.length) (lb : ob.length = m.2.length) (lc : oc.length = m.2.length) (hc : ∀ h, h ∈ oc → Hk h)
  {s : Int} (s0 : 0 ≤ s)
  (A : ∀ i, i < m.2.length → oa.getD i 0 = aft m hi s (ss.getD i []) (qs.getD i 0) i)
  (B : ∀ i, i < m.2.length → ob.getD i 0 = aft m oa s (ss.getD i []) (qs.getD i 0) i)
  (C : ∀ i, i < m.2.length → oc.getD i 0 = aft m hi (2 * s) (ss.getD i []) (qs.getD i 0) i)
  (hh : ∀ h, h ∈ hi → Hk h) (t0 ta tb tc : Int)
include hm ha lh la lb lc hc s0 A B C hh
theorem sinks_j2 (n1 k : Nat) (hk : k < m.2.length) (b : Bool) (hb : b = true → qs.getD k 0 = 0)
    (next : law35_ClearanceSinks_L1 1000 n1 x (W ((k : Int) + 1)) m.1 m.2 t0 hi ta oa tb ob tc oc = some true) :
    law35_ClearanceSinks_J2 1000 n1 x k (ss.getD k []) (mx hi (hi.getD k 0) (ss.getD k [])) b m.1 m.2 t0 hi ta oa tb ob tc oc = some true := by
  have hv := vol_pos hm hk
  have hq := sureV_bd (m.2.getD k D_Road) (x.getD k D_Span)
  rw [← ha.q k hk] at hq
  have qs0 : 0 ≤ qs.getD k 0 * s := Int.mul_nonneg hq.1 s0
  have eA := A k hk
  have eB := B k hk
  have eC := C k hk
  unfold aft at eA eB eC
  have h0 := (hh _ (getD_mem 0 (show k < hi.length by omega))).1
  obtain ⟨c1, c2⟩ := hc _ (getD_mem 0 (show k < oc.length by omega))
  have hmost : oa.getD k 0 ≤ mx hi (hi.getD k 0) (ss.getD k []) := by
    have b2 := stp_le (c := mx hi 0 (ss.getD k [])) (h := hi.getD k 0) hv qs0
    have m1 := mx_ge hi (ss.getD k []) (hi.getD k 0)
    have m2 := mx_mono hi (ss.getD k []) 0 (hi.getD k 0) h0
    rw [eA]; omega
  have tail : (bif ((ss.getD k []).length : Int) == 0 then
      bif inB k ob.length then
      bif inB k oc.length then
      bif (decide ((ob.getD (k : Int).toNat 0) > (W ((oc.getD (k : Int).toNat 0) + 2)))) then
        some false
      else
        law35_ClearanceSinks_L1 1000 n1 x (W ((k : Int) + 1)) m.1 m.2 t0 hi ta oa tb ob tc oc
      else none
      else none
    else
      law35_ClearanceSinks_L1 1000 n1 x (W ((k : Int) + 1)) m.1 m.2 t0 hi ta oa tb ob tc oc) = some true := by
    by_cases h : ((ss.getD k []).length : Int) = 0
    · have hl : ss.getD k [] = [] := List.length_eq_zero_iff.1 (by omega)
      rw [eq2 h, cond_true, inB_true (by omega), cond_true, inB_true (by omega), cond_true, Int.toNat_natCast, W_eq (n := oc.getD k 0 + 2) (by omega) (by omega)]
      have : ¬ ob.getD k 0 > oc.getD k 0 + 2 := by
        rw [eB, eA, eC, hl]
        have := stp_two (h := hi.getD k 0) (v := (m.2.getD k D_Road).2.2.1 * (m.2.getD k D_Road).2.2.2.1 * 1000) (q := qs.getD k 0 * s) h0 hv qs0
        rw [show qs.getD k 0 * (2 * s) = 2 * (qs.getD k 0 * s) by rw [Int.mul_left_comm]]
        show ¬ stp 0 (stp 0 (hi.getD k 0) _ _) _ _ > stp 0 (hi.getD k 0) _ _ + 2
        omega
      rw [decide_eq_false this, cond_false]; exact next
    · rw [ne2 h, cond_false]; exact next
  rw [law35_ClearanceSinks_J2_eq, inB_true (by omega), cond_true]
  rw [decide_eq_false (by rw [Int.toNat_natCast]; omega), cond_false]
  cases b with
  | false => exact tail
  | true =>
    have hz := hb rfl
    rw [cond_true, cond_true, inB_true (by omega), cond_true, decide_eq_false (by
      rw [Int.toNat_natCast, eA, hz, Int.zero_mul]
      have := stp_still (c := mx hi 0 (ss.getD k [])) (h := hi.getD k 0) hv
      omega), cond_false]
    exact tail
include hx
theorem sinks_l1 : ∀ (j n k : Nat), j + k = m.2.length → j < n → law35_ClearanceSinks_L1 1000 n x k m.1 m.2 t0 hi ta oa tb ob tc oc = some true
  | 0, n + 1, k, hk, hn => by
    rw [law35_ClearanceSinks_L1_succ, decide_eq_false (by omega), cond_false, awake_eq]; rfl
  | j + 1, n + 1, k, hk, hn => by
    have h10 := hm.r2
    have ih := sinks_l1 j n (k + 1) (by omega) (by omega)
    obtain ⟨s1, s2, s3⟩ := ha.s k (by omega)
    rw [law35_ClearanceSinks_L1_succ, decide_eq_true (by omega), cond_true, show ((m.1, m.2) : T_Mine) = m from rfl, s1, bind_some', inB_true (by omega), cond_true, Int.toNat_natCast]
    have L2 : ∀ (j' n' k' : Nat), j' + k' = (ss.getD k []).length → j' < n' → law35_ClearanceSinks_L2 1000 n n' x k (ss.getD k []) (mx hi (hi.getD k 0) ((ss.getD k []).take k')) k' m.1 m.2 t0 hi ta oa tb ob tc oc = some true := by
      intro j'
      induction j' with
      | succ j' ih2 =>
        intro n' k' hk' hn'
        obtain ⟨n', rfl⟩ : ∃ n, n' = n + 1 := ⟨n' - 1, by omega⟩
        obtain ⟨r1, r2⟩ := s3 _ (getD_mem 0 (show k' < (ss.getD k []).length by omega))
        rw [law35_ClearanceSinks_L2_succ, decide_eq_true (by omega), cond_true, inB_true (by omega), cond_true, Int.toNat_natCast, decide_eq_false (by omega), cond_false, cond_true, decide_eq_false (by omega), cond_false, cond_true, inB_true (by omega), cond_true, W_eq (n := (k' : Int) + 1) (by omega) (by omega), show (k' : Int) + 1 = ((k' + 1 : Nat) : Int) by omega, ← mx_step hi _ _ (by omega)]
        exact ih2 n' (k' + 1) (by omega) (by omega)
      | zero =>
        intro n' k' hk' hn'
        obtain ⟨n', rfl⟩ : ∃ n, n' = n + 1 := ⟨n' - 1, by omega⟩
        have J := fun b hb => sinks_j2 hm ha lh la lb lc hc s0 A B C hh t0 ta tb tc n k (by omega) b hb (by rw [W_eq (n := (k : Int) + 1) (by omega) (by omega), show (k : Int) + 1 = ((k + 1 : Nat) : Int) by omega]; exact ih)
        have hq := ha.q k (by omega)
        rw [law35_ClearanceSinks_L2_succ, decide_eq_false (by omega), cond_false, List.take_of_length_le (by omega), inB_true (by omega), cond_true, Int.toNat_natCast]
        cases hcl : (m.2.getD k D_Road).2.2.2.2.2.1 with
        | true =>
          rw [cond_true]
          exact J true fun _ => by rw [hq]; unfold sureV; rw [if_pos hcl]
        | false =>
          rw [cond_false, inB_true (by omega), cond_true]
          by_cases h1 : (x.getD k D_Span).1 ≤ 0
          · rw [decide_eq_true h1, cond_true, cond_true]
            refine J _ fun h2 => ?_
            have h2 := of_decide_eq_true h2
            rw [hq]; unfold sureV; rw [if_neg (by rw [hcl]; exact Bool.false_ne_true)]
            omega
          · rw [decide_eq_false h1, cond_false]
            exact J false fun h => by cases h
    have := L2 (ss.getD k []).length 1000 0 (by omega) (by omega)
    rw [List.take_zero] at this
    exact this
end
theorem sinks_true (t : List Int) : law35_ClearanceSinks 1000 t = some true := by
  unfold law35_ClearanceSinks
  rw [light_eq, bind_some']
  by_cases h : (t.length : Int) ≤ 400
  · simp only [h, decide_true, Bool.not_true, cond_false]
    rw [roll_spec, bind_some']
    obtain ⟨m, d1, e1, hm, hd1⟩ := mine_spec (rollD_ok (l := t) (by omega))
    simp only
    rw [e1, bind_some']
    obtain ⟨x, d2, e2, hx, hs, hd2⟩ := flows_spec hd1 hm
    simp only
    rw [e2, bind_some']
    obtain ⟨f, d3, e3, ⟨f1, f2⟩, hf, hh, hd3⟩ := fumes_spec hd2 hm
    simp only
    rw [e3, bind_some']
    obtain ⟨s, d4, e4, s1, s2, hd4⟩ := next_spec 1000 hd3 (n := 300) (by omega) (by omega)
    simp only
    rw [e4, bind_some']
    have h7 := hm.n2
    have h10 := hm.r2
    obtain ⟨ss, qs, hof, ha⟩ := of_spec' (by omega) (by omega) hx hs
    obtain ⟨oa, ea, la, A, ka⟩ := step_spec hm hx hs hof ha f1 hf hh (t := f.1 + s) (by omega) (by omega)
    obtain ⟨ob, eb, lb, B, kb⟩ := step_spec hm hx hs hof ha (f := (f.1 + s, oa)) (by show 0 ≤ f.1 + s; omega) la ka (t := f.1 + s + s) (by show f.1 + s ≤ _; omega) (by omega)
    obtain ⟨oc, ec, lc, C, kc⟩ := step_spec hm hx hs hof ha f1 hf hh (t := f.1 + 2 * s) (by omega) (by omega)
    simp only
    rw [W_eq (n := f.1 + s) (by omega) (by omega), ea, bind_some']
    simp only
    rw [W_eq (n := f.1 + s + s) (by omega) (by omega), eb, bind_some', W_eq (n := 2 * s) (by omega) (by omega), W_eq (n := f.1 + 2 * s) (by omega) (by omega), ec, bind_some']
    simp only
    rw [show ((0 : Int) != 0) = false from rfl, cond_false, cond_false, cond_false, la, lb, lc, bne_self_eq_false, cond_false, cond_false, cond_false, law35_ClearanceSinks_J1_eq]
    rw [show f.1 + s - f.1 = s by omega] at A
    simp only at B
    rw [show f.1 + s + s - (f.1 + s) = s by omega] at B
    rw [show f.1 + 2 * s - f.1 = 2 * s by omega] at C
    exact sinks_l1 hm hx ha hf la lb lc kc s1 A B C hh _ _ _ _ m.2.length 1000 0 rfl (by omega)
  · simp only [h, decide_false, Bool.not_false, cond_true]
    rw [awake_eq]; rfl
theorem clearanceSinks_any (dargs : List DV) (h : TyAs [(false, [.sl [.it .i64]])] dargs) : CallOK Try.prog 4 dargs [] 0 (B true) [] 0 :=
  law_any (law35_ClearanceSinks_pure 1000) (fun x _ => sinks_true _) rfl dargs h
end Go.Proofs.Ytpmpmlhjnddikaa
