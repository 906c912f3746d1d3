/- HoistMade answers true for every input. No condition of its own. -/
import Derived.Test.YtjaoghekcifbhaaHb
set_option linter.all false
namespace Go.Proofs.Ytjaoghekcifbhaa
open Go.Pv M

theorem made1_spec {d : T_Dice} (hd : Dk d) : ∃ dp tp dc mg d', law37_made1 1000 d = some ((dp, tp, dc, 0, mg), d') ∧ vH dp tp dc 0 mg ∧ Dk d' := by
  unfold law37_made1
  obtain ⟨a, d1, e1, m1, hd1⟩ := of_spec 1000 hd [499999, 0, 999, 3999999] (by decide) (by decide)
  rw [e1, bind_some']
  obtain ⟨b, d2, e2, m2, hd2⟩ := of_spec 1000 hd1 [14999, 0, 19999, 999] (by decide) (by decide)
  simp only
  rw [e2, bind_some']
  obtain ⟨c, d3, e3, m3, hd3⟩ := of_spec 1000 hd2 [999, 0, 4999, 99] (by decide) (by decide)
  simp only
  rw [e3, bind_some']
  obtain ⟨g, d4, e4, m4, hd4⟩ := of_spec 1000 hd3 [10, 0, 20] (by decide) (by decide)
  simp only
  rw [e4, bind_some']
  simp only
  simp only [List.mem_cons, List.not_mem_nil, or_false] at m1 m2 m3 m4
  have b1 : 0 ≤ a ∧ a ≤ 3999999 := by omega
  have b2 : 0 ≤ b ∧ b ≤ 19999 := by omega
  have b3 : 0 ≤ c ∧ c ≤ 4999 := by omega
  have b4 : 0 ≤ g ∧ g ≤ 20 := by omega
  clear m1 m2 m3 m4
  rw [W_eq (n := 1 + a) (by omega) (by omega), W_eq (n := 1 + b) (by omega) (by omega), W_eq (n := 1 + c) (by omega) (by omega)]
  exact ⟨_, _, _, _, _, rfl, ⟨by omega, by omega, by omega, by omega, by omega⟩, hd4⟩

theorem stop_same (N : Nat) {dp tp dc cr mg : Int} (h : vH dp tp dc cr mg) (v : Int) : ∃ y, hoist_Stop N (dp, tp, dc, cr, mg) v = some y ∧ ref37_Stop N (dp, tp, dc, cr, mg) v = some y := by
  obtain ⟨h1, h2, h3, h4, h5⟩ := h
  unfold hoist_Stop ref37_Stop
  simp only
  rw [decide_eq_false (show ¬ dc < 1 by omega), cond_false, W_eq (n := 2 * dc) (by omega) (by omega), show (2 * dc == 0) = false from by simp; omega]
  exact ⟨_, rfl, rfl⟩

theorem jm {d : T_Dice} (hd : Dk d) (x39 x40 x41 x42 x43 x44 x45 x46 x47 x48 : Int) : law37_HoistMade_J1 1000 d.1 d.2 x39 x40 x41 x42 x43 x44 x45 x46 x47 x48 = some true := by
  rw [law37_HoistMade_J1_eq, awake_eq, bind_some', cond_true, agree_true, bind_some', cond_true]
  obtain ⟨a, d1, e1, m1, hd1⟩ := of_spec 1000 hd [1000, 1001] (by decide) (by decide)
  rw [show ((d.1, d.2) : T_Dice) = d from rfl, e1, bind_some']
  obtain ⟨b, d2, e2, m2, hd2⟩ := of_spec 1000 hd1 [40000, 40001] (by decide) (by decide)
  simp only
  rw [e2, bind_some', agree_true]; rfl

theorem made_loop (room : Int) {dp tp dc cr mg : Int} (h : vH dp tp dc cr mg) : ∀ (m n k : Nat) (d : T_Dice), Dk d → m + k = 4 → m < n → law37_HoistMade_L1 1000 n room k d.1 d.2 dp tp dc cr mg = some true
  | 0, n + 1, k, d, hd, hk, hn => by
    rw [law37_HoistMade_L1_succ]
    have : ¬ ((k : Int) < 4) := by omega
    simp only [this, decide_false, cond_false]
    obtain ⟨a, d1, e1, a1, a2, hd1⟩ := next_spec 1000 hd (n := 5) (by omega) (by omega)
    rw [show ((d.1, d.2) : T_Dice) = d from rfl, e1, bind_some']
    simp only
    cases (a == 0) with
    | true =>
      obtain ⟨b1, f1, g1, _, k1⟩ := of_spec 1000 hd1 [0, 4000001] (by decide) (by decide)
      rw [cond_true, g1, bind_some']; exact jm k1 ..
    | false =>
      rw [cond_false]
      cases (a == 1) with
      | true =>
        obtain ⟨b1, f1, g1, _, k1⟩ := of_spec 1000 hd1 [0, 20001] (by decide) (by decide)
        rw [cond_true, g1, bind_some']; exact jm k1 ..
      | false =>
        rw [cond_false]
        cases (a == 2) with
        | true =>
          obtain ⟨b1, f1, g1, _, k1⟩ := of_spec 1000 hd1 [0, 5001] (by decide) (by decide)
          rw [cond_true, g1, bind_some']; exact jm k1 ..
        | false =>
          rw [cond_false]
          cases (a == 3) with
          | true =>
            obtain ⟨b1, f1, g1, _, k1⟩ := of_spec 1000 hd1 [(-1), W (tp + 1)] (by simp) (by simp)
            rw [cond_true, g1, bind_some']; exact jm k1 ..
          | false =>
            obtain ⟨b1, f1, g1, _, k1⟩ := of_spec 1000 hd1 [(-1), 21] (by decide) (by decide)
            rw [cond_false, g1, bind_some']; exact jm k1 ..
  | m + 1, n + 1, k, d, hd, hk, hn => by
    have hh := h
    obtain ⟨h1, h2, h3, h4, h5⟩ := h
    rw [law37_HoistMade_L1_succ]
    have : ((k : Int) < 4) := by omega
    simp only [this, decide_true, cond_true]
    rw [mod_eq 1000 room 5000000 (by omega), bind_some']
    obtain ⟨x, d1, e1, _, hd1⟩ := of_spec 1000 hd [0, 1, dp, modS room 5000000, (-7), room] (by simp) (by simp)
    rw [show ((d.1, d.2) : T_Dice) = d from rfl, e1, bind_some', mod_eq 1000 room 80001 (by omega), bind_some']
    simp only
    rw [limit_eq 1000 hh, bind_some', limit_eq2 hh, bind_some']
    simp only [bne_self_eq_false, cond_false]
    obtain ⟨y, s1, s2⟩ := stop_same 1000 hh (W (modS room 80001 - 40000))
    rw [s1, bind_some', s2, bind_some']
    simp only [bne_self_eq_false, cond_false]
    rw [W_eq (n := dp + 2001) (by omega) (by omega), mod_eq 1000 _ (dp + 2001) (by omega), bind_some']
    obtain ⟨z, d2, e2, hd2⟩ := one_spec 1000 hd1 (n := 3) (by omega) (by omega)
    rw [e2, bind_some']
    obtain ⟨w, d3, e3, _, hd3⟩ := of_spec 1000 hd2 [0, 500, (-500), 1099511627776, (-5000)] (by decide) (by decide)
    simp only
    rw [e3, bind_some', agree_true, bind_some']
    simp only [Bool.not_true, cond_false]
    rw [W_eq (n := (k : Int) + 1) (by omega) (by omega), show (k : Int) + 1 = ((k + 1 : Nat) : Int) by omega]
    exact made_loop room hh m n (k + 1) d3 hd3 (by omega) (by omega)

theorem made_true (t : List Int) (room : Int) : law37_HoistMade 1000 t room = some true := by
  unfold law37_HoistMade
  rw [light_eq, bind_some']
  by_cases h : (t.length : Int) ≤ 400
  · simp only [h, decide_true, Bool.not_true, cond_false]
    rw [roll_spec, bind_some']
    obtain ⟨dp, tp, dc, mg, d1, e1, hv, hd1⟩ := made1_spec (rollD_ok (l := t) (by omega))
    simp only
    rw [e1, bind_some']
    obtain ⟨h1, h2, h3, h4, h5⟩ := hv
    have e3 : W (tp.tdiv 3) = tp / 3 := by rw [Int.tdiv_eq_ediv_of_nonneg (by omega), W_eq (by omega) (by omega)]
    simp only
    rw [e3]
    obtain ⟨cr, d2, e2, m2, hd2⟩ := of_spec 1000 hd1 [0, tp, tp / 3] (by simp) (by simp)
    rw [e2, bind_some']
    simp only [List.mem_cons, List.not_mem_nil, or_false] at m2
    exact made_loop room ⟨h1, h2, h3, by omega, h5⟩ 4 1000 0 d2 hd2 rfl (by omega)
  · simp only [h, decide_false, Bool.not_false, cond_true]
    rw [awake_eq]; rfl

theorem hoistMade_any (dargs : List DV) (h : TyAs [(false, [.sl [.it .i64]]), (false, [.it .i64])] dargs) : CallOK Try.prog 7 dargs [] 0 (B true) [] 0 :=
  law_any (law37_HoistMade_pure 1000) (fun x _ => made_true _ _) rfl dargs h
end Go.Proofs.Ytjaoghekcifbhaa
