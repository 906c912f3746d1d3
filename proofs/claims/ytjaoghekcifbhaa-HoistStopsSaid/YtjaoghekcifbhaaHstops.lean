/- HoistStops answers true for every input. No condition of its own. -/
import Derived.Test.YtjaoghekcifbhaaHmade
set_option linter.all false
namespace Go.Proofs.Ytjaoghekcifbhaa
open Go.Pv M

theorem stop_eq (N : Nat) {dp tp dc cr mg v : Int} (h : vH dp tp dc cr mg) (hv : -40000 ≤ v ∧ v ≤ 40000) : hoist_Stop N (dp, tp, dc, cr, mg) v = some ((v * v + 2 * dc - 1) / (2 * dc)) := by
  obtain ⟨h1, h2, h3, h4, h5⟩ := h
  have hb := sq_bd hv
  have q1 := Int.ediv_nonneg (a := v * v + 2 * dc - 1) (b := 2 * dc) (by omega) (by omega)
  have q2 := Int.ediv_le_self (a := v * v + 2 * dc - 1) (2 * dc) (by omega)
  unfold hoist_Stop
  simp only
  rw [decide_eq_false (show ¬ dc < 1 by omega), cond_false, W_eq (n := 2 * dc) (by omega) (by omega), show (2 * dc == 0) = false from by simp; omega]
  rw [W_eq (n := v * v) (by omega) (by omega), W_eq (n := v * v + 2 * dc) (by omega) (by omega), W_eq (n := v * v + 2 * dc - 1) (by omega) (by omega), Int.tdiv_eq_ediv_of_nonneg (by omega), W_eq (by omega) (by omega)]
  rfl

theorem stops_loop {dp tp dc mg : Int} (h : vH dp tp dc 0 mg) : ∀ (m n k : Nat) (d : T_Dice) (at_ sp : Int), Dk d → vR dp at_ sp → sp ≤ max 0 (20000 - k * dc) → -sp ≤ max 0 (20000 - k * dc) → m + k = 300 → m < n →
    law37_HoistStops_L1 1000 n k d.1 d.2 dp tp dc 0 mg at_ sp true = some true := by
  have hh := h
  obtain ⟨h1, h2, h3, h4, h5⟩ := h
  have hdc : (dc == 0) = false := by simp; omega
  have q1 := Int.ediv_nonneg (a := 20000) (b := dc) (by omega) (by omega)
  have q2 := Int.ediv_le_self (a := 20000) dc (by omega)
  have q3 : 20000 < (20000 / dc + 1) * dc := Int.lt_ediv_add_one_mul_self 20000 (by omega)
  have eq : W ((W ((20000 : Int).tdiv dc)) + 1) = 20000 / dc + 1 := by
    rw [Int.tdiv_eq_ediv_of_nonneg (by omega), W_eq (n := 20000 / dc) (by omega) (by omega), W_eq (by omega) (by omega)]
  have last : ∀ sp : Int, (sp = 0 ∨ 20000 / dc + 1 ≥ 300) → (Option.bind (law37_awake 1000) fun r50 =>
    bif r50 then
      bif (sp == 0) then
        some true
      else
        bif false then none else
        some (decide (20000 / dc + 1 ≥ 300))
    else
      some false) = some true := fun sp hs => by
    rw [awake_eq, bind_some', cond_true]
    rcases hs with rfl | hs
    · rfl
    · rw [decide_eq_true hs]; cases (sp == 0) <;> rfl
  intro m
  induction m with
  | zero =>
    intro n k d at_ sp hd hr s1 s2 hk hn
    obtain ⟨n, rfl⟩ : ∃ n', n = n' + 1 := ⟨n - 1, by omega⟩
    rw [law37_HoistStops_L1_succ, hdc, cond_false, eq]
    have hk3 : ¬ ((k : Int) < 300) := by omega
    rw [decide_eq_false hk3, cond_false]
    by_cases c : (k : Int) ≤ 20000 / dc + 1
    · rw [decide_eq_true c, cond_true]
      exact last sp (.inr (by omega))
    · rw [decide_eq_false c, cond_false]
      refine last sp (.inl ?_)
      have := Int.mul_le_mul_of_nonneg_right (show 20000 / dc + 1 ≤ (k : Int) by omega) (show 0 ≤ dc by omega)
      omega
  | succ m ih =>
    intro n k d at_ sp hd hr s1 s2 hk hn
    obtain ⟨n, rfl⟩ : ∃ n', n = n' + 1 := ⟨n - 1, by omega⟩
    rw [law37_HoistStops_L1_succ, hdc, cond_false, eq]
    have hk3 : ((k : Int) < 300) := by omega
    rw [decide_eq_true hk3, cond_true]
    by_cases c : (k : Int) ≤ 20000 / dc + 1
    · rw [decide_eq_true c, cond_true]
      obtain ⟨ac, d1, e1, _, hd1⟩ := of_spec 1000 hd [0, 5000, (-5000)] (by decide) (by decide)
      rw [show ((d.1, d.2) : T_Dice) = d from rfl, e1, bind_some', tick_spec hh hr, bind_some']
      have ht : trp dp tp dc 0 mg at_ sp true = true := rfl
      rw [ht]
      obtain ⟨r1, r2⟩ := hr
      have es : newS tp dc sp ac true = sp - max (-dc) (min sp dc) := rfl
      generalize newS tp dc sp ac true = s at es
      have ea : newA dp at_ sp s = max (-1000) (min (at_ + (sp + s).tdiv 2) (dp + 1000)) := rfl
      generalize newA dp at_ sp s = a at ea
      have hmul : ((k + 1 : Nat) : Int) * dc = k * dc + dc := by
        rw [show ((k + 1 : Nat) : Int) = (k : Int) + 1 by omega, Int.add_mul, Int.one_mul]
      have g : decide (max s (W (0 - s)) > max sp (W (0 - sp))) = false := by
        rw [W_eq (n := 0 - s) (by omega) (by omega), W_eq (n := 0 - sp) (by omega) (by omega)]
        exact decide_eq_false (by omega)
      simp only [bne_self_eq_false, Bool.not_true, cond_false, g]
      rw [W_eq (n := (k : Int) + 1) (by omega) (by omega), show (k : Int) + 1 = ((k + 1 : Nat) : Int) by omega]
      exact ih n (k + 1) d1 a s hd1 ⟨by omega, by omega⟩ (by rw [hmul]; omega) (by rw [hmul]; omega) (by omega) (by omega)
    · rw [decide_eq_false c, cond_false]
      refine last sp (.inl ?_)
      have := Int.mul_le_mul_of_nonneg_right (show 20000 / dc + 1 ≤ (k : Int) by omega) (show 0 ≤ dc by omega)
      omega

theorem stops_true (t : List Int) (room speed : Int) : law37_HoistStops 1000 t room speed = some true := by
  unfold law37_HoistStops
  rw [light_eq, bind_some']
  by_cases h : (t.length : Int) ≤ 400
  · simp only [h, decide_true, Bool.not_true, cond_false]
    rw [roll_spec, bind_some']
    obtain ⟨dp, tp, dc, mg, d1, e1, hv, hd1⟩ := made1_spec (rollD_ok (l := t) (by omega))
    simp only
    rw [e1, bind_some']
    have hh := hv
    obtain ⟨h1, h2, h3, h4, h5⟩ := hv
    simp only
    rw [W_eq (n := dp + 1) (by omega) (by omega), mod_eq 1000 _ _ (by omega), bind_some', limit_eq 1000 hh, bind_some']
    have hx := modS_range (n := room) (m := dp + 1) (by omega)
    generalize modS room (dp + 1) = x at hx
    have hL := limitV_bd (tp := tp) (dc := dc) (cr := 0) (rm := x) h2.1 (Int.le_refl 0)
    have hst := fun v hv => stop_le (dc := dc) (x := x) (v := v) h2 h3.1 hx.1 hv
    have hmono := fun y hy => lim_mono (tp := tp) (dc := dc) (a := x) (b := y) h2 h3.1 hy
    generalize hLe : limitV tp dc 0 x = L at hL hst hmono
    rw [W_eq (n := L + 1) (by omega) (by omega), show max 1 (L + 1) = L + 1 by omega, mod_eq 1000 _ _ (by omega), bind_some']
    have hv := modS_range (n := speed) (m := L + 1) (by omega)
    generalize modS speed (L + 1) = v at hv
    rw [decide_eq_false (show ¬ L < 0 by omega), cond_false, stop_eq 1000 hh (by omega), bind_some']
    have hle := hst v ⟨hv.1, by omega⟩
    rw [decide_eq_false (by omega), cond_false]
    obtain ⟨u, d2, e2, u1, u2, hd2⟩ := next_spec 1000 hd1 (n := 1000) (by omega) (by omega)
    rw [e2, bind_some']
    simp only
    rw [W_eq (n := x + u) (by omega) (by omega), limit_eq 1000 hh, bind_some']
    have := hmono (x + u) (by omega)
    rw [decide_eq_false (by omega), cond_false, decide_eq_false (by omega), cond_false, law37_HoistStops_J1_eq, W_eq (n := dp + 1) (by omega) (by omega), mod_eq 1000 _ _ (by omega), bind_some', mod_eq 1000 _ _ (by omega), bind_some']
    have ha := modS_range (n := room) (m := dp + 1) (by omega)
    have hs := modS_range (n := speed) (m := 40000) (by omega)
    rw [W_eq (n := modS speed 40000 - 20000) (by omega) (by omega)]
    exact stops_loop hh 300 1000 0 d2 _ _ hd2 ⟨by omega, by omega⟩ (by omega) (by omega) rfl (by omega)
  · simp only [h, decide_false, Bool.not_false, cond_true]
    rw [awake_eq]; rfl

theorem hoistStops_any (dargs : List DV) (h : TyAs [(false, [.sl [.it .i64]]), (false, [.it .i64]), (false, [.it .i64])] dargs) : CallOK Try.prog 3 dargs [] 0 (B true) [] 0 :=
  law_any (law37_HoistStops_pure 1000) (fun x _ => stops_true _ _ _) rfl dargs h
end Go.Proofs.Ytjaoghekcifbhaa
