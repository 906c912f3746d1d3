/- The laws of fans answer true for every input. No condition of its own. -/
import Derived.Test.YtlclflgommkbcaaFb
set_option linter.all false
namespace Go.Proofs.Ytlclflgommkbcaa
open Go.Pv M

theorem u8s {l : List Int} (h : InR (.list (.int .u8)) l) : (∀ a, a ∈ l → (Lit.int .u8 a).wf = true) ∧ l.length ≤ maxLen := ⟨h.2, h.1⟩
theorem checks_true (codes : List Int) (hc : InR (.list (.int .u8)) codes) (raw : T_Fan) (at_ by_ : Int) : law07_FanChecks 1000 codes raw at_ by_ = some true := by
  unfold law07_FanChecks
  obtain ⟨f, e⟩ := made_spec (N := 1000) (by omega) (u8s hc).1 (u8s hc).2 at_ by_
  obtain ⟨a, b, c, l⟩ := f
  obtain ⟨a', b', c', l'⟩ := raw
  obtain ⟨r1, e1, e2, _⟩ := check_spec (N := 1000) (by omega) a b c l
  obtain ⟨r2, e3, e4, _⟩ := check_spec (N := 1000) (by omega) a' b' c' l'
  rw [e, bind_some', e1, bind_some', e2, bind_some', beq_self_eq_true, cond_true, e3, bind_some', e4, bind_some', beq_self_eq_true, cond_true, awake_eq]; rfl

theorem curve_both (f : T_Fan) (x : Int) : ∃ r, fan_Curve 1000 f x = some r ∧ ref07_Curve 1000 f x = some r := by
  obtain ⟨a, b, c, l⟩ := f
  obtain ⟨r1, e1, e2, h⟩ := check_spec (N := 1000) (by omega) a b c l
  unfold fan_Curve ref07_Curve
  rw [e1, e2, bind_some', bind_some']
  by_cases h0 : r1 = 0
  · have hr := (h.1 h0).2
    subst h0
    simp only [bne_self_eq_false, cond_false]
    rw [fan_curve_eq (by omega) hr, ref_curve_eq (by omega) hr]; exact ⟨_, rfl, rfl⟩
  · rw [show (r1 != 0) = true by simpa using h0]; exact ⟨_, rfl, rfl⟩
theorem same (r : T_Point) : (!((r.1 == r.1) && (r.2 == r.2))) = false := by simp
theorem curves_step (n : Nat) (x3 x4 : Int) (l : List T_Fan) (k : Nat) (hk : k < l.length) (hl : l.length ≤ 2) : law07_FanCurves_L1 1000 (n + 1) x3 x4 l l.length k = law07_FanCurves_L1 1000 n x3 x4 l l.length ((k + 1 : Nat) : Int) := by
  rw [law07_FanCurves_L1_succ, decide_eq_true (by omega), cond_true, inB_true (by omega), cond_true, Int.toNat_natCast]
  obtain ⟨r, e1, e2⟩ := curve_both (l.getD k D_Fan) x3
  obtain ⟨s, e3, e4⟩ := curve_both (l.getD k D_Fan) x4
  rw [e1, bind_some', e2, bind_some', same, cond_false, e3, bind_some', e4, bind_some', same, cond_false, W_eq (by omega) (by omega), show (k : Int) + 1 = ((k + 1 : Nat) : Int) by omega]
theorem curves_true (codes : List Int) (hc : InR (.list (.int .u8)) codes) (raw : T_Fan) (at_ by_ flow : Int) : law07_FanCurves 1000 codes raw at_ by_ flow = some true := by
  unfold law07_FanCurves
  obtain ⟨f, e⟩ := made_spec (N := 1000) (by omega) (u8s hc).1 (u8s hc).2 at_ by_
  rw [mod_eq 1000 _ _ (by omega), bind_some', e, bind_some']
  have h1 := fun x4 => curves_step 999 flow x4 [f, raw] 0 (by simp) (by simp)
  have h2 := fun x4 => curves_step 998 flow x4 [f, raw] 1 (by simp) (by simp)
  rw [show (0 : Int) = ((0 : Nat) : Int) from rfl, h1, h2, law07_FanCurves_L1_succ, decide_eq_false (by simp), cond_false, awake_eq]; rfl

theorem states_step (n : Nat) (x4 x5 x6 x7 : Int) (l : List T_Fan) (k : Nat) (hk : k < l.length) (hl : l.length ≤ 2) : law07_FanStates_L1 1000 (n + 1) x4 x5 x6 x7 l l.length k = law07_FanStates_L1 1000 n x4 x5 x6 x7 l l.length ((k + 1 : Nat) : Int) := by
  rw [law07_FanStates_L1_succ, decide_eq_true (by omega), cond_true, inB_true (by omega), cond_true, Int.toNat_natCast]
  generalize l.getD k D_Fan = f
  obtain ⟨a, b, c, l'⟩ := f
  obtain ⟨r1, e1, e2⟩ := at_eq (N := 1000) (by omega) a b c l' x4 x5
  obtain ⟨r2, e3, e4⟩ := at_eq (N := 1000) (by omega) a b c l' x7 x6
  obtain ⟨r3, e5, e6⟩ := at_eq (N := 1000) (by omega) a b c l' x7 (W (1048576 + (x6.tmod 3)))
  rw [e1, bind_some', e2, bind_some', same, cond_false, e3, bind_some', e4, bind_some', same, cond_false, e5, bind_some', e6, bind_some', same, cond_false, W_eq (n := (k : Int) + 1) (by omega) (by omega), show (k : Int) + 1 = ((k + 1 : Nat) : Int) by omega]
theorem states_true (codes : List Int) (hc : InR (.list (.int .u8)) codes) (raw : T_Fan) (at_ by_ state flow : Int) : law07_FanStates 1000 codes raw at_ by_ state flow = some true := by
  unfold law07_FanStates
  obtain ⟨f, e⟩ := made_spec (N := 1000) (by omega) (u8s hc).1 (u8s hc).2 at_ by_
  rw [mod_eq 1000 _ _ (by omega), bind_some', mod_eq 1000 _ _ (by omega), bind_some', e, bind_some']
  have h1 := fun x6 x7 => states_step 999 state flow x6 x7 [f, raw] 0 (by simp) (by simp)
  have h2 := fun x6 x7 => states_step 998 state flow x6 x7 [f, raw] 1 (by simp) (by simp)
  rw [show (0 : Int) = ((0 : Nat) : Int) from rfl, h1, h2, law07_FanStates_L1_succ, decide_eq_false (by simp), cond_false, awake_eq]; rfl

theorem alS_mono {l : List T_Point} (h : Right l) (b : Bool) {x y : Int} (hxy : x ≤ y) : (alS l b y).1 ≤ (alS l b x).1 ∧ (alS l b y).2 ≤ (alS l b x).2 := by
  unfold alS
  cases b with
  | false => exact Sp.mono h (cv_sp h x) (cv_sp h y) hxy
  | true =>
    have := Sp.mono h (cv_sp h (-y)) (cv_sp h (-x)) (by omega)
    simp only [cond_true]
    omega
theorem alS_bd {l : List T_Point} (h : Right l) (b : Bool) (x : Int) : (alS l b x).1 ≤ (alS l b x).2 ∧ -2199023255552 ≤ (alS l b x).1 ∧ (alS l b x).2 ≤ 2199023255552 := by
  unfold alS
  cases b with
  | false =>
    have := cv_bd h x
    simp only [cond_false]; omega
  | true =>
    have := cv_bd h (-x)
    simp only [cond_true]; omega
theorem falls_true (codes : List Int) (hc : InR (.list (.int .u8)) codes) (flow more state : Int) (hm : (Lit.int .u8 more).wf = true) (hs : (Lit.int .u8 state).wf = true) : law07_FanFalls 1000 codes flow more state = some true := by
  have hm := wf_u8 hm
  have hs := wf_u8 hs
  unfold law07_FanFalls
  obtain ⟨f, e⟩ := made_spec (N := 1000) (by omega) (u8s hc).1 (u8s hc).2 0 0
  obtain ⟨a, b, c, l⟩ := f
  obtain ⟨r1, e1, e2, h⟩ := check_spec (N := 1000) (by omega) a b c l
  rw [e, bind_some', e2, bind_some']
  by_cases h0 : r1 = 0
  · have hr := (h.1 h0).2
    subst h0
    simp only [bne_self_eq_false, cond_false]
    have hk := modS_range (n := flow) (m := 400) (by omega)
    have hm4 : state.tmod 4 = state % 4 := Int.tmod_eq_emod_of_nonneg (by omega)
    rw [mod_eq 1000 _ _ (by omega), bind_some', W_eq (n := state) (by omega) (by omega), hm4, W_eq (n := state % 4 - 1) (by omega) (by omega), W_eq (n := modS flow 400 - 200) (by omega) (by omega), W_eq (n := more) (by omega) (by omega), W_eq (n := modS flow 400 - 200 + more) (by omega) (by omega)]
    rw [at_right (by omega) a b c e2 (by omega) (by omega) b, bind_some', at_right (by omega) a b c e2 (by omega) (by omega) b, bind_some']
    generalize modS flow 400 - 200 = x at *
    have key : ∀ s, -1 ≤ s ∧ s ≤ 2 → (stS l b s (x + more)).1 ≤ (stS l b s x).1 ∧ (stS l b s (x + more)).2 ≤ (stS l b s x).2 ∧ (stS l b s x).1 ≤ (stS l b s x).2 ∧ -2199023255552 ≤ (stS l b s x).1 ∧ (stS l b s x).2 ≤ 2199023255552 := fun s hs => by
      unfold stS
      rcases (by omega : s = 0 ∨ s = 1 ∨ s = 2 ∨ s = -1) with rfl | rfl | rfl | rfl
      · show (0 : Int) ≤ 0 ∧ (0 : Int) ≤ 0 ∧ (0 : Int) ≤ 0 ∧ (-2199023255552 : Int) ≤ 0 ∧ (0 : Int) ≤ 2199023255552; omega
      · have q1 := alS_mono hr b (show x ≤ x + more by omega)
        have q2 := alS_bd hr b x
        exact ⟨q1.1, q1.2, q2⟩
      · have q1 := alS_mono hr (!b) (show x ≤ x + more by omega)
        have q2 := alS_bd hr (!b) x
        exact ⟨q1.1, q1.2, q2⟩
      · have := alS_mono hr false (show x ≤ x + more by omega); have := alS_bd hr false x
        have := alS_mono hr true (show x ≤ x + more by omega); have := alS_bd hr true x
        show min (min _ _) 0 ≤ min (min _ _) 0 ∧ max (max _ _) 0 ≤ max (max _ _) 0 ∧ min (min _ _) 0 ≤ max (max _ _) 0 ∧ _ ≤ min (min _ _) 0 ∧ max (max _ _) 0 ≤ _
        omega
    have k := key (state % 4 - 1) (by omega)
    rw [decide_eq_true k.2.2.1, cond_true, W_eq (by omega) (by omega), decide_eq_true (show _ - _ ≥ (0 : Int) by omega), cond_true, decide_eq_true k.1, cond_true, decide_eq_true k.2.1, cond_true, awake_eq]; rfl
  · rw [show (r1 != 0) = true by simpa using h0, cond_true, awake_eq]; rfl

theorem same2 {x y : Int} (h : x = y) : (x == y) = true := by simp [h]
theorem turns_true (codes : List Int) (hc : InR (.list (.int .u8)) codes) (flow : Int) : law07_FanTurns 1000 codes flow = some true := by
  unfold law07_FanTurns
  obtain ⟨f, e⟩ := made_spec (N := 1000) (by omega) (u8s hc).1 (u8s hc).2 0 0
  obtain ⟨a, b, c, l⟩ := f
  obtain ⟨r1, e1, e2, h⟩ := check_spec (N := 1000) (by omega) a b c l
  rw [e, bind_some', e2, bind_some']
  by_cases h0 : r1 = 0
  · have hr := (h.1 h0).2
    subst h0
    simp only [bne_self_eq_false, cond_false]
    have hk := modS_range (n := flow) (m := 400) (by omega)
    rw [mod_eq 1000 _ _ (by omega), bind_some', W_eq (n := modS flow 400 - 200) (by omega) (by omega)]
    generalize hx : modS flow 400 - 200 = x at *
    rw [W_eq (n := 0 - x) (by omega) (by omega), show 0 - x = -x by omega]
    have A := fun (s y : Int) (hs : -1 ≤ s ∧ s ≤ 2) (hy : -1048577 ≤ y ∧ y ≤ 1048577) (b' : Bool) => at_right (N := 1000) (by omega) a b c e2 hs hy b'
    rw [A 1 x (by omega) (by omega) b, bind_some', A 2 x (by omega) (by omega) b, bind_some', A (-1) x (by omega) (by omega) b, bind_some', A 1 (-x) (by omega) (by omega) b, bind_some', A 2 x (by omega) (by omega) (!b), bind_some']
    have s1 : ∀ b y, stS l b 1 y = alS l b y := fun b y => rfl
    have s2 : ∀ b y, stS l b 2 y = alS l (!b) y := fun b y => rfl
    have s3 : ∀ b y, stS l b (-1) y = (min (min (alS l false y).1 (alS l true y).1) 0, max (max (alS l false y).2 (alS l true y).2) 0) := fun b y => rfl
    rw [s2 (!b), Bool.not_not, s1 b x, beq_self_eq_true, beq_self_eq_true, Bool.and_true, cond_true, A 1 x (by omega) (by omega) (!b), bind_some', s1 (!b), s2 b, beq_self_eq_true, beq_self_eq_true, Bool.and_true, cond_true, s1, s3]
    have hb := alS_bd hr b (-x)
    have e3 : (alS l (!b) x) = (-(alS l b (-x)).2, -(alS l b (-x)).1) := by
      unfold alS
      cases b with
      | false => rfl
      | true => simp only [Bool.not_true, cond_true, cond_false, Int.neg_neg]
    rw [W_eq (n := 0 - (alS l b (-x)).2) (by omega) (by omega), W_eq (n := 0 - (alS l b (-x)).1) (by omega) (by omega)]
    have g1 : (alS l (!b) x).1 = 0 - (alS l b (-x)).2 := by rw [e3]; simp only; omega
    have g2 : (alS l (!b) x).2 = 0 - (alS l b (-x)).1 := by rw [e3]; simp only; omega
    rw [same2 g1, same2 g2, Bool.and_true, cond_true]
    have g3 : min (min (alS l false x).1 (alS l true x).1) 0 ≤ min (min (alS l b x).1 (alS l (!b) x).1) 0 := by
      cases b with
      | false => exact Int.le_refl _
      | true => show min (min _ _) 0 ≤ min (min _ (alS l false x).1) 0; omega
    have g4 : max (max (alS l false x).2 (alS l true x).2) 0 ≥ max (max (alS l b x).2 (alS l (!b) x).2) 0 := by
      cases b with
      | false => exact Int.le_refl _
      | true => show max (max _ _) 0 ≥ max (max _ (alS l false x).2) 0; omega
    rw [decide_eq_true g3, cond_true, decide_eq_true g4, cond_true, awake_eq]; rfl
  · rw [show (r1 != 0) = true by simpa using h0, cond_true, awake_eq]; rfl

theorem points_true (codes : List Int) (hc : InR (.list (.int .u8)) codes) (at_ part : Int) (hp : (Lit.int .u8 part).wf = true) : law07_FanPoints 1000 codes at_ part = some true := by
  have hp := wf_u8 hp
  unfold law07_FanPoints
  obtain ⟨f, e⟩ := made_spec (N := 1000) (by omega) (u8s hc).1 (u8s hc).2 0 0
  obtain ⟨a, b, c, l⟩ := f
  obtain ⟨r1, e1, e2, h⟩ := check_spec (N := 1000) (by omega) a b c l
  rw [e, bind_some', e2, bind_some']
  by_cases h0 : r1 = 0
  · have hr := (h.1 h0).2
    subst h0
    simp only [bne_self_eq_false, cond_false]
    have C : ∀ x, fan_Curve 1000 (a, b, c, l) x = some (cv l x) := fun x => by
      unfold fan_Curve
      rw [e1, bind_some']
      simp only [bne_self_eq_false, cond_false]
      rw [fan_curve_eq (by omega) hr]; rfl
    have hl1 := hr.l1
    have hl2 := hr.l2
    have hk := modS_range (n := at_) (m := (l.length : Int)) (by omega)
    rw [mod_eq 1000 _ _ (by omega), bind_some', inB_true (by omega), cond_true]
    obtain ⟨k, ek⟩ := Int.eq_ofNat_of_zero_le hk.1
    rw [ek] at hk
    rw [ek, Int.toNat_natCast, C, bind_some']
    have p0 := cv_sp hr (pt l k).1
    have a1 := Sp.lo hr p0 (j := k) (by omega) (Int.le_refl _)
    have a2 := Sp.hi hr p0 (j := k) (by omega) (Int.le_refl _)
    have a3 := Sp.le hr p0
    have g1 : (cv l (pt l k).1).1 = (pt l k).2 := by omega
    have g2 : (cv l (pt l k).1).2 = (pt l k).2 := by omega
    show (bif !((cv l (pt l k).1).1 == (pt l k).2 && (cv l (pt l k).1).2 == (pt l k).2) then some false else _) = some true
    rw [same2 g1, same2 g2, Bool.and_true, Bool.not_true, cond_false, W_eq (n := (k : Int) + 1) (by omega) (by omega)]
    by_cases hk2 : (k : Int) + 1 = (l.length : Int)
    · rw [same2 hk2, cond_true, awake_eq]; rfl
    · rw [show ((k : Int) + 1 == (l.length : Int)) = false by simpa using hk2, cond_false, inB_true (by omega), cond_true, show ((k : Int) + 1).toNat = k + 1 by omega]
      have p1 := hr.ok k (by omega)
      have p2 := hr.ok (k + 1) (by omega)
      have s1 := hr.st k (by omega)
      unfold okPt at p1 p2
      unfold okStep at s1
      simp only [pt] at p1 p2 s1
      rw [W_eq (n := (l.getD (k + 1) D_Point).1 - (l.getD k D_Point).1) (by omega) (by omega), W_eq (n := (l.getD (k + 1) D_Point).1 - (l.getD k D_Point).1 + 1) (by omega) (by omega), W_eq (n := part) (by omega) (by omega)]
      rw [ne2 (x := (l.getD (k + 1) D_Point).1 - (l.getD k D_Point).1 + 1) (y := 0) (by omega), cond_false]
      have t1 := Int.tmod_nonneg ((l.getD (k + 1) D_Point).1 - (l.getD k D_Point).1 + 1) (show 0 ≤ part by omega)
      have t2 := Int.tmod_lt_of_pos part (show 0 < (l.getD (k + 1) D_Point).1 - (l.getD k D_Point).1 + 1 by omega)
      generalize part.tmod ((l.getD (k + 1) D_Point).1 - (l.getD k D_Point).1 + 1) = q at *
      rw [W_eq (n := (l.getD k D_Point).1 + q) (by omega) (by omega), C, bind_some']
      have q0 := cv_sp hr ((pt l k).1 + q)
      simp only [pt] at q0
      have b1 := Sp.lo hr q0 (j := k) (by omega) (by simp only [pt]; omega)
      have b2 := Sp.hi hr q0 (j := k + 1) (by omega) (by simp only [pt]; omega)
      have b3 := Sp.le hr q0
      have b4 := cv_bd hr ((pt l k).1 + q)
      simp only [pt] at b1 b2 b3 b4
      rw [decide_eq_true (show (l.getD (k + 1) D_Point).2 ≤ (cv l ((l.getD k D_Point).1 + q)).1 from b2), cond_true, decide_eq_true (show (cv l ((l.getD k D_Point).1 + q)).2 ≤ (l.getD k D_Point).2 from b1), cond_true, W_eq (by omega) (by omega), decide_eq_true b3.2.1, cond_true, awake_eq]; rfl
  · rw [show (r1 != 0) = true by simpa using h0, cond_true, awake_eq]; rfl

theorem fanChecks_any (dargs : List DV) (h : TyAs [(false, [.sl [.it .u8]]), (true, [.it .i64, .bo, .bo, .sl [.it .i64, .it .i64]]), (false, [.it .i64]), (false, [.it .i64])] dargs) : CallOK Try.prog 3 dargs [] 0 (B true) [] 0 :=
  law_any (law07_FanChecks_pure 1000) (fun x hx => checks_true _ hx.1 _ _ _) rfl dargs h
theorem fanCurves_any (dargs : List DV) (h : TyAs [(false, [.sl [.it .u8]]), (true, [.it .i64, .bo, .bo, .sl [.it .i64, .it .i64]]), (false, [.it .i64]), (false, [.it .i64]), (false, [.it .i64])] dargs) : CallOK Try.prog 4 dargs [] 0 (B true) [] 0 :=
  law_any (law07_FanCurves_pure 1000) (fun x hx => curves_true _ hx.1 _ _ _ _) rfl dargs h
theorem fanStates_any (dargs : List DV) (h : TyAs [(false, [.sl [.it .u8]]), (true, [.it .i64, .bo, .bo, .sl [.it .i64, .it .i64]]), (false, [.it .i64]), (false, [.it .i64]), (false, [.it .i64]), (false, [.it .i64])] dargs) : CallOK Try.prog 5 dargs [] 0 (B true) [] 0 :=
  law_any (law07_FanStates_pure 1000) (fun x hx => states_true _ hx.1 _ _ _ _ _) rfl dargs h
theorem fanFalls_any (dargs : List DV) (h : TyAs [(false, [.sl [.it .u8]]), (false, [.it .i64]), (false, [.it .u8]), (false, [.it .u8])] dargs) : CallOK Try.prog 6 dargs [] 0 (B true) [] 0 :=
  law_any (law07_FanFalls_pure 1000) (fun x hx => falls_true _ hx.1 _ _ _ hx.2.2.1 hx.2.2.2) rfl dargs h
theorem fanTurns_any (dargs : List DV) (h : TyAs [(false, [.sl [.it .u8]]), (false, [.it .i64])] dargs) : CallOK Try.prog 7 dargs [] 0 (B true) [] 0 :=
  law_any (law07_FanTurns_pure 1000) (fun x hx => turns_true _ hx.1 _) rfl dargs h
theorem fanPoints_any (dargs : List DV) (h : TyAs [(false, [.sl [.it .u8]]), (false, [.it .i64]), (false, [.it .u8])] dargs) : CallOK Try.prog 8 dargs [] 0 (B true) [] 0 :=
  law_any (law07_FanPoints_pure 1000) (fun x hx => points_true _ hx.1 _ _ hx.2.2) rfl dargs h
end Go.Proofs.Ytlclflgommkbcaa
