/- PlanOrders. No condition of its own. -/
import Derived.Test.YtdmggkpefjpknaaPc
import Derived.Test.YtdmggkpefjpknaaPb
set_option linter.all false
namespace Go.Proofs.Ytdmggkpefjpknaa
open Go.Pv M

theorem rdE_app {n : Int} {r : T_Road} : ∀ {rs : List T_Road}, (∀ x, x ∈ rs → ¬ endE n x ∧ ¬ rngE x) → rdE n (rs ++ [r]) = rE n r
  | [], _ => by
    simp only [List.nil_append, rdE]
    by_cases h : rE n r = 0
    · rw [if_pos h, h]
    · rw [if_neg h]
  | x :: rs, h => by
    simp only [List.mem_cons, forall_eq_or_imp] at h
    rw [List.cons_append, rdE_0 _ h.1.1 h.1.2]
    exact rdE_app h.2
theorem chk_app {m : T_Mine} (hm : Mk m) {r : T_Road} (h1 : 0 ≤ r.1 ∧ r.1 < m.1.length) (h2 : 0 ≤ r.2.1 ∧ r.2.1 < m.1.length) (hb : Bk r) : chk (m.1, m.2 ++ [r]) = if r.1 = r.2.1 then 4 else 0 := by
  have v := hm.vm
  have g1 := hm.n2
  have g2 := hm.r2
  unfold chk
  rw [if_neg (by simp only [List.length_append, List.length_singleton]; omega), if_neg (by rw [plE_iff]; rintro ⟨x, hx, hbd⟩; exact v.p x hx hbd), rdE_app v.r]
  unfold rE
  by_cases e : r.1 = r.2.1
  · rw [if_pos e, if_pos (by unfold endE; omega)]
  · rw [if_neg e, if_neg (by unfold endE; omega), if_neg hb.rng]

theorem add_eq {m : T_Mine} (hm : Mk m) {r : T_Road} (h1 : 0 ≤ r.1 ∧ r.1 < m.1.length) (h2 : 0 ≤ r.2.1 ∧ r.2.1 < m.1.length) (hb : Bk r) (p : T_Place) (s : Int × Int × Int) : appl m (2, p, r, s) = if r.1 = r.2.1 then no 4 else ((m.1, m.2 ++ [r]), 0) := by
  unfold appl
  rw [if_neg (by simpa using (chk_zero m).2 hm.vm), if_neg (show ¬ (2 : Int) = 1 by decide), if_pos rfl]
  simp only [fin0]
  rw [chk_app hm h1 h2 hb]
  by_cases e : r.1 = r.2.1
  · simp only [if_pos e]; rw [if_neg (by decide)]
  · simp only [if_neg e]; rfl

theorem orders_tail {m : T_Mine} (hm : Mk m) {d : T_Codes} (hd : Cd d) (a1 a2 : Int) : (
    Option.bind (draw_Mod 1000 a1 (m.1.length : Int)) fun r5 =>
    Option.bind (draw_Mod 1000 a2 (m.1.length : Int)) fun r6 =>
    Option.bind (draw_Codes_Road 1000 d r5 r6) fun r7 =>
    Option.bind (plan_Apply 1000 m (2, ((0, false), (r7.1, (0, (0, 0)))))) fun r8 =>
    bif (r8.2 != 0) then
      bif (r8.2 == 4) then
        bif (r7.1.1 == r7.1.2.1) then
          Option.bind (law01_awake 1000) fun r9 =>
          some r9
        else
          some false
      else
        some false
    else
      bif ((r8.1.2.length : Int) == (W ((m.2.length : Int) + 1))) then
        bif slB 0 (m.2.length : Int) r8.1.2.length then
        Option.bind (ref01_Same 1000 (r8.1.1, (r8.1.2.take (m.2.length : Int).toNat)) m) fun r12 =>
        bif r12 then
          bif inB (m.2.length : Int) r8.1.2.length then
          let v13 := r8.1.2.getD (m.2.length : Int).toNat D_Road
          bif ((v13.1 == r7.1.1) && ((v13.2.1 == r7.1.2.1) && ((v13.2.2.1 == r7.1.2.2.1) && ((v13.2.2.2.1 == r7.1.2.2.2.1) && ((v13.2.2.2.2.1 == r7.1.2.2.2.2.1) && ((v13.2.2.2.2.2.1 == r7.1.2.2.2.2.2.1) && ((v13.2.2.2.2.2.2.1.1 == r7.1.2.2.2.2.2.2.1.1) && ((v13.2.2.2.2.2.2.1.2 == r7.1.2.2.2.2.2.2.1.2) && ((v13.2.2.2.2.2.2.2.1 == r7.1.2.2.2.2.2.2.2.1) && (v13.2.2.2.2.2.2.2.2 == r7.1.2.2.2.2.2.2.2.2)))))))))) then
            Option.bind (law01_awake 1000) fun r14 =>
            some r14
          else
            some false
          else none
        else
          some false
        else none
      else
        some false) = some true := by
  have n1 := hm.n1
  have n2 := hm.n2
  have n3 := hm.r2
  rw [mod_eq _ _ _ (by omega), bind_some', mod_eq _ _ _ (by omega), bind_some']
  have g1 := modS_range (n := a1) (m := m.1.length) (by omega)
  have g2 := modS_range (n := a2) (m := m.1.length) (by omega)
  generalize modS a1 m.1.length = a at g1 ⊢
  generalize modS a2 m.1.length = b at g2 ⊢
  obtain ⟨r, d', e, c1, c2, c3, c4, hd'⟩ := road_spec hd a b
  rw [e, bind_some', apply_eq, bind_some']
  simp only
  rw [add_eq hm (by omega) (by omega) c3]
  by_cases h : r.1 = r.2.1
  · rw [if_pos h]
    show (bif ((4 : Int) != 0) then _ else _) = _
    rw [show ((4 : Int) != 0) = true from rfl, cond_true]
    show (bif ((4 : Int) == 4) then _ else _) = _
    rw [show ((4 : Int) == 4) = true from rfl, cond_true, et h, awake_true]; rfl
  · rw [if_neg h]
    simp only [List.length_append, List.length_singleton]
    rw [nf rfl, W_succ (by omega), et rfl, slB_true (by omega), cond_true, Int.toNat_natCast, List.take_left, same_refl (by show m.1.length ≤ 900; omega) (by show m.2.length ≤ 900; omega), bind_some', cond_true, it (by omega)]
    have : (m.2 ++ [r]).getD m.2.length D_Road = r := by simp
    rw [this]
    simp only [beq_self_eq_true, Bool.and_self, cond_true, awake_true]
    rfl

/-- An edit of a road that goes through. -/
theorem road_done {m : T_Mine} (hm : Vm m) {e : T_Edit} (h3 : 3 ≤ e.1) (h : (appl m e).2 = 0) : e.1 ≤ 6 ∧ (0 ≤ e.2.2.2.1 ∧ e.2.2.2.1 < m.2.length) ∧ ∃ r, roadE e (m.2.getD e.2.2.2.1.toNat D_Road) = some r ∧ appl m e = ((m.1, m.2.set e.2.2.2.1.toNat r), 0) ∧ Vm (m.1, m.2.set e.2.2.2.1.toNat r) := by
  unfold appl at h ⊢
  rw [if_neg (by simpa using (chk_zero m).2 hm), if_neg (by omega), if_neg (by omega)] at h ⊢
  by_cases h6 : 3 ≤ e.1 ∧ e.1 ≤ 6
  · rw [if_pos h6] at h ⊢
    by_cases hr : e.2.2.2.1 < 0 ∨ e.2.2.2.1 ≥ m.2.length
    · rw [if_pos hr] at h; cases h
    · rw [if_neg hr] at h ⊢
      cases hx : roadE e (m.2.getD e.2.2.2.1.toNat D_Road) with
      | none => rw [hx] at h; cases h
      | some r =>
        rw [hx] at h
        simp only [fin0] at h ⊢
        by_cases hc : chk (m.1, m.2.set e.2.2.2.1.toNat r) = 0
        · refine ⟨h6.2, by omega, r, rfl, ?_, (chk_zero _).1 hc⟩
          rw [if_pos hc]
        · rw [if_neg hc] at h; exact absurd h hc
  · rw [if_neg h6] at h; cases h
theorem road_do {m : T_Mine} (hm : Vm m) {e : T_Edit} (h3 : 3 ≤ e.1) (h6 : e.1 ≤ 6) (hr : 0 ≤ e.2.2.2.1 ∧ e.2.2.2.1 < m.2.length) {r : T_Road} (hx : roadE e (m.2.getD e.2.2.2.1.toNat D_Road) = some r) (hv : Vm (m.1, m.2.set e.2.2.2.1.toNat r)) : appl m e = ((m.1, m.2.set e.2.2.2.1.toNat r), 0) := by
  unfold appl
  rw [if_neg (by simpa using (chk_zero m).2 hm), if_neg (by omega), if_neg (by omega), if_pos ⟨h3, h6⟩, if_neg (by omega), hx]
  simp only [fin0]
  rw [if_pos ((chk_zero _).2 hv)]
theorem getD_set_ne {α : Type} {l : List α} {i j : Nat} {x d : α} (h : i ≠ j) : (l.set i x).getD j d = l.getD j d := by
  simp only [List.getD_eq_getElem?_getD, List.getElem?_set, if_neg h]
theorem two_done {m : T_Mine} (hm : Vm m) {e f : T_Edit} (he : 3 ≤ e.1) (hf : 3 ≤ f.1) (hne : e.2.2.2.1 ≠ f.2.2.2.1) (h1 : (appl m e).2 = 0) (h2 : (appl m f).2 = 0) : ∃ x, appl (appl m e).1 f = (x, 0) ∧ appl (appl m f).1 e = (x, 0) ∧ x.1.length ≤ 64 ∧ x.2.length ≤ 128 := by
  obtain ⟨e6, er, r, e1, e2, e3⟩ := road_done hm he h1
  obtain ⟨f6, fr, s, f1, f2, f3⟩ := road_done hm hf h2
  have hij : e.2.2.2.1.toNat ≠ f.2.2.2.1.toNat := by omega
  rw [e2, f2]
  have hv : Vm (m.1, (m.2.set e.2.2.2.1.toNat r).set f.2.2.2.1.toNat s) := ⟨hm.n, by simpa using hm.k, hm.p, fun x hx => by
    rcases List.mem_or_eq_of_mem_set hx with hx | rfl
    · exact e3.r x hx
    · exact f3.r x (List.mem_set (by omega) _)⟩
  have k1 := road_do (m := (m.1, m.2.set e.2.2.2.1.toNat r)) e3 hf f6 (by simpa using fr) (r := s) (by show roadE f ((m.2.set _ r).getD _ _) = _; rw [getD_set_ne hij]; exact f1) hv
  have hc : (m.2.set f.2.2.2.1.toNat s).set e.2.2.2.1.toNat r = (m.2.set e.2.2.2.1.toNat r).set f.2.2.2.1.toNat s := List.set_comm _ _ (Ne.symm hij)
  have k2 := road_do (m := (m.1, m.2.set f.2.2.2.1.toNat s)) f3 he e6 (by simpa using er) (r := r) (by show roadE e ((m.2.set _ s).getD _ _) = _; rw [getD_set_ne (Ne.symm hij)]; exact e1) (by show Vm (m.1, (m.2.set f.2.2.2.1.toNat s).set e.2.2.2.1.toNat r); rw [hc]; exact hv)
  refine ⟨(m.1, (m.2.set e.2.2.2.1.toNat r).set f.2.2.2.1.toNat s), k1, ?_, hm.n, by simpa using hm.k⟩
  rw [k2]
  show ((m.1, (m.2.set f.2.2.2.1.toNat s).set e.2.2.2.1.toNat r), (0 : Int)) = _
  rw [hc]

theorem edit_some {m : T_Mine} (hm : Mk m) {d : T_Codes} (hd : Cd d) : ∃ e d', draw_Codes_Edit 1000 d m = some (e, d') ∧ Cd d' := by
  have n1 := hm.n1
  have n2 := hm.n2
  have n3 := hm.r2
  unfold draw_Codes_Edit
  obtain ⟨k, d1, e1, a1, b1, hd1⟩ := range_spec (N := 1000) (by omega) hd (a := 1) (b := 6) (by omega) (by omega) (by omega)
  rw [e1, bind_some']
  simp only
  by_cases k1 : k = 1
  · rw [et k1]
    obtain ⟨v2, d2, e2, a2, b2, hd2⟩ := range_spec (N := 1000) (by omega) hd1 (a := -100) (b := 100) (by omega) (by omega) (by omega)
    rw [e2, bind_some']
    obtain ⟨v3, d3, e3, hd3⟩ := one_spec (N := 1000) (by omega) hd2 (n := 4) (by omega)
    simp only
    rw [e3]
    exact ⟨_, _, rfl, hd3⟩
  rw [ef k1, W_succ (by omega)]
  by_cases k2 : k = 2
  · rw [et k2]
    obtain ⟨v2, d2, e2, a2, b2, hd2⟩ := next_spec (N := 1000) (by omega) hd1 (n := ((m.1.length + 1 : Nat) : Int)) (by omega)
    rw [e2, bind_some']
    obtain ⟨v3, d3, e3, a3, b3, hd3⟩ := next_spec (N := 1000) (by omega) hd2 (n := (m.1.length : Int)) (by omega)
    simp only
    rw [e3, bind_some']
    obtain ⟨r, d4, e4, _, _, _, _, hd4⟩ := road_spec hd3 v2 v3
    simp only
    rw [e4]
    exact ⟨_, _, rfl, hd4⟩
  rw [ef k2, W_succ (by omega)]
  obtain ⟨v2, d2, e2, a2, b2, hd2⟩ := next_spec (N := 1000) (by omega) hd1 (n := ((m.2.length + 1 : Nat) : Int)) (by omega)
  rw [e2]
  simp only [bind_some']
  by_cases k3 : k = 3
  · rw [et k3]; exact ⟨_, _, rfl, hd2⟩
  rw [ef k3]
  by_cases k4 : k = 4
  · rw [et k4]; exact ⟨_, _, rfl, hd2⟩
  rw [ef k4]
  obtain ⟨v3, d3, e3, a3, b3, hd3⟩ := range_spec (N := 1000) (by omega) hd2 (a := 0) (b := 30) (by omega) (by omega) (by omega)
  rw [e3, bind_some']
  obtain ⟨v4, d4, e4, a4, b4, hd4⟩ := range_spec (N := 1000) (by omega) hd3 (a := -1) (b := 5) (by omega) (by omega) (by omega)
  simp only
  rw [e4]
  exact ⟨_, _, rfl, hd4⟩

theorem planOrders_eq {l : List Int} (h : ∀ a, a ∈ l → (Lit.int .u8 a).wf = true) (hl : l.length ≤ maxLen) (a b : Int) : law01_PlanOrders 1000 l a b = some true := by
  unfold law01_PlanOrders
  obtain ⟨d, e, hd⟩ := new_spec 1000 h hl
  rw [e, bind_some']
  obtain ⟨m, d1, e1, hm, hd1⟩ := mine_spec hd
  simp only
  rw [e1, bind_some']
  obtain ⟨x, d2, e2, hd2⟩ := edit_some hm hd1
  simp only
  rw [e2, bind_some']
  obtain ⟨y, d3, e3, hd3⟩ := edit_some hm hd2
  simp only
  rw [e3, bind_some']
  simp only
  by_cases h1 : x.1 < 3
  · rw [dt h1]; exact orders_tail hm hd3 a b
  rw [df h1]
  by_cases h2 : y.1 < 3
  · rw [dt h2]; exact orders_tail hm hd3 a b
  rw [df h2]
  by_cases h3 : x.2.2.2.1 = y.2.2.2.1
  · rw [et h3]; exact orders_tail hm hd3 a b
  rw [ef h3, law01_PlanOrders_J1_eq]
  obtain ⟨k, ⟨p1, p2⟩, ⟨b1, b2, b3, b4, b5, b6, ⟨b7, b8⟩, b9, b10⟩, rd, s1, s2⟩ := x
  obtain ⟨k', ⟨p1', p2'⟩, ⟨b1', b2', b3', b4', b5', b6', ⟨b7', b8'⟩, b9', b10'⟩, rd', s1', s2'⟩ := y
  simp only at h1 h2 h3 ⊢
  rw [show ((m.1, m.2) : T_Mine) = m from rfl]
  generalize hx : ((k, (p1, p2), (b1, b2, b3, b4, b5, b6, (b7, b8), b9, b10), rd, s1, s2) : T_Edit) = x
  generalize hy : ((k', (p1', p2'), (b1', b2', b3', b4', b5', b6', (b7', b8'), b9', b10'), rd', s1', s2') : T_Edit) = y
  have x1 : x.1 = k := by rw [← hx]
  have y1 : y.1 = k' := by rw [← hy]
  have x2 : x.2.2.2.1 = rd := by rw [← hx]
  have y2 : y.2.2.2.1 = rd' := by rw [← hy]
  rw [apply_eq, bind_some', apply_eq, bind_some']
  by_cases g1 : (appl m x).2 = 0
  · rw [nf g1]
    by_cases g2 : (appl m y).2 = 0
    · rw [nf g2, apply_eq, bind_some', apply_eq, bind_some']
      obtain ⟨z, z1, z2, z3, z4⟩ := two_done hm.vm (e := x) (f := y) (by omega) (by omega) (by omega) g1 g2
      rw [z1, z2]
      simp only
      rw [et rfl, same_refl (by omega) (by omega), bind_some', cond_true, awake_true]
      rfl
    · rw [nt g2, awake_true]; rfl
  · rw [nt g1, awake_true]; rfl
theorem planOrders_any (dargs : List DV) (h : TyAs [(false, [.sl [.it .u8]]), (false, [.it .i64]), (false, [.it .i64])] dargs) : CallOK Try.prog 4 dargs [] 0 (B true) [] 0 :=
  law_any (law01_PlanOrders_pure 1000) (fun x hx => planOrders_eq hx.1.2 hx.1.1 _ _) rfl dargs h
end Go.Proofs.Ytdmggkpefjpknaa
