/- Plan: edits, by the program and by the reference. No condition of its own. -/
import Derived.Test.YtdmggkpefjpknaaPa
set_option linter.all false
namespace Go.Proofs.Ytdmggkpefjpknaa
open Go.Pv M

theorem copy_eq' {m : T_Mine} (h1 : m.1.length ≤ 100000) (h2 : m.2.length ≤ 100000) : ref01_Copy 1000 m = some (m, ()) := by
  unfold ref01_Copy
  rw [fitsB_true (by omega), cond_true, fitsB_true (by omega), cond_true]
theorem clone_eq {m : T_Mine} (h1 : m.1.length ≤ 100000) (h2 : m.2.length ≤ 100000) : plan_clone 1000 m = some (m, ()) := by
  unfold plan_clone
  rw [fitsB_true (by omega), cond_true, fitsB_true (by omega), cond_true]
theorem nt {a b : Int} {α : Type} {x y : α} (h : a ≠ b) : (bif a != b then x else y) = x := by rw [show (a != b) = true by simpa using h]; rfl
theorem nf {a b : Int} {α : Type} {x y : α} (h : a = b) : (bif a != b then x else y) = y := by rw [show (a != b) = false by simpa using h]; rfl

abbrev Res := T_Mine × Int
def no (e : Int) : Res := (([], []), e)
def fin0 (x : T_Mine) : Res := if chk x = 0 then (x, 0) else no (chk x)
def rest (r : T_Road) (a b : Int) : T_Road := (r.1, (r.2.1, (r.2.2.1, (r.2.2.2.1, (r.2.2.2.2.1, (r.2.2.2.2.2.1, ((a, b), r.2.2.2.2.2.2.2)))))))
def lift (r : T_Road) (a b : Int) : T_Road := (r.1, (r.2.1, (r.2.2.1, (r.2.2.2.1, (r.2.2.2.2.1, (r.2.2.2.2.2.1, (r.2.2.2.2.2.2.1, (a, b))))))))
def clos (r : T_Road) (c : Bool) : T_Road := (r.1, (r.2.1, (r.2.2.1, (r.2.2.2.1, (r.2.2.2.2.1, (c, r.2.2.2.2.2.2))))))
/-- What an edit does to a road; none: the road is so already. -/
def roadE (e : T_Edit) (r : T_Road) : Option T_Road := if e.1 = 5 then some (rest r e.2.2.2.2.1 e.2.2.2.2.2) else if e.1 = 6 then some (lift r e.2.2.2.2.1 e.2.2.2.2.2) else if r.2.2.2.2.2.1 = (e.1 == 3) then none else some (clos r (e.1 == 3))
def appl (m : T_Mine) (e : T_Edit) : Res :=
  if chk m ≠ 0 then no (chk m)
  else if e.1 = 1 then fin0 (m.1 ++ [e.2.1], m.2)
  else if e.1 = 2 then fin0 (m.1, m.2 ++ [e.2.2.1])
  else if 3 ≤ e.1 ∧ e.1 ≤ 6 then
    if e.2.2.2.1 < 0 ∨ e.2.2.2.1 ≥ m.2.length then no 4
    else match roadE e (m.2.getD e.2.2.2.1.toNat D_Road) with
      | none => no 10
      | some r => fin0 (m.1, m.2.set e.2.2.2.1.toNat r)
  else no 5

theorem fin_eq (x : T_Mine) : (Option.bind (plan_Check 1000 x) fun r => bif (r != 0) then some (([], []), r) else some (x, 0)) = some (fin0 x) := by
  rw [check_eq, bind_some']
  unfold fin0 no
  by_cases h : chk x = 0
  · rw [nf h, if_pos h]
  · rw [nt h, if_neg h]
theorem rfin_eq (x : T_Mine) : ref01_Apply_J3 1000 x.1 x.2 = some (fin0 x) := by
  rw [ref01_Apply_J3_eq, rcheck_eq, bind_some']
  unfold fin0 no
  by_cases h : chk (x.1, x.2) = 0
  · rw [nf h, if_pos h]
  · rw [nt h, if_neg h]

theorem beqB {a b : Bool} {α : Type} {x y : α} (h : a = b) : (bif a == b then x else y) = x := by rw [h]; simp
theorem bneB {a b : Bool} {α : Type} {x y : α} (h : a ≠ b) : (bif a == b then x else y) = y := by rw [show (a == b) = false by simpa using h]; rfl

theorem apply_eq (m : T_Mine) (e : T_Edit) : plan_Apply 1000 m e = some (appl m e) := by
  obtain ⟨k, ⟨p1, p2⟩, ⟨b1, b2, b3, b4, b5, b6, ⟨b7, b8⟩, b9, b10⟩, rd, s1, s2⟩ := e
  unfold plan_Apply appl
  rw [check_eq, bind_some']
  by_cases h0 : chk m = 0
  · have v := (chk_zero m).1 h0
    have h1 := v.n
    have h2 := v.k
    rw [nf h0, if_neg (by simpa using h0), clone_eq (by omega) (by omega), bind_some']
    simp only
    have road : ∀ kk : Int, kk = k → 3 ≤ k → k ≤ 6 → plan_Apply_J1 1000 true k p1 p2 b1 b2 b3 b4 b5 b6 b7 b8 b9 b10 rd s1 s2 m.1 m.2 =
        some (if rd < 0 ∨ rd ≥ (m.2.length : Int) then no 4 else match roadE (k, (p1, p2), (b1, b2, b3, b4, b5, b6, (b7, b8), b9, b10), rd, s1, s2) (m.2.getD rd.toNat D_Road) with
          | none => no 10
          | some r => fin0 (m.1, m.2.set rd.toNat r)) := by
      intro kk _ k3 k6
      rw [plan_Apply_J1_eq, cond_true]
      by_cases g1 : rd < 0
      · rw [dt g1, if_pos (.inl g1)]; rfl
      rw [df g1]
      by_cases g2 : rd ≥ (m.2.length : Int)
      · rw [dt g2, if_pos (.inr g2)]; rfl
      rw [df g2, it (by omega), if_neg (show ¬ (rd < 0 ∨ rd ≥ (m.2.length : Int)) by omega)]
      by_cases g5 : k = 5
      · rw [et g5]
        simp only [roadE, if_pos g5]
        exact fin_eq _
      rw [ef g5]
      by_cases g6 : k = 6
      · rw [et g6]
        simp only [roadE, if_neg g5, if_pos g6]
        exact fin_eq _
      rw [ef g6]
      simp only [roadE, if_neg g5, if_neg g6]
      by_cases gc : (m.2.getD rd.toNat D_Road).2.2.2.2.2.1 = (k == 3)
      · rw [beqB gc, if_pos gc]; rfl
      · rw [bneB gc, if_neg gc]
        exact fin_eq _
    by_cases k1 : k = 1
    · rw [et k1, if_pos k1, fitsB_true (by omega), cond_true]
      exact fin_eq _
    rw [ef k1, if_neg k1]
    by_cases k2 : k = 2
    · rw [et k2, if_pos k2, fitsB_true (by omega), cond_true]
      exact fin_eq _
    rw [ef k2, if_neg k2]
    by_cases k3 : k = 3
    · rw [et k3, road k rfl (by omega) (by omega), if_pos (show 3 ≤ k ∧ k ≤ 6 by omega)]
    rw [ef k3]
    by_cases k4 : k = 4
    · rw [et k4, road k rfl (by omega) (by omega), if_pos (show 3 ≤ k ∧ k ≤ 6 by omega)]
    rw [ef k4]
    by_cases k5 : k = 5
    · rw [et k5, road k rfl (by omega) (by omega), if_pos (show 3 ≤ k ∧ k ≤ 6 by omega)]
    rw [ef k5]
    by_cases k6 : k = 6
    · rw [eq2 k6, road k rfl (by omega) (by omega), if_pos (show 3 ≤ k ∧ k ≤ 6 by omega)]
    · rw [ne2 k6, plan_Apply_J1_eq, cond_false, if_neg (show ¬ (3 ≤ k ∧ k ≤ 6) by omega)]; rfl
  · rw [nt h0, if_pos h0]; rfl

theorem rapply_eq (m : T_Mine) (e : T_Edit) : ref01_Apply 1000 m e = some (appl m e) := by
  obtain ⟨k, ⟨p1, p2⟩, ⟨b1, b2, b3, b4, b5, b6, ⟨b7, b8⟩, b9, b10⟩, rd, s1, s2⟩ := e
  unfold ref01_Apply appl
  rw [rcheck_eq, bind_some']
  by_cases h0 : chk m = 0
  · have v := (chk_zero m).1 h0
    have h1 := v.n
    have h2 := v.k
    rw [nf h0, if_neg (by simpa using h0)]
    simp only
    by_cases k0 : k < 1
    · rw [dt k0, if_neg (show ¬ k = 1 by omega), if_neg (show ¬ k = 2 by omega), if_neg (show ¬ (3 ≤ k ∧ k ≤ 6) by omega)]; rfl
    rw [df k0]
    by_cases k7 : k > 6
    · rw [dt k7, if_neg (show ¬ k = 1 by omega), if_neg (show ¬ k = 2 by omega), if_neg (show ¬ (3 ≤ k ∧ k ≤ 6) by omega)]; rfl
    rw [df k7, ref01_Apply_J1_eq]
    by_cases k3 : k ≥ 3
    · rw [dt k3, if_neg (show ¬ k = 1 by omega), if_neg (show ¬ k = 2 by omega), if_pos (show 3 ≤ k ∧ k ≤ 6 by omega)]
      by_cases g1 : rd < 0
      · rw [dt g1, if_pos (.inl g1)]; rfl
      rw [df g1]
      by_cases g2 : rd ≥ (m.2.length : Int)
      · rw [dt g2, if_pos (.inr g2)]; rfl
      rw [df g2, if_neg (show ¬ (rd < 0 ∨ rd ≥ (m.2.length : Int)) by omega), ref01_Apply_J2_eq, copy_eq' (by show m.1.length ≤ _; omega) (by show m.2.length ≤ _; omega), bind_some', ef (by omega), ef (by omega)]
      simp only
      by_cases c3 : k = 3
      · rw [et c3, it (by omega)]
        simp only [roadE]
        rw [if_neg (show ¬ k = 5 by omega), if_neg (show ¬ k = 6 by omega)]
        by_cases gc : (m.2.getD rd.toNat D_Road).2.2.2.2.2.1 = (k == 3)
        · rw [beqB gc, if_pos gc]; rfl
        · rw [bneB gc, if_neg gc, it (by omega)]
          exact rfin_eq (_, _)
      rw [ef c3]
      by_cases c4 : k = 4
      · rw [et c4, it (by omega)]
        simp only [roadE]
        rw [if_neg (show ¬ k = 5 by omega), if_neg (show ¬ k = 6 by omega)]
        by_cases gc : (m.2.getD rd.toNat D_Road).2.2.2.2.2.1 = (k == 3)
        · rw [beqB gc, if_pos gc]; rfl
        · rw [bneB gc, if_neg gc, it (by omega)]
          exact rfin_eq (_, _)
      rw [ef c4]
      by_cases c5 : k = 5
      · rw [et c5, it (by omega)]
        simp only [roadE, if_pos c5]
        exact rfin_eq (_, _)
      · rw [ef c5, it (by omega)]
        simp only [roadE, if_neg c5]
        rw [if_pos (show k = 6 by omega)]
        exact rfin_eq (_, _)
    · rw [df k3, ref01_Apply_J2_eq, copy_eq' (by show m.1.length ≤ _; omega) (by show m.2.length ≤ _; omega), bind_some']
      simp only
      by_cases c1 : k = 1
      · rw [et c1, if_pos c1, fitsB_true (by omega), cond_true]
        exact rfin_eq (_, _)
      · rw [ef c1, if_neg c1, et (show k = 2 by omega), if_pos (show k = 2 by omega), fitsB_true (by omega), cond_true]
        exact rfin_eq (_, _)
  · rw [nt h0, if_pos h0]; rfl

/-! ### Same -/
theorem same_road (ps qs : List T_Place) {rs : List T_Road} (h2 : rs.length ≤ 900) : ∀ (j f k : Nat), j + k = rs.length → j < f → ref01_Same_L2 1000 f k ps rs qs rs = some true
  | 0, f + 1, k, hk, hf => by rw [ref01_Same_L2_succ, df (by omega)]
  | j + 1, f + 1, k, hk, hf => by
    rw [ref01_Same_L2_succ, dt (by omega), it (by omega)]
    simp only
    rw [it (by omega), W_succ (by omega)]
    simp only [beq_self_eq_true, Bool.and_self, Bool.not_true, cond_false]
    exact same_road ps qs h2 j f (k + 1) (by omega) (by omega)
theorem same_place {ps : List T_Place} {rs : List T_Road} (h1 : ps.length ≤ 900) (h2 : rs.length ≤ 900) : ∀ (j f k : Nat), j + k = ps.length → j < f → ref01_Same_L1 1000 f k ps rs ps rs = some true
  | 0, f + 1, k, hk, hf => by
    rw [ref01_Same_L1_succ, df (by omega)]
    exact same_road ps ps h2 rs.length 1000 0 rfl (by omega)
  | j + 1, f + 1, k, hk, hf => by
    rw [ref01_Same_L1_succ, dt (by omega), it (by omega), it (by omega), W_succ (by omega)]
    simp only [beq_self_eq_true, Bool.and_self, Bool.not_true, cond_false]
    exact same_place h1 h2 j f (k + 1) (by omega) (by omega)
theorem same_refl {m : T_Mine} (h1 : m.1.length ≤ 900) (h2 : m.2.length ≤ 900) : ref01_Same 1000 m m = some true := by
  unfold ref01_Same
  rw [nf rfl, nf rfl]
  exact same_place h1 h2 m.1.length 1000 0 rfl (by omega)
end Go.Proofs.Ytdmggkpefjpknaa
