/- Walk: what is left from each place to the end: least costs; by the program. No condition of its own. -/
import Derived.Test.YtihgpillkgndbaaWm
set_option linter.all false
namespace Go.Proofs.Ytihgpillkgndbaa
open Go.Pv M

def gp (x : List T_Span) (i : Int) : T_Span := x.getD i.toNat D_Span
def lss (c d : T_Span) : Prop := c.1 < d.1 ∨ (c.1 = d.1 ∧ c.2 < d.2)
instance (c d : T_Span) : Decidable (lss c d) := by unfold lss; infer_instance
/-- The cost over an arc. -/
def cst (ps : List T_Place) (x : List T_Span) (e : T_Road × Bool) : T_Span := ((gp x (enB e.1 e.2)).1 + tw pq ps e.1 e.2, (gp x (enB e.1 e.2)).2 + 1)
def stW (ps : List T_Place) (x : List T_Span) (e : T_Road × Bool) : Option (List T_Span) :=
  if 0 ≤ tw pq ps e.1 e.2 ∧ (gp x (enB e.1 e.2)).1 < 1099511627776 ∧ lss (cst ps x e) (gp x (enA e.1 e.2)) then some (x.set (enA e.1 e.2).toNat (cst ps x e)) else none
def cnt (x : List T_Span) : Nat := (x.map fun p => if p.1 < 1099511627776 then 1 else 0).sum
def phW (x : List T_Span) : Nat := (x.map fun p => p.1.toNat * 4398046511104 + p.2.toNat).sum
theorem sum_set_eq {γ : Type} (f : γ → Nat) (d v : γ) : ∀ (l : List γ) (i : Nat), i < l.length → ((l.set i v).map f).sum + f (l.getD i d) = (l.map f).sum + f v
  | [], i, h => by simp at h
  | x :: l, 0, _ => by simp; omega
  | x :: l, i + 1, hi => by
    have := sum_set_eq f d v l i (by simpa using hi)
    simp only [List.set_cons_succ, List.map_cons, List.sum_cons, List.getD_cons_succ]
    omega
theorem gp_set {n : Nat} {x : List T_Span} (h : x.length = n) {i j : Int} {v : T_Span} (hi : 0 ≤ i ∧ i < n) (hj : 0 ≤ j) : gp (x.set i.toNat v) j = if j = i then v else gp x j := by
  unfold gp
  rw [getD_set D_Span v x i.toNat j.toNat (by rw [h]; omega)]
  by_cases e : j = i
  · rw [if_pos e, if_pos (by rw [e])]
  · rw [if_neg e, if_neg (by omega)]
/-- What holds of the costs at all times. -/
structure Wl (m : T_Mine) (to : Int) (x : List T_Span) : Prop where
  l : x.length = m.1.length
  t : 0 ≤ to ∧ to < m.1.length
  v : ∀ i : Int, 0 ≤ i → i < m.1.length → gp x i = (1099511627776, 0) ∨ (0 ≤ (gp x i).1 ∧ (gp x i).1 + 1000011 ≤ 1000011 * cnt x ∧ 0 ≤ (gp x i).2 ∧ (gp x i).2 ≤ (gp x i).1)
  z : gp x to = (0, 0)
  w : ∀ i : Int, 0 ≤ i → i < m.1.length → i ≠ to → (gp x i).1 < 1099511627776 → ∃ e, e ∈ acs m.2 ∧ enA e.1 e.2 = i ∧ 0 ≤ tw pq m.1 e.1 e.2 ∧ (gp x (enB e.1 e.2)).1 < 1099511627776 ∧ ¬ lss (gp x i) (cst m.1 x e)
theorem cnt_le (x : List T_Span) : cnt x ≤ x.length := by
  have := sum_le (fun p : T_Span => if p.1 < 1099511627776 then 1 else 0) 1 x fun p _ => by split <;> omega
  unfold cnt; omega
theorem Wl.rc {m : T_Mine} (hm : Vm m) {to : Int} {x : List T_Span} (h : Wl m to x) {i : Int} (h1 : 0 ≤ i) (h2 : i < m.1.length) : gp x i = (1099511627776, 0) ∨ (0 ≤ (gp x i).1 ∧ (gp x i).1 ≤ 64000704 ∧ 0 ≤ (gp x i).2 ∧ (gp x i).2 ≤ (gp x i).1) := by
  have := cnt_le x
  have h3 := h.l
  have h4 := hm.n
  rcases h.v i h1 h2 with h5 | h5
  · exact .inl h5
  · exact .inr (by omega)
theorem stW_ok {m : T_Mine} (hm : Vm m) {to : Int} {x y : List T_Span} {e : T_Road × Bool} (he : e ∈ acs m.2) (hx : Wl m to x) (h : stW m.1 x e = some y) : Wl m to y ∧ phW y < phW x := by
  have hv := hm.rv (mem_acs.1 he)
  have ha := hv.ea e.2
  have hb := hv.eb e.2
  have tq := tw_rng pq_ok (ps := m.1) hv.g e.2
  have hne : enA e.1 e.2 ≠ enB e.1 e.2 := by unfold enA enB; have := hv.ne; split <;> omega
  unfold stW at h
  split at h
  · rename_i c
    injection h with h
    obtain ⟨c1, c2, c3⟩ := c
    have hl := hx.l
    have rb := hx.rc hm hb.1 hb.2
    have ra := hx.rc hm ha.1 ha.2
    have vb := hx.v _ hb.1 hb.2
    have va := hx.v _ ha.1 ha.2
    have hc : cst m.1 x e = ((gp x (enB e.1 e.2)).1 + tw pq m.1 e.1 e.2, (gp x (enB e.1 e.2)).2 + 1) := rfl
    have hgs : ∀ j : Int, 0 ≤ j → gp y j = if j = enA e.1 e.2 then cst m.1 x e else gp x j := fun j hj => by rw [← h]; exact gp_set hl ha hj
    have hcnt : cnt y + (if (gp x (enA e.1 e.2)).1 < 1099511627776 then 1 else 0) = cnt x + (if (cst m.1 x e).1 < 1099511627776 then 1 else 0) := by
      rw [← h]; exact sum_set_eq _ D_Span _ x _ (by omega)
    have hph : phW y + ((gp x (enA e.1 e.2)).1.toNat * 4398046511104 + (gp x (enA e.1 e.2)).2.toNat) = phW x + ((cst m.1 x e).1.toNat * 4398046511104 + (cst m.1 x e).2.toNat) := by
      rw [← h]; exact sum_set_eq (fun p : T_Span => p.1.toNat * 4398046511104 + p.2.toNat) D_Span _ x _ (by omega)
    have hyl : y.length = m.1.length := by rw [← h]; simpa using hl
    generalize hgb : gp x (enB e.1 e.2) = gb at *
    generalize hga : gp x (enA e.1 e.2) = ga at *
    generalize htt : tw pq m.1 e.1 e.2 = t at *
    have gb1 : 0 ≤ gb.1 ∧ gb.1 + 1000011 ≤ 1000011 * cnt x ∧ 0 ≤ gb.2 ∧ gb.2 ≤ gb.1 := by
      rcases vb with v1 | v1
      · rw [v1] at c2; simp only at c2; omega
      · exact v1
    have gb2 : gb.1 ≤ 64000704 := by
      rcases rb with v1 | v1
      · rw [v1] at c2; simp only at c2; omega
      · exact v1.2.1
    have hcc : (cst m.1 x e).1 = gb.1 + t ∧ (cst m.1 x e).2 = gb.2 + 1 := by rw [hc]; exact ⟨rfl, rfl⟩
    have hls : lss (cst m.1 x e) ga := c3
    have hat : enA e.1 e.2 ≠ to := by
      intro e1
      have e2 : ga = (0, 0) := by rw [← hga, e1]; exact hx.z
      rw [e2] at hls
      unfold lss at hls
      simp only at hls
      omega
    rw [if_pos (show (cst m.1 x e).1 < 1099511627776 by omega)] at hcnt
    have hga0 : 0 ≤ ga.1 ∧ ga.1 ≤ 1099511627776 ∧ 0 ≤ ga.2 := by
      rcases ra with v1 | v1
      · rw [v1]; simp
      · omega
    have hcm : cnt x ≤ cnt y := by split at hcnt <;> omega
    have hca : (cst m.1 x e).1 + 1000011 ≤ 1000011 * cnt y := by
      rcases va with v1 | v1
      · rw [if_neg (by rw [v1]; simp)] at hcnt; omega
      · have hlt : ga.1 < 1099511627776 := by
          rcases ra with v2 | v2
          · rw [v2] at v1; simp only at v1; have := cnt_le x; have := hm.n; omega
          · omega
        rw [if_pos hlt] at hcnt
        unfold lss at hls; omega
    refine ⟨⟨hyl, hx.t, fun i h1 h2 => ?_, ?_, fun i h1 h2 h3 h4 => ?_⟩, ?_⟩
    · rw [hgs i h1]
      split
      · right; omega
      · rcases hx.v i h1 h2 with v1 | v1
        · exact .inl v1
        · right; omega
    · rw [hgs to hx.t.1, if_neg (Ne.symm hat)]; exact hx.z
    · rw [hgs i h1] at h4 ⊢
      by_cases ei : i = enA e.1 e.2
      · refine ⟨e, he, ei.symm, by omega, ?_, ?_⟩
        · rw [hgs _ hb.1, if_neg (Ne.symm hne), hgb]; omega
        · rw [if_pos ei]
          unfold lss
          have : cst m.1 y e = cst m.1 x e := by
            have : gp y (enB e.1 e.2) = gb := by rw [hgs _ hb.1, if_neg (Ne.symm hne), hgb]
            rw [hc]; unfold cst; rw [this, htt]
          rw [this]; omega
      · rw [if_neg ei] at h4 ⊢
        obtain ⟨e', p1, p2, p3, p4, p5⟩ := hx.w i h1 h2 h3 h4
        have hv' := hm.rv (mem_acs.1 p1)
        have hb' := hv'.eb e'.2
        refine ⟨e', p1, p2, p3, ?_, ?_⟩
        · rw [hgs _ hb'.1]; split
          · omega
          · exact p4
        · have hc' : cst m.1 y e' = ((gp y (enB e'.1 e'.2)).1 + tw pq m.1 e'.1 e'.2, (gp y (enB e'.1 e'.2)).2 + 1) := rfl
          have hc2 : cst m.1 x e' = ((gp x (enB e'.1 e'.2)).1 + tw pq m.1 e'.1 e'.2, (gp x (enB e'.1 e'.2)).2 + 1) := rfl
          rw [hc', hgs _ hb'.1]
          rw [hc2] at p5
          unfold lss at p5 hls ⊢
          split
          · rename_i ee
            rw [ee, hga] at p5
            simp only at p5 ⊢
            omega
          · exact p5
    · unfold lss at hls
      omega
  · cases h
/-- No arc lessens a cost. -/
def ClW (m : T_Mine) (x : List T_Span) : Prop := ∀ e, e ∈ acs m.2 → 0 ≤ tw pq m.1 e.1 e.2 → (gp x (enB e.1 e.2)).1 < 1099511627776 → ¬ lss (cst m.1 x e) (gp x (enA e.1 e.2))
theorem stW_none {m : T_Mine} {y : List T_Span} (h : ∀ e, e ∈ acs m.2 → stW m.1 y e = none) : ClW m y := by
  intro e he h1 h2 h3
  have := h e he
  unfold stW at this
  rw [if_pos ⟨h1, h2, h3⟩] at this
  cases this
theorem way_itr {m : T_Mine} (hm : Vm m) {to : Int} {x : List T_Span} (hx : Wl m to x) {n : Nat} (hn : 618970019642690137449562112 < n) : ∃ y, itr (stW m.1) (acs m.2) n x = some y ∧ Wl m to y ∧ ClW m y := by
  have hph : phW x < n := by
    have := sum_le (fun p : T_Span => p.1.toNat * 4398046511104 + p.2.toNat) 4835703278458516698824704 x fun p hp => by
      obtain ⟨i, hi, rfl⟩ := List.getElem_of_mem hp
      have := hx.rc hm (i := i) (by omega) (by have := hx.l; omega)
      have e : gp x (i : Int) = x[i] := by unfold gp; rw [Int.toNat_natCast, List.getD_eq_getElem?_getD, List.getElem?_eq_getElem hi]; rfl
      rw [e] at this
      rcases this with h | h
      · rw [h]; decide
      · omega
    have h2 := hx.l; have h3 := hm.n
    unfold phW
    have : x.length * 4835703278458516698824704 ≤ 64 * 4835703278458516698824704 := Nat.mul_le_mul_right _ (by omega)
    omega
  obtain ⟨y, hy⟩ := itr_ok phW (fun x e y he h1 h2 => stW_ok hm he h1 h2) n x hx hph
  exact ⟨y, hy, itr_inv (fun x e y he h1 h2 => (stW_ok hm he h1 h2).1) n x y hx hy, stW_none (itr_fix n x y hy)⟩
end Go.Proofs.Ytihgpillkgndbaa
