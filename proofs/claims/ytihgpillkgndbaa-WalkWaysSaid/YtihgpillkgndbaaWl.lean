/- Walk: least times are the greatest times below the start times that no road makes earlier; by the program and by the reference. No condition of its own. -/
import Derived.Test.YtihgpillkgndbaaWg
set_option linter.all false
namespace Go.Proofs.Ytihgpillkgndbaa
open Go.Pv M

def gx (x : List Int) (i : Int) : Int := x.getD i.toNat 0
/-- One arc, for least times. -/
def stL (ps : List T_Place) (x : List Int) (e : T_Road × Bool) : Option (List Int) :=
  if 0 ≤ tw pq ps e.1 e.2 ∧ gx x (enA e.1 e.2) + tw pq ps e.1 e.2 < gx x (enB e.1 e.2) then some (x.set (enB e.1 e.2).toNat (gx x (enA e.1 e.2) + tw pq ps e.1 e.2)) else none
/-- The reference's. -/
def suL (ps : List T_Place) (x : List Int) (e : T_Road × Bool) : Option (List Int) :=
  if 0 ≤ tw pq ps e.1 e.2 ∧ gx x (enA e.1 e.2) < 1099511627776 ∧ gx x (enA e.1 e.2) + tw pq ps e.1 e.2 < gx x (enB e.1 e.2) then some (x.set (enB e.1 e.2).toNat (gx x (enA e.1 e.2) + tw pq ps e.1 e.2)) else none
/-- Lists of times. -/
structure Tl (n : Nat) (x : List Int) : Prop where
  l : x.length = n
  v : ∀ a, a ∈ x → 0 ≤ a ∧ a ≤ 1099511627776
theorem Rv.ea {m : T_Mine} {r : T_Road} (h : Rv m r) (b : Bool) : 0 ≤ enA r b ∧ enA r b < m.1.length := by unfold enA; split; exact h.b; exact h.a
theorem Rv.eb {m : T_Mine} {r : T_Road} (h : Rv m r) (b : Bool) : 0 ≤ enB r b ∧ enB r b < m.1.length := by unfold enB; split; exact h.a; exact h.b
theorem Tl.g {n : Nat} {x : List Int} (h : Tl n x) {i : Int} (hi : 0 ≤ i ∧ i < n) : 0 ≤ gx x i ∧ gx x i ≤ 1099511627776 := h.v _ (getD_mem 0 (by rw [h.l]; omega))
theorem gx_set {n : Nat} {x : List Int} (h : x.length = n) {i j v : Int} (hi : 0 ≤ i ∧ i < n) (hj : 0 ≤ j) : gx (x.set i.toNat v) j = if j = i then v else gx x j := by
  unfold gx
  rw [getD_set 0 v x i.toNat j.toNat (by rw [h]; omega)]
  by_cases e : j = i
  · rw [if_pos e, if_pos (by rw [e])]
  · rw [if_neg e, if_neg (by omega)]
def phL (x : List Int) : Nat := (x.map Int.toNat).sum
theorem stL_ok {m : T_Mine} (hm : Vm m) {x y : List Int} {e : T_Road × Bool} (he : e ∈ acs m.2) (hx : Tl m.1.length x) (h : stL m.1 x e = some y) : Tl m.1.length y ∧ phL y < phL x := by
  have hv := hm.rv (mem_acs.1 he)
  have ha := hv.ea e.2
  have hb := hv.eb e.2
  have ga := hx.g ha
  have gb := hx.g hb
  have hr := tw_rng pq_ok (ps := m.1) hv.g e.2
  unfold stL at h
  split at h
  · rename_i c
    injection h with h; subst h
    have hl := hx.l
    refine ⟨⟨by simp [hl], mem_set hx.v ⟨by omega, by omega⟩⟩, ?_⟩
    exact sum_set Int.toNat 0 _ x _ (by omega) (by unfold gx at *; omega)
  · cases h
theorem stL_su {m : T_Mine} (hm : Vm m) {x : List Int} {e : T_Road × Bool} (he : e ∈ acs m.2) (hx : Tl m.1.length x) : stL m.1 x e = suL m.1 x e := by
  have hv := hm.rv (mem_acs.1 he)
  have ga := hx.g (hv.ea e.2)
  have gb := hx.g (hv.eb e.2)
  unfold stL suL
  by_cases c : 0 ≤ tw pq m.1 e.1 e.2 ∧ gx x (enA e.1 e.2) + tw pq m.1 e.1 e.2 < gx x (enB e.1 e.2)
  · rw [if_pos c, if_pos ⟨c.1, by omega, c.2⟩]
  · rw [if_neg c, if_neg (fun h => c ⟨h.1, h.2.2⟩)]
/-- No road makes a time earlier. -/
def Cls (m : T_Mine) (z : List Int) : Prop := ∀ r, r ∈ m.2 → ∀ b, 0 ≤ tw pq m.1 r b → gx z (enB r b) ≤ gx z (enA r b) + tw pq m.1 r b
def Le (n : Nat) (z x : List Int) : Prop := ∀ i : Int, 0 ≤ i → i < n → gx z i ≤ gx x i
/-- The least times. -/
structure Lst (m : T_Mine) (x y : List Int) : Prop where
  t : Tl m.1.length y
  c : Cls m y
  le : Le m.1.length y x
  g : ∀ z, Cls m z → Le m.1.length z x → Le m.1.length z y
theorem stL_none {m : T_Mine} {y : List Int} : (∀ e, e ∈ acs m.2 → stL m.1 y e = none) ↔ Cls m y := by
  constructor
  · intro h r hr b ht
    have := h (r, b) (mem_acs.2 hr)
    unfold stL at this
    split at this
    · cases this
    · rename_i c; simp only at c; omega
  · intro h e he
    have := h e.1 (mem_acs.1 he) e.2
    unfold stL
    rw [if_neg]
    intro c
    have := this c.1
    omega
theorem least_itr {m : T_Mine} (hm : Vm m) {x : List Int} (hx : Tl m.1.length x) {n : Nat} (hn : 70368744177664 < n) : ∃ y, itr (stL m.1) (acs m.2) n x = some y ∧ Lst m x y := by
  have hph : phL x < n := by
    have := sum_le Int.toNat 1099511627776 x fun a ha => by have := hx.v a ha; omega
    have h2 := hx.l; have h3 := hm.n
    unfold phL
    have : x.length * 1099511627776 ≤ 64 * 1099511627776 := Nat.mul_le_mul_right _ (by omega)
    omega
  obtain ⟨y, hy⟩ := itr_ok phL (fun x e y he h1 h2 => stL_ok hm he h1 h2) n x hx hph
  refine ⟨y, hy, ?_, stL_none.1 (itr_fix n x y hy), ?_, fun z hz hzx => ?_⟩
  · exact itr_inv (fun x e y he h1 h2 => (stL_ok hm he h1 h2).1) n x y hx hy
  · refine (itr_inv (P := fun w => Tl m.1.length w ∧ Le m.1.length w x) (fun w e v he h1 h2 => ⟨(stL_ok hm he h1.1 h2).1, fun i h3 h4 => ?_⟩) n x y ⟨hx, fun i _ _ => Int.le_refl _⟩ hy).2
    have hv := hm.rv (mem_acs.1 he)
    unfold stL at h2
    split at h2
    · rename_i c
      injection h2 with h2; subst h2
      rw [gx_set h1.1.l (hv.eb e.2) h3]
      have := h1.2 i h3 h4
      split
      · rename_i ei; subst ei; omega
      · exact this
    · cases h2
  · refine (itr_inv (P := fun w => Tl m.1.length w ∧ Le m.1.length z w) (fun w e v he h1 h2 => ⟨(stL_ok hm he h1.1 h2).1, fun i h3 h4 => ?_⟩) n x y ⟨hx, hzx⟩ hy).2
    have hv := hm.rv (mem_acs.1 he)
    unfold stL at h2
    split at h2
    · rename_i c
      injection h2 with h2; subst h2
      rw [gx_set h1.1.l (hv.eb e.2) h3]
      have := h1.2 i h3 h4
      split
      · rename_i ei; subst ei
        have h5 := hz e.1 (mem_acs.1 he) e.2 c.1
        have h6 := h1.2 _ (hv.ea e.2).1 (hv.ea e.2).2
        omega
      · exact this
    · cases h2

/-! ### The program's -/
theorem lst_road {m : T_Mine} (hm : Vm m) (n2 : Nat) : ∀ (j f k : Nat) (g : Bool) (x : List Int), j + k = m.2.length → j < f → Tl m.1.length x →
    walk_Least_L3 1267650600228229401496703205376 n2 f m.2 m.2.length k m.1 m.2 g x = walk_Least_L2 1267650600228229401496703205376 n2 m.1 m.2 ((acs (m.2.drop k)).foldl (gst (stL m.1)) (g, x)).1 ((acs (m.2.drop k)).foldl (gst (stL m.1)) (g, x)).2
  | j, 0, k, _, _, _, hf, _ => absurd hf (Nat.not_lt_zero _)
  | j, f + 1, k, g, x, hjk, hf, hx => by
    rw [walk_Least_L3_succ]
    by_cases c : (k : Int) < m.2.length
    · have hk : k < m.2.length := by omega
      have hK := hm.k
      have hN := hm.n
      have hrm := getD_mem D_Road hk
      have hv := hm.rv hrm
      rw [dt c, it (by omega), drop_cons D_Road hk, acs_cons, List.foldl_cons, List.foldl_cons, Int.toNat_natCast]
      have es := fun (N : Nat) (b : Bool) => step_eq (N := N) hm hk b
      have hst := fun (x : List Int) (y : List Int) (b : Bool) (hx : Tl m.1.length x) (h : stL m.1 x (m.2.getD k D_Road, b) = some y) => (stL_ok hm (e := (m.2.getD k D_Road, b)) (mem_acs.2 hrm) hx h).1
      generalize m.2.getD k D_Road = r at *
      have es' : ∀ (N : Nat) (b : Bool), walk_step N (m.1, m.2) k b = some (tw pq m.1 r b) := es
      have ha := hv.a
      have hb := hv.b
      have tq := fun b => tw_rng pq_ok (ps := m.1) hv.g b
      have G2 : ∀ (g : Bool) (x : List Int) (a1 a2 a3 a4 a5 : Int) (b1 b2 : Bool) (c1 c2 c3 c4 : Int), Tl m.1.length x → walk_Least_G1_2 1267650600228229401496703205376 f n2 m.2 m.2.length k m.1 m.2 g a1 a2 a3 a4 a5 b1 b2 c1 c2 c3 c4 x =
          walk_Least_L2 1267650600228229401496703205376 n2 m.1 m.2 ((acs (m.2.drop (k + 1))).foldl (gst (stL m.1)) (g, x)).1 ((acs (m.2.drop (k + 1))).foldl (gst (stL m.1)) (g, x)).2 := by
        intro g x a1 a2 a3 a4 a5 b1 b2 c1 c2 c3 c4 hx
        rw [walk_Least_G1_2_eq 1267650600228229401496703205375, W_succ (by omega)]
        obtain ⟨j', rfl⟩ : ∃ j', j = j' + 1 := ⟨j - 1, by omega⟩
        exact lst_road hm n2 j' f (k + 1) g x (by omega) (by omega) hx
      have G1 : ∀ (g : Bool) (x : List Int) (a4 a5 : Int) (b1 b2 : Bool) (c1 c2 c3 c4 : Int), Tl m.1.length x → walk_Least_G1_1 1267650600228229401496703205376 f n2 m.2 m.2.length k m.1 m.2 g k r.1 r.2.1 a4 a5 b1 b2 c1 c2 c3 c4 x =
          walk_Least_L2 1267650600228229401496703205376 n2 m.1 m.2 ((acs (m.2.drop (k + 1))).foldl (gst (stL m.1)) (gst (stL m.1) (g, x) (r, true))).1 ((acs (m.2.drop (k + 1))).foldl (gst (stL m.1)) (gst (stL m.1) (g, x) (r, true))).2 := by
        intro g x a4 a5 b1 b2 c1 c2 c3 c4 hx
        have hl := hx.l
        have ga : 0 ≤ x.getD r.2.1.toNat 0 ∧ x.getD r.2.1.toNat 0 ≤ 1099511627776 := hx.g hb
        have t2 := tq true
        rw [walk_Least_G1_1_eq 1267650600228229401496703205375, es', bind_some']
        by_cases c : tw pq m.1 r true ≥ 0
        · rw [dt c, it (by omega), it (by omega), W_eq (n := x.getD r.2.1.toNat 0 + tw pq m.1 r true) (by omega) (by omega)]
          by_cases d : x.getD r.2.1.toNat 0 + tw pq m.1 r true < x.getD r.1.toNat 0
          · have hs : stL m.1 x (r, true) = some (x.set r.1.toNat (x.getD r.2.1.toNat 0 + tw pq m.1 r true)) := if_pos ⟨c, d⟩
            rw [dt d, it (by omega), it (by omega), gst_some hs]
            exact G2 _ _ _ _ _ _ _ _ _ _ _ _ _ (hst x _ true hx hs)
          · have hs : stL m.1 x (r, true) = none := if_neg fun h => d h.2
            rw [df d, gst_none hs]
            exact G2 _ _ _ _ _ _ _ _ _ _ _ _ _ hx
        · have hs : stL m.1 x (r, true) = none := if_neg fun h => c h.1
          rw [df c, gst_none hs]
          exact G2 _ _ _ _ _ _ _ _ _ _ _ _ _ hx
      have hl := hx.l
      have ga : 0 ≤ x.getD r.1.toNat 0 ∧ x.getD r.1.toNat 0 ≤ 1099511627776 := hx.g ha
      have t1 := tq false
      simp only []
      rw [es', bind_some']
      by_cases c : tw pq m.1 r false ≥ 0
      · rw [dt c, it (by omega), it (by omega), W_eq (n := x.getD r.1.toNat 0 + tw pq m.1 r false) (by omega) (by omega)]
        by_cases d : x.getD r.1.toNat 0 + tw pq m.1 r false < x.getD r.2.1.toNat 0
        · have hs : stL m.1 x (r, false) = some (x.set r.2.1.toNat (x.getD r.1.toNat 0 + tw pq m.1 r false)) := if_pos ⟨c, d⟩
          rw [dt d, it (by omega), it (by omega), gst_some hs]
          exact G1 _ _ _ _ _ _ _ _ _ _ (hst x _ false hx hs)
        · have hs : stL m.1 x (r, false) = none := if_neg fun h => d h.2
          rw [df d, gst_none hs]
          exact G1 _ _ _ _ _ _ _ _ _ _ hx
      · have hs : stL m.1 x (r, false) = none := if_neg fun h => c h.1
        rw [df c, gst_none hs]
        exact G1 _ _ _ _ _ _ _ _ _ _ hx
    · have hk : m.2.length ≤ k := by omega
      rw [df c, drop_nil hk]; rfl
theorem fold_tl {m : T_Mine} (hm : Vm m) {x : List Int} (hx : Tl m.1.length x) (g : Bool) : Tl m.1.length ((acs m.2).foldl (gst (stL m.1)) (g, x)).2 :=
  fold_inv (P := Tl m.1.length) (ok := fun e => e ∈ acs m.2) (fun x e y he h1 h2 => (stL_ok hm he h1 h2).1) _ (fun _ h => h) g x hx
theorem lst_rounds {m : T_Mine} (hm : Vm m) : ∀ (n f : Nat) (x y : List Int), Tl m.1.length x → itr (stL m.1) (acs m.2) n x = some y → n < f → walk_Least_L2 1267650600228229401496703205376 f m.1 m.2 true x = some y
  | 0, _, _, _, _, h, _ => by cases h
  | n + 1, 0, _, _, _, _, h => absurd h (Nat.not_lt_zero _)
  | n + 1, f + 1, x, y, hx, h, hf => by
    rw [walk_Least_L2_succ, cond_true]
    have := lst_road hm f m.2.length 1267650600228229401496703205376 0 false x rfl (by have := hm.k; omega) hx
    rw [show ((0 : Nat) : Int) = 0 from rfl, List.drop_zero] at this
    rw [this]
    rw [itr] at h
    by_cases c : ((acs m.2).foldl (gst (stL m.1)) (false, x)).1 = true
    · rw [if_pos c] at h
      rw [c]
      exact lst_rounds hm n f _ y (fold_tl hm hx false) h (by omega)
    · rw [if_neg c] at h
      obtain ⟨f', rfl⟩ : ∃ f', f = f' + 1 := ⟨f - 1, by omega⟩
      rw [Bool.eq_false_iff.2 c, walk_Least_L2_succ, cond_false, h]
theorem lst_check {m : T_Mine} (hm : Vm m) {x : List Int} (hl : x.length = m.1.length) : ∀ (j f k : Nat), j + k = x.length → j < f → walk_Least_L1 1267650600228229401496703205376 f x x x.length k m.1 m.2 =
    if ∀ a, a ∈ x.drop k → 0 ≤ a ∧ a ≤ 1099511627776 then walk_Least_L2 1267650600228229401496703205376 1267650600228229401496703205376 m.1 m.2 true x else some []
  | j, 0, k, _, hf => absurd hf (Nat.not_lt_zero _)
  | j, f + 1, k, hjk, hf => by
    have hN := hm.n
    rw [walk_Least_L1_succ]
    by_cases c : (k : Int) < x.length
    · have hk : k < x.length := by omega
      rw [dt c, it (by omega), drop_cons 0 hk, Int.toNat_natCast]
      by_cases c1 : x.getD k 0 < 0
      · rw [dt c1, if_neg]; intro h; have := h _ (List.mem_cons_self ..); omega
      · rw [df c1]
        by_cases c2 : x.getD k 0 > 1099511627776
        · rw [dt c2, if_neg]; intro h; have := h _ (List.mem_cons_self ..); omega
        · obtain ⟨j', rfl⟩ : ∃ j', j = j' + 1 := ⟨j - 1, by omega⟩
          rw [df c2, W_succ (by omega), lst_check hm hl j' f (k + 1) (by omega) (by omega)]
          by_cases h : ∀ a, a ∈ x.drop (k + 1) → 0 ≤ a ∧ a ≤ 1099511627776
          · rw [if_pos h, if_pos]
            intro a ha
            rcases List.mem_cons.1 ha with rfl | ha
            · omega
            · exact h a ha
          · rw [if_neg h, if_neg (fun h' => h fun a ha => h' a (List.mem_cons_of_mem _ ha))]
    · rw [df c, drop_nil (by omega), fitsB_true (by omega), cond_true, if_pos (fun a ha => by cases ha)]
theorem least_bad {m : T_Mine} (hm : Vm m) {x : List Int} (h : ¬ Tl m.1.length x) : walk_Least 1267650600228229401496703205376 m x = some [] := by
  unfold walk_Least
  rw [valid_eq, bind_some', (chk_zero m).2 hm]
  simp only [show ((0 : Int) == 0) = true from rfl, Bool.not_true, cond_false]
  by_cases hl : x.length = m.1.length
  · rw [show ((x.length : Int) != (m.1.length : Int)) = false by simp [hl], cond_false, walk_Least_J1_eq 1267650600228229401496703205375]
    have := lst_check hm hl x.length 1267650600228229401496703205376 0 rfl (by have := hm.n; omega)
    rw [show ((0 : Nat) : Int) = 0 from rfl, List.drop_zero, if_neg (fun hv => h ⟨hl, hv⟩)] at this
    exact this
  · rw [show ((x.length : Int) != (m.1.length : Int)) = true from bne_iff_ne.2 (by omega), cond_true]
theorem least_ok {m : T_Mine} (hm : Vm m) {x : List Int} (hx : Tl m.1.length x) : ∃ y, itr (stL m.1) (acs m.2) 70368744177665 x = some y ∧ walk_Least 1267650600228229401496703205376 m x = some y ∧ Lst m x y := by
  obtain ⟨y, h1, h2⟩ := least_itr hm hx (n := 70368744177665) (by omega)
  refine ⟨y, h1, ?_, h2⟩
  unfold walk_Least
  rw [valid_eq, bind_some', (chk_zero m).2 hm]
  simp only [show ((0 : Int) == 0) = true from rfl, Bool.not_true, cond_false]
  rw [show ((x.length : Int) != (m.1.length : Int)) = false by simp [hx.l], cond_false, walk_Least_J1_eq 1267650600228229401496703205375]
  have := lst_check hm hx.l x.length 1267650600228229401496703205376 0 rfl (by have := hm.n; have := hx.l; omega)
  rw [show ((0 : Nat) : Int) = 0 from rfl, List.drop_zero, if_pos hx.v] at this
  exact this.trans (lst_rounds hm _ 1267650600228229401496703205376 x y hx h1 (by omega))
end Go.Proofs.Ytihgpillkgndbaa
