/- Walk: the program's way. No condition of its own. -/
import Derived.Test.YtihgpillkgndbaaWw
set_option linter.all false
namespace Go.Proofs.Ytihgpillkgndbaa
open Go.Pv M

theorem less_eq (N : Nat) (c d : T_Span) : walk_cost_less N c d = some (decide (lss c d)) := by
  unfold walk_cost_less
  by_cases h1 : c.1 < d.1
  · rw [dt h1, decide_eq_true (show lss c d from .inl h1)]
  · rw [df h1]
    by_cases h2 : c.1 = d.1
    · rw [et h2]
      by_cases h3 : c.2 < d.2
      · rw [decide_eq_true h3, decide_eq_true (show lss c d from .inr ⟨h2, h3⟩)]
      · rw [decide_eq_false h3, decide_eq_false (show ¬ lss c d by unfold lss; omega)]
    · rw [ef h2, decide_eq_false (show ¬ lss c d by unfold lss; omega)]
theorem way_road {m : T_Mine} (hm : Vm m) (to fr : Int) (n2 : Nat) : ∀ (j f k : Nat) (g : Bool) (x : List T_Span), j + k = m.2.length → j < f → Wl m to x →
    walk_Way_L3 1267650600228229401496703205376 n2 f fr to m.2 m.2.length k m.1 m.2 g x = walk_Way_L2 1267650600228229401496703205376 n2 fr to m.1 m.2 ((acs (m.2.drop k)).foldl (gst (stW m.1)) (g, x)).1 ((acs (m.2.drop k)).foldl (gst (stW m.1)) (g, x)).2
  | j, 0, k, _, _, _, hf, _ => absurd hf (Nat.not_lt_zero _)
  | j, f + 1, k, g, x, hjk, hf, hx => by
    rw [walk_Way_L3_succ]
    by_cases c : (k : Int) < m.2.length
    · have hk : k < m.2.length := by omega
      have hK := hm.k
      have hN := hm.n
      have hrm := getD_mem D_Road hk
      have hv := hm.rv hrm
      rw [dt c, it (by omega), drop_cons D_Road hk, acs_cons, List.foldl_cons, List.foldl_cons, Int.toNat_natCast]
      have es := fun (N : Nat) (b : Bool) => step_eq (N := N) hm hk b
      have hst := fun (x : List T_Span) (y : List T_Span) (b : Bool) (hx : Wl m to x) (h : stW m.1 x (m.2.getD k D_Road, b) = some y) => (stW_ok hm (e := (m.2.getD k D_Road, b)) (mem_acs.2 hrm) hx h).1
      generalize m.2.getD k D_Road = r at *
      have es' : ∀ (N : Nat) (b : Bool), walk_step N (m.1, m.2) k b = some (tw pq m.1 r b) := es
      have ha := hv.a
      have hb := hv.b
      have tq := fun b => tw_rng pq_ok (ps := m.1) hv.g b
      have G2 : ∀ (g : Bool) (x : List T_Span) (a1 a2 a3 a4 a5 : Int) (b1 b2 : Bool) (c1 c2 c3 c4 : Int), Wl m to x → walk_Way_G1_2 1267650600228229401496703205376 f n2 fr to m.2 m.2.length k m.1 m.2 g a1 a2 a3 a4 a5 b1 b2 c1 c2 c3 c4 x =
          walk_Way_L2 1267650600228229401496703205376 n2 fr to m.1 m.2 ((acs (m.2.drop (k + 1))).foldl (gst (stW m.1)) (g, x)).1 ((acs (m.2.drop (k + 1))).foldl (gst (stW m.1)) (g, x)).2 := by
        intro g x a1 a2 a3 a4 a5 b1 b2 c1 c2 c3 c4 hx
        rw [walk_Way_G1_2_eq 1267650600228229401496703205375, W_succ (by omega)]
        obtain ⟨j', rfl⟩ : ∃ j', j = j' + 1 := ⟨j - 1, by omega⟩
        exact way_road hm to fr n2 j' f (k + 1) g x (by omega) (by omega) hx
      have G1 : ∀ (g : Bool) (x : List T_Span) (a4 a5 : Int) (b1 b2 : Bool) (c1 c2 c3 c4 : Int), Wl m to x → walk_Way_G1_1 1267650600228229401496703205376 f n2 fr to m.2 m.2.length k m.1 m.2 g k r.1 r.2.1 a4 a5 b1 b2 c1 c2 c3 c4 x =
          walk_Way_L2 1267650600228229401496703205376 n2 fr to m.1 m.2 ((acs (m.2.drop (k + 1))).foldl (gst (stW m.1)) (gst (stW m.1) (g, x) (r, true))).1 ((acs (m.2.drop (k + 1))).foldl (gst (stW m.1)) (gst (stW m.1) (g, x) (r, true))).2 := by
        intro g x a4 a5 b1 b2 c1 c2 c3 c4 hx
        have hl := hx.l
        have ga := hx.rc hm ha.1 ha.2
        have t2 := tq true
        rw [walk_Way_G1_1_eq 1267650600228229401496703205375, es', bind_some']
        by_cases c : tw pq m.1 r true < 0
        · have hs : stW m.1 x (r, true) = none := if_neg fun h => by have := h.1; simp only at this; omega
          rw [dt c, gst_none hs]
          exact G2 _ _ _ _ _ _ _ _ _ _ _ _ _ hx
        · rw [df c, it (by omega)]
          by_cases c2 : (gp x r.1).1 ≥ 1099511627776
          · have hs : stW m.1 x (r, true) = none := if_neg fun h => by have : (gp x r.1).1 < 1099511627776 := h.2.1; omega
            rw [dt (show (x.getD r.1.toNat D_Span).1 ≥ 1099511627776 from c2), gst_none hs]
            exact G2 _ _ _ _ _ _ _ _ _ _ _ _ _ hx
          · rcases ga with g1 | g1
            · rw [g1] at c2; simp at c2
            rw [df (show ¬ (x.getD r.1.toNat D_Span).1 ≥ 1099511627776 from c2), it (by omega)]
            simp only []
            rw [it (by omega), it (by omega), less_eq, bind_some', show x.getD r.1.toNat D_Span = gp x r.1 from rfl, W_eq (n := (gp x r.1).1 + tw pq m.1 r true) (by omega) (by omega), W_eq (n := (gp x r.1).2 + 1) (by omega) (by omega)]
            by_cases d : lss ((gp x r.1).1 + tw pq m.1 r true, (gp x r.1).2 + 1) (gp x r.2.1)
            · have hs : stW m.1 x (r, true) = some (x.set r.2.1.toNat ((gp x r.1).1 + tw pq m.1 r true, (gp x r.1).2 + 1)) := if_pos ⟨by simp only; omega, by show (gp x r.1).1 < _; omega, d⟩
              rw [show x.getD r.2.1.toNat D_Span = gp x r.2.1 from rfl, dt d, it (by omega), gst_some hs]
              exact G2 _ _ _ _ _ _ _ _ _ _ _ _ _ (hst x _ true hx hs)
            · have hs : stW m.1 x (r, true) = none := if_neg fun h => d h.2.2
              rw [show x.getD r.2.1.toNat D_Span = gp x r.2.1 from rfl, df d, gst_none hs]
              exact G2 _ _ _ _ _ _ _ _ _ _ _ _ _ hx
      have hl := hx.l
      have ga := hx.rc hm hb.1 hb.2
      have t1 := tq false
      simp only []
      rw [es', bind_some']
      by_cases c : tw pq m.1 r false < 0
      · have hs : stW m.1 x (r, false) = none := if_neg fun h => by have := h.1; simp only at this; omega
        rw [dt c, gst_none hs]
        exact G1 _ _ _ _ _ _ _ _ _ _ hx
      · rw [df c, it (by omega)]
        by_cases c2 : (gp x r.2.1).1 ≥ 1099511627776
        · have hs : stW m.1 x (r, false) = none := if_neg fun h => by have : (gp x r.2.1).1 < 1099511627776 := h.2.1; omega
          rw [dt (show (x.getD r.2.1.toNat D_Span).1 ≥ 1099511627776 from c2), gst_none hs]
          exact G1 _ _ _ _ _ _ _ _ _ _ hx
        · rcases ga with g1 | g1
          · rw [g1] at c2; simp at c2
          rw [df (show ¬ (x.getD r.2.1.toNat D_Span).1 ≥ 1099511627776 from c2), it (by omega)]
          rw [it (by omega), it (by omega), less_eq, bind_some', show x.getD r.2.1.toNat D_Span = gp x r.2.1 from rfl, W_eq (n := (gp x r.2.1).1 + tw pq m.1 r false) (by omega) (by omega), W_eq (n := (gp x r.2.1).2 + 1) (by omega) (by omega)]
          by_cases d : lss ((gp x r.2.1).1 + tw pq m.1 r false, (gp x r.2.1).2 + 1) (gp x r.1)
          · have hs : stW m.1 x (r, false) = some (x.set r.1.toNat ((gp x r.2.1).1 + tw pq m.1 r false, (gp x r.2.1).2 + 1)) := if_pos ⟨by simp only; omega, by show (gp x r.2.1).1 < _; omega, d⟩
            rw [show x.getD r.1.toNat D_Span = gp x r.1 from rfl, dt d, it (by omega), gst_some hs]
            exact G1 _ _ _ _ _ _ _ _ _ _ (hst x _ false hx hs)
          · have hs : stW m.1 x (r, false) = none := if_neg fun h => d h.2.2
            rw [show x.getD r.1.toNat D_Span = gp x r.1 from rfl, df d, gst_none hs]
            exact G1 _ _ _ _ _ _ _ _ _ _ hx
    · rw [df c, drop_nil (by omega)]; rfl
theorem way_rounds {m : T_Mine} (hm : Vm m) (to fr : Int) : ∀ (n f : Nat) (x y : List T_Span), Wl m to x → itr (stW m.1) (acs m.2) n x = some y → n < f → ∃ f', walk_Way_L2 1267650600228229401496703205376 f fr to m.1 m.2 true x = walk_Way_L2 1267650600228229401496703205376 (f' + 1) fr to m.1 m.2 false y
  | 0, _, _, _, _, h, _ => by cases h
  | n + 1, 0, _, _, _, _, h => absurd h (Nat.not_lt_zero _)
  | n + 1, f + 1, x, y, hx, h, hf => by
    rw [walk_Way_L2_succ, cond_true]
    have := way_road hm to fr f m.2.length 1267650600228229401496703205376 0 false x rfl (by have := hm.k; omega) hx
    rw [show ((0 : Nat) : Int) = 0 from rfl, List.drop_zero] at this
    rw [this]
    rw [itr] at h
    have ht : Wl m to ((acs m.2).foldl (gst (stW m.1)) (false, x)).2 := fold_inv (P := Wl m to) (ok := fun e => e ∈ acs m.2) (fun x e y he h1 h2 => (stW_ok hm he h1 h2).1) _ (fun _ h => h) false x hx
    by_cases c : ((acs m.2).foldl (gst (stW m.1)) (false, x)).1 = true
    · rw [if_pos c] at h
      rw [c]
      exact way_rounds hm to fr n f _ y ht h (by omega)
    · rw [if_neg c] at h
      obtain ⟨f', rfl⟩ : ∃ f', f = f' + 1 := ⟨f - 1, by omega⟩
      injection h with h
      rw [Bool.eq_false_iff.2 c, h]
      exact ⟨f', rfl⟩
/-- The costs at the beginning. -/
def st0 (n : Nat) (to : Int) : List T_Span := (List.replicate n (1099511627776, 0)).set to.toNat (0, 0)
theorem st0_wl {m : T_Mine} {to : Int} (h : 0 ≤ to ∧ to < m.1.length) : Wl m to (st0 m.1.length to) := by
  have hg : ∀ j : Int, 0 ≤ j → j < m.1.length → gp (st0 m.1.length to) j = if j = to then (0, 0) else (1099511627776, 0) := fun j h1 h2 => by
    unfold st0
    rw [gp_set (n := m.1.length) (by simp) h h1]
    split
    · rfl
    · unfold gp
      rw [List.getD_eq_getElem?_getD, List.getElem?_replicate, if_pos (by omega)]; rfl
  refine ⟨by simp [st0], h, fun i h1 h2 => ?_, ?_, fun i h1 h2 h3 h4 => ?_⟩
  · rw [hg i h1 h2]
    split
    · right
      have := sum_set_eq (fun p : T_Span => if p.1 < 1099511627776 then 1 else 0) D_Span (0, 0) (List.replicate m.1.length (1099511627776, 0)) to.toNat (by simp; omega)
      have hc : cnt (st0 m.1.length to) + (if ((List.replicate m.1.length ((1099511627776, 0) : T_Span)).getD to.toNat D_Span).1 < 1099511627776 then 1 else 0) = ((List.replicate m.1.length ((1099511627776, 0) : T_Span)).map fun p => if p.1 < 1099511627776 then 1 else 0).sum + 1 := this
      have : ((List.replicate m.1.length ((1099511627776, 0) : T_Span)).getD to.toNat D_Span) = (1099511627776, 0) := by
        rw [List.getD_eq_getElem?_getD, List.getElem?_replicate, if_pos (by omega)]; rfl
      rw [this, if_neg (by simp)] at hc
      simp only
      omega
    · exact .inl rfl
  · rw [hg to h.1 h.2, if_pos rfl]
  · rw [hg i h1 h2, if_neg h3] at h4; simp at h4
theorem rep_set {γ : Type} (a b : γ) (k n : Nat) (h : k < n) : (List.replicate k a ++ List.replicate (n - k) b).set k a = List.replicate (k + 1) a ++ List.replicate (n - (k + 1)) b := by
  rw [List.set_append_right _ _ (by simp), List.length_replicate, Nat.sub_self, show n - k = (n - (k + 1)) + 1 by omega, List.replicate_succ, List.set_cons_zero, List.replicate_succ' (n := k), List.append_assoc]; rfl
theorem way_init (ps : List T_Place) (rs : List T_Road) (fr to : Int) (n : Nat) (hn : n ≤ 64) (ht : 0 ≤ to ∧ to < n) : ∀ (j f k : Nat), j + k = n → j < f → walk_Way_L1 1267650600228229401496703205376 f fr to n k ps rs (List.replicate k (1099511627776, 0) ++ List.replicate (n - k) (0, 0)) = walk_Way_L2 1267650600228229401496703205376 1267650600228229401496703205376 fr to ps rs true (st0 n to)
  | j, 0, k, _, hf => absurd hf (Nat.not_lt_zero _)
  | j, f + 1, k, hjk, hf => by
    rw [walk_Way_L1_succ]
    by_cases c : (k : Int) < n
    · obtain ⟨j', rfl⟩ : ∃ j', j = j' + 1 := ⟨j - 1, by omega⟩
      rw [dt c, it (by simp; omega), Int.toNat_natCast, rep_set _ _ k n (by omega), W_succ (by omega)]
      exact way_init ps rs fr to n hn ht j' f (k + 1) (by omega) (by omega)
    · obtain rfl : k = n := by omega
      rw [df c, it (by simp; omega), Nat.sub_self, List.replicate_zero, List.append_nil]; rfl
end Go.Proofs.Ytihgpillkgndbaa
