/- Walk: the reference's least times; WalkLeast. No condition of its own. -/
import Derived.Test.YtihgpillkgndbaaWl
import Derived.Test.YtihgpillkgndbaaWb
set_option linter.all false
namespace Go.Proofs.Ytihgpillkgndbaa
open Go.Pv M

theorem tk_in {p : T_pace} {m : T_Mine} {k : Nat} (hk : k < m.2.length) (b : Bool) : tk p m k b = tw p m.1 (m.2.getD k D_Road) b := by
  unfold tk; rw [if_pos (by omega), Int.toNat_natCast]
theorem rlst_arc {m : T_Mine} (hm : Vm m) {k : Nat} (hk : k < m.2.length) (n3 n2 n4 : Nat) (g : Bool) {x : List Int} (hx : Tl m.1.length x) {d : Int} (hd : d < 2) (b : Bool) (hb : (d == 1) = b) :
    ref03_Least_L4 1267650600228229401496703205376 n3 n2 (n4 + 1) g k d m.1 m.2 x = ref03_Least_L4 1267650600228229401496703205376 n3 n2 n4 (gst (suL m.1) (g, x) (m.2.getD k D_Road, b)).1 k (W (d + 1)) m.1 m.2 (gst (suL m.1) (g, x) (m.2.getD k D_Road, b)).2 := by
  have hv := hm.rv (getD_mem D_Road hk)
  rw [ref03_Least_L4_succ, dt hd, it (by omega), hb, ends_eq, bind_some', show ref03_Time 1267650600228229401496703205376 (m.1, m.2) k b = _ from rtime_eq hm k b, bind_some', tk_in hk, Int.toNat_natCast]
  generalize m.2.getD k D_Road = r at *
  have ha := hv.ea b
  have hb := hv.eb b
  have hl := hx.l
  have ga : 0 ≤ x.getD (enA r b).toNat 0 ∧ x.getD (enA r b).toNat 0 ≤ 1099511627776 := hx.g ha
  have tq := tw_rng pq_ok (ps := m.1) hv.g b
  simp only []
  by_cases c : tw pq m.1 r b ≥ 0
  · rw [dt c, it (by omega)]
    by_cases c2 : x.getD (enA r b).toNat 0 < 1099511627776
    · rw [dt c2, it (by omega), it (by omega), W_eq (n := x.getD (enA r b).toNat 0 + tw pq m.1 r b) (by omega) (by omega)]
      by_cases d : x.getD (enA r b).toNat 0 + tw pq m.1 r b < x.getD (enB r b).toNat 0
      · have hs : suL m.1 x (r, b) = some (x.set (enB r b).toNat (x.getD (enA r b).toNat 0 + tw pq m.1 r b)) := if_pos ⟨c, c2, d⟩
        rw [dt d, it (by omega), it (by omega), gst_some hs]
      · have hs : suL m.1 x (r, b) = none := if_neg fun h => d h.2.2
        rw [df d, gst_none hs]
    · have hs : suL m.1 x (r, b) = none := if_neg fun h => c2 h.2.1
      rw [df c2, gst_none hs]
  · have hs : suL m.1 x (r, b) = none := if_neg fun h => c h.1
    rw [df c, gst_none hs]
theorem suL_ok {m : T_Mine} (hm : Vm m) {x y : List Int} {e : T_Road × Bool} (he : e ∈ acs m.2) (hx : Tl m.1.length x) (h : suL m.1 x e = some y) : Tl m.1.length y := by
  rw [← stL_su hm he hx] at h; exact (stL_ok hm he hx h).1
theorem gst_tl {m : T_Mine} (hm : Vm m) {x : List Int} {e : T_Road × Bool} (he : e ∈ acs m.2) (hx : Tl m.1.length x) (g : Bool) : Tl m.1.length (gst (suL m.1) (g, x) e).2 := by
  cases h : suL m.1 x e with
  | none => rw [gst_none h]; exact hx
  | some y => rw [gst_some h]; exact suL_ok hm he hx h
theorem rlst_road {m : T_Mine} (hm : Vm m) (n2 : Nat) : ∀ (j f k : Nat) (g : Bool) (x : List Int), j + k = m.2.length → j < f → Tl m.1.length x →
    ref03_Least_L3 1267650600228229401496703205376 n2 f g k m.1 m.2 x = ref03_Least_L2 1267650600228229401496703205376 n2 ((acs (m.2.drop k)).foldl (gst (suL m.1)) (g, x)).1 m.1 m.2 ((acs (m.2.drop k)).foldl (gst (suL m.1)) (g, x)).2
  | j, 0, k, _, _, _, hf, _ => absurd hf (Nat.not_lt_zero _)
  | j, f + 1, k, g, x, hjk, hf, hx => by
    have hK := hm.k
    rw [ref03_Least_L3_succ]
    by_cases c : (k : Int) < m.2.length
    · have hk : k < m.2.length := by omega
      have hrm := getD_mem D_Road hk
      have t1 := gst_tl hm (e := (m.2.getD k D_Road, false)) (mem_acs.2 hrm) hx g
      rw [dt c, drop_cons D_Road hk, acs_cons, List.foldl_cons, List.foldl_cons, rlst_arc hm hk f n2 1267650600228229401496703205375 g hx (by omega) false rfl]
      generalize gst (suL m.1) (g, x) (m.2.getD k D_Road, false) = s1 at *
      obtain ⟨g1, x1⟩ := s1
      have t2 := gst_tl hm (e := (m.2.getD k D_Road, true)) (mem_acs.2 hrm) t1 g1
      rw [show W (0 + 1) = 1 from rfl, rlst_arc hm hk f n2 1267650600228229401496703205374 g1 t1 (by omega) true rfl]
      simp only [] at t2 ⊢
      generalize gst (suL m.1) (g1, x1) (m.2.getD k D_Road, true) = s2 at *
      obtain ⟨g2, x2⟩ := s2
      rw [show W (1 + 1) = 2 from rfl, ref03_Least_L4_succ _ _ _ 1267650600228229401496703205373, df (by omega), W_succ (by omega)]
      obtain ⟨j', rfl⟩ : ∃ j', j = j' + 1 := ⟨j - 1, by omega⟩
      exact rlst_road hm n2 j' f (k + 1) g2 x2 (by omega) (by omega) t2
    · rw [df c, drop_nil (by omega)]; rfl
theorem rlst_rounds {m : T_Mine} (hm : Vm m) : ∀ (n f : Nat) (x y : List Int), Tl m.1.length x → itr (suL m.1) (acs m.2) n x = some y → n < f → ref03_Least_L2 1267650600228229401496703205376 f true m.1 m.2 x = some y
  | 0, _, _, _, _, h, _ => by cases h
  | n + 1, 0, _, _, _, _, h => absurd h (Nat.not_lt_zero _)
  | n + 1, f + 1, x, y, hx, h, hf => by
    rw [ref03_Least_L2_succ, cond_true]
    have := rlst_road hm f m.2.length 1267650600228229401496703205376 0 false x rfl (by have := hm.k; omega) hx
    rw [show ((0 : Nat) : Int) = 0 from rfl, List.drop_zero] at this
    rw [this]
    rw [itr] at h
    have ht : Tl m.1.length ((acs m.2).foldl (gst (suL m.1)) (false, x)).2 := fold_inv (P := Tl m.1.length) (ok := fun e => e ∈ acs m.2) (fun x e y he h1 h2 => suL_ok hm he h1 h2) _ (fun _ h => h) false x hx
    by_cases c : ((acs m.2).foldl (gst (suL m.1)) (false, x)).1 = true
    · rw [if_pos c] at h
      rw [c]
      exact rlst_rounds hm n f _ y ht h (by omega)
    · rw [if_neg c] at h
      obtain ⟨f', rfl⟩ : ∃ f', f = f' + 1 := ⟨f - 1, by omega⟩
      rw [Bool.eq_false_iff.2 c, ref03_Least_L2_succ, cond_false, h]
theorem rlst_check {m : T_Mine} (hm : Vm m) {x : List Int} (hl : x.length = m.1.length) : ∀ (j f k : Nat), j + k = x.length → j < f → ref03_Least_L1 1267650600228229401496703205376 f x k m.1 m.2 =
    if ∀ a, a ∈ x.drop k → 0 ≤ a ∧ a ≤ 1099511627776 then ref03_Least_L2 1267650600228229401496703205376 1267650600228229401496703205376 true m.1 m.2 x else some []
  | j, 0, k, _, hf => absurd hf (Nat.not_lt_zero _)
  | j, f + 1, k, hjk, hf => by
    have hN := hm.n
    rw [ref03_Least_L1_succ]
    by_cases c : (k : Int) < x.length
    · have hk : k < x.length := by omega
      rw [dt c, it (by omega), drop_cons 0 hk, Int.toNat_natCast]
      by_cases c1 : x.getD k 0 < 0
      · rw [dt c1, if_neg]; intro h; have := h _ (List.mem_cons_self ..); omega
      · rw [df c1, it (by omega)]
        by_cases c2 : x.getD k 0 > 1099511627776
        · rw [dt c2, if_neg]; intro h; have := h _ (List.mem_cons_self ..); omega
        · obtain ⟨j', rfl⟩ : ∃ j', j = j' + 1 := ⟨j - 1, by omega⟩
          rw [df c2, W_succ (by omega), rlst_check hm hl j' f (k + 1) (by omega) (by omega)]
          by_cases h : ∀ a, a ∈ x.drop (k + 1) → 0 ≤ a ∧ a ≤ 1099511627776
          · rw [if_pos h, if_pos]
            intro a ha
            rcases List.mem_cons.1 ha with rfl | ha
            · omega
            · exact h a ha
          · rw [if_neg h, if_neg (fun h' => h fun a ha => h' a (List.mem_cons_of_mem _ ha))]
    · rw [df c, drop_nil (by omega), fitsB_true (by omega), cond_true, if_pos (fun a ha => by cases ha)]
theorem rleast_bad {m : T_Mine} (hm : Vm m) {x : List Int} (h : ¬ Tl m.1.length x) : ref03_Least 1267650600228229401496703205376 m x = some [] := by
  unfold ref03_Least
  rw [rcheck_eq, bind_some', (chk_zero m).2 hm]
  simp only [show ((0 : Int) != 0) = false from rfl, cond_false]
  by_cases hl : x.length = m.1.length
  · rw [show ((x.length : Int) != (m.1.length : Int)) = false by simp [hl], cond_false, ref03_Least_J1_eq 1267650600228229401496703205375]
    have := rlst_check hm hl x.length 1267650600228229401496703205376 0 rfl (by have := hm.n; omega)
    rw [show ((0 : Nat) : Int) = 0 from rfl, List.drop_zero, if_neg (fun hv => h ⟨hl, hv⟩)] at this
    exact this
  · rw [show ((x.length : Int) != (m.1.length : Int)) = true from bne_iff_ne.2 (by omega), cond_true]
theorem least_both {m : T_Mine} (hm : Vm m) (x : List Int) : ∃ y, walk_Least 1267650600228229401496703205376 m x = some y ∧ ref03_Least 1267650600228229401496703205376 m x = some y ∧ (y.length ≤ 64 ∧ ∀ a, a ∈ y → 0 ≤ a ∧ a ≤ 1099511627776) := by
  by_cases hx : Tl m.1.length x
  · obtain ⟨y, h1, h2, h3⟩ := least_ok hm hx
    have hs : Sim (fun a b => a = b ∧ Tl m.1.length a) (stL m.1) (suL m.1) (acs m.2) := by
      rintro x z e he ⟨rfl, ht⟩
      rw [← stL_su hm he ht]
      cases h : stL m.1 x e with
      | none => exact .inl ⟨rfl, rfl⟩
      | some y => exact .inr ⟨y, y, rfl, rfl, rfl, (stL_ok hm he ht h).1⟩
    obtain ⟨w, h4, rfl, _⟩ := itr_sim hs _ x x ⟨rfl, hx⟩ y h1
    refine ⟨y, h2, ?_, by have := h3.t.l; have := hm.n; omega, h3.t.v⟩
    unfold ref03_Least
    rw [rcheck_eq, bind_some', (chk_zero m).2 hm]
    simp only [show ((0 : Int) != 0) = false from rfl, cond_false]
    rw [show ((x.length : Int) != (m.1.length : Int)) = false by simp [hx.l], cond_false, ref03_Least_J1_eq 1267650600228229401496703205375]
    have := rlst_check hm hx.l x.length 1267650600228229401496703205376 0 rfl (by have := hm.n; have := hx.l; omega)
    rw [show ((0 : Nat) : Int) = 0 from rfl, List.drop_zero, if_pos hx.v] at this
    exact this.trans (rlst_rounds hm _ 1267650600228229401496703205376 x y hx h4 (by omega))
  · exact ⟨[], least_bad hm hx, rleast_bad hm hx, by simp, fun a ha => by cases ha⟩
/-- The places within a time, from a place on. -/
def win (u : Int) : List Int → Int → List Int → List Int
  | [], _, o => o
  | a :: l, i, o => win u l (i + 1) (if a ≤ u ∧ a < 1099511627776 then o ++ [i] else o)
theorem within_eq (u : Int) {l : List Int} (hl : l.length ≤ 64) : ∀ (j f k : Nat) (o : List Int), j + k = l.length → j < f → o.length ≤ k → walk_Within_L1 1267650600228229401496703205376 f u l l.length k o = some (win u (l.drop k) k o) ∧ ref03_Within_L1 1267650600228229401496703205376 f u l k o = some (win u (l.drop k) k o)
  | j, 0, k, _, _, hf, _ => absurd hf (Nat.not_lt_zero _)
  | j, f + 1, k, o, hjk, hf, ho => by
    rw [walk_Within_L1_succ, ref03_Within_L1_succ]
    by_cases c : (k : Int) < l.length
    · have hk : k < l.length := by omega
      obtain ⟨j', rfl⟩ : ∃ j', j = j' + 1 := ⟨j - 1, by omega⟩
      have e : ((k : Int) + 1) = ((k + 1 : Nat) : Int) := by omega
      rw [dt c, dt c, it (by omega), it (by omega), drop_cons 0 hk, Int.toNat_natCast, W_succ (by omega), fitsB_true (by omega)]
      simp only [win, cond_true, e]
      have h1 := within_eq u hl j' f (k + 1) (o ++ [(k : Int)]) (by omega) (by omega) (by simp; omega)
      have h2 := within_eq u hl j' f (k + 1) o (by omega) (by omega) (by omega)
      by_cases c1 : l.getD k 0 ≤ u <;> by_cases c2 : l.getD k 0 < 1099511627776
      · rw [dt c1, dt c2, dt c2, it (by omega), dt c1, if_pos ⟨c1, c2⟩]; exact h1
      · rw [dt c1, df c2, df c2, if_neg (fun h => c2 h.2)]; exact h2
      · rw [df c1, dt c2, it (by omega), df c1, if_neg (fun h => c1 h.1)]; exact h2
      · rw [df c1, df c2, if_neg (fun h => c1 h.1)]; exact h2
    · rw [df c, df c, drop_nil (by omega)]; exact ⟨rfl, rfl⟩
theorem within_both {m : T_Mine} (hm : Vm m) (x : List Int) (u : Int) : ∃ y, walk_Within 1267650600228229401496703205376 m x u = some y ∧ ref03_Within 1267650600228229401496703205376 m x u = some y ∧ y.length ≤ 64 := by
  obtain ⟨l, h1, h2, h3, _⟩ := least_both hm x
  have := within_eq u h3 l.length 1267650600228229401496703205376 0 [] rfl (by omega) (by simp)
  rw [show ((0 : Nat) : Int) = 0 from rfl, List.drop_zero] at this
  have len : ∀ (l : List Int) (i : Int) (o : List Int), (win u l i o).length ≤ o.length + l.length := by
    intro l
    induction l with
    | nil => intro i o; simp [win]
    | cons a l ih =>
      intro i o
      simp only [win]
      refine Nat.le_trans (ih _ _) ?_
      split <;> simp <;> omega
  refine ⟨_, ?_, ?_, Nat.le_trans (len l 0 []) (by simpa using h3)⟩
  · unfold walk_Within; rw [h1, bind_some']; exact this.1
  · unfold ref03_Within; rw [h2, bind_some']; exact this.2
theorem ints_loop (l : List Int) (hl : l.length ≤ 100000000) : ∀ (j f k : Nat), j + k = l.length → j < f → ref01_Ints_L1 1267650600228229401496703205376 f l l k = some true
  | j, 0, k, _, hf => absurd hf (Nat.not_lt_zero _)
  | j, f + 1, k, hjk, hf => by
    rw [ref01_Ints_L1_succ]
    by_cases c : (k : Int) < l.length
    · obtain ⟨j', rfl⟩ : ∃ j', j = j' + 1 := ⟨j - 1, by omega⟩
      rw [dt c, it (by omega), it (by omega), bne_rfl, cond_false, W_succ (by omega)]
      exact ints_loop l hl j' f (k + 1) (by omega) (by omega)
    · rw [df c]
theorem ints_refl (l : List Int) (hl : l.length ≤ 100000000) : ref01_Ints 1267650600228229401496703205376 l l = some true := by
  unfold ref01_Ints
  rw [bne_rfl, cond_false]
  exact ints_loop l hl l.length 1267650600228229401496703205376 0 rfl (by omega)
theorem times_spec (m : T_Mine) (hn : m.1.length ≤ 64) : ∀ (j f k : Nat) (d : T_Codes) (o : List Int), j + k = m.1.length → j < f → Cd d → o.length = k → (∀ a, a ∈ o → 0 ≤ a ∧ a ≤ 1099511627776) → ∃ l d', law03_times_L1 1267650600228229401496703205376 f k d.1 d.2 m.1 m.2 o = some (l, d') ∧ Cd d' ∧ Tl m.1.length l
  | j, 0, k, _, _, _, hf, _, _, _ => absurd hf (Nat.not_lt_zero _)
  | j, f + 1, k, d, o, hjk, hf, hd, ho, hv => by
    rw [law03_times_L1_succ]
    by_cases c : (k : Int) < m.1.length
    · obtain ⟨j', rfl⟩ : ∃ j', j = j' + 1 := ⟨j - 1, by omega⟩
      obtain ⟨v1, d1, e1, a1, b1, hd1⟩ := next_spec (N := 1267650600228229401496703205376) (by omega) hd (n := 3) (by omega)
      rw [dt c, show ((d.1, d.2) : T_Codes) = d from rfl, e1, bind_some', W_succ (by omega)]
      simp only []
      by_cases c1 : v1 = 0
      · obtain ⟨v2, d2, e2, a2, b2, hd2⟩ := next_spec (N := 1267650600228229401496703205376) (by omega) hd1 (n := 300) (by omega)
        rw [et c1, e2, bind_some', fitsB_true (by omega), cond_true]
        exact times_spec m hn j' f (k + 1) d2 (o ++ [v2]) (by omega) (by omega) hd2 (by simp [ho]) (mem_app hv ⟨by omega, by omega⟩)
      · rw [ef c1, fitsB_true (by omega), cond_true]
        exact times_spec m hn j' f (k + 1) d1 (o ++ [1099511627776]) (by omega) (by omega) hd1 (by simp [ho]) (mem_app hv ⟨by omega, by omega⟩)
    · rw [df c]
      exact ⟨o, _, rfl, hd, by omega, hv⟩
theorem walkLeast_loop {m : T_Mine} (hm : Vm m) (a b : Int) (l : List (List Int)) (hl : l.length ≤ 100) : ∀ (j f k : Nat), j + k = l.length → j < f → law03_WalkLeast_L1 1267650600228229401496703205376 f a b l l.length k m.1 m.2 = some true
  | j, 0, k, _, hf => absurd hf (Nat.not_lt_zero _)
  | j, f + 1, k, hjk, hf => by
    rw [law03_WalkLeast_L1_succ]
    by_cases c : (k : Int) < l.length
    · obtain ⟨j', rfl⟩ : ∃ j', j = j' + 1 := ⟨j - 1, by omega⟩
      rw [dt c, it (by omega)]
      generalize l.getD (k : Int).toNat [] = x
      obtain ⟨y1, p1, p2, p3, _⟩ := least_both hm x
      obtain ⟨y2, q1, q2, q3⟩ := within_both hm x b
      obtain ⟨y3, r1, r2, r3⟩ := within_both hm x a
      rw [show walk_Least 1267650600228229401496703205376 (m.1, m.2) x = _ from p1, bind_some', show ref03_Least 1267650600228229401496703205376 (m.1, m.2) x = _ from p2, bind_some', ints_refl y1 (by omega), bind_some', Bool.not_true, cond_false,
        show walk_Within 1267650600228229401496703205376 (m.1, m.2) x b = _ from q1, bind_some', show ref03_Within 1267650600228229401496703205376 (m.1, m.2) x b = _ from q2, bind_some', ints_refl y2 (by omega), bind_some', Bool.not_true, cond_false,
        show walk_Within 1267650600228229401496703205376 (m.1, m.2) x a = _ from r1, bind_some', show ref03_Within 1267650600228229401496703205376 (m.1, m.2) x a = _ from r2, bind_some', ints_refl y3 (by omega), bind_some', Bool.not_true, cond_false, W_succ (by omega)]
      exact walkLeast_loop hm a b l hl j' f (k + 1) (by omega) (by omega)
    · rw [df c, awake_true]; rfl
theorem walkLeast_eq {l : List Int} (h : ∀ a, a ∈ l → (Lit.int .u8 a).wf = true) (hl : l.length ≤ maxLen) (raw : List Int) (a : Int) : law03_WalkLeast 1267650600228229401496703205376 l raw a = some true := by
  unfold law03_WalkLeast
  obtain ⟨d, e, hd⟩ := new_spec 1267650600228229401496703205376 h hl
  rw [e, bind_some']
  obtain ⟨m, d1, e1, hm, hd1⟩ := mine_spec hd
  simp only
  rw [e1, bind_some']
  simp only
  obtain ⟨t, d2, e2, hd2, ht⟩ := times_spec m (by have := hm.n2; omega) m.1.length 1267650600228229401496703205376 0 d1 [] rfl (by have := hm.n2; omega) hd1 rfl (fun a ha => by cases ha)
  rw [show law03_times 1267650600228229401496703205376 d1 m = _ from e2, bind_some', mod_eq _ _ _ (by omega), bind_some']
  exact walkLeast_loop hm.vm a (modS a 900) [t, raw] (by simp) 2 1267650600228229401496703205376 0 rfl (by omega)
theorem walkLeast_any (dargs : List DV) (h : TyAs [(false, [.sl [.it .u8]]), (false, [.sl [.it .i64]]), (false, [.it .i64])] dargs) : CallOK Try.prog 8 dargs [] 0 (B true) [] 0 :=
  law_any (law03_WalkLeast_pure 1267650600228229401496703205376) (fun x hx => walkLeast_eq hx.1.2 hx.1.1 _ _) rfl dargs h
end Go.Proofs.Ytihgpillkgndbaa
