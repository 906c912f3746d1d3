/- WalkWays: the reference's way, and the law (XWr, XWv, XWu in one). No condition of its own. -/
import Derived.Test.YtihgpillkgndbaaWz
set_option linter.all false
namespace Go.Proofs.Ytihgpillkgndbaa
open Go.Pv M

abbrev Zt := List Int × List Int
/-- One arc, by the reference. -/
def suW (ps : List T_Place) (z : Zt) (e : T_Road × Bool) : Option Zt :=
  if 0 ≤ tw pq ps e.1 e.2 ∧ 0 ≤ gx z.1 (enB e.1 e.2) ∧ (gx z.1 (enA e.1 e.2) < 0 ∨ gx z.1 (enB e.1 e.2) + tw pq ps e.1 e.2 < gx z.1 (enA e.1 e.2) ∨ (gx z.1 (enB e.1 e.2) + tw pq ps e.1 e.2 = gx z.1 (enA e.1 e.2) ∧ gx z.2 (enB e.1 e.2) + 1 < gx z.2 (enA e.1 e.2)))
  then some (z.1.set (enA e.1 e.2).toNat (gx z.1 (enB e.1 e.2) + tw pq ps e.1 e.2), z.2.set (enA e.1 e.2).toNat (gx z.2 (enB e.1 e.2) + 1)) else none
structure Rl (m : T_Mine) (to : Int) (x : List T_Span) (z : Zt) : Prop where
  w : Wl m to x
  l1 : z.1.length = m.1.length
  l2 : z.2.length = m.1.length
  g1 : ∀ i : Int, 0 ≤ i → i < m.1.length → gx z.1 i = if (gp x i).1 < 1099511627776 then (gp x i).1 else -1
  g2 : ∀ i : Int, 0 ≤ i → i < m.1.length → gx z.2 i = (gp x i).2
theorem sim_way {m : T_Mine} (hm : Vm m) (to : Int) : Sim (Rl m to) (stW m.1) (suW m.1) (acs m.2) := by
  intro x z e he hR
  have hv := hm.rv (mem_acs.1 he)
  have ha := hv.ea e.2
  have hb := hv.eb e.2
  have a1 := hR.g1 _ ha.1 ha.2
  have a2 := hR.g2 _ ha.1 ha.2
  have b1 := hR.g1 _ hb.1 hb.2
  have b2 := hR.g2 _ hb.1 hb.2
  have ra := hR.w.rc hm ha.1 ha.2
  have rb := hR.w.rc hm hb.1 hb.2
  have tq := tw_rng pq_ok (ps := m.1) hv.g e.2
  have hcs : cst m.1 x e = ((gp x (enB e.1 e.2)).1 + tw pq m.1 e.1 e.2, (gp x (enB e.1 e.2)).2 + 1) := rfl
  by_cases c : 0 ≤ tw pq m.1 e.1 e.2 ∧ (gp x (enB e.1 e.2)).1 < 1099511627776 ∧ lss (cst m.1 x e) (gp x (enA e.1 e.2))
  · right
    have hs : stW m.1 x e = some (x.set (enA e.1 e.2).toNat (cst m.1 x e)) := if_pos c
    obtain ⟨c1, c2, c3⟩ := c
    rw [if_pos c2] at b1
    have hok := (stW_ok hm he hR.w hs).1
    have rb' : 0 ≤ (gp x (enB e.1 e.2)).1 ∧ (gp x (enB e.1 e.2)).1 ≤ 64000704 := by
      rcases rb with g | g
      · rw [g] at c2; simp at c2
      · omega
    have hu : suW m.1 z e = some (z.1.set (enA e.1 e.2).toNat (gx z.1 (enB e.1 e.2) + tw pq m.1 e.1 e.2), z.2.set (enA e.1 e.2).toNat (gx z.2 (enB e.1 e.2) + 1)) := by
      refine if_pos ⟨c1, by omega, ?_⟩
      rw [hcs] at c3
      unfold lss at c3
      simp only at c3
      by_cases r : (gp x (enA e.1 e.2)).1 < 1099511627776
      · rw [if_pos r] at a1; omega
      · rw [if_neg r] at a1; omega
    refine ⟨_, _, hs, hu, hok, by simp [hR.l1], by simp [hR.l2], fun i h1 h2 => ?_, fun i h1 h2 => ?_⟩
    · rw [gx_set hR.l1 ha h1, gp_set hR.w.l ha h1]
      by_cases e1 : i = enA e.1 e.2
      · rw [if_pos e1, if_pos e1, hcs, if_pos (by simp only; omega), b1]
      · rw [if_neg e1, if_neg e1]; exact hR.g1 i h1 h2
    · rw [gx_set hR.l2 ha h1, gp_set hR.w.l ha h1]
      by_cases e1 : i = enA e.1 e.2
      · rw [if_pos e1, if_pos e1, hcs, b2]
      · rw [if_neg e1, if_neg e1]; exact hR.g2 i h1 h2
  · left
    refine ⟨if_neg c, if_neg fun h => c ?_⟩
    obtain ⟨c1, c2, c3⟩ := h
    have r : (gp x (enB e.1 e.2)).1 < 1099511627776 := by
      by_cases r : (gp x (enB e.1 e.2)).1 < 1099511627776
      · exact r
      · rw [if_neg r] at b1; omega
    rw [if_pos r] at b1
    have rb' : (gp x (enB e.1 e.2)).1 ≤ 64000704 := by
      rcases rb with g | g
      · rw [g] at r; simp at r
      · omega
    refine ⟨c1, r, ?_⟩
    have ra' : 0 ≤ (gp x (enA e.1 e.2)).1 := by
      rcases ra with g | g
      · rw [g]; simp
      · omega
    rw [hcs]
    unfold lss
    simp only
    by_cases r2 : (gp x (enA e.1 e.2)).1 < 1099511627776
    · rw [if_pos r2] at a1; omega
    · omega
def Zk (m : T_Mine) (to : Int) (z : Zt) : Prop := ∃ x, Rl m to x z
theorem zk_gst {m : T_Mine} (hm : Vm m) {to : Int} {z : Zt} (h : Zk m to z) {e : T_Road × Bool} (he : e ∈ acs m.2) (g : Bool) : Zk m to (gst (suW m.1) (g, z) e).2 := by
  obtain ⟨x, hx⟩ := h
  rcases sim_way hm to x z e he hx with ⟨_, h⟩ | ⟨y, w, _, h, hR⟩
  · rw [gst_none h]; exact ⟨x, hx⟩
  · rw [gst_some h]; exact ⟨y, hR⟩
theorem Zk.rg {m : T_Mine} (hm : Vm m) {to : Int} {z : Zt} (h : Zk m to z) {i : Int} (hi : 0 ≤ i ∧ i < m.1.length) : -1 ≤ gx z.1 i ∧ gx z.1 i ≤ 64000704 ∧ 0 ≤ gx z.2 i ∧ gx z.2 i ≤ 64000704 := by
  obtain ⟨x, hx⟩ := h
  have a1 := hx.g1 i hi.1 hi.2
  have a2 := hx.g2 i hi.1 hi.2
  rcases hx.w.rc hm hi.1 hi.2 with h | h
  · rw [h] at a1 a2; simp at a1 a2; omega
  · split at a1 <;> omega
theorem Zk.l {m : T_Mine} {to : Int} {z : Zt} (h : Zk m to z) : z.1.length = m.1.length ∧ z.2.length = m.1.length := by obtain ⟨x, hx⟩ := h; exact ⟨hx.l1, hx.l2⟩
theorem rto_arc {m : T_Mine} (hm : Vm m) {to : Int} {k : Nat} (hk : k < m.2.length) (n3 n2 n4 : Nat) (g : Bool) {z : Zt} (hz : Zk m to z) {d : Int} (hd : d < 2) (b : Bool) (hb : (d == 1) = b) :
    ref03_to_L4 1267650600228229401496703205376 n3 n2 (n4 + 1) g k d m.1 m.2 z.1 z.2 = ref03_to_L4 1267650600228229401496703205376 n3 n2 n4 (gst (suW m.1) (g, z) (m.2.getD k D_Road, b)).1 k (W (d + 1)) m.1 m.2 (gst (suW m.1) (g, z) (m.2.getD k D_Road, b)).2.1 (gst (suW m.1) (g, z) (m.2.getD k D_Road, b)).2.2 := by
  have hv := hm.rv (getD_mem D_Road hk)
  rw [ref03_to_L4_succ, dt hd, it (by omega), hb, ends_eq, bind_some', show ref03_Time 1267650600228229401496703205376 (m.1, m.2) k b = _ from rtime_eq hm k b, bind_some', tk_in hk, Int.toNat_natCast]
  generalize m.2.getD k D_Road = r at *
  have ha := hv.ea b
  have hb := hv.eb b
  have hl := hz.l
  have ga := hz.rg hm ha
  have gb := hz.rg hm hb
  have tq := tw_rng pq_ok (ps := m.1) hv.g b
  have su : suW m.1 z (r, b) = if 0 ≤ tw pq m.1 r b ∧ 0 ≤ gx z.1 (enB r b) ∧ (gx z.1 (enA r b) < 0 ∨ gx z.1 (enB r b) + tw pq m.1 r b < gx z.1 (enA r b) ∨ (gx z.1 (enB r b) + tw pq m.1 r b = gx z.1 (enA r b) ∧ gx z.2 (enB r b) + 1 < gx z.2 (enA r b))) then some (z.1.set (enA r b).toNat (gx z.1 (enB r b) + tw pq m.1 r b), z.2.set (enA r b).toNat (gx z.2 (enB r b) + 1)) else none := rfl
  simp only []
  rw [show z.1.getD (enB r b).toNat 0 = gx z.1 (enB r b) from rfl]
  by_cases c : tw pq m.1 r b < 0
  · rw [if_neg (fun h => by omega)] at su
    rw [dt c, gst_none su]
  · rw [df c, it (by omega)]
    by_cases c2 : gx z.1 (enB r b) < 0
    · rw [if_neg (fun h => by omega)] at su
      rw [dt c2, gst_none su]
    · rw [df c2, ref03_to_J1_eq 1267650600228229401496703205375, it (by omega)]
      rw [show z.1.getD (enA r b).toNat 0 = gx z.1 (enA r b) from rfl, show z.1.getD (enB r b).toNat 0 = gx z.1 (enB r b) from rfl, show z.2.getD (enA r b).toNat 0 = gx z.2 (enA r b) from rfl, show z.2.getD (enB r b).toNat 0 = gx z.2 (enB r b) from rfl, W_eq (n := gx z.1 (enB r b) + tw pq m.1 r b) (by omega) (by omega), W_eq (n := gx z.2 (enB r b) + 1) (by omega) (by omega)]
      by_cases c3 : gx z.1 (enA r b) < 0
      · rw [if_pos ⟨by omega, by omega, .inl c3⟩] at su
        rw [dt c3, it (by omega), it (by omega), it (by omega), it (by omega), gst_some su]
      · rw [df c3, it (by omega), it (by omega)]
        by_cases c4 : gx z.1 (enB r b) + tw pq m.1 r b < gx z.1 (enA r b)
        · rw [if_pos ⟨by omega, by omega, .inr (.inl c4)⟩] at su
          rw [dt c4, it (by omega), it (by omega), it (by omega), it (by omega), gst_some su]
        · rw [df c4, it (by omega), it (by omega)]
          by_cases c5 : gx z.1 (enB r b) + tw pq m.1 r b = gx z.1 (enA r b)
          · rw [et c5, it (by omega), it (by omega)]
            by_cases c6 : gx z.2 (enB r b) + 1 < gx z.2 (enA r b)
            · rw [if_pos ⟨by omega, by omega, .inr (.inr ⟨c5, c6⟩)⟩] at su
              rw [dt c6, it (by omega), it (by omega), it (by omega), it (by omega), gst_some su]
            · rw [if_neg (fun h => by omega)] at su
              rw [df c6, gst_none su]
          · rw [if_neg (fun h => by omega)] at su
            rw [ef c5, gst_none su]
theorem rto_road {m : T_Mine} (hm : Vm m) (to : Int) (n2 : Nat) : ∀ (j f k : Nat) (g : Bool) (z : Zt), j + k = m.2.length → j < f → Zk m to z →
    ref03_to_L3 1267650600228229401496703205376 n2 f g k m.1 m.2 z.1 z.2 = ref03_to_L2 1267650600228229401496703205376 n2 ((acs (m.2.drop k)).foldl (gst (suW m.1)) (g, z)).1 m.1 m.2 ((acs (m.2.drop k)).foldl (gst (suW m.1)) (g, z)).2.1 ((acs (m.2.drop k)).foldl (gst (suW m.1)) (g, z)).2.2
  | j, 0, k, _, _, _, hf, _ => absurd hf (Nat.not_lt_zero _)
  | j, f + 1, k, g, z, hjk, hf, hz => by
    have hK := hm.k
    rw [ref03_to_L3_succ]
    by_cases c : (k : Int) < m.2.length
    · have hk : k < m.2.length := by omega
      have hrm := getD_mem D_Road hk
      have t1 := zk_gst hm hz (e := (m.2.getD k D_Road, false)) (mem_acs.2 hrm) g
      rw [dt c, drop_cons D_Road hk, acs_cons, List.foldl_cons, List.foldl_cons, rto_arc hm hk f n2 1267650600228229401496703205375 g hz (by omega) false rfl]
      generalize gst (suW m.1) (g, z) (m.2.getD k D_Road, false) = s1 at *
      obtain ⟨g1, z1⟩ := s1
      have t2 := zk_gst hm t1 (e := (m.2.getD k D_Road, true)) (mem_acs.2 hrm) g1
      simp only [] at t1 t2 ⊢
      rw [show W (0 + 1) = 1 from rfl, rto_arc hm hk f n2 1267650600228229401496703205374 g1 t1 (by omega) true rfl]
      generalize gst (suW m.1) (g1, z1) (m.2.getD k D_Road, true) = s2 at *
      obtain ⟨g2, z2⟩ := s2
      rw [show W (1 + 1) = 2 from rfl, ref03_to_L4_succ _ _ _ 1267650600228229401496703205373, df (by omega), W_succ (by omega)]
      obtain ⟨j', rfl⟩ : ∃ j', j = j' + 1 := ⟨j - 1, by omega⟩
      exact rto_road hm to n2 j' f (k + 1) g2 z2 (by omega) (by omega) t2
    · rw [df c, drop_nil (by omega)]; rfl
theorem zk_fold {m : T_Mine} (hm : Vm m) {to : Int} : ∀ (es : List (T_Road × Bool)), (∀ e, e ∈ es → e ∈ acs m.2) → ∀ (g : Bool) (z : Zt), Zk m to z → Zk m to (es.foldl (gst (suW m.1)) (g, z)).2
  | [], _, _, _, h => h
  | e :: es, hk, g, z, h => by
    rw [List.foldl_cons]
    have := zk_gst hm h (hk e (List.mem_cons_self ..)) g
    generalize gst (suW m.1) (g, z) e = s at *
    exact zk_fold hm es (fun e he => hk e (List.mem_cons_of_mem _ he)) s.1 s.2 this
theorem rto_rounds {m : T_Mine} (hm : Vm m) (to : Int) : ∀ (n f : Nat) (z w : Zt), Zk m to z → itr (suW m.1) (acs m.2) n z = some w → n < f → ref03_to_L2 1267650600228229401496703205376 f true m.1 m.2 z.1 z.2 = some w
  | 0, _, _, _, _, h, _ => by cases h
  | n + 1, 0, _, _, _, _, h => absurd h (Nat.not_lt_zero _)
  | n + 1, f + 1, z, w, hz, h, hf => by
    rw [ref03_to_L2_succ, cond_true]
    have := rto_road hm to f m.2.length 1267650600228229401496703205376 0 false z rfl (by have := hm.k; omega) hz
    rw [show ((0 : Nat) : Int) = 0 from rfl, List.drop_zero] at this
    rw [this]
    rw [itr] at h
    have ht := zk_fold hm (to := to) (acs m.2) (fun _ h => h) false z hz
    by_cases c : ((acs m.2).foldl (gst (suW m.1)) (false, z)).1 = true
    · rw [if_pos c] at h
      rw [c]
      exact rto_rounds hm to n f _ w ht h (by omega)
    · rw [if_neg c] at h
      obtain ⟨f', rfl⟩ : ∃ f', f = f' + 1 := ⟨f - 1, by omega⟩
      rw [Bool.eq_false_iff.2 c, ref03_to_L2_succ, cond_false, ← h]
theorem rto_init (ps : List T_Place) (rs : List T_Road) (to : Int) (n : Nat) (cs : List Int) (hn : n ≤ 64) (ht : 0 ≤ to ∧ to < n) : ∀ (j f k : Nat), j + k = n → j < f → ref03_to_L1 1267650600228229401496703205376 f to k ps rs (List.replicate k (-1) ++ List.replicate (n - k) 0) cs = ref03_to_L2 1267650600228229401496703205376 1267650600228229401496703205376 true ps rs ((List.replicate n (-1)).set to.toNat 0) cs := by
  intro j
  induction j with
  | zero =>
    intro f k hjk hf
    obtain ⟨f', rfl⟩ : ∃ f', f = f' + 1 := ⟨f - 1, by omega⟩
    obtain rfl : k = n := by omega
    rw [ref03_to_L1_succ, df (by simp), it (by simp; omega), Nat.sub_self, List.replicate_zero, List.append_nil]
  | succ j ih =>
    intro f k hjk hf
    obtain ⟨f', rfl⟩ : ∃ f', f = f' + 1 := ⟨f - 1, by omega⟩
    rw [ref03_to_L1_succ, dt (by simp; omega), it (by simp; omega), Int.toNat_natCast, rep_set (-1 : Int) 0 k n (by omega), W_succ (by omega)]
    exact ih f' (k + 1) (by omega) (by omega)
theorem rto_eq {m : T_Mine} (hm : Vm m) {fr to : Int} (ht : 0 ≤ to ∧ to < m.1.length) {y : List T_Span} (hy : Wy m fr to y) : ∃ z, ref03_to 1267650600228229401496703205376 m to = some z ∧ Rl m to y z := by
  have hN := hm.n
  have h0 : Rl m to (st0 m.1.length to) ((List.replicate m.1.length (-1)).set to.toNat 0, List.replicate m.1.length 0) := by
    have hw := st0_wl (m := m) ht
    have hg : ∀ j : Int, 0 ≤ j → j < m.1.length → gp (st0 m.1.length to) j = if j = to then (0, 0) else (1099511627776, 0) := fun j h1 h2 => by
      unfold st0
      rw [gp_set (n := m.1.length) (by simp) ht h1]
      split
      · rfl
      · unfold gp
        rw [List.getD_eq_getElem?_getD, List.getElem?_replicate, if_pos (by omega)]; rfl
    refine ⟨hw, by simp, by simp, fun i h1 h2 => ?_, fun i h1 h2 => ?_⟩
    · rw [hg i h1 h2, gx_set (n := m.1.length) (by simp) ht h1]
      by_cases e : i = to
      · rw [if_pos e, if_pos e]; rfl
      · rw [if_neg e, if_neg e]
        show gx _ i = -1
        unfold gx
        rw [List.getD_eq_getElem?_getD, List.getElem?_replicate, if_pos (by omega)]; rfl
    · rw [hg i h1 h2]
      have : gx (List.replicate m.1.length 0) i = 0 := by
        unfold gx
        rw [List.getD_eq_getElem?_getD, List.getElem?_replicate, if_pos (by omega)]; rfl
      show gx (List.replicate m.1.length 0) i = _
      rw [this]; split <;> rfl
  obtain ⟨z, h1, h2⟩ := itr_sim (sim_way hm to) _ _ _ h0 y hy.i
  refine ⟨z, ?_, h2⟩
  have h3 : ref03_to_L1 1267650600228229401496703205376 1267650600228229401496703205376 to 0 m.1 m.2 (List.replicate m.1.length 0) (List.replicate m.1.length 0) = ref03_to_L2 1267650600228229401496703205376 1267650600228229401496703205376 true m.1 m.2 ((List.replicate m.1.length (-1)).set to.toNat 0) (List.replicate m.1.length 0) := rto_init m.1 m.2 to m.1.length (List.replicate m.1.length 0) hN ht m.1.length 1267650600228229401496703205376 0 rfl (by omega)
  have h4 : ref03_to_L2 1267650600228229401496703205376 1267650600228229401496703205376 true m.1 m.2 ((List.replicate m.1.length (-1)).set to.toNat 0) (List.replicate m.1.length 0) = some z := rto_rounds hm to 618970019642690137449562113 1267650600228229401496703205376 ((List.replicate m.1.length (-1)).set to.toNat 0, List.replicate m.1.length 0) z ⟨_, h0⟩ h1 (by omega)
  unfold ref03_to
  rw [mkB_true (by omega), cond_true, cond_true, Int.toNat_natCast, h3, h4]

/-- One direction of a road, by the reference: it leads on. -/
def led (m : T_Mine) (y : List T_Span) (p : Int) (r : T_Road) (b : Bool) : Prop := enA r b = p ∧ 0 ≤ tw pq m.1 r b ∧ (gp y (enB r b)).1 < 1099511627776 ∧ gp y p = cst m.1 y (r, b)
theorem w3_arc {m : T_Mine} (hm : Vm m) {fr to p : Int} {y : List T_Span} {z : Zt} (hR : Rl m to y z) (hp : 0 ≤ p ∧ p < m.1.length) (hpr : (gp y p).1 < 1099511627776) {k : Nat} (hk : k < m.2.length) (n2 n1 n3 : Nat) (nx : Int) (out : List Int) (ho : out.length ≤ 1000000001) {d : Int} (hd : d < 2) (b : Bool) (hb : (d == 1) = b) :
    (led m y p (m.2.getD k D_Road) b ∧ nx < 0 → ref03_Way_L3 1267650600228229401496703205376 n2 n1 (n3 + 1) fr to z.1 z.2 p nx k d m.1 m.2 out = ref03_Way_L3 1267650600228229401496703205376 n2 n1 n3 fr to z.1 z.2 p (enB (m.2.getD k D_Road) b) k (W (d + 1)) m.1 m.2 (out ++ [(k : Int)])) ∧
    (¬ (led m y p (m.2.getD k D_Road) b ∧ nx < 0) → ref03_Way_L3 1267650600228229401496703205376 n2 n1 (n3 + 1) fr to z.1 z.2 p nx k d m.1 m.2 out = ref03_Way_L3 1267650600228229401496703205376 n2 n1 n3 fr to z.1 z.2 p nx k (W (d + 1)) m.1 m.2 out) := by
  have hv := hm.rv (getD_mem D_Road hk)
  rw [ref03_Way_L3_succ, dt hd, it (by omega), hb, ends_eq, bind_some', show ref03_Time 1267650600228229401496703205376 (m.1, m.2) k b = _ from rtime_eq hm k b, bind_some', tk_in hk, Int.toNat_natCast]
  generalize m.2.getD k D_Road = r at *
  have ha := hv.ea b
  have hb := hv.eb b
  have l1 := hR.l1
  have l2 := hR.l2
  have p1 := hR.g1 p hp.1 hp.2
  have p2 := hR.g2 p hp.1 hp.2
  have b1 := hR.g1 _ hb.1 hb.2
  have b2 := hR.g2 _ hb.1 hb.2
  have rb := hR.w.rc hm hb.1 hb.2
  have tq := tw_rng pq_ok (ps := m.1) hv.g b
  rw [if_pos hpr] at p1
  simp only []
  rw [show z.1.getD (enB r b).toNat 0 = gx z.1 (enB r b) from rfl, show z.1.getD p.toNat 0 = gx z.1 p from rfl, show z.2.getD (enB r b).toNat 0 = gx z.2 (enB r b) from rfl, show z.2.getD p.toNat 0 = gx z.2 p from rfl]
  have led' : led m y p r b ↔ enA r b = p ∧ 0 ≤ tw pq m.1 r b ∧ (gp y (enB r b)).1 < 1099511627776 ∧ (gp y p).1 = (gp y (enB r b)).1 + tw pq m.1 r b ∧ (gp y p).2 = (gp y (enB r b)).2 + 1 := by
    unfold led
    constructor
    · rintro ⟨h1, h2, h3, h4⟩; exact ⟨h1, h2, h3, by rw [h4]; rfl, by rw [h4]; rfl⟩
    · rintro ⟨h1, h2, h3, h4, h5⟩; exact ⟨h1, h2, h3, Prod.ext h4 h5⟩
  rw [led']
  by_cases c0 : enA r b = p
  · rw [et c0]
    by_cases c1 : tw pq m.1 r b ≥ 0
    · rw [dt c1, it (by omega)]
      by_cases c2 : (gp y (enB r b)).1 < 1099511627776
      · have rb' : 0 ≤ (gp y (enB r b)).1 ∧ (gp y (enB r b)).1 ≤ 64000704 ∧ 0 ≤ (gp y (enB r b)).2 ∧ (gp y (enB r b)).2 ≤ 64000704 := by
          rcases rb with g | g
          · rw [g] at c2; simp at c2
          · omega
        rw [if_pos c2] at b1
        rw [dt (by omega), it (by omega), it (by omega), W_eq (n := gx z.1 (enB r b) + tw pq m.1 r b) (by omega) (by omega)]
        by_cases c3 : gx z.1 (enB r b) + tw pq m.1 r b = gx z.1 p
        · rw [et c3, it (by omega), it (by omega), W_eq (n := gx z.2 (enB r b) + 1) (by omega) (by omega)]
          by_cases c4 : gx z.2 (enB r b) + 1 = gx z.2 p
          · rw [et c4]
            by_cases c5 : nx < 0
            · rw [dt c5, fitsB_true (by omega), cond_true]
              exact ⟨fun _ => rfl, fun h => absurd ⟨⟨c0, c1, c2, by omega, by omega⟩, c5⟩ h⟩
            · rw [df c5]
              exact ⟨fun h => absurd h.2 c5, fun _ => rfl⟩
          · rw [ef c4]
            exact ⟨fun h => absurd (show gx z.2 (enB r b) + 1 = gx z.2 p by omega) c4, fun _ => rfl⟩
        · rw [ef c3]
          exact ⟨fun h => absurd (show gx z.1 (enB r b) + tw pq m.1 r b = gx z.1 p by omega) c3, fun _ => rfl⟩
      · rw [if_neg c2] at b1
        rw [df (by omega)]
        exact ⟨fun h => absurd h.1.2.2.1 c2, fun _ => rfl⟩
    · rw [df c1]
      exact ⟨fun h => absurd h.1.2.1 c1, fun _ => rfl⟩
  · rw [ef c0]
    exact ⟨fun h => absurd h.1.1 c0, fun _ => rfl⟩
theorem led_hit {m : T_Mine} {y : List T_Span} {p : Int} {r : T_Road} (hn : r.1 ≠ r.2.1) (b : Bool) : led m y p r b ↔ hit m y p r ∧ dir r p = b := by
  unfold led hit
  constructor
  · rintro ⟨h1, h2, h3, h4⟩
    have hd : dir r p = b := by
      cases b with
      | false => have : r.1 = p := h1; unfold dir; simp [this]
      | true => have : r.2.1 = p := h1; exact dir_true.2 (by omega)
    rw [hd]
    refine ⟨⟨?_, h2, h3, h4⟩, rfl⟩
    cases b with
    | false => exact .inl h1
    | true => exact .inr h1
  · rintro ⟨⟨h1, h2, h3, h4⟩, hd⟩
    rw [hd] at h2 h3 h4
    refine ⟨?_, h2, h3, h4⟩
    cases b with
    | false =>
      have : ¬ r.1 ≠ p := fun h => by rw [dir_true.2 h] at hd; cases hd
      show r.1 = p; omega
    | true =>
      have := dir_true.1 hd
      show r.2.1 = p; omega
theorem w2_find {m : T_Mine} (hm : Vm m) {fr to p : Int} {y : List T_Span} {z : Zt} (hR : Rl m to y z) (hp : 0 ≤ p ∧ p < m.1.length) (hpr : (gp y p).1 < 1099511627776) (n1 : Nat) (out : List Int) (ho : out.length ≤ 1000000000) (q : Int × Int) : ∀ (j f k : Nat), j + k = m.2.length → j < f → fnd m y p (m.2.drop k) k = some q →
    ref03_Way_L2 1267650600228229401496703205376 n1 f fr to z.1 z.2 p (-1) k m.1 m.2 out = ref03_Way_L1 1267650600228229401496703205376 n1 fr to z.1 z.2 q.2 m.1 m.2 (out ++ [q.1]) := by
  intro j
  induction j with
  | zero => intro f k hjk hf h; rw [drop_nil (by omega)] at h; cases h
  | succ j ih =>
    intro f k hjk hf h
    have hk : k < m.2.length := by omega
    have hK := hm.k
    have hv := hm.rv (getD_mem D_Road hk)
    have hn := hv.ne
    obtain ⟨f', rfl⟩ : ∃ f', f = f' + 1 := ⟨f - 1, by omega⟩
    rw [drop_cons D_Road hk, fnd] at h
    rw [ref03_Way_L2_succ, dt (by omega), dt (by omega), ref03_Way_J2_eq 1267650600228229401496703205375]
    have a0 := w3_arc hm (fr := fr) hR hp hpr hk f' n1 1267650600228229401496703205375 (-1) out (by omega) (d := 0) (by omega) false rfl
    have last : ∀ (nx : Int) (o : List Int), ref03_Way_L3 1267650600228229401496703205376 f' n1 1267650600228229401496703205374 fr to z.1 z.2 p nx k 2 m.1 m.2 o = ref03_Way_L2 1267650600228229401496703205376 n1 f' fr to z.1 z.2 p nx ((k + 1 : Nat) : Int) m.1 m.2 o := by
      intro nx o
      rw [ref03_Way_L3_succ _ _ _ 1267650600228229401496703205373, df (by omega), W_succ (by omega)]
    by_cases c : hit m y p (m.2.getD k D_Road)
    · rw [if_pos c] at h; injection h with h; subst h
      have hb := hv.eb (dir (m.2.getD k D_Road) p)
      have fin : ∀ (o : List Int), ref03_Way_L2 1267650600228229401496703205376 n1 f' fr to z.1 z.2 p (enB (m.2.getD k D_Road) (dir (m.2.getD k D_Road) p)) ((k + 1 : Nat) : Int) m.1 m.2 o = ref03_Way_L1 1267650600228229401496703205376 n1 fr to z.1 z.2 (enB (m.2.getD k D_Road) (dir (m.2.getD k D_Road) p)) m.1 m.2 o := by
        intro o
        obtain ⟨f'', rfl⟩ : ∃ f'', f' = f'' + 1 := ⟨f' - 1, by omega⟩
        rw [ref03_Way_L2_succ]
        by_cases c3 : ((k + 1 : Nat) : Int) < m.2.length
        · rw [dt c3, df (by omega)]
        · rw [df c3]
      cases hd : dir (m.2.getD k D_Road) p with
      | false =>
        rw [hd] at hb fin
        refine (a0.1 ⟨(led_hit hn false).2 ⟨c, hd⟩, by omega⟩).trans ?_
        have a1 := w3_arc hm (fr := fr) hR hp hpr hk f' n1 1267650600228229401496703205374 (enB (m.2.getD k D_Road) false) (out ++ [(k : Int)]) (by simp; omega) (d := 1) (by omega) true rfl
        exact (a1.2 (fun h => by omega)).trans ((last _ _).trans (fin _))
      | true =>
        rw [hd] at hb fin
        refine (a0.2 (fun h => by have := ((led_hit hn false).1 h.1).2; rw [hd] at this; cases this)).trans ?_
        have a1 := w3_arc hm (fr := fr) hR hp hpr hk f' n1 1267650600228229401496703205374 (-1) out (by omega) (d := 1) (by omega) true rfl
        exact (a1.1 ⟨(led_hit hn true).2 ⟨c, hd⟩, by omega⟩).trans ((last _ _).trans (fin _))
    · rw [if_neg c] at h
      refine (a0.2 (fun h => c ((led_hit hn false).1 h.1).1)).trans ?_
      have a1 := w3_arc hm (fr := fr) hR hp hpr hk f' n1 1267650600228229401496703205374 (-1) out (by omega) (d := 1) (by omega) true rfl
      exact (a1.2 (fun h => c ((led_hit hn true).1 h.1).1)).trans ((last _ _).trans (ih f' (k + 1) (by omega) (by omega) h))

theorem w1_out {m : T_Mine} (hm : Vm m) {fr to : Int} {y : List T_Span} {z : Zt} (hR : Rl m to y z) (hfr : 0 ≤ fr ∧ fr < m.1.length) : ∀ (l : List Int) (p : Int), Pth m y to p l → 0 ≤ p ∧ p < m.1.length → (gp y p).1 < 1099511627776 → ∀ (f : Nat) (out : List Int), l.length < f → out.length + l.length ≤ 1000000000 →
    ref03_Way_L1 1267650600228229401496703205376 f fr to z.1 z.2 p m.1 m.2 out = some (out ++ l, gx z.1 fr, true) := by
  intro l
  induction l with
  | nil =>
    intro p h hp hr f out hf ho
    obtain ⟨f', rfl⟩ : ∃ f', f = f' + 1 := ⟨f - 1, by omega⟩
    cases h
    rw [ref03_Way_L1_succ, show (to != to) = false by simp, cond_false, it (by have := hR.l1; omega), List.append_nil]; rfl
  | cons k l ih =>
    intro p h hp hr f out hf ho
    obtain ⟨f', rfl⟩ : ∃ f', f = f' + 1 := ⟨f - 1, by omega⟩
    cases h with
    | cons h1 h2 h3 =>
      rename_i b
      obtain ⟨i, r, a1, a2, a3, a4, a5, a6, a7, a8, a9, a10, a11⟩ := pth_arc hm h2
      have hK := hm.k
      simp only [List.length_cons] at hf ho
      have := w2_find hm (fr := fr) hR hp hr f' out (by omega) (k, b) m.2.length 1267650600228229401496703205376 0 rfl (by omega) (by rw [List.drop_zero]; exact h2)
      have ih' := ih b h3 a8 a10 f' (out ++ [k]) (by omega) (by simp only [List.length_append, List.length_cons, List.length_nil]; omega)
      rw [List.append_assoc] at ih'
      rw [ref03_Way_L1_succ, show (p != to) = true from bne_iff_ne.2 h1, cond_true]
      exact this.trans ih'
theorem way_both {m : T_Mine} (hm : Vm m) (fr to : Int) : ∃ l t o, walk_Way 1267650600228229401496703205376 m fr to = some (l, t, o) ∧ ref03_Way 1267650600228229401496703205376 m fr to = some (l, t, o) ∧ l.length ≤ 64000704 := by
  by_cases hf : 0 ≤ fr ∧ fr < m.1.length
  · by_cases ht : 0 ≤ to ∧ to < m.1.length
    · obtain ⟨y, hy⟩ := way_ok hm hf ht
      obtain ⟨z, h1, hR⟩ := rto_eq hm ht hy
      have g := hR.g1 fr hf.1 hf.2
      have l1 := hR.l1
      have ry := hy.w.rg hm hf
      have h6 : ref03_Way 1267650600228229401496703205376 m fr to = bif (decide (gx z.1 fr < 0)) then some ([], 0, false) else ref03_Way_L1 1267650600228229401496703205376 1267650600228229401496703205376 fr to z.1 z.2 fr m.1 m.2 [] := by
        unfold ref03_Way
        rw [rcheck_eq, bind_some', (chk_zero m).2 hm]
        simp only [show ((0 : Int) != 0) = false from rfl, cond_false]
        rw [df (by omega), df (by omega), df (by omega), df (by omega), ref03_Way_J1_eq 1267650600228229401496703205375, show ref03_to (1267650600228229401496703205375 + 1) (m.1, m.2) to = some z from h1, bind_some', it (by omega)]; rfl
      by_cases c : (gp y fr).1 < 1099511627776
      · obtain ⟨l, p1, p2, p3⟩ := hy.g c
        rw [if_pos c] at g
        refine ⟨l, _, _, p3, ?_, p2⟩
        rw [h6, df (by omega), w1_out hm hR hf l fr p1 hf c 1267650600228229401496703205376 [] (by omega) (by simp; omega), g]; rfl
      · rw [if_neg c] at g
        exact ⟨[], 0, false, hy.b c, by rw [h6, dt (by omega)], by simp⟩
    · refine ⟨[], 0, false, ?_, ?_, by simp⟩
      · unfold walk_Way
        rw [valid_eq, bind_some', (chk_zero m).2 hm]
        simp only [show ((0 : Int) == 0) = true from rfl, Bool.not_true, cond_false]
        rw [df (by omega), df (by omega)]
        by_cases c : to < 0
        · rw [dt c]
        · rw [df c, dt (by omega)]
      · unfold ref03_Way
        rw [rcheck_eq, bind_some', (chk_zero m).2 hm]
        simp only [show ((0 : Int) != 0) = false from rfl, cond_false]
        rw [df (by omega), df (by omega)]
        by_cases c : to < 0
        · rw [dt c]
        · rw [df c, dt (by omega)]
  · refine ⟨[], 0, false, ?_, ?_, by simp⟩
    · unfold walk_Way
      rw [valid_eq, bind_some', (chk_zero m).2 hm]
      simp only [show ((0 : Int) == 0) = true from rfl, Bool.not_true, cond_false]
      by_cases c : fr < 0
      · rw [dt c]
      · rw [df c, dt (by omega)]
    · unfold ref03_Way
      rw [rcheck_eq, bind_some', (chk_zero m).2 hm]
      simp only [show ((0 : Int) != 0) = false from rfl, cond_false]
      by_cases c : fr < 0
      · rw [dt c]
      · rw [df c, dt (by omega)]
theorem ways_loop {m : T_Mine} (hm : Vm m) (l : List T_Span) (hl : l.length ≤ 100) : ∀ (j f k : Nat), j + k = l.length → j < f → law03_WalkWays_L1 1267650600228229401496703205376 f l l.length k m.1 m.2 = some true := by
  intro j
  induction j with
  | zero =>
    intro f k hjk hf
    obtain ⟨f', rfl⟩ : ∃ f', f = f' + 1 := ⟨f - 1, by omega⟩
    rw [law03_WalkWays_L1_succ, df (by omega), awake_true]; rfl
  | succ j ih =>
    intro f k hjk hf
    obtain ⟨f', rfl⟩ : ∃ f', f = f' + 1 := ⟨f - 1, by omega⟩
    have ih' := ih f' (k + 1) (by omega) (by omega)
    rw [law03_WalkWays_L1_succ, dt (by omega), it (by omega)]
    generalize l.getD (k : Int).toNat D_Span = x
    obtain ⟨w, t, o, h1, h2, h3⟩ := way_both hm x.1 x.2
    have h1' : walk_Way 1267650600228229401496703205376 (m.1, m.2) x.1 x.2 = some (w, t, o) := h1
    have h2' : ref03_Way 1267650600228229401496703205376 (m.1, m.2) x.1 x.2 = some (w, t, o) := h2
    rw [h1', bind_some', h2', bind_some', ints_refl w (by omega), bind_some', Bool.not_true, cond_false, bne_rfl, cond_false, beq_self_eq_true, Bool.not_true, cond_false, W_succ (by omega)]
    exact ih'
theorem walkWays_eq {l : List Int} (h : ∀ a, a ∈ l → (Lit.int .u8 a).wf = true) (hl : l.length ≤ maxLen) (a b : Int) : law03_WalkWays 1267650600228229401496703205376 l a b = some true := by
  unfold law03_WalkWays
  obtain ⟨c, e, hd⟩ := new_spec 1267650600228229401496703205376 h hl
  rw [e, bind_some']
  obtain ⟨m, d1, e1, hM, hd1⟩ := mine_spec hd
  simp only
  rw [e1, bind_some']
  simp only
  have n2 := hM.n2
  rw [mod_eq _ _ _ (by omega), bind_some', mod_eq _ _ _ (by omega), bind_some']
  exact ways_loop hM.vm [(a, b), (modS a m.1.length, modS b m.1.length)] (by simp) 2 1267650600228229401496703205376 0 rfl (by omega)
theorem walkWays_any (dargs : List DV) (h : TyAs [(false, [.sl [.it .u8]]), (false, [.it .i64]), (false, [.it .i64])] dargs) : CallOK Try.prog 4 dargs [] 0 (B true) [] 0 :=
  law_any (law03_WalkWays_pure 1267650600228229401496703205376) (fun x hx => walkWays_eq hx.1.2 hx.1.1 _ _) rfl dargs h
end Go.Proofs.Ytihgpillkgndbaa
