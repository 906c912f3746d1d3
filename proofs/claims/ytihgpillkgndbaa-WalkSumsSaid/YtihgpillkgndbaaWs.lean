/- WalkSums. No condition of its own. -/
import Derived.Test.YtihgpillkgndbaaWz
set_option linter.all false
namespace Go.Proofs.Ytihgpillkgndbaa
open Go.Pv M

def sta (n : Nat) (a : Int) : List Int := (List.replicate n 1099511627776).set a.toNat 0
theorem sta_g {n : Nat} {a : Int} (h : 0 ≤ a ∧ a < n) {j : Int} (h1 : 0 ≤ j) (h2 : j < n) : gx (sta n a) j = if j = a then 0 else 1099511627776 := by
  unfold sta
  rw [gx_set (n := n) (by simp) h h1]
  split
  · rfl
  · unfold gx
    rw [List.getD_eq_getElem?_getD, List.getElem?_replicate, if_pos (by omega)]; rfl
theorem sta_tl {n : Nat} {a : Int} : Tl n (sta n a) := ⟨by simp [sta], mem_set (fun x hx => by rw [List.eq_of_mem_replicate hx]; omega) (by omega)⟩
theorem gx_map (n : Nat) (f : Nat → Int) {j : Int} (h1 : 0 ≤ j) (h2 : j < n) : gx ((List.range n).map f) j = f j.toNat := by
  unfold gx
  rw [List.getD_eq_getElem?_getD, List.getElem?_map, List.getElem?_range (by omega)]; rfl
/-- Least times and least costs are the same. -/
theorem least_way {m : T_Mine} (hm : Vm m) {a b : Int} (ha : 0 ≤ a ∧ a < m.1.length) (hb : 0 ≤ b ∧ b < m.1.length) {y : List T_Span} (hy : Wy m a b y) {s : List Int} (hs : Lst m (sta m.1.length a) s) :
    (gp y a).1 ≤ gx s b ∧ ((gp y a).1 < 1099511627776 → gx s b ≤ (gp y a).1) := by
  have hw := hy.w
  constructor
  · have hg : ∀ j : Int, 0 ≤ j → j < m.1.length → gx ((List.range m.1.length).map fun (i : Nat) => (gp y a).1 - (gp y (i : Int)).1) j = (gp y a).1 - (gp y j).1 := fun j h1 h2 => by
      rw [gx_map _ _ h1 h2, Int.toNat_of_nonneg h1]
    have := hs.g ((List.range m.1.length).map fun (i : Nat) => (gp y a).1 - (gp y (i : Int)).1) (fun r hr c ht => by
      have hv := hm.rv hr
      have e1 := hv.ea c
      have e2 := hv.eb c
      rw [hg _ e1.1 e1.2, hg _ e2.1 e2.2]
      have := ClW.tm hm hw hy.c hr c ht
      omega) (fun j h1 h2 => by
      rw [hg j h1 h2, sta_g ha h1 h2]
      have g1 := hw.rg hm (i := j) ⟨h1, h2⟩
      have g2 := hw.rg hm ha
      split
      · rename_i e; subst e; omega
      · omega) b hb.1 hb.2
    rw [hg b hb.1 hb.2, hw.z] at this
    simpa using this
  · intro hr
    have key : ∀ (l : List Int) (u : Int), Pth m y b u l → 0 ≤ u ∧ u < m.1.length → gx s b ≤ gx s u + (gp y u).1 := by
      intro l
      induction l with
      | nil => intro u h hu; cases h; rw [hw.z]; simp
      | cons k l ih =>
        intro u h hu
        cases h with
        | cons h1 h2 h3 =>
          obtain ⟨i, r, a1, a2, a3, a4, a5, a6, a7, a8, a9, a10, a11⟩ := pth_arc hm h2
          have e1 := ih _ h3 a8
          have e2 := hs.c r a4 (dir r u) a9
          rw [a6, a7] at e2
          omega
    obtain ⟨l, h1, _, _⟩ := hy.g hr
    have e1 := key l a h1 ha
    have e2 := hs.le a ha.1 ha.2
    rw [sta_g ha ha.1 ha.2, if_pos rfl] at e2
    omega
theorem sums_loop {m : T_Mine} (hm : Vm m) {a b : Int} {y : List T_Span} (hy : Wl m b y) (L : List Int) (hL : L.length ≤ 64000704) (ga : (gp y a).1 ≤ 64000704) : ∀ (l : List Int) (f i : Nat) (u sm : Int), L.drop i = l → i + l.length = L.length → Pth m y b u l → 0 ≤ u ∧ u < m.1.length → (gp y u).1 < 1099511627776 → 0 ≤ sm → sm + (gp y u).1 = (gp y a).1 → l.length < f →
    law03_WalkSums_L2 1267650600228229401496703205376 f b L (gp y a).1 true u sm i m.1 m.2 = some true := by
  intro l
  induction l with
  | nil =>
    intro f i u sm hd hi h hu hr hs0 hs hf
    obtain ⟨f', rfl⟩ : ∃ f', f = f' + 1 := ⟨f - 1, by omega⟩
    cases h
    rw [hy.z] at hs
    rw [law03_WalkSums_L2_succ, df (by simp only [List.length_nil] at hi; omega), Bool.not_true, cond_false, et rfl, et (by simp only at hs; omega), awake_true]; rfl
  | cons k l ih =>
    intro f i u sm hd hi h hu hr hs0 hs hf
    obtain ⟨f', rfl⟩ : ∃ f', f = f' + 1 := ⟨f - 1, by omega⟩
    cases h with
    | cons h1 h2 h3 =>
      rename_i c
      simp only [List.length_cons] at hi hf
      have hil : i < L.length := by omega
      rw [drop_cons 0 hil] at hd
      injection hd with hd1 hd2
      obtain ⟨q, r, a1, a2, a3, a4, a5, a6, a7, a8, a9, a10, a11⟩ := pth_arc hm h2
      have hv := hm.rv a4
      have hK := hm.k
      have hN := hm.n
      have tq := tw_rng pq_ok (ps := m.1) hv.g (dir r u)
      have va := hv.a
      have vb := hv.b
      have hn := hv.ne
      have gu := hy.rg hm hu
      have gc := hy.rg hm a8
      have ht : tk pq m (q : Int) (dir r u) = tw pq m.1 r (dir r u) := by rw [tk_in a1, ← a3]
      have nx : r.1 + r.2.1 - u = c := by
        rw [← a7]
        rcases a5.1 with h | h
        · have : dir r u = false := by unfold dir; simp [h]
          rw [this]; show _ = r.2.1; omega
        · have : dir r u = true := dir_true.2 (by omega)
          rw [this]; show _ = r.1; omega
      have go : law03_WalkSums_L2 1267650600228229401496703205376 f' b L (gp y a).1 true (W ((W (r.1 + r.2.1)) - u)) (W (sm + tw pq m.1 r (dir r u))) (W ((i : Int) + 1)) m.1 m.2 = some true := by
        rw [W_eq (n := r.1 + r.2.1) (by omega) (by omega), W_eq (n := r.1 + r.2.1 - u) (by omega) (by omega), W_eq (n := sm + tw pq m.1 r (dir r u)) (by omega) (by omega), W_succ (by omega), nx]
        exact ih f' (i + 1) c _ hd2 (by omega) h3 a8 a10 (by omega) (by omega) (by omega)
      rw [law03_WalkSums_L2_succ, dt (by omega), it (by omega), Int.toNat_natCast, hd1, a2, df (by omega), it (by omega), df (by omega), it (by omega), it (by omega), Int.toNat_natCast, ← a3]
      simp only []
      rcases a5.1 with h | h
      · have hd : dir r u = false := by unfold dir; simp [h]
        have e1 : (r.2.1 == u) = false := ne2 (by omega)
        rw [hd] at go ht tq a9
        rw [e1, Bool.not_false, cond_true, show (r.1 != u) = false by simp [h], cond_false, it (by omega), show walk_Time 1267650600228229401496703205376 (m.1, m.2) q false = _ from time_eq hm q false, bind_some', ht, df (by omega)]
        exact go
      · have hd : dir r u = true := dir_true.2 (by omega)
        have e1 : (r.2.1 == u) = true := eq2 h
        rw [hd] at go ht tq a9
        rw [e1, Bool.not_true, cond_false, it (by omega), show walk_Time 1267650600228229401496703205376 (m.1, m.2) q true = _ from time_eq hm q true, bind_some', ht, df (by omega)]
        exact go
theorem sums_go {m : T_Mine} (hm : Vm m) {a b : Int} (ha : 0 ≤ a ∧ a < m.1.length) {y : List T_Span} (hy : Wl m b y) {l : List Int} (hl : l.length ≤ 64000704) (h : Pth m y b a l) (c : (gp y a).1 < 1099511627776) : law03_WalkSums_J1 1267650600228229401496703205376 a b l (gp y a).1 true m.1 m.2 = some true := by
  have ga := hy.rg hm ha
  have := sums_loop hm (a := a) hy l hl (ga.2.2 c) l 1267650600228229401496703205376 0 a 0 rfl (by omega) h ha c (by omega) (by omega) (by omega)
  rw [law03_WalkSums_J1_eq 1267650600228229401496703205375]
  exact this
theorem sums_no {m : T_Mine} (a b : Int) : law03_WalkSums_J1 1267650600228229401496703205376 a b [] 0 false m.1 m.2 = some true := by
  rw [law03_WalkSums_J1_eq 1267650600228229401496703205375, law03_WalkSums_L2_succ _ 1267650600228229401496703205375, df (by simp), Bool.not_false, cond_true, show law03_awake (1267650600228229401496703205375 + 1) = some true from awake_true]; rfl
theorem sel (o d t1 q : Bool) (J : Option Bool) (h1 : o = d) (h2 : o = true → t1 = true ∧ q = false) : (bif !(o == d) then some false else bif o then bif t1 then bif q then some false else J else none else J) = J := by
  subst h1
  cases o with
  | false => rfl
  | true => obtain ⟨rfl, rfl⟩ := h2 rfl; rfl
theorem sums_end {m : T_Mine} (hm : Vm m) {a b : Int} (ha : 0 ≤ a ∧ a < m.1.length) (hb : 0 ≤ b ∧ b < m.1.length) (f : Nat) : law03_WalkSums_L1 1267650600228229401496703205376 (f + 1) m.1.length a b m.1.length m.1 m.2 (List.replicate m.1.length 1099511627776) = some true := by
  have hN := hm.n
  obtain ⟨y, hy⟩ := way_ok hm ha hb
  obtain ⟨s, _, s1, s2⟩ := least_ok hm (sta_tl (n := m.1.length) (a := a))
  have hl := s2.t.l
  obtain ⟨g1, g2⟩ := least_way hm ha hb hy s2
  have ga := hy.w.rg hm ha
  have gs := s2.t.g hb
  have e0 : ((s.length : Int) != (m.1.length : Int)) = false := by simp [hl]
  have s1' : walk_Least 1267650600228229401496703205376 (m.1, m.2) ((List.replicate m.1.length (1099511627776 : Int)).set a.toNat 0) = some s := s1
  rw [law03_WalkSums_L1_succ, df (by omega), it (by simp; omega), s1']
  by_cases c1 : (gp y a).1 < 1099511627776
  · obtain ⟨l, p1, p2, p3⟩ := hy.g c1
    have p3' : walk_Way 1267650600228229401496703205376 (m.1, m.2) a b = some (l, (gp y a).1, true) := p3
    have e1 : s.getD b.toNat 0 = (gp y a).1 := by have := g2 c1; unfold gx at *; omega
    have fin := sums_go hm ha hy.w p2 p1 c1
    rw [p3', bind_some', bind_some', e0, cond_false, it (by omega)]
    exact (sel _ _ _ _ _ (decide_eq_true (by omega)).symm (fun _ => ⟨inB_true (by omega), by show (s.getD b.toNat 0 != (gp y a).1) = false; rw [e1]; exact bne_rfl _⟩)).trans fin
  · have p3' : walk_Way 1267650600228229401496703205376 (m.1, m.2) a b = some ([], 0, false) := hy.b c1
    have e1 : ¬ s.getD b.toNat 0 < 1099511627776 := by unfold gx at *; omega
    have fin := sums_no (m := m) a b
    rw [p3', bind_some', bind_some', e0, cond_false, it (by omega)]
    exact (sel _ _ _ _ _ (decide_eq_false e1).symm (fun h => Bool.noConfusion h)).trans fin
theorem sums_init {m : T_Mine} (hm : Vm m) {a b : Int} (ha : 0 ≤ a ∧ a < m.1.length) (hb : 0 ≤ b ∧ b < m.1.length) : ∀ (j f k : Nat), j + k = m.1.length → j < f → law03_WalkSums_L1 1267650600228229401496703205376 f m.1.length a b k m.1 m.2 (List.replicate k 1099511627776 ++ List.replicate (m.1.length - k) 0) = some true := by
  intro j
  have hN := hm.n
  induction j with
  | zero =>
    intro f k hjk hf
    obtain ⟨f', rfl⟩ : ∃ f', f = f' + 1 := ⟨f - 1, by omega⟩
    have hk : k = m.1.length := by omega
    rw [hk, Nat.sub_self, List.replicate_zero, List.append_nil]
    exact sums_end hm ha hb f'
  | succ j ih =>
    intro f k hjk hf
    obtain ⟨f', rfl⟩ : ∃ f', f = f' + 1 := ⟨f - 1, by omega⟩
    rw [law03_WalkSums_L1_succ, dt (by omega), it (by simp; omega), Int.toNat_natCast, rep_set (1099511627776 : Int) 0 k m.1.length (by omega), W_succ (by omega)]
    exact ih f' (k + 1) (by omega) (by omega)
theorem walkSums_eq {l : List Int} (h : ∀ a, a ∈ l → (Lit.int .u8 a).wf = true) (hl : l.length ≤ maxLen) (a b : Int) : law03_WalkSums 1267650600228229401496703205376 l a b = some true := by
  unfold law03_WalkSums
  obtain ⟨c, e, hd⟩ := new_spec 1267650600228229401496703205376 h hl
  rw [e, bind_some']
  obtain ⟨m, d1, e1, hM, hd1⟩ := mine_spec hd
  simp only
  rw [e1, bind_some']
  simp only
  have hm := hM.vm
  have n1 := hM.n1
  have n2 := hM.n2
  rw [mod_eq _ _ _ (by omega), bind_some', mod_eq _ _ _ (by omega), bind_some', mkB_true (by omega), cond_true, Int.toNat_natCast]
  exact sums_init hm (modS_range (n := a) (m := m.1.length) (by omega)) (modS_range (n := b) (m := m.1.length) (by omega)) m.1.length 1267650600228229401496703205376 0 rfl (by omega)
theorem walkSums_any (dargs : List DV) (h : TyAs [(false, [.sl [.it .u8]]), (false, [.it .i64]), (false, [.it .i64])] dargs) : CallOK Try.prog 5 dargs [] 0 (B true) [] 0 :=
  law_any (law03_WalkSums_pure 1267650600228229401496703205376) (fun x hx => walkSums_eq hx.1.2 hx.1.1 _ _) rfl dargs h
end Go.Proofs.Ytihgpillkgndbaa
