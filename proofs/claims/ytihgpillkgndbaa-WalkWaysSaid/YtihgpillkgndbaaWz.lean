/- WalkThrough, WalkSums. No condition of its own. -/
import Derived.Test.YtihgpillkgndbaaWy
set_option linter.all false
namespace Go.Proofs.Ytihgpillkgndbaa
open Go.Pv M

theorem Wl.rg {m : T_Mine} (hm : Vm m) {to : Int} {x : List T_Span} (h : Wl m to x) {i : Int} (h1 : 0 ≤ i ∧ i < m.1.length) : 0 ≤ (gp x i).1 ∧ (gp x i).1 ≤ 1099511627776 ∧ ((gp x i).1 < 1099511627776 → (gp x i).1 ≤ 64000704) := by
  rcases h.rc hm h1.1 h1.2 with h | h
  · rw [h]; simp
  · omega
/-- An arc does not lessen a time. -/
theorem ClW.tm {m : T_Mine} (hm : Vm m) {to : Int} {y : List T_Span} (hy : Wl m to y) (hc : ClW m y) {r : T_Road} (hr : r ∈ m.2) (b : Bool) (ht : 0 ≤ tw pq m.1 r b) : (gp y (enA r b)).1 ≤ (gp y (enB r b)).1 + tw pq m.1 r b := by
  have hv := hm.rv hr
  have ga := hy.rg hm (hv.ea b)
  by_cases h : (gp y (enB r b)).1 < 1099511627776
  · have := hc (r, b) (mem_acs.2 hr) ht h
    have hcs : (cst m.1 y (r, b)).1 = (gp y (enB r b)).1 + tw pq m.1 r b := rfl
    unfold lss at this
    simp only at this
    omega
  · omega
/-- Each road of a way. -/
theorem pth_arc {m : T_Mine} (hm : Vm m) {y : List T_Span} {p k b : Int} (h : fnd m y p m.2 0 = some (k, b)) : ∃ (i : Nat) (r : T_Road), i < m.2.length ∧ k = (i : Int) ∧ r = m.2.getD i D_Road ∧ r ∈ m.2 ∧ hit m y p r ∧ enA r (dir r p) = p ∧ enB r (dir r p) = b ∧ (0 ≤ b ∧ b < m.1.length) ∧ 0 ≤ tw pq m.1 r (dir r p) ∧ (gp y b).1 < 1099511627776 ∧ (gp y p).1 = (gp y b).1 + tw pq m.1 r (dir r p) := by
  obtain ⟨i, q1, q2, q3, q4, q5, q6⟩ := fnd_to hm h
  exact ⟨i, _, q1, q2, rfl, getD_mem D_Road q1, q3, q6, q4.symm, q5, q3.2.1, by rw [q4]; exact q3.2.2.1, by rw [q4, q3.2.2.2]; rfl⟩

/-! ### WalkThrough -/
theorem tri {m : T_Mine} (hm : Vm m) {q to : Int} {y z : List T_Span} (hy : Wl m q y) (hz : Wl m to z) (hzc : ClW m z) (hq : (gp z q).1 < 1099511627776) : ∀ (l : List Int) (u : Int), Pth m y q u l → 0 ≤ u ∧ u < m.1.length → (gp y u).1 < 1099511627776 → (gp z u).1 ≤ (gp y u).1 + (gp z q).1 := by
  intro l
  induction l with
  | nil => intro u h hu _; cases h; rw [hy.z]; simp
  | cons k l ih =>
    intro u h hu hr
    cases h with
    | cons h1 h2 h3 =>
      rename_i b
      obtain ⟨i, r, a1, a2, a3, a4, a5, a6, a7, a8, a9, a10, a11⟩ := pth_arc hm h2
      have e1 := ih b h3 a8 a10
      have e2 := ClW.tm hm hz hzc a4 (dir r u) a9
      rw [a6, a7] at e2
      omega
theorem spd3 (L z : Int) : spd pq L z = 3 * spd pw L z ∧ (spd pw L z = 2 ∨ spd pw L z = 3 ∨ spd pw L z = 4) := by
  unfold spd pq pw
  simp only
  split
  · simp
  · split <;> simp
theorem slow_fast {m : T_Mine} (hm : Vm m) (k : Int) (b : Bool) : (tk pq m k b = -1 ∧ tk pw m k b = -1) ∨ (1 ≤ tk pq m k b ∧ tk pq m k b ≤ 1000011 ∧ tk pq m k b ≤ tk pw m k b ∧ tk pw m k b ≤ 3 * tk pq m k b) := by
  unfold tk
  by_cases h : 0 ≤ k ∧ k < m.2.length
  · rw [if_pos h, if_pos h]
    have hv := hm.rv (getD_mem D_Road (show k.toNat < m.2.length by omega))
    generalize m.2.getD k.toNat D_Road = r at *
    have hg := hv.g
    have tq := tw_rng pq_ok (ps := m.1) hg b
    unfold tw at tq ⊢
    by_cases c1 : r.2.2.2.2.2.1 = true
    · rw [if_pos c1, if_pos c1]; exact .inl ⟨rfl, rfl⟩
    · rw [if_neg c1] at tq ⊢
      rw [if_neg c1]
      by_cases c2 : r.2.2.2.2.1 = false
      · rw [if_pos c2, if_pos c2]; exact .inl ⟨rfl, rfl⟩
      · rw [if_neg c2] at tq ⊢
        rw [if_neg c2]
        right
        have hL : 1 ≤ r.2.2.1 ∧ r.2.2.1 ≤ 100000 := by unfold rngE at hg; omega
        obtain ⟨s1, s2⟩ := spd3 r.2.2.1 (rse m.1 r b)
        rw [s1] at tq ⊢
        generalize r.2.2.1 = L at *
        rcases s2 with s2 | s2 | s2 <;> rw [s2] at tq ⊢ <;> omega
  · rw [if_neg h, if_neg h]; exact .inl ⟨rfl, rfl⟩
theorem through_end {m : T_Mine} (hm : Vm m) (road : Int) (b : Bool) : law03_WalkThrough_J1 1267650600228229401496703205376 road b m.1 m.2 = some true := by
  have hK := hm.k
  rw [law03_WalkThrough_J1_eq 1267650600228229401496703205375, W_eq (n := (m.2.length : Int) + 1) (by omega) (by omega), mod_eq _ _ _ (by omega), bind_some']
  generalize modS road ((m.2.length : Int) + 1) = k
  rw [show walk_Time (1267650600228229401496703205375 + 1) (m.1, m.2) k b = _ from time_eq hm k b, bind_some', show walk_Slow (1267650600228229401496703205375 + 1) (m.1, m.2) k b = _ from slow_eq hm k b, bind_some', show law03_awake (1267650600228229401496703205375 + 1) = some true from awake_true]
  rcases slow_fast hm k b with ⟨h1, h2⟩ | h
  · rw [h1, h2]; rfl
  · rw [show (tk pq m k b == -1) = false from ne2 (by omega), show (tk pw m k b == -1) = false from ne2 (by omega), W_eq (n := 3 * tk pq m k b) (by omega) (by omega), dt (by omega), dt (by omega), dt (by omega)]; rfl
theorem walkThrough_eq {l : List Int} (h : ∀ a, a ∈ l → (Lit.int .u8 a).wf = true) (hl : l.length ≤ maxLen) (a b d road : Int) (back : Bool) : law03_WalkThrough 1267650600228229401496703205376 l a b d road back = some true := by
  unfold law03_WalkThrough
  obtain ⟨c, e, hd⟩ := new_spec 1267650600228229401496703205376 h hl
  rw [e, bind_some']
  obtain ⟨m, d1, e1, hM, hd1⟩ := mine_spec hd
  simp only
  rw [e1, bind_some']
  simp only
  have hm := hM.vm
  have n1 := hM.n1
  have n2 := hM.n2
  rw [mod_eq _ _ _ (by omega), bind_some', mod_eq _ _ _ (by omega), bind_some', mod_eq _ _ _ (by omega), bind_some']
  have hp := modS_range (n := a) (m := m.1.length) (by omega)
  have hq := modS_range (n := b) (m := m.1.length) (by omega)
  have hr := modS_range (n := d) (m := m.1.length) (by omega)
  generalize modS a m.1.length = p at *
  generalize modS b m.1.length = q at *
  generalize modS d m.1.length = r at *
  obtain ⟨y, hy⟩ := way_ok hm hp hq
  obtain ⟨z, hz⟩ := way_ok hm hq hr
  obtain ⟨z', hz'⟩ := way_ok hm hp hr
  have ez : z' = z := by have := hz'.i; rw [hz.i] at this; injection this with this; exact this.symm
  subst ez
  have gy := hy.w.rg hm hp
  have gz := hz.w.rg hm hq
  have gw := hz.w.rg hm hp
  have te := through_end hm road back
  by_cases c1 : (gp y p).1 < 1099511627776
  · obtain ⟨l1, p1, _, w1⟩ := hy.g c1
    rw [w1, bind_some']
    by_cases c2 : (gp z' q).1 < 1099511627776
    · obtain ⟨l2, p2, _, w2⟩ := hz.g c2
      have ht := tri hm hy.w hz.w hz.c c2 l1 p p1 hp c1
      obtain ⟨l3, p3, _, w3⟩ := hz'.g (by omega)
      rw [w2, bind_some', w3, bind_some']
      simp only [cond_true, Bool.not_true, cond_false]
      rw [W_eq (n := (gp y p).1 + (gp z' q).1) (by omega) (by omega), df (by omega)]
      exact te
    · rw [hz.b c2, bind_some']
      by_cases c3 : (gp z' p).1 < 1099511627776
      · obtain ⟨l3, p3, _, w3⟩ := hz'.g c3
        rw [w3, bind_some']; exact te
      · rw [hz'.b c3, bind_some']; exact te
  · rw [hy.b c1, bind_some']
    have any : ∀ {fr to : Int} {y : List T_Span}, Wy m fr to y → ∃ x, walk_Way 1267650600228229401496703205376 m fr to = some x := fun {fr to y} h => by
      by_cases c : (gp y fr).1 < 1099511627776
      · obtain ⟨l, _, _, w⟩ := h.g c; exact ⟨_, w⟩
      · exact ⟨_, h.b c⟩
    obtain ⟨x1, w1⟩ := any hz
    obtain ⟨x2, w2⟩ := any hz'
    rw [w1, bind_some', w2, bind_some']
    exact te
theorem walkThrough_any (dargs : List DV) (h : TyAs [(false, [.sl [.it .u8]]), (false, [.it .i64]), (false, [.it .i64]), (false, [.it .i64]), (false, [.it .i64]), (false, [.bo])] dargs) : CallOK Try.prog 7 dargs [] 0 (B true) [] 0 :=
  law_any (law03_WalkThrough_pure 1267650600228229401496703205376) (fun x hx => walkThrough_eq hx.1.2 hx.1.1 _ _ _ _ _) rfl dargs h
end Go.Proofs.Ytihgpillkgndbaa
