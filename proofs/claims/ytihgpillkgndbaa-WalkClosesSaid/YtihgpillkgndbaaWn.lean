/- WalkCloses. No condition of its own. -/
import Derived.Test.YtihgpillkgndbaaWm
set_option linter.all false
namespace Go.Proofs.Ytihgpillkgndbaa
open Go.Pv M

theorem le_anti {n : Nat} {x y : List Int} (hx : x.length = n) (hy : y.length = n) (h1 : Le n x y) (h2 : Le n y x) : x = y := by
  refine List.ext_getElem (by omega) fun i h3 h4 => ?_
  have a1 := h1 i (by omega) (by omega)
  have a2 := h2 i (by omega) (by omega)
  unfold gx at a1 a2
  rw [Int.toNat_natCast, List.getD_eq_getElem?_getD, List.getD_eq_getElem?_getD, List.getElem?_eq_getElem h3, List.getElem?_eq_getElem h4] at a1 a2
  simp only [Option.getD_some] at a1 a2
  omega
def shut (r : T_Road) : T_Road := (r.1, (r.2.1, (r.2.2.1, (r.2.2.2.1, (r.2.2.2.2.1, (true, r.2.2.2.2.2.2))))))
theorem shut_vm {m : T_Mine} (hm : Vm m) {i : Nat} (hi : i < m.2.length) : Vm (m.1, m.2.set i (shut (m.2.getD i D_Road))) := by
  refine ⟨hm.n, by simpa using hm.k, hm.p, fun x hx => ?_⟩
  rcases List.mem_or_eq_of_mem_set hx with hx | rfl
  · exact hm.r x hx
  · have := hm.r _ (getD_mem D_Road hi)
    unfold endE rngE at this ⊢
    exact this
theorem shut_cls {m : T_Mine} {i : Nat} {z : List Int} (h : Cls m z) : Cls (m.1, m.2.set i (shut (m.2.getD i D_Road))) z := by
  intro r hr b ht
  rcases List.mem_or_eq_of_mem_set hr with hr | rfl
  · exact h r hr b ht
  · have : tw pq m.1 (shut (m.2.getD i D_Road)) b = -1 := by unfold tw; exact if_pos rfl
    simp only at ht
    omega
theorem closes_loop (l a b d : List Int) (n : Nat) (hn : n ≤ 64) (h1 : l.length = n) (h2 : a.length = n) (h3 : b.length = n) (h4 : d.length = n) (g1 : Le n a l) (g2 : Le n b a) (g3 : Le n a d) : ∀ (j f k : Nat), j + k = n → j < f → law03_WalkCloses_L1 1267650600228229401496703205376 f l a b d k = some true
  | j, 0, k, _, hf => absurd hf (Nat.not_lt_zero _)
  | j, f + 1, k, hjk, hf => by
    rw [law03_WalkCloses_L1_succ]
    by_cases c : (k : Int) < l.length
    · obtain ⟨j', rfl⟩ : ∃ j', j = j' + 1 := ⟨j - 1, by omega⟩
      have e1 := g1 k (by omega) (by omega)
      have e2 := g2 k (by omega) (by omega)
      have e3 := g3 k (by omega) (by omega)
      unfold gx at e1 e2 e3
      rw [dt c, it (by omega), it (by omega), df (by omega), it (by omega), it (by omega), df (by omega), it (by omega), it (by omega), df (by omega), W_succ (by omega)]
      exact closes_loop l a b d n hn h1 h2 h3 h4 g1 g2 g3 j' f (k + 1) (by omega) (by omega)
    · rw [df c, awake_true]; rfl
theorem walkCloses_eq {l : List Int} (h : ∀ a, a ∈ l → (Lit.int .u8 a).wf = true) (hl : l.length ≤ maxLen) (place road : Int) : law03_WalkCloses 1267650600228229401496703205376 l place road = some true := by
  unfold law03_WalkCloses
  obtain ⟨d, e, hd⟩ := new_spec 1267650600228229401496703205376 h hl
  rw [e, bind_some']
  obtain ⟨m, d1, e1, hM, hd1⟩ := mine_spec hd
  simp only
  rw [e1, bind_some']
  simp only
  obtain ⟨t, d2, e2, hd2, ht⟩ := times_spec m (by have := hM.n2; omega) m.1.length 1267650600228229401496703205376 0 d1 [] rfl (by have := hM.n2; omega) hd1 rfl (fun a ha => by cases ha)
  have hm := hM.vm
  have n1 := hM.n1
  have n2 := hM.n2
  have r2 := hM.r2
  have tl := ht.l
  rw [show law03_times 1267650600228229401496703205376 d1 m = _ from e2, bind_some']
  obtain ⟨a, _, a1, a2⟩ := least_ok hm ht
  obtain ⟨a', _, a3, a4⟩ := least_ok hm a2.t
  have al := a2.t.l
  have ea : a' = a := le_anti a4.t.l a2.t.l a4.le (a4.g a a2.c fun _ _ _ => Int.le_refl _)
  subst ea
  simp only
  rw [a1, bind_some', show ((a'.length : Int) != (t.length : Int)) = false from bne_eq_false_iff_eq.2 (by omega), cond_false, a3, bind_some', ints_refl a' (by omega), bind_some', Bool.not_true, cond_false, law03_WalkCloses_J1_eq 1267650600228229401496703205375, fitsB_true (by omega), cond_true, mod_eq _ _ _ (by omega), bind_some']
  have hk := modS_range (n := place) (m := t.length) (by omega)
  generalize modS place t.length = k at hk
  have tk := ht.g (i := k) (by omega)
  have q : (gx t k).tdiv 2 = gx t k / 2 := Int.tdiv_eq_ediv_of_nonneg tk.1
  rw [it (by omega), it (by omega), show t.getD k.toNat 0 = gx t k from rfl, q, W_eq (n := gx t k / 2) (by omega) (by omega)]
  have hE : Tl m.1.length (t.set k.toNat (gx t k / 2)) := ⟨by simpa using tl, mem_set ht.v ⟨by omega, by omega⟩⟩
  obtain ⟨b, _, b1, b2⟩ := least_ok hm hE
  have bl := b2.t.l
  have hbt : Le m.1.length b t := fun i h1 h2 => by
    have e1 := b2.le i h1 h2
    rw [gx_set tl (by omega) h1] at e1
    split at e1
    · rename_i ei; subst ei; omega
    · exact e1
  have hba : Le m.1.length b a' := a2.g b b2.c hbt
  rw [show walk_Least (1267650600228229401496703205375 + 1) (m.1, m.2) (t.set k.toNat (gx t k / 2)) = _ from b1, bind_some', show ref01_Copy (1267650600228229401496703205375 + 1) (m.1, m.2) = some (m, ()) from by unfold ref01_Copy; rw [fitsB_true (by simp only; omega), cond_true, fitsB_true (by simp only; omega), cond_true], bind_some']
  simp only
  by_cases c : (m.2.length : Int) > 0
  · rw [dt c, mod_eq _ _ _ (by omega), bind_some']
    have hr := modS_range (n := road) (m := m.2.length) (by omega)
    generalize modS road m.2.length = r at hr
    obtain ⟨i, rfl⟩ := Int.eq_ofNat_of_zero_le hr.1
    have hs := shut_vm hm (i := i) (by omega)
    obtain ⟨dd, _, g1, g2⟩ := least_ok hs (x := t) ht
    have dl : dd.length = m.1.length := g2.t.l
    rw [it (by omega), Int.toNat_natCast]
    have g1' : walk_Least (1267650600228229401496703205375 + 1) (m.1, m.2.set i ((m.2.getD i D_Road).1, ((m.2.getD i D_Road).2.1, ((m.2.getD i D_Road).2.2.1, ((m.2.getD i D_Road).2.2.2.1, ((m.2.getD i D_Road).2.2.2.2.1, (true, (m.2.getD i D_Road).2.2.2.2.2.2))))))) t = some dd := g1
    rw [g1', bind_some', show ((b.length : Int) != (t.length : Int)) = false from bne_eq_false_iff_eq.2 (by omega), cond_false, show ((dd.length : Int) != (t.length : Int)) = false from bne_eq_false_iff_eq.2 (by omega), cond_false]
    exact closes_loop t a' b dd m.1.length (by omega) tl al bl dl a2.le hba (g2.g a' (shut_cls a2.c) a2.le) m.1.length 1267650600228229401496703205376 0 rfl (by omega)
  · rw [df c, show walk_Least (1267650600228229401496703205375 + 1) m t = _ from a1, bind_some', show ((b.length : Int) != (t.length : Int)) = false from bne_eq_false_iff_eq.2 (by omega), cond_false, show ((a'.length : Int) != (t.length : Int)) = false from bne_eq_false_iff_eq.2 (by omega), cond_false]
    exact closes_loop t a' b a' m.1.length (by omega) tl al bl al a2.le hba (fun _ _ _ => Int.le_refl _) m.1.length 1267650600228229401496703205376 0 rfl (by omega)
theorem walkCloses_any (dargs : List DV) (h : TyAs [(false, [.sl [.it .u8]]), (false, [.it .i64]), (false, [.it .i64])] dargs) : CallOK Try.prog 6 dargs [] 0 (B true) [] 0 :=
  law_any (law03_WalkCloses_pure 1267650600228229401496703205376) (fun x hx => walkCloses_eq hx.1.2 hx.1.1 _ _) rfl dargs h
end Go.Proofs.Ytihgpillkgndbaa
