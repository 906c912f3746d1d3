/- PlanChecks. No condition of its own. -/
import Derived.Test.YtdmggkpefjpknaaPa
set_option linter.all false
namespace Go.Proofs.Ytdmggkpefjpknaa
open Go.Pv M

theorem awake_true : law01_awake 1000 = some true := by kernel_rfl
theorem copy_eq {m : T_Mine} (h1 : m.1.length ≤ 100000) (h2 : m.2.length ≤ 100000) : ref01_Copy 1000 m = some (m, ()) := by
  unfold ref01_Copy
  rw [fitsB_true (by omega), cond_true, fitsB_true (by omega), cond_true]
theorem spoilt_some {m : T_Mine} (hm : Mk m) (a b : Int) : ∃ x, law01_spoilt 1000 m a b = some x := by
  have h1 := hm.n1; have h2 := hm.n2; have h3 := hm.r2
  unfold law01_spoilt
  rw [copy_eq (by omega) (by omega), bind_some']
  simp only
  by_cases hr : (m.2.length : Int) = 0
  · rw [et hr, mod_eq _ _ _ (by omega), bind_some']
    have := modS_range (n := a) (m := m.1.length) (by omega)
    rw [it this]
    exact ⟨_, rfl⟩
  rw [ef hr, mod_eq _ _ _ (by omega), bind_some']
  by_cases h0 : modS a 9 = 0
  · rw [et h0, mod_eq _ _ _ (by omega), bind_some']
    have := modS_range (n := a) (m := m.1.length) (by omega)
    rw [it this]
    exact ⟨_, rfl⟩
  rw [ef h0, law01_spoilt_J1_eq, mod_eq _ _ _ (by omega), bind_some']
  have := modS_range (n := W (a.tdiv 9)) (m := m.2.length) (by omega)
  rw [it this, mod_eq _ _ _ (by omega), bind_some']
  simp only
  cases modS a 9 == 1 <;> cases modS a 9 == 2 <;> cases modS a 9 == 3 <;> cases modS a 9 == 4 <;> cases modS a 9 == 5 <;> cases modS a 9 == 6 <;> cases modS a 9 == 7 <;> cases modS a 9 == 8 <;> exact ⟨_, rfl⟩

theorem planChecks_eq {l : List Int} (h : ∀ a, a ∈ l → (Lit.int .u8 a).wf = true) (hl : l.length ≤ maxLen) (raw : T_Mine) (a b : Int) : law01_PlanChecks 1000 l raw a b = some true := by
  unfold law01_PlanChecks
  obtain ⟨d, e, hd⟩ := new_spec 1000 h hl
  rw [e, bind_some']
  obtain ⟨m, d1, e1, hm, hd1⟩ := mine_spec hd
  simp only
  rw [e1, bind_some']
  obtain ⟨x, ex⟩ := spoilt_some hm a b
  simp only
  rw [ex, bind_some', check_eq, bind_some', rcheck_eq, bind_some', et rfl, check_eq, bind_some', rcheck_eq, bind_some', et rfl, valid_eq, bind_some', bind_some', beq_self_eq_true, cond_true, valid_eq, bind_some', bind_some', beq_self_eq_true, cond_true, awake_true]
  rfl
theorem planChecks_any (dargs : List DV) (h : TyAs [(false, [.sl [.it .u8]]), (true, [.sl [.it .i64, .bo], .sl [.it .i64, .it .i64, .it .i64, .it .i64, .bo, .bo, .it .i64, .it .i64, .it .i64, .it .i64]]), (false, [.it .i64]), (false, [.it .i64])] dargs) : CallOK Try.prog 3 dargs [] 0 (B true) [] 0 :=
  law_any (law01_PlanChecks_pure 1000) (fun x hx => planChecks_eq hx.1.2 hx.1.1 _ _ _) rfl dargs h
end Go.Proofs.Ytdmggkpefjpknaa
