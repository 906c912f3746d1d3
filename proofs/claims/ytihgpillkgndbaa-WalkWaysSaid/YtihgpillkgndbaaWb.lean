/- WalkTimes. No condition of its own. -/
import Derived.Test.YtihgpillkgndbaaWt
set_option linter.all false
namespace Go.Proofs.Ytihgpillkgndbaa
open Go.Pv M

theorem awake_true : law03_awake 1267650600228229401496703205376 = some true := by kernel_rfl
theorem bne_rfl (x : Int) : (x != x) = false := by simp
theorem times_loop {m : T_Mine} (h : Vm m) (b : Bool) (l : List Int) (hl : l.length ≤ 100) : ∀ (j f k : Nat), j + k = l.length → j < f → law03_WalkTimes_L1 1267650600228229401496703205376 f b l l.length k m.1 m.2 = some true
  | j, 0, k, _, hf => absurd hf (Nat.not_lt_zero _)
  | j, f + 1, k, hjk, hf => by
    rw [law03_WalkTimes_L1_succ]
    by_cases c : (k : Int) < l.length
    · rw [dt c, it (by omega), time_eq (m := (m.1, m.2)) h, bind_some', rtime_eq (m := (m.1, m.2)) h, bind_some', bne_rfl, cond_false, slow_eq (m := (m.1, m.2)) h, bind_some', rslow_eq (m := (m.1, m.2)) h, bind_some', bne_rfl, cond_false, W_succ (by omega)]
      obtain ⟨j', rfl⟩ : ∃ j', j = j' + 1 := ⟨j - 1, by omega⟩
      exact times_loop h b l hl j' f (k + 1) (by omega) (by omega)
    · rw [df c, awake_true]; rfl
theorem walkTimes_eq {l : List Int} (h : ∀ a, a ∈ l → (Lit.int .u8 a).wf = true) (hl : l.length ≤ maxLen) (a : Int) (b : Bool) : law03_WalkTimes 1267650600228229401496703205376 l a b = some true := by
  unfold law03_WalkTimes
  obtain ⟨d, e, hd⟩ := new_spec 1267650600228229401496703205376 h hl
  rw [e, bind_some']
  obtain ⟨m, d1, e1, hm, hd1⟩ := mine_spec hd
  simp only
  rw [e1, bind_some']
  have h3 := hm.r2
  simp only
  rw [W_eq (n := (m.2.length : Int) + 1) (by omega) (by omega), mod_eq _ _ _ (by omega), bind_some']
  exact times_loop hm.vm b [a, modS a ((m.2.length : Int) + 1)] (by simp) 2 1267650600228229401496703205376 0 (by simp) (by omega)
theorem walkTimes_any (dargs : List DV) (h : TyAs [(false, [.sl [.it .u8]]), (false, [.it .i64]), (false, [.bo])] dargs) : CallOK Try.prog 3 dargs [] 0 (B true) [] 0 :=
  law_any (law03_WalkTimes_pure 1267650600228229401496703205376) (fun x hx => walkTimes_eq hx.1.2 hx.1.1 _ _) rfl dargs h
end Go.Proofs.Ytihgpillkgndbaa
