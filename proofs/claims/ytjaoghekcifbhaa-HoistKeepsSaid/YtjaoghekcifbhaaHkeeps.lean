/- HoistKeeps answers true for every input. No condition of its own. -/
import Derived.Test.YtjaoghekcifbhaaHb
set_option linter.all false
namespace Go.Proofs.Ytjaoghekcifbhaa
open Go.Pv M

/-- What the driver keeps: half of the room per ten seconds, and never more than what brakes within the room. -/
def Kp (at_ sp : Int) : Prop := 0 ≤ at_ ∧ at_ ≤ 500000 ∧ 0 ≤ sp ∧ sp ≤ 7500 ∧ 18 * sp ≤ 500000 - at_ ∧ (sp = 0 ∨ 40000 + 3 * sp ≤ 500000 - at_)
def want (at_ : Int) : Int := if 500000 - at_ > 60000 then min 7500 ((500000 - at_) / 20) else 0

theorem keep_step {at_ sp : Int} (h : Kp at_ sp) : ∃ at' sp', hoist_Tick 1000 (500000, (15000, (1000, (300, 10)))) (at_, (sp, false)) (want at_ - sp) = some ((at', (sp', false)), 0) ∧ Kp at' sp' := by
  obtain ⟨h1, h2, h3, h4, h5, h6⟩ := h
  have hv : vH 500000 15000 1000 300 10 := by decide
  have hr : vR 500000 at_ sp := ⟨by omega, by omega⟩
  have ht : trp 500000 15000 1000 300 10 at_ sp false = false := by
    unfold trp
    rw [decide_eq_true h1, decide_eq_true h2]
    have hl := limitV_bd (tp := 15000) (dc := 1000) (cr := 300) (rm := rmV 500000 at_ sp) (by omega) (by omega)
    have hlim : sp ≤ limitV 15000 1000 300 (rmV 500000 at_ sp) := by
      by_cases hs : sp = 0
      · omega
      · have e : rmV 500000 at_ sp = 500000 - at_ := by rw [rm_pos (by omega)]; omega
        rw [e]
        unfold limitV
        rw [decide_eq_false (by omega), cond_false, show (15000 : Int).toNat = 15000 from rfl]
        have := limX_max (m := 2 * 1000 * min (500000 - at_) (15000 * 15000)) 15000 7500 (by omega) (by omega)
        omega
    rw [decide_eq_false (by omega)]; rfl
  rw [tick_spec hv hr, ht]
  refine ⟨_, _, rfl, ?_⟩
  have es : newS 15000 1000 sp (want at_ - sp) false = max (-15000) (min (sp + max (-1000) (min (want at_ - sp) 1000)) 15000) := rfl
  generalize newS 15000 1000 sp (want at_ - sp) false = s at es
  have ea : newA 500000 at_ sp s = max (-1000) (min (at_ + (sp + s).tdiv 2) (500000 + 1000)) := rfl
  generalize newA 500000 at_ sp s = a at ea
  by_cases hw : 500000 - at_ > 60000
  · have e : want at_ = min 7500 ((500000 - at_) / 20) := if_pos hw
    rw [e] at es
    have hs0 : 0 ≤ s := by omega
    rw [Int.tdiv_eq_ediv_of_nonneg (by omega)] at ea
    exact ⟨by omega, by omega, hs0, by omega, by omega, by omega⟩
  · have e : want at_ = 0 := if_neg hw
    rw [e] at es
    have hs0 : 0 ≤ s := by omega
    rw [Int.tdiv_eq_ediv_of_nonneg (by omega)] at ea
    exact ⟨by omega, by omega, hs0, by omega, by omega, by omega⟩

theorem keeps_loop : ∀ (m n k : Nat) (at_ sp : Int), Kp at_ sp → m + k = 120 → m < n → law37_HoistKeeps_L1 1000 n k 500000 15000 1000 300 10 at_ sp false = some true
  | 0, n + 1, k, at_, sp, h, hk, hn => by
    rw [law37_HoistKeeps_L1_succ]
    have : ¬ ((k : Int) < 120) := by omega
    simp only [this, decide_false, cond_false]
    rw [awake_eq]; rfl
  | m + 1, n + 1, k, at_, sp, h, hk, hn => by
    obtain ⟨a, s, e, hq⟩ := keep_step h
    obtain ⟨h1, h2, h3, h4, h5, h6⟩ := h
    obtain ⟨q1, q2, q3, q4, q5, q6⟩ := id hq
    rw [law37_HoistKeeps_L1_succ]
    have : ((k : Int) < 120) := by omega
    simp only [this, decide_true, cond_true]
    rw [W_eq (n := 500000 - at_) (by omega) (by omega), W_eq (n := (k : Int) + 1) (by omega) (by omega), show (k : Int) + 1 = ((k + 1 : Nat) : Int) by omega]
    have c1 : decide (a < 0) = false := decide_eq_false (by omega)
    have c2 : decide (a > 500000) = false := decide_eq_false (by omega)
    have c3 : decide (s > 15000) = false := decide_eq_false (by omega)
    have next := keeps_loop m n (k + 1) a s hq (by omega) (by omega)
    by_cases hw : 500000 - at_ > 60000
    · have ew : W ((min (W ((15000 : Int).tdiv 2)) (W ((500000 - at_).tdiv 20))) - sp) = want at_ - sp := by
        rw [show want at_ = min 7500 ((500000 - at_) / 20) from if_pos hw, show W ((15000 : Int).tdiv 2) = 7500 by decide, Int.tdiv_eq_ediv_of_nonneg (by omega), W_eq (n := (500000 - at_) / 20) (by omega) (by omega), W_eq (by omega) (by omega)]
      simp only [hw, decide_true, cond_true]
      rw [ew, e, bind_some']
      simp only [c1, c2, c3, cond_false, bne_self_eq_false]
      exact next
    · have ew : W (0 - sp) = want at_ - sp := by
        rw [show want at_ = 0 from if_neg hw, W_eq (by omega) (by omega)]
      simp only [hw, decide_false, cond_false]
      rw [ew, e, bind_some']
      simp only [c1, c2, c3, cond_false, bne_self_eq_false]
      exact next

theorem keeps_true (t : List Int) : law37_HoistKeeps 1000 t = some true := by
  unfold law37_HoistKeeps
  rw [light_eq, bind_some']
  by_cases h : (t.length : Int) ≤ 400
  · simp only [h, decide_true, Bool.not_true, cond_false]
    rw [roll_spec, bind_some', show law37_shaft 1000 = some (500000, (15000, (1000, (300, 10)))) from rfl, bind_some']
    simp only
    obtain ⟨a, d1, e1, a1, a2, hd1⟩ := next_spec 1000 (rollD_ok (l := t) (by omega)) (n := 500001) (by omega) (by omega)
    rw [show W (500000 + 1) = 500001 by decide, e1, bind_some']
    exact keeps_loop 120 1000 0 a 0 ⟨by omega, by omega, by omega, by omega, by omega, .inl rfl⟩ rfl (by omega)
  · simp only [h, decide_false, Bool.not_false, cond_true]
    rw [awake_eq]; rfl

theorem hoistKeeps_any (dargs : List DV) (h : TyAs [(false, [.sl [.it .i64]])] dargs) : CallOK Try.prog 4 dargs [] 0 (B true) [] 0 :=
  law_any (law37_HoistKeeps_pure 1000) (fun x _ => keeps_true _) rfl dargs h
end Go.Proofs.Ytjaoghekcifbhaa
