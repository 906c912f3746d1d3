/- PlanApplies. No condition of its own. -/
import Derived.Test.YtdmggkpefjpknaaPo
set_option linter.all false
namespace Go.Proofs.Ytdmggkpefjpknaa
open Go.Pv M

theorem appl_small (m : T_Mine) (e : T_Edit) : (appl m e).1.1.length ≤ 64 ∧ (appl m e).1.2.length ≤ 128 := by
  have no0 : ∀ k, (no k).1.1.length ≤ 64 ∧ (no k).1.2.length ≤ 128 := fun k => ⟨Nat.zero_le _, Nat.zero_le _⟩
  have f0 : ∀ x, (fin0 x).1.1.length ≤ 64 ∧ (fin0 x).1.2.length ≤ 128 := fun x => by
    unfold fin0
    by_cases h : chk x = 0
    · rw [if_pos h]
      have v := (chk_zero x).1 h
      exact ⟨v.n, v.k⟩
    · rw [if_neg h]; exact no0 _
  unfold appl
  split
  · exact no0 _
  split
  · exact f0 _
  split
  · exact f0 _
  split
  · split
    · exact no0 _
    · split
      · exact no0 _
      · exact f0 _
  · exact no0 _

theorem all_eq (l : List T_Edit) (hl : l.length ≤ 900) : ∀ (j f k : Nat) (m : T_Mine), j + k = l.length → j < f → m.1.length ≤ 900 → m.2.length ≤ 900 → ∃ r : T_Mine × Int × Int, plan_All_L1 1000 f l l (l.length : Int) k m.1 m.2 = some r ∧ ref01_All_L1 1000 f l k m.1 m.2 = some r ∧ r.1.1.length ≤ 900 ∧ r.1.2.length ≤ 900
  | 0, f + 1, k, m, hk, hf, h1, h2 => by
    rw [plan_All_L1_succ, ref01_All_L1_succ, df (by omega), df (by omega)]
    exact ⟨_, rfl, rfl, h1, h2⟩
  | j + 1, f + 1, k, m, hk, hf, h1, h2 => by
    rw [plan_All_L1_succ, ref01_All_L1_succ, dt (by omega), dt (by omega), it (by omega), it (by omega), apply_eq, rapply_eq, bind_some', bind_some']
    have hs := appl_small (m.1, m.2) (l.getD (k : Int).toNat D_Edit)
    generalize appl (m.1, m.2) (l.getD (k : Int).toNat D_Edit) = a at hs ⊢
    by_cases h : a.2 = 0
    · rw [nf h, nf h, W_succ (by omega)]
      exact all_eq l hl j f (k + 1) a.1 (by omega) (by omega) (by omega) (by omega)
    · rw [nt h, nt h]
      exact ⟨_, rfl, rfl, h1, h2⟩

theorem edits_loop {m : T_Mine} (hm : Mk m) : ∀ (f j : Nat) (d : T_Codes) (l : List T_Edit), Cd d → j < f → j + l.length ≤ 20 → ∃ l' d', draw_Codes_Edits_L1 1000 f (j : Int) d.1 d.2 l m.1 m.2 = some (l', d') ∧ l'.length ≤ 20 ∧ Cd d'
  | f + 1, 0, d, l, hd, hf, hl => by
    rw [draw_Codes_Edits_L1_succ, df (by omega)]
    exact ⟨l, d, rfl, by omega, hd⟩
  | f + 1, j + 1, d, l, hd, hf, hl => by
    obtain ⟨e, d', h1, hd'⟩ := edit_some hm hd
    rw [draw_Codes_Edits_L1_succ, dt (by omega), show ((d.1, d.2) : T_Codes) = d from rfl, show ((m.1, m.2) : T_Mine) = m from rfl, h1, bind_some', fitsB_true (by omega), cond_true]
    have : W (((j + 1 : Nat) : Int) - 1) = (j : Int) := by rw [W_eq (by omega) (by omega)]; omega
    rw [this]
    exact edits_loop hm f j d' _ hd' (by omega) (by simp; omega)

theorem planApplies_loop {m : T_Mine} (h1 : m.1.length ≤ 900) (h2 : m.2.length ≤ 900) (l : List T_Edit) (hl : l.length ≤ 900) : ∀ (j f k : Nat), j + k = l.length → j < f → law01_PlanApplies_L1 1000 f k m.1 m.2 l = some true
  | 0, f + 1, k, hk, hf => by
    obtain ⟨r, e1, e2, g1, g2⟩ := all_eq l hl l.length 1000 0 m rfl (by omega) h1 h2
    rw [law01_PlanApplies_L1_succ, df (by omega)]
    have ea : plan_All 1000 (m.1, m.2) l = some r := by
      unfold plan_All
      rw [clone_eq (by show m.1.length ≤ _; omega) (by show m.2.length ≤ _; omega), bind_some']
      exact e1
    have eb : ref01_All 1000 (m.1, m.2) l = some r := e2
    rw [ea, bind_some', eb, bind_some', et rfl, et rfl, same_refl g1 g2, bind_some', cond_true, awake_true]
    rfl
  | j + 1, f + 1, k, hk, hf => by
    rw [law01_PlanApplies_L1_succ, dt (by omega), it (by omega), apply_eq, bind_some', it (by omega), rapply_eq, bind_some', nf rfl]
    have hs := appl_small (m.1, m.2) (l.getD (k : Int).toNat D_Edit)
    rw [same_refl (by omega) (by omega), bind_some', W_succ (by omega)]
    exact planApplies_loop h1 h2 l hl j f (k + 1) (by omega) (by omega)

theorem planApplies_eq {l : List Int} (h : ∀ a, a ∈ l → (Lit.int .u8 a).wf = true) (hl : l.length ≤ maxLen) (e : T_Edit) : law01_PlanApplies 1000 l e = some true := by
  unfold law01_PlanApplies
  obtain ⟨d, e0, hd⟩ := new_spec 1000 h hl
  rw [e0, bind_some']
  obtain ⟨m, d1, e1, hm, hd1⟩ := mine_spec hd
  simp only
  rw [e1, bind_some']
  have hes : ∃ l' d', draw_Codes_Edits 1000 d1 8 = some (l', d') ∧ l'.length ≤ 20 ∧ Cd d' := by
    unfold draw_Codes_Edits
    obtain ⟨m2, d2, e2, hm2, hd2⟩ := mine_spec hd1
    rw [e2, bind_some']
    obtain ⟨v, d3, e3, a3, b3, hd3⟩ := next_spec (N := 1000) (by omega) hd2 (n := W (8 + 1)) (by decide)
    simp only
    rw [e3, bind_some']
    have : W (8 + 1) = 9 := by decide
    rw [this] at b3
    obtain ⟨j, rfl⟩ := Int.eq_ofNat_of_zero_le a3
    exact edits_loop hm2 1000 j d3 [] hd3 (by omega) (by simp; omega)
  obtain ⟨l', d2, e2, hl2, hd2⟩ := hes
  simp only
  rw [e2, bind_some']
  obtain ⟨e3, d3, e4, hd3⟩ := edit_some hm hd2
  simp only
  rw [e4, bind_some', fitsB_true (by omega), cond_true]
  have n2 := hm.n2
  have r2 := hm.r2
  exact planApplies_loop (by omega) (by omega) _ (by simp; omega) _ 1000 0 rfl (by simp; omega)
theorem planApplies_any (dargs : List DV) (h : TyAs [(false, [.sl [.it .u8]]), (true, [.it .i64, .it .i64, .bo, .it .i64, .it .i64, .it .i64, .it .i64, .bo, .bo, .it .i64, .it .i64, .it .i64, .it .i64, .it .i64, .it .i64, .it .i64])] dargs) : CallOK Try.prog 5 dargs [] 0 (B true) [] 0 :=
  law_any (law01_PlanApplies_pure 1000) (fun x hx => planApplies_eq hx.1.2 hx.1.1 _) rfl dargs h
end Go.Proofs.Ytdmggkpefjpknaa
