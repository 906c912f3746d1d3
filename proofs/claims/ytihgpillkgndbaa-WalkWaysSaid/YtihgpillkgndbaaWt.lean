/- Walk: the times of a road, by the program and by the reference. No condition of its own. -/
import Derived.Test.YtihgpillkgndbaaWa
set_option linter.all false
namespace Go.Proofs.Ytihgpillkgndbaa
open Go.Pv M

/-- The height of a place. -/
def hgt (ps : List T_Place) (i : Int) : Int := (ps.getD i.toNat D_Place).1
/-- Where a road begins and ends in a direction. -/
def enA (r : T_Road) (b : Bool) : Int := if b = true then r.2.1 else r.1
def enB (r : T_Road) (b : Bool) : Int := if b = true then r.1 else r.2.1
def rse (ps : List T_Place) (r : T_Road) (b : Bool) : Int := hgt ps (enB r b) - hgt ps (enA r b)
def spd (p : T_pace) (L z : Int) : Int := if 10 * z > L then p.1 else if -10 * z > L then p.2.1 else p.2.2
/-- The time of a road at a pace. -/
def tw (p : T_pace) (ps : List T_Place) (r : T_Road) (b : Bool) : Int :=
  if r.2.2.2.2.2.1 = true then -1 else if r.2.2.2.2.1 = false then -1 else (10 * r.2.2.1 + spd p r.2.2.1 (rse ps r b) - 1) / spd p r.2.2.1 (rse ps r b)
def Pc (p : T_pace) : Prop := (1 ≤ p.1 ∧ p.1 ≤ 12) ∧ (1 ≤ p.2.1 ∧ p.2.1 ≤ 12) ∧ (1 ≤ p.2.2 ∧ p.2.2 ≤ 12)
theorem spd_pos {p : T_pace} (h : Pc p) (L z : Int) : 1 ≤ spd p L z ∧ spd p L z ≤ 12 := by
  obtain ⟨h1, h2, h3⟩ := h
  unfold spd
  split
  · exact h1
  · split
    · exact h2
    · exact h3
theorem div_val {L s : Int} (h1 : 1 ≤ s ∧ s ≤ 12) (h2 : 1 ≤ L ∧ L ≤ 100000) : (W ((W ((W ((W (10 * L)) + s)) - 1)).tdiv s)) = (10 * L + s - 1) / s := by
  rw [W_eq (n := 10 * L) (by omega) (by omega), W_eq (n := 10 * L + s) (by omega) (by omega), W_eq (n := 10 * L + s - 1) (by omega) (by omega), Int.tdiv_eq_ediv_of_nonneg (by omega)]
  have a1 : 0 ≤ (10 * L + s - 1) / s := Int.ediv_nonneg (by omega) (by omega)
  have a2 : (10 * L + s - 1) / s ≤ 10 * L + s - 1 := Int.ediv_le_self _ (by omega)
  exact W_eq (by omega) (by omega)
theorem tw_rng {p : T_pace} (hp : Pc p) {ps : List T_Place} {r : T_Road} (hr : ¬ rngE r) (b : Bool) : tw p ps r b = -1 ∨ (1 ≤ tw p ps r b ∧ tw p ps r b ≤ 1000011) := by
  unfold tw
  split
  · exact .inl rfl
  · split
    · exact .inl rfl
    · right
      have hs := spd_pos hp r.2.2.1 (rse ps r b)
      generalize spd p r.2.2.1 (rse ps r b) = s at hs
      unfold rngE at hr
      have a1 : 1 ≤ (10 * r.2.2.1 + s - 1) / s := by rw [Int.le_ediv_iff_mul_le (by omega)]; omega
      have a2 : (10 * r.2.2.1 + s - 1) / s ≤ 10 * r.2.2.1 + s - 1 := Int.ediv_le_self _ (by omega)
      omega

structure Rv (m : T_Mine) (r : T_Road) : Prop where
  a : 0 ≤ r.1 ∧ r.1 < m.1.length
  b : 0 ≤ r.2.1 ∧ r.2.1 < m.1.length
  ne : r.1 ≠ r.2.1
  g : ¬ rngE r
theorem Vm.rv {m : T_Mine} (h : Vm m) {r : T_Road} (hr : r ∈ m.2) : Rv m r := by
  obtain ⟨h1, h2⟩ := h.r r hr
  unfold endE at h1
  exact ⟨by omega, by omega, by omega, h2⟩
theorem Vm.hg {m : T_Mine} (h : Vm m) {i : Int} (hi : 0 ≤ i ∧ i < m.1.length) : -10000 ≤ hgt m.1 i ∧ hgt m.1 i ≤ 10000 := by
  have := h.p _ (getD_mem (l := m.1) D_Place (k := i.toNat) (by omega))
  unfold badP at this
  unfold hgt
  omega

theorem with_eq {N : Nat} {m : T_Mine} (h : Vm m) {k : Nat} (hk : k < m.2.length) (b : Bool) {p : T_pace} (hp : Pc p) : walk_with N m k b p = some (tw p m.1 (m.2.getD k D_Road) b) := by
  have hv := h.rv (getD_mem D_Road hk)
  unfold walk_with
  rw [it (by omega), Int.toNat_natCast]
  generalize m.2.getD k D_Road = r at hv
  have g1 := h.hg hv.a
  have g2 := h.hg hv.b
  have hg := hv.g
  have hL : 1 ≤ r.2.2.1 ∧ r.2.2.1 ≤ 100000 := by unfold rngE at hg; omega
  simp only []
  by_cases c1 : r.2.2.2.2.2.1 = true
  · rw [c1, cond_true]; unfold tw; rw [if_pos c1]
  · rw [Bool.eq_false_iff.2 c1, cond_false]
    by_cases c2 : r.2.2.2.2.1 = false
    · rw [c2]; unfold tw; rw [if_neg c1, if_pos c2]; rfl
    · have c3 : r.2.2.2.2.1 = true := by simpa using c2
      rw [c3, Bool.not_true, cond_false, it hv.b, it hv.a]
      have e1 : (m.1.getD r.2.1.toNat D_Place).1 = hgt m.1 r.2.1 := rfl
      have e2 : (m.1.getD r.1.toNat D_Place).1 = hgt m.1 r.1 := rfl
      rw [e1, e2]
      unfold tw
      rw [if_neg c1, if_neg c2]
      generalize hA : hgt m.1 r.1 = A at *
      generalize hB : hgt m.1 r.2.1 = B at *
      obtain ⟨p1, p2, p3⟩ := hp
      cases b with
      | false =>
        have er : rse m.1 r false = B - A := by unfold rse enA enB; rw [if_neg (by simp), if_neg (by simp), hA, hB]
        rw [er, cond_false, W_eq (n := B - A) (by omega) (by omega), W_eq (n := 10 * (B - A)) (by omega) (by omega), W_eq (n := -10 * (B - A)) (by omega) (by omega)]
        unfold spd
        by_cases d1 : 10 * (B - A) > r.2.2.1
        · rw [dt d1, if_pos d1, ef (by omega), div_val p1 hL]
        · rw [df d1, if_neg d1]
          by_cases d2 : -10 * (B - A) > r.2.2.1
          · rw [dt d2, if_pos d2, ef (by omega), div_val p2 hL]
          · rw [df d2, if_neg d2, ef (by omega), div_val p3 hL]
      | true =>
        have er : rse m.1 r true = A - B := by unfold rse enA enB; rw [if_pos rfl, if_pos rfl, hA, hB]
        have ez : 0 - (B - A) = A - B := by omega
        rw [er, cond_true, W_eq (n := B - A) (by omega) (by omega), ez, W_eq (n := A - B) (by omega) (by omega)]
        rw [W_eq (n := 10 * (A - B)) (by omega) (by omega), W_eq (n := -10 * (A - B)) (by omega) (by omega)]
        unfold spd
        by_cases d1 : 10 * (A - B) > r.2.2.1
        · rw [dt d1, if_pos d1, ef (by omega), div_val p1 hL]
        · rw [df d1, if_neg d1]
          by_cases d2 : -10 * (A - B) > r.2.2.1
          · rw [dt d2, if_pos d2, ef (by omega), div_val p2 hL]
          · rw [df d2, if_neg d2, ef (by omega), div_val p3 hL]

def pq : T_pace := (6, 9, 12)
def pw : T_pace := (2, 3, 4)
theorem pq_ok : Pc pq := by unfold Pc pq; simp
theorem pw_ok : Pc pw := by unfold Pc pw; simp
theorem step_eq {N : Nat} {m : T_Mine} (h : Vm m) {k : Nat} (hk : k < m.2.length) (b : Bool) : walk_step N m k b = some (tw pq m.1 (m.2.getD k D_Road) b) := by
  unfold walk_step walk_quick
  rw [bind_some', show ((6, 9, 12) : T_pace) = pq from rfl, with_eq h hk b pq_ok]; rfl
/-- The time of a road by its number. -/
def tk (p : T_pace) (m : T_Mine) (k : Int) (b : Bool) : Int := if 0 ≤ k ∧ k < m.2.length then tw p m.1 (m.2.getD k.toNat D_Road) b else -1
theorem time_eq {m : T_Mine} (h : Vm m) (k : Int) (b : Bool) : walk_Time 1267650600228229401496703205376 m k b = some (tk pq m k b) := by
  unfold walk_Time tk
  rw [valid_eq, bind_some', (chk_zero m).2 h]
  simp only [show ((0 : Int) == 0) = true from rfl, Bool.not_true, cond_false]
  by_cases h1 : k < 0
  · rw [dt h1, if_neg (by omega)]
  · rw [df h1]
    by_cases h2 : k ≥ (m.2.length : Int)
    · rw [dt h2, if_neg (by omega)]
    · rw [df h2, if_pos (by omega)]
      obtain ⟨n, rfl⟩ := Int.eq_ofNat_of_zero_le (show 0 ≤ k by omega)
      rw [step_eq h (by omega), Int.toNat_natCast]; rfl
theorem slow_eq {m : T_Mine} (h : Vm m) (k : Int) (b : Bool) : walk_Slow 1267650600228229401496703205376 m k b = some (tk pw m k b) := by
  unfold walk_Slow tk walk_slow
  rw [valid_eq, bind_some', (chk_zero m).2 h]
  simp only [show ((0 : Int) == 0) = true from rfl, Bool.not_true, cond_false]
  by_cases h1 : k < 0
  · rw [dt h1, if_neg (by omega)]
  · rw [df h1]
    by_cases h2 : k ≥ (m.2.length : Int)
    · rw [dt h2, if_neg (by omega)]
    · rw [df h2, if_pos (by omega)]
      obtain ⟨n, rfl⟩ := Int.eq_ofNat_of_zero_le (show 0 ≤ k by omega)
      rw [bind_some', show ((2, 3, 4) : T_pace) = pw from rfl, with_eq h (by omega) b pw_ok, Int.toNat_natCast]; rfl

theorem ends_eq (N : Nat) (r : T_Road) (b : Bool) : ref03_ends N r b = some (enA r b, enB r b) := by cases b <;> rfl
theorem walked_eq {m : T_Mine} (h : Vm m) (k : Int) (b : Bool) {p : T_pace} (hp : Pc p) : ref03_walked 1267650600228229401496703205376 m k b p.1 p.2.1 p.2.2 = some (tk p m k b) := by
  unfold ref03_walked tk
  rw [rcheck_eq, bind_some', (chk_zero m).2 h]
  simp only [show ((0 : Int) != 0) = false from rfl, cond_false]
  by_cases h1 : k < 0
  · rw [dt h1, if_neg (by omega)]
  · rw [df h1]
    by_cases h2 : k ≥ (m.2.length : Int)
    · rw [dt h2, if_neg (by omega)]
    · rw [df h2, if_pos (by omega)]
      obtain ⟨n, rfl⟩ := Int.eq_ofNat_of_zero_le (show 0 ≤ k by omega)
      have hn : n < m.2.length := by omega
      have hv := h.rv (getD_mem D_Road hn)
      rw [it (by omega), it (by omega), Int.toNat_natCast, ref03_walked_J1_eq 1267650600228229401496703205375, it (by omega), Int.toNat_natCast, ends_eq, bind_some']
      generalize m.2.getD n D_Road = r at hv
      simp only []
      have ha : 0 ≤ enA r b ∧ enA r b < m.1.length := by unfold enA; split; exact hv.b; exact hv.a
      have hb : 0 ≤ enB r b ∧ enB r b < m.1.length := by unfold enB; split; exact hv.a; exact hv.b
      have g1 := h.hg ha
      have g2 := h.hg hb
      have hg := hv.g
      have hL : 1 ≤ r.2.2.1 ∧ r.2.2.1 ≤ 100000 := by unfold rngE at hg; omega
      unfold tw
      by_cases c1 : r.2.2.2.2.2.1 = true
      · rw [c1, cond_true, if_pos rfl]
      · rw [Bool.eq_false_iff.2 c1, cond_false, if_neg (by simp)]
        by_cases c2 : r.2.2.2.2.1 = false
        · rw [c2, if_pos rfl]; rfl
        · have c3 : r.2.2.2.2.1 = true := by simpa using c2
          rw [c3, Bool.not_true, cond_false, if_neg (by simp), it hb, it ha]
          have e1 : (m.1.getD (enB r b).toNat D_Place).1 = hgt m.1 (enB r b) := rfl
          have e2 : (m.1.getD (enA r b).toNat D_Place).1 = hgt m.1 (enA r b) := rfl
          rw [e1, e2]
          have er : rse m.1 r b = hgt m.1 (enB r b) - hgt m.1 (enA r b) := rfl
          rw [← er]
          generalize rse m.1 r b = z at er
          rw [W_eq (n := z) (by omega) (by omega), W_eq (n := 10 * z) (by omega) (by omega), W_eq (n := -10 * z) (by omega) (by omega)]
          obtain ⟨p1, p2, p3⟩ := hp
          unfold spd
          by_cases d1 : 10 * z > r.2.2.1
          · rw [dt d1, if_pos d1, df (by omega), ef (by omega), div_val p1 hL]
          · rw [df d1, if_neg d1]
            by_cases d2 : -10 * z > r.2.2.1
            · rw [dt d2, if_pos d2, ef (by omega), div_val p2 hL]
            · rw [df d2, if_neg d2, ef (by omega), div_val p3 hL]
theorem rtime_eq {m : T_Mine} (h : Vm m) (k : Int) (b : Bool) : ref03_Time 1267650600228229401496703205376 m k b = some (tk pq m k b) := by
  unfold ref03_Time; rw [show ref03_walked 1267650600228229401496703205376 m k b 6 9 12 = _ from walked_eq (p := pq) h k b pq_ok]; rfl
theorem rslow_eq {m : T_Mine} (h : Vm m) (k : Int) (b : Bool) : ref03_Slow 1267650600228229401496703205376 m k b = some (tk pw m k b) := by
  unfold ref03_Slow; rw [show ref03_walked 1267650600228229401496703205376 m k b 2 3 4 = _ from walked_eq (p := pw) h k b pw_ok]; rfl
end Go.Proofs.Ytihgpillkgndbaa
