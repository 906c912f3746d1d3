/- The parts of a mine: what plan.part computes (a walk in depth over open roads). No condition of its own. -/
import Derived.Test.YtdmggkpefjpknaaPa
set_option linter.all false
namespace Go.Proofs.Ytdmggkpefjpknaa
open Go.Pv M

/-! ### Open roads, and what they connect -/
def open_ (r : T_Road) : Prop := r.2.2.2.2.2.1 = false
def Adj (m : T_Mine) (i j : Nat) : Prop := ∃ r, r ∈ m.2 ∧ open_ r ∧ (r.1 = i ∧ r.2.1 = j ∨ r.2.1 = i ∧ r.1 = j)
theorem Adj.symm {m : T_Mine} {i j : Nat} (h : Adj m i j) : Adj m j i := by
  obtain ⟨r, h1, h2, h3⟩ := h
  exact ⟨r, h1, h2, h3.symm.imp (fun h => ⟨h.2, h.1⟩) (fun h => ⟨h.2, h.1⟩) |>.symm |>.symm⟩
inductive Cn (m : T_Mine) : Nat → Nat → Prop
  | refl (i : Nat) : Cn m i i
  | step {i j k : Nat} (h : Cn m i j) (a : Adj m j k) : Cn m i k
theorem Cn.trans {m : T_Mine} {i j k : Nat} (h : Cn m i j) (g : Cn m j k) : Cn m i k := by
  induction g with
  | refl => exact h
  | step _ a ih => exact ih.step a
theorem Cn.symm {m : T_Mine} {i j : Nat} (h : Cn m i j) : Cn m j i := by
  induction h with
  | refl => exact .refl _
  | step _ a ih => exact ((Cn.refl _).step a.symm).trans ih
theorem Adj.lt {m : T_Mine} (hm : Vm m) {i j : Nat} (h : Adj m i j) : i < m.1.length ∧ j < m.1.length := by
  obtain ⟨r, h1, h2, h3⟩ := h
  have := (hm.r r h1).1
  unfold endE at this
  rcases h3 with ⟨a, b⟩ | ⟨a, b⟩ <;> omega
theorem Cn.lt {m : T_Mine} (hm : Vm m) {i j : Nat} (h : Cn m i j) (hi : i < m.1.length) : j < m.1.length := by
  induction h with
  | refl => exact hi
  | step _ a _ => exact (a.lt hm).2

/-! ### The neighbours -/
theorem addR_get {rows : List (List Int)} {p : Nat} {x : Int} (hp : p < rows.length) (q : Nat) : (addR rows p x).getD q [] = if q = p then rows.getD p [] ++ [x] else rows.getD q [] := by
  unfold addR
  rw [List.getD_eq_getElem?_getD, List.getElem?_set]
  by_cases e : q = p
  · subst e; rw [if_pos rfl, if_pos hp, if_pos rfl]; rfl
  · rw [if_neg (fun e' => e e'.symm), if_neg e, List.getD_eq_getElem?_getD]
theorem addM_eq {i x : Int} {l : List (List Int)} (h1 : 0 ≤ i ∧ i < l.length) (h2 : (l.getD i.toNat []).length ≤ 100000) : addM i x l = some (addR l i.toNat x) := by
  unfold addM
  rw [inB_true h1, cond_true, fitsB_true (by omega), cond_true]
def Near (n : Nat) (rs : List T_Road) (rows out : List (List Int)) (B : Nat) : Prop := out.length = rows.length ∧ (∀ p, (out.getD p []).length ≤ B) ∧
  ∀ p, p < n → ∀ x, x ∈ out.getD p [] ↔ x ∈ rows.getD p [] ∨ ∃ r, r ∈ rs ∧ open_ r ∧ (r.1 = p ∧ x = r.2.1 ∨ r.2.1 = p ∧ x = r.1)
theorem near_ok {n : Nat} : ∀ (rs : List T_Road) (rows : List (List Int)) (B : Nat), rows.length = n → (∀ p, (rows.getD p []).length ≤ B) → B + 2 * rs.length ≤ 100000 → (∀ r, r ∈ rs → ¬ endE n r) →
    ∃ out, nearR rs rows = some out ∧ Near n rs rows out (B + 2 * rs.length)
  | [], rows, B, hl, hB, hb, hr => ⟨rows, rfl, rfl, fun p => hB p, fun p _ x => by simp⟩
  | r :: rs, rows, B, hl, hB, hb, hr => by
    simp only [List.length_cons] at hb
    simp only [nearR]
    by_cases ho : r.2.2.2.2.2.1 = true
    · rw [ho, cond_true]
      obtain ⟨out, e, h1, h2, h3⟩ := near_ok rs rows B hl hB (by omega) fun x hx => hr x (List.mem_cons_of_mem _ hx)
      refine ⟨out, e, h1, fun p => Nat.le_trans (h2 p) (by simp only [List.length_cons]; omega), fun p hp x => ?_⟩
      rw [h3 p hp x]
      refine or_congr_right ⟨fun ⟨s, a, b⟩ => ⟨s, List.mem_cons_of_mem _ a, b⟩, fun ⟨s, a, b, c⟩ => ?_⟩
      rcases List.mem_cons.1 a with rfl | a
      · unfold open_ at b; rw [ho] at b; cases b
      · exact ⟨s, a, b, c⟩
    · have ho : r.2.2.2.2.2.1 = false := by simpa using ho
      have he := hr r (by simp)
      unfold endE at he
      rw [ho, cond_false]
      have e1 := addM_eq (i := r.1) (x := r.2.1) (l := rows) (by omega) (by have := hB r.1.toNat; omega)
      rw [e1, bind_some']
      have hp1 : r.1.toNat < rows.length := by omega
      have hB1 : ∀ p, ((addR rows r.1.toNat r.2.1).getD p []).length ≤ B + 1 := fun p => by
        rw [addR_get hp1]
        split
        · have := hB r.1.toNat; simp; exact this
        · have := hB p; omega
      have e2 := addM_eq (i := r.2.1) (x := r.1) (l := addR rows r.1.toNat r.2.1) (by rw [addR_len]; omega) (by have := hB1 r.2.1.toNat; omega)
      rw [e2, bind_some']
      have hp2 : r.2.1.toNat < (addR rows r.1.toNat r.2.1).length := by rw [addR_len]; omega
      have hB2 : ∀ p, ((addR (addR rows r.1.toNat r.2.1) r.2.1.toNat r.1).getD p []).length ≤ B + 2 := fun p => by
        rw [addR_get hp2]
        split
        · have := hB1 r.2.1.toNat; simp only [List.length_append, List.length_singleton]; omega
        · have := hB1 p; omega
      obtain ⟨out, e, h1, h2, h3⟩ := near_ok rs _ (B + 2) (by rw [addR_len, addR_len]; exact hl) hB2 (by omega) fun x hx => hr x (List.mem_cons_of_mem _ hx)
      refine ⟨out, e, by rw [h1, addR_len, addR_len], fun p => Nat.le_trans (h2 p) (by simp only [List.length_cons]; omega), fun p hp x => ?_⟩
      rw [h3 p hp x, addR_get hp2, addR_get hp1, addR_get hp1]
      have hne : r.1.toNat ≠ r.2.1.toNat := by omega
      constructor
      · rintro (h | ⟨s, a, b, c⟩)
        · split at h
          · rename_i e
            rw [if_neg (fun e' => hne e'.symm)] at h
            rcases List.mem_append.1 h with h | h
            · subst e; exact .inl h
            · exact .inr ⟨r, by simp, ho, .inr ⟨by omega, List.mem_singleton.1 h⟩⟩
          · split at h
            · rename_i e1 e2
              rcases List.mem_append.1 h with h | h
              · subst e2; exact .inl h
              · exact .inr ⟨r, by simp, ho, .inl ⟨by omega, List.mem_singleton.1 h⟩⟩
            · exact .inl h
        · exact .inr ⟨s, List.mem_cons_of_mem _ a, b, c⟩
      · rintro (h | ⟨s, a, b, c⟩)
        · left
          split
          · rename_i e
            rw [if_neg (fun e' => hne e'.symm)]
            subst e; exact List.mem_append_left _ h
          · split
            · rename_i e1 e2
              subst e2; exact List.mem_append_left _ h
            · exact h
        · rcases List.mem_cons.1 a with rfl | a
          · left
            rcases c with ⟨c1, rfl⟩ | ⟨c1, rfl⟩
            · rw [if_neg (by omega), if_pos (by omega)]; simp
            · rw [if_pos (by omega)]; simp
          · exact .inr ⟨s, a, b, c⟩
def NearOf (m : T_Mine) (near : List (List Int)) : Prop := near.length = m.1.length ∧ (∀ p, (near.getD p []).length ≤ 256) ∧ (∀ p, p < m.1.length → ∀ x, x ∈ near.getD p [] → ∃ q : Nat, x = q ∧ Adj m p q) ∧ ∀ p q, Adj m p q → (q : Int) ∈ near.getD p []
theorem near_of {m : T_Mine} (hm : Vm m) : ∃ near, nearM m.1.length m.2 = some near ∧ NearOf m near := by
  have n1 := hm.n
  have n2 := hm.k
  unfold nearM
  rw [mkB_true (by omega), decide_eq_true (by omega), Bool.and_self, cond_true]
  have hrep : ∀ p, (List.replicate m.1.length ([] : List Int)).getD p [] = [] := fun p => by
    rw [List.getD_eq_getElem?_getD, List.getElem?_replicate]; split <;> rfl
  obtain ⟨out, e, h1, h2, h3⟩ := near_ok (n := m.1.length) m.2 (List.replicate m.1.length []) 0 (by simp) (fun p => by rw [hrep]; simp) (by omega) fun r hr => (hm.r r hr).1
  refine ⟨out, e, by simpa using h1, fun p => Nat.le_trans (h2 p) (by omega), fun p hp x hx => ?_, fun p q ha => ?_⟩
  · rw [h3 p hp, hrep] at hx
    rcases hx with hx | ⟨r, a, b, c⟩
    · cases hx
    · have hr := (hm.r r a).1
      unfold endE at hr
      rcases c with ⟨c1, rfl⟩ | ⟨c1, rfl⟩
      · exact ⟨r.2.1.toNat, by omega, r, a, b, .inl ⟨c1, by omega⟩⟩
      · exact ⟨r.1.toNat, by omega, r, a, b, .inr ⟨c1, by omega⟩⟩
  · obtain ⟨hp, _⟩ := ha.lt hm
    obtain ⟨r, a, b, c⟩ := ha
    rw [h3 p hp]
    exact .inr ⟨r, a, b, c.imp (fun c => ⟨c.1, c.2.symm⟩) (fun c => ⟨c.1, c.2.symm⟩)⟩
end Go.Proofs.Ytdmggkpefjpknaa
