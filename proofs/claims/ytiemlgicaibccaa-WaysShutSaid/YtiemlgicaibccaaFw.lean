/- Rooms between nodes, and what goes out of a set: a way that is turned around takes one off. Plain lists. No condition of its own. -/
set_option linter.all false
namespace Go.Pv.Fw
abbrev Nd := Int × Bool
def sumL {α : Type} : List α → (α → Int) → Int
 | [], _ => 0
 | a :: r, f => f a + sumL r f
theorem sumL_add {α : Type} (f g : α → Int) : ∀ (l : List α), sumL l (fun a => f a + g a) = sumL l f + sumL l g
 | [] => rfl
 | a :: r => by have := sumL_add f g r; simp only [sumL]; omega
theorem sumL_congr {α : Type} {f g : α → Int} : ∀ (l : List α), (∀ a, a ∈ l → f a = g a) → sumL l f = sumL l g
 | [], _ => rfl
 | a :: r, h => by simp only [sumL]; rw [h a (List.mem_cons_self ..), sumL_congr r fun x hx => h x (List.mem_cons_of_mem _ hx)]
theorem sumL_zero {α : Type} {f : α → Int} (l : List α) (h : ∀ a, a ∈ l → f a = 0) : sumL l f = 0 := by
 rw [sumL_congr l h]
 induction l with
 | nil => rfl
 | cons a r ih => simp only [sumL]; rw [ih fun x hx => h x (List.mem_cons_of_mem _ hx)]; rfl
theorem sumL_one {α : Type} {c : α} {d : Int} {f : α → Int} : ∀ (l : List α), l.Nodup → c ∈ l → f c = d → (∀ a, a ∈ l → a ≠ c → f a = 0) → sumL l f = d
 | [], _, h, _, _ => by cases h
 | a :: r, hn, hc, hd, hz => by
  simp only [List.nodup_cons] at hn
  simp only [sumL]
  by_cases e : a = c
  ·subst e
   rw [hd, sumL_zero r fun x hx => hz x (List.mem_cons_of_mem _ hx) fun e => hn.1 (e ▸ hx)]; omega
  ·have hc' : c ∈ r := by
    rcases List.mem_cons.1 hc with h | h
    ·exact absurd h.symm e
    ·exact h
   rw [hz a (List.mem_cons_self ..) e, sumL_one r hn.2 hc' hd fun x hx => hz x (List.mem_cons_of_mem _ hx)]; omega
theorem sumL_nonneg {α : Type} {f : α → Int} : ∀ (l : List α), (∀ a, a ∈ l → 0 ≤ f a) → 0 ≤ sumL l f
 | [], _ => Int.le_refl _
 | a :: r, h => by
  have h1 := h a (List.mem_cons_self ..)
  have h2 := sumL_nonneg r fun x hx => h x (List.mem_cons_of_mem _ hx)
  simp only [sumL]; omega
open Classical in
noncomputable def out (V : List Nd) (X : Nd → Prop) (r : Nd → Nd → Int) : Int := sumL V fun a => sumL V fun b => if X a ∧ ¬ X b then r a b else 0
open Classical in
noncomputable def ind (X : Nd → Prop) (a : Nd) : Int := if X a then 1 else 0
def flip (r : Nd → Nd → Int) (a x : Nd) : Nd → Nd → Int := fun y z => r y z + (if y = a ∧ z = x then -1 else 0) + (if y = x ∧ z = a then 1 else 0)
open Classical in
theorem out_one {V : List Nd} (hV : V.Nodup) {X : Nd → Prop} {a x : Nd} (ha : a ∈ V) (hx : x ∈ V) (d : Int) : out V X (fun y z => if y = a ∧ z = x then d else 0) = if X a ∧ ¬ X x then d else 0 := by
 unfold out
 refine sumL_one (c := a) V hV ha ?_ fun y hy hne => sumL_zero V fun z hz => ?_
 ·refine sumL_one (c := x) V hV hx ?_ fun z hz hne => ?_
  ·simp
  ·by_cases h : X a ∧ ¬ X z
   ·rw [if_pos h]; exact if_neg fun h => hne h.2
   ·rw [if_neg h]
 ·by_cases h : X y ∧ ¬ X z
  ·rw [if_pos h]; exact if_neg fun h => hne h.1
  ·rw [if_neg h]
open Classical in
theorem out_add (V : List Nd) (X : Nd → Prop) (r s : Nd → Nd → Int) : out V X (fun y z => r y z + s y z) = out V X r + out V X s := by
 unfold out
 rw [← sumL_add]
 refine sumL_congr V fun y hy => ?_
 rw [← sumL_add]
 refine sumL_congr V fun z hz => ?_
 by_cases h : X y ∧ ¬ X z
 ·rw [if_pos h, if_pos h, if_pos h]
 ·rw [if_neg h, if_neg h, if_neg h]; rfl
theorem out_flip {V : List Nd} (hV : V.Nodup) (X : Nd → Prop) (r : Nd → Nd → Int) {a x : Nd} (ha : a ∈ V) (hx : x ∈ V) : out V X (flip r a x) = out V X r - ind X a + ind X x := by
 have e : flip r a x = fun y z => (fun y z => r y z + (if y = a ∧ z = x then -1 else 0)) y z + (if y = x ∧ z = a then 1 else 0) := rfl
 rw [e, out_add, out_add V X r fun y z => if y = a ∧ z = x then -1 else 0, out_one hV ha hx, out_one hV hx ha]
 unfold ind
 by_cases h1 : X a <;> by_cases h2 : X x <;> simp [h1, h2] <;> omega
theorem out_nonneg {V : List Nd} {X : Nd → Prop} {r : Nd → Nd → Int} (h : ∀ a b, 0 ≤ r a b) : 0 ≤ out V X r := by
 unfold out
 refine sumL_nonneg V fun a _ => sumL_nonneg V fun b _ => ?_
 split
 ·exact h a b
 ·exact Int.le_refl _
theorem out_zero {V : List Nd} {X : Nd → Prop} {r : Nd → Nd → Int} (h : ∀ a b, a ∈ V → b ∈ V → X a → ¬ X b → r a b = 0) : out V X r = 0 := by
 unfold out
 refine sumL_zero V fun a ha => sumL_zero V fun b hb => ?_
 by_cases hx : X a ∧ ¬ X b
 ·rw [if_pos hx]; exact h a b ha hb hx.1 hx.2
 ·rw [if_neg hx]
end Go.Pv.Fw
