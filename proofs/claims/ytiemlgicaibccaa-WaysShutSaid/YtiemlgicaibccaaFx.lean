/- ways.Apart's value out of what two pushes say (Menger for two ways). No condition of its own. -/
import Derived.Test.YtiemlgicaibccaaFw
import Derived.Test.YtiemlgicaibccaaAp
set_option linter.all false
namespace Go.Proofs.Ytiemlgicaibccaa
open Go.Pv Go.Pv.Fw
namespace M
theorem sum_each {α : Type} {f : α → Int} : ∀ (l : List α), (∀ a, a ∈ l → 0 ≤ f a) → sumL l f = 0 → ∀ a, a ∈ l → f a = 0
 | [], _, _, a, h => by cases h
 | c :: r, h0, hs, a, h => by
  have h1 := h0 c (List.mem_cons_self ..)
  have h2 := sumL_nonneg r fun x hx => h0 x (List.mem_cons_of_mem _ hx)
  simp only [sumL] at hs
  rcases List.mem_cons.1 h with rfl | h
  ·omega
  ·exact sum_each r (fun x hx => h0 x (List.mem_cons_of_mem _ hx)) (by omega) a h
theorem sum_lone {α : Type} {f : α → Int} : ∀ (l : List α), (∀ a, a ∈ l → 0 ≤ f a) → sumL l f = 1 → ∃ c, c ∈ l ∧ f c = 1 ∧ ∀ a, a ∈ l → a ≠ c → f a = 0
 | [], _, hs => by simp [sumL] at hs
 | c :: r, h0, hs => by
  have h1 := h0 c (List.mem_cons_self ..)
  have h0' : ∀ a, a ∈ r → 0 ≤ f a := fun x hx => h0 x (List.mem_cons_of_mem _ hx)
  have h2 := sumL_nonneg r h0'
  simp only [sumL] at hs
  by_cases hc : f c = 0
  ·obtain ⟨d, g1, g2, g3⟩ := sum_lone r h0' (by omega)
   refine ⟨d, List.mem_cons_of_mem _ g1, g2, fun a ha hne => ?_⟩
   rcases List.mem_cons.1 ha with rfl | ha
   ·exact hc
   ·exact g3 a ha hne
  ·have hr := sum_each r h0' (by omega)
   refine ⟨c, List.mem_cons_self .., by omega, fun a ha hne => ?_⟩
   rcases List.mem_cons.1 ha with rfl | ha
   ·exact absurd rfl hne
   ·exact hr a ha
def Vn (n : Nat) : List Nd := ((n : Int), false) :: ((List.range n).flatMap fun (q : Nat) => [((q : Int), false), ((q : Int), true)])
theorem Vn_mem {n : Nat} {a : Nd} : a ∈ Vn n ↔ a = ((n : Int), false) ∨ (0 ≤ a.1 ∧ a.1 < n) := by
 obtain ⟨q, b⟩ := a
 unfold Vn
 simp only [List.mem_cons, List.mem_flatMap, List.mem_range, Prod.mk.injEq, List.not_mem_nil, or_false]
 constructor
 ·rintro (h | ⟨k, hk, h | h⟩)
  ·exact .inl h
  ·exact .inr ⟨by omega, by omega⟩
  ·exact .inr ⟨by omega, by omega⟩
 ·rintro (h | ⟨h1, h2⟩)
  ·exact .inl h
  ·refine .inr ⟨q.toNat, by omega, ?_⟩
   cases b
   ·exact .inl ⟨by omega, rfl⟩
   ·exact .inr ⟨by omega, rfl⟩
inductive Arc (f : Fdr) (p : Int) : Nd → Nd → Prop
 | thru {q : Int} (h0 : 0 ≤ q) (h1 : q < f.1) (hq : q ≠ p) : Arc f p (q, false) (q, true)
 | out {q : Int} (h0 : 0 ≤ q) (h1 : q < f.1) (hs : f.2.2.1.getD q.toNat false = true) : Arc f p (q, true) (f.1, false)
 | road {s : Ste} (hs : s ∈ f.2.1) (hu : us f s) (hp : s.2.2.1 ≠ p) : Arc f p (s.2.1, true) (s.2.2.1, false)
open Classical in
noncomputable def r0 (f : Fdr) (p : Int) (a b : Nd) : Int := if Arc f p a b then 1 else 0
theorem r0_nonneg (f : Fdr) (p : Int) (a b : Nd) : 0 ≤ r0 f p a b := by unfold r0; split <;> omega
theorem r0_zero {f : Fdr} {p : Int} {a b : Nd} (h : ¬ Arc f p a b) : r0 f p a b = 0 := if_neg h
theorem r0_le (f : Fdr) (p : Int) (a b : Nd) : r0 f p a b ≤ 1 := by unfold r0; split <;> omega
section
variable {f : Fdr} {p : Int} {n : Nat} (hw : Wf f) (hn : f.1 = n) (hp0 : 0 ≤ p) (hp1 : p < n) (hps : f.2.2.1.getD p.toNat false = false)
include hw hn hp0 hp1
theorem rch_in {x : Int → Prop} {q : Int} (h : Rch f p x q) : 0 ≤ q ∧ q < n := by
 cases h with
 | here => exact ⟨hp0, hp1⟩
 | step h hs hu hp hx => have := hw.2.2.2 _ hs; omega
theorem arc_in {a b : Nd} (h : Arc f p a b) : a ∈ Vn n ∧ b ∈ Vn n := by
 cases h with
 | thru h0 h1 hq => exact ⟨Vn_mem.2 (.inr ⟨h0, by omega⟩), Vn_mem.2 (.inr ⟨h0, by omega⟩)⟩
 | out h0 h1 hs => exact ⟨Vn_mem.2 (.inr ⟨h0, by omega⟩), Vn_mem.2 (.inl (by rw [hn]))⟩
 | road hs hu hp => have := hw.2.2.2 _ hs; exact ⟨Vn_mem.2 (.inr ⟨this.1, by omega⟩), Vn_mem.2 (.inr ⟨this.2.2.1, by omega⟩)⟩
theorem noway_cut (h : ¬ Wy f p (fun _ => False)) : ∃ X : Nd → Prop, X (p, true) ∧ ¬ X ((n : Int), false) ∧ out (Vn n) X (r0 f p) = 0 := by
 refine ⟨fun a => Rch f p (fun _ => False) a.1 ∧ (a.2 = true ∨ a.1 ≠ p), ⟨.here, .inl rfl⟩, fun hx => ?_, out_zero fun a b _ _ ha hb => r0_zero fun arc => hb ?_⟩
 ·have := rch_in hw hn hp0 hp1 hx.1
  simp at this
 ·cases arc with
  | thru h0 h1 hq => exact ⟨ha.1, .inl rfl⟩
  | out h0 h1 hs => exact absurd ⟨_, ha.1, hs⟩ h
  | road hs hu hp => exact ⟨.step ha.1 hs hu hp (fun h => h), .inr hp⟩
theorem cut_cut {q0 : Int} (hq : q0 ≠ p) (h0 : 0 ≤ q0) (h1 : q0 < n) (hV : (Vn n).Nodup) (h : ¬ Wy f p (fun x => x = q0)) : ∃ X : Nd → Prop, X (p, true) ∧ ¬ X ((n : Int), false) ∧ out (Vn n) X (r0 f p) ≤ 1 := by
 have no : ¬ Rch f p (fun x => x = q0) q0 := fun hr => by
  generalize hy : q0 = y at hr
  cases hr with
  | here => exact hq hy
  | step _ _ _ _ hx => exact hx rfl
 let X : Nd → Prop := fun a => a = (q0, false) ∨ (Rch f p (fun x => x = q0) a.1 ∧ (a.2 = true ∨ a.1 ≠ p))
 refine ⟨X, .inr ⟨.here, .inl rfl⟩, fun hx => ?_, ?_⟩
 ·rcases hx with hx | hx
  ·injection hx with hx; omega
  ·have := rch_in hw hn hp0 hp1 hx.1
   simp at this
 ·have e : out (Vn n) X (r0 f p) = out (Vn n) X (fun y z => if y = (q0, false) ∧ z = (q0, true) then r0 f p (q0, false) (q0, true) else 0) := by
   unfold out
   refine sumL_congr _ fun a _ => sumL_congr _ fun b _ => ?_
   by_cases hx : X a ∧ ¬ X b
   ·rw [if_pos hx, if_pos hx]
    by_cases hab : a = (q0, false) ∧ b = (q0, true)
    ·rw [hab.1, hab.2]; exact (if_pos ⟨rfl, rfl⟩).symm
    ·refine Eq.trans (r0_zero fun arc => ?_) (if_neg hab).symm
     obtain ⟨ha, hb⟩ := hx
     cases arc with
     | thru g0 g1 gq =>
      rcases ha with ha | ha
      ·injection ha with ha; subst ha; exact hab ⟨rfl, rfl⟩
      ·exact hb (.inr ⟨ha.1, .inl rfl⟩)
     | out g0 g1 gs =>
      rcases ha with ha | ha
      ·injection ha with _ ha; cases ha
      ·exact h ⟨_, ha.1, gs⟩
     | @road s gs gu gp =>
      rcases ha with ha | ha
      ·injection ha with _ ha; cases ha
      ·by_cases hz : s.2.2.1 = q0
       ·exact hb (.inl (by rw [hz]))
       ·exact hb (.inr ⟨.step ha.1 gs gu gp hz, .inr gp⟩)
   ·rw [if_neg hx, if_neg hx]
  rw [e, out_one hV (Vn_mem.2 (.inr ⟨h0, h1⟩)) (Vn_mem.2 (.inr ⟨h0, h1⟩))]
  split
  ·exact r0_le ..
  ·omega
theorem cut_noway {X : Nd → Prop} (h1 : X (p, true)) (h2 : ¬ X ((n : Int), false)) (h : out (Vn n) X (r0 f p) = 0) : ¬ Wy f p (fun _ => False) := by
 have shut : ∀ a b, Arc f p a b → X a → X b := fun a b arc ha => Classical.byContradiction fun hb => by
  obtain ⟨ia, ib⟩ := arc_in hw hn hp0 hp1 arc
  unfold out at h
  have t1 := sum_each _ (fun a _ => sumL_nonneg _ fun b _ => by split; exact r0_nonneg ..; exact Int.le_refl _) h a ia
  have t2 := sum_each _ (fun b _ => by split; exact r0_nonneg ..; exact Int.le_refl _) t1 b ib
  rw [if_pos ⟨ha, hb⟩] at t2
  unfold r0 at t2
  rw [if_pos arc] at t2
  cases t2
 rintro ⟨q, hq, hs⟩
 have key : ∀ q, Rch f p (fun _ => False) q → X (q, true) := fun q hq => by
  induction hq with
  | here => exact h1
  | @step s hr hs hu hp hx ih =>
   have := hw.2.2.2 _ hs
   exact shut _ _ (.thru (by omega) (by omega) hp) (shut _ _ (.road hs hu hp) ih)
 have hi := rch_in hw hn hp0 hp1 hq
 have := shut _ _ (.out hi.1 (by omega) hs) (key q hq)
 rw [hn] at this
 exact h2 this
open Classical in
theorem cut_one {X : Nd → Prop} (hps : f.2.2.1.getD p.toNat false = false) (h1 : X (p, true)) (h2 : ¬ X ((n : Int), false)) (h : out (Vn n) X (r0 f p) = 1) : ∃ q, q ≠ p ∧ 0 ≤ q ∧ q < f.1 ∧ ¬ Wy f p (fun x => x = q) := by
 unfold out at h
 obtain ⟨a0, ia0, ha0, haz⟩ := sum_lone _ (fun a _ => sumL_nonneg _ fun b _ => by split; exact r0_nonneg ..; exact Int.le_refl _) h
 obtain ⟨b0, ib0, hb0, hbz⟩ := sum_lone _ (fun b _ => by split; exact r0_nonneg ..; exact Int.le_refl _) ha0
 have hx0 : X a0 ∧ ¬ X b0 := Classical.byContradiction fun hc => by rw [if_neg hc] at hb0; cases hb0
 rw [if_pos hx0] at hb0
 have arc0 : Arc f p a0 b0 := Classical.byContradiction fun hc => by rw [r0_zero hc] at hb0; cases hb0
 have shut : ∀ a b, Arc f p a b → X a → (a = a0 ∧ b = b0) ∨ X b := fun a b arc ha => Classical.byContradiction fun hc => by
  have hb : ¬ X b := fun h => hc (.inr h)
  have hne : ¬ (a = a0 ∧ b = b0) := fun h => hc (.inl h)
  obtain ⟨ia, ib⟩ := arc_in hw hn hp0 hp1 arc
  have t2 : (if X a ∧ ¬ X b then r0 f p a b else 0) = 0 := by
   by_cases e : a = a0
   ·subst e
    exact hbz b ib fun e => hne ⟨rfl, e⟩
   ·exact sum_each _ (fun b _ => by split; exact r0_nonneg ..; exact Int.le_refl _) (haz a ia e) b ib
  rw [if_pos ⟨ha, hb⟩] at t2
  unfold r0 at t2
  rw [if_pos arc] at t2
  cases t2
 have pick : ∃ q, q ≠ p ∧ 0 ≤ q ∧ q < f.1 ∧ ((a0 = (q, false) ∧ b0 = (q, true)) ∨ (a0 = (q, true) ∧ b0 = (f.1, false)) ∨ b0 = (q, false)) := by
  cases arc0 with
  | @thru q g0 g1 gq => exact ⟨q, gq, g0, g1, .inl ⟨rfl, rfl⟩⟩
  | @out q g0 g1 gs => exact ⟨q, (fun e => by rw [e, hps] at gs; cases gs), g0, g1, .inr (.inl ⟨rfl, rfl⟩)⟩
  | @road s gs gu gp => have := hw.2.2.2 _ gs; exact ⟨s.2.2.1, gp, by omega, by omega, .inr (.inr rfl)⟩
 obtain ⟨q, hq, q0, q1, hab⟩ := pick
 refine ⟨q, hq, q0, q1, fun ⟨y, hy, hs⟩ => ?_⟩
 have ney : ∀ y, Rch f p (fun x => x = q) y → y ≠ q := fun y hy => by
  cases hy with
  | here => exact fun e => hq e.symm
  | step _ _ _ _ hx => exact hx
 have key : ∀ y, Rch f p (fun x => x = q) y → X (y, true) := fun y hy => by
  induction hy with
  | here => exact h1
  | @step s hr hs hu hp hx ih =>
   have hi := hw.2.2.2 _ hs
   have s1 : X (s.2.2.1, false) := by
    rcases shut _ _ (.road hs hu hp) ih with ⟨e1, e2⟩ | h
    ·exfalso
     rcases hab with ⟨c1, _⟩ | ⟨_, c2⟩ | c2
     ·rw [← e1] at c1; injection c1 with _ c1; cases c1
     ·rw [← e2] at c2; injection c2 with c2; omega
     ·rw [← e2] at c2; injection c2 with c2; exact hx c2
    ·exact h
   rcases shut _ _ (.thru (by omega) (by omega) hp) s1 with ⟨e1, e2⟩ | h
   ·exfalso
    rcases hab with ⟨c1, _⟩ | ⟨_, c2⟩ | c2
    ·rw [← e1] at c1; injection c1 with c1; exact hx c1
    ·rw [← e2] at c2; injection c2 with _ c2; cases c2
    ·rw [← e2] at c2; injection c2 with _ c2; cases c2
   ·exact h
 have hi := rch_in hw hn hp0 hp1 hy
 rcases shut _ _ (.out hi.1 (by omega) hs) (key y hy) with ⟨e1, e2⟩ | h
 ·rcases hab with ⟨c1, _⟩ | ⟨c1, _⟩ | c2
  ·rw [← e1] at c1; injection c1 with _ c1; cases c1
  ·rw [← e1] at c1; injection c1 with c1; exact ney y hy c1
  ·rw [← e2] at c2; injection c2 with c2; omega
 ·rw [hn] at h; exact h2 h
structure PushT (n : Nat) (p : Int) (r r' : Nd → Nd → Int) : Prop where
 nn : ∀ a b, 0 ≤ r' a b
 out : ∀ X : Nd → Prop, Fw.out (Vn n) X r' = Fw.out (Vn n) X r - ind X (p, true) + ind X ((n : Int), false)
def PushF (n : Nat) (p : Int) (r : Nd → Nd → Int) : Prop := ∃ X : Nd → Prop, X (p, true) ∧ ¬ X ((n : Int), false) ∧ out (Vn n) X r = 0
omit hw hn hp0 hp1 in
theorem PushT.cut {r r' : Nd → Nd → Int} (h : PushT n p r r') {X : Nd → Prop} (h1 : X (p, true)) (h2 : ¬ X ((n : Int), false)) : Fw.out (Vn n) X r' = Fw.out (Vn n) X r - 1 := by
 rw [h.out]
 unfold ind
 rw [if_pos h1, if_neg h2]; omega
omit hw hn hp0 hp1 in
theorem Vn_nodup (n : Nat) : (Vn n).Nodup := by
 unfold Vn
 refine List.nodup_cons.2 ⟨fun h => ?_, ?_⟩
 ·obtain ⟨k, hk, h⟩ := List.mem_flatMap.1 h
  have hk := List.mem_range.1 hk
  simp only [List.mem_cons, Prod.mk.injEq, List.not_mem_nil, or_false] at h
  omega
 ·rw [List.nodup_iff_pairwise_ne, List.pairwise_flatMap]
  refine ⟨fun q _ => by simp, ?_⟩
  refine List.Pairwise.imp ?_ (List.nodup_iff_pairwise_ne.1 List.nodup_range)
  intro a b hab x hx y hy e
  subst e
  simp only [List.mem_cons, List.not_mem_nil, or_false] at hx hy
  have : x.1 = (a : Int) := by rcases hx with rfl | rfl <;> rfl
  have : x.1 = (b : Int) := by rcases hy with rfl | rfl <;> rfl
  omega
theorem apart_0 (h : PushF n p (r0 f p)) : apartV f p = 0 := by
 obtain ⟨X, h1, h2, h3⟩ := h
 unfold apartV
 rw [if_pos (cut_noway hw hn hp0 hp1 h1 h2 h3)]
theorem push_way {r1 : Nd → Nd → Int} (h : PushT n p (r0 f p) r1) : Wy f p (fun _ => False) := Classical.byContradiction fun hc => by
 obtain ⟨X, h1, h2, h3⟩ := noway_cut hw hn hp0 hp1 hc
 have := h.cut h1 h2
 have := out_nonneg (V := Vn n) (X := X) h.nn
 omega
theorem apart_1 (hps : f.2.2.1.getD p.toNat false = false) {r1 : Nd → Nd → Int} (h : PushT n p (r0 f p) r1) (h' : PushF n p r1) : apartV f p = 1 := by
 obtain ⟨X, h1, h2, h3⟩ := h'
 have := h.cut h1 h2
 unfold apartV
 rw [if_neg (fun hc => hc (push_way hw hn hp0 hp1 h)), if_pos (cut_one hw hn hp0 hp1 hps h1 h2 (by omega))]
theorem apart_2 {r1 r2 : Nd → Nd → Int} (h : PushT n p (r0 f p) r1) (h' : PushT n p r1 r2) : apartV f p = 2 := by
 unfold apartV
 rw [if_neg (fun hc => hc (push_way hw hn hp0 hp1 h)), if_neg]
 rintro ⟨q, hq, q0, q1, hc⟩
 obtain ⟨X, h1, h2, h3⟩ := cut_cut hw hn hp0 hp1 hq q0 (by omega) (Vn_nodup n) hc
 have := h.cut h1 h2
 have := h'.cut h1 h2
 have := out_nonneg (V := Vn n) (X := X) h'.nn
 omega
end
end M
end Go.Proofs.Ytiemlgicaibccaa
