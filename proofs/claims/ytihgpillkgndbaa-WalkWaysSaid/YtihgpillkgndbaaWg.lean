/- Rounds of steps until nothing changes. No condition of its own. -/
import Derived.Test.YtihgpillkgndbaaWt
set_option linter.all false
namespace Go.Proofs.Ytihgpillkgndbaa
open Go.Pv M

section
variable {α ε : Type}
/-- One step: what it writes, and that it wrote. -/
def gst (st : α → ε → Option α) (s : Bool × α) (e : ε) : Bool × α := match st s.2 e with
  | some y => (true, y)
  | none => s
theorem gst_some {st : α → ε → Option α} {g : Bool} {x y : α} {e : ε} (h : st x e = some y) : gst st (g, x) e = (true, y) := by unfold gst; simp only [h]
theorem gst_none {st : α → ε → Option α} {g : Bool} {x : α} {e : ε} (h : st x e = none) : gst st (g, x) e = (g, x) := by unfold gst; simp only [h]
/-- Rounds until nothing is written. -/
def itr (st : α → ε → Option α) (es : List ε) : Nat → α → Option α
  | 0, _ => none
  | n + 1, x => if (es.foldl (gst st) (false, x)).1 = true then itr st es n (es.foldl (gst st) (false, x)).2 else some (es.foldl (gst st) (false, x)).2

theorem fold_inv {st : α → ε → Option α} {P : α → Prop} {ok : ε → Prop} (hP : ∀ x e y, ok e → P x → st x e = some y → P y) : ∀ (es : List ε), (∀ e, e ∈ es → ok e) → ∀ (g : Bool) (x : α), P x → P (es.foldl (gst st) (g, x)).2
  | [], _, _, _, h => h
  | e :: es, hk, g, x, h => by
    rw [List.foldl_cons]
    cases hs : st x e with
    | none => rw [gst_none hs]; exact fold_inv hP es (fun e he => hk e (List.mem_cons_of_mem _ he)) g x h
    | some y => rw [gst_some hs]; exact fold_inv hP es (fun e he => hk e (List.mem_cons_of_mem _ he)) true y (hP x e y (hk e (List.mem_cons_self ..)) h hs)
theorem fold_flag {st : α → ε → Option α} : ∀ (es : List ε) (x : α), (es.foldl (gst st) (true, x)).1 = true
  | [], _ => rfl
  | e :: es, x => by
    rw [List.foldl_cons]
    cases hs : st x e with
    | none => rw [gst_none hs]; exact fold_flag es x
    | some y => rw [gst_some hs]; exact fold_flag es y
theorem fold_false {st : α → ε → Option α} : ∀ (es : List ε) (x : α), (es.foldl (gst st) (false, x)).1 = false → (es.foldl (gst st) (false, x)).2 = x ∧ ∀ e, e ∈ es → st x e = none
  | [], _, _ => ⟨rfl, fun _ h => by cases h⟩
  | e :: es, x, h => by
    rw [List.foldl_cons] at h ⊢
    cases hs : st x e with
    | none =>
      rw [gst_none hs] at h ⊢
      obtain ⟨h1, h2⟩ := fold_false es x h
      refine ⟨h1, fun e' he => ?_⟩
      rcases List.mem_cons.1 he with rfl | he
      · exact hs
      · exact h2 e' he
    | some y => rw [gst_some hs, fold_flag] at h; cases h
theorem fold_phi {st : α → ε → Option α} {P : α → Prop} {ok : ε → Prop} (Φ : α → Nat) (hP : ∀ x e y, ok e → P x → st x e = some y → P y ∧ Φ y < Φ x) : ∀ (es : List ε), (∀ e, e ∈ es → ok e) → ∀ (g : Bool) (x : α), P x →
    Φ (es.foldl (gst st) (g, x)).2 ≤ Φ x ∧ (g = false → (es.foldl (gst st) (g, x)).1 = true → Φ (es.foldl (gst st) (g, x)).2 < Φ x)
  | [], _, g, x, h => ⟨Nat.le_refl _, fun h1 h2 => by rw [h1] at h2; cases h2⟩
  | e :: es, hk, g, x, h => by
    rw [List.foldl_cons]
    have hk' := fun e he => hk e (List.mem_cons_of_mem _ he)
    cases hs : st x e with
    | none => rw [gst_none hs]; exact fold_phi Φ hP es hk' g x h
    | some y =>
      rw [gst_some hs]
      obtain ⟨h1, h2⟩ := hP x e y (hk e (List.mem_cons_self ..)) h hs
      have := (fold_phi Φ hP es hk' true y h1).1
      exact ⟨by omega, fun _ _ => by omega⟩
theorem itr_inv {st : α → ε → Option α} {P : α → Prop} {es : List ε} (hP : ∀ x e y, e ∈ es → P x → st x e = some y → P y) : ∀ (n : Nat) (x y : α), P x → itr st es n x = some y → P y
  | 0, _, _, _, h => by cases h
  | n + 1, x, y, hx, h => by
    have hp := fold_inv (ok := fun e => e ∈ es) hP es (fun _ h => h) false x hx
    rw [itr] at h
    by_cases c : (es.foldl (gst st) (false, x)).1 = true
    · rw [if_pos c] at h; exact itr_inv hP n _ y hp h
    · rw [if_neg c] at h; injection h with h; rw [← h]; exact hp
theorem itr_fix {st : α → ε → Option α} {es : List ε} : ∀ (n : Nat) (x y : α), itr st es n x = some y → ∀ e, e ∈ es → st y e = none
  | 0, _, _, h => by cases h
  | n + 1, x, y, h => by
    rw [itr] at h
    by_cases c : (es.foldl (gst st) (false, x)).1 = true
    · rw [if_pos c] at h; exact itr_fix n _ y h
    · rw [if_neg c] at h; injection h with h
      obtain ⟨h1, h2⟩ := fold_false es x (Bool.eq_false_iff.2 c)
      rw [h1] at h; subst h; exact h2
theorem fold_none {st : α → ε → Option α} : ∀ (es : List ε) (g : Bool) (x : α), (∀ e, e ∈ es → st x e = none) → es.foldl (gst st) (g, x) = (g, x)
  | [], _, _, _ => rfl
  | e :: es, g, x, h => by
    rw [List.foldl_cons, gst_none (h e (List.mem_cons_self ..))]; exact fold_none es g x fun e he => h e (List.mem_cons_of_mem _ he)
theorem itr_none {st : α → ε → Option α} {es : List ε} {n : Nat} {x : α} (hn : 0 < n) (h : ∀ e, e ∈ es → st x e = none) : itr st es n x = some x := by
  obtain ⟨k, rfl⟩ : ∃ k, n = k + 1 := ⟨n - 1, by omega⟩
  rw [itr, fold_none es false x h, if_neg (by simp)]
theorem itr_ok {st : α → ε → Option α} {P : α → Prop} {es : List ε} (Φ : α → Nat) (hP : ∀ x e y, e ∈ es → P x → st x e = some y → P y ∧ Φ y < Φ x) : ∀ (n : Nat) (x : α), P x → Φ x < n → ∃ y, itr st es n x = some y
  | 0, _, _, h => absurd h (Nat.not_lt_zero _)
  | n + 1, x, hx, hn => by
    have hp := fold_inv (ok := fun e => e ∈ es) (fun x e y h1 h2 h3 => (hP x e y h1 h2 h3).1) es (fun _ h => h) false x hx
    have hf := fold_phi (ok := fun e => e ∈ es) Φ hP es (fun _ h => h) false x hx
    rw [itr]
    by_cases c : (es.foldl (gst st) (false, x)).1 = true
    · rw [if_pos c]
      have := hf.2 rfl c
      exact itr_ok Φ hP n _ hp (by omega)
    · rw [if_neg c]; exact ⟨_, rfl⟩
end

section
variable {α β ε : Type}
/-- Two kinds of steps that keep step. -/
def Sim (R : α → β → Prop) (st : α → ε → Option α) (su : β → ε → Option β) (es : List ε) : Prop :=
  ∀ x z e, e ∈ es → R x z → (st x e = none ∧ su z e = none) ∨ ∃ y w, st x e = some y ∧ su z e = some w ∧ R y w
theorem fold_sim {R : α → β → Prop} {st : α → ε → Option α} {su : β → ε → Option β} {es0 : List ε} (hs : Sim R st su es0) : ∀ (es : List ε), (∀ e, e ∈ es → e ∈ es0) → ∀ (g : Bool) (x : α) (z : β), R x z →
    (es.foldl (gst st) (g, x)).1 = (es.foldl (gst su) (g, z)).1 ∧ R (es.foldl (gst st) (g, x)).2 (es.foldl (gst su) (g, z)).2
  | [], _, _, _, _, h => ⟨rfl, h⟩
  | e :: es, hk, g, x, z, h => by
    rw [List.foldl_cons, List.foldl_cons]
    have hk' := fun e he => hk e (List.mem_cons_of_mem _ he)
    rcases hs x z e (hk e (List.mem_cons_self ..)) h with ⟨h1, h2⟩ | ⟨y, w, h1, h2, h3⟩
    · rw [gst_none h1, gst_none h2]; exact fold_sim hs es hk' g x z h
    · rw [gst_some h1, gst_some h2]; exact fold_sim hs es hk' true y w h3
theorem itr_sim {R : α → β → Prop} {st : α → ε → Option α} {su : β → ε → Option β} {es : List ε} (hs : Sim R st su es) : ∀ (n : Nat) (x : α) (z : β), R x z → ∀ y, itr st es n x = some y → ∃ w, itr su es n z = some w ∧ R y w
  | 0, _, _, _, _, h => by cases h
  | n + 1, x, z, hR, y, h => by
    obtain ⟨h1, h2⟩ := fold_sim hs es (fun _ h => h) false x z hR
    rw [itr] at h ⊢
    by_cases c : (es.foldl (gst st) (false, x)).1 = true
    · rw [if_pos c] at h
      rw [← h1, if_pos c]
      exact itr_sim hs n _ _ h2 y h
    · rw [if_neg c] at h
      rw [← h1, if_neg c]
      injection h with h; subst h
      exact ⟨_, rfl, h2⟩
end

/-- The arcs of roads, in order. -/
def acs (rs : List T_Road) : List (T_Road × Bool) := rs.flatMap fun r => [(r, false), (r, true)]
theorem mem_acs {rs : List T_Road} {e : T_Road × Bool} : e ∈ acs rs ↔ e.1 ∈ rs := by
  unfold acs
  rw [List.mem_flatMap]
  constructor
  · rintro ⟨r, h1, h2⟩
    rcases List.mem_cons.1 h2 with rfl | h2
    · exact h1
    · rw [List.mem_singleton.1 h2]; exact h1
  · intro h
    obtain ⟨r, b⟩ := e
    exact ⟨r, h, by cases b <;> simp⟩
theorem acs_cons (r : T_Road) (rs : List T_Road) : acs (r :: rs) = (r, false) :: (r, true) :: acs rs := rfl

theorem sum_set {γ : Type} (f : γ → Nat) (d v : γ) : ∀ (l : List γ) (i : Nat), i < l.length → f v < f (l.getD i d) → ((l.set i v).map f).sum < (l.map f).sum
  | [], i, h, _ => by simp at h
  | x :: l, 0, _, h => by simp at h ⊢; omega
  | x :: l, i + 1, hi, h => by
    have := sum_set f d v l i (by simpa using hi) (by simpa using h)
    simp only [List.set_cons_succ, List.map_cons, List.sum_cons]
    omega
theorem sum_le {γ : Type} (f : γ → Nat) (c : Nat) : ∀ (l : List γ), (∀ x, x ∈ l → f x ≤ c) → (l.map f).sum ≤ l.length * c
  | [], _ => by simp
  | x :: l, h => by
    have h1 := sum_le f c l fun x hx => h x (List.mem_cons_of_mem _ hx)
    have h2 := h x (List.mem_cons_self ..)
    simp only [List.map_cons, List.sum_cons, List.length_cons]
    rw [Nat.succ_mul]; omega
theorem getD_set {γ : Type} (d v : γ) (l : List γ) (i j : Nat) (hi : i < l.length) : (l.set i v).getD j d = if j = i then v else l.getD j d := by
  rw [List.getD_eq_getElem?_getD, List.getD_eq_getElem?_getD, List.getElem?_set]
  by_cases e : i = j
  · subst e; simp [hi]
  · rw [if_neg e, if_neg (Ne.symm e)]
theorem mem_set {γ : Type} {P : γ → Prop} {l : List γ} {i : Nat} {v : γ} (h : ∀ x, x ∈ l → P x) (hv : P v) : ∀ x, x ∈ l.set i v → P x := fun x hx => by
  rcases List.mem_or_eq_of_mem_set hx with hx | rfl
  · exact h x hx
  · exact hv
end Go.Proofs.Ytihgpillkgndbaa
