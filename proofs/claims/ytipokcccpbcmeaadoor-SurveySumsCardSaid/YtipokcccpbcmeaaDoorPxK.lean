/- Functions that turn boxes (which may hold arrays of their own), or make new boxes and arrays, or take functions: their contracts (SFOK), out of a walk by computation, and as entries. No condition of its own: over any program. -/
import Derived.Test.YtipokcccpbcmeaaDoorPxP
set_option linter.all false
namespace Go.Pv
open Go.RowKit

/-- A result: a value, a new box, a value with new arrays of its own. -/
inductive RK where
  | v (t : GT)
  | n (t : GT)
  | o (p : PT)
def RK.ty : RK → GT
  | .v t => t
  | .n t => t
  | .o p => p.ty

/-- An argument: a value, or a pointer to a whole box, which may hold arrays of its own. -/
inductive AK where
  | v (t : GT)
  | b (p : PT)
def AK.ty : AK → GT
  | .v t => t
  | .b p => p.ty
def AK.tys : List AK → List GT
  | [] => []
  | k :: r => k.ty :: AK.tys r
def RK.tys : List RK → List GT
  | [] => []
  | k :: r => k.ty :: RK.tys r
/-- The first of some elements, and the others. -/
def hd : (t : GT) → (r : List GT) → Els (t :: r) → El t
  | _, [], x => x
  | _, _ :: _, x => x.1
def tl : (t : GT) → (r : List GT) → Els (t :: r) → Els r
  | _, [], _ => ()
  | _, _ :: _, x => x.2
def cns : (t : GT) → (r : List GT) → El t → Els r → Els (t :: r)
  | _, [], x, _ => x
  | _, _ :: _, x, y => (x, y)

theorem hd_cns : ∀ (t : GT) (r : List GT) (x : El t) (y : Els r), hd t r (cns t r x y) = x
  | _, [], _, _ => rfl
  | _, _ :: _, _, _ => rfl
theorem tl_cns : ∀ (t : GT) (r : List GT) (x : El t) (y : Els r), tl t r (cns t r x y) = y
  | _, [], _, _ => rfl
  | _, _ :: _, _, _ => rfl


def boxI : (ks : List AK) → Els (AK.tys ks) → Nat → IH
  | [], _, _ => []
  | .b p :: r, x, j => some (.box 0 (oI p (hd p.ty (AK.tys r) x) (j + 1))) :: (oH p (hd p.ty (AK.tys r) x) ++ boxI r (tl p.ty (AK.tys r) x) (j + (1 + p.n)))
  | .v t :: r, x, j => boxI r (tl t (AK.tys r) x) j
abbrev g0 : Nat → Nat := fun _ => 0
def isP (v : IV) (i : Nat) : Bool := match v with
  | .ptr o 0 0 => Nat.beq o i
  | _ => false
theorem isP_eq {v : IV} {i : Nat} (h : isP v i = true) : v = .ptr i 0 0 := by
  unfold isP at h; split at h
  · rw [Nat.eq_of_beq_eq_true h]
  · cases h
def decOV (p : PT) (v : IV) (H : IH) (i : Nat) : Option (El p.ty) := match isAg p.ty, v with
  | true, .agg cs => (match decO p cs H i with
    | some (x, []) => some x
    | _ => none)
  | true, _ => none
  | false, .agg _ => none
  | false, v => (match decO p [v] H i with
    | some (x, []) => some x
    | _ => none)
def oDV (gs : Nat → Nat) (p : PT) (x : El p.ty) (i : Nat) : DV := match isAg p.ty, oD gs p x i with
  | true, ds => .agg ds
  | false, [d] => d
  | _, _ => .any
theorem o_one {p : PT} (h : isAg p.ty = false) (x : El p.ty) (gs : Nat → Nat) (i : Nat) : (∃ c, oI p x i = [c]) ∧ (∃ d, oD gs p x i = [d]) := by
  cases p with
  | v t => exact one_of h x
  | a t => exact ⟨⟨_, rfl⟩, ⟨_, rfl⟩⟩
  | p a b => simp [PT.ty, isAg] at h
theorem decOV_at {s : St} {T : List (Nat × IV)} {HI : IH} (hs : SR ⟨T, HI⟩ s) {p : PT} {v : IV} {x : El p.ty} {i : Nat} {d : DV} (h : decOV p v HI i = some x) (hr : Rel s.H s.nx v d) :
    WkD d (oDV (gsOf s.H) p x i) ∧ ∀ (k : Nat) c, (oC (gsOf s.H) p x i)[k]? = some c → ∃ ck, s.H (i + k) = some ck ∧ CkW ck c.2 := by
  unfold decOV at h
  unfold oDV
  split at h
  · rename_i cs ha
    obtain ⟨ds, rfl, k⟩ := hr.agg_inv
    split at h
    · rename_i y hy
      injection h with h; subst h
      obtain ⟨d1, d2, rfl, q1, q2, q3⟩ := decO_at hs p cs y [] i ds hy k
      have := q2.nil_l; subst this
      rw [ha, List.append_nil]
      exact ⟨VR.agg_wk q1, q3⟩
    · cases h
  · cases h
  · cases h
  · rename_i ha _
    split at h
    · rename_i y hy
      injection h with h; subst h
      obtain ⟨d1, d2, e, q1, q2, q3⟩ := decO_at hs p _ y [] i [d] hy (.one hr)
      have := q2.nil_l; subst this
      rw [List.append_nil] at e; subst e
      obtain ⟨_, ⟨e, he⟩⟩ := o_one ha y (gsOf s.H) i
      rw [ha]
      rw [he] at q1 ⊢
      obtain ⟨_, e1, k⟩ := q1.one_l
      injection e1 with e1; subst e1
      exact ⟨k, q3⟩
    · cases h

def decR : (rk : List RK) → List IV → IH → Nat → Option (Els (RK.tys rk))
  | [], [], _, _ => some ()
  | .v t :: r, v :: l, H, i => match decV t v, decR r l H i with
    | some x, some y => some (cns t (RK.tys r) x y)
    | _, _ => none
  | .n t :: r, v :: l, H, i => match isP v i, getH H i, decR r l H (i + 1) with
    | true, some (.box 0 cs), some y => match dec t cs with
      | some x => some (cns t (RK.tys r) x y)
      | none => none
    | _, _, _ => none
  | .o p :: r, v :: l, H, i => match decOV p v H i, decR r l H (i + p.n) with
    | some x, some y => some (cns p.ty (RK.tys r) x y)
    | _, _ => none
  | [], _ :: _, _, _ => none
  | _ :: _, [], _, _ => none

def newN : List RK → Nat
  | [] => 0
  | .v _ :: r => newN r
  | .n _ :: r => newN r + 1
  | .o p :: r => newN r + p.n
def resD (gs : Nat → Nat) : (rk : List RK) → Els (RK.tys rk) → Nat → List DV
  | [], _, _ => []
  | .v t :: r, x, i => valD t (hd t (RK.tys r) x) :: resD gs r (tl t (RK.tys r) x) i
  | .n t :: r, x, i => .ptr i 0 0 0 :: resD gs r (tl t (RK.tys r) x) (i + 1)
  | .o p :: r, x, i => oDV gs p (hd p.ty (RK.tys r) x) i :: resD gs r (tl p.ty (RK.tys r) x) (i + p.n)
def newC (gs : Nat → Nat) : (rk : List RK) → Els (RK.tys rk) → Nat → Cks
  | [], _, _ => []
  | .v t :: r, x, i => newC gs r (tl t (RK.tys r) x) i
  | .n t :: r, x, i => (i, ⟨0, t.sz, [encD t (hd t (RK.tys r) x)]⟩) :: newC gs r (tl t (RK.tys r) x) (i + 1)
  | .o p :: r, x, i => oC gs p (hd p.ty (RK.tys r) x) i ++ newC gs r (tl p.ty (RK.tys r) x) (i + p.n)
/-! ### Arguments that are functions -/
/-! ### Chunks of a list, one by one -/
theorem puts_get_ne {H : Hp} : ∀ {l : Cks} {o : Nat}, (∀ x, x ∈ l → x.1 ≠ o) → puts H l o = H o
  | [], o, h => rfl
  | x :: l, o, h => by
    rw [puts_cons, puts_get_ne fun y hy => h y (List.mem_cons_of_mem _ hy), Hp.put_ne _ _ _ (Ne.symm (h x (by simp)))]

/-- Chunk number k of a list that is numbered from i on. -/
structure Numb (l : Cks) (i n : Nat) (c : Nat → Ck) : Prop where
  len : l.length = n
  nth : ∀ k (h : k < l.length), l[k] = (i + k, c k)

theorem Numb.get {l : Cks} {i n : Nat} {c : Nat → Ck} (h : Numb l i n c) : ∀ {H : Hp} {k : Nat}, k < n → puts H l (i + k) = some (c k) := by
  have key : ∀ (l : Cks) (i n : Nat) (c : Nat → Ck), Numb l i n c → ∀ (H : Hp) (k : Nat), k < n → puts H l (i + k) = some (c k) := by
    intro l
    induction l with
    | nil => intro i n c h H k hk; have := h.len; simp at this; omega
    | cons x l ih =>
      intro i n c h H k hk
      have h0 := h.nth 0 (by simp)
      simp only [List.getElem_cons_zero, Nat.add_zero] at h0
      have hl : Numb l (i + 1) (n - 1) (fun k => c (k + 1)) := ⟨by have := h.len; simp at this; omega, fun k hk => by
        have := h.nth (k + 1) (by simp; omega)
        simp only [List.getElem_cons_succ] at this
        rw [this]; congr 1; omega⟩
      rw [puts_cons]
      cases k with
      | zero =>
        rw [Nat.add_zero, puts_get_ne, h0, Hp.put_same]
        intro y hy
        obtain ⟨j, hj, rfl⟩ := List.mem_iff_getElem.1 hy
        rw [hl.nth j hj]; simp only; omega
      | succ k =>
        have := ih (i + 1) (n - 1) _ hl (H.put x.1 (some x.2)) k (by omega)
        rw [show i + (k + 1) = i + 1 + k by omega]; exact this
  exact fun {H k} hk => key l i n c h H k hk
theorem Numb.mem {l : Cks} {i n : Nat} {c : Nat → Ck} (h : Numb l i n c) {o : Nat} {ck : Ck} (ho : ofL l o = some ck) : ∃ k, k < n ∧ o = i + k ∧ ck = c k := by
  have := ofL_mem ho
  obtain ⟨k, hk, e⟩ := List.mem_iff_getElem.1 this
  rw [h.nth k hk] at e
  injection e with e1 e2
  exact ⟨k, by rw [← h.len]; exact hk, e1.symm, e2.symm⟩

theorem newC_len (gs : Nat → Nat) : ∀ (rk : List RK) (x : Els (RK.tys rk)) (i : Nat), (newC gs rk x i).length = newN rk
  | [], _, _ => rfl
  | .v t :: r, x, i => newC_len gs r _ i
  | .n t :: r, x, i => by simp [newC, newN, newC_len gs r]
  | .o p :: r, x, i => by simp only [newC, newN, List.length_append, oC_len, newC_len gs r]; omega
/-- The chunk at a place of a list. -/
def ckAt (l : Cks) (k : Nat) : Ck := (l.getD k (0, ⟨0, 0, []⟩)).2
theorem numb_of {l : Cks} {i : Nat} (h : ∀ k (hk : k < l.length), l[k].1 = i + k) : Numb l i l.length (ckAt l) := ⟨rfl, fun k hk => by
  have := h k hk
  simp only [ckAt, List.getD_eq_getElem?_getD, List.getElem?_eq_getElem hk, Option.getD_some]
  rw [← this]⟩
theorem newC_num (gs : Nat → Nat) : ∀ (rk : List RK) (x : Els (RK.tys rk)) (i k : Nat) (hk : k < (newC gs rk x i).length), (newC gs rk x i)[k].1 = i + k
  | [], _, _, k, hk => by simp [newC] at hk
  | .v t :: r, x, i, k, hk => newC_num gs r _ i k hk
  | .n t :: r, x, i, 0, hk => rfl
  | .n t :: r, x, i, k + 1, hk => by
    simp only [newC, List.getElem_cons_succ]
    rw [newC_num gs r _ (i + 1) k]; omega
  | .o p :: r, x, i, k, hk => by
    simp only [newC]
    rw [List.getElem_append]
    split
    · exact oC_num gs p _ i k _
    · rename_i h
      rw [oC_len] at h
      rw [newC_num gs r _ (i + p.n)]
      simp only [oC_len]; omega

/-! ### Lists of chunks at two numberings -/
structure LE (ρ γ : Nat → Nat) (q : Nat) (l' l : Cks) (j : Nat) : Prop where
  len : l'.length = l.length
  nth : ∀ k (h : k < l.length) (h' : k < l'.length), l[k].1 = j + k ∧ l'[k].1 = ρ (j + k) ∧ CkE ρ γ q (γ (j + k)) l'[k].2 l[k].2
theorem LE.nil {ρ γ : Nat → Nat} {q j : Nat} : LE ρ γ q [] [] j := ⟨rfl, fun k h => by simp at h⟩
theorem LE.cons {ρ γ : Nat → Nat} {q j : Nat} {c' c : Nat × Ck} {l' l : Cks} (h1 : c.1 = j) (h2 : c'.1 = ρ j) (h3 : CkE ρ γ q (γ j) c'.2 c.2) (h : LE ρ γ q l' l (j + 1)) : LE ρ γ q (c' :: l') (c :: l) j :=
  ⟨by simp [h.len], fun k hk hk' => by
    cases k with
    | zero => exact ⟨h1, h2, h3⟩
    | succ k =>
      have := h.nth k (by simpa using hk) (by simpa using hk')
      simp only [List.getElem_cons_succ]
      rw [show j + (k + 1) = j + 1 + k by omega]; exact this⟩
theorem LE.append {ρ γ : Nat → Nat} {q j i : Nat} {a' a b' b : Cks} (h : LE ρ γ q a' a j) (k : LE ρ γ q b' b i) (hi : i = j + a.length) : LE ρ γ q (a' ++ b') (a ++ b) j :=
  ⟨by simp [h.len, k.len], fun m hm hm' => by
    rw [List.getElem_append, List.getElem_append]
    by_cases e : m < a.length
    · have e' : m < a'.length := by rw [h.len]; exact e
      rw [dif_pos e, dif_pos e']; exact h.nth m e e'
    · have e' : ¬ m < a'.length := by rw [h.len]; exact e
      rw [dif_neg e, dif_neg e']
      have := k.nth (m - a.length) (by simp at hm; omega) (by rw [k.len]; simp at hm; omega)
      have e2 : i + (m - a.length) = j + m := by omega
      rw [e2] at this
      simp only [h.len]; exact this⟩
/-- Plain chunks. -/
theorem CkE.flat {ρ γ : Nat → Nat} {q g g' sz : Nat} {xs : List (List DV)} (hg : g' = 0 + g) (h : ∀ x, x ∈ xs → ∀ d, d ∈ x → Ids (fun _ => False) d) : CkE ρ γ q g ⟨g', sz, xs⟩ ⟨0, sz, xs⟩ :=
  ⟨hg, rfl, rfl, fun i h1 h2 => ⟨rfl, fun j h3 h4 => .flat _ (h _ (List.getElem_mem h1) _ (List.getElem_mem h3))⟩⟩
/-! ### What the end of a walk says of the chunks -/
theorem CkW.box {t : GT} {e : El t} {cs : List IV} {H : Hp} {nx g : Nat} {ck : Ck} (h : CkR H nx (.box g cs) ck) (hd : dec t cs = some e) : CkW ck ⟨g, t.sz, [encD t e]⟩ := by
  obtain ⟨h1, ds, h2, h3, h4⟩ := h
  have hr := dec_rel hd h3
  refine ⟨h4.symm, by rw [h1, h3.1, RelT.len t e ds hr], by rw [h2]; rfl, fun i h5 h6 => ?_⟩
  have : i = 0 := by simpa using h5
  subst this
  have hw := relT_wk t e ds hr
  simp only [h2, List.getElem_cons_zero]
  exact ⟨hw.1.symm, fun j h7 h8 => hw.2 j h8 h7⟩

section ends
variable {s : St} {T : List (Nat × IV)} {HI : IH}


variable {dead : Nat → Bool} {H' : Hp} {nx' : Nat}
theorem decR_at (hs : SR ⟨T, HI⟩ s) : ∀ (rk : List RK) (vs : List IV) (y : Els (RK.tys rk)) (i : Nat) (ds : List DV), decR rk vs HI i = some y → Rels s.H s.nx vs ds →
    Both WkD ds (resD (gsOf s.H) rk y i) ∧ ∀ (k : Nat) c, (newC (gsOf s.H) rk y i)[k]? = some c → ∃ ck, s.H (i + k) = some ck ∧ CkW ck c.2
  | [], vs, y, i, ds, h, hr => by
    cases vs with
    | nil => rw [hr.nil_l]; exact ⟨.nil, fun k c hk => by simp [newC] at hk⟩
    | cons v l => simp [decR] at h
  | .v t :: r, vs, y, i, ds, h, hr => by
    cases vs with
    | nil => simp [decR] at h
    | cons v l =>
      obtain ⟨d, ds, rfl, h1, h2⟩ := hr.cons_l
      simp only [decR] at h
      split at h
      · rename_i a b ha hb
        injection h with h; subst h
        obtain ⟨q1, q2⟩ := decR_at hs r l b i ds hb h2
        simp only [resD, newC]
        rw [show hd t (RK.tys r) (cns t (RK.tys r) a b) = a from hd_cns t _ a b, show tl t (RK.tys r) (cns t (RK.tys r) a b) = b from tl_cns t _ a b]
        exact ⟨q1.cons (decV_wk ha h1), q2⟩
      · cases h
  | .n t :: r, vs, y, i, ds, h, hr => by
    cases vs with
    | nil => simp [decR] at h
    | cons v l =>
      obtain ⟨d, ds, rfl, h1, h2⟩ := hr.cons_l
      simp only [decR] at h
      split at h
      · rename_i cs b hbq hc hb
        split at h
        · rename_i a ha
          injection h with h; subst h
          have := isP_eq hbq; subst this
          obtain ⟨q1, q2⟩ := decR_at hs r l b (i + 1) ds hb h2
          obtain ⟨_, ck, k1, k2⟩ := hs.h.at hc
          obtain ⟨g, rfl, _, hg⟩ := h1.ptr_inv
          obtain ⟨rfl, _⟩ := hg ck k1
          simp only [resD, newC]
          rw [show hd t (RK.tys r) (cns t (RK.tys r) a b) = a from hd_cns t _ a b, show tl t (RK.tys r) (cns t (RK.tys r) a b) = b from tl_cns t _ a b]
          have hg0 : ck.gen = 0 := by obtain ⟨_, _, _, _, e⟩ := k2; exact e
          refine ⟨q1.cons (by rw [hg0]; exact .refl _), fun k c hk => ?_⟩
          cases k with
          | zero => simp only [List.getElem?_cons_zero, Option.some.injEq] at hk; subst hk; exact ⟨ck, k1, CkW.box k2 ha⟩
          | succ k =>
            obtain ⟨c', a1, a2⟩ := q2 k c (by simpa using hk)
            exact ⟨c', by rw [show i + (k + 1) = i + 1 + k by omega]; exact a1, a2⟩
        · cases h
      · cases h
  | .o p :: r, vs, y, i, ds, h, hr => by
    cases vs with
    | nil => simp [decR] at h
    | cons v l =>
      obtain ⟨d, ds, rfl, h1, h2⟩ := hr.cons_l
      simp only [decR] at h
      split at h
      · rename_i a b ha hb
        injection h with h; subst h
        obtain ⟨q1, q2⟩ := decR_at hs r l b (i + p.n) ds hb h2
        obtain ⟨k1, k2⟩ := decOV_at hs ha h1
        simp only [resD, newC]
        rw [show hd p.ty (RK.tys r) (cns p.ty (RK.tys r) a b) = a from hd_cns p.ty _ a b, show tl p.ty (RK.tys r) (cns p.ty (RK.tys r) a b) = b from tl_cns p.ty _ a b]
        refine ⟨q1.cons k1, fun k c hk => ?_⟩
        rw [List.getElem?_append] at hk
        split at hk
        · exact k2 k c hk
        · rename_i hge
          rw [oC_len] at hge hk
          obtain ⟨ck, u1, u2⟩ := q2 _ c hk
          exact ⟨ck, by rw [show i + k = i + p.n + (k - p.n) by omega]; exact u1, u2⟩
      · cases h
end ends

/-- A chunk of plain rows. -/
def Fl (c : Ck) : Prop := ∃ (t : GT) (l : List (El t)), c.sz = t.sz ∧ c.xs = l.map (encD t)
theorem Fl.box {c : Ck} (h : ∃ (t : GT) (e : El t), c.sz = t.sz ∧ c.xs = [encD t e]) : Fl c := by
  obtain ⟨t, e, h1, h2⟩ := h
  exact ⟨t, [e], h1, h2⟩
theorem newC_fl (gs : Nat → Nat) : ∀ (rk : List RK) (x : Els (RK.tys rk)) (i : Nat) (c : Nat × Ck), c ∈ newC gs rk x i → Fl c.2
  | [], _, _, c, h => by cases h
  | .v t :: r, x, i, c, h => newC_fl gs r _ i c h
  | .n t :: r, x, i, c, h => by
    rcases List.mem_cons.1 h with rfl | h
    · exact ⟨t, [_], rfl, rfl⟩
    · exact newC_fl gs r _ _ c h
  | .o p :: r, x, i, c, h => by
    rcases List.mem_append.1 h with h | h
    · obtain ⟨t, l, e⟩ := oC_fl gs p _ i c h
      exact ⟨t, l, by rw [e], by rw [e]⟩
    · exact newC_fl gs r _ _ c h
theorem fl_ids {c : Ck} (h : Fl c) : ∀ x, x ∈ c.xs → ∀ d, d ∈ x → Ids (fun _ => False) d := by
  obtain ⟨t, l, _, h⟩ := h
  intro x hx d hd
  rw [h] at hx
  obtain ⟨e, _, rfl⟩ := List.mem_map.1 hx
  exact RelT.ids t e _ (encD_rel t e) d hd


theorem oDV_ids {S : Nat → Prop} (gs : Nat → Nat) (p : PT) (x : El p.ty) (i : Nat) (h : ∀ o, i ≤ o → o < i + p.n → S o) : Ids S (oDV gs p x i) := by
  have q := oD_ids gs p x i h
  unfold oDV
  cases ha : isAg p.ty with
  | true => exact .agg _ fun d hd => q d hd
  | false =>
    obtain ⟨_, ⟨d, he⟩⟩ := o_one ha x gs i
    rw [he] at q ⊢
    exact q d (by simp)
theorem resD_ids {S : Nat → Prop} (gs : Nat → Nat) : ∀ (rk : List RK) (y : Els (RK.tys rk)) (i : Nat), (∀ o, i ≤ o → o < i + newN rk → S o) → ∀ d, d ∈ resD gs rk y i → Ids S d
  | [], _, _, _, d, h => by cases h
  | .v t :: r, y, i, hS, d, h => by
    rcases List.mem_cons.1 h with rfl | h
    · exact (valD_ids t _).mono' fun _ h => h.elim
    · exact resD_ids gs r _ i hS d h
  | .n t :: r, y, i, hS, d, h => by
    rcases List.mem_cons.1 h with rfl | h
    · exact .ptr _ _ _ _ (hS i (Nat.le_refl _) (by simp [newN]))
    · exact resD_ids gs r _ (i + 1) (fun o h1 h2 => hS o (by omega) (by simp only [newN]; omega)) d h
  | .o p :: r, y, i, hS, d, h => by
    rcases List.mem_cons.1 h with rfl | h
    · exact oDV_ids gs p _ i fun o h1 h2 => hS o h1 (by simp only [newN]; omega)
    · exact resD_ids gs r _ (i + p.n) (fun o h1 h2 => hS o (by omega) (by simp only [newN]; omega)) d h
theorem resV_wk {ds es : List DV} (h : Both WkD ds es) : WkD (resV ds) (resV es) := by
  cases ds with
  | nil => rw [h.nil_l]; exact .refl _
  | cons d ds =>
    obtain ⟨e1, es', rfl, q1, q2⟩ := h.cons_l
    cases ds with
    | nil => rw [q2.nil_l]; exact q1
    | cons d2 ds =>
      obtain ⟨e2, es2, rfl, q3, q4⟩ := q2.cons_l
      exact VR.tup_wk h

theorem oD_rg {dead : Nat → Bool} {H H' : Hp} {nx' : Nat} : ∀ (p : PT) (x : El p.ty) (i : Nat), (∀ (k : Nat) c, (oC (gsOf H) p x i)[k]? = some c → i + k < nx' ∧ dead (i + k) = false ∧ ∃ ck, H (i + k) = some ck ∧ CkW ck c.2) → (∀ (k : Nat) c, (oC g0 p x i)[k]? = some c → H' (i + k) = some c.2) → Both (Rg dead H H' nx') (oD (gsOf H) p x i) (oD g0 p x i)
  | .v t, x, i, h, h' => ⟨rfl, fun j h1 h2 => .flat _ (RelT.ids t x _ (encD_rel t x) _ (List.getElem_mem h1))⟩
  | .a t, x, i, h, h' => by
    obtain ⟨a1, a4, ck, a2, a3⟩ := h 0 _ rfl
    have b1 := h' 0 _ rfl
    rw [Nat.add_zero] at a1 a2 a4 b1
    refine .one (.own _ _ _ _ a1 a4 fun ck' hk => ?_)
    rw [b1] at hk
    injection hk with hk; subst hk
    exact ⟨ck, a2, a3.g.symm, a3.l.symm, a3.s.symm⟩
  | .p a b, x, i, h, h' => by
    simp only [oD]
    refine (oD_rg a x.1 i (fun k c hk => h k c ?_) (fun k c hk => h' k c ?_)).append (oD_rg b x.2 (i + a.n) (fun k c hk => ?_) (fun k c hk => ?_))
    · simp only [oC]
      rw [List.getElem?_append_left]; exact hk
      exact (List.getElem?_eq_some_iff.1 hk).1
    · simp only [oC]
      rw [List.getElem?_append_left]; exact hk
      exact (List.getElem?_eq_some_iff.1 hk).1
    · have := h (a.n + k) c (by
        simp only [oC]
        rw [List.getElem?_append_right (by rw [oC_len]; omega), oC_len, show a.n + k - a.n = k by omega]; exact hk)
      rw [Nat.add_assoc]; exact this
    · have := h' (a.n + k) c (by
        simp only [oC]
        rw [List.getElem?_append_right (by rw [oC_len]; omega), oC_len, show a.n + k - a.n = k by omega]; exact hk)
      rw [Nat.add_assoc]; exact this
theorem resD_rg {dead : Nat → Bool} {H H' : Hp} {nx' : Nat} : ∀ (rk : List RK) (y : Els (RK.tys rk)) (i : Nat), (∀ (k : Nat) c, (newC (gsOf H) rk y i)[k]? = some c → i + k < nx' ∧ dead (i + k) = false ∧ ∃ ck, H (i + k) = some ck ∧ CkW ck c.2) → (∀ (k : Nat) c, (newC g0 rk y i)[k]? = some c → H' (i + k) = some c.2) → Both (Rg dead H H' nx') (resD (gsOf H) rk y i) (resD g0 rk y i)
  | [], _, _, _, _ => .nil
  | .v t :: r, y, i, h, h' => (resD_rg r _ i h h').cons (.flat _ (valD_ids t _))
  | .n t :: r, y, i, h, h' => by
    obtain ⟨a1, a4, ck, a2, a3⟩ := h 0 _ rfl
    have b1 := h' 0 _ rfl
    rw [Nat.add_zero] at a1 a2 a4 b1
    refine (resD_rg r _ (i + 1) (fun k c hk => ?_) (fun k c hk => ?_)).cons (.ptr _ _ _ _ a1 a4 fun ck' hk => ?_)
    · have := h (k + 1) c (by simp only [newC, List.getElem?_cons_succ]; exact hk)
      rw [show i + 1 + k = i + (k + 1) by omega]; exact this
    · have := h' (k + 1) c (by simp only [newC, List.getElem?_cons_succ]; exact hk)
      rw [show i + 1 + k = i + (k + 1) by omega]; exact this
    · rw [b1] at hk
      injection hk with hk; subst hk
      exact ⟨ck, a2, a3.g.symm, a3.l.symm, a3.s.symm⟩
  | .o p :: r, y, i, h, h' => by
    have q := oD_rg (dead := dead) (H := H) (H' := H') (nx' := nx') p (hd p.ty (RK.tys r) y) i (fun k c hk => h k c (by
        simp only [newC]
        rw [List.getElem?_append_left]; exact hk
        exact (List.getElem?_eq_some_iff.1 hk).1)) (fun k c hk => h' k c (by
        simp only [newC]
        rw [List.getElem?_append_left]; exact hk
        exact (List.getElem?_eq_some_iff.1 hk).1))
    refine (resD_rg r _ (i + p.n) (fun k c hk => ?_) (fun k c hk => ?_)).cons ?_
    · have := h (p.n + k) c (by
        simp only [newC]
        rw [List.getElem?_append_right (by rw [oC_len]; omega), oC_len, show p.n + k - p.n = k by omega]; exact hk)
      rw [Nat.add_assoc]; exact this
    · have := h' (p.n + k) c (by
        simp only [newC]
        rw [List.getElem?_append_right (by rw [oC_len]; omega), oC_len, show p.n + k - p.n = k by omega]; exact hk)
      rw [Nat.add_assoc]; exact this
    · unfold oDV
      cases ha : isAg p.ty with
      | true => exact .agg _ _ q.1 q.2
      | false =>
        obtain ⟨_, ⟨d, he⟩⟩ := o_one ha (hd p.ty (RK.tys r) y) (gsOf H) i
        obtain ⟨_, ⟨d', he'⟩⟩ := o_one ha (hd p.ty (RK.tys r) y) g0 i
        rw [he, he'] at q
        rw [he, he']
        exact q.2 0 (by simp) (by simp)
theorem resV_rg {dead : Nat → Bool} {H H' : Hp} {nx' : Nat} {ds es : List DV} (h : Both (Rg dead H H' nx') ds es) : Rg dead H H' nx' (resV ds) (resV es) := by
  cases ds with
  | nil => rw [h.nil_l]; exact .tup _ _ rfl (fun j h => by cases h)
  | cons d ds =>
    obtain ⟨e1, es', rfl, q1, q2⟩ := h.cons_l
    cases ds with
    | nil => rw [q2.nil_l]; exact q1
    | cons d2 ds =>
      obtain ⟨e2, es2, rfl, q3, q4⟩ := q2.cons_l
      exact .tup _ _ h.1 h.2

def z0 (c : Nat × Ck) : Nat × Ck := (c.1, ⟨0, c.2.sz, c.2.xs⟩)
theorem oC_g0 (gs : Nat → Nat) : ∀ (p : PT) (x : El p.ty) (i : Nat), oC g0 p x i = (oC gs p x i).map z0
  | .v _, _, _ => rfl
  | .a _, _, _ => rfl
  | .p a b, x, i => by simp only [oC, List.map_append, oC_g0 gs a, oC_g0 gs b]
theorem newC_g0 (gs : Nat → Nat) : ∀ (rk : List RK) (y : Els (RK.tys rk)) (i : Nat), newC g0 rk y i = (newC gs rk y i).map z0
  | [], _, _ => rfl
  | .v t :: r, y, i => newC_g0 gs r _ i
  | .n t :: r, y, i => by simp only [newC, List.map_cons, newC_g0 gs r]; rfl
  | .o p :: r, y, i => by simp only [newC, List.map_append, newC_g0 gs r, oC_g0 gs p]


/-- A plain chunk is told the same in another heap. -/
theorem CkW.toG {dead : Nat → Bool} {H H' : Hp} {nx nx' : Nat} (hsub : ∀ o ck', H' o = some ck' → dead o = false → ∃ ck, H o = some ck) {c0 ck : Ck} (h : CkW c0 ⟨c0.gen, ck.sz, ck.xs⟩) (hf : ∀ x, x ∈ ck.xs → ∀ d, d ∈ x → Ids (fun _ => False) d) : CkG dead H nx H' nx' c0 ck :=
  ⟨h.s, h.l, fun i h1 h2 => ⟨(h.r i h1 h2).1, fun j h3 h4 ps M w v hv => (Rg.flat (dead := dead) (H := H) (H' := H') (nx' := nx') _ (hf _ (List.getElem_mem h1) _ (List.getElem_mem h3))).vr hsub ps M w v ((h.r i h1 h2).2 j h3 h4 _ _ _ _ _ _ hv)⟩⟩

theorem AWP.monoW {P : Program} {cx : Cx} {ow : Nat → Bool} {Q Q' : Exit → St → Prop} {s : St} {ac : AC} (h : AWP P cx ow ac Q s) (hq : ∀ e s, cx.nb ≤ s.nx → Q e s → ∃ s', Wk cx s s' ∧ Q' e s') : AWP P cx ow ac Q' s := fun hm c hc hz ps a w R =>
  wpIn_mono (h hm c hc hz ps a w R) fun e a w ⟨s', ps', R', q⟩ => by
    obtain ⟨s2, w2, q2⟩ := hq e s' R'.nbx q
    obtain ⟨ps2, R2⟩ := w2 ps' a w R'
    exact ⟨s2, ps2, R2, q2⟩

end Go.Pv
