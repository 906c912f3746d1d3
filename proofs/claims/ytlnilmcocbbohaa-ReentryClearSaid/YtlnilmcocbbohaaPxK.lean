/- Functions that turn boxes, or make new boxes and arrays: their contracts (SFOK), out of a walk by computation, and as entries. No condition of its own: over any program. -/
import Derived.Test.YtlnilmcocbbohaaPxJ
set_option linter.all false
namespace Go.Pv
open Go.RowKit

/-- A result: a value, a new box. -/
inductive RK where
  | v (t : GT)
  | n (t : GT)
def RK.ty : RK → GT
  | .v t => t
  | .n t => t

/-- An argument: a value (false), or a pointer to a whole box (true). -/
abbrev AK := Bool × GT
def outs : List AK → List GT
  | [] => []
  | (true, t) :: r => t :: outs r
  | (false, _) :: r => outs r
def AK.tys : List AK → List GT
  | [] => []
  | (_, t) :: r => t :: AK.tys r
def RK.tys : List RK → List GT
  | [] => []
  | k :: r => k.ty :: RK.tys r

/-- The first of some elements, and the others. -/
def hd : (t : GT) → (r : List GT) → Els (t :: r) → El t
  | _, [], x => x
  | _, _ :: _, x => x.1
def tl : (t : GT) → (r : List GT) → Els (t :: r) → Els r
  | _, [], _ => ()
  | _, _ :: _, x => x.2
def cns : (t : GT) → (r : List GT) → El t → Els r → Els (t :: r)
  | _, [], x, _ => x
  | _, _ :: _, x, y => (x, y)

theorem hd_cns : ∀ (t : GT) (r : List GT) (x : El t) (y : Els r), hd t r (cns t r x y) = x
  | _, [], _, _ => rfl
  | _, _ :: _, _, _ => rfl
theorem tl_cns : ∀ (t : GT) (r : List GT) (x : El t) (y : Els r), tl t r (cns t r x y) = y
  | _, [], _, _ => rfl
  | _, _ :: _, _, _ => rfl

/-- Arguments, pointers numbered from j on. -/
def argsI : (ks : List AK) → Els (AK.tys ks) → Nat → List IV
  | [], _, _ => []
  | (true, t) :: r, x, j => .ptr j 0 0 :: argsI r (tl t (AK.tys r) x) (j + 1)
  | (false, t) :: r, x, j => valI t (hd t (AK.tys r) x) :: argsI r (tl t (AK.tys r) x) j
def argsD (ρ γ : Nat → Nat) : (ks : List AK) → Els (AK.tys ks) → Nat → List DV
  | [], _, _ => []
  | (true, t) :: r, x, j => (.ptr (ρ j) (γ j) 0 0) :: argsD ρ γ r (tl t (AK.tys r) x) (j + 1)
  | (false, t) :: r, x, j => valD t (hd t (AK.tys r) x) :: argsD ρ γ r (tl t (AK.tys r) x) j
def boxI : (ks : List AK) → Els (AK.tys ks) → IH
  | [], _ => []
  | (true, t) :: r, x => some (.box 0 (encC t (hd t (AK.tys r) x))) :: boxI r (tl t (AK.tys r) x)
  | (false, t) :: r, x => boxI r (tl t (AK.tys r) x)
/-- What lies in the boxes. -/
def inB' : (ks : List AK) → Els (AK.tys ks) → Els (outs ks)
  | [], _ => ()
  | (true, t) :: r, x => cns t (outs r) (hd t (AK.tys r) x) (inB' r (tl t (AK.tys r) x))
  | (false, t) :: r, x => inB' r (tl t (AK.tys r) x)
/-- Chunks of boxes, numbered from j on. -/
def boxC (ρ g : Nat → Nat) : (ts : List GT) → Els ts → Nat → Cks
  | [], _, _ => []
  | t :: r, x, j => (ρ j, ⟨g j, t.sz, [encD t (hd t r x)]⟩) :: boxC ρ g r (tl t r x) (j + 1)

def decB : (ts : List GT) → IH → Nat → Option (Els ts)
  | [], _, _ => some ()
  | t :: r, H, j => match getH H j, decB r H (j + 1) with
    | some (.box 0 cs), some y => match dec t cs with
      | some x => some (cns t r x y)
      | none => none
    | _, _ => none
def isP (v : IV) (i : Nat) : Bool := match v with
  | .ptr o 0 0 => Nat.beq o i
  | _ => false
theorem isP_eq {v : IV} {i : Nat} (h : isP v i = true) : v = .ptr i 0 0 := by
  unfold isP at h; split at h
  · rw [Nat.eq_of_beq_eq_true h]
  · cases h
def decR : (rk : List RK) → List IV → IH → Nat → Option (Els (RK.tys rk))
  | [], [], _, _ => some ()
  | .v t :: r, v :: l, H, i => match decV t v, decR r l H i with
    | some x, some y => some (cns t (RK.tys r) x y)
    | _, _ => none
  | .n t :: r, v :: l, H, i => match isP v i, getH H i, decR r l H (i + 1) with
    | true, some (.box 0 cs), some y => match dec t cs with
      | some x => some (cns t (RK.tys r) x y)
      | none => none
    | _, _, _ => none
  | [], _ :: _, _, _ => none
  | _ :: _, [], _, _ => none

def newN : List RK → Nat
  | [] => 0
  | .v _ :: r => newN r
  | .n _ :: r => newN r + 1
def resD : (rk : List RK) → Els (RK.tys rk) → Nat → List DV
  | [], _, _ => []
  | .v t :: r, x, i => valD t (hd t (RK.tys r) x) :: resD r (tl t (RK.tys r) x) i
  | .n t :: r, x, i => .ptr i 0 0 0 :: resD r (tl t (RK.tys r) x) (i + 1)
def resIV : (rk : List RK) → Els (RK.tys rk) → Nat → List IV
  | [], _, _ => []
  | .v t :: r, x, i => valI t (hd t (RK.tys r) x) :: resIV r (tl t (RK.tys r) x) i
  | .n t :: r, x, i => .ptr i 0 0 :: resIV r (tl t (RK.tys r) x) (i + 1)
def newC : (rk : List RK) → Els (RK.tys rk) → Nat → Cks
  | [], _, _ => []
  | .v t :: r, x, i => newC r (tl t (RK.tys r) x) i
  | .n t :: r, x, i => (i, ⟨0, t.sz, [encD t (hd t (RK.tys r) x)]⟩) :: newC r (tl t (RK.tys r) x) (i + 1)
def newI : (rk : List RK) → Els (RK.tys rk) → IH
  | [], _ => []
  | .v t :: r, x => newI r (tl t (RK.tys r) x)
  | .n t :: r, x => some (.box 0 (encC t (hd t (RK.tys r) x))) :: newI r (tl t (RK.tys r) x)

def finS (rs : List RR) (ks : List AK) (rk : List RK) (p : Nat) : Exit → SI → Option (Els (RK.tys rk) × Els (outs ks))
  | .normal, si => (match rrI si.T si.H rs, decB (outs ks) si.H 0 with
    | some vs, some z => match decR rk vs si.H p with
      | some y => some (y, z)
      | none => none
    | _, _ => none)
  | .ret, si => (match rrI si.T si.H rs, decB (outs ks) si.H 0 with
    | some vs, some z => match decR rk vs si.H p with
      | some y => some (y, z)
      | none => none
    | _, _ => none)
  | _, _ => none

def finE (rs : List RR) (ks : List AK) (rk : List RK) (p : Nat) (si : SI) : Option (Els (RK.tys rk) × Els (outs ks)) := finS rs ks rk p .ret si

def SFOK (P : Program) (f : FuncId) (ks : List AK) (rk : List RK) (model : Els (AK.tys ks) → Option (Els (RK.tys rk) × Els (outs ks))) : Prop := ∀ x y z, model x = some (y, z) → 
  CallOK P f (argsD id (fun _ => 0) ks x 0) (boxC id (fun _ => 0) (outs ks) (inB' ks x) 0) (outs ks).length (resV (resD rk y (outs ks).length)) (boxC id (fun _ => 0) (outs ks) z 0 ++ newC rk y (outs ks).length) ((outs ks).length + newN rk)

/-! ### Chunks of a list, one by one -/
theorem puts_get_ne {H : Hp} : ∀ {l : Cks} {o : Nat}, (∀ x, x ∈ l → x.1 ≠ o) → puts H l o = H o
  | [], o, h => rfl
  | x :: l, o, h => by
    rw [puts_cons, puts_get_ne fun y hy => h y (List.mem_cons_of_mem _ hy), Hp.put_ne _ _ _ (Ne.symm (h x (by simp)))]

/-- Chunk number k of a list that is numbered from i on. -/
structure Numb (l : Cks) (i n : Nat) (c : Nat → Ck) : Prop where
  len : l.length = n
  nth : ∀ k (h : k < l.length), l[k] = (i + k, c k)

theorem Numb.get {l : Cks} {i n : Nat} {c : Nat → Ck} (h : Numb l i n c) : ∀ {H : Hp} {k : Nat}, k < n → puts H l (i + k) = some (c k) := by
  have key : ∀ (l : Cks) (i n : Nat) (c : Nat → Ck), Numb l i n c → ∀ (H : Hp) (k : Nat), k < n → puts H l (i + k) = some (c k) := by
    intro l
    induction l with
    | nil => intro i n c h H k hk; have := h.len; simp at this; omega
    | cons x l ih =>
      intro i n c h H k hk
      have h0 := h.nth 0 (by simp)
      simp only [List.getElem_cons_zero, Nat.add_zero] at h0
      have hl : Numb l (i + 1) (n - 1) (fun k => c (k + 1)) := ⟨by have := h.len; simp at this; omega, fun k hk => by
        have := h.nth (k + 1) (by simp; omega)
        simp only [List.getElem_cons_succ] at this
        rw [this]; congr 1; omega⟩
      rw [puts_cons]
      cases k with
      | zero =>
        rw [Nat.add_zero, puts_get_ne, h0, Hp.put_same]
        intro y hy
        obtain ⟨j, hj, rfl⟩ := List.mem_iff_getElem.1 hy
        rw [hl.nth j hj]; simp only; omega
      | succ k =>
        have := ih (i + 1) (n - 1) _ hl (H.put x.1 (some x.2)) k (by omega)
        rw [show i + (k + 1) = i + 1 + k by omega]; exact this
  exact fun {H k} hk => key l i n c h H k hk
theorem Numb.mem {l : Cks} {i n : Nat} {c : Nat → Ck} (h : Numb l i n c) {o : Nat} {ck : Ck} (ho : ofL l o = some ck) : ∃ k, k < n ∧ o = i + k ∧ ck = c k := by
  have := ofL_mem ho
  obtain ⟨k, hk, e⟩ := List.mem_iff_getElem.1 this
  rw [h.nth k hk] at e
  injection e with e1 e2
  exact ⟨k, by rw [← h.len]; exact hk, e1.symm, e2.symm⟩

theorem boxC_len (ρ g : Nat → Nat) : ∀ (ts : List GT) (x : Els ts) (j : Nat), (boxC ρ g ts x j).length = ts.length
  | [], _, _ => rfl
  | t :: r, x, j => by simp [boxC, boxC_len ρ g r]
theorem newC_len : ∀ (rk : List RK) (x : Els (RK.tys rk)) (i : Nat), (newC rk x i).length = newN rk
  | [], _, _ => rfl
  | .v t :: r, x, i => newC_len r _ i
  | .n t :: r, x, i => by simp [newC, newN, newC_len r]
/-- The chunk at a place of a list. -/
def ckAt (l : Cks) (k : Nat) : Ck := (l.getD k (0, ⟨0, 0, []⟩)).2
theorem numb_of {l : Cks} {i : Nat} (h : ∀ k (hk : k < l.length), l[k].1 = i + k) : Numb l i l.length (ckAt l) := ⟨rfl, fun k hk => by
  have := h k hk
  simp only [ckAt, List.getD_eq_getElem?_getD, List.getElem?_eq_getElem hk, Option.getD_some]
  rw [← this]⟩
theorem boxC_num (g : Nat → Nat) : ∀ (ts : List GT) (x : Els ts) (j k : Nat) (hk : k < (boxC id g ts x j).length), (boxC id g ts x j)[k].1 = j + k
  | [], _, _, k, hk => by simp [boxC] at hk
  | t :: r, x, j, 0, hk => rfl
  | t :: r, x, j, k + 1, hk => by
    simp only [boxC, List.getElem_cons_succ]
    rw [boxC_num g r _ (j + 1) k]; omega
theorem newC_num : ∀ (rk : List RK) (x : Els (RK.tys rk)) (i k : Nat) (hk : k < (newC rk x i).length), (newC rk x i)[k].1 = i + k
  | [], _, _, k, hk => by simp [newC] at hk
  | .v t :: r, x, i, k, hk => newC_num r _ i k hk
  | .n t :: r, x, i, 0, hk => rfl
  | .n t :: r, x, i, k + 1, hk => by
    simp only [newC, List.getElem_cons_succ]
    rw [newC_num r _ (i + 1) k]; omega
theorem boxC_at (ρ g : Nat → Nat) : ∀ (ts : List GT) (x : Els ts) (j k : Nat) (hk : k < (boxC ρ g ts x j).length), ∃ (t : GT) (e : El t), ts[k]? = some t ∧ (boxC ρ g ts x j)[k] = (ρ (j + k), ⟨g (j + k), t.sz, [encD t e]⟩)
  | [], _, _, k, hk => by simp [boxC] at hk
  | t :: r, x, j, 0, hk => ⟨t, _, rfl, rfl⟩
  | t :: r, x, j, k + 1, hk => by
    simp only [boxC, List.getElem_cons_succ, List.getElem?_cons_succ]
    have := boxC_at ρ g r (tl t r x) (j + 1) k (by simpa [boxC] using hk)
    rw [show j + (k + 1) = j + 1 + k by omega]; exact this

/-! ### What the end of a walk says of the chunks -/
theorem CkW.box {t : GT} {e : El t} {cs : List IV} {H : Hp} {nx g : Nat} {ck : Ck} (h : CkR H nx (.box g cs) ck) (hd : dec t cs = some e) : CkW ck ⟨g, t.sz, [encD t e]⟩ := by
  obtain ⟨h1, ds, h2, h3, h4⟩ := h
  have hr := dec_rel hd h3
  refine ⟨h4.symm, by rw [h1, h3.1, RelT.len t e ds hr], by rw [h2]; rfl, fun i h5 h6 => ?_⟩
  have : i = 0 := by simpa using h5
  subst this
  have hw := relT_wk t e ds hr
  simp only [h2, List.getElem_cons_zero]
  exact ⟨hw.1.symm, fun j h7 h8 => hw.2 j h8 h7⟩

section ends
variable {s : St} {T : List (Nat × IV)} {HI : IH}

theorem decB_at (hs : SR ⟨T, HI⟩ s) : ∀ (ts : List GT) (z : Els ts) (j : Nat), decB ts HI j = some z → ∀ (k : Nat) c, (boxC id (fun _ => 0) ts z j)[k]? = some c → ∃ ck, s.H (j + k) = some ck ∧ CkW ck c.2
  | [], z, j, h, k, c, hk => by simp [boxC] at hk
  | t :: r, z, j, h, k, c, hk => by
    simp only [decB] at h
    split at h
    · rename_i cs y hc hy
      split at h
      · rename_i x hx
        injection h with h; subst h
        simp only [boxC, hd_cns, tl_cns] at hk
        cases k with
        | zero =>
          simp only [List.getElem?_cons_zero, Option.some.injEq] at hk; subst hk
          obtain ⟨_, ck, h1, h2⟩ := hs.h.at hc
          exact ⟨ck, h1, CkW.box h2 hx⟩
        | succ k =>
          obtain ⟨ck, h1, h2⟩ := decB_at hs r y (j + 1) hy k c (by simpa using hk)
          exact ⟨ck, by rw [show j + (k + 1) = j + 1 + k by omega]; exact h1, h2⟩
      · cases h
    · cases h


theorem decR_at (hs : SR ⟨T, HI⟩ s) : ∀ (rk : List RK) (vs : List IV) (y : Els (RK.tys rk)) (i : Nat) (ds : List DV), decR rk vs HI i = some y → Rels s.H s.nx vs ds →
    Both WkD ds (resD rk y i) ∧ ∀ (k : Nat) c, (newC rk y i)[k]? = some c → ∃ ck, s.H (i + k) = some ck ∧ CkW ck c.2
  | [], vs, y, i, ds, h, hr => by
    cases vs with
    | nil => rw [hr.nil_l]; exact ⟨.nil, fun k c hk => by simp [newC] at hk⟩
    | cons v l => simp [decR] at h
  | .v t :: r, vs, y, i, ds, h, hr => by
    cases vs with
    | nil => simp [decR] at h
    | cons v l =>
      obtain ⟨d, ds, rfl, h1, h2⟩ := hr.cons_l
      simp only [decR] at h
      split at h
      · rename_i a b ha hb
        injection h with h; subst h
        obtain ⟨q1, q2⟩ := decR_at hs r l b i ds hb h2
        simp only [resD, newC]
        rw [show hd t (RK.tys r) (cns t (RK.tys r) a b) = a from hd_cns t _ a b, show tl t (RK.tys r) (cns t (RK.tys r) a b) = b from tl_cns t _ a b]
        exact ⟨q1.cons (decV_wk ha h1), q2⟩
      · cases h
  | .n t :: r, vs, y, i, ds, h, hr => by
    cases vs with
    | nil => simp [decR] at h
    | cons v l =>
      obtain ⟨d, ds, rfl, h1, h2⟩ := hr.cons_l
      simp only [decR] at h
      split at h
      · rename_i cs b hbq hc hb
        split at h
        · rename_i a ha
          injection h with h; subst h
          have := isP_eq hbq; subst this
          obtain ⟨q1, q2⟩ := decR_at hs r l b (i + 1) ds hb h2
          obtain ⟨_, ck, k1, k2⟩ := hs.h.at hc
          obtain ⟨g, rfl, _, hg⟩ := h1.ptr_inv
          obtain ⟨rfl, _⟩ := hg ck k1
          simp only [resD, newC]
          rw [show hd t (RK.tys r) (cns t (RK.tys r) a b) = a from hd_cns t _ a b, show tl t (RK.tys r) (cns t (RK.tys r) a b) = b from tl_cns t _ a b]
          have hg0 : ck.gen = 0 := by obtain ⟨_, _, _, _, e⟩ := k2; exact e
          refine ⟨q1.cons (by rw [hg0]; exact .refl _), fun k c hk => ?_⟩
          cases k with
          | zero => simp only [List.getElem?_cons_zero, Option.some.injEq] at hk; subst hk; exact ⟨ck, k1, CkW.box k2 ha⟩
          | succ k =>
            obtain ⟨c', a1, a2⟩ := q2 k c (by simpa using hk)
            exact ⟨c', by rw [show i + (k + 1) = i + 1 + k by omega]; exact a1, a2⟩
        · cases h
      · cases h
end ends

theorem numb_app {a b : Cks} {i j : Nat} (h1 : ∀ k (hk : k < a.length), a[k].1 = i + k) (h2 : ∀ k (hk : k < b.length), b[k].1 = j + k) (hj : j = i + a.length) : ∀ k (hk : k < (a ++ b).length), (a ++ b)[k].1 = i + k := by
  intro k hk
  rw [List.getElem_append]
  split
  · exact h1 k _
  · rw [h2 (k - a.length)]; omega

theorem boxC_fl {ρ γ : Nat → Nat} {ts : List GT} {x : Els ts} {j : Nat} {c : Nat × Ck} (h : c ∈ boxC ρ γ ts x j) : ∃ (t : GT) (e : El t), c.2.sz = t.sz ∧ c.2.xs = [encD t e] := by
  obtain ⟨k, hk, rfl⟩ := List.mem_iff_getElem.1 h
  obtain ⟨t, e, _, h2⟩ := boxC_at ρ γ ts x j k hk
  exact ⟨t, e, by rw [h2], by rw [h2]⟩
theorem newC_fl : ∀ (rk : List RK) (x : Els (RK.tys rk)) (i : Nat) (c : Nat × Ck), c ∈ newC rk x i → ∃ (t : GT) (e : El t), c.2.sz = t.sz ∧ c.2.xs = [encD t e]
  | [], _, _, c, h => by cases h
  | .v t :: r, x, i, c, h => newC_fl r _ i c h
  | .n t :: r, x, i, c, h => by
    rcases List.mem_cons.1 h with rfl | h
    · exact ⟨t, _, rfl, rfl⟩
    · exact newC_fl r _ _ c h
theorem fl_ids {c : Ck} (h : ∃ (t : GT) (e : El t), c.sz = t.sz ∧ c.xs = [encD t e]) : ∀ x, x ∈ c.xs → ∀ d, d ∈ x → Ids (fun _ => False) d := by
  obtain ⟨t, e, _, h⟩ := h
  intro x hx d hd
  rw [h] at hx
  rw [List.mem_singleton.1 hx] at hd
  exact RelT.ids t e _ (encD_rel t e) d hd

theorem argsI_rel {H : Hp} {nx : Nat} : ∀ (ks : List AK) (x : Els (AK.tys ks)) (j : Nat), (∀ o, j ≤ o → o < j + (outs ks).length → o < nx ∧ ∀ ck, H o = some ck → ck.gen = 0 ∧ 0 < ck.xs.length) → Rels H nx (argsI ks x j) (argsD id (fun _ => 0) ks x j)
  | [], _, _, _ => .nil
  | (true, t) :: r, x, j, h => by
    have h0 := h j (Nat.le_refl _) (by simp [outs])
    refine (argsI_rel r _ (j + 1) fun o h1 h2 => h o (by omega) (by simp only [outs, List.length_cons]; omega)).cons (.ptr _ _ _ _ h0.1 h0.2)
  | (false, t) :: r, x, j, h => (argsI_rel r _ j h).cons (valI_rel t _)
theorem boxI_rel {H : Hp} {nx : Nat} : ∀ (ks : List AK) (x : Els (AK.tys ks)) (j : Nat) (o : Nat) (c : ICk), getH (boxI ks x) o = some c → ∃ cp, (boxC id (fun _ => 0) (outs ks) (inB' ks x) j)[o]? = some (j + o, cp) ∧ CkR H nx c cp
  | [], _, _, o, c, h => by simp [boxI, getH] at h
  | (true, t) :: r, x, j, 0, c, h => by
    simp only [boxI, getH, Option.some.injEq] at h; subst h
    simp only [outs, inB', boxC, hd_cns]
    exact ⟨_, rfl, CkR.boxI (by rw [← (encD_rel t _).len]; exact (encC_rel (H := H) (nx := nx) t _ _ (encD_rel t _)).1.symm) (encC_rel t _ _ (encD_rel t _))⟩
  | (true, t) :: r, x, j, o + 1, c, h => by
    simp only [boxI, getH] at h
    obtain ⟨cp, h1, h2⟩ := boxI_rel r _ (j + 1) o c h
    simp only [outs, inB', boxC, tl_cns, List.getElem?_cons_succ]
    exact ⟨cp, by rw [h1]; congr 2; omega, h2⟩
  | (false, t) :: r, x, j, o, c, h => boxI_rel r _ j o c h
theorem boxI_len : ∀ (ks : List AK) (x : Els (AK.tys ks)), (boxI ks x).length = (outs ks).length
  | [], _ => rfl
  | (true, t) :: r, x => by simp [boxI, outs, boxI_len r]
  | (false, t) :: r, x => boxI_len r _
theorem argsD_len (ρ γ : Nat → Nat) : ∀ (ks : List AK) (x : Els (AK.tys ks)) (j : Nat), (argsD ρ γ ks x j).length = ks.length
  | [], _, _ => rfl
  | (true, t) :: r, x, j => by simp [argsD, argsD_len ρ γ r]
  | (false, t) :: r, x, j => by simp [argsD, argsD_len ρ γ r]
theorem resD_ids {S : Nat → Prop} : ∀ (rk : List RK) (y : Els (RK.tys rk)) (i : Nat), (∀ o, i ≤ o → o < i + newN rk → S o) → ∀ d, d ∈ resD rk y i → Ids S d
  | [], _, _, _, d, h => by cases h
  | .v t :: r, y, i, hS, d, h => by
    rcases List.mem_cons.1 h with rfl | h
    · exact (valD_ids t _).mono' fun _ h => h.elim
    · exact resD_ids r _ i hS d h
  | .n t :: r, y, i, hS, d, h => by
    rcases List.mem_cons.1 h with rfl | h
    · exact .ptr _ _ _ _ (hS i (Nat.le_refl _) (by simp [newN]))
    · exact resD_ids r _ (i + 1) (fun o h1 h2 => hS o (by omega) (by simp only [newN]; omega)) d h
theorem resV_wk {ds es : List DV} (h : Both WkD ds es) : WkD (resV ds) (resV es) := by
  cases ds with
  | nil => rw [h.nil_l]; exact .refl _
  | cons d ds =>
    obtain ⟨e1, es', rfl, q1, q2⟩ := h.cons_l
    cases ds with
    | nil => rw [q2.nil_l]; exact q1
    | cons d2 ds =>
      obtain ⟨e2, es2, rfl, q3, q4⟩ := q2.cons_l
      exact VR.tup_wk h

theorem sfOK {P : Program} {f nt : Nat} {ow : Nat → Bool} {tc : TC} {rs : List RR} {env : List (Nat × Ent)} {N p : Nat} {ks : List AK} {rk : List RK} {model : Els (AK.tys ks) → Option (Els (RK.tys rk) × Els (outs ks))} (hm : P.follows .mixedOrders = true) (hf : FnOK P f nt ow tc.er rs) (hE : EnvOK P env) (hlen : Nat.ble ks.length nt = true)
    (hp : (outs ks).length = p) (hrun : ∀ x, run env N p tc ⟨argT0 (argsI ks x 0) 0, boxI ks x⟩ (finS rs ks rk p) = model x) : SFOK P f ks rk model := by
  intro x y z hy
  rw [hp]
  obtain ⟨fn, h1, h2, h3, rfl, h5, h6⟩ := hf.ex
  have npre := numb_of (l := boxC id (fun _ => 0) (outs ks) (inB' ks x) 0) (i := 0) (boxC_num _ _ _ 0)
  have nout : ∀ k (hk : k < (boxC id (fun _ => 0) (outs ks) z 0 ++ newC rk y p).length), (boxC id (fun _ => 0) (outs ks) z 0 ++ newC rk y p)[k].1 = 0 + k := numb_app (boxC_num _ _ _ 0) (newC_num rk y p) (by rw [boxC_len, hp]; omega)
  have npost := numb_of nout
  have lpost : (boxC id (fun _ => 0) (outs ks) z 0 ++ newC rk y p).length = p + newN rk := by rw [List.length_append, boxC_len, newC_len, hp]
  have lpre : (boxC id (fun _ => 0) (outs ks) (inB' ks x) 0).length = p := by rw [boxC_len, hp]
  have pget : ∀ o, o < p + newN rk → ∃ ck, ofL (boxC id (fun _ => 0) (outs ks) z 0 ++ newC rk y p) o = some ck := fun o ho => ⟨_, by have := npost.get (H := Hp.emp) (k := o) (by rw [lpost]; exact ho); rw [Nat.zero_add] at this; exact this⟩
  have flat : ∀ o ck, ofL (boxC id (fun _ => 0) (outs ks) z 0 ++ newC rk y p) o = some ck → ∃ (t : GT) (e : El t), ck.sz = t.sz ∧ ck.xs = [encD t e] := fun o ck ho => by
    rcases List.mem_append.1 (ofL_mem ho) with h | h
    · exact boxC_fl h
    · exact newC_fl rk y p _ h
  refine CallOK.intro2 hm h1 h2 h3 h5 h6 (by rw [argsD_len]; exact Nat.le_of_ble_eq_true hlen) (fun o ck h => ?_) (fun o ck h hlt => ?_) (Nat.le_add_right ..) ?_ (fun o ck h x hx c hc => ?_) (fun o ck h => ?_) fun cx hcx hnb => ?_
  · obtain ⟨k, hk, rfl, _⟩ := npre.mem h
    exact pget _ (by rw [lpre] at hk; omega)
  · exact ⟨_, by have := npre.get (H := Hp.emp) (k := o) (by rw [lpre]; exact hlt); rw [Nat.zero_add] at this; exact this⟩
  · exact resV_ids (resD_ids rk y p fun o h1 h2 => .inl (pget o h2))
  · exact (fl_ids (flat o ck h) x hx c hc).mono' fun _ h => h.elim
  · obtain ⟨k, hk, rfl, _⟩ := npost.mem h
    rw [lpost] at hk; omega
  · have hs : SR ⟨argT0 (argsI ks x 0) 0, boxI ks x⟩ ⟨ofArgs (argsD id (fun _ => 0) ks x 0), ofL (boxC id (fun _ => 0) (outs ks) (inB' ks x) 0), p⟩ := by
      have hget : ∀ o, o < p → ofL (boxC id (fun _ => 0) (outs ks) (inB' ks x) 0) o = some (ckAt (boxC id (fun _ => 0) (outs ks) (inB' ks x) 0) o) := fun o ho => by
        have := npre.get (H := Hp.emp) (k := o) (by rw [lpre]; exact ho); rw [Nat.zero_add] at this; exact this
      refine start_rel (argsI_rel ks x 0 fun o _ h2 => ⟨by omega, fun ck hk => ?_⟩) (fun o c hc => ?_) (by rw [boxI_len, hp])
      · have hm := ofL_mem hk
        obtain ⟨k, hk2, e⟩ := List.mem_iff_getElem.1 hm
        obtain ⟨t, e2, _, h4⟩ := boxC_at id (fun _ => 0) _ _ _ k hk2
        rw [h4] at e
        injection e with _ e
        subst e
        exact ⟨rfl, by simp⟩
      · have hlt := getH_lt _ _ _ hc
        rw [boxI_len, hp] at hlt
        obtain ⟨cp, q1, q2⟩ := boxI_rel (H := ofL (boxC id (fun _ => 0) (outs ks) (inB' ks x) 0)) (nx := p) ks x 0 o c hc
        refine ⟨hlt, cp, ?_, q2⟩
        rw [hget o hlt]
        simp only [ckAt, List.getD_eq_getElem?_getD, q1, Option.getD_some]
    have hr : run env N cx.nb tc ⟨argT0 (argsI ks x 0) 0, boxI ks x⟩ (finS rs ks rk p) = some (y, z) := by rw [hnb, ← hy]; exact hrun x
    refine (run_sound hE N tc _ _ _ hs hr).mono ?_
    rintro e s' ⟨si', k1, k2⟩
    have fin : (match rrI si'.T si'.H rs, decB (outs ks) si'.H 0 with
        | some vs, some z => match decR rk vs si'.H p with
          | some y => some (y, z)
          | none => none
        | _, _ => none) = some (y, z) → (∃ ds, rrV s'.T s'.H rs = some ds ∧ WkD (resV ds) (resV (resD rk y p))) ∧ ∀ o ck, ofL (boxC id (fun _ => 0) (outs ks) z 0 ++ newC rk y p) o = some ck → ∃ c0, s'.H o = some c0 ∧ CkW c0 ck := by
      intro k2
      split at k2
      · rename_i vs z' hv hz
        split at k2
        · rename_i y' hyy
          injection k2 with k2
          injection k2 with e1 e2; subst e1; subst e2
          obtain ⟨ds, q1, q2⟩ := rrI_rel k1 rs vs hv
          obtain ⟨q3, q4⟩ := decR_at k1 rk vs y' p ds hyy q2
          refine ⟨⟨ds, q1, resV_wk q3⟩, fun o ck ho => ?_⟩
          obtain ⟨k, hk, rfl, rfl⟩ := npost.mem ho
          rw [Nat.zero_add]
          simp only [ckAt, List.getD_eq_getElem?_getD, List.getElem?_eq_getElem hk, Option.getD_some]
          rw [List.getElem_append]
          split
          · rename_i hlt
            have := decB_at k1 (outs ks) z' 0 hz k _ (List.getElem?_eq_getElem hlt)
            rw [Nat.zero_add] at this; exact this
          · rename_i hge
            have hb : (boxC id (fun _ => 0) (outs ks) z' 0).length = p := by rw [boxC_len, hp]
            have hk2 : k - (boxC id (fun _ => 0) (outs ks) z' 0).length < (newC rk y' p).length := by rw [List.length_append] at hk; omega
            obtain ⟨ck, a1, a2⟩ := q4 _ _ (List.getElem?_eq_getElem hk2)
            have e : p + (k - (boxC id (fun _ => 0) (outs ks) z' 0).length) = k := by omega
            rw [e] at a1
            exact ⟨ck, a1, a2⟩
        · cases k2
      · cases k2
    cases e with
    | normal => obtain ⟨a, b⟩ := fin k2; exact ⟨.inl rfl, a, b⟩
    | ret => obtain ⟨a, b⟩ := fin k2; exact ⟨.inr rfl, a, b⟩
    | _ => simp [finS] at k2
end Go.Pv
