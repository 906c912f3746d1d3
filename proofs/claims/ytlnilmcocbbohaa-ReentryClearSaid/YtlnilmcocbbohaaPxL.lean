/- Entries for functions that turn boxes or make new ones. No condition of its own: over any program. -/
import Derived.Test.YtlnilmcocbbohaaPxK
set_option linter.all false
namespace Go.Pv
open Go.RowKit

def ptr0 : IV → Option Nat
  | .ptr o 0 0 => some o
  | _ => none
theorem ptr0_eq {v : IV} {o : Nat} (h : ptr0 v = some o) : v = .ptr o 0 0 := by
  unfold ptr0 at h; split at h
  · injection h with h; rw [h]
  · cases h
def readA : (ks : List AK) → List IV → IH → Option (Els (AK.tys ks) × List Nat)
  | [], [], _ => some ((), [])
  | (true, t) :: r, v :: l, H => match ptr0 v with
    | some o => match getH H o, readA r l H with
      | some (.box _ cs), some (y, os) => match dec t cs with
        | some x => some (cns t (AK.tys r) x y, o :: os)
        | none => none
      | _, _ => none
    | none => none
  | (false, t) :: r, v :: l, H => match decV t v, readA r l H with
    | some x, some (y, os) => some (cns t (AK.tys r) x y, os)
    | _, _ => none
  | [], _ :: _, _ => none
  | _ :: _, [], _ => none

def putB (o : Nat) (cs : List IV) (H : IH) : IH := match getH H o with
  | some (.box g _) => setH H o (some (.box g cs))
  | _ => H
def putBs : (ts : List GT) → Els ts → List Nat → IH → IH
  | [], _, _, H => H
  | _ :: _, _, [], H => H
  | t :: r, x, o :: os, H => putBs r (tl t r x) os (putB o (encC t (hd t r x)) H)
def numsFrom (i : Nat) : Nat → List Nat
  | 0 => []
  | n + 1 => i :: numsFrom (i + 1) n

def sfE (ks : List AK) (rk : List RK) (model : Els (AK.tys ks) → Option (Els (RK.tys rk) × Els (outs ks))) : Ent := fun args H k => match readA ks args H with
  | some (x, os) => cond (nodupB os) (Option.bind (model x) fun yz => k (resI (resIV rk yz.1 H.length)) (putBs (outs ks) yz.2 os H ++ newI rk yz.1) os (os ++ numsFrom H.length (newN rk))) none
  | none => none

/-- A list of chunks with keys that differ. -/
structure Keyed (l : Cks) (n : Nat) (key : Nat → Nat) (c : Nat → Ck) : Prop where
  len : l.length = n
  nth : ∀ k (h : k < l.length), l[k] = (key k, c k)
  inj : ∀ i j, i < n → j < n → key i = key j → i = j
theorem puts_has {H : Hp} {o : Nat} : ∀ {l : Cks}, o ∈ l.map (·.1) → ∃ ck, (o, ck) ∈ l ∧ ∀ H : Hp, puts H l o = some ck := by
  intro l h
  rcases puts_one l o with ⟨ck, h1, h2⟩ | h1
  · exact ⟨ck, h1, h2⟩
  · exfalso
    have key : ∀ (l : Cks) (H : Hp), o ∈ l.map (·.1) → ∃ ck, puts H l o = some ck := by
      intro l
      induction l with
      | nil => intro H h; simp at h
      | cons x l ih =>
        intro H h
        rw [puts_cons]
        by_cases hl : o ∈ l.map (·.1)
        · exact ih _ hl
        · have : o = x.1 := by simpa [hl] using h
          rw [puts_out hl, this, Hp.put_same]; exact ⟨_, rfl⟩
    obtain ⟨ck, hk⟩ := key l Hp.emp h
    rw [h1 Hp.emp] at hk; cases hk
theorem Keyed.get {l : Cks} {n : Nat} {key : Nat → Nat} {c : Nat → Ck} (h : Keyed l n key c) {k : Nat} (hk : k < n) (H : Hp) : puts H l (key k) = some (c k) := by
  have hk' : k < l.length := by rw [h.len]; exact hk
  have hm : key k ∈ l.map (·.1) := List.mem_map.2 ⟨_, List.getElem_mem hk', by rw [h.nth k hk']⟩
  obtain ⟨ck, h1, h2⟩ := puts_has (H := H) hm
  obtain ⟨j, hj, e⟩ := List.mem_iff_getElem.1 h1
  rw [h.nth j hj] at e
  injection e with e1 e2
  have := h.inj j k (by rw [← h.len]; exact hj) hk e1
  subst this
  rw [h2, e2]
theorem Keyed.mem {l : Cks} {n : Nat} {key : Nat → Nat} {c : Nat → Ck} (h : Keyed l n key c) {o : Nat} {ck : Ck} (ho : ofL l o = some ck) : ∃ k, k < n ∧ o = key k ∧ ck = c k := by
  obtain ⟨k, hk, e⟩ := List.mem_iff_getElem.1 (ofL_mem ho)
  rw [h.nth k hk] at e
  injection e with e1 e2
  exact ⟨k, by rw [← h.len]; exact hk, e1.symm, e2.symm⟩
theorem Keyed.out {l : Cks} {n : Nat} {key : Nat → Nat} {c : Nat → Ck} (h : Keyed l n key c) {o : Nat} (ho : ∀ k, k < n → o ≠ key k) (H : Hp) : puts H l o = H o := by
  refine puts_out fun hm => ?_
  obtain ⟨x, hx, e⟩ := List.mem_map.1 hm
  obtain ⟨k, hk, rfl⟩ := List.mem_iff_getElem.1 hx
  rw [h.nth k hk] at e
  exact ho k (by rw [← h.len]; exact hk) e.symm

/-! ### What is read of the arguments -/
theorem readA_at {H : Hp} {nx : Nat} {HI : IH} (hH : HRel HI H nx) (ρ γ : Nat → Nat) : ∀ (ks : List AK) (vs : List IV) (x : Els (AK.tys ks)) (os : List Nat) (ds : List DV) (j : Nat), readA ks vs HI = some (x, os) → Rels H nx vs ds →
    (∀ k o, os[k]? = some o → ρ (j + k) = o ∧ γ (j + k) = ((H o).map (·.gen)).getD 0) →
    os.length = (outs ks).length ∧ Both WkD ds (argsD ρ γ ks x j) ∧ ∀ (k : Nat) c, (boxC id (fun _ => 0) (outs ks) (inB' ks x) j)[k]? = some c → ∃ (o : Nat) (ck : Ck) (g : Nat) (cs : List IV), os[k]? = some o ∧ H o = some ck ∧ o < nx ∧ CkM ck.gen ck c.2 ∧ getH HI o = some (.box g cs) ∧ ck.gen = g
  | [], vs, x, os, ds, j, h, hr, hρ => by
    cases vs with
    | nil =>
      simp only [readA, Option.some.injEq, Prod.mk.injEq] at h
      obtain ⟨_, rfl⟩ := h
      rw [hr.nil_l]; exact ⟨rfl, .nil, fun k c hk => by simp [outs, boxC] at hk⟩
    | cons v l => simp [readA] at h
  | (true, t) :: r, vs, x, os, ds, j, h, hr, hρ => by
    cases vs with
    | nil => simp [readA] at h
    | cons v l =>
      obtain ⟨d, ds, rfl, h1, h2⟩ := hr.cons_l
      simp only [readA] at h
      split at h
      · rename_i o ho
        split at h
        · rename_i g cs y os' hc hy
          split at h
          · rename_i e he
            simp only [Option.some.injEq, Prod.mk.injEq] at h
            obtain ⟨rfl, rfl⟩ := h
            have := ptr0_eq ho; subst this
            obtain ⟨g', rfl, _, hg⟩ := h1.ptr_inv
            obtain ⟨hlt, ck, k1, k2⟩ := hH o _ hc
            obtain ⟨rfl, _⟩ := hg ck k1
            obtain ⟨q1, q2, q3⟩ := readA_at hH ρ γ r l y os' ds (j + 1) hy h2 fun k o' ho' => by
              have := hρ (k + 1) o' (by simpa using ho')
              rw [show j + 1 + k = j + (k + 1) by omega]; exact this
            have r0 := hρ 0 o rfl
            rw [Nat.add_zero] at r0
            refine ⟨by simp [outs, q1], ?_, fun k c hk => ?_⟩
            · simp only [argsD]
              rw [show tl t (AK.tys r) (cns t (AK.tys r) e y) = y from tl_cns t _ e y, r0.1, r0.2, k1]
              exact q2.cons (.refl _)
            · simp only [outs, inB', boxC] at hk
              cases k with
              | zero =>
                simp only [List.getElem?_cons_zero, Option.some.injEq] at hk; subst hk
                rw [show hd t (AK.tys r) (cns t (AK.tys r) e y) = e from hd_cns t _ e y, hd_cns]
                obtain ⟨a1, ds', a2, a3, a4⟩ := k2
                have hre := dec_rel he a3
                have hw := relT_wk t e ds' hre
                refine ⟨o, ck, g, cs, rfl, k1, hlt, ⟨by simp, by simp only [a1, a3.1]; exact (hre.len).symm, by simp [a2], fun i h5 h6 => ?_⟩, hc, a4⟩
                have : i = 0 := by simpa using h5
                subst this
                simp only [a2, List.getElem_cons_zero]
                exact ⟨hw.1.symm, fun j h7 h8 => hw.2 j h8 h7⟩
              | succ k =>
                obtain ⟨o', ck', g', cs', b1, b2⟩ := q3 k c (by
                  rw [show tl t (AK.tys r) (cns t (AK.tys r) e y) = y from tl_cns t _ e y, tl_cns] at hk
                  simpa using hk)
                exact ⟨o', ck', g', cs', by simpa using b1, b2⟩
          · cases h
        · cases h
      · cases h
  | (false, t) :: r, vs, x, os, ds, j, h, hr, hρ => by
    cases vs with
    | nil => simp [readA] at h
    | cons v l =>
      obtain ⟨d, ds, rfl, h1, h2⟩ := hr.cons_l
      simp only [readA] at h
      split at h
      · rename_i e y os' he hy
        simp only [Option.some.injEq, Prod.mk.injEq] at h
        obtain ⟨rfl, rfl⟩ := h
        obtain ⟨q1, q2, q3⟩ := readA_at hH ρ γ r l y _ ds j hy h2 hρ
        refine ⟨q1, ?_, fun k c hk => q3 k c ?_⟩
        · simp only [argsD]
          rw [show tl t (AK.tys r) (cns t (AK.tys r) e y) = y from tl_cns t _ e y, show hd t (AK.tys r) (cns t (AK.tys r) e y) = e from hd_cns t _ e y]
          exact q2.cons (decV_wk he h1)
        · simp only [outs, inB'] at hk
          rw [show tl t (AK.tys r) (cns t (AK.tys r) e y) = y from tl_cns t _ e y] at hk
          exact hk
      · cases h

theorem argsD_rn {ρ γ : Nat → Nat} {p : Nat} : ∀ (ks : List AK) (x : Els (AK.tys ks)) (j : Nat), j + (outs ks).length ≤ p → Both (Rn ρ γ p) (argsD ρ γ ks x j) (argsD id (fun _ => 0) ks x j)
  | [], _, _, _ => .nil
  | (true, t) :: r, x, j, h => by
    simp only [outs, List.length_cons] at h
    refine (argsD_rn r _ (j + 1) (by omega)).cons ?_
    have := Rn.ptr (r := ρ) (γ := γ) (q := p) j 0 0 0 (by omega)
    rw [Nat.zero_add] at this; exact this
  | (false, t) :: r, x, j, h => (argsD_rn r _ j h).cons (.flat _ (valD_ids t _))

def mvC (ρ γ : Nat → Nat) (c : Nat × Ck) : Nat × Ck := (ρ c.1, ⟨c.2.gen + γ c.1, c.2.sz, c.2.xs⟩)

theorem newC_mv {ρ γ : Nat → Nat} : ∀ (rk : List RK) (y : Els (RK.tys rk)) (i i' : Nat), (∀ k, k < newN rk → ρ (i + k) = i' + k ∧ γ (i + k) = 0) → newC rk y i' = (newC rk y i).map (mvC ρ γ)
  | [], _, _, _, _ => rfl
  | .v t :: r, y, i, i', h => newC_mv r _ i i' h
  | .n t :: r, y, i, i', h => by
    simp only [newC, List.map_cons]
    have h0 := h 0 (by simp [newN])
    rw [newC_mv (ρ := ρ) (γ := γ) r _ (i + 1) (i' + 1) fun k hk => by
      have := h (k + 1) (by simp only [newN]; omega)
      rw [show i + 1 + k = i + (k + 1) by omega]
      exact ⟨by rw [this.1]; omega, this.2⟩]
    simp only [Nat.add_zero] at h0
    simp only [mvC, h0.1, h0.2]
theorem resD_rn {ρ γ : Nat → Nat} {q : Nat} : ∀ (rk : List RK) (y : Els (RK.tys rk)) (i i' : Nat), (∀ k, k < newN rk → i + k < q ∧ ρ (i + k) = i' + k ∧ γ (i + k) = 0) → Both (Rn ρ γ q) (resD rk y i') (resD rk y i)
  | [], _, _, _, _ => .nil
  | .v t :: r, y, i, i', h => (resD_rn r _ i i' h).cons (.flat _ (valD_ids t _))
  | .n t :: r, y, i, i', h => by
    have h0 := h 0 (by simp [newN])
    simp only [Nat.add_zero] at h0
    refine (resD_rn r _ (i + 1) (i' + 1) fun k hk => ?_).cons ?_
    · have := h (k + 1) (by simp only [newN]; omega)
      rw [show i + 1 + k = i + (k + 1) by omega]
      exact ⟨this.1, by rw [this.2.1]; omega, this.2.2⟩
    · have := Rn.ptr (r := ρ) (γ := γ) (q := q) i 0 0 0 h0.1
      rw [h0.2.1, h0.2.2] at this; exact this
theorem resV_rn {ρ γ : Nat → Nat} {q : Nat} {ds es : List DV} (h : Both (Rn ρ γ q) ds es) : Rn ρ γ q (resV ds) (resV es) := by
  cases ds with
  | nil => rw [h.nil_l]; exact .tup _ _ rfl (fun j h => by cases h)
  | cons d ds =>
    obtain ⟨e1, es', rfl, q1, q2⟩ := h.cons_l
    cases ds with
    | nil => rw [q2.nil_l]; exact q1
    | cons d2 ds =>
      obtain ⟨e2, es2, rfl, q3, q4⟩ := q2.cons_l
      exact .tup _ _ h.1 h.2

theorem resIV_rel {H : Hp} {nx : Nat} : ∀ (rk : List RK) (y : Els (RK.tys rk)) (i : Nat), (∀ o, i ≤ o → o < i + newN rk → o < nx ∧ ∀ ck, H o = some ck → ck.gen = 0 ∧ 0 < ck.xs.length) → Rels H nx (resIV rk y i) (resD rk y i)
  | [], _, _, _ => .nil
  | .v t :: r, y, i, h => (resIV_rel r _ i h).cons (valI_rel t _)
  | .n t :: r, y, i, h => by
    have h0 := h i (Nat.le_refl _) (by simp [newN])
    exact (resIV_rel r _ (i + 1) fun o h1 h2 => h o (by omega) (by simp only [newN]; omega)).cons (.ptr _ _ _ _ h0.1 h0.2)

theorem newI_at {H : Hp} {nx : Nat} : ∀ (rk : List RK) (y : Els (RK.tys rk)) (i o : Nat) (c : ICk), getH (newI rk y) o = some c → ∃ cp, (newC rk y i)[o]? = some (i + o, cp) ∧ CkR H nx c cp
  | [], _, _, o, c, h => by simp [newI, getH] at h
  | .v t :: r, y, i, o, c, h => newI_at r _ i o c h
  | .n t :: r, y, i, 0, c, h => by
    simp only [newI, getH, Option.some.injEq] at h; subst h
    exact ⟨_, rfl, CkR.boxI (by rw [← (encD_rel t _).len]; exact (encC_rel (H := H) (nx := nx) t _ _ (encD_rel t _)).1.symm) (encC_rel t _ _ (encD_rel t _))⟩
  | .n t :: r, y, i, o + 1, c, h => by
    simp only [newI, getH] at h
    obtain ⟨cp, h1, h2⟩ := newI_at r _ (i + 1) o c h
    simp only [newC, List.getElem?_cons_succ]
    exact ⟨cp, by rw [h1]; congr 2; omega, h2⟩
theorem newI_len : ∀ (rk : List RK) (y : Els (RK.tys rk)), (newI rk y).length = newN rk
  | [], _ => rfl
  | .v t :: r, y => newI_len r _
  | .n t :: r, y => by simp [newI, newN, newI_len r]
theorem getH_append : ∀ (A B : IH) (o : Nat), getH (A ++ B) o = if o < A.length then getH A o else getH B (o - A.length)
  | [], B, o => by simp
  | c :: r, B, 0 => by simp [getH]
  | c :: r, B, o + 1 => by simp [getH, getH_append r B o]
theorem putB_len (o : Nat) (cs : List IV) (H : IH) : (putB o cs H).length = H.length := by
  unfold putB; split
  · exact setH_len _ _ _
  · rfl
theorem putBs_len : ∀ (ts : List GT) (x : Els ts) (os : List Nat) (H : IH), (putBs ts x os H).length = H.length
  | [], _, _, _ => rfl
  | _ :: _, _, [], _ => rfl
  | t :: r, x, o :: os, H => by simp [putBs, putBs_len r, putB_len]
theorem putB_get {o : Nat} {cs : List IV} {H : IH} {g : Nat} {cs0 : List IV} (h : getH H o = some (.box g cs0)) (o' : Nat) : getH (putB o cs H) o' = if o' = o then some (.box g cs) else getH H o' := by
  have hlt := getH_lt _ _ _ h
  unfold putB; rw [h]; simp only
  rw [getH_set]
  by_cases e : o' = o
  · rw [if_pos ⟨e, hlt⟩, if_pos e]
  · rw [if_neg fun h => e h.1, if_neg e]

/-- What boxes hold behind a call. -/
theorem putBs_at {H : Hp} {nx : Nat} (ρ γ : Nat → Nat) : ∀ (ts : List GT) (z : Els ts) (os : List Nat) (j : Nat) (HI : IH), os.length = ts.length → (∀ (i k o : Nat), os[i]? = some o → os[k]? = some o → i = k) →
    (∀ (k o : Nat), os[k]? = some o → ρ (j + k) = o ∧ ∃ cs, getH HI o = some (.box (γ (j + k)) cs)) → ∀ (o : Nat) (c : ICk), getH (putBs ts z os HI) o = some c →
      (∃ (k : Nat) (cp : Ck), os[k]? = some o ∧ (boxC ρ γ ts z j)[k]? = some (o, cp) ∧ CkR H nx c cp) ∨ ((∀ k : Nat, os[k]? ≠ some o) ∧ getH HI o = some c)
  | [], z, os, j, HI, hl, hnd, hb, o, c, h => by
    have : os = [] := List.eq_nil_of_length_eq_zero hl
    subst this
    exact .inr ⟨fun k => by simp, h⟩
  | t :: r, z, [], j, HI, hl, hnd, hb, o, c, h => by simp at hl
  | t :: r, z, o1 :: os, j, HI, hl, hnd, hb, o, c, h => by
    simp only [putBs] at h
    obtain ⟨r1, cs0, r2⟩ := hb 0 o1 rfl
    rw [Nat.add_zero] at r1 r2
    have hne : ∀ k o', os[k]? = some o' → o' ≠ o1 := fun k o' hk e => by
      subst e
      have := hnd 0 (k + 1) o' rfl (by simpa using hk)
      omega
    have ih := putBs_at (H := H) (nx := nx) ρ γ r (tl t r z) os (j + 1) (putB o1 (encC t (hd t r z)) HI) (by simpa using hl) (fun i k o' h1 h2 => by
      have := hnd (i + 1) (k + 1) o' (by simpa using h1) (by simpa using h2); omega) (fun k o' hk => by
      obtain ⟨a1, cs, a2⟩ := hb (k + 1) o' (by simpa using hk)
      rw [show j + 1 + k = j + (k + 1) by omega]
      refine ⟨a1, cs, ?_⟩
      rw [putB_get r2, if_neg (hne k o' hk)]; exact a2) o c h
    rcases ih with ⟨k, cp, b1, b2, b3⟩ | ⟨b1, b2⟩
    · exact .inl ⟨k + 1, cp, by simpa using b1, by simp only [boxC, List.getElem?_cons_succ]; exact b2, b3⟩
    · rw [putB_get r2] at b2
      by_cases e : o = o1
      · rw [if_pos e] at b2
        injection b2 with b2; subst b2; subst e
        refine .inl ⟨0, ⟨γ j, t.sz, [encD t (hd t r z)]⟩, rfl, by simp only [boxC, List.getElem?_cons_zero, r1], ?_⟩
        exact CkR.boxI (by rw [← (encD_rel t _).len]; exact (encC_rel (H := H) (nx := nx) t _ _ (encD_rel t _)).1.symm) (encC_rel t _ _ (encD_rel t _))
      · rw [if_neg e] at b2
        refine .inr ⟨fun k hk => ?_, b2⟩
        cases k with
        | zero => simp only [List.getElem?_cons_zero, Option.some.injEq] at hk; exact e hk.symm
        | succ k => exact b1 k (by simpa using hk)

theorem boxC_mv (ρ γ : Nat → Nat) : ∀ (ts : List GT) (x : Els ts) (j : Nat), boxC ρ γ ts x j = (boxC id (fun _ => 0) ts x j).map (mvC ρ γ)
  | [], _, _ => rfl
  | t :: r, x, j => by simp [boxC, boxC_mv ρ γ r, mvC]
theorem numsFrom_eq : ∀ (rk : List RK) (y : Els (RK.tys rk)) (i : Nat), (newC rk y i).map (·.1) = numsFrom i (newN rk)
  | [], _, _ => rfl
  | .v t :: r, y, i => numsFrom_eq r _ i
  | .n t :: r, y, i => by simp [newC, newN, numsFrom, numsFrom_eq r]
theorem boxC_keys {ρ γ : Nat → Nat} : ∀ (ts : List GT) (x : Els ts) (os : List Nat) (j : Nat), os.length = ts.length → (∀ (k o : Nat), os[k]? = some o → ρ (j + k) = o) → (boxC ρ γ ts x j).map (·.1) = os
  | [], _, os, _, hl, _ => by have : os = [] := List.eq_nil_of_length_eq_zero hl; subst this; rfl
  | t :: r, x, [], j, hl, _ => by simp at hl
  | t :: r, x, o :: os, j, hl, h => by
    simp only [boxC, List.map_cons]
    rw [boxC_keys r _ os (j + 1) (by simpa using hl) fun k o' hk => by rw [show j + 1 + k = j + (k + 1) by omega]; exact h (k + 1) o' (by simpa using hk)]
    have := h 0 o rfl
    rw [Nat.add_zero] at this; rw [this]

theorem nodupB_inj' {l : List Nat} (h : nodupB l = true) (i j o : Nat) (h1 : l[i]? = some o) (h2 : l[j]? = some o) : i = j := nodupB_inj h i j o h1 h2

theorem sfE_ok {P : Program} {f : FuncId} {ks : List AK} {rk : List RK} {model : Els (AK.tys ks) → Option (Els (RK.tys rk) × Els (outs ks))} (h : SFOK P f ks rk model) : EntOK P f (sfE ks rk model) := by
  intro R args HI k r hr dargs H nx ha hH hn
  simp only [sfE] at hr
  split at hr
  · rename_i x os hx
    obtain ⟨hnd, hr⟩ := cond_some hr
    cases hm : model x with
    | none => rw [hm] at hr; cases hr
    | some yz =>
      obtain ⟨y, z⟩ := yz
      rw [hm] at hr
      simp only [Option.bind_some] at hr
      let p := (outs ks).length
      let ρ : Nat → Nat := fun j => if j < p then os.getD j 0 else nx + (j - p)
      let γ : Nat → Nat := fun j => if j < p then ((H (os.getD j 0)).map (·.gen)).getD 0 else 0
      have key0 : ∀ (k o : Nat), os[k]? = some o → k < p → ρ (0 + k) = o ∧ γ (0 + k) = ((H o).map (·.gen)).getD 0 := fun k o hk hp => by
        simp only [ρ, γ, Nat.zero_add, hp, if_true, List.getD_eq_getElem?_getD, hk, Option.getD_some, and_self]
      have hlen : os.length = p := by
        have : ∀ (ks : List AK) (vs : List IV) (x : Els (AK.tys ks)) (os : List Nat), readA ks vs HI = some (x, os) → os.length = (outs ks).length := by
          intro ks
          induction ks with
          | nil => intro vs x os h; cases vs <;> simp [readA] at h; obtain ⟨_, rfl⟩ := h; rfl
          | cons k r ih =>
            intro vs x os h
            obtain ⟨b, t⟩ := k
            cases vs with
            | nil => cases b <;> simp [readA] at h
            | cons v l =>
              cases b with
              | true =>
                simp only [readA] at h
                split at h
                · split at h
                  · rename_i y os' _ hy
                    split at h
                    · simp only [Option.some.injEq, Prod.mk.injEq] at h
                      obtain ⟨_, rfl⟩ := h
                      simp [outs, ih _ _ _ hy]
                    · cases h
                  · cases h
                · cases h
              | false =>
                simp only [readA] at h
                split at h
                · rename_i e y os' _ hy
                  simp only [Option.some.injEq, Prod.mk.injEq] at h
                  obtain ⟨_, rfl⟩ := h
                  exact ih _ _ _ hy
                · cases h
        exact this ks args x os hx
      obtain ⟨_, q2, q3⟩ := readA_at hH ρ γ ks args x os dargs 0 hx ha fun k o hk => key0 k o hk (by rw [← hlen]; exact (List.getElem?_eq_some_iff.1 hk).1)
      have h0 := h x y z hm
      have osat : ∀ j, j < p → os[j]? = some (os.getD j 0) := fun j hj => by
        have : j < os.length := by rw [hlen]; exact hj
        simp [List.getD_eq_getElem?_getD, List.getElem?_eq_getElem this]
      have ρp : ∀ j, j < p → ρ j = os.getD j 0 := fun j hj => by simp only [ρ, hj, if_true]
      have ρn : ∀ j, p ≤ j → ρ j = nx + (j - p) := fun j hj => by simp only [ρ, if_neg (Nat.not_lt.2 hj)]
      -- what lies in the chunks of the arguments
      have at1 : ∀ j, j < p → ∃ c, (boxC id (fun _ => 0) (outs ks) (inB' ks x) 0)[j]? = some c ∧ c.1 = j ∧ ∃ (ck : Ck) (g : Nat) (cs : List IV), H (ρ j) = some ck ∧ ρ j < nx ∧ CkM (γ j) ck c.2 ∧ getH HI (ρ j) = some (.box g cs) ∧ ck.gen = g ∧ γ j = g := fun j hj => by
        have hj' : j < (boxC id (fun _ => 0) (outs ks) (inB' ks x) 0).length := by rw [boxC_len]; exact hj
        obtain ⟨o, ck, g, cs, a1, a2, a3, a4, a5, a6⟩ := q3 j _ (List.getElem?_eq_getElem hj')
        have e := osat j hj
        rw [a1] at e
        injection e with e
        have hγ : γ j = ck.gen := by
          simp only [γ, hj, if_true]
          rw [← e, a2]; rfl
        have hρ : ρ j = o := by rw [ρp j hj, ← e]
        refine ⟨_, List.getElem?_eq_getElem hj', ?_, ck, g, cs, by rw [hρ]; exact a2, by rw [hρ]; exact a3, by rw [hγ]; exact a4, by rw [hρ]; exact a5, a6, by rw [hγ]; exact a6⟩
        have := boxC_num (fun _ => 0) (outs ks) (inB' ks x) 0 j hj'
        rw [Nat.zero_add] at this; exact this
      have hinj : ∀ i j, i < p + newN rk → j < p + newN rk → ρ i = ρ j → i = j := fun i j hi hj e => by
        rcases Nat.lt_or_ge i p with h1 | h1 <;> rcases Nat.lt_or_ge j p with h2 | h2
        · rw [ρp i h1, ρp j h2] at e
          exact nodupB_inj' hnd i j _ (osat i h1) (by rw [osat j h2, e])
        · obtain ⟨_, _, _, ck, g, cs, _, hlt, _⟩ := at1 i h1
          rw [e, ρn j h2] at hlt; omega
        · obtain ⟨_, _, _, ck, g, cs, _, hlt, _⟩ := at1 j h2
          rw [← e, ρn i h1] at hlt; omega
        · rw [ρn i h1, ρn j h2] at e; omega
      -- the lists of chunks
      let pre := boxC id (fun _ => 0) (outs ks) (inB' ks x) 0
      let post := boxC id (fun _ => 0) (outs ks) z 0 ++ newC rk y p
      let pre' : Cks := pre.map fun c => (ρ c.1, (H (ρ c.1)).getD ⟨0, 0, []⟩)
      let post' : Cks := post.map (mvC ρ γ)
      have lpre : pre.length = p := boxC_len ..
      have lpost : post.length = p + newN rk := by simp only [post, List.length_append, boxC_len, newC_len, p]
      have npost : ∀ k (hk : k < post.length), post[k].1 = k := fun k hk => by
        have := numb_app (boxC_num (fun _ => 0) (outs ks) z 0) (newC_num rk y p) (by rw [boxC_len]; simp [p]) k hk
        rw [Nat.zero_add] at this; exact this
      have npre : ∀ k (hk : k < pre.length), pre[k].1 = k := fun k hk => by
        have := boxC_num (fun _ => 0) (outs ks) (inB' ks x) 0 k hk
        rw [Nat.zero_add] at this; exact this
      have Kpre : Keyed pre p id (ckAt pre) := ⟨lpre, fun k hk => by
        have := npre k hk
        simp only [ckAt, List.getD_eq_getElem?_getD, List.getElem?_eq_getElem hk, Option.getD_some, id]
        exact Prod.ext this rfl, fun _ _ _ _ e => e⟩
      have Kpost : Keyed post (p + newN rk) id (ckAt post) := ⟨lpost, fun k hk => by
        have := npost k hk
        simp only [ckAt, List.getD_eq_getElem?_getD, List.getElem?_eq_getElem hk, Option.getD_some, id]
        exact Prod.ext this rfl, fun _ _ _ _ e => e⟩
      have Kpre' : Keyed pre' p ρ (fun k => (H (ρ k)).getD ⟨0, 0, []⟩) := ⟨by simp [pre', lpre], fun k hk => by
        have hk' : k < pre.length := by simpa [pre'] using hk
        simp only [pre', List.getElem_map, npre k hk'], fun i j hi hj => hinj i j (by omega) (by omega)⟩
      have Kpost' : Keyed post' (p + newN rk) ρ (fun k => ⟨(ckAt post k).gen + γ k, (ckAt post k).sz, (ckAt post k).xs⟩) := ⟨by simp [post', lpost], fun k hk => by
        have hk' : k < post.length := by simpa [post'] using hk
        simp only [post', List.getElem_map, mvC, npost k hk', ckAt, List.getD_eq_getElem?_getD, List.getElem?_eq_getElem hk', Option.getD_some], hinj⟩
      have flpost : ∀ c, c ∈ post → ∀ x, x ∈ c.2.xs → ∀ d, d ∈ x → Ids (fun _ => False) d := fun c hc => by
        rcases List.mem_append.1 hc with hc | hc
        · exact fl_ids (boxC_fl hc)
        · exact fl_ids (newC_fl rk y p c hc)
      have ren := CallOK.rename (r := ρ) (γ := γ) (nb := nx) (pre' := pre') (post' := post') (args' := argsD ρ γ ks x 0) (res' := resV (resD rk y nx)) h0
        (fun i j hi hj => hinj i j hi hj) (fun j hj => by obtain ⟨_, _, _, _, _, _, _, hlt, _⟩ := at1 j hj; exact hlt)
        (fun j h1 h2 => by rw [ρn j h1]; exact ⟨by omega, by omega⟩)
        ⟨fun j ck hj => by
          obtain ⟨k, hk, e, rfl⟩ := Kpre.mem hj
          simp only [id] at e; subst e
          obtain ⟨c, b1, b2, ck', g, cs, b3, b4, b5, _⟩ := at1 j hk
          refine ⟨hk, ck', ?_, ?_⟩
          · have := Kpre'.get hk Hp.emp
            rw [b3] at this; exact this
          · have : ckAt pre j = c.2 := by simp only [ckAt, List.getD_eq_getElem?_getD]; rw [show pre[j]? = some c from b1]; rfl
            rw [this]; exact b5,
        fun o ck' ho => by
          obtain ⟨k, hk, rfl, rfl⟩ := Kpre'.mem ho
          exact ⟨k, ckAt pre k, hk, rfl, Kpre.get hk Hp.emp⟩,
        fun j ck hj => by
          obtain ⟨k, hk, e, rfl⟩ := Kpre.mem hj
          have hk' : k < pre.length := by rw [lpre]; exact hk
          have := boxC_fl (List.getElem_mem hk')
          simp only [ckAt, List.getD_eq_getElem?_getD, List.getElem?_eq_getElem hk', Option.getD_some]
          exact fl_ids this⟩
        ⟨fun j ck hj => by
          obtain ⟨k, hk, e, rfl⟩ := Kpost.mem hj
          simp only [id] at e; subst e
          refine ⟨hk, _, Kpost'.get hk Hp.emp, ⟨rfl, rfl, rfl, fun i h1 h2 => ⟨rfl, fun j h3 h4 => .refl _⟩⟩⟩,
        fun o ck' ho => by
          obtain ⟨k, hk, rfl, rfl⟩ := Kpost'.mem ho
          exact ⟨k, ckAt post k, hk, rfl, Kpost.get hk Hp.emp⟩,
        fun j ck hj => by
          obtain ⟨k, hk, e, rfl⟩ := Kpost.mem hj
          have hk' : k < post.length := by rw [lpost]; exact hk
          have := flpost _ (List.getElem_mem hk')
          simp only [ckAt, List.getD_eq_getElem?_getD, List.getElem?_eq_getElem hk', Option.getD_some]
          exact this⟩
        (fun j ck ck' h1 h2 => by
          obtain ⟨k, hk, e, rfl⟩ := Kpost.mem h1
          simp only [id] at e; subst e
          have := Kpost'.get hk Hp.emp
          rw [show ofL post' (ρ j) = _ from this] at h2
          injection h2 with h2; exact h2.symm)
        (argsD_rn ks x 0 (by simp [p])) (resV_rn (resD_rn rk y p nx fun k hk => ⟨by omega, by rw [ρn (p + k) (by omega)]; omega, by simp only [γ, if_neg (show ¬ p + k < p by omega)]⟩))
        (fun j hj => ⟨_, Kpost.get hj Hp.emp⟩)
      have hnn : nx + (p + newN rk - p) = nx + newN rk := by omega
      rw [show (outs ks).length + newN rk - (outs ks).length = newN rk by omega] at ren
      have hsame : Same H nx (puts H post') (nx + newN rk) := ⟨Nat.le_add_right .., fun o' ck' ho' hk' => by
        by_cases hex : ∃ k, k < p + newN rk ∧ o' = ρ k
        · obtain ⟨k, hk, rfl⟩ := hex
          have hkp : k < p := by
            rcases Nat.lt_or_ge k p with h1 | h1
            · exact h1
            · rw [ρn k h1] at ho'; omega
          obtain ⟨c0, a1, a2, ck0, g, cs, a3, a4, a5, a6, a7, a8⟩ := at1 k hkp
          rw [Kpost'.get hk H] at hk'
          injection hk' with hk'; subst hk'
          refine ⟨ck0, a3, ?_, ?_⟩
          · have hkl : k < (boxC id (fun _ => 0) (outs ks) z 0).length := by rw [boxC_len]; exact hkp
            obtain ⟨t, e, _, hb⟩ := boxC_at id (fun _ => 0) (outs ks) z 0 k hkl
            have hpk : post[k]? = some (boxC id (fun _ => 0) (outs ks) z 0)[k] := by simp only [post]; rw [List.getElem?_append_left hkl, List.getElem?_eq_getElem hkl]
            simp only [ckAt, List.getD_eq_getElem?_getD, hpk, Option.getD_some, hb]; omega
          · have hkl : k < (boxC id (fun _ => 0) (outs ks) z 0).length := by rw [boxC_len]; exact hkp
            obtain ⟨t, e, _, hb⟩ := boxC_at id (fun _ => 0) (outs ks) z 0 k hkl
            have hpk : post[k]? = some (boxC id (fun _ => 0) (outs ks) z 0)[k] := by simp only [post]; rw [List.getElem?_append_left hkl, List.getElem?_eq_getElem hkl]
            simp only [ckAt, List.getD_eq_getElem?_getD, hpk, Option.getD_some, hb]
            have hpl : k < (boxC id (fun _ => 0) (outs ks) (inB' ks x) 0).length := by rw [boxC_len]; exact hkp
            obtain ⟨t', e', _, hb'⟩ := boxC_at id (fun _ => 0) (outs ks) (inB' ks x) 0 k hpl
            rw [List.getElem?_eq_getElem hpl] at a1
            injection a1 with a1
            rw [hb'] at a1
            have := a5.l
            rw [← a1] at this
            simpa using this.symm
        · rw [Kpost'.out (fun k hk e => hex ⟨k, hk, e⟩) H] at hk'
          exact ⟨ck', hk', rfl, rfl⟩⟩
      have hlast : ∀ o c, getH (putBs (outs ks) z os HI ++ newI rk y) o = some c → o < nx + newN rk ∧ ∃ ck, puts H post' o = some ck ∧ CkR (puts H post') (nx + newN rk) c ck := by
        intro o c ho
        have hplen : (putBs (outs ks) z os HI).length = nx := by rw [putBs_len]; exact hn
        rw [getH_append, hplen] at ho
        by_cases hlt : o < nx
        · rw [if_pos hlt] at ho
          have := putBs_at (H := puts H post') (nx := nx + newN rk) ρ γ (outs ks) z os 0 HI hlen (fun i k o h1 h2 => nodupB_inj' hnd i k o h1 h2) (fun k o' hk => by
            have hkp : k < p := by rw [← hlen]; exact (List.getElem?_eq_some_iff.1 hk).1
            have e := (key0 k o' hk hkp).1
            obtain ⟨_, _, _, ck, g, cs, _, _, _, b5, _, b7⟩ := at1 k hkp
            rw [Nat.zero_add] at e ⊢
            refine ⟨e, cs, ?_⟩
            rw [← e, b7]; exact b5) o c ho
          rcases this with ⟨k, cp, b1, b2, b3⟩ | ⟨b1, b2⟩
          · refine ⟨by omega, cp, ?_, b3⟩
            have hkp : k < p := by rw [← hlen]; exact (List.getElem?_eq_some_iff.1 b1).1
            have := Kpost'.get (k := k) (by omega) H
            rw [show ρ k = o by have := (key0 k o b1 hkp).1; rwa [Nat.zero_add] at this] at this
            rw [this]
            congr 1
            rw [boxC_mv] at b2
            have hkl : k < (boxC id (fun _ => 0) (outs ks) z 0).length := by rw [boxC_len]; exact hkp
            rw [List.getElem?_map, List.getElem?_eq_getElem hkl] at b2
            simp only [Option.map_some, Option.some.injEq, mvC, Prod.mk.injEq] at b2
            have hpk : post[k]? = some (boxC id (fun _ => 0) (outs ks) z 0)[k] := by simp only [post]; rw [List.getElem?_append_left hkl, List.getElem?_eq_getElem hkl]
            have hn1 := boxC_num (fun _ => 0) (outs ks) z 0 k hkl
            simp only [ckAt, List.getD_eq_getElem?_getD, hpk, Option.getD_some]
            rw [← b2.2, hn1, Nat.zero_add]
          · obtain ⟨c1, ck, c2, c3⟩ := hH o c b2
            have hout : puts H post' o = H o := Kpost'.out (fun k hk e => by
              rcases Nat.lt_or_ge k p with h1 | h1
              · exact b1 k (by rw [osat k h1, e, ρp k h1])
              · rw [ρn k h1] at e; omega) H
            exact ⟨by omega, ck, by rw [hout]; exact c2, c3.same hsame⟩
        · rw [if_neg hlt] at ho
          have hlen2 := getH_lt _ _ _ ho
          rw [newI_len] at hlen2
          obtain ⟨cp, b1, b2⟩ := newI_at (H := puts H post') (nx := nx + newN rk) rk y nx (o - nx) c ho
          refine ⟨by omega, cp, ?_, b2⟩
          have := Kpost'.get (k := p + (o - nx)) (by omega) H
          rw [ρn _ (by omega), show nx + (p + (o - nx) - p) = o by omega] at this
          rw [this]
          congr 1
          rw [newC_mv (ρ := ρ) (γ := γ) rk y p nx fun k hk => ⟨by rw [ρn (p + k) (by omega)]; omega, by simp only [γ, if_neg (show ¬ p + k < p by omega)]⟩] at b1
          have hkl : o - nx < (newC rk y p).length := by rw [newC_len]; exact hlen2
          rw [List.getElem?_map, List.getElem?_eq_getElem hkl] at b1
          simp only [Option.map_some, Option.some.injEq, mvC, Prod.mk.injEq] at b1
          have hpk : post[p + (o - nx)]? = some (newC rk y p)[o - nx] := by
            simp only [post]
            rw [List.getElem?_append_right (by rw [boxC_len]; omega), boxC_len, show p + (o - nx) - (outs ks).length = o - nx by simp only [p]; omega, List.getElem?_eq_getElem hkl]
          have hn1 := newC_num rk y p (o - nx) hkl
          simp only [ckAt, List.getD_eq_getElem?_getD, hpk, Option.getD_some]
          rw [← b1.2, hn1]
      refine ⟨_, _, _, _, hr, pre', resV (resD rk y nx), post', nx + newN rk, ren.weak q2, fun o ck ho => ?_, ?_, ?_, ?_, fun o c ho => hlast o c ho, ?_, hsame⟩
      · obtain ⟨k, hk, rfl, rfl⟩ := Kpre'.mem ho
        obtain ⟨_, _, _, ck, _, _, b3, _⟩ := at1 k hk
        rw [b3]; rfl
      · have e := boxC_keys (ρ := ρ) (γ := γ) (outs ks) (inB' ks x) os 0 hlen fun k o hk => (key0 k o hk (by rw [← hlen]; exact (List.getElem?_eq_some_iff.1 hk).1)).1
        rw [boxC_mv] at e
        simp only [List.map_map] at e
        simp only [pre', List.map_map]
        exact e
      · have e := boxC_keys (ρ := ρ) (γ := γ) (outs ks) z os 0 hlen fun k o hk => (key0 k o hk (by rw [← hlen]; exact (List.getElem?_eq_some_iff.1 hk).1)).1
        rw [boxC_mv] at e
        have e2 := newC_mv (ρ := ρ) (γ := γ) rk y p nx fun k hk => ⟨by rw [ρn (p + k) (by omega)]; omega, by simp only [γ, if_neg (show ¬ p + k < p by omega)]⟩
        simp only [post', post, List.map_append, e, ← e2, numsFrom_eq, hn]
      · rw [List.length_append, putBs_len, newI_len, hn]
      · rw [hn]
        refine resI_rel (resIV_rel rk y nx fun o h1 h2 => ⟨h2, fun ck hk => ?_⟩)
        have := Kpost'.get (k := p + (o - nx)) (by omega) H
        rw [ρn _ (by omega), show nx + (p + (o - nx) - p) = o by omega] at this
        rw [this] at hk
        injection hk with hk; subst hk
        have hkl : o - nx < (newC rk y p).length := by rw [newC_len]; omega
        have hpk : post[p + (o - nx)]? = some (newC rk y p)[o - nx] := by
          simp only [post]
          rw [List.getElem?_append_right (by rw [boxC_len]; omega), boxC_len, show p + (o - nx) - (outs ks).length = o - nx by simp only [p]; omega, List.getElem?_eq_getElem hkl]
        have hg0 : ∀ c, c ∈ newC rk y p → c.2.gen = 0 := by
          have : ∀ (rk : List RK) (y : Els (RK.tys rk)) (i : Nat) (c : Nat × Ck), c ∈ newC rk y i → c.2.gen = 0 := by
            intro rk
            induction rk with
            | nil => intro y i c h; cases h
            | cons k r ih =>
              intro y i c h
              cases k with
              | v t => exact ih _ _ c h
              | n t =>
                rcases List.mem_cons.1 h with rfl | h
                · rfl
                · exact ih _ _ c h
          exact this rk y p
        obtain ⟨t, e, _, hx1⟩ := newC_fl rk y p _ (List.getElem_mem hkl)
        simp only [ckAt, List.getD_eq_getElem?_getD, hpk, Option.getD_some, hg0 _ (List.getElem_mem hkl), hx1, γ, if_neg (show ¬ p + (o - nx) < p by omega)]
        exact ⟨trivial, by simp⟩
  · cases hr
end Go.Pv
