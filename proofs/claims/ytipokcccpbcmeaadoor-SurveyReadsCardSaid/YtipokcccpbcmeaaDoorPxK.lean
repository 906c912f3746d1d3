/- Functions that turn boxes (which may hold arrays of their own), or make new boxes and arrays, or take functions: their contracts (SFOK), out of a walk by computation, and as entries. No condition of its own: over any program. -/
import Derived.Test.YtipokcccpbcmeaaDoorPxP
set_option linter.all false
namespace Go.Pv
open Go.RowKit
inductive RK where
  | v (t : GT)
  | n (t : GT)
  | o (p : PT)
def RK.ty : RK → GT
  | .v t => t
  | .n t => t
  | .o p => p.ty
inductive AK where
  | v (t : GT)
  | b (p : PT)
def AK.ty : AK → GT
  | .v t => t
  | .b p => p.ty
def outs : List AK → List PT
  | [] => []
  | .v _ :: r => outs r
  | .b p :: r => p :: outs r
def ptys : List PT → List GT
  | [] => []
  | p :: r => p.ty :: ptys r
def AK.tys : List AK → List GT
  | [] => []
  | k :: r => k.ty :: AK.tys r
def RK.tys : List RK → List GT
  | [] => []
  | k :: r => k.ty :: RK.tys r
def nbs : List PT → Nat
  | [] => 0
  | p :: r => 1 + p.n + nbs r
def arN : List PT → Nat
  | [] => 0
  | p :: r => p.n + arN r
def hd : (t : GT) → (r : List GT) → Els (t :: r) → El t
  | _, [], x => x
  | _, _ :: _, x => x.1
def tl : (t : GT) → (r : List GT) → Els (t :: r) → Els r
  | _, [], _ => ()
  | _, _ :: _, x => x.2
def cns : (t : GT) → (r : List GT) → El t → Els r → Els (t :: r)
  | _, [], x, _ => x
  | _, _ :: _, x, y => (x, y)
theorem hd_cns : ∀ (t : GT) (r : List GT) (x : El t) (y : Els r), hd t r (cns t r x y) = x
  | _, [], _, _ => rfl
  | _, _ :: _, _, _ => rfl
theorem tl_cns : ∀ (t : GT) (r : List GT) (x : El t) (y : Els r), tl t r (cns t r x y) = y
  | _, [], _, _ => rfl
  | _, _ :: _, _, _ => rfl
def argsI : (ks : List AK) → Els (AK.tys ks) → Nat → List IV
  | [], _, _ => []
  | .b p :: r, x, j => .ptr j 0 0 :: argsI r (tl p.ty (AK.tys r) x) (j + (1 + p.n))
  | .v t :: r, x, j => valI t (hd t (AK.tys r) x) :: argsI r (tl t (AK.tys r) x) j
def argsD (ρ γ : Nat → Nat) : (ks : List AK) → Els (AK.tys ks) → Nat → List DV
  | [], _, _ => []
  | .b p :: r, x, j => (.ptr (ρ j) (γ j) 0 0) :: argsD ρ γ r (tl p.ty (AK.tys r) x) (j + (1 + p.n))
  | .v t :: r, x, j => valD t (hd t (AK.tys r) x) :: argsD ρ γ r (tl t (AK.tys r) x) j
def boxI : (ks : List AK) → Els (AK.tys ks) → Nat → IH
  | [], _, _ => []
  | .b p :: r, x, j => some (.box 0 (oI p (hd p.ty (AK.tys r) x) (j + 1))) :: (oH p (hd p.ty (AK.tys r) x) ++ boxI r (tl p.ty (AK.tys r) x) (j + (1 + p.n)))
  | .v t :: r, x, j => boxI r (tl t (AK.tys r) x) j
def inB' : (ks : List AK) → Els (AK.tys ks) → Els (ptys (outs ks))
  | [], _ => ()
  | .b p :: r, x => cns p.ty (ptys (outs r)) (hd p.ty (AK.tys r) x) (inB' r (tl p.ty (AK.tys r) x))
  | .v t :: r, x => inB' r (tl t (AK.tys r) x)
def oCr (ρ γ : Nat → Nat) : (p : PT) → El p.ty → Nat → Cks
  | .v _, _, _ => []
  | .a t, x, i => [(ρ i, ⟨γ i, t.sz, List.map (α := El t) (encD t) x⟩)]
  | .p a b, x, i => oCr ρ γ a x.1 i ++ oCr ρ γ b x.2 (i + a.n)
def boxC (ρ γ : Nat → Nat) : (ps : List PT) → Els (ptys ps) → Nat → Cks
  | [], _, _ => []
  | p :: r, x, j => (ρ j, ⟨γ j, p.ty.sz, [oDr ρ γ p (hd p.ty (ptys r) x) (j + 1)]⟩) :: (oCr ρ γ p (hd p.ty (ptys r) x) (j + 1) ++ boxC ρ γ r (tl p.ty (ptys r) x) (j + (1 + p.n)))
abbrev g0 : Nat → Nat := fun _ => 0
def deadC (ρ γ : Nat → Nat) : PT → Nat → Cks
  | .v _, _ => []
  | .a t, i => [(ρ i, ⟨γ i + 1, t.sz, []⟩)]
  | .p a b, i => deadC ρ γ a i ++ deadC ρ γ b (i + a.n)
def bxC (ρ γ : Nat → Nat) : (ps : List PT) → Els (ptys ps) → Nat → Nat → Cks
  | [], _, _, _ => []
  | p :: r, x, j, i => (ρ j, ⟨γ j, p.ty.sz, [oD g0 p (hd p.ty (ptys r) x) i]⟩) :: (deadC ρ γ p (j + 1) ++ bxC ρ γ r (tl p.ty (ptys r) x) (j + (1 + p.n)) (i + p.n))
def arsC (gs : Nat → Nat) : (ps : List PT) → Els (ptys ps) → Nat → Cks
  | [], _, _ => []
  | p :: r, x, i => oC gs p (hd p.ty (ptys r) x) i ++ arsC gs r (tl p.ty (ptys r) x) (i + p.n)
def deadB : List PT → Nat → Nat → Bool
  | [], _, _ => false
  | p :: r, j, o => (Nat.ble (j + 1) o && Nat.ble (o + 1) (j + (1 + p.n))) || deadB r (j + (1 + p.n)) o
def decB : (ps : List PT) → IH → Nat → Nat → Option (Els (ptys ps))
  | [], _, _, _ => some ()
  | p :: r, H, j, i => match getH H j, decB r H (j + (1 + p.n)) (i + p.n) with
    | some (.box 0 cs), some y => match decO p cs H i with
      | some (x, []) => some (cns p.ty (ptys r) x y)
      | _ => none
    | _, _ => none
def isP (v : IV) (i : Nat) : Bool := match v with
  | .ptr o 0 0 => Nat.beq o i
  | _ => false
theorem isP_eq {v : IV} {i : Nat} (h : isP v i = true) : v = .ptr i 0 0 := by
  unfold isP at h; split at h
  · rw [Nat.eq_of_beq_eq_true h]
  · cases h
def decOV (p : PT) (v : IV) (H : IH) (i : Nat) : Option (El p.ty) := match isAg p.ty, v with
  | true, .agg cs => (match decO p cs H i with
    | some (x, []) => some x
    | _ => none)
  | true, _ => none
  | false, .agg _ => none
  | false, v => (match decO p [v] H i with
    | some (x, []) => some x
    | _ => none)
def oDV (gs : Nat → Nat) (p : PT) (x : El p.ty) (i : Nat) : DV := match isAg p.ty, oD gs p x i with
  | true, ds => .agg ds
  | false, [d] => d
  | _, _ => .any
def oIV (p : PT) (x : El p.ty) (i : Nat) : IV := match isAg p.ty, oI p x i with
  | true, cs => .agg cs
  | false, [c] => c
  | _, _ => .any
theorem o_one {p : PT} (h : isAg p.ty = false) (x : El p.ty) (gs : Nat → Nat) (i : Nat) : (∃ c, oI p x i = [c]) ∧ (∃ d, oD gs p x i = [d]) := by
  cases p with
  | v t => exact one_of h x
  | a t => exact ⟨⟨_, rfl⟩, ⟨_, rfl⟩⟩
  | p a b => simp [PT.ty, isAg] at h
theorem decOV_at {s : St} {T : List (Nat × IV)} {HI : IH} (hs : SR ⟨T, HI⟩ s) {p : PT} {v : IV} {x : El p.ty} {i : Nat} {d : DV} (h : decOV p v HI i = some x) (hr : Rel s.H s.nx v d) :
    WkD d (oDV (gsOf s.H) p x i) ∧ ∀ (k : Nat) c, (oC (gsOf s.H) p x i)[k]? = some c → ∃ ck, s.H (i + k) = some ck ∧ CkW ck c.2 := by
  unfold decOV at h
  unfold oDV
  split at h
  · rename_i cs ha
    obtain ⟨ds, rfl, k⟩ := hr.agg_inv
    split at h
    · rename_i y hy
      injection h with h; subst h
      obtain ⟨d1, d2, rfl, q1, q2, q3⟩ := decO_at hs p cs y [] i ds hy k
      have := q2.nil_l; subst this
      rw [ha, List.append_nil]
      exact ⟨VR.agg_wk q1, q3⟩
    · cases h
  · cases h
  · cases h
  · rename_i ha _
    split at h
    · rename_i y hy
      injection h with h; subst h
      obtain ⟨d1, d2, e, q1, q2, q3⟩ := decO_at hs p _ y [] i [d] hy (.one hr)
      have := q2.nil_l; subst this
      rw [List.append_nil] at e; subst e
      obtain ⟨_, ⟨e, he⟩⟩ := o_one ha y (gsOf s.H) i
      rw [ha]
      rw [he] at q1 ⊢
      obtain ⟨_, e1, k⟩ := q1.one_l
      injection e1 with e1; subst e1
      exact ⟨k, q3⟩
    · cases h
def decR : (rk : List RK) → List IV → IH → Nat → Option (Els (RK.tys rk))
  | [], [], _, _ => some ()
  | .v t :: r, v :: l, H, i => match decV t v, decR r l H i with
    | some x, some y => some (cns t (RK.tys r) x y)
    | _, _ => none
  | .n t :: r, v :: l, H, i => match isP v i, getH H i, decR r l H (i + 1) with
    | true, some (.box 0 cs), some y => match dec t cs with
      | some x => some (cns t (RK.tys r) x y)
      | none => none
    | _, _, _ => none
  | .o p :: r, v :: l, H, i => match decOV p v H i, decR r l H (i + p.n) with
    | some x, some y => some (cns p.ty (RK.tys r) x y)
    | _, _ => none
  | [], _ :: _, _, _ => none
  | _ :: _, [], _, _ => none
def newN : List RK → Nat
  | [] => 0
  | .v _ :: r => newN r
  | .n _ :: r => newN r + 1
  | .o p :: r => newN r + p.n
def resD (gs : Nat → Nat) : (rk : List RK) → Els (RK.tys rk) → Nat → List DV
  | [], _, _ => []
  | .v t :: r, x, i => valD t (hd t (RK.tys r) x) :: resD gs r (tl t (RK.tys r) x) i
  | .n t :: r, x, i => .ptr i 0 0 0 :: resD gs r (tl t (RK.tys r) x) (i + 1)
  | .o p :: r, x, i => oDV gs p (hd p.ty (RK.tys r) x) i :: resD gs r (tl p.ty (RK.tys r) x) (i + p.n)
def resIV : (rk : List RK) → Els (RK.tys rk) → Nat → List IV
  | [], _, _ => []
  | .v t :: r, x, i => valI t (hd t (RK.tys r) x) :: resIV r (tl t (RK.tys r) x) i
  | .n t :: r, x, i => .ptr i 0 0 :: resIV r (tl t (RK.tys r) x) (i + 1)
  | .o p :: r, x, i => oIV p (hd p.ty (RK.tys r) x) i :: resIV r (tl p.ty (RK.tys r) x) (i + p.n)
def newC (gs : Nat → Nat) : (rk : List RK) → Els (RK.tys rk) → Nat → Cks
  | [], _, _ => []
  | .v t :: r, x, i => newC gs r (tl t (RK.tys r) x) i
  | .n t :: r, x, i => (i, ⟨0, t.sz, [encD t (hd t (RK.tys r) x)]⟩) :: newC gs r (tl t (RK.tys r) x) (i + 1)
  | .o p :: r, x, i => oC gs p (hd p.ty (RK.tys r) x) i ++ newC gs r (tl p.ty (RK.tys r) x) (i + p.n)
def newI : (rk : List RK) → Els (RK.tys rk) → IH
  | [], _ => []
  | .v t :: r, x => newI r (tl t (RK.tys r) x)
  | .n t :: r, x => some (.box 0 (encC t (hd t (RK.tys r) x))) :: newI r (tl t (RK.tys r) x)
  | .o p :: r, x => oH p (hd p.ty (RK.tys r) x) ++ newI r (tl p.ty (RK.tys r) x)
def finS (ns : List NS) (rs : List RR) (ks : List AK) (rk : List RK) (p q : Nat) : Exit → SI → Option (Els (RK.tys rk) × Els (ptys (outs ks)))
  | .normal, si => (match normI p ns si with
    | some si => (match rrI si.T si.H rs, decB (outs ks) si.H 0 p with
      | some vs, some z => match decR rk vs si.H q with
        | some y => some (y, z)
        | none => none
      | _, _ => none)
    | none => none)
  | .ret, si => (match rrI si.T si.H rs, decB (outs ks) si.H 0 p with
    | some vs, some z => match decR rk vs si.H q with
      | some y => some (y, z)
      | none => none
    | _, _ => none)
  | _, _ => none
def packI : List (Option (Nat × Nat)) → List IV → List IV
  | [], _ => []
  | none :: r, v :: l => v :: packI r l
  | none :: r, [] => []
  | some (f, n) :: r, l => .fn f (l.take n) :: packI r (l.drop n)
def packD : List (Option (Nat × Nat)) → List DV → List DV
  | [], _ => []
  | none :: r, v :: l => v :: packD r l
  | none :: r, [] => []
  | some (f, n) :: r, l => .fn f (l.take n) :: packD r (l.drop n)
theorem pack_rel {H : Hp} {nx : Nat} : ∀ (pk : List (Option (Nat × Nat))) (vs : List IV) (ds : List DV), Rels H nx vs ds → Rels H nx (packI pk vs) (packD pk ds)
  | [], _, _, _ => .nil
  | none :: r, [], ds, h => by rw [h.nil_l]; exact .nil
  | none :: r, v :: l, ds, h => by
    obtain ⟨d, ds, rfl, h1, h2⟩ := h.cons_l
    exact (pack_rel r l ds h2).cons h1
  | some (f, n) :: r, vs, ds, h => (pack_rel r _ _ (h.drop n)).cons (Rel.fnB (h.take n))
theorem VR.fn_wk {f : FuncId} {ds es : List DV} (h : Both WkD ds es) : WkD (.fn f ds) (.fn f es) := fun H ps M nx w x hv => by
  obtain ⟨vs, rfl, h1, h2⟩ := hv.fn_inv
  have e := h.1
  exact .fn _ _ vs (by omega) fun j hj => h.2 j (by omega) hj _ _ _ _ _ _ (h2 j (by omega))
theorem pack_wk : ∀ (pk : List (Option (Nat × Nat))) (ds es : List DV), Both WkD ds es → Both WkD (packD pk ds) (packD pk es)
  | [], _, _, _ => .nil
  | none :: r, [], ds, h => by rw [h.nil_l]; exact .nil
  | none :: r, v :: l, ds, h => by
    obtain ⟨d, ds, rfl, h1, h2⟩ := h.cons_l
    exact (pack_wk r l ds h2).cons h1
  | some (f, n) :: r, vs, ds, h => (pack_wk r _ _ (h.drop n)).cons (VR.fn_wk (h.take n))
theorem pack_rn {ρ γ : Nat → Nat} {q : Nat} : ∀ (pk : List (Option (Nat × Nat))) (ds es : List DV), Both (Rn ρ γ q) ds es → Both (Rn ρ γ q) (packD pk ds) (packD pk es)
  | [], _, _, _ => .nil
  | none :: r, [], ds, h => by rw [h.nil_l]; exact .nil
  | none :: r, v :: l, ds, h => by
    obtain ⟨d, ds, rfl, h1, h2⟩ := h.cons_l
    exact (pack_rn r l ds h2).cons h1
  | some (f, n) :: r, vs, ds, h => (pack_rn r _ _ (h.drop n)).cons (.fn _ _ _ (h.take n).1 (h.take n).2)
theorem pack_len : ∀ (pk : List (Option (Nat × Nat))) (ds : List DV), (packD pk ds).length ≤ pk.length
  | [], _ => Nat.le_refl _
  | none :: r, [] => Nat.zero_le _
  | none :: r, v :: l => Nat.succ_le_succ (pack_len r l)
  | some (f, n) :: r, ds => Nat.succ_le_succ (pack_len r _)
def postC (ρ γ : Nat → Nat) (ps : List PT) (z : Els (ptys ps)) (rk : List RK) (y : Els (RK.tys rk)) (i : Nat) : Cks := bxC ρ γ ps z 0 i ++ (arsC g0 ps z i ++ newC g0 rk y (i + arN ps))
def SFOK (P : Program) (f : FuncId) (pk : List (Option (Nat × Nat))) (ks : List AK) (rk : List RK) (model : Els (AK.tys ks) → Option (Els (RK.tys rk) × Els (ptys (outs ks)))) : Prop := ∀ x y z, model x = some (y, z) →
  CallOK P f (packD pk (argsD id g0 ks x 0)) (boxC id g0 (outs ks) (inB' ks x) 0) (nbs (outs ks)) (resV (resD g0 rk y (nbs (outs ks) + arN (outs ks)))) (postC id g0 (outs ks) z rk y (nbs (outs ks))) (nbs (outs ks) + arN (outs ks) + newN rk)
theorem puts_get_ne {H : Hp} : ∀ {l : Cks} {o : Nat}, (∀ x, x ∈ l → x.1 ≠ o) → puts H l o = H o
  | [], o, h => rfl
  | x :: l, o, h => by
    rw [puts_cons, puts_get_ne fun y hy => h y (List.mem_cons_of_mem _ hy), Hp.put_ne _ _ _ (Ne.symm (h x (by simp)))]
structure Numb (l : Cks) (i n : Nat) (c : Nat → Ck) : Prop where
  len : l.length = n
  nth : ∀ k (h : k < l.length), l[k] = (i + k, c k)
theorem Numb.get {l : Cks} {i n : Nat} {c : Nat → Ck} (h : Numb l i n c) : ∀ {H : Hp} {k : Nat}, k < n → puts H l (i + k) = some (c k) := by
  have key : ∀ (l : Cks) (i n : Nat) (c : Nat → Ck), Numb l i n c → ∀ (H : Hp) (k : Nat), k < n → puts H l (i + k) = some (c k) := by
    intro l
    induction l with
    | nil => intro i n c h H k hk; have := h.len; simp at this; omega
    | cons x l ih =>
      intro i n c h H k hk
      have h0 := h.nth 0 (by simp)
      simp only [List.getElem_cons_zero, Nat.add_zero] at h0
      have hl : Numb l (i + 1) (n - 1) (fun k => c (k + 1)) := ⟨by have := h.len; simp at this; omega, fun k hk => by
        have := h.nth (k + 1) (by simp; omega)
        simp only [List.getElem_cons_succ] at this
        rw [this]; congr 1; omega⟩
      rw [puts_cons]
      cases k with
      | zero =>
        rw [Nat.add_zero, puts_get_ne, h0, Hp.put_same]
        intro y hy
        obtain ⟨j, hj, rfl⟩ := List.mem_iff_getElem.1 hy
        rw [hl.nth j hj]; simp only; omega
      | succ k =>
        have := ih (i + 1) (n - 1) _ hl (H.put x.1 (some x.2)) k (by omega)
        rw [show i + (k + 1) = i + 1 + k by omega]; exact this
  exact fun {H k} hk => key l i n c h H k hk
theorem Numb.mem {l : Cks} {i n : Nat} {c : Nat → Ck} (h : Numb l i n c) {o : Nat} {ck : Ck} (ho : ofL l o = some ck) : ∃ k, k < n ∧ o = i + k ∧ ck = c k := by
  have := ofL_mem ho
  obtain ⟨k, hk, e⟩ := List.mem_iff_getElem.1 this
  rw [h.nth k hk] at e
  injection e with e1 e2
  exact ⟨k, by rw [← h.len]; exact hk, e1.symm, e2.symm⟩
theorem newC_len (gs : Nat → Nat) : ∀ (rk : List RK) (x : Els (RK.tys rk)) (i : Nat), (newC gs rk x i).length = newN rk
  | [], _, _ => rfl
  | .v t :: r, x, i => newC_len gs r _ i
  | .n t :: r, x, i => by simp [newC, newN, newC_len gs r]
  | .o p :: r, x, i => by simp only [newC, newN, List.length_append, oC_len, newC_len gs r]; omega
def ckAt (l : Cks) (k : Nat) : Ck := (l.getD k (0, ⟨0, 0, []⟩)).2
theorem numb_of {l : Cks} {i : Nat} (h : ∀ k (hk : k < l.length), l[k].1 = i + k) : Numb l i l.length (ckAt l) := ⟨rfl, fun k hk => by
  have := h k hk
  simp only [ckAt, List.getD_eq_getElem?_getD, List.getElem?_eq_getElem hk, Option.getD_some]
  rw [← this]⟩
structure LE (ρ γ : Nat → Nat) (q : Nat) (l' l : Cks) (j : Nat) : Prop where
  len : l'.length = l.length
  nth : ∀ k (h : k < l.length) (h' : k < l'.length), l[k].1 = j + k ∧ l'[k].1 = ρ (j + k) ∧ CkE ρ γ q (γ (j + k)) l'[k].2 l[k].2
theorem LE.nil {ρ γ : Nat → Nat} {q j : Nat} : LE ρ γ q [] [] j := ⟨rfl, fun k h => by simp at h⟩
theorem LE.cons {ρ γ : Nat → Nat} {q j : Nat} {c' c : Nat × Ck} {l' l : Cks} (h1 : c.1 = j) (h2 : c'.1 = ρ j) (h3 : CkE ρ γ q (γ j) c'.2 c.2) (h : LE ρ γ q l' l (j + 1)) : LE ρ γ q (c' :: l') (c :: l) j :=
  ⟨by simp [h.len], fun k hk hk' => by
    cases k with
    | zero => exact ⟨h1, h2, h3⟩
    | succ k =>
      have := h.nth k (by simpa using hk) (by simpa using hk')
      simp only [List.getElem_cons_succ]
      rw [show j + (k + 1) = j + 1 + k by omega]; exact this⟩
theorem LE.append {ρ γ : Nat → Nat} {q j i : Nat} {a' a b' b : Cks} (h : LE ρ γ q a' a j) (k : LE ρ γ q b' b i) (hi : i = j + a.length) : LE ρ γ q (a' ++ b') (a ++ b) j :=
  ⟨by simp [h.len, k.len], fun m hm hm' => by
    rw [List.getElem_append, List.getElem_append]
    by_cases e : m < a.length
    · have e' : m < a'.length := by rw [h.len]; exact e
      rw [dif_pos e, dif_pos e']; exact h.nth m e e'
    · have e' : ¬ m < a'.length := by rw [h.len]; exact e
      rw [dif_neg e, dif_neg e']
      have := k.nth (m - a.length) (by simp at hm; omega) (by rw [k.len]; simp at hm; omega)
      have e2 : i + (m - a.length) = j + m := by omega
      rw [e2] at this
      simp only [h.len]; exact this⟩
theorem CkE.flat {ρ γ : Nat → Nat} {q g g' sz : Nat} {xs : List (List DV)} (hg : g' = 0 + g) (h : ∀ x, x ∈ xs → ∀ d, d ∈ x → Ids (fun _ => False) d) : CkE ρ γ q g ⟨g', sz, xs⟩ ⟨0, sz, xs⟩ :=
  ⟨hg, rfl, rfl, fun i h1 h2 => ⟨rfl, fun j h3 h4 => .flat _ (h _ (List.getElem_mem h1) _ (List.getElem_mem h3))⟩⟩
theorem map_ids {t : GT} {x : List (El t)} : ∀ y, y ∈ List.map (encD t) x → ∀ d, d ∈ y → Ids (fun _ => False) d := fun y hy d hd => by
  obtain ⟨e, _, rfl⟩ := List.mem_map.1 hy
  exact RelT.ids t e _ (encD_rel t e) d hd
theorem oCr_le {ρ γ : Nat → Nat} {q : Nat} : ∀ (p : PT) (x : El p.ty) (i : Nat), LE ρ γ q (oCr ρ γ p x i) (oCr id g0 p x i) i
  | .v _, _, _ => .nil
  | .a t, x, i => .cons rfl rfl (.flat (by simp) map_ids) .nil
  | .p a b, x, i => by
    have hl : ∀ (p : PT) (x : El p.ty) (i : Nat), (oCr id g0 p x i).length = p.n := by
      intro p
      induction p with
      | v => intros; rfl
      | a => intros; rfl
      | p a b iha ihb => intro x i; simp only [oCr, List.length_append, iha, ihb, PT.n]
    exact (oCr_le a x.1 i).append (oCr_le b x.2 (i + a.n)) (by rw [hl])
theorem oCr_len (ρ γ : Nat → Nat) : ∀ (p : PT) (x : El p.ty) (i : Nat), (oCr ρ γ p x i).length = p.n
  | .v _, _, _ => rfl
  | .a _, _, _ => rfl
  | .p a b, x, i => by simp only [oCr, List.length_append, oCr_len ρ γ a, oCr_len ρ γ b, PT.n]
theorem boxC_len (ρ γ : Nat → Nat) : ∀ (ps : List PT) (x : Els (ptys ps)) (j : Nat), (boxC ρ γ ps x j).length = nbs ps
  | [], _, _ => rfl
  | p :: r, x, j => by simp only [boxC, List.length_cons, List.length_append, oCr_len, boxC_len ρ γ r, nbs]; omega
theorem one_cke {ρ γ : Nat → Nat} {q g sz : Nat} {ds es : List DV} (h : Both (Rn ρ γ q) ds es) : CkE ρ γ q g ⟨0 + g, sz, [ds]⟩ ⟨0, sz, [es]⟩ :=
  ⟨rfl, rfl, rfl, fun i h1 h2 => by
    have : i = 0 := by simpa using h1
    subst this
    exact ⟨h.1.symm, fun j h3 h4 => h.2 j h4 h3⟩⟩
theorem boxC_le {ρ γ : Nat → Nat} {q : Nat} : ∀ (ps : List PT) (x : Els (ptys ps)) (j : Nat), j + nbs ps ≤ q → LE ρ γ q (boxC ρ γ ps x j) (boxC id g0 ps x j) j
  | [], _, _, _ => .nil
  | p :: r, x, j, h => by
    simp only [nbs] at h
    refine .cons rfl rfl ?_ ((oCr_le p _ (j + 1)).append (boxC_le r _ (j + (1 + p.n)) (by omega)) (by rw [oCr_len]; omega))
    have := one_cke (g := γ j) (sz := p.ty.sz) (oDr_rn (ρ := ρ) (γ := γ) (q := q) p (hd p.ty (ptys r) x) (j + 1) (by omega))
    rw [Nat.zero_add] at this
    show CkE ρ γ q (γ j) ⟨γ j, p.ty.sz, [oDr ρ γ p _ (j + 1)]⟩ ⟨0, p.ty.sz, [oDr id g0 p _ (j + 1)]⟩
    rw [show oDr id g0 p (hd p.ty (ptys r) x) (j + 1) = oD g0 p (hd p.ty (ptys r) x) (j + 1) from oDr_id p _ _]
    exact this
theorem deadC_len (ρ γ : Nat → Nat) : ∀ (p : PT) (i : Nat), (deadC ρ γ p i).length = p.n
  | .v _, _ => rfl
  | .a _, _ => rfl
  | .p a b, i => by simp only [deadC, List.length_append, deadC_len ρ γ a, deadC_len ρ γ b, PT.n]
theorem deadC_le {ρ γ : Nat → Nat} {q : Nat} : ∀ (p : PT) (i : Nat), LE ρ γ q (deadC ρ γ p i) (deadC id g0 p i) i
  | .v _, _ => .nil
  | .a t, i => .cons rfl rfl ⟨by show γ i + 1 = 0 + 1 + γ i; omega, rfl, rfl, fun i h => by simp at h⟩ .nil
  | .p a b, i => (deadC_le a i).append (deadC_le b (i + a.n)) (by rw [deadC_len])
theorem bxC_len (ρ γ : Nat → Nat) : ∀ (ps : List PT) (x : Els (ptys ps)) (j i : Nat), (bxC ρ γ ps x j i).length = nbs ps
  | [], _, _, _ => rfl
  | p :: r, x, j, i => by simp only [bxC, List.length_cons, List.length_append, deadC_len, bxC_len ρ γ r, nbs]; omega
theorem bxC_le {ρ γ : Nat → Nat} {q : Nat} : ∀ (ps : List PT) (x : Els (ptys ps)) (j i i' : Nat), (∀ k, k < arN ps → i + k < q ∧ ρ (i + k) = i' + k ∧ γ (i + k) = 0) → LE ρ γ q (bxC ρ γ ps x j i') (bxC id g0 ps x j i) j
  | [], _, _, _, _, _ => .nil
  | p :: r, x, j, i, i', h => by
    simp only [arN] at h
    refine .cons rfl rfl ?_ ((deadC_le p (j + 1)).append (bxC_le r _ (j + (1 + p.n)) (i + p.n) (i' + p.n) fun k hk => ?_) (by rw [deadC_len]; omega))
    · have := one_cke (g := γ j) (sz := p.ty.sz) (oD_rn (ρ := ρ) (γ := γ) (gs := g0) (gs' := g0) (q := q) p (hd p.ty (ptys r) x) i i' fun k hk => ⟨(h k (by omega)).1, (h k (by omega)).2.1, (h k (by omega)).2.2, rfl⟩)
      rw [Nat.zero_add] at this; exact this
    · have := h (p.n + k) (by omega)
      rw [← Nat.add_assoc, ← Nat.add_assoc] at this; exact this
theorem arsC_len (gs : Nat → Nat) : ∀ (ps : List PT) (x : Els (ptys ps)) (i : Nat), (arsC gs ps x i).length = arN ps
  | [], _, _ => rfl
  | p :: r, x, i => by simp only [arsC, List.length_append, oC_len, arsC_len gs r, arN]
theorem oC_le {ρ γ : Nat → Nat} {q : Nat} : ∀ (p : PT) (x : El p.ty) (i i' : Nat), (∀ k, k < p.n → ρ (i + k) = i' + k ∧ γ (i + k) = 0) → LE ρ γ q (oC g0 p x i') (oC g0 p x i) i
  | .v _, _, _, _, _ => .nil
  | .a t, x, i, i', h => by
    have h0 := h 0 (by simp [PT.n])
    simp only [Nat.add_zero] at h0
    exact .cons rfl h0.1.symm (.flat (by simp [h0.2]) map_ids) .nil
  | .p a b, x, i, i', h => by
    simp only [PT.n] at h
    refine (oC_le a x.1 i i' fun k hk => h k (by omega)).append (oC_le b x.2 (i + a.n) (i' + a.n) fun k hk => ?_) (by rw [oC_len])
    have := h (a.n + k) (by omega)
    rw [← Nat.add_assoc, ← Nat.add_assoc] at this; exact this
theorem arsC_le {ρ γ : Nat → Nat} {q : Nat} : ∀ (ps : List PT) (x : Els (ptys ps)) (i i' : Nat), (∀ k, k < arN ps → ρ (i + k) = i' + k ∧ γ (i + k) = 0) → LE ρ γ q (arsC g0 ps x i') (arsC g0 ps x i) i
  | [], _, _, _, _ => .nil
  | p :: r, x, i, i', h => by
    simp only [arN] at h
    refine (oC_le p _ i i' fun k hk => h k (by omega)).append (arsC_le r _ (i + p.n) (i' + p.n) fun k hk => ?_) (by rw [oC_len])
    have := h (p.n + k) (by omega)
    rw [← Nat.add_assoc, ← Nat.add_assoc] at this; exact this
theorem newC_le {ρ γ : Nat → Nat} {q : Nat} : ∀ (rk : List RK) (y : Els (RK.tys rk)) (i i' : Nat), (∀ k, k < newN rk → ρ (i + k) = i' + k ∧ γ (i + k) = 0) → LE ρ γ q (newC g0 rk y i') (newC g0 rk y i) i
  | [], _, _, _, _ => .nil
  | .v t :: r, y, i, i', h => newC_le r _ i i' h
  | .n t :: r, y, i, i', h => by
    simp only [newN] at h
    have h0 := h 0 (by omega)
    simp only [Nat.add_zero] at h0
    refine .cons rfl h0.1.symm (.flat (by simp [h0.2]) fun x hx d hd => ?_) (newC_le r _ (i + 1) (i' + 1) fun k hk => ?_)
    · rw [List.mem_singleton.1 hx] at hd
      exact RelT.ids t _ _ (encD_rel t _) d hd
    · have := h (1 + k) (by omega)
      rw [← Nat.add_assoc, ← Nat.add_assoc] at this; exact this
  | .o p :: r, y, i, i', h => by
    simp only [newN] at h
    refine (oC_le p _ i i' fun k hk => h k (by omega)).append (newC_le r _ (i + p.n) (i' + p.n) fun k hk => ?_) (by rw [oC_len])
    have := h (p.n + k) (by omega)
    rw [← Nat.add_assoc, ← Nat.add_assoc] at this; exact this
theorem postC_le {ρ γ : Nat → Nat} {q : Nat} (ps : List PT) (z : Els (ptys ps)) (rk : List RK) (y : Els (RK.tys rk)) (i' : Nat) (hq : nbs ps + arN ps + newN rk ≤ q) (h : ∀ k, k < arN ps + newN rk → ρ (nbs ps + k) = i' + k ∧ γ (nbs ps + k) = 0) : LE ρ γ q (postC ρ γ ps z rk y i') (postC id g0 ps z rk y (nbs ps)) 0 := by
  unfold postC
  refine (bxC_le ps z 0 (nbs ps) i' fun k hk => ⟨by omega, h k (by omega)⟩).append ((arsC_le ps z (nbs ps) i' fun k hk => h k (by omega)).append (newC_le rk y _ _ fun k hk => ?_) (by rw [arsC_len])) (by rw [bxC_len, Nat.zero_add])
  have := h (arN ps + k) (by omega)
  rw [← Nat.add_assoc, ← Nat.add_assoc] at this; exact this
theorem postC_len (ρ γ : Nat → Nat) (ps : List PT) (z : Els (ptys ps)) (rk : List RK) (y : Els (RK.tys rk)) (i : Nat) : (postC ρ γ ps z rk y i).length = nbs ps + arN ps + newN rk := by
  simp only [postC, List.length_append, bxC_len, arsC_len, newC_len]; omega
theorem deadB_lt : ∀ (ps : List PT) (j o : Nat), deadB ps j o = true → j < o ∧ o < j + nbs ps
  | [], _, _, h => by cases h
  | p :: r, j, o, h => by
    simp only [deadB, Bool.or_eq_true, Bool.and_eq_true] at h
    simp only [nbs]
    rcases h with ⟨h1, h2⟩ | h
    · have := Nat.le_of_ble_eq_true h1; have := Nat.le_of_ble_eq_true h2; omega
    · have := deadB_lt r _ o h; omega
theorem deadB_off {ps : List PT} {j o : Nat} (h : o ≤ j ∨ j + nbs ps ≤ o) : deadB ps j o = false := by
  cases hd : deadB ps j o with
  | false => rfl
  | true => have := deadB_lt ps j o hd; omega
theorem deadC_at {ρ γ : Nat → Nat} : ∀ (p : PT) (i : Nat) (c : Nat × Ck), c ∈ deadC ρ γ p i → c.2.xs = [] ∧ ∃ k, c.2.gen = γ k + 1
  | .v _, _, c, h => by cases h
  | .a t, i, c, h => by rw [List.mem_singleton.1 h]; exact ⟨rfl, i, rfl⟩
  | .p a b, i, c, h => by
    rcases List.mem_append.1 h with h | h
    · exact deadC_at a _ c h
    · exact deadC_at b _ c h
theorem bxC_dead : ∀ (ps : List PT) (z : Els (ptys ps)) (j i k : Nat) (h : k < (bxC id g0 ps z j i).length), deadB ps j (j + k) = true → (bxC id g0 ps z j i)[k].2.xs = [] ∧ (bxC id g0 ps z j i)[k].2.gen = 1
  | [], _, _, _, k, h, _ => by simp [bxC] at h
  | p :: r, z, j, i, k, h, hd => by
    simp only [deadB, Bool.or_eq_true, Bool.and_eq_true] at hd
    cases k with
    | zero =>
      exfalso
      rcases hd with ⟨h1, _⟩ | h1
      · have := Nat.le_of_ble_eq_true h1; omega
      · have := deadB_lt r _ _ h1; omega
    | succ k =>
      simp only [bxC, List.getElem_cons_succ]
      rw [List.getElem_append]
      split
      · rename_i hk
        obtain ⟨a1, m, a2⟩ := deadC_at p (j + 1) _ (List.getElem_mem hk)
        exact ⟨a1, by rw [a2]⟩
      · rename_i hk
        rw [deadC_len] at hk
        have := bxC_dead r (tl p.ty (ptys r) z) (j + (1 + p.n)) (i + p.n) (k - p.n) (by simp only [bxC, List.length_cons, List.length_append, deadC_len] at h; omega) (by
          rcases hd with ⟨_, h1⟩ | h1
          · have := Nat.le_of_ble_eq_true h1; omega
          · rw [show j + (1 + p.n) + (k - p.n) = j + (k + 1) by omega]; exact h1)
        simp only [deadC_len]; exact this
theorem CkW.box {t : GT} {e : El t} {cs : List IV} {H : Hp} {nx g : Nat} {ck : Ck} (h : CkR H nx (.box g cs) ck) (hd : dec t cs = some e) : CkW ck ⟨g, t.sz, [encD t e]⟩ := by
  obtain ⟨h1, ds, h2, h3, h4⟩ := h
  have hr := dec_rel hd h3
  refine ⟨h4.symm, by rw [h1, h3.1, RelT.len t e ds hr], by rw [h2]; rfl, fun i h5 h6 => ?_⟩
  have : i = 0 := by simpa using h5
  subst this
  have hw := relT_wk t e ds hr
  simp only [h2, List.getElem_cons_zero]
  exact ⟨hw.1.symm, fun j h7 h8 => hw.2 j h8 h7⟩
section ends
variable {s : St} {T : List (Nat × IV)} {HI : IH}
variable {dead : Nat → Bool} {H' : Hp} {nx' : Nat}
theorem decB_at (hs : SR ⟨T, HI⟩ s) : ∀ (ps : List PT) (z : Els (ptys ps)) (j i : Nat), decB ps HI j i = some z →
    (∀ (k : Nat) (c : Nat × Ck), (bxC id g0 ps z j i)[k]? = some c → deadB ps j (j + k) = false → ∃ (ck : Ck) (ds : List DV) (p : PT) (x : El p.ty) (m : Nat), s.H (j + k) = some ck ∧ ck.gen = 0 ∧ ck.sz = p.ty.sz ∧ ck.xs = [ds] ∧ c.2 = ⟨0, p.ty.sz, [oD g0 p x (i + m)]⟩ ∧ Both WkD ds (oD (gsOf s.H) p x (i + m)) ∧
      (∀ (k : Nat) c, (oC (gsOf s.H) p x (i + m))[k]? = some c → (arsC (gsOf s.H) ps z i)[m + k]? = some c) ∧ ∀ (k : Nat) c, (oC g0 p x (i + m))[k]? = some c → (arsC g0 ps z i)[m + k]? = some c) ∧
    ∀ (k : Nat) c, (arsC (gsOf s.H) ps z i)[k]? = some c → ∃ ck, s.H (i + k) = some ck ∧ CkW ck c.2
  | [], z, j, i, h => ⟨fun k c hk => by simp [bxC] at hk, fun k c hk => by simp [arsC] at hk⟩
  | p :: r, z, j, i, h => by
    simp only [decB] at h
    split at h
    · rename_i cs y hc hy
      split at h
      · rename_i x hx
        injection h with h; subst h
        obtain ⟨ih1, ih2⟩ := decB_at hs r y (j + (1 + p.n)) (i + p.n) hy
        obtain ⟨_, ck, h1, h2, ds, h3, h4, h5⟩ := hs.h.at hc
        obtain ⟨d1, d2, rfl, q1, q2, q3⟩ := decO_at hs p cs x [] i ds hx h4
        have := q2.nil_l; subst this
        rw [List.append_nil] at h3 h4
        have eh : hd p.ty (ptys r) (cns p.ty (ptys r) x y) = x := hd_cns p.ty _ x y
        have et : tl p.ty (ptys r) (cns p.ty (ptys r) x y) = y := tl_cns p.ty _ x y
        refine ⟨fun k c hk hd => ?_, fun k c hk => ?_⟩
        · simp only [bxC, eh, et] at hk
          cases k with
          | zero =>
            simp only [List.getElem?_cons_zero, Option.some.injEq] at hk; subst hk
            refine ⟨ck, d1, p, x, 0, h1, h5, by rw [h2, h4.1, q1.1, oD_sz], h3, rfl, q1, fun k c hk => ?_, fun k c hk => ?_⟩
            · have hk' : (oC (gsOf s.H) p x i)[k]? = some c := hk
              simp only [arsC, eh, Nat.zero_add]
              rw [List.getElem?_append_left (List.getElem?_eq_some_iff.1 hk').1]; exact hk'
            · have hk' : (oC g0 p x i)[k]? = some c := hk
              simp only [arsC, eh, Nat.zero_add]
              rw [List.getElem?_append_left (List.getElem?_eq_some_iff.1 hk').1]; exact hk'
          | succ k =>
            simp only [List.getElem?_cons_succ] at hk
            rw [List.getElem?_append] at hk
            simp only [deadB, Bool.or_eq_false_iff] at hd
            split at hk
            · rename_i hlt
              rw [deadC_len] at hlt
              exfalso
              have h6 : Nat.ble (j + 1) (j + (k + 1)) = true := Nat.ble_eq_true_of_le (by omega)
              have h7 : Nat.ble (j + (k + 1) + 1) (j + (1 + p.n)) = true := Nat.ble_eq_true_of_le (by omega)
              rw [h6, h7] at hd; cases hd.1
            · rename_i hge
              rw [deadC_len] at hge hk
              have e : j + (1 + p.n) + (k - p.n) = j + (k + 1) := by omega
              obtain ⟨ck', ds', p', x', m, b1, b2, b3, b4, b5, b6, b7, b8⟩ := ih1 _ c hk (by rw [e]; exact hd.2)
              rw [e] at b1
              have em : i + p.n + m = i + (p.n + m) := by omega
              rw [em] at b5 b6 b7 b8
              refine ⟨ck', ds', p', x', p.n + m, b1, b2, b3, b4, b5, b6, fun k c hk => ?_, fun k c hk => ?_⟩
              · simp only [arsC, et]
                rw [List.getElem?_append_right (by rw [oC_len]; omega), oC_len, show p.n + m + k - p.n = m + k by omega]; exact b7 k c hk
              · simp only [arsC, et]
                rw [List.getElem?_append_right (by rw [oC_len]; omega), oC_len, show p.n + m + k - p.n = m + k by omega]; exact b8 k c hk
        · simp only [arsC, eh, et] at hk
          rw [List.getElem?_append] at hk
          split at hk
          · exact q3 k c hk
          · rename_i hge
            rw [oC_len] at hge hk
            obtain ⟨ck', u1, u2⟩ := ih2 _ c hk
            exact ⟨ck', by rw [show i + k = i + p.n + (k - p.n) by omega]; exact u1, u2⟩
      · cases h
    · cases h
theorem decR_at (hs : SR ⟨T, HI⟩ s) : ∀ (rk : List RK) (vs : List IV) (y : Els (RK.tys rk)) (i : Nat) (ds : List DV), decR rk vs HI i = some y → Rels s.H s.nx vs ds →
    Both WkD ds (resD (gsOf s.H) rk y i) ∧ ∀ (k : Nat) c, (newC (gsOf s.H) rk y i)[k]? = some c → ∃ ck, s.H (i + k) = some ck ∧ CkW ck c.2
  | [], vs, y, i, ds, h, hr => by
    cases vs with
    | nil => rw [hr.nil_l]; exact ⟨.nil, fun k c hk => by simp [newC] at hk⟩
    | cons v l => simp [decR] at h
  | .v t :: r, vs, y, i, ds, h, hr => by
    cases vs with
    | nil => simp [decR] at h
    | cons v l =>
      obtain ⟨d, ds, rfl, h1, h2⟩ := hr.cons_l
      simp only [decR] at h
      split at h
      · rename_i a b ha hb
        injection h with h; subst h
        obtain ⟨q1, q2⟩ := decR_at hs r l b i ds hb h2
        simp only [resD, newC]
        rw [show hd t (RK.tys r) (cns t (RK.tys r) a b) = a from hd_cns t _ a b, show tl t (RK.tys r) (cns t (RK.tys r) a b) = b from tl_cns t _ a b]
        exact ⟨q1.cons (decV_wk ha h1), q2⟩
      · cases h
  | .n t :: r, vs, y, i, ds, h, hr => by
    cases vs with
    | nil => simp [decR] at h
    | cons v l =>
      obtain ⟨d, ds, rfl, h1, h2⟩ := hr.cons_l
      simp only [decR] at h
      split at h
      · rename_i cs b hbq hc hb
        split at h
        · rename_i a ha
          injection h with h; subst h
          have := isP_eq hbq; subst this
          obtain ⟨q1, q2⟩ := decR_at hs r l b (i + 1) ds hb h2
          obtain ⟨_, ck, k1, k2⟩ := hs.h.at hc
          obtain ⟨g, rfl, _, hg⟩ := h1.ptr_inv
          obtain ⟨rfl, _⟩ := hg ck k1
          simp only [resD, newC]
          rw [show hd t (RK.tys r) (cns t (RK.tys r) a b) = a from hd_cns t _ a b, show tl t (RK.tys r) (cns t (RK.tys r) a b) = b from tl_cns t _ a b]
          have hg0 : ck.gen = 0 := by obtain ⟨_, _, _, _, e⟩ := k2; exact e
          refine ⟨q1.cons (by rw [hg0]; exact .refl _), fun k c hk => ?_⟩
          cases k with
          | zero => simp only [List.getElem?_cons_zero, Option.some.injEq] at hk; subst hk; exact ⟨ck, k1, CkW.box k2 ha⟩
          | succ k =>
            obtain ⟨c', a1, a2⟩ := q2 k c (by simpa using hk)
            exact ⟨c', by rw [show i + (k + 1) = i + 1 + k by omega]; exact a1, a2⟩
        · cases h
      · cases h
  | .o p :: r, vs, y, i, ds, h, hr => by
    cases vs with
    | nil => simp [decR] at h
    | cons v l =>
      obtain ⟨d, ds, rfl, h1, h2⟩ := hr.cons_l
      simp only [decR] at h
      split at h
      · rename_i a b ha hb
        injection h with h; subst h
        obtain ⟨q1, q2⟩ := decR_at hs r l b (i + p.n) ds hb h2
        obtain ⟨k1, k2⟩ := decOV_at hs ha h1
        simp only [resD, newC]
        rw [show hd p.ty (RK.tys r) (cns p.ty (RK.tys r) a b) = a from hd_cns p.ty _ a b, show tl p.ty (RK.tys r) (cns p.ty (RK.tys r) a b) = b from tl_cns p.ty _ a b]
        refine ⟨q1.cons k1, fun k c hk => ?_⟩
        rw [List.getElem?_append] at hk
        split at hk
        · exact k2 k c hk
        · rename_i hge
          rw [oC_len] at hge hk
          obtain ⟨ck, u1, u2⟩ := q2 _ c hk
          exact ⟨ck, by rw [show i + k = i + p.n + (k - p.n) by omega]; exact u1, u2⟩
      · cases h
end ends
def Fl (c : Ck) : Prop := ∃ (t : GT) (l : List (El t)), c.sz = t.sz ∧ c.xs = l.map (encD t)
theorem Fl.box {c : Ck} (h : ∃ (t : GT) (e : El t), c.sz = t.sz ∧ c.xs = [encD t e]) : Fl c := by
  obtain ⟨t, e, h1, h2⟩ := h
  exact ⟨t, [e], h1, h2⟩
theorem newC_fl (gs : Nat → Nat) : ∀ (rk : List RK) (x : Els (RK.tys rk)) (i : Nat) (c : Nat × Ck), c ∈ newC gs rk x i → Fl c.2
  | [], _, _, c, h => by cases h
  | .v t :: r, x, i, c, h => newC_fl gs r _ i c h
  | .n t :: r, x, i, c, h => by
    rcases List.mem_cons.1 h with rfl | h
    · exact ⟨t, [_], rfl, rfl⟩
    · exact newC_fl gs r _ _ c h
  | .o p :: r, x, i, c, h => by
    rcases List.mem_append.1 h with h | h
    · obtain ⟨t, l, e⟩ := oC_fl gs p _ i c h
      exact ⟨t, l, by rw [e], by rw [e]⟩
    · exact newC_fl gs r _ _ c h
theorem fl_ids {c : Ck} (h : Fl c) : ∀ x, x ∈ c.xs → ∀ d, d ∈ x → Ids (fun _ => False) d := by
  obtain ⟨t, l, _, h⟩ := h
  intro x hx d hd
  rw [h] at hx
  obtain ⟨e, _, rfl⟩ := List.mem_map.1 hx
  exact RelT.ids t e _ (encD_rel t e) d hd
theorem argsI_rel {H : Hp} {nx : Nat} : ∀ (ks : List AK) (x : Els (AK.tys ks)) (j : Nat), (∀ o, j ≤ o → o < j + nbs (outs ks) → o < nx ∧ ∀ ck, H o = some ck → ck.gen = 0 ∧ (deadB (outs ks) j o = false → 0 < ck.xs.length)) → Rels H nx (argsI ks x j) (argsD id g0 ks x j)
  | [], _, _, _ => .nil
  | .b p :: r, x, j, h => by
    have h0 := h j (Nat.le_refl _) (by simp only [outs, nbs]; omega)
    refine (argsI_rel r _ (j + (1 + p.n)) fun o h1 h2 => ?_).cons (.ptr _ _ _ _ h0.1 fun ck hk => ⟨(h0.2 ck hk).1, (h0.2 ck hk).2 (deadB_off (.inl (Nat.le_refl _)))⟩)
    have := h o (by omega) (by simp only [outs, nbs]; omega)
    refine ⟨this.1, fun ck hk => ⟨(this.2 ck hk).1, fun hd => (this.2 ck hk).2 ?_⟩⟩
    simp only [outs, deadB, hd, Bool.or_false]
    cases hb : Nat.ble (o + 1) (j + (1 + p.n)) with
    | false => simp
    | true => have := Nat.le_of_ble_eq_true hb; omega
  | .v t :: r, x, j, h => (argsI_rel r _ j h).cons (valI_rel t _)
theorem oCr_id : ∀ (p : PT) (x : El p.ty) (i : Nat), oCr id g0 p x i = oC g0 p x i
  | .v _, _, _ => rfl
  | .a _, _, _ => rfl
  | .p a b, x, i => by simp only [oCr, oC, oCr_id a, oCr_id b]
theorem boxI_len : ∀ (ks : List AK) (x : Els (AK.tys ks)) (j : Nat), (boxI ks x j).length = nbs (outs ks)
  | [], _, _ => rfl
  | .b p :: r, x, j => by simp only [boxI, outs, nbs, List.length_cons, List.length_append, oH_len, boxI_len r]; omega
  | .v t :: r, x, j => boxI_len r _ j
theorem boxI_rel {H : Hp} {nx : Nat} : ∀ (ks : List AK) (x : Els (AK.tys ks)) (j : Nat), (∀ (k : Nat) c, (boxC id g0 (outs ks) (inB' ks x) j)[k]? = some c → j + k < nx ∧ H (j + k) = some c.2) → ∀ (o : Nat) (c : ICk), getH (boxI ks x j) o = some c → ∃ cp, (boxC id g0 (outs ks) (inB' ks x) j)[o]? = some (j + o, cp) ∧ CkR H nx c cp
  | [], _, _, _, o, c, h => by simp [boxI, getH] at h
  | .b p :: r, x, j, hH, o, c, h => by
    simp only [outs, inB', boxC, hd_cns, tl_cns] at hH ⊢
    cases o with
    | zero =>
      simp only [boxI, getH, Option.some.injEq] at h; subst h
      refine ⟨_, rfl, ?_⟩
      rw [show oDr id g0 p (hd p.ty (AK.tys r) x) (j + 1) = oD g0 p (hd p.ty (AK.tys r) x) (j + 1) from oDr_id p _ _]
      have hr : Rels H nx (oI p (hd p.ty (AK.tys r) x) (j + 1)) (oD g0 p (hd p.ty (AK.tys r) x) (j + 1)) := oI_rel p _ (j + 1) fun k c hk => by
        have := hH (1 + k) c (by
          rw [Nat.add_comm 1 k, List.getElem?_cons_succ, oCr_id, List.getElem?_append_left (List.getElem?_eq_some_iff.1 hk).1]; exact hk)
        rw [← Nat.add_assoc] at this; exact this
      exact CkR.boxI (by rw [hr.1, oD_sz]) hr
    | succ o =>
      simp only [boxI, getH] at h
      rw [getH_append, oH_len] at h
      simp only [List.getElem?_cons_succ]
      split at h
      · rename_i hlt
        obtain ⟨cp, h1, h2⟩ := oH_at (H := H) (nx := nx) (gs := g0) p _ (j + 1) o c h
        refine ⟨cp, ?_, h2⟩
        rw [oCr_id, List.getElem?_append_left (by rw [oC_len]; exact hlt), h1]
        congr 2; omega
      · rename_i hge
        obtain ⟨cp, h1, h2⟩ := boxI_rel (H := H) (nx := nx) r (tl p.ty (AK.tys r) x) (j + (1 + p.n)) (fun k c hk => by
          have := hH (1 + p.n + k) c (by
            rw [show 1 + p.n + k = (p.n + k) + 1 by omega, List.getElem?_cons_succ, List.getElem?_append_right (by rw [oCr_len]; omega), oCr_len, show p.n + k - p.n = k by omega]; exact hk)
          rw [← Nat.add_assoc] at this; exact this) (o - p.n) c h
        refine ⟨cp, ?_, h2⟩
        rw [List.getElem?_append_right (by rw [oCr_len]; omega), oCr_len, h1]
        congr 2; omega
  | .v t :: r, x, j, hH, o, c, h => boxI_rel r _ j hH o c h
theorem oDV_ids {S : Nat → Prop} (gs : Nat → Nat) (p : PT) (x : El p.ty) (i : Nat) (h : ∀ o, i ≤ o → o < i + p.n → S o) : Ids S (oDV gs p x i) := by
  have q := oD_ids gs p x i h
  unfold oDV
  cases ha : isAg p.ty with
  | true => exact .agg _ fun d hd => q d hd
  | false =>
    obtain ⟨_, ⟨d, he⟩⟩ := o_one ha x gs i
    rw [he] at q ⊢
    exact q d (by simp)
theorem resD_ids {S : Nat → Prop} (gs : Nat → Nat) : ∀ (rk : List RK) (y : Els (RK.tys rk)) (i : Nat), (∀ o, i ≤ o → o < i + newN rk → S o) → ∀ d, d ∈ resD gs rk y i → Ids S d
  | [], _, _, _, d, h => by cases h
  | .v t :: r, y, i, hS, d, h => by
    rcases List.mem_cons.1 h with rfl | h
    · exact (valD_ids t _).mono' fun _ h => h.elim
    · exact resD_ids gs r _ i hS d h
  | .n t :: r, y, i, hS, d, h => by
    rcases List.mem_cons.1 h with rfl | h
    · exact .ptr _ _ _ _ (hS i (Nat.le_refl _) (by simp [newN]))
    · exact resD_ids gs r _ (i + 1) (fun o h1 h2 => hS o (by omega) (by simp only [newN]; omega)) d h
  | .o p :: r, y, i, hS, d, h => by
    rcases List.mem_cons.1 h with rfl | h
    · exact oDV_ids gs p _ i fun o h1 h2 => hS o h1 (by simp only [newN]; omega)
    · exact resD_ids gs r _ (i + p.n) (fun o h1 h2 => hS o (by omega) (by simp only [newN]; omega)) d h
theorem resV_wk {ds es : List DV} (h : Both WkD ds es) : WkD (resV ds) (resV es) := by
  cases ds with
  | nil => rw [h.nil_l]; exact .refl _
  | cons d ds =>
    obtain ⟨e1, es', rfl, q1, q2⟩ := h.cons_l
    cases ds with
    | nil => rw [q2.nil_l]; exact q1
    | cons d2 ds =>
      obtain ⟨e2, es2, rfl, q3, q4⟩ := q2.cons_l
      exact VR.tup_wk h
theorem oD_rg {dead : Nat → Bool} {H H' : Hp} {nx' : Nat} : ∀ (p : PT) (x : El p.ty) (i : Nat), (∀ (k : Nat) c, (oC (gsOf H) p x i)[k]? = some c → i + k < nx' ∧ dead (i + k) = false ∧ ∃ ck, H (i + k) = some ck ∧ CkW ck c.2) → (∀ (k : Nat) c, (oC g0 p x i)[k]? = some c → H' (i + k) = some c.2) → Both (Rg dead H H' nx') (oD (gsOf H) p x i) (oD g0 p x i)
  | .v t, x, i, h, h' => ⟨rfl, fun j h1 h2 => .flat _ (RelT.ids t x _ (encD_rel t x) _ (List.getElem_mem h1))⟩
  | .a t, x, i, h, h' => by
    obtain ⟨a1, a4, ck, a2, a3⟩ := h 0 _ rfl
    have b1 := h' 0 _ rfl
    rw [Nat.add_zero] at a1 a2 a4 b1
    refine .one (.own _ _ _ _ a1 a4 fun ck' hk => ?_)
    rw [b1] at hk
    injection hk with hk; subst hk
    exact ⟨ck, a2, a3.g.symm, a3.l.symm, a3.s.symm⟩
  | .p a b, x, i, h, h' => by
    simp only [oD]
    refine (oD_rg a x.1 i (fun k c hk => h k c ?_) (fun k c hk => h' k c ?_)).append (oD_rg b x.2 (i + a.n) (fun k c hk => ?_) (fun k c hk => ?_))
    · simp only [oC]
      rw [List.getElem?_append_left]; exact hk
      exact (List.getElem?_eq_some_iff.1 hk).1
    · simp only [oC]
      rw [List.getElem?_append_left]; exact hk
      exact (List.getElem?_eq_some_iff.1 hk).1
    · have := h (a.n + k) c (by
        simp only [oC]
        rw [List.getElem?_append_right (by rw [oC_len]; omega), oC_len, show a.n + k - a.n = k by omega]; exact hk)
      rw [Nat.add_assoc]; exact this
    · have := h' (a.n + k) c (by
        simp only [oC]
        rw [List.getElem?_append_right (by rw [oC_len]; omega), oC_len, show a.n + k - a.n = k by omega]; exact hk)
      rw [Nat.add_assoc]; exact this
theorem resD_rg {dead : Nat → Bool} {H H' : Hp} {nx' : Nat} : ∀ (rk : List RK) (y : Els (RK.tys rk)) (i : Nat), (∀ (k : Nat) c, (newC (gsOf H) rk y i)[k]? = some c → i + k < nx' ∧ dead (i + k) = false ∧ ∃ ck, H (i + k) = some ck ∧ CkW ck c.2) → (∀ (k : Nat) c, (newC g0 rk y i)[k]? = some c → H' (i + k) = some c.2) → Both (Rg dead H H' nx') (resD (gsOf H) rk y i) (resD g0 rk y i)
  | [], _, _, _, _ => .nil
  | .v t :: r, y, i, h, h' => (resD_rg r _ i h h').cons (.flat _ (valD_ids t _))
  | .n t :: r, y, i, h, h' => by
    obtain ⟨a1, a4, ck, a2, a3⟩ := h 0 _ rfl
    have b1 := h' 0 _ rfl
    rw [Nat.add_zero] at a1 a2 a4 b1
    refine (resD_rg r _ (i + 1) (fun k c hk => ?_) (fun k c hk => ?_)).cons (.ptr _ _ _ _ a1 a4 fun ck' hk => ?_)
    · have := h (k + 1) c (by simp only [newC, List.getElem?_cons_succ]; exact hk)
      rw [show i + 1 + k = i + (k + 1) by omega]; exact this
    · have := h' (k + 1) c (by simp only [newC, List.getElem?_cons_succ]; exact hk)
      rw [show i + 1 + k = i + (k + 1) by omega]; exact this
    · rw [b1] at hk
      injection hk with hk; subst hk
      exact ⟨ck, a2, a3.g.symm, a3.l.symm, a3.s.symm⟩
  | .o p :: r, y, i, h, h' => by
    have q := oD_rg (dead := dead) (H := H) (H' := H') (nx' := nx') p (hd p.ty (RK.tys r) y) i (fun k c hk => h k c (by
        simp only [newC]
        rw [List.getElem?_append_left]; exact hk
        exact (List.getElem?_eq_some_iff.1 hk).1)) (fun k c hk => h' k c (by
        simp only [newC]
        rw [List.getElem?_append_left]; exact hk
        exact (List.getElem?_eq_some_iff.1 hk).1))
    refine (resD_rg r _ (i + p.n) (fun k c hk => ?_) (fun k c hk => ?_)).cons ?_
    · have := h (p.n + k) c (by
        simp only [newC]
        rw [List.getElem?_append_right (by rw [oC_len]; omega), oC_len, show p.n + k - p.n = k by omega]; exact hk)
      rw [Nat.add_assoc]; exact this
    · have := h' (p.n + k) c (by
        simp only [newC]
        rw [List.getElem?_append_right (by rw [oC_len]; omega), oC_len, show p.n + k - p.n = k by omega]; exact hk)
      rw [Nat.add_assoc]; exact this
    · unfold oDV
      cases ha : isAg p.ty with
      | true => exact .agg _ _ q.1 q.2
      | false =>
        obtain ⟨_, ⟨d, he⟩⟩ := o_one ha (hd p.ty (RK.tys r) y) (gsOf H) i
        obtain ⟨_, ⟨d', he'⟩⟩ := o_one ha (hd p.ty (RK.tys r) y) g0 i
        rw [he, he'] at q
        rw [he, he']
        exact q.2 0 (by simp) (by simp)
theorem resV_rg {dead : Nat → Bool} {H H' : Hp} {nx' : Nat} {ds es : List DV} (h : Both (Rg dead H H' nx') ds es) : Rg dead H H' nx' (resV ds) (resV es) := by
  cases ds with
  | nil => rw [h.nil_l]; exact .tup _ _ rfl (fun j h => by cases h)
  | cons d ds =>
    obtain ⟨e1, es', rfl, q1, q2⟩ := h.cons_l
    cases ds with
    | nil => rw [q2.nil_l]; exact q1
    | cons d2 ds =>
      obtain ⟨e2, es2, rfl, q3, q4⟩ := q2.cons_l
      exact .tup _ _ h.1 h.2
def z0 (c : Nat × Ck) : Nat × Ck := (c.1, ⟨0, c.2.sz, c.2.xs⟩)
theorem oC_g0 (gs : Nat → Nat) : ∀ (p : PT) (x : El p.ty) (i : Nat), oC g0 p x i = (oC gs p x i).map z0
  | .v _, _, _ => rfl
  | .a _, _, _ => rfl
  | .p a b, x, i => by simp only [oC, List.map_append, oC_g0 gs a, oC_g0 gs b]
theorem newC_g0 (gs : Nat → Nat) : ∀ (rk : List RK) (y : Els (RK.tys rk)) (i : Nat), newC g0 rk y i = (newC gs rk y i).map z0
  | [], _, _ => rfl
  | .v t :: r, y, i => newC_g0 gs r _ i
  | .n t :: r, y, i => by simp only [newC, List.map_cons, newC_g0 gs r]; rfl
  | .o p :: r, y, i => by simp only [newC, List.map_append, newC_g0 gs r, oC_g0 gs p]
theorem arsC_g0 (gs : Nat → Nat) : ∀ (ps : List PT) (z : Els (ptys ps)) (i : Nat), arsC g0 ps z i = (arsC gs ps z i).map z0
  | [], _, _ => rfl
  | p :: r, z, i => by simp only [arsC, List.map_append, arsC_g0 gs r, oC_g0 gs p]
theorem oCr_box {c : Nat × Ck} : ∀ (p : PT) (x : El p.ty) (i : Nat), c ∈ oCr id g0 p x i → c.2.gen = 0
  | .v _, _, _, h => by cases h
  | .a t, x, i, h => by rw [List.mem_singleton.1 h]
  | .p a b, x, i, h => by
    rcases List.mem_append.1 h with h | h
    · exact oCr_box a _ _ h
    · exact oCr_box b _ _ h
theorem boxC_gen {c : Nat × Ck} : ∀ (ps : List PT) (x : Els (ptys ps)) (j : Nat), c ∈ boxC id g0 ps x j → c.2.gen = 0
  | [], _, _, h => by cases h
  | p :: r, x, j, h => by
    rcases List.mem_cons.1 h with rfl | h
    · rfl
    · rcases List.mem_append.1 h with h | h
      · exact oCr_box p _ _ h
      · exact boxC_gen r _ _ h
theorem boxC_pos : ∀ (ps : List PT) (x : Els (ptys ps)) (j k : Nat) (h : k < (boxC id g0 ps x j).length), deadB ps j (j + k) = false → 0 < (boxC id g0 ps x j)[k].2.xs.length
  | [], _, _, k, h, _ => by simp [boxC] at h
  | p :: r, x, j, k, h, hd => by
    cases k with
    | zero => simp [boxC]
    | succ k =>
      simp only [deadB, Bool.or_eq_false_iff] at hd
      simp only [boxC, List.getElem_cons_succ]
      rw [List.getElem_append]
      split
      · rename_i hk
        rw [oCr_len] at hk
        exfalso
        have h6 : Nat.ble (j + 1) (j + (k + 1)) = true := Nat.ble_eq_true_of_le (by omega)
        have h7 : Nat.ble (j + (k + 1) + 1) (j + (1 + p.n)) = true := Nat.ble_eq_true_of_le (by omega)
        rw [h6, h7] at hd; cases hd.1
      · rename_i hk
        rw [oCr_len] at hk
        have := boxC_pos r (tl p.ty (ptys r) x) (j + (1 + p.n)) (k - p.n) (by simp only [boxC, List.length_cons, List.length_append, oCr_len] at h; omega) (by rw [show j + (1 + p.n) + (k - p.n) = j + (k + 1) by omega]; exact hd.2)
        simp only [oCr_len]; exact this
theorem CkW.toG {dead : Nat → Bool} {H H' : Hp} {nx nx' : Nat} (hsub : ∀ o ck', H' o = some ck' → dead o = false → ∃ ck, H o = some ck) {c0 ck : Ck} (h : CkW c0 ⟨c0.gen, ck.sz, ck.xs⟩) (hf : ∀ x, x ∈ ck.xs → ∀ d, d ∈ x → Ids (fun _ => False) d) : CkG dead H nx H' nx' c0 ck :=
  ⟨h.s, h.l, fun i h1 h2 => ⟨(h.r i h1 h2).1, fun j h3 h4 ps M w v hv => (Rg.flat (dead := dead) (H := H) (H' := H') (nx' := nx') _ (hf _ (List.getElem_mem h1) _ (List.getElem_mem h3))).vr hsub ps M w v ((h.r i h1 h2).2 j h3 h4 _ _ _ _ _ _ hv)⟩⟩
theorem AWP.monoW {P : Program} {cx : Cx} {ow : Nat → Bool} {Q Q' : Exit → St → Prop} {s : St} {ac : AC} (h : AWP P cx ow ac Q s) (hq : ∀ e s, cx.nb ≤ s.nx → Q e s → ∃ s', Wk cx s s' ∧ Q' e s') : AWP P cx ow ac Q' s := fun hm c hc hz ps a w R =>
  wpIn_mono (h hm c hc hz ps a w R) fun e a w ⟨s', ps', R', q⟩ => by
    obtain ⟨s2, w2, q2⟩ := hq e s' R'.nbx q
    obtain ⟨ps2, R2⟩ := w2 ps' a w R'
    exact ⟨s2, ps2, R2, q2⟩
theorem sf_start {pk : List (Option (Nat × Nat))} {ks : List AK} (x : Els (AK.tys ks)) : SR ⟨argT0 (packI pk (argsI ks x 0)) 0, boxI ks x 0⟩ ⟨ofArgs (packD pk (argsD id g0 ks x 0)), ofL (boxC id g0 (outs ks) (inB' ks x) 0), nbs (outs ks)⟩ := by
  have lpre : (boxC id g0 (outs ks) (inB' ks x) 0).length = nbs (outs ks) := boxC_len ..
  have lepre : LE id g0 (nbs (outs ks)) (boxC id g0 (outs ks) (inB' ks x) 0) (boxC id g0 (outs ks) (inB' ks x) 0) 0 := boxC_le (outs ks) (inB' ks x) 0 (by omega)
  have npre := numb_of (l := boxC id g0 (outs ks) (inB' ks x) 0) (i := 0) fun k hk => (lepre.nth k hk hk).1
  have bget : ∀ o (ho : o < nbs (outs ks)), ofL (boxC id g0 (outs ks) (inB' ks x) 0) o = some ((boxC id g0 (outs ks) (inB' ks x) 0)[o]'(by rw [lpre]; exact ho)).2 := fun o ho => by
    have hk : o < (boxC id g0 (outs ks) (inB' ks x) 0).length := by rw [lpre]; exact ho
    have := npre.get (H := Hp.emp) (k := o) hk
    rw [Nat.zero_add] at this
    rw [show ofL _ _ = _ from this]
    simp only [ckAt, List.getD_eq_getElem?_getD, List.getElem?_eq_getElem hk, Option.getD_some]
  refine start_rel (pack_rel pk _ _ (argsI_rel ks x 0 fun o _ h2 => ⟨by omega, fun ck hk => ?_⟩)) (fun o c hc => ?_) (by rw [boxI_len])
  · have ho : o < nbs (outs ks) := by omega
    rw [bget o ho] at hk; injection hk with hk
    have hl : o < (boxC id g0 (outs ks) (inB' ks x) 0).length := by rw [lpre]; exact ho
    refine ⟨by rw [← hk]; exact boxC_gen (outs ks) (inB' ks x) 0 (List.getElem_mem hl), fun hd => ?_⟩
    have := boxC_pos (outs ks) (inB' ks x) 0 o hl (by rw [Nat.zero_add]; exact hd)
    rw [← hk]; exact this
  · have hlt := getH_lt _ _ _ hc
    rw [boxI_len] at hlt
    obtain ⟨cp, q1, q2⟩ := boxI_rel (H := ofL (boxC id g0 (outs ks) (inB' ks x) 0)) (nx := nbs (outs ks)) ks x 0 (fun k c hk => by
      obtain ⟨hk1, hk2⟩ := List.getElem?_eq_some_iff.1 hk
      rw [lpre] at hk1
      refine ⟨by omega, ?_⟩
      rw [Nat.zero_add, bget k hk1, hk2]) o c hc
    refine ⟨hlt, cp, ?_, q2⟩
    rw [bget o hlt]
    have := (List.getElem?_eq_some_iff.1 q1).2
    rw [this]
theorem sfOK_of {P : Program} {f nt : Nat} {ow : Nat → Bool} {ac : AC} {rs : List RR} {p q : Nat} {ns : List NS} {pk : List (Option (Nat × Nat))} {ks : List AK} {rk : List RK} {model : Els (AK.tys ks) → Option (Els (RK.tys rk) × Els (ptys (outs ks)))} (hm : P.follows .mixedOrders = true) (hf : FnOK P f nt ow ac rs) (hlen : Nat.ble pk.length nt = true)
    (hp : nbs (outs ks) = p) (hq : nbs (outs ks) + arN (outs ks) = q) (hA : ∀ x y z, model x = some (y, z) → ∀ (cx : Cx), cx.nt = nt → cx.nb = p → cx.ro = none → ∀ s, SR ⟨argT0 (packI pk (argsI ks x 0)) 0, boxI ks x 0⟩ s → AWP P cx ow ac (FinQ (finS ns rs ks rk p q) (y, z)) s) : SFOK P f pk ks rk model := by
  intro x y z hy
  subst hq; subst hp
  obtain ⟨fn, h1, h2, h3, rfl, h5, h6⟩ := hf.ex
  have lpre : (boxC id g0 (outs ks) (inB' ks x) 0).length = nbs (outs ks) := boxC_len ..
  have lpost : (postC id g0 (outs ks) z rk y (nbs (outs ks))).length = nbs (outs ks) + arN (outs ks) + newN rk := postC_len ..
  have lepre : LE id g0 (nbs (outs ks)) (boxC id g0 (outs ks) (inB' ks x) 0) (boxC id g0 (outs ks) (inB' ks x) 0) 0 := boxC_le (outs ks) (inB' ks x) 0 (by omega)
  have lepost : LE id g0 (nbs (outs ks) + arN (outs ks) + newN rk) (postC id g0 (outs ks) z rk y (nbs (outs ks))) (postC id g0 (outs ks) z rk y (nbs (outs ks))) 0 := postC_le (outs ks) z rk y (nbs (outs ks)) (Nat.le_refl _) fun k hk => ⟨rfl, rfl⟩
  have npre := numb_of (l := boxC id g0 (outs ks) (inB' ks x) 0) (i := 0) fun k hk => (lepre.nth k hk hk).1
  have npost := numb_of (l := postC id g0 (outs ks) z rk y (nbs (outs ks))) (i := 0) fun k hk => (lepost.nth k hk hk).1
  have pget : ∀ o, o < nbs (outs ks) + arN (outs ks) + newN rk → ∃ ck, ofL (postC id g0 (outs ks) z rk y (nbs (outs ks))) o = some ck := fun o ho => ⟨_, by have := npost.get (H := Hp.emp) (k := o) (by rw [lpost]; exact ho); rw [Nat.zero_add] at this; exact this⟩
  have pat : ∀ k (hk : k < (postC id g0 (outs ks) z rk y (nbs (outs ks))).length), ofL (postC id g0 (outs ks) z rk y (nbs (outs ks))) k = some (postC id g0 (outs ks) z rk y (nbs (outs ks)))[k].2 := fun k hk => by
    have := npost.get (H := Hp.emp) (k := k) hk
    rw [Nat.zero_add] at this
    rw [show ofL _ _ = _ from this]
    simp only [ckAt, List.getD_eq_getElem?_getD, List.getElem?_eq_getElem hk, Option.getD_some]
  have pinv : ∀ o ck, ofL (postC id g0 (outs ks) z rk y (nbs (outs ks))) o = some ck → ∃ (hk : o < (postC id g0 (outs ks) z rk y (nbs (outs ks))).length), ck = (postC id g0 (outs ks) z rk y (nbs (outs ks)))[o].2 := fun o ck ho => by
    obtain ⟨k, hk, e, _⟩ := npost.mem ho
    have : o = k := by omega
    subst this
    refine ⟨hk, ?_⟩
    rw [pat o hk] at ho; injection ho with ho; exact ho.symm
  have bget : ∀ o (ho : o < nbs (outs ks)), ofL (boxC id g0 (outs ks) (inB' ks x) 0) o = some ((boxC id g0 (outs ks) (inB' ks x) 0)[o]'(by rw [lpre]; exact ho)).2 := fun o ho => by
    have hk : o < (boxC id g0 (outs ks) (inB' ks x) 0).length := by rw [lpre]; exact ho
    have := npre.get (H := Hp.emp) (k := o) hk
    rw [Nat.zero_add] at this
    rw [show ofL _ _ = _ from this]
    simp only [ckAt, List.getD_eq_getElem?_getD, List.getElem?_eq_getElem hk, Option.getD_some]
  refine CallOK.intro5 (deadB (outs ks) 0) hm h1 h2 h3 h5 h6 (Nat.le_trans (pack_len _ _) (Nat.le_of_ble_eq_true hlen)) (fun o ck h => ?_) (fun o ck h hlt => ?_) (by omega) ?_ (fun o ck h x hx c hc => ?_) (fun o ck h => ?_) (fun o ck h hd => ?_) fun cx hcx hnb hro => ?_
  · obtain ⟨k, hk, rfl, _⟩ := npre.mem h
    exact pget _ (by rw [lpre] at hk; omega)
  · exact ⟨_, bget o hlt⟩
  · exact resV_ids (resD_ids g0 rk y _ fun o h1 h2 => .inl (pget o h2))
  · obtain ⟨hk, rfl⟩ := pinv o ck h
    have e := (lepost.nth o hk hk).2.2
    obtain ⟨i, hi, rfl⟩ := List.mem_iff_getElem.1 hx
    obtain ⟨j, hj, rfl⟩ := List.mem_iff_getElem.1 hc
    exact ((e.r i hi hi).2 j hj hj).ids fun o ho => .inl (pget o ho)
  · obtain ⟨hk, _⟩ := pinv o ck h
    rw [lpost] at hk; exact hk
  · obtain ⟨hk, rfl⟩ := pinv o ck h
    have hlt := (deadB_lt (outs ks) 0 o hd).2
    have hb : o < (bxC id g0 (outs ks) z 0 (nbs (outs ks))).length := by rw [bxC_len]; omega
    have e : (postC id g0 (outs ks) z rk y (nbs (outs ks)))[o] = (bxC id g0 (outs ks) z 0 (nbs (outs ks)))[o] := by simp only [postC]; rw [List.getElem_append_left hb]
    have := bxC_dead (outs ks) z 0 (nbs (outs ks)) o hb (by rw [Nat.zero_add]; exact hd)
    rw [e]
    refine ⟨this.1, fun c0 hc0 => ?_⟩
    rw [this.2, bget o (by omega)] at *
    have := boxC_gen (outs ks) (inB' ks x) 0 (List.getElem_mem (by rw [lpre]; omega : o < (boxC id g0 (outs ks) (inB' ks x) 0).length))
    injection hc0 with hc0
    rw [← hc0, this]; omega
  · have hs := sf_start (pk := pk) x
    refine (hA x y z hy cx hcx hnb hro _ hs).monoW ?_
    rintro e s' hnx ⟨si', k1, k2⟩
    have fin : ∀ (s' : St) (si' : SI), SR si' s' → (match rrI si'.T si'.H rs, decB (outs ks) si'.H 0 (nbs (outs ks)) with
        | some vs, some z => match decR rk vs si'.H (nbs (outs ks) + arN (outs ks)) with
          | some y => some (y, z)
          | none => none
        | _, _ => none) = some (y, z) → (∃ ds, rrV s'.T s'.H rs = some ds ∧ ∀ ps M w v, VR s'.H ps M s'.nx w (resV ds) v → VR (ofL (postC id g0 (outs ks) z rk y (nbs (outs ks)))) (mask (deadB (outs ks) 0) ps) M (nbs (outs ks) + arN (outs ks) + newN rk) w (resV (resD g0 rk y (nbs (outs ks) + arN (outs ks)))) v) ∧
        ∀ o ck, ofL (postC id g0 (outs ks) z rk y (nbs (outs ks))) o = some ck → deadB (outs ks) 0 o = false → ∃ c0, s'.H o = some c0 ∧ CkG (deadB (outs ks) 0) s'.H s'.nx (ofL (postC id g0 (outs ks) z rk y (nbs (outs ks)))) (nbs (outs ks) + arN (outs ks) + newN rk) c0 ck ∧ (o < nbs (outs ks) → ck.gen = c0.gen) := by
      intro s' si' k1 k2
      split at k2
      · rename_i vs z' hv hz
        split at k2
        · rename_i y' hyy
          injection k2 with k2
          injection k2 with e1 e2; subst e1; subst e2
          obtain ⟨ds, q1, q2⟩ := rrI_rel k1 rs vs hv
          obtain ⟨q3, q4⟩ := decR_at k1 rk vs y' (nbs (outs ks) + arN (outs ks)) ds hyy q2
          obtain ⟨b1, b2⟩ := decB_at k1 (outs ks) z' 0 (nbs (outs ks)) hz
          have pA : ∀ k c, (bxC id g0 (outs ks) z' 0 (nbs (outs ks)))[k]? = some c → (postC id g0 (outs ks) z' rk y' (nbs (outs ks)))[k]? = some c := fun k c hk => by
            simp only [postC]; rw [List.getElem?_append_left (List.getElem?_eq_some_iff.1 hk).1]; exact hk
          have pB : ∀ k c, (arsC g0 (outs ks) z' (nbs (outs ks)))[k]? = some c → (postC id g0 (outs ks) z' rk y' (nbs (outs ks)))[nbs (outs ks) + k]? = some c := fun k c hk => by
            simp only [postC]; rw [List.getElem?_append_right (by rw [bxC_len]; omega), bxC_len, Nat.add_sub_cancel_left, List.getElem?_append_left (List.getElem?_eq_some_iff.1 hk).1]; exact hk
          have pC : ∀ k c, (newC g0 rk y' (nbs (outs ks) + arN (outs ks)))[k]? = some c → (postC id g0 (outs ks) z' rk y' (nbs (outs ks)))[nbs (outs ks) + arN (outs ks) + k]? = some c := fun k c hk => by
            simp only [postC]; rw [List.getElem?_append_right (by rw [bxC_len]; omega), bxC_len, List.getElem?_append_right (by rw [arsC_len]; omega), arsC_len, show nbs (outs ks) + arN (outs ks) + k - nbs (outs ks) - arN (outs ks) = k by omega]; exact hk
          have pof : ∀ k (c : Nat × Ck), (postC id g0 (outs ks) z' rk y' (nbs (outs ks)))[k]? = some c → ofL (postC id g0 (outs ks) z' rk y' (nbs (outs ks))) k = some c.2 := fun k c hk => by
            obtain ⟨hk1, hk2⟩ := List.getElem?_eq_some_iff.1 hk
            rw [pat k hk1, hk2]
          have arG : ∀ k c, (arsC g0 (outs ks) z' (nbs (outs ks)))[k]? = some c → ∃ c0, s'.H (nbs (outs ks) + k) = some c0 ∧ CkW c0 ⟨c0.gen, c.2.sz, c.2.xs⟩ := fun k c hk => by
            rw [arsC_g0 (gsOf s'.H), List.getElem?_map] at hk
            simp only [Option.map_eq_some_iff] at hk
            obtain ⟨c1, hk1, rfl⟩ := hk
            obtain ⟨c0, u1, u2⟩ := b2 k c1 hk1
            exact ⟨c0, u1, ⟨rfl, u2.s, u2.l, u2.r⟩⟩
          have nwG : ∀ k c, (newC g0 rk y' (nbs (outs ks) + arN (outs ks)))[k]? = some c → ∃ c0, s'.H (nbs (outs ks) + arN (outs ks) + k) = some c0 ∧ CkW c0 ⟨c0.gen, c.2.sz, c.2.xs⟩ := fun k c hk => by
            rw [newC_g0 (gsOf s'.H), List.getElem?_map] at hk
            simp only [Option.map_eq_some_iff] at hk
            obtain ⟨c1, hk1, rfl⟩ := hk
            obtain ⟨c0, u1, u2⟩ := q4 k c1 hk1
            exact ⟨c0, u1, ⟨rfl, u2.s, u2.l, u2.r⟩⟩
          have parts : ∀ o ck, ofL (postC id g0 (outs ks) z' rk y' (nbs (outs ks))) o = some ck → (o < nbs (outs ks) ∧ ∃ c, (bxC id g0 (outs ks) z' 0 (nbs (outs ks)))[o]? = some c ∧ c.2 = ck) ∨ (∃ k c, o = nbs (outs ks) + k ∧ (arsC g0 (outs ks) z' (nbs (outs ks)))[k]? = some c ∧ c.2 = ck) ∨ ∃ k c, o = nbs (outs ks) + arN (outs ks) + k ∧ (newC g0 rk y' (nbs (outs ks) + arN (outs ks)))[k]? = some c ∧ c.2 = ck := fun o ck ho => by
            obtain ⟨hk, rfl⟩ := pinv o ck ho
            rw [lpost] at hk
            by_cases ha : o < nbs (outs ks)
            · have hl : o < (bxC id g0 (outs ks) z' 0 (nbs (outs ks))).length := by rw [bxC_len]; exact ha
              refine .inl ⟨ha, _, List.getElem?_eq_getElem hl, ?_⟩
              have := pof o _ (pA o _ (List.getElem?_eq_getElem hl))
              rw [ho] at this; injection this with this; exact this.symm
            by_cases hb : o < nbs (outs ks) + arN (outs ks)
            · have hl : o - nbs (outs ks) < (arsC g0 (outs ks) z' (nbs (outs ks))).length := by rw [arsC_len]; omega
              refine .inr (.inl ⟨o - nbs (outs ks), _, by omega, List.getElem?_eq_getElem hl, ?_⟩)
              have := pof _ _ (pB _ _ (List.getElem?_eq_getElem hl))
              rw [show nbs (outs ks) + (o - nbs (outs ks)) = o by omega, ho] at this; injection this with this; exact this.symm
            · have hl : o - (nbs (outs ks) + arN (outs ks)) < (newC g0 rk y' (nbs (outs ks) + arN (outs ks))).length := by rw [newC_len]; omega
              refine .inr (.inr ⟨o - (nbs (outs ks) + arN (outs ks)), _, by omega, List.getElem?_eq_getElem hl, ?_⟩)
              have := pof _ _ (pC _ _ (List.getElem?_eq_getElem hl))
              rw [show nbs (outs ks) + arN (outs ks) + (o - (nbs (outs ks) + arN (outs ks))) = o by omega, ho] at this; injection this with this; exact this.symm
          have ex : ∀ o ck, ofL (postC id g0 (outs ks) z' rk y' (nbs (outs ks))) o = some ck → deadB (outs ks) 0 o = false → ∃ c0, s'.H o = some c0 := fun o ck ho hd => by
            rcases parts o ck ho with ⟨_, c, hc, _⟩ | ⟨k, c, rfl, hc, _⟩ | ⟨k, c, rfl, hc, _⟩
            · obtain ⟨c0, _, _, _, _, u, _⟩ := b1 o c hc (by rw [Nat.zero_add]; exact hd)
              rw [Nat.zero_add] at u; exact ⟨c0, u⟩
            · obtain ⟨c0, u, _⟩ := arG k c hc; exact ⟨c0, u⟩
            · obtain ⟨c0, u, _⟩ := nwG k c hc; exact ⟨c0, u⟩
          refine ⟨⟨ds, q1, fun ps M w v hv => ?_⟩, fun o ck ho hd => ?_⟩
          · refine (resV_rg (resD_rg (dead := deadB (outs ks) 0) (H := s'.H) (H' := ofL (postC id g0 (outs ks) z' rk y' (nbs (outs ks)))) (nx' := nbs (outs ks) + arN (outs ks) + newN rk) rk y' _ (fun k c hk => ?_) (fun k c hk => ?_))).vr ex ps M w v (resV_wk q3 _ _ _ _ _ _ hv)
            · have := (List.getElem?_eq_some_iff.1 hk).1
              rw [newC_len] at this
              exact ⟨by omega, deadB_off (.inr (by omega)), q4 k c hk⟩
            · exact pof _ _ (pC k c hk)
          · rcases parts o ck ho with ⟨hlt, c, hc, rfl⟩ | ⟨k, c, rfl, hc, rfl⟩ | ⟨k, c, rfl, hc, rfl⟩
            · obtain ⟨c0, es, p, x, m, u1, u2, u3, u4, u5, u6, u7, u8⟩ := b1 o c hc (by rw [Nat.zero_add]; exact hd)
              rw [Nat.zero_add] at u1
              have hlm : ∀ (k : Nat) c, (oC (gsOf s'.H) p x (nbs (outs ks) + m))[k]? = some c → nbs (outs ks) + m + k < nbs (outs ks) + arN (outs ks) := fun k c hk => by
                have := (List.getElem?_eq_some_iff.1 (u7 k c hk)).1
                rw [arsC_len] at this; omega
              refine ⟨c0, u1, ⟨by rw [u5, u3], by rw [u5, u4]; rfl, fun i h1 h2 => ?_⟩, fun _ => by rw [u5, u2]⟩
              have hi : i = 0 := by rw [u4] at h2; simpa using h2
              subst hi
              have rgs := oD_rg (dead := deadB (outs ks) 0) (H := s'.H) (H' := ofL (postC id g0 (outs ks) z' rk y' (nbs (outs ks)))) (nx' := nbs (outs ks) + arN (outs ks) + newN rk) p x (nbs (outs ks) + m) (fun k c hk => by
                have hl := hlm k c hk
                obtain ⟨ck, w1, w2⟩ := b2 _ c (u7 k c hk)
                exact ⟨by omega, deadB_off (.inr (by omega)), ck, by rw [Nat.add_assoc]; exact w1, w2⟩) (fun k c hk => by
                rw [Nat.add_assoc]; exact pof _ _ (pB _ _ (u8 k c hk)))
              have e1 : c0.xs[0] = es := by simp only [u4, List.getElem_cons_zero]
              have e2 : c.2.xs[0] = oD g0 p x (nbs (outs ks) + m) := by simp only [u5, List.getElem_cons_zero]
              refine ⟨by rw [e1, e2, u6.1, oD_sz, oD_sz], fun j h3 h4 ps M w v hv => ?_⟩
              simp only [e1] at hv
              simp only [e2]
              have hj1 : j < es.length := by rw [← e1]; exact h4
              have hj2 : j < (oD (gsOf s'.H) p x (nbs (outs ks) + m)).length := by rw [← u6.1]; exact hj1
              exact (rgs.2 j hj2 (by rw [← rgs.1]; exact hj2)).vr ex ps M w v (u6.2 j hj1 hj2 _ _ _ _ _ _ hv)
            · obtain ⟨c0, u1, u2⟩ := arG k c hc
              refine ⟨c0, u1, u2.toG ex ?_, fun h => absurd h (by omega)⟩
              have key : ∀ (ps : List PT) (z : Els (ptys ps)) (i : Nat) (c : Nat × Ck), c ∈ arsC g0 ps z i → Fl c.2 := by
                intro ps
                induction ps with
                | nil => intro z i c h; cases h
                | cons p r ih =>
                  intro z i c h
                  rcases List.mem_append.1 h with h | h
                  · obtain ⟨t, l, e⟩ := oC_fl g0 p _ i c h
                    exact ⟨t, l, by rw [e], by rw [e]⟩
                  · exact ih _ _ c h
              exact fl_ids (key _ _ _ _ (List.mem_of_getElem? hc))
            · obtain ⟨c0, u1, u2⟩ := nwG k c hc
              exact ⟨c0, u1, u2.toG ex (fl_ids (newC_fl g0 rk y' _ c (List.mem_of_getElem? hc))), fun h => absurd h (by omega)⟩
        · cases k2
      · cases k2
    cases e with
    | normal =>
      simp only [finS] at k2
      split at k2
      · rename_i si2 hg
        rw [← hnb] at hg
        obtain ⟨s2, w2, r2, _⟩ := normI_sound ns k1 hnx hg
        obtain ⟨a, b⟩ := fin s2 si2 r2 k2
        exact ⟨s2, w2, .inl rfl, a, b⟩
      · cases k2
    | ret => obtain ⟨a, b⟩ := fin s' si' k1 k2; exact ⟨s', Wk.refl _ _, .inr rfl, a, b⟩
    | _ => simp [finS] at k2
theorem sfOK {P : Program} {f nt : Nat} {ow : Nat → Bool} {tc : TC} {rs : List RR} {env : List (Nat × Ent)} {N p q : Nat} {ns : List NS} {pk : List (Option (Nat × Nat))} {ks : List AK} {rk : List RK} {model : Els (AK.tys ks) → Option (Els (RK.tys rk) × Els (ptys (outs ks)))} (hm : P.follows .mixedOrders = true) (hf : FnOK P f nt ow tc.er rs) (hE : EnvOK P env) (hh : tc.hok P nt ow false) (hlen : Nat.ble pk.length nt = true)
    (hp : nbs (outs ks) = p) (hq : nbs (outs ks) + arN (outs ks) = q) (hrun : ∀ x, run env N p tc ⟨argT0 (packI pk (argsI ks x 0)) 0, boxI ks x 0⟩ (finS ns rs ks rk p q) = model x) : SFOK P f pk ks rk model :=
  sfOK_of hm hf hlen hp hq fun x y z hy cx hcx hnb hro s hs => run_sound hE N tc cx (by rw [hcx, hro]; exact hh) _ _ _ hs (by rw [hnb, ← hy]; exact hrun x)
end Go.Pv
