/- Entries for functions that turn boxes or make new ones. No condition of its own: over any program. -/
import Derived.Test.YtipokcccpbcmeaaDoorPxK
set_option linter.all false
namespace Go.Pv
open Go.RowKit
def ptr0 : IV → Option Nat
  | .ptr o 0 0 => some o
  | _ => none
theorem ptr0_eq {v : IV} {o : Nat} (h : ptr0 v = some o) : v = .ptr o 0 0 := by
  unfold ptr0 at h; split at h
  · injection h with h; rw [h]
  · cases h
def decOA : (p : PT) → List IV → IH → Option (El p.ty × List Nat × List IV)
  | .v t, cs, _ => match decC t cs with
    | some (x, r) => some (x, [], r)
    | none => none
  | .a t, cs, H => match cs with
    | .whole o :: r => match getH H o with
      | some (.arr t' as) => match castL t' t as with
        | some x => some (x, [o], r)
        | none => none
      | _ => none
    | _ => none
  | .p a b, cs, H => match decOA a cs H with
    | some (x, o1, r) => match decOA b r H with
      | some (y, o2, r') => some ((x, y), o1 ++ o2, r')
      | none => none
    | none => none
def readA : (ks : List AK) → List IV → IH → Option (Els (AK.tys ks) × List Nat × List Nat)
  | [], [], _ => some ((), [], [])
  | .b p :: r, v :: l, H => match ptr0 v with
    | some o => match getH H o, readA r l H with
      | some (.box _ cs), some (y, os, as) => match decOA p cs H with
        | some (x, a, []) => some (cns p.ty (AK.tys r) x y, o :: (a ++ os), a ++ as)
        | _ => none
      | _, _ => none
    | none => none
  | .v t :: r, v :: l, H => match decV t v, readA r l H with
    | some x, some (y, os, as) => some (cns t (AK.tys r) x y, os, as)
    | _, _ => none
  | [], _ :: _, _ => none
  | _ :: _, [], _ => none
def unpackI : List (Option (Nat × Nat)) → List IV → Option (List IV)
  | [], [] => some []
  | none :: r, v :: l => match unpackI r l with
    | some vs => some (v :: vs)
    | none => none
  | some (f, n) :: r, .fn g cs :: l => match Nat.beq f g, Nat.beq cs.length n, unpackI r l with
    | true, true, some vs => some (cs ++ vs)
    | _, _, _ => none
  | _, _ => none
def putB (o : Nat) (cs : List IV) (H : IH) : IH := match getH H o with
  | some (.box g _) => setH H o (some (.box g cs))
  | _ => H
def putBs : (ps : List PT) → Els (ptys ps) → List Nat → IH → Nat → IH
  | [], _, _, H, _ => H
  | _ :: _, _, [], H, _ => H
  | p :: r, x, o :: os, H, i => putBs r (tl p.ty (ptys r) x) (os.drop p.n) (putB o (oI p (hd p.ty (ptys r) x) i) H) (i + p.n)
def delHs : List Nat → IH → IH
  | [], H => H
  | a :: r, H => delHs r (setH H a none)
def newArr : (ps : List PT) → Els (ptys ps) → IH
  | [], _ => []
  | p :: r, x => oH p (hd p.ty (ptys r) x) ++ newArr r (tl p.ty (ptys r) x)
def numsFrom (i : Nat) : Nat → List Nat
  | 0 => []
  | n + 1 => i :: numsFrom (i + 1) n
def sfE (pk : List (Option (Nat × Nat))) (ks : List AK) (rk : List RK) (model : Els (AK.tys ks) → Option (Els (RK.tys rk) × Els (ptys (outs ks)))) : Ent := fun args H k => match unpackI pk args with
  | some vs => match readA ks vs H with
    | some (x, os, as) => brB (nodupB os) (Option.bind (model x) fun yz => k (resI (resIV rk yz.1 (H.length + arN (outs ks)))) (putBs (outs ks) yz.2 os (delHs as (killHs as H)) H.length ++ (newArr (outs ks) yz.2 ++ newI rk yz.1)) os (os ++ numsFrom H.length (arN (outs ks) + newN rk)) as) none
    | none => none
  | none => none
structure Keyed (l : Cks) (n : Nat) (key : Nat → Nat) (c : Nat → Ck) : Prop where
  len : l.length = n
  nth : ∀ k (h : k < l.length), l[k] = (key k, c k)
  inj : ∀ i j, i < n → j < n → key i = key j → i = j
theorem puts_has {H : Hp} {o : Nat} : ∀ {l : Cks}, o ∈ l.map (·.1) → ∃ ck, (o, ck) ∈ l ∧ ∀ H : Hp, puts H l o = some ck := by
  intro l h
  rcases puts_one l o with ⟨ck, h1, h2⟩ | h1
  · exact ⟨ck, h1, h2⟩
  · exfalso
    have key : ∀ (l : Cks) (H : Hp), o ∈ l.map (·.1) → ∃ ck, puts H l o = some ck := by
      intro l
      induction l with
      | nil => intro H h; simp at h
      | cons x l ih =>
        intro H h
        rw [puts_cons]
        by_cases hl : o ∈ l.map (·.1)
        · exact ih _ hl
        · have : o = x.1 := by simpa [hl] using h
          rw [puts_out hl, this, Hp.put_same]; exact ⟨_, rfl⟩
    obtain ⟨ck, hk⟩ := key l Hp.emp h
    rw [h1 Hp.emp] at hk; cases hk
theorem Keyed.get {l : Cks} {n : Nat} {key : Nat → Nat} {c : Nat → Ck} (h : Keyed l n key c) {k : Nat} (hk : k < n) (H : Hp) : puts H l (key k) = some (c k) := by
  have hk' : k < l.length := by rw [h.len]; exact hk
  have hm : key k ∈ l.map (·.1) := List.mem_map.2 ⟨_, List.getElem_mem hk', by rw [h.nth k hk']⟩
  obtain ⟨ck, h1, h2⟩ := puts_has (H := H) hm
  obtain ⟨j, hj, e⟩ := List.mem_iff_getElem.1 h1
  rw [h.nth j hj] at e
  injection e with e1 e2
  have := h.inj j k (by rw [← h.len]; exact hj) hk e1
  subst this
  rw [h2, e2]
theorem Keyed.mem {l : Cks} {n : Nat} {key : Nat → Nat} {c : Nat → Ck} (h : Keyed l n key c) {o : Nat} {ck : Ck} (ho : ofL l o = some ck) : ∃ k, k < n ∧ o = key k ∧ ck = c k := by
  obtain ⟨k, hk, e⟩ := List.mem_iff_getElem.1 (ofL_mem ho)
  rw [h.nth k hk] at e
  injection e with e1 e2
  exact ⟨k, by rw [← h.len]; exact hk, e1.symm, e2.symm⟩
theorem Keyed.out {l : Cks} {n : Nat} {key : Nat → Nat} {c : Nat → Ck} (h : Keyed l n key c) {o : Nat} (ho : ∀ k, k < n → o ≠ key k) (H : Hp) : puts H l o = H o := by
  refine puts_out fun hm => ?_
  obtain ⟨x, hx, e⟩ := List.mem_map.1 hm
  obtain ⟨k, hk, rfl⟩ := List.mem_iff_getElem.1 hx
  rw [h.nth k hk] at e
  exact ho k (by rw [← h.len]; exact hk) e.symm
theorem LE.keyed {ρ γ : Nat → Nat} {q : Nat} {l' l : Cks} (h : LE ρ γ q l' l 0) {n : Nat} (hl : l.length = n) (inj : ∀ i j, i < n → j < n → ρ i = ρ j → i = j) : Keyed l' n ρ (ckAt l') :=
  ⟨by rw [h.len, hl], fun k hk => by
    have := (h.nth k (by rw [← h.len]; exact hk) hk).2.1
    rw [Nat.zero_add] at this
    simp only [ckAt, List.getD_eq_getElem?_getD, List.getElem?_eq_getElem hk, Option.getD_some]
    exact Prod.ext this rfl, inj⟩
theorem unpack_rel {H : Hp} {nx : Nat} : ∀ (pk : List (Option (Nat × Nat))) (vs fs : List IV) (ds : List DV), unpackI pk vs = some fs → Rels H nx vs ds → ∃ es, Rels H nx fs es ∧ ds = packD pk es
  | [], vs, fs, ds, h, hr => by
    cases vs with
    | nil => simp only [unpackI, Option.some.injEq] at h; subst h; rw [hr.nil_l]; exact ⟨[], .nil, rfl⟩
    | cons v l => simp [unpackI] at h
  | none :: r, vs, fs, ds, h, hr => by
    cases vs with
    | nil => simp [unpackI] at h
    | cons v l =>
      obtain ⟨d, ds, rfl, h1, h2⟩ := hr.cons_l
      simp only [unpackI] at h
      split at h
      · rename_i ws hw
        injection h with h; subst h
        obtain ⟨es, k1, rfl⟩ := unpack_rel r l ws ds hw h2
        exact ⟨d :: es, k1.cons h1, rfl⟩
      · cases h
  | some (f, n) :: r, vs, fs, ds, h, hr => by
    cases vs with
    | nil => simp [unpackI] at h
    | cons v l =>
      obtain ⟨d, ds, rfl, h1, h2⟩ := hr.cons_l
      cases v with
      | fn g cs =>
        simp only [unpackI] at h
        split at h
        · rename_i ws hb hb2 hw
          injection h with h; subst h
          have := Nat.eq_of_beq_eq_true hb; subst this
          have hl := Nat.eq_of_beq_eq_true hb2
          obtain ⟨dc, rfl, hc⟩ := h1.fn_inv
          obtain ⟨es, k1, rfl⟩ := unpack_rel r l ws ds hw h2
          refine ⟨dc ++ es, hc.append k1, ?_⟩
          have e : n = dc.length := by rw [← hl, hc.1]
          simp only [packD, e, List.take_left', List.drop_left']
        · cases h
      | _ => simp [unpackI] at h
section read
variable {H : Hp} {nx : Nat} {HI : IH} {ρ γ : Nat → Nat} {q : Nat}
theorem decOA_at (hH : HRel HI H nx) : ∀ (p : PT) (cs : List IV) (x : El p.ty) (a : List Nat) (r : List IV) (ds : List DV) (i : Nat), decOA p cs HI = some (x, a, r) → Rels H nx cs ds →
    (∀ (k o : Nat), a[k]? = some o → ρ (i + k) = o ∧ γ (i + k) = ((H o).map (·.gen)).getD 0) →
    a.length = p.n ∧ (∃ d1 d2, ds = d1 ++ d2 ∧ Both WkD d1 (oDr ρ γ p x i) ∧ Rels H nx r d2) ∧ ∀ (k : Nat) c, (oCr id g0 p x i)[k]? = some c → ∃ (o : Nat) (ck : Ck), a[k]? = some o ∧ H o = some ck ∧ o < nx ∧ CkM ρ γ q ck.gen ck c.2
  | .v t, cs, x, a, r, ds, i, h, hr, hρ => by
    simp only [decOA] at h
    split at h
    · rename_i y r' hy
      simp only [Option.some.injEq, Prod.mk.injEq] at h
      obtain ⟨rfl, rfl, rfl⟩ := h
      obtain ⟨d1, d2, e, h1, h2⟩ := decC_rel t cs x r ds hy hr
      exact ⟨rfl, ⟨d1, d2, e, relT_wk t x d1 h1, h2⟩, fun k c hk => by simp [oCr] at hk⟩
    · cases h
  | .a t, cs, x, a, r, ds, i, h, hr, hρ => by
    simp only [decOA] at h
    split at h
    · rename_i o r'
      split at h
      · rename_i t' as hc
        split at h
        · rename_i y hy
          simp only [Option.some.injEq, Prod.mk.injEq] at h
          obtain ⟨rfl, rfl, rfl⟩ := h
          obtain ⟨rfl, rfl⟩ := castL_some hy
          obtain ⟨y, hyx⟩ : ∃ y : List (El t'), y = x := ⟨x, rfl⟩
          subst hyx
          obtain ⟨d, ds, rfl, q1, q2⟩ := hr.cons_l
          obtain ⟨g, n, rfl, ho, hg⟩ := q1.whole_inv
          obtain ⟨_, ck, k1, k2⟩ := hH o _ hc
          obtain ⟨z1, z2⟩ := k2
          obtain ⟨g1, g2⟩ := hg ck k1
          obtain ⟨r1, r2⟩ := hρ 0 o rfl
          rw [Nat.add_zero] at r1 r2
          rw [k1] at r2
          have r2' : γ i = ck.gen := r2
          refine ⟨rfl, ⟨[.own o g 0 n], ds, rfl, ?_, q2⟩, fun k c hk => ?_⟩
          · show Both WkD _ [DV.own (ρ i) (γ i) 0 (List.length y)]
            rw [r1, r2', g1, z2.1, g2]; exact .one (.refl _)
          · cases k with
            | zero =>
              simp only [oCr, List.getElem?_cons_zero, Option.some.injEq] at hk; subst hk
              refine ⟨o, ck, rfl, k1, ho, ⟨by show ck.gen = 0 + ck.gen; omega, z1.symm, ?_, fun j h1 h2 => ?_⟩⟩
              · show (List.map (encD t') y).length = _
                rw [List.length_map]; exact z2.1
              · have hj : j < y.length := by rw [z2.1]; exact h2
                have hw := relT_wk t' y[j] ck.xs[j] (z2.2 j hj h2)
                have e : (List.map (encD t') y)[j]'(by rw [List.length_map]; exact hj) = encD t' y[j] := List.getElem_map ..
                show ((List.map (encD t') y)[j]'(by rw [List.length_map]; exact hj)).length = _ ∧ _
                refine ⟨by rw [e]; exact hw.1.symm, fun m h3 h4 => ?_⟩
                show ∃ e', WkD _ e' ∧ Rn ρ γ q e' (((List.map (encD t') y)[j]'(by rw [List.length_map]; exact hj))[m]'h3)
                have h3' : m < (encD t' y[j]).length := by rw [← hw.1]; exact h4
                refine ⟨(encD t' y[j])[m], hw.2 m h4 h3', ?_⟩
                simp only [e]
                exact .flat _ (RelT.ids t' _ _ (encD_rel t' _) _ (List.getElem_mem h3'))
            | succ k => simp [oCr] at hk
        · cases h
      · cases h
    · cases h
  | .p a b, cs, x, as, r, ds, i, h, hr, hρ => by
    simp only [decOA] at h
    split at h
    · rename_i x1 o1 r1 h1
      split at h
      · rename_i y1 o2 r2 h2
        simp only [Option.some.injEq, Prod.mk.injEq] at h
        obtain ⟨rfl, rfl, rfl⟩ := h
        obtain ⟨l1, ⟨d1, d2, rfl, q1, q2⟩, q3⟩ := decOA_at hH a cs x1 o1 r1 ds i h1 hr fun k o hk => hρ k o (by rw [List.getElem?_append_left (List.getElem?_eq_some_iff.1 hk).1]; exact hk)
        obtain ⟨l2, ⟨d3, d4, rfl, q4, q5⟩, q6⟩ := decOA_at hH b r1 y1 o2 r d2 (i + a.n) h2 q2 fun k o hk => by
          have := hρ (a.n + k) o (by rw [List.getElem?_append_right (by rw [l1]; omega), l1, Nat.add_sub_cancel_left]; exact hk)
          rw [← Nat.add_assoc] at this; exact this
        refine ⟨by simp [l1, l2, PT.n], ⟨d1 ++ d3, d4, by rw [List.append_assoc], q1.append q4, q5⟩, fun k c hk => ?_⟩
        simp only [oCr] at hk
        rw [List.getElem?_append] at hk
        split at hk
        · rename_i hlt
          rw [oCr_len] at hlt
          obtain ⟨o, ck, u1, u2⟩ := q3 k c hk
          exact ⟨o, ck, by rw [List.getElem?_append_left (by rw [l1]; exact hlt)]; exact u1, u2⟩
        · rename_i hge
          rw [oCr_len] at hge hk
          obtain ⟨o, ck, u1, u2⟩ := q6 _ c hk
          exact ⟨o, ck, by rw [List.getElem?_append_right (by rw [l1]; omega), l1]; exact u1, u2⟩
      · cases h
    · cases h
theorem readA_at (hH : HRel HI H nx) : ∀ (ks : List AK) (vs : List IV) (x : Els (AK.tys ks)) (os as : List Nat) (ds : List DV) (j : Nat), readA ks vs HI = some (x, os, as) → Rels H nx vs ds → j + nbs (outs ks) ≤ q →
    (∀ (k o : Nat), os[k]? = some o → ρ (j + k) = o ∧ γ (j + k) = ((H o).map (·.gen)).getD 0) →
    os.length = nbs (outs ks) ∧ Both WkD ds (argsD ρ γ ks x j) ∧ (∀ (k : Nat) c, (boxC id g0 (outs ks) (inB' ks x) j)[k]? = some c → ∃ (o : Nat) (ck : Ck), os[k]? = some o ∧ H o = some ck ∧ o < nx ∧ CkM ρ γ q ck.gen ck c.2 ∧ (deadB (outs ks) j (j + k) = false → ∃ cs, getH HI o = some (.box ck.gen cs))) ∧
    (∀ (k o : Nat), os[k]? = some o → deadB (outs ks) j (j + k) = true → o ∈ as) ∧ ∀ a, a ∈ as → ∃ k, os[k]? = some a ∧ deadB (outs ks) j (j + k) = true
  | [], vs, x, os, as, ds, j, h, hr, hq, hρ => by
    cases vs with
    | nil =>
      simp only [readA, Option.some.injEq, Prod.mk.injEq] at h
      obtain ⟨_, rfl, rfl⟩ := h
      rw [hr.nil_l]; exact ⟨rfl, .nil, fun k c hk => by simp [outs, boxC] at hk, fun k o hk => by simp at hk, fun a ha => by cases ha⟩
    | cons v l => simp [readA] at h
  | .b p :: r, vs, x, os, as, ds, j, h, hr, hq, hρ => by
    cases vs with
    | nil => simp [readA] at h
    | cons v l =>
      obtain ⟨d, ds, rfl, h1, h2⟩ := hr.cons_l
      simp only [readA] at h
      split at h
      · rename_i o ho
        split at h
        · rename_i g cs y os' as' hc hy
          split at h
          · rename_i e a he
            simp only [Option.some.injEq, Prod.mk.injEq] at h
            obtain ⟨rfl, rfl, rfl⟩ := h
            have := ptr0_eq ho; subst this
            simp only [outs, nbs] at hq
            obtain ⟨g', rfl, _, hg⟩ := h1.ptr_inv
            obtain ⟨hlt, ck, k1, k2⟩ := hH o _ hc
            obtain ⟨rfl, _⟩ := hg ck k1
            obtain ⟨a1, dd, a2, a3, a4⟩ := k2
            obtain ⟨l1, ⟨d1, d2, hdd, w1, w2⟩, w3⟩ := decOA_at (ρ := ρ) (γ := γ) (q := q) hH p cs e a [] dd (j + 1) he a3 fun k o' hk => by
              have := hρ (k + 1) o' (by rw [List.getElem?_cons_succ, List.getElem?_append_left (List.getElem?_eq_some_iff.1 hk).1]; exact hk)
              rw [show j + 1 + k = j + (k + 1) by omega]; exact this
            have := w2.nil_l; subst this
            rw [List.append_nil] at hdd; subst hdd
            obtain ⟨q1, q2, q3, q4, q5⟩ := readA_at hH r l y os' as' ds (j + (1 + p.n)) hy h2 (by omega) fun k o' ho' => by
              have := hρ (1 + p.n + k) o' (by rw [show 1 + p.n + k = (p.n + k) + 1 by omega, List.getElem?_cons_succ, List.getElem?_append_right (by rw [l1]; omega), l1, Nat.add_sub_cancel_left]; exact ho')
              rw [← Nat.add_assoc] at this; exact this
            have r0 := hρ 0 o rfl
            rw [Nat.add_zero] at r0
            have eh : hd p.ty (AK.tys r) (cns p.ty (AK.tys r) e y) = e := hd_cns p.ty _ e y
            have et : tl p.ty (AK.tys r) (cns p.ty (AK.tys r) e y) = y := tl_cns p.ty _ e y
            have inA : ∀ k, k < p.n → deadB (outs (.b p :: r)) j (j + (k + 1)) = true := fun k hk => by
              have h6 : Nat.ble (j + 1) (j + (k + 1)) = true := Nat.ble_eq_true_of_le (by omega)
              have h7 : Nat.ble (j + (k + 1) + 1) (j + (1 + p.n)) = true := Nat.ble_eq_true_of_le (by omega)
              simp only [outs, deadB, h6, h7, Bool.and_self, Bool.true_or]
            have beyond : ∀ k, p.n ≤ k → deadB (outs (.b p :: r)) j (j + (k + 1)) = deadB (outs r) (j + (1 + p.n)) (j + (1 + p.n) + (k - p.n)) := fun k hk => by
              have h7 : Nat.ble (j + (k + 1) + 1) (j + (1 + p.n)) = false := by
                cases hb : Nat.ble (j + (k + 1) + 1) (j + (1 + p.n)) with
                | false => rfl
                | true => have := Nat.le_of_ble_eq_true hb; omega
              simp only [outs, deadB, h7, Bool.and_false, Bool.false_or]
              rw [show j + (1 + p.n) + (k - p.n) = j + (k + 1) by omega]
            refine ⟨by simp only [outs, nbs, List.length_cons, List.length_append, l1, q1]; omega, ?_, fun k c hk => ?_, fun k o' hk hd => ?_, fun b hb => ?_⟩
            · simp only [argsD, et]
              rw [r0.1, r0.2, k1]
              exact q2.cons (.refl _)
            · simp only [outs, inB', boxC, eh, et, hd_cns, tl_cns] at hk
              cases k with
              | zero =>
                simp only [List.getElem?_cons_zero, Option.some.injEq] at hk; subst hk
                refine ⟨o, ck, rfl, k1, hlt, ⟨by show ck.gen = 0 + ck.gen; omega, ?_, by rw [a2]; rfl, fun i h5 h6 => ?_⟩, fun _ => ⟨cs, by rw [a4]; exact hc⟩⟩
                · show p.ty.sz = ck.sz
                  rw [a1, a3.1, w1.1, oDr_sz]
                · have : i = 0 := by simpa using h5
                  subst this
                  have hrn := oDr_rn (ρ := ρ) (γ := γ) (q := q) p e (j + 1) (by omega)
                  have eid : oDr id g0 p e (j + 1) = oD g0 p e (j + 1) := oDr_id p e (j + 1)
                  simp only [a2, List.getElem_cons_zero, eid]
                  refine ⟨by rw [w1.1, oDr_sz, oD_sz], fun m h7 h8 => ?_⟩
                  have h9 : m < (oDr ρ γ p e (j + 1)).length := by rw [← w1.1]; exact h8
                  exact ⟨_, w1.2 m h8 h9, hrn.2 m h9 h7⟩
              | succ k =>
                simp only [List.getElem?_cons_succ] at hk
                rw [List.getElem?_append] at hk
                split at hk
                · rename_i hlt2
                  rw [oCr_len] at hlt2
                  obtain ⟨o', ck', u1, u2, u3, u4⟩ := w3 k c hk
                  refine ⟨o', ck', by rw [List.getElem?_cons_succ, List.getElem?_append_left (by rw [l1]; exact hlt2)]; exact u1, u2, u3, u4, fun hd => ?_⟩
                  rw [inA k hlt2] at hd; cases hd
                · rename_i hge
                  rw [oCr_len] at hge hk
                  obtain ⟨o', ck', u1, u2, u3, u4, u5⟩ := q3 _ c hk
                  refine ⟨o', ck', by rw [List.getElem?_cons_succ, List.getElem?_append_right (by rw [l1]; omega), l1]; exact u1, u2, u3, u4, fun hd => u5 ?_⟩
                  rw [← beyond k (by omega)]; exact hd
            · cases k with
              | zero =>
                have := deadB_lt _ _ _ hd; omega
              | succ k =>
                simp only [List.getElem?_cons_succ] at hk
                rw [List.getElem?_append] at hk
                split at hk
                · exact List.mem_append_left _ (List.mem_of_getElem? hk)
                · rename_i hge
                  rw [l1] at hge hk
                  exact List.mem_append_right _ (q4 _ _ hk (by rw [← beyond k (by omega)]; exact hd))
            · rcases List.mem_append.1 hb with hb | hb
              · obtain ⟨k, hk, rfl⟩ := List.mem_iff_getElem.1 hb
                exact ⟨k + 1, by rw [List.getElem?_cons_succ, List.getElem?_append_left hk, List.getElem?_eq_getElem hk], inA k (by rw [← l1]; exact hk)⟩
              · obtain ⟨k, k3, k4⟩ := q5 b hb
                refine ⟨p.n + k + 1, by rw [List.getElem?_cons_succ, List.getElem?_append_right (by rw [l1]; omega), l1, Nat.add_sub_cancel_left]; exact k3, ?_⟩
                rw [beyond (p.n + k) (by omega), Nat.add_sub_cancel_left]; exact k4
          · cases h
        · cases h
      · cases h
  | .v t :: r, vs, x, os, as, ds, j, h, hr, hq, hρ => by
    cases vs with
    | nil => simp [readA] at h
    | cons v l =>
      obtain ⟨d, ds, rfl, h1, h2⟩ := hr.cons_l
      simp only [readA] at h
      split at h
      · rename_i e y os' as' he hy
        simp only [Option.some.injEq, Prod.mk.injEq] at h
        obtain ⟨rfl, rfl, rfl⟩ := h
        obtain ⟨q1, q2, q3, q4⟩ := readA_at hH r l y _ _ ds j hy h2 hq hρ
        refine ⟨q1, ?_, fun k c hk => q3 k c ?_, q4⟩
        · simp only [argsD]
          rw [show tl t (AK.tys r) (cns t (AK.tys r) e y) = y from tl_cns t _ e y, show hd t (AK.tys r) (cns t (AK.tys r) e y) = e from hd_cns t _ e y]
          exact q2.cons (decV_wk he h1)
        · simp only [outs, inB'] at hk
          rw [show tl t (AK.tys r) (cns t (AK.tys r) e y) = y from tl_cns t _ e y] at hk
          exact hk
      · cases h
end read
theorem argsD_rn {ρ γ : Nat → Nat} {q : Nat} : ∀ (ks : List AK) (x : Els (AK.tys ks)) (j : Nat), j + nbs (outs ks) ≤ q → Both (Rn ρ γ q) (argsD ρ γ ks x j) (argsD id g0 ks x j)
  | [], _, _, _ => .nil
  | .b p :: r, x, j, h => by
    simp only [outs, nbs] at h
    refine (argsD_rn r _ (j + (1 + p.n)) (by omega)).cons ?_
    have := Rn.ptr (r := ρ) (γ := γ) (q := q) j 0 0 0 (by omega)
    rw [Nat.zero_add] at this; exact this
  | .v t :: r, x, j, h => (argsD_rn r _ j h).cons (.flat _ (valD_ids t _))
theorem oDV_rn {ρ γ : Nat → Nat} {q : Nat} (p : PT) (x : El p.ty) (i i' : Nat) (h : ∀ k, k < p.n → i + k < q ∧ ρ (i + k) = i' + k ∧ γ (i + k) = 0) : Rn ρ γ q (oDV g0 p x i') (oDV g0 p x i) := by
  have w := oD_rn (ρ := ρ) (γ := γ) (q := q) (gs := g0) (gs' := g0) p x i i' fun k hk => ⟨(h k hk).1, (h k hk).2.1, (h k hk).2.2, rfl⟩
  unfold oDV
  cases ha : isAg p.ty with
  | true => exact .agg _ _ w.1 w.2
  | false =>
    obtain ⟨_, ⟨d, he⟩⟩ := o_one ha x g0 i'
    obtain ⟨_, ⟨d', he'⟩⟩ := o_one ha x g0 i
    rw [he, he'] at w
    rw [he, he']
    exact w.2 0 (by simp) (by simp)
theorem resD_rn {ρ γ : Nat → Nat} {q : Nat} : ∀ (rk : List RK) (y : Els (RK.tys rk)) (i i' : Nat), (∀ k, k < newN rk → i + k < q ∧ ρ (i + k) = i' + k ∧ γ (i + k) = 0) → Both (Rn ρ γ q) (resD g0 rk y i') (resD g0 rk y i)
  | [], _, _, _, _ => .nil
  | .v t :: r, y, i, i', h => (resD_rn r _ i i' h).cons (.flat _ (valD_ids t _))
  | .n t :: r, y, i, i', h => by
    have h0 := h 0 (by simp [newN])
    simp only [Nat.add_zero] at h0
    refine (resD_rn r _ (i + 1) (i' + 1) fun k hk => ?_).cons ?_
    · have := h (k + 1) (by simp only [newN]; omega)
      rw [show i + 1 + k = i + (k + 1) by omega]
      exact ⟨this.1, by rw [this.2.1]; omega, this.2.2⟩
    · have := Rn.ptr (r := ρ) (γ := γ) (q := q) i 0 0 0 h0.1
      rw [h0.2.1, h0.2.2] at this; exact this
  | .o p :: r, y, i, i', h => by
    refine (resD_rn r _ (i + p.n) (i' + p.n) fun k hk => ?_).cons (oDV_rn p _ i i' fun k hk => h k (by simp only [newN]; omega))
    have := h (p.n + k) (by simp only [newN]; omega)
    rw [Nat.add_assoc, Nat.add_assoc]; exact this
theorem resV_rn {ρ γ : Nat → Nat} {q : Nat} {ds es : List DV} (h : Both (Rn ρ γ q) ds es) : Rn ρ γ q (resV ds) (resV es) := by
  cases ds with
  | nil => rw [h.nil_l]; exact .tup _ _ rfl (fun j h => by cases h)
  | cons d ds =>
    obtain ⟨e1, es', rfl, q1, q2⟩ := h.cons_l
    cases ds with
    | nil => rw [q2.nil_l]; exact q1
    | cons d2 ds =>
      obtain ⟨e2, es2, rfl, q3, q4⟩ := q2.cons_l
      exact .tup _ _ h.1 h.2
theorem oIV_rel {H : Hp} {nx : Nat} (p : PT) (x : El p.ty) (i : Nat) (h : ∀ (k : Nat) c, (oC g0 p x i)[k]? = some c → i + k < nx ∧ H (i + k) = some c.2) : Rel H nx (oIV p x i) (oDV g0 p x i) := by
  have w := oI_rel (H := H) (nx := nx) (gs := g0) p x i h
  unfold oIV oDV
  cases ha : isAg p.ty with
  | true => exact .agg _ _ w.1 w.2
  | false =>
    obtain ⟨⟨c, hc⟩, ⟨d, he⟩⟩ := o_one ha x g0 i
    rw [hc, he] at w
    rw [hc, he]
    exact w.2 0 (by simp) (by simp)
theorem resIV_rel {H : Hp} {nx : Nat} : ∀ (rk : List RK) (y : Els (RK.tys rk)) (i : Nat), (∀ (k : Nat) c, (newC g0 rk y i)[k]? = some c → i + k < nx ∧ H (i + k) = some c.2) → Rels H nx (resIV rk y i) (resD g0 rk y i)
  | [], _, _, _ => .nil
  | .v t :: r, y, i, h => (resIV_rel r _ i h).cons (valI_rel t _)
  | .n t :: r, y, i, h => by
    have h0 := h 0 _ rfl
    rw [Nat.add_zero] at h0
    refine (resIV_rel r _ (i + 1) fun k c hk => ?_).cons (.ptr _ _ _ _ h0.1 fun ck hk => ?_)
    · have := h (k + 1) c (by simp only [newC, List.getElem?_cons_succ]; exact hk)
      rw [show i + 1 + k = i + (k + 1) by omega]; exact this
    · rw [h0.2] at hk
      injection hk with hk; subst hk
      exact ⟨rfl, by simp⟩
  | .o p :: r, y, i, h => by
    refine (resIV_rel r _ (i + p.n) fun k c hk => ?_).cons (oIV_rel p _ i fun k c hk => h k c ?_)
    · have := h (p.n + k) c (by
        simp only [newC]
        rw [List.getElem?_append_right (by rw [oC_len]; omega), oC_len, show p.n + k - p.n = k by omega]; exact hk)
      rw [Nat.add_assoc]; exact this
    · simp only [newC]
      rw [List.getElem?_append_left]; exact hk
      exact (List.getElem?_eq_some_iff.1 hk).1
theorem newI_at {H : Hp} {nx : Nat} : ∀ (rk : List RK) (y : Els (RK.tys rk)) (i o : Nat) (c : ICk), getH (newI rk y) o = some c → ∃ cp, (newC g0 rk y i)[o]? = some (i + o, cp) ∧ CkR H nx c cp
  | [], _, _, o, c, h => by simp [newI, getH] at h
  | .v t :: r, y, i, o, c, h => newI_at r _ i o c h
  | .n t :: r, y, i, 0, c, h => by
    simp only [newI, getH, Option.some.injEq] at h; subst h
    exact ⟨_, rfl, CkR.boxI (by rw [← (encD_rel t _).len]; exact (encC_rel (H := H) (nx := nx) t _ _ (encD_rel t _)).1.symm) (encC_rel t _ _ (encD_rel t _))⟩
  | .n t :: r, y, i, o + 1, c, h => by
    simp only [newI, getH] at h
    obtain ⟨cp, h1, h2⟩ := newI_at r _ (i + 1) o c h
    simp only [newC, List.getElem?_cons_succ]
    exact ⟨cp, by rw [h1]; congr 2; omega, h2⟩
  | .o p :: r, y, i, o, c, h => by
    simp only [newI] at h
    rw [getH_append, oH_len] at h
    simp only [newC]
    split at h
    · rename_i hlt
      obtain ⟨cp, h1, h2⟩ := oH_at (H := H) (nx := nx) (gs := g0) p _ i o c h
      exact ⟨cp, by rw [List.getElem?_append_left (by rw [oC_len]; exact hlt)]; exact h1, h2⟩
    · rename_i hge
      obtain ⟨cp, h1, h2⟩ := newI_at (H := H) (nx := nx) r _ (i + p.n) (o - p.n) c h
      refine ⟨cp, ?_, h2⟩
      rw [List.getElem?_append_right (by rw [oC_len]; omega), oC_len, h1]
      congr 2; omega
theorem newI_len : ∀ (rk : List RK) (y : Els (RK.tys rk)), (newI rk y).length = newN rk
  | [], _ => rfl
  | .v t :: r, y => newI_len r _
  | .n t :: r, y => by simp [newI, newN, newI_len r]
  | .o p :: r, y => by simp only [newI, newN, List.length_append, oH_len, newI_len r]; omega
theorem putB_len (o : Nat) (cs : List IV) (H : IH) : (putB o cs H).length = H.length := by
  unfold putB; split
  · exact setH_len _ _ _
  · rfl
theorem putB_get {o : Nat} {cs : List IV} {H : IH} {g : Nat} {cs0 : List IV} (h : getH H o = some (.box g cs0)) (o' : Nat) : getH (putB o cs H) o' = if o' = o then some (.box g cs) else getH H o' := by
  have hlt := getH_lt _ _ _ h
  unfold putB; rw [h]; simp only
  rw [getH_set]
  by_cases e : o' = o
  · rw [if_pos ⟨e, hlt⟩, if_pos e]
  · rw [if_neg fun h => e h.1, if_neg e]
theorem putBs_len : ∀ (ps : List PT) (x : Els (ptys ps)) (os : List Nat) (H : IH) (i : Nat), (putBs ps x os H i).length = H.length
  | [], _, _, _, _ => rfl
  | _ :: _, _, [], _, _ => rfl
  | p :: r, x, o :: os, H, i => by simp only [putBs]; rw [putBs_len r, putB_len]
theorem newArr_len : ∀ (ps : List PT) (x : Els (ptys ps)), (newArr ps x).length = arN ps
  | [], _ => rfl
  | p :: r, x => by simp only [newArr, List.length_append, oH_len, newArr_len r, arN]
theorem newArr_at {H : Hp} {nx : Nat} : ∀ (ps : List PT) (z : Els (ptys ps)) (i o : Nat) (c : ICk), getH (newArr ps z) o = some c → ∃ cp, (arsC g0 ps z i)[o]? = some (i + o, cp) ∧ CkR H nx c cp
  | [], _, _, o, c, h => by simp [newArr, getH] at h
  | p :: r, z, i, o, c, h => by
    simp only [newArr] at h
    rw [getH_append, oH_len] at h
    simp only [arsC]
    split at h
    · rename_i hlt
      obtain ⟨cp, h1, h2⟩ := oH_at (H := H) (nx := nx) (gs := g0) p _ i o c h
      exact ⟨cp, by rw [List.getElem?_append_left (by rw [oC_len]; exact hlt)]; exact h1, h2⟩
    · rename_i hge
      obtain ⟨cp, h1, h2⟩ := newArr_at (H := H) (nx := nx) r _ (i + p.n) (o - p.n) c h
      refine ⟨cp, ?_, h2⟩
      rw [List.getElem?_append_right (by rw [oC_len]; omega), oC_len, h1]
      congr 2; omega
theorem delHs_len : ∀ (as : List Nat) (H : IH), (delHs as H).length = H.length
  | [], H => rfl
  | a :: r, H => by simp only [delHs]; rw [delHs_len r, setH_len]
theorem delHs_get : ∀ (as : List Nat) (H : IH) (o : Nat), (o ∈ as → getH (delHs as H) o = none) ∧ (o ∉ as → getH (delHs as H) o = getH H o)
  | [], H, o => ⟨fun h => (by cases h), fun _ => rfl⟩
  | a :: r, H, o => by
    have ih := delHs_get r (setH H a none) o
    simp only [delHs]
    have one : getH (setH H a none) a = none := by
      rw [getH_set]
      split
      · rfl
      · rename_i hne
        cases hg : getH H a with
        | none => rfl
        | some c => exact absurd ⟨rfl, getH_lt _ _ _ hg⟩ hne
    refine ⟨fun h => ?_, fun h => ?_⟩
    · by_cases hr : o ∈ r
      · exact ih.1 hr
      · have : o = a := by simpa [hr] using h
        subst this
        rw [ih.2 hr, one]
    · simp only [List.mem_cons, not_or] at h
      rw [ih.2 h.2, getH_set, if_neg fun e => h.1 e.1]
theorem killHs_box : ∀ (kl : List Nat) (H : IH) (o g : Nat) (cs : List IV), getH H o = some (.box g cs) → ∃ cs', getH (killHs kl H) o = some (.box g cs')
  | [], H, o, g, cs, h => ⟨cs, h⟩
  | a :: r, H, o, g, cs, h => killHs_box r (killH a H) o g (cs.map (killC a)) (by rw [killH_get, h]; rfl)
theorem putBs_at {H : Hp} {nx : Nat} (ρ γ : Nat → Nat) : ∀ (ps : List PT) (z : Els (ptys ps)) (os : List Nat) (j i : Nat) (HI : IH), os.length = nbs ps → (∀ (a b o : Nat), os[a]? = some o → os[b]? = some o → a = b) →
    (∀ (k o : Nat), os[k]? = some o → deadB ps j (j + k) = false → ρ (j + k) = o ∧ ∃ cs, getH HI o = some (.box (γ (j + k)) cs)) → (∀ (k : Nat) c, (arsC g0 ps z i)[k]? = some c → i + k < nx ∧ H (i + k) = some c.2) → ∀ (o : Nat) (c : ICk), getH (putBs ps z os HI i) o = some c →
      (∃ (k : Nat) (cp : Ck), os[k]? = some o ∧ (bxC ρ γ ps z j i)[k]? = some (o, cp) ∧ CkR H nx c cp) ∨ ((∀ k : Nat, os[k]? = some o → deadB ps j (j + k) = true) ∧ getH HI o = some c)
  | [], z, os, j, i, HI, hl, hnd, hb, hH, o, c, h => by
    have : os = [] := List.eq_nil_of_length_eq_zero hl
    subst this
    exact .inr ⟨fun k hk => by simp at hk, h⟩
  | p :: r, z, [], j, i, HI, hl, hnd, hb, hH, o, c, h => by simp only [nbs, List.length_nil] at hl; omega
  | p :: r, z, o1 :: os, j, i, HI, hl, hnd, hb, hH, o, c, h => by
    simp only [putBs] at h
    simp only [nbs, List.length_cons] at hl
    obtain ⟨r1, cs0, r2⟩ := hb 0 o1 rfl (deadB_off (.inl (Nat.le_refl _)))
    rw [Nat.add_zero] at r1 r2
    have hne : ∀ k o', os[k]? = some o' → o' ≠ o1 := fun k o' hk e => by
      subst e
      have := hnd 0 (k + 1) o' rfl (by simpa using hk)
      omega
    have dget : ∀ k, (os.drop p.n)[k]? = os[p.n + k]? := fun k => List.getElem?_drop ..
    have beyond : ∀ k, deadB (p :: r) j (j + (p.n + k + 1)) = deadB r (j + (1 + p.n)) (j + (1 + p.n) + k) := fun k => by
      have h7 : Nat.ble (j + (p.n + k + 1) + 1) (j + (1 + p.n)) = false := by
        cases hb : Nat.ble (j + (p.n + k + 1) + 1) (j + (1 + p.n)) with
        | false => rfl
        | true => have := Nat.le_of_ble_eq_true hb; omega
      simp only [deadB, h7, Bool.and_false, Bool.false_or]
      rw [show j + (1 + p.n) + k = j + (p.n + k + 1) by omega]
    have ih := putBs_at (H := H) (nx := nx) ρ γ r (tl p.ty (ptys r) z) (os.drop p.n) (j + (1 + p.n)) (i + p.n) (putB o1 (oI p (hd p.ty (ptys r) z) i) HI) (by rw [List.length_drop]; omega) (fun a b o' h1 h2 => by
      rw [dget] at h1 h2
      have := hnd (p.n + a + 1) (p.n + b + 1) o' (by simpa using h1) (by simpa using h2); omega) (fun k o' hk hd => by
      rw [dget] at hk
      obtain ⟨a1, cs, a2⟩ := hb (p.n + k + 1) o' (by simpa using hk) (by rw [beyond]; exact hd)
      rw [show j + (1 + p.n) + k = j + (p.n + k + 1) by omega]
      refine ⟨a1, cs, ?_⟩
      rw [putB_get r2, if_neg (hne _ o' hk)]; exact a2) (fun k c hk => by
      have := hH (p.n + k) c (by simp only [arsC]; rw [List.getElem?_append_right (by rw [oC_len]; omega), oC_len, Nat.add_sub_cancel_left]; exact hk)
      rw [← Nat.add_assoc] at this; exact this) o c h
    rcases ih with ⟨k, cp, b1, b2, b3⟩ | ⟨b1, b2⟩
    · rw [dget] at b1
      refine .inl ⟨p.n + k + 1, cp, by simpa using b1, ?_, b3⟩
      simp only [bxC, List.getElem?_cons_succ]
      rw [List.getElem?_append_right (by rw [deadC_len]; omega), deadC_len, Nat.add_sub_cancel_left]; exact b2
    · rw [putB_get r2] at b2
      by_cases e : o = o1
      · rw [if_pos e] at b2
        injection b2 with b2; subst b2; subst e
        refine .inl ⟨0, ⟨γ j, p.ty.sz, [oD g0 p (hd p.ty (ptys r) z) i]⟩, rfl, by simp only [bxC, List.getElem?_cons_zero, r1], ?_⟩
        have hr := oI_rel (H := H) (nx := nx) (gs := g0) p (hd p.ty (ptys r) z) i fun k c hk => hH k c (by simp only [arsC]; rw [List.getElem?_append_left (List.getElem?_eq_some_iff.1 hk).1]; exact hk)
        exact CkR.boxI (by rw [hr.1, oD_sz]) hr
      · rw [if_neg e] at b2
        refine .inr ⟨fun k hk => ?_, b2⟩
        cases k with
        | zero => simp only [List.getElem?_cons_zero, Option.some.injEq] at hk; exact absurd hk.symm e
        | succ k =>
          simp only [List.getElem?_cons_succ] at hk
          by_cases hk2 : k < p.n
          · have h6 : Nat.ble (j + 1) (j + (k + 1)) = true := Nat.ble_eq_true_of_le (by omega)
            have h7 : Nat.ble (j + (k + 1) + 1) (j + (1 + p.n)) = true := Nat.ble_eq_true_of_le (by omega)
            simp only [deadB, h6, h7, Bool.and_self, Bool.true_or]
          · have := b1 (k - p.n) (by rw [dget, show p.n + (k - p.n) = k by omega]; exact hk)
            rw [← beyond, show p.n + (k - p.n) + 1 = k + 1 by omega] at this; exact this
theorem numsFrom_add : ∀ (a i b : Nat), numsFrom i a ++ numsFrom (i + a) b = numsFrom i (a + b)
  | 0, i, b => by simp [numsFrom]
  | a + 1, i, b => by
    rw [show a + 1 + b = (a + b) + 1 by omega]
    simp only [numsFrom, List.cons_append]
    rw [← numsFrom_add a (i + 1) b, show i + 1 + a = i + (a + 1) by omega]
theorem oC_keys (gs : Nat → Nat) : ∀ (p : PT) (x : El p.ty) (i : Nat), (oC gs p x i).map (·.1) = numsFrom i p.n
  | .v _, _, _ => rfl
  | .a _, _, _ => rfl
  | .p a b, x, i => by simp only [oC, List.map_append, oC_keys gs a, oC_keys gs b, PT.n, numsFrom_add]
theorem numsFrom_eq : ∀ (rk : List RK) (y : Els (RK.tys rk)) (i : Nat), (newC g0 rk y i).map (·.1) = numsFrom i (newN rk)
  | [], _, _ => rfl
  | .v t :: r, y, i => numsFrom_eq r _ i
  | .n t :: r, y, i => by simp [newC, newN, numsFrom, numsFrom_eq r]
  | .o p :: r, y, i => by
    simp only [newC, newN, List.map_append, numsFrom_eq r, oC_keys]
    rw [numsFrom_add, Nat.add_comm]
theorem arsC_keys (gs : Nat → Nat) : ∀ (ps : List PT) (z : Els (ptys ps)) (i : Nat), (arsC gs ps z i).map (·.1) = numsFrom i (arN ps)
  | [], _, _ => rfl
  | p :: r, z, i => by simp only [arsC, List.map_append, oC_keys, arsC_keys gs r, numsFrom_add, arN]
theorem nodupB_inj' {l : List Nat} (h : nodupB l = true) (i j o : Nat) (h1 : l[i]? = some o) (h2 : l[j]? = some o) : i = j := nodupB_inj h i j o h1 h2
theorem sfE_ok {P : Program} {f : FuncId} {pk : List (Option (Nat × Nat))} {ks : List AK} {rk : List RK} {model : Els (AK.tys ks) → Option (Els (RK.tys rk) × Els (ptys (outs ks)))} (h : SFOK P f pk ks rk model) : EntOK P f (sfE pk ks rk model) := by
  intro R args HI k r hr dargs H nx ha hH hn
  simp only [sfE] at hr
  split at hr
  · rename_i vs hun
    obtain ⟨dvs, hvs, rfl⟩ := unpack_rel pk args vs dargs hun ha
    split at hr
    · rename_i x os as hx
      obtain ⟨hnd, hr⟩ := cond_some hr
      cases hm : model x with
      | none => rw [hm] at hr; cases hr
      | some yz =>
        obtain ⟨y, z⟩ := yz
        rw [hm] at hr
        simp only [Option.bind_some] at hr
        rw [hn] at hr
        generalize hp : nbs (outs ks) = p
        generalize hq : p + arN (outs ks) + newN rk = q
        let ρ : Nat → Nat := fun j => if j < p then os.getD j 0 else nx + (j - p)
        let γ : Nat → Nat := fun j => if j < p then ((H (os.getD j 0)).map (·.gen)).getD 0 else 0
        have hlen0 : os.length = p := by
          rw [← hp]
          exact (readA_at (ρ := fun j => os.getD j 0) (γ := fun j => ((H (os.getD j 0)).map (·.gen)).getD 0) (q := nbs (outs ks)) hH ks vs x os as dvs 0 hx hvs (by omega) fun k o hk => by
            have e : os.getD (0 + k) 0 = o := by rw [Nat.zero_add, List.getD_eq_getElem?_getD, hk]; rfl
            exact ⟨e, by rw [e]⟩).1
        have key0 : ∀ (k o : Nat), os[k]? = some o → ρ k = o ∧ γ k = ((H o).map (·.gen)).getD 0 := fun k o hk => by
          have hkp : k < p := by rw [← hlen0]; exact (List.getElem?_eq_some_iff.1 hk).1
          simp only [ρ, γ, hkp, if_true, List.getD_eq_getElem?_getD, hk, Option.getD_some, and_self]
        obtain ⟨_, q2, q3, q4, q5⟩ := readA_at (ρ := ρ) (γ := γ) (q := p) hH ks vs x os as dvs 0 hx hvs (by omega) fun k o hk => by rw [Nat.zero_add]; exact key0 k o hk
        simp only [Nat.zero_add] at q3 q4 q5
        have h0 := h x y z hm
        rw [hp, hq] at h0
        have osat : ∀ j, j < p → os[j]? = some (os.getD j 0) := fun j hj => by
          have : j < os.length := by rw [hlen0]; exact hj
          simp [List.getD_eq_getElem?_getD, List.getElem?_eq_getElem this]
        have ρp : ∀ j, j < p → ρ j = os.getD j 0 := fun j hj => by simp only [ρ, hj, if_true]
        have ρo : ∀ j, j < p → os[j]? = some (ρ j) := fun j hj => by rw [ρp j hj]; exact osat j hj
        have ρn : ∀ j, p ≤ j → ρ j = nx + (j - p) := fun j hj => by simp only [ρ, if_neg (Nat.not_lt.2 hj)]
        have γn : ∀ j, p ≤ j → γ j = 0 := fun j hj => by simp only [γ, if_neg (Nat.not_lt.2 hj)]
        let pre := boxC id g0 (outs ks) (inB' ks x) 0
        let post := postC id g0 (outs ks) z rk y p
        let pre' : Cks := pre.map fun c => (ρ c.1, (H (ρ c.1)).getD ⟨0, 0, []⟩)
        let post' : Cks := postC ρ γ (outs ks) z rk y nx
        have lpre : pre.length = p := by simp only [pre]; rw [boxC_len, hp]
        have lpost : post.length = q := by simp only [post]; rw [postC_len, hp, hq]
        have lepre : LE id g0 p pre pre 0 := boxC_le (outs ks) (inB' ks x) 0 (by omega)
        have lepost0 : LE id g0 q post post 0 := by simp only [post, ← hp]; exact postC_le (outs ks) z rk y _ (by omega) fun k hk => ⟨rfl, rfl⟩
        have lepost : LE ρ γ q post' post 0 := by
          have := postC_le (ρ := ρ) (γ := γ) (q := q) (outs ks) z rk y nx (by omega) fun k hk => by
            rw [hp]; exact ⟨by rw [ρn _ (by omega)]; omega, γn _ (by omega)⟩
          rw [hp] at this; exact this
        have at1 : ∀ j (hj : j < pre.length), ∃ ck : Ck, H (ρ j) = some ck ∧ ρ j < nx ∧ CkM ρ γ p (γ j) ck pre[j].2 ∧ γ j = ck.gen ∧ (deadB (outs ks) 0 j = false → ∃ cs, getH HI (ρ j) = some (.box ck.gen cs)) := fun j hj => by
          obtain ⟨o, ck, a1, a2, a3, a4, a5⟩ := q3 j _ (List.getElem?_eq_getElem hj)
          obtain ⟨k1, k2⟩ := key0 j o a1
          have hγ : γ j = ck.gen := by rw [k2, a2]; rfl
          exact ⟨ck, by rw [k1]; exact a2, by rw [k1]; exact a3, by rw [hγ]; exact a4, hγ, by rw [k1]; exact a5⟩
        have ρlt : ∀ j, j < p → ρ j < nx := fun j hj => by
          obtain ⟨_, _, hlt, _⟩ := at1 j (by rw [lpre]; exact hj); exact hlt
        have hinj : ∀ i j, i < q → j < q → ρ i = ρ j → i = j := fun i j hi hj e => by
          rcases Nat.lt_or_ge i p with h1 | h1 <;> rcases Nat.lt_or_ge j p with h2 | h2
          · exact nodupB_inj' hnd i j _ (ρo i h1) (by rw [ρo j h2, e])
          · have := ρlt i h1; rw [e, ρn j h2] at this; omega
          · have := ρlt j h2; rw [← e, ρn i h1] at this; omega
          · rw [ρn i h1, ρn j h2] at e; omega
        have Kpre : Keyed pre p id (ckAt pre) := lepre.keyed lpre fun _ _ _ _ e => e
        have Kpost : Keyed post q id (ckAt post) := lepost0.keyed lpost fun _ _ _ _ e => e
        have Kpre' : Keyed pre' p ρ (fun k => (H (ρ k)).getD ⟨0, 0, []⟩) := ⟨by simp [pre', lpre], fun k hk => by
          have hk' : k < pre.length := by simpa [pre'] using hk
          have e := (lepre.nth k hk' hk').1
          rw [Nat.zero_add] at e
          simp only [pre', List.getElem_map, e], fun i j hi hj => hinj i j (by omega) (by omega)⟩
        have Kpost' : Keyed post' q ρ (ckAt post') := lepost.keyed lpost hinj
        have ckp : ∀ k (hk : k < post.length) (hk' : k < post'.length), CkE ρ γ q (γ k) (ckAt post' k) (ckAt post k) := fun k hk hk' => by
          have := (lepost.nth k hk hk').2.2
          rw [Nat.zero_add] at this
          simp only [ckAt, List.getD_eq_getElem?_getD, List.getElem?_eq_getElem hk, List.getElem?_eq_getElem hk', Option.getD_some]
          exact this
        have lpost' : post'.length = q := by rw [lepost.len, lpost]
        have ren := CallOK.rename (r := ρ) (γ := γ) (nb := nx) (pre' := pre') (post' := post') (args' := packD pk (argsD ρ γ ks x 0)) (res' := resV (resD g0 rk y (nx + arN (outs ks)))) h0
          hinj ρlt (fun j h1 h2 => by rw [ρn j h1]; exact ⟨by omega, by omega⟩)
          ⟨fun j ck hj => by
            obtain ⟨k, hk, e, rfl⟩ := Kpre.mem hj
            simp only [id] at e; subst e
            have hk' : j < pre.length := by rw [lpre]; exact hk
            obtain ⟨ck', b1, b2, b3, _⟩ := at1 j hk'
            refine ⟨hk, ck', ?_, ?_⟩
            · have := Kpre'.get hk Hp.emp
              rw [b1] at this; exact this
            · have : ckAt pre j = pre[j].2 := by simp only [ckAt, List.getD_eq_getElem?_getD, List.getElem?_eq_getElem hk', Option.getD_some]
              rw [this]; exact b3,
          fun o ck' ho => by
            obtain ⟨k, hk, rfl, rfl⟩ := Kpre'.mem ho
            exact ⟨k, ckAt pre k, hk, rfl, Kpre.get hk Hp.emp⟩⟩
          (fun o ck' ho => by
            obtain ⟨k, hk, rfl, rfl⟩ := Kpost'.mem ho
            exact ⟨k, ckAt post k, hk, rfl, Kpost.get hk Hp.emp, ckp k (by rw [lpost]; exact hk) (by rw [lpost']; exact hk)⟩)
          (fun j ck hj => by
            obtain ⟨k, hk, e, rfl⟩ := Kpost.mem hj
            simp only [id] at e; subst e
            exact ⟨hk, _, Kpost'.get hk Hp.emp⟩)
          (pack_rn pk _ _ (argsD_rn ks x 0 (by omega))) (resV_rn (resD_rn rk y (p + arN (outs ks)) (nx + arN (outs ks)) fun k hk => ⟨by omega, by rw [ρn (p + arN (outs ks) + k) (by omega)]; omega, γn _ (by omega)⟩))
          (fun j hj => ⟨_, Kpost.get hj Hp.emp⟩)
        have hqp : nx + (q - p) = nx + (arN (outs ks) + newN rk) := by omega
        rw [hqp] at ren
        have pA : ∀ (k : Nat) (c : Nat × Ck), (bxC ρ γ (outs ks) z 0 nx)[k]? = some c → post'[k]? = some c := fun k c hk => by
          simp only [post', postC]; rw [List.getElem?_append_left (List.getElem?_eq_some_iff.1 hk).1]; exact hk
        have pB : ∀ (k : Nat) (c : Nat × Ck), (arsC g0 (outs ks) z nx)[k]? = some c → post'[p + k]? = some c := fun k c hk => by
          simp only [post', postC]; rw [List.getElem?_append_right (by rw [bxC_len, hp]; omega), bxC_len, hp, Nat.add_sub_cancel_left, List.getElem?_append_left (List.getElem?_eq_some_iff.1 hk).1]; exact hk
        have pC : ∀ (k : Nat) (c : Nat × Ck), (newC g0 rk y (nx + arN (outs ks)))[k]? = some c → post'[p + arN (outs ks) + k]? = some c := fun k c hk => by
          simp only [post', postC]; rw [List.getElem?_append_right (by rw [bxC_len, hp]; omega), bxC_len, hp, List.getElem?_append_right (by rw [arsC_len]; omega), arsC_len, show p + arN (outs ks) + k - p - arN (outs ks) = k by omega]; exact hk
        have pof : ∀ (k : Nat) (c : Nat × Ck), post'[k]? = some c → puts H post' (ρ k) = some c.2 := fun k c hk => by
          obtain ⟨hk1, hk2⟩ := List.getElem?_eq_some_iff.1 hk
          rw [Kpost'.get (by rw [← lpost']; exact hk1) H]
          simp only [ckAt, List.getD_eq_getElem?_getD, hk, Option.getD_some]
        have hars : ∀ (k : Nat) c, (arsC g0 (outs ks) z nx)[k]? = some c → nx + k < nx + (arN (outs ks) + newN rk) ∧ puts H post' (nx + k) = some c.2 := fun k c hk => by
          have hl := (List.getElem?_eq_some_iff.1 hk).1
          rw [arsC_len] at hl
          have := pof _ _ (pB k c hk)
          rw [ρn _ (by omega), Nat.add_sub_cancel_left] at this
          exact ⟨by omega, this⟩
        have hnew : ∀ (k : Nat) c, (newC g0 rk y (nx + arN (outs ks)))[k]? = some c → nx + arN (outs ks) + k < nx + (arN (outs ks) + newN rk) ∧ puts H post' (nx + arN (outs ks) + k) = some c.2 := fun k c hk => by
          have hl := (List.getElem?_eq_some_iff.1 hk).1
          rw [newC_len] at hl
          have := pof _ _ (pC k c hk)
          rw [ρn _ (by omega), show nx + (p + arN (outs ks) + k - p) = nx + arN (outs ks) + k by omega] at this
          exact ⟨by omega, this⟩
        have hsame : SameK as H nx (puts H post') (nx + (arN (outs ks) + newN rk)) := ⟨by omega, fun o' ck' ho' has hk' => by
          by_cases hex : ∃ k, k < q ∧ o' = ρ k
          · obtain ⟨k, hk, rfl⟩ := hex
            have hkp : k < p := by
              rcases Nat.lt_or_ge k p with h1 | h1
              · exact h1
              · rw [ρn k h1] at ho'; omega
            have hd : deadB (outs ks) 0 k = false := by
              cases hd : deadB (outs ks) 0 k with
              | false => rfl
              | true => exact absurd (q4 k _ (ρo k hkp) hd) has
            obtain ⟨ck0, a1, a2, a3, a4, a5⟩ := at1 k (by rw [lpre]; exact hkp)
            rw [Kpost'.get hk H] at hk'
            injection hk' with hk'; subst hk'
            refine ⟨ck0, a1, ?_⟩
            have hE := ckp k (by rw [lpost]; exact hk) (by rw [lpost']; exact hk)
            obtain ⟨cs, b1⟩ := a5 hd
            obtain ⟨_, ckx, b2, b3, ds, b4, _⟩ := hH _ _ b1
            rw [a1] at b2; injection b2 with b2; subst b2
            have hbox : ∀ (ps : List PT) (z : Els (ptys ps)) (j i k : Nat) (h : k < (bxC id g0 ps z j i).length), deadB ps j (j + k) = false → (bxC id g0 ps z j i)[k].2.gen = 0 ∧ (bxC id g0 ps z j i)[k].2.xs.length = 1 := by
              intro ps
              induction ps with
              | nil => intro z j i k h; simp [bxC] at h
              | cons p' r ih =>
                intro z j i k h hd
                cases k with
                | zero => exact ⟨rfl, rfl⟩
                | succ k =>
                  simp only [deadB, Bool.or_eq_false_iff] at hd
                  simp only [bxC, List.getElem_cons_succ]
                  rw [List.getElem_append]
                  split
                  · rename_i hk
                    rw [deadC_len] at hk
                    exfalso
                    have h6 : Nat.ble (j + 1) (j + (k + 1)) = true := Nat.ble_eq_true_of_le (by omega)
                    have h7 : Nat.ble (j + (k + 1) + 1) (j + (1 + p'.n)) = true := Nat.ble_eq_true_of_le (by omega)
                    rw [h6, h7] at hd; cases hd.1
                  · rename_i hk
                    rw [deadC_len] at hk
                    have := ih (tl p'.ty (ptys r) z) (j + (1 + p'.n)) (i + p'.n) (k - p'.n) (by simp only [bxC, List.length_cons, List.length_append, deadC_len] at h; omega) (by rw [show j + (1 + p'.n) + (k - p'.n) = j + (k + 1) by omega]; exact hd.2)
                    simp only [deadC_len]; exact this
            have hkb : k < (bxC id g0 (outs ks) z 0 p).length := by rw [bxC_len, hp]; exact hkp
            have hb := hbox (outs ks) z 0 p k hkb (by rw [Nat.zero_add]; exact hd)
            have e : ckAt post k = (bxC id g0 (outs ks) z 0 p)[k].2 := by
              have : post[k]? = some (bxC id g0 (outs ks) z 0 p)[k] := by simp only [post, postC]; rw [List.getElem?_append_left hkb, List.getElem?_eq_getElem hkb]
              simp only [ckAt, List.getD_eq_getElem?_getD, this, Option.getD_some]
            refine ⟨?_, ?_⟩
            · rw [hE.g, e, hb.1, a4]; omega
            · rw [← hE.l, e, hb.2, b4]; rfl
          · rw [Kpost'.out (fun k hk e => hex ⟨k, hk, e⟩) H] at hk'
            exact ⟨ck', hk', rfl, rfl⟩⟩
        have hplen : (putBs (outs ks) z os (delHs as (killHs as HI)) nx).length = nx := by rw [putBs_len, delHs_len, killHs_len]; exact hn
        have hlast : ∀ o c, getH (putBs (outs ks) z os (delHs as (killHs as HI)) nx ++ (newArr (outs ks) z ++ newI rk y)) o = some c → o < nx + (arN (outs ks) + newN rk) ∧ ∃ ck, puts H post' o = some ck ∧ CkR (puts H post') (nx + (arN (outs ks) + newN rk)) c ck := by
          intro o c ho
          rw [getH_append, hplen] at ho
          by_cases hlt : o < nx
          · rw [if_pos hlt] at ho
            have := putBs_at (H := puts H post') (nx := nx + (arN (outs ks) + newN rk)) ρ γ (outs ks) z os 0 nx (delHs as (killHs as HI)) (by rw [hlen0, hp]) (fun i k o h1 h2 => nodupB_inj' hnd i k o h1 h2) (fun k o' hk hd => by
              rw [Nat.zero_add] at hd ⊢
              have hkp : k < p := by rw [← hlen0]; exact (List.getElem?_eq_some_iff.1 hk).1
              have e := (key0 k o' hk).1
              obtain ⟨ck0, a1, a2, a3, a4, a5⟩ := at1 k (by rw [lpre]; exact hkp)
              obtain ⟨cs, b1⟩ := a5 hd
              refine ⟨e, ?_⟩
              have hna : o' ∉ as := fun hm => by
                obtain ⟨k2, c1, c2⟩ := q5 o' hm
                have := nodupB_inj' hnd k k2 o' hk c1
                subst this
                rw [hd] at c2; cases c2
              rw [(delHs_get as _ o').2 hna, a4]
              rw [e] at b1
              exact killHs_box as HI o' _ cs b1) hars o c ho
            rcases this with ⟨k, cp, b1, b2, b3⟩ | ⟨b1, b2⟩
            · refine ⟨by omega, cp, ?_, b3⟩
              have := pof k _ (pA k _ b2)
              rw [(key0 k o b1).1] at this; exact this
            · have hna : o ∉ as := fun hm => by rw [(delHs_get as _ o).1 hm] at b2; cases b2
              rw [(delHs_get as _ o).2 hna] at b2
              obtain ⟨c0, c1, c2⟩ := killHs_at hsame b2
              obtain ⟨d1, ck, d2, d3⟩ := hH o c0 c1
              have hout : puts H post' o = H o := Kpost'.out (fun k hk e => by
                rcases Nat.lt_or_ge k p with h1 | h1
                · have := b1 k (by rw [e]; exact ρo k h1)
                  rw [Nat.zero_add] at this
                  exact hna (by rw [e]; exact q4 k _ (ρo k h1) this)
                · rw [ρn k h1] at e; omega) H
              exact ⟨by omega, ck, by rw [hout]; exact d2, c2 ck d3⟩
          · rw [if_neg hlt, getH_append, newArr_len] at ho
            split at ho
            · rename_i ha2
              obtain ⟨cp, b1, b2⟩ := newArr_at (H := puts H post') (nx := nx + (arN (outs ks) + newN rk)) (outs ks) z nx (o - nx) c ho
              have := hars _ _ b1
              rw [show nx + (o - nx) = o by omega] at this
              exact ⟨this.1, cp, this.2, b2⟩
            · rename_i ha2
              obtain ⟨cp, b1, b2⟩ := newI_at (H := puts H post') (nx := nx + (arN (outs ks) + newN rk)) rk y (nx + arN (outs ks)) (o - nx - arN (outs ks)) c ho
              have := hnew _ _ b1
              rw [show nx + arN (outs ks) + (o - nx - arN (outs ks)) = o by omega] at this
              exact ⟨this.1, cp, this.2, b2⟩
        refine ⟨_, _, _, _, _, hr, pre', resV (resD g0 rk y (nx + arN (outs ks))), post', nx + (arN (outs ks) + newN rk), ren.weak (pack_wk pk _ _ q2), fun o ck ho => ?_, ?_, ?_, ?_, fun o c ho => hlast o c ho, ?_, hsame⟩
        · obtain ⟨k, hk, rfl, rfl⟩ := Kpre'.mem ho
          obtain ⟨ck, b3, _⟩ := at1 k (by rw [lpre]; exact hk)
          rw [b3]; rfl
        · refine List.ext_getElem (by simp [pre', lpre, hlen0]) fun k h1 h2 => ?_
          have hk : k < pre.length := by simpa [pre'] using h1
          have e := (lepre.nth k hk hk).1
          rw [Nat.zero_add] at e
          simp only [pre', List.map_map, List.getElem_map, Function.comp_apply, e]
          exact (key0 k _ (List.getElem?_eq_getElem h2)).1
        · have e1 : (bxC ρ γ (outs ks) z 0 nx).map (·.1) = os := by
            refine List.ext_getElem (by rw [List.length_map, bxC_len, hp, hlen0]) fun k h1 h2 => ?_
            have hk : k < (bxC ρ γ (outs ks) z 0 nx).length := by simpa using h1
            have hk2 : k < post'.length := by rw [lpost']; rw [bxC_len, hp] at hk; omega
            have e := (lepost.nth k (by rw [lpost, ← lpost']; exact hk2) hk2).2.1
            rw [Nat.zero_add] at e
            have e2 : post'[k] = (bxC ρ γ (outs ks) z 0 nx)[k] := by simp only [post', postC]; rw [List.getElem_append_left hk]
            rw [List.getElem_map, ← e2, e]
            exact (key0 k _ (List.getElem?_eq_getElem h2)).1
          simp only [post', postC, List.map_append, e1, arsC_keys, numsFrom_eq, numsFrom_add]
        · rw [List.length_append, hplen, List.length_append, newArr_len, newI_len]
        · exact resI_rel (resIV_rel rk y (nx + arN (outs ks)) fun k c hk => by
            have := hnew k c hk
            exact this)
    · cases hr
  · cases hr
section strip
variable {H H' : Hp} {nx nx' : Nat}
structure Agr (S : Nat → Prop) (H : Hp) (ps : Ps) (nx : Nat) (H' : Hp) (ps' : Ps) (nx' : Nat) : Prop where
  lt : ∀ o, S o → o < nx → o < nx'
  h : ∀ o, S o → ∀ c', H' o = some c' → ∃ c, H o = some c ∧ c.gen = c'.gen ∧ c.sz = c'.sz ∧ c.xs.length = c'.xs.length ∧ ps' o = ps o
end strip
section lendArgs
variable {H : Hp} {nx : Nat} {HI : IH}
end lendArgs
end Go.Pv
