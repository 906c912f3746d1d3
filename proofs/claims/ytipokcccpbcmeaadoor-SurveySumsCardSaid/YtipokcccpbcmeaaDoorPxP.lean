/- Values that carry arrays of their own: patterns, their cells and chunks, and their reading. No condition of its own: over any program. -/
import Derived.Test.YtipokcccpbcmeaaDoorPxJ
set_option linter.all false
namespace Go.Pv
open Go.RowKit

/-- A pattern: a plain value, an own array, a pair. -/
inductive PT where
  | v (t : GT)
  | a (t : GT)
  | p (x y : PT)
def PT.ty : PT → GT
  | .v t => t
  | .a t => .list t
  | .p x y => .pair x.ty y.ty
/-- How many arrays. -/
def PT.n : PT → Nat
  | .v _ => 0
  | .a _ => 1
  | .p x y => x.n + y.n
/-- Cells; arrays numbered from i on. -/
def oI : (p : PT) → El p.ty → Nat → List IV
  | .v t, x, _ => encC t x
  | .a _, _, i => [.whole i]
  | .p a b, x, i => oI a x.1 i ++ oI b x.2 (i + a.n)
def oD (gs : Nat → Nat) : (p : PT) → El p.ty → Nat → List DV
  | .v t, x, _ => encD t x
  | .a t, x, i => [.own i (gs i) 0 (List.length (α := El t) x)]
  | .p a b, x, i => oD gs a x.1 i ++ oD gs b x.2 (i + a.n)
def oH : (p : PT) → El p.ty → IH
  | .v _, _ => []
  | .a t, x => [some (.arr t x)]
  | .p a b, x => oH a x.1 ++ oH b x.2
def oC (gs : Nat → Nat) : (p : PT) → El p.ty → Nat → Cks
  | .v _, _, _ => []
  | .a t, x, i => [(i, ⟨gs i, t.sz, List.map (α := El t) (encD t) x⟩)]
  | .p a b, x, i => oC gs a x.1 i ++ oC gs b x.2 (i + a.n)
def decO : (p : PT) → List IV → IH → Nat → Option (El p.ty × List IV)
  | .v t, cs, _, _ => decC t cs
  | .a t, cs, H, i => match cs with
    | .whole o :: r => match Nat.beq o i, getH H o with
      | true, some (.arr t' as) => match castL t' t as with
        | some x => some (x, r)
        | none => none
      | _, _ => none
    | _ => none
  | .p a b, cs, H, i => match decO a cs H i with
    | some (x, r) => match decO b r H (i + a.n) with
      | some (y, r') => some ((x, y), r')
      | none => none
    | none => none

theorem oC_len (gs : Nat → Nat) : ∀ (p : PT) (x : El p.ty) (i : Nat), (oC gs p x i).length = p.n
  | .v _, _, _ => rfl
  | .a _, _, _ => rfl
  | .p a b, x, i => by simp only [oC, List.length_append, oC_len gs a, oC_len gs b, PT.n]
theorem oC_num (gs : Nat → Nat) : ∀ (p : PT) (x : El p.ty) (i k : Nat) (hk : k < (oC gs p x i).length), (oC gs p x i)[k].1 = i + k
  | .v _, _, _, k, hk => by simp [oC] at hk
  | .a _, _, _, 0, hk => rfl
  | .a _, _, _, k + 1, hk => by simp [oC] at hk
  | .p a b, x, i, k, hk => by
    simp only [oC]
    rw [List.getElem_append]
    split
    · exact oC_num gs a x.1 i k _
    · rename_i h
      rw [oC_len] at h
      rw [oC_num gs b x.2 (i + a.n)]
      simp only [oC_len]; omega
theorem oC_fl (gs : Nat → Nat) : ∀ (p : PT) (x : El p.ty) (i : Nat) (c : Nat × Ck), c ∈ oC gs p x i → ∃ (t : GT) (l : List (El t)), c.2 = ⟨gs c.1, t.sz, l.map (encD t)⟩
  | .v _, _, _, c, h => by cases h
  | .a t, x, i, c, h => by
    rw [List.mem_singleton.1 h]; exact ⟨t, x, rfl⟩
  | .p a b, x, i, c, h => by
    rcases List.mem_append.1 h with h | h
    · exact oC_fl gs a _ _ c h
    · exact oC_fl gs b _ _ c h

/-- How often the chunks of a heap have moved. -/
def gsOf (H : Hp) (o : Nat) : Nat := ((H o).map (·.gen)).getD 0

theorem decO_at {s : St} {T : List (Nat × IV)} {HI : IH} (hs : SR ⟨T, HI⟩ s) : ∀ (p : PT) (cs : List IV) (x : El p.ty) (r : List IV) (i : Nat) (ds : List DV), decO p cs HI i = some (x, r) → Rels s.H s.nx cs ds →
    ∃ d1 d2, ds = d1 ++ d2 ∧ Both WkD d1 (oD (gsOf s.H) p x i) ∧ Rels s.H s.nx r d2 ∧ ∀ (k : Nat) c, (oC (gsOf s.H) p x i)[k]? = some c → ∃ ck, s.H (i + k) = some ck ∧ CkW ck c.2
  | .v t, cs, x, r, i, ds, h, hr => by
    obtain ⟨d1, d2, e, h1, h2⟩ := decC_rel t cs x r ds h hr
    exact ⟨d1, d2, e, relT_wk t x d1 h1, h2, fun k c hk => by simp [oC] at hk⟩
  | .a t, cs, x, r, i, ds, h, hr => by
    simp only [decO] at h
    split at h
    · rename_i o r'
      split at h
      · rename_i t' as hb hc
        split at h
        · rename_i y hy
          obtain ⟨rfl, rfl⟩ := castL_some hy
          injection h with h
          injection h with h1 h2
          subst h1; subst h2
          have := Nat.eq_of_beq_eq_true hb
          subst this
          obtain ⟨d, ds, rfl, q1, q2⟩ := hr.cons_l
          obtain ⟨g, n, rfl, ho, hg⟩ := q1.whole_inv
          obtain ⟨_, ck, k1, k2⟩ := hs.h.at hc
          obtain ⟨z1, z2⟩ := k2
          obtain ⟨g1, g2⟩ := hg ck k1
          have eg : gsOf s.H o = ck.gen := by simp only [gsOf, k1, Option.map_some, Option.getD_some]
          refine ⟨[.own o g 0 n], ds, rfl, ?_, q2, fun k c hk => ?_⟩
          · show Both WkD _ [DV.own o (gsOf s.H o) 0 (List.length y)]
            rw [eg, g1, z2.1, g2]; exact .one (.refl _)
          · cases k with
            | zero =>
              simp only [oC, List.getElem?_cons_zero, Option.some.injEq] at hk; subst hk
              refine ⟨ck, k1, ⟨eg, z1.symm, ?_, fun j h1 h2 => ?_⟩⟩
              · show (List.map (encD t') y).length = _
                rw [List.length_map]; exact z2.1
              · have hj : j < y.length := by rw [z2.1]; exact h2
                have hw := relT_wk t' y[j] ck.xs[j] (z2.2 j hj h2)
                have e : (List.map (encD t') y)[j]'(by rw [List.length_map]; exact hj) = encD t' y[j] := List.getElem_map ..
                show ((List.map (encD t') y)[j]'(by rw [List.length_map]; exact hj)).length = _ ∧ _
                refine ⟨by rw [e]; exact hw.1.symm, fun m h3 h4 => ?_⟩
                show WkD _ (((List.map (encD t') y)[j]'(by rw [List.length_map]; exact hj))[m]'h3)
                simp only [e]
                exact hw.2 m h4 _
            | succ k => simp [oC] at hk
        · cases h
      · cases h
    · cases h
  | .p a b, cs, x, r, i, ds, h, hr => by
    simp only [decO] at h
    split at h
    · rename_i x1 r1 h1
      split at h
      · rename_i y1 r2 h2
        injection h with h
        injection h with e1 e2
        subst e1; subst e2
        obtain ⟨d1, d2, rfl, q1, q2, q3⟩ := decO_at hs a cs x1 r1 i ds h1 hr
        obtain ⟨d3, d4, rfl, q4, q5, q6⟩ := decO_at hs b r1 y1 r2 (i + a.n) d2 h2 q2
        refine ⟨d1 ++ d3, d4, by rw [List.append_assoc], q1.append q4, q5, fun k c hk => ?_⟩
        simp only [oC] at hk
        rw [List.getElem?_append] at hk
        split at hk
        · exact q3 k c hk
        · rename_i hge
          rw [oC_len] at hge hk
          obtain ⟨ck, u1, u2⟩ := q6 _ c hk
          exact ⟨ck, by rw [show i + k = i + a.n + (k - a.n) by omega]; exact u1, u2⟩
      · cases h
    · cases h

/-! ### Renaming, and what a caller sees (mvC and getH_append stand in the letter L too, till K and L use this text) -/
theorem bothMap (t : GT) (x : List (El t)) : Both (RelT t) x (x.map (encD t)) := ⟨by rw [List.length_map], fun j h1 h2 => by rw [List.getElem_map]; exact encD_rel t _⟩
theorem oD_ids {S : Nat → Prop} (gs : Nat → Nat) : ∀ (p : PT) (x : El p.ty) (i : Nat), (∀ o, i ≤ o → o < i + p.n → S o) → ∀ d, d ∈ oD gs p x i → Ids S d
  | .v t, x, i, hS, d, h => (RelT.ids t x _ (encD_rel t x) d h).mono' fun _ h => h.elim
  | .a t, x, i, hS, d, h => by
    rw [List.mem_singleton.1 h]
    exact .own _ _ _ _ (hS i (Nat.le_refl _) (by simp [PT.n]))
  | .p a b, x, i, hS, d, h => by
    rcases List.mem_append.1 h with h | h
    · exact oD_ids gs a _ i (fun o h1 h2 => hS o h1 (by simp only [PT.n]; omega)) d h
    · exact oD_ids gs b _ (i + a.n) (fun o h1 h2 => hS o (by omega) (by simp only [PT.n]; omega)) d h
/-- Chunks that are gone have no place. -/
def mask (dead : Nat → Bool) (ps : Ps) : Ps := fun o => match dead o with
  | true => none
  | false => ps o
/-- What a chunk tells in a heap, told in another one. -/
structure CkG (dead : Nat → Bool) (H : Hp) (nx : Nat) (H' : Hp) (nx' : Nat) (c c' : Ck) : Prop where
  s : c'.sz = c.sz
  l : c'.xs.length = c.xs.length
  r : ∀ i (h1 : i < c'.xs.length) (h2 : i < c.xs.length), c'.xs[i].length = c.xs[i].length ∧ ∀ j (h3 : j < c'.xs[i].length) (h4 : j < c.xs[i].length), ∀ (ps : Ps) (M : Nat → Prop) (w : World) (v : Value), VR H ps M nx w c.xs[i][j] v → VR H' (mask dead ps) M nx' w c'.xs[i][j] v
/-- From a walk over a body to a call; the new chunks' numbers of moves begin anew, and some old chunks are gone. -/
theorem CallOK.intro5 {P : Program} {f : FuncId} {fn : Func} {c : Code} {ac : AC} {ow : Nat → Bool} {rs : List RR} {args : List DV} {pre : Cks} {nb : Nat} {res : DV} {post : Cks} {nx' : Nat} (dead : Nat → Bool) (hm : P.follows .mixedOrders = true)
    (hf : P.funcs[f]? = some fn) (hname : (fn.name == "runtime.NumGoroutine") = false) (hb : fn.body = some c) (hc : comp P fn.ntmps ow c = some ac) (hrs : resR P fn.results.toList = some rs) (hlen : args.length ≤ fn.ntmps)
    (keep : ∀ o ck, ofL pre o = some ck → ∃ ck', ofL post o = some ck') (old : ∀ o ck', ofL post o = some ck' → o < nb → ∃ ck, ofL pre o = some ck) (le : nb ≤ nx')
    (ids : Ids (fun o => (∃ ck, ofL post o = some ck) ∨ (nb ≤ o ∧ o < nx')) res) (idp : ∀ o ck, ofL post o = some ck → ∀ x, x ∈ ck.xs → ∀ c, c ∈ x → Ids (fun o => (∃ ck, ofL post o = some ck) ∨ (nb ≤ o ∧ o < nx')) c)
    (plt : ∀ o ck, ofL post o = some ck → o < nx') (hdead : ∀ o ck, ofL post o = some ck → dead o = true → ck.xs = [] ∧ ∀ c0, ofL pre o = some c0 → c0.gen < ck.gen)
    (h : ∀ cx : Cx, cx.nt = fn.ntmps → cx.nb = nb → cx.ro = none → AWP P cx ow ac (fun e s' => (e = .normal ∨ e = .ret) ∧ (∃ ds, rrV s'.T s'.H rs = some ds ∧ ∀ ps M w v, VR s'.H ps M s'.nx w (resV ds) v → VR (ofL post) (mask dead ps) M nx' w res v) ∧ ∀ o ck, ofL post o = some ck → dead o = false → ∃ c0, s'.H o = some c0 ∧ CkG dead s'.H s'.nx (ofL post) nx' c0 ck ∧ (o < nb → ck.gen = c0.gen)) ⟨ofArgs args, ofL pre, nb⟩) :
    CallOK P f args pre nb res post nx' := by
  refine ⟨⟨fn, hf, hname, by rw [hb]; rfl⟩, keep, old, le, ids, idp, fun M ps w cargs hr hsz hva hgl => ?_⟩
  let cx : Cx := ⟨fn.ntmps, M, Live (ofL pre) ps, w, ofL pre, ps, nb, none, fun _ => none, []⟩
  refine calls_of_RS (cx := cx) hf hb rfl ?_
  have R : RS cx ⟨ofArgs args, ofL pre, nb⟩ ps { tmps := cargs ++ Array.replicate (fn.ntmps - cargs.size) undef, defers := [] } w := by
    refine ⟨fun t => ?_, by simp [cx]; omega, hr, Fr.refl _ _, fun o ck p h1 h2 => .inl ⟨o, ck, p, h1, h2, rfl⟩, Marks.nil, Nat.le_refl _, fun o _ ck' hk => ⟨ck', hk, .inr ⟨rfl, rfl, Nat.le_refl _, rfl⟩⟩, fun t v h => by cases h⟩
    by_cases ht : t < args.length
    · have e1 : ofArgs args t = args[t] := by simp [ofArgs, List.getD, ht]
      have e2 : (cargs ++ Array.replicate (fn.ntmps - cargs.size) undef).getD t undef = cargs.getD t undef := by
        have : t < cargs.size := by omega
        simp [Array.getD_eq_getD_getElem?, Array.getElem?_append, this]
      show VR (ofL pre) ps M nb w (ofArgs args t) ((cargs ++ Array.replicate (fn.ntmps - cargs.size) undef).getD t undef)
      rw [e1, e2]; exact hva t ht
    · have e1 : ofArgs args t = .any := by simp [ofArgs, List.getD, List.getElem?_eq_none (Nat.le_of_not_lt ht)]
      show VR (ofL pre) ps M nb w (ofArgs args t) _
      rw [e1]; exact .any _
  refine wpIn_mono (h cx rfl rfl rfl ⟨hm, hgl⟩ c hc ac.nofz_none ps _ w R) ?_
  rintro e a' w1 ⟨s', ps', R1, he, ⟨ds, hds, hres⟩, hpost⟩
  refine ⟨he, s', ps', R1, fun w' R' => ?_⟩
  have hbp : ∃ v, (results fn a'.tmps).run P w' = .ok v w' ∧ VR (ofL post) (mask dead ps') M nx' w' res v := by
    obtain ⟨vs, k1, k2, k3⟩ := rr_sound (P := P) (tmps := a'.tmps) R'.hr R'.t fn.results.toList rs ds hrs hds
    refine ⟨if h : vs.toArray.size = 1 then vs.toArray[0] else .tuple vs.toArray, ?_, ?_⟩
    · have hres : results fn a'.tmps = (do let vs ← fn.results.mapM (resOne a'.tmps); Pure.pure (if h : vs.size = 1 then vs[0] else .tuple vs)) := by
        unfold results
        congr 1
      rw [hres, Array.mapM_eq_mapM_toList]
      simp only [Sem.run_bind, Sem.run_map]
      rw [k1]
      simp
    · refine hres _ _ _ _ ?_
      cases ds with
      | nil =>
        have : vs = [] := by simpa using k2
        subst this
        exact .tup _ _ rfl (fun j hj => by simp at hj)
      | cons d ds =>
        cases ds with
        | nil =>
          obtain ⟨v, rfl⟩ : ∃ v, vs = [v] := by
            cases vs with
            | nil => simp at k2
            | cons v vs => cases vs with
              | nil => exact ⟨v, rfl⟩
              | cons _ _ => simp at k2
          exact k3 0 (by simp) (by simp)
        | cons d2 ds =>
          rw [dif_neg (by simp [k2])]
          refine .tup _ _ (by simp [k2]) fun j hj => ?_
          have hj2 : j < vs.length := by omega
          have := k3 j hj hj2
          simpa [Array.getD, hj2] using this
  have fin : ∀ v, VR (ofL post) (mask dead ps') M nx' w' res v → ∃ v' ps'', Ending.returned v = .returned v' ∧ VR (ofL post) ps'' M nx' w' res v' ∧ HR (ofL post) ps'' M nx' w' ∧ Fr (Live (ofL pre) ps) w w' ∧
      (∀ o ck p, ofL post o = some ck → ps'' o = some p → Live (ofL pre) ps p.b ∨ w.heap.size ≤ p.b) ∧ (∀ o, o < nb → ∀ ck', ofL post o = some ck' → ∃ ck, ofL pre o = some ck ∧ Later ps ps'' o ck ck') := by
    intro v hv
    have mk : ∀ o, dead o = false → mask dead ps' o = ps' o := fun o h => by simp only [mask, h]
    have mk' : ∀ o, dead o = true → mask dead ps' o = none := fun o h => by simp only [mask, h]
    have al : ∀ o p, mask dead ps' o = some p → dead o = false ∧ ps' o = some p := fun o p h => by
      cases hd : dead o with
      | true => rw [mk' o hd] at h; cases h
      | false => rw [mk o hd] at h; exact ⟨rfl, h⟩
    refine ⟨v, mask dead ps', rfl, hv, ⟨plt, fun o ck ho => ?_, fun o o' ck ck' p p' h1 h2 h3 h4 h5 => ?_, R'.hr.ml, fun o ck p h1 h2 => ?_⟩, R'.fr, fun o ck p h1 h2 => ?_, fun o ho ck' hk => ?_⟩
    · cases hd : dead o with
      | true => exact .inl ⟨mk' o hd, (hdead o ck ho hd).1⟩
      | false =>
        obtain ⟨c0, q1, q2, _⟩ := hpost o ck ho hd
        obtain ⟨qs, ql, qr⟩ := q2
        rcases R'.hr.cr o c0 q1 with ⟨g1, g2⟩ | ⟨p, c, E, vs, g1, g2, g3, g4, g5, g6, g7⟩
        · exact .inl ⟨by rw [mk o hd]; exact g1, List.eq_nil_of_length_eq_zero (by rw [ql, g2]; rfl)⟩
        · refine .inr ⟨p, c, E, vs, by rw [mk o hd]; exact g1, g2, g3, fun i hi => ?_, by rw [ql, qs]; exact g5, fun i j hi hj => by rw [qs] at hj ⊢; exact g6 i j (by rw [← ql]; exact hi) hj, fun i j hi hj => ?_⟩
          · rw [(qr i hi (by rw [← ql]; exact hi)).1, qs]; exact g4 i _
          · have q3 := qr i hi (by rw [← ql]; exact hi)
            exact q3.2 j hj (by rw [← q3.1]; exact hj) _ _ _ _ (g7 i j _ _)
    · obtain ⟨d1, e1⟩ := al o p h3
      obtain ⟨d2, e2⟩ := al o' p' h4
      obtain ⟨c0, q1, _⟩ := hpost o ck h1 d1
      obtain ⟨c1, r1, _⟩ := hpost o' ck' h2 d2
      exact R'.hr.inj o o' c0 c1 p p' q1 r1 e1 e2 h5
    · obtain ⟨d1, e1⟩ := al o p h2
      obtain ⟨c0, q1, _⟩ := hpost o ck h1 d1
      exact R'.hr.dj o c0 p q1 e1
    · obtain ⟨d1, e1⟩ := al o p h2
      obtain ⟨c0, q1, _⟩ := hpost o ck h1 d1
      exact R'.lb o c0 p q1 e1
    · cases hd : dead o with
      | true =>
        obtain ⟨c0, hc0⟩ := old o ck' hk ho
        exact ⟨c0, hc0, .inl ((hdead o ck' hk hd).2 c0 hc0)⟩
      | false =>
        obtain ⟨c0, q1, q2, q4⟩ := hpost o ck' hk hd
        obtain ⟨qs, ql, qr⟩ := q2
        have qg := q4 ho
        obtain ⟨c1, r1, r2⟩ := R'.gm o ho c0 q1
        refine ⟨c1, r1, ?_⟩
        rcases r2 with r2 | ⟨r2, r3, r4, r5⟩
        · exact .inl (by rw [qg]; exact r2)
        · exact .inr ⟨by rw [qg]; exact r2, by rw [qs]; exact r3, by rw [ql]; exact r4, by rw [mk o hd]; exact r5⟩
  obtain ⟨v, hrun, hv⟩ := hbp
  exact ⟨v, hrun, fin v hv⟩

/-- The same value where chunks begin anew. -/
inductive Rg (dead : Nat → Bool) (H H' : Hp) (nx' : Nat) : DV → DV → Prop
  | flat (d : DV) (h : Ids (fun _ => False) d) : Rg dead H H' nx' d d
  | ptr (o g i f : Nat) (ho : o < nx') (hd : dead o = false) (h : ∀ ck', H' o = some ck' → ∃ ck, H o = some ck ∧ ck.gen = g ∧ ck.xs.length = ck'.xs.length ∧ ck.sz = ck'.sz) : Rg dead H H' nx' (.ptr o g i f) (.ptr o 0 i f)
  | own (o g lo n : Nat) (ho : o < nx') (hd : dead o = false) (h : ∀ ck', H' o = some ck' → ∃ ck, H o = some ck ∧ ck.gen = g ∧ ck.xs.length = ck'.xs.length ∧ ck.sz = ck'.sz) : Rg dead H H' nx' (.own o g lo n) (.own o 0 lo n)
  | agg (cs ds : List DV) (hl : cs.length = ds.length) (h : ∀ j (h1 : j < cs.length) (h2 : j < ds.length), Rg dead H H' nx' cs[j] ds[j]) : Rg dead H H' nx' (.agg cs) (.agg ds)
  | tup (cs ds : List DV) (hl : cs.length = ds.length) (h : ∀ j (h1 : j < cs.length) (h2 : j < ds.length), Rg dead H H' nx' cs[j] ds[j]) : Rg dead H H' nx' (.tup cs) (.tup ds)

theorem Rg.vr {dead : Nat → Bool} {H H' : Hp} {nx nx' : Nat} (hsub : ∀ o ck', H' o = some ck' → dead o = false → ∃ ck, H o = some ck) {d d' : DV} (h : Rg dead H H' nx' d d') : ∀ (ps : Ps) (M : Nat → Prop) (w : World) (x : Value), VR H ps M nx w d x → VR H' (mask dead ps) M nx' w d' x := by
  induction h with
  | flat d hd =>
    intro ps M w x hv
    refine hv.monoS hd ⟨fun o h => h.elim, fun o h => h.elim, fun b hb => ?_, fun _ _ _ => rfl⟩
    rcases hb with hb | ⟨o, ck, p, h1, h2, h3⟩
    · exact .inl (.inl hb)
    · have hdd : dead o = false := by
        cases hd : dead o with
        | false => rfl
        | true => simp [mask, hd] at h2
      obtain ⟨c0, q1⟩ := hsub o ck h1 hdd
      exact .inl (.inr ⟨o, c0, p, q1, by simpa [mask, hdd] using h2, h3⟩)
  | ptr o g i f ho hdd hh =>
    intro ps M w x hv
    cases hv with
    | ptr _ _ _ _ _ h0 h1 h2 =>
      refine .ptr _ _ _ _ _ ho h1 fun ck' hk => ?_
      obtain ⟨ck, q1, q2, q3, q4⟩ := hh ck' hk
      obtain ⟨_, z⟩ := h2 ck q1
      refine ⟨Nat.zero_le _, fun _ => ?_⟩
      have := z q2
      unfold PtrS at this ⊢
      rw [← q3, ← q4, show mask dead ps o = ps o by simp only [mask, hdd]]; exact this
  | own o g lo n ho hdd hh =>
    intro ps M w x hv
    cases hv with
    | own _ _ _ _ _ h0 h1 h2 =>
      refine .own _ _ _ _ _ ho h1 fun ck' hk => ?_
      obtain ⟨ck, q1, q2, q3, q4⟩ := hh ck' hk
      obtain ⟨_, z⟩ := h2 ck q1
      refine ⟨Nat.zero_le _, fun _ => ?_⟩
      have := z q2
      unfold OwnS at this ⊢
      rw [← q3, ← q4, show mask dead ps o = ps o by simp only [mask, hdd]]; exact this
  | agg cs ds hl hh ih =>
    intro ps M w x hv
    obtain ⟨vs, rfl, h1, h2, h3⟩ := hv.agg_inv
    exact .agg _ vs (by omega) (fun j hj => h2 j (by omega)) fun j hj => ih j (by omega) hj _ _ _ _ (h3 j (by omega))
  | tup cs ds hl hh ih =>
    intro ps M w x hv
    obtain ⟨vs, rfl, h1, h2⟩ := hv.tup_inv
    exact .tup _ vs (by omega) fun j hj => ih j (by omega) hj _ _ _ _ (h2 j (by omega))
/-! ### Patterns at any numbers -/
end Go.Pv
