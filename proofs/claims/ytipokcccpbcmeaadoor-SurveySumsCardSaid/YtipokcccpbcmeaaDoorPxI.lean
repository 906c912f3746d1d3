/- From a walk by computation to a call: typed arguments and results, contracts of functions on plain values. No condition of its own: over any program. -/
import Derived.Test.YtipokcccpbcmeaaDoorPxH
set_option linter.all false
namespace Go.Pv
open Go.RowKit

/-- A datum tells at least as much as another one. -/
def WkD (d d' : DV) : Prop := ∀ (H : Hp) (ps : Ps) (M : Nat → Prop) (nx : Nat) (w : World) (x : Value), VR H ps M nx w d x → VR H ps M nx w d' x
theorem WkD.refl (d : DV) : WkD d d := fun _ _ _ _ _ _ h => h
structure CkW (c c' : Ck) : Prop where
  g : c'.gen = c.gen
  s : c'.sz = c.sz
  l : c'.xs.length = c.xs.length
  r : ∀ i (h1 : i < c'.xs.length) (h2 : i < c.xs.length), c'.xs[i].length = c.xs[i].length ∧ ∀ j (h3 : j < c'.xs[i].length) (h4 : j < c.xs[i].length), WkD c.xs[i][j] c'.xs[i][j]

/-- From a walk over a body to a call. -/
theorem CallOK.intro2 {P : Program} {f : FuncId} {fn : Func} {c : Code} {ac : AC} {ow : Nat → Bool} {rs : List RR} {args : List DV} {pre : Cks} {nb : Nat} {res : DV} {post : Cks} {nx' : Nat} (hm : P.follows .mixedOrders = true)
    (hf : P.funcs[f]? = some fn) (hname : (fn.name == "runtime.NumGoroutine") = false) (hb : fn.body = some c) (hc : comp P fn.ntmps ow c = some ac) (hrs : resR P fn.results.toList = some rs) (hlen : args.length ≤ fn.ntmps)
    (keep : ∀ o ck, ofL pre o = some ck → ∃ ck', ofL post o = some ck') (old : ∀ o ck', ofL post o = some ck' → o < nb → ∃ ck, ofL pre o = some ck) (le : nb ≤ nx')
    (ids : Ids (fun o => (∃ ck, ofL post o = some ck) ∨ (nb ≤ o ∧ o < nx')) res) (idp : ∀ o ck, ofL post o = some ck → ∀ x, x ∈ ck.xs → ∀ c, c ∈ x → Ids (fun o => (∃ ck, ofL post o = some ck) ∨ (nb ≤ o ∧ o < nx')) c)
    (plt : ∀ o ck, ofL post o = some ck → o < nx')
    (h : ∀ cx : Cx, cx.nt = fn.ntmps → cx.nb = nb → cx.ro = none → cx.fz = (fun _ => none) → Hm P cx → ∀ ps a w, RS cx ⟨ofArgs args, ofL pre, nb⟩ ps a w → c.wpIn (FR none) 0 P (fun e a' w' => ∃ s' ps', RS cx s' ps' a' w' ∧ (e = .normal ∨ e = .ret) ∧ (∃ ds, rrV s'.T s'.H rs = some ds ∧ WkD (resV ds) res) ∧ ∀ o ck, ofL post o = some ck → ∃ c0, s'.H o = some c0 ∧ CkW c0 ck) a w) :
    CallOK P f args pre nb res post nx' := by
  refine ⟨⟨fn, hf, hname, by rw [hb]; rfl⟩, keep, old, le, ids, idp, fun M ps w cargs hr hsz hva hgl => ?_⟩
  let cx : Cx := ⟨fn.ntmps, M, Live (ofL pre) ps, w, ofL pre, ps, nb, none, fun _ => none, []⟩
  refine calls_of_RS (cx := cx) hf hb rfl ?_
  have R : RS cx ⟨ofArgs args, ofL pre, nb⟩ ps { tmps := cargs ++ Array.replicate (fn.ntmps - cargs.size) undef, defers := [] } w := by
    refine ⟨fun t => ?_, by simp [cx]; omega, hr, Fr.refl _ _, fun o ck p h1 h2 => .inl ⟨o, ck, p, h1, h2, rfl⟩, Marks.nil, Nat.le_refl _, fun o _ ck' hk => ⟨ck', hk, .inr ⟨rfl, rfl, Nat.le_refl _, rfl⟩⟩, fun t v h => by cases h⟩
    by_cases ht : t < args.length
    · have e1 : ofArgs args t = args[t] := by simp [ofArgs, List.getD, ht]
      have e2 : (cargs ++ Array.replicate (fn.ntmps - cargs.size) undef).getD t undef = cargs.getD t undef := by
        have : t < cargs.size := by omega
        simp [Array.getD_eq_getD_getElem?, Array.getElem?_append, this]
      show VR (ofL pre) ps M nb w (ofArgs args t) ((cargs ++ Array.replicate (fn.ntmps - cargs.size) undef).getD t undef)
      rw [e1, e2]; exact hva t ht
    · have e1 : ofArgs args t = .any := by simp [ofArgs, List.getD, List.getElem?_eq_none (Nat.le_of_not_lt ht)]
      show VR (ofL pre) ps M nb w (ofArgs args t) _
      rw [e1]; exact .any _
  refine wpIn_mono (h cx rfl rfl rfl rfl ⟨hm, hgl⟩ ps _ w R) ?_
  rintro e a' w1 ⟨s', ps', R1, he, ⟨ds, hds, hres⟩, hpost⟩
  refine ⟨he, s', ps', R1, fun w' R' => ?_⟩
  have hbp : ∃ v, (results fn a'.tmps).run P w' = .ok v w' ∧ VR s'.H ps' M s'.nx w' res v := by
    obtain ⟨vs, k1, k2, k3⟩ := rr_sound (P := P) (tmps := a'.tmps) R'.hr R'.t fn.results.toList rs ds hrs hds
    refine ⟨if h : vs.toArray.size = 1 then vs.toArray[0] else .tuple vs.toArray, ?_, ?_⟩
    · have hres : results fn a'.tmps = (do let vs ← fn.results.mapM (resOne a'.tmps); Pure.pure (if h : vs.size = 1 then vs[0] else .tuple vs)) := by
        unfold results
        congr 1
      rw [hres, Array.mapM_eq_mapM_toList]
      simp only [Sem.run_bind, Sem.run_map]
      rw [k1]
      simp
    · refine hres _ _ _ _ _ _ ?_
      cases ds with
      | nil =>
        have : vs = [] := by simpa using k2
        subst this
        exact .tup _ _ rfl (fun j hj => by simp at hj)
      | cons d ds =>
        cases ds with
        | nil =>
          obtain ⟨v, rfl⟩ : ∃ v, vs = [v] := by
            cases vs with
            | nil => simp at k2
            | cons v vs => cases vs with
              | nil => exact ⟨v, rfl⟩
              | cons _ _ => simp at k2
          exact k3 0 (by simp) (by simp)
        | cons d2 ds =>
          rw [dif_neg (by simp [k2])]
          refine .tup _ _ (by simp [k2]) fun j hj => ?_
          have hj2 : j < vs.length := by omega
          have := k3 j hj hj2
          simpa [Array.getD, hj2] using this
  have kpS : KpS (fun o => (∃ ck, ofL post o = some ck) ∨ (nb ≤ o ∧ o < nx')) s'.H ps' M s'.nx w' (ofL post) ps' M nx' w' := by
    refine ⟨fun o hs _ => ?_, fun o _ _ ck' hk => ?_, fun b hb => ?_, fun _ _ _ => rfl⟩
    · rcases hs with ⟨ck, hs⟩ | hs
      · exact plt o ck hs
      · exact hs.2
    · obtain ⟨c0, q1, q2⟩ := hpost o ck' hk
      exact ⟨c0, q1, .inr ⟨q2.g.symm, q2.s.symm, by rw [q2.l]; exact Nat.le_refl _, rfl⟩⟩
    · rcases hb with hb | ⟨o, ck, p, h1, h2, h3⟩
      · exact .inl (.inl hb)
      · obtain ⟨c0, q1, _⟩ := hpost o ck h1
        exact .inl (.inr ⟨o, c0, p, q1, h2, h3⟩)
  have fin : ∀ v, VR s'.H ps' M s'.nx w' res v → ∃ v' ps'', Ending.returned v = .returned v' ∧ VR (ofL post) ps'' M nx' w' res v' ∧ HR (ofL post) ps'' M nx' w' ∧ Fr (Live (ofL pre) ps) w w' ∧
      (∀ o ck p, ofL post o = some ck → ps'' o = some p → Live (ofL pre) ps p.b ∨ w.heap.size ≤ p.b) ∧ (∀ o, o < nb → ∀ ck', ofL post o = some ck' → ∃ ck, ofL pre o = some ck ∧ Later ps ps'' o ck ck') := by
    intro v hv
    refine ⟨v, ps', rfl, hv.monoS ids kpS, ⟨plt, fun o ck ho => ?_, fun o o' ck ck' p p' h1 h2 => ?_, R'.hr.ml, fun o ck p h1 => ?_⟩, R'.fr, fun o ck p h1 h2 => ?_, fun o ho ck' hk => ?_⟩
    · obtain ⟨c0, q1, q2⟩ := hpost o ck ho
      rcases R'.hr.cr o c0 q1 with ⟨g1, g2⟩ | ⟨p, c, E, vs, g1, g2, g3, g4, g5, g6, g7⟩
      · exact .inl ⟨g1, List.eq_nil_of_length_eq_zero (by rw [q2.l, g2]; rfl)⟩
      · refine .inr ⟨p, c, E, vs, g1, g2, g3, fun i hi => ?_, by rw [q2.l, q2.s]; exact g5, fun i j hi hj => by rw [q2.s] at hj ⊢; exact g6 i j (by rw [← q2.l]; exact hi) hj, fun i j hi hj => ?_⟩
        · rw [(q2.r i hi (by rw [← q2.l]; exact hi)).1, q2.s]; exact g4 i _
        · have q3 := q2.r i hi (by rw [← q2.l]; exact hi)
          exact (q3.2 j hj (by rw [← q3.1]; exact hj) _ _ _ _ _ _ (g7 i j _ _)).monoS (idp o ck ho _ (List.getElem_mem hi) _ (List.getElem_mem hj)) kpS
    · obtain ⟨c0, q1, _⟩ := hpost o ck h1
      obtain ⟨c1, r1, _⟩ := hpost o' ck' h2
      exact R'.hr.inj o o' c0 c1 p p' q1 r1
    · obtain ⟨c0, q1, _⟩ := hpost o ck h1
      exact R'.hr.dj o c0 p q1
    · obtain ⟨c0, q1, _⟩ := hpost o ck h1
      exact R'.lb o c0 p q1 h2
    · obtain ⟨c0, q1, q2⟩ := hpost o ck' hk
      obtain ⟨c1, r1, r2⟩ := R'.gm o ho c0 q1
      refine ⟨c1, r1, ?_⟩
      rcases r2 with r2 | ⟨r2, r3, r4, r5⟩
      · exact .inl (by rw [q2.g]; exact r2)
      · exact .inr ⟨by rw [q2.g]; exact r2, by rw [q2.s]; exact r3, by rw [q2.l]; exact r4, r5⟩
  obtain ⟨v, hrun, hv⟩ := hbp
  exact ⟨v, hrun, fin v hv⟩


theorem CallOK.weak {P : Program} {f : FuncId} {args args' : List DV} {pre : Cks} {nb : Nat} {res : DV} {post : Cks} {nx' : Nat} (h : CallOK P f args pre nb res post nx') (hw : Both WkD args' args) : CallOK P f args' pre nb res post nx' :=
  ⟨h.fn, h.keep, h.old, h.le, h.ids, h.idp, fun M ps w cargs hr hsz hva hgl => h.run M ps w cargs hr (by rw [hsz, hw.1]) (fun j hj => hw.2 j (by rw [hw.1]; exact hj) hj _ _ _ _ _ _ (hva j (by rw [hw.1]; exact hj))) hgl⟩

/-! ### Typed values on the layer's side -/
def encD : (t : GT) → El t → List DV
  | .int k, n => [.v (.int k n)]
  | .bool, b => [.v (.bool b)]
  | .str, s => [.v (.string (mkS s))]
  | .list t, as => [.lst false (as.map (encD t))]
  | .unit, _ => []
  | .pair a b, x => encD a x.1 ++ encD b x.2

theorem encD_rel : ∀ (t : GT) (x : El t), RelT t x (encD t x)
  | .int k, n => rfl
  | .bool, b => rfl
  | .str, s => rfl
  | .list t, as => ⟨false, _, rfl, by simp, fun j h1 h2 => by simpa using encD_rel t _⟩
  | .unit, _ => rfl
  | .pair a b, x => ⟨_, _, rfl, encD_rel a _, encD_rel b _⟩

theorem relT_wk : ∀ (t : GT) (x : El t) (ds : List DV), RelT t x ds → Both WkD ds (encD t x)
  | .int k, n, ds, h => by rw [show ds = _ from h]; exact .one (.refl _)
  | .bool, b, ds, h => by rw [show ds = _ from h]; exact .one (.refl _)
  | .str, s, ds, h => by rw [show ds = _ from h]; exact .one (.refl _)
  | .list t, as, ds, h => by
    obtain ⟨f, xs, rfl, h⟩ := h
    refine .one fun H ps M nx w x hv => ?_
    have key : ∀ i (h1 : i < xs.length) (h2 : i < (as.map (encD t)).length), Both WkD xs[i] (as.map (encD t))[i] := by
      intro i h1 h2
      simp only [List.getElem_map]
      exact relT_wk t _ _ (h.2 i (by rw [h.1]; exact h1) h1)
    have el : (as.map (encD t)).length = xs.length := by simp [h.1]
    cases hv with
    | lnil _ a cap hf =>
      have : as = [] := List.eq_nil_of_length_eq_zero (by rw [h.1]; rfl)
      subst this
      exact .lnil false a cap (fun e => by cases e)
    | lst _ _ b off cap sz vs hne hs hcap hf hM hz h1 hc hv =>
      have hne' : as.map (encD t) ≠ [] := fun e => hne (List.eq_nil_of_length_eq_zero (by rw [← el, e]; rfl))
      have := VR.lst (H := H) (ps := ps) (M := M) (nx := nx) (w := w) false (as.map (encD t)) b off cap sz vs hne' hs (by rw [el]; exact hcap) (fun e => by cases e) hM
        (fun i hi => by rw [← (key i (by rw [← el]; exact hi) hi).1]; exact hz i _) (fun i j hi hj => h1 i j (by rw [← el]; exact hi) hj) (fun i j hi hj => hc i j (by rw [← el]; exact hi) hj)
        (fun i j hi hj => by
          have q := key i (by rw [← el]; exact hi) hi
          exact q.2 j (by rw [q.1]; exact hj) hj _ _ _ _ _ _ (hv i j (by rw [← el]; exact hi) (by rw [q.1]; exact hj)))
      rw [el] at this; exact this
  | .unit, _, ds, h => by rw [show ds = _ from h]; exact .nil
  | .pair a b, x, ds, h => by
    obtain ⟨d1, d2, rfl, h1, h2⟩ := h
    exact (relT_wk a _ _ h1).append (relT_wk b _ _ h2)

def isAg : GT → Bool
  | .unit | .pair _ _ => true
  | _ => false
def valI (t : GT) (x : El t) : IV := match isAg t, encC t x with
  | true, cs => .agg cs
  | false, [c] => c
  | _, _ => .any
def valD (t : GT) (x : El t) : DV := match isAg t, encD t x with
  | true, cs => .agg cs
  | false, [c] => c
  | _, _ => .any
theorem one_of {t : GT} (h : isAg t = false) (x : El t) : (∃ c, encC t x = [c]) ∧ (∃ d, encD t x = [d]) := by
  cases t <;> first | (simp [isAg] at h; done) | exact ⟨⟨_, rfl⟩, ⟨_, rfl⟩⟩
theorem valI_rel {H : Hp} {nx : Nat} (t : GT) (x : El t) : Rel H nx (valI t x) (valD t x) := by
  unfold valI valD
  have h := encC_rel (H := H) (nx := nx) t x _ (encD_rel t x)
  cases ha : isAg t with
  | true => exact Rel.aggB h
  | false =>
    obtain ⟨⟨c, hc⟩, ⟨d, hd⟩⟩ := one_of ha x
    rw [hc, hd] at h ⊢
    obtain ⟨_, e, h⟩ := h.one_l
    injection e with e; subst e
    exact h

def decV (t : GT) (v : IV) : Option (El t) := match isAg t, v with
  | true, .agg cs => dec t cs
  | true, _ => none
  | false, .agg _ => none
  | false, v => dec t [v]
theorem VR.agg_wk {ds es : List DV} (h : Both WkD ds es) : WkD (.agg ds) (.agg es) := fun H ps M nx w x hv => by
  obtain ⟨vs, rfl, h1, h2, h3⟩ := hv.agg_inv
  have e := h.1
  exact .agg _ vs (by omega) (fun j hj => h2 j (by omega)) fun j hj => h.2 j (by omega) hj _ _ _ _ _ _ (h3 j (by omega))
theorem VR.tup_wk {ds es : List DV} (h : Both WkD ds es) : WkD (.tup ds) (.tup es) := fun H ps M nx w x hv => by
  obtain ⟨vs, rfl, h1, h2⟩ := hv.tup_inv
  have e := h.1
  exact .tup _ vs (by omega) fun j hj => h.2 j (by omega) hj _ _ _ _ _ _ (h2 j (by omega))
theorem decV_wk {H : Hp} {nx : Nat} {t : GT} {v : IV} {x : El t} {d : DV} (h : decV t v = some x) (hr : Rel H nx v d) : WkD d (valD t x) := by
  unfold decV at h
  unfold valD
  split at h
  · rename_i cs ha
    obtain ⟨ds, rfl, k⟩ := hr.agg_inv
    rw [ha]
    exact VR.agg_wk (relT_wk t x ds (dec_rel h k))
  · cases h
  · cases h
  · rename_i ha _
    have k := relT_wk t x [d] (dec_rel h (.one hr))
    obtain ⟨_, ⟨e, he⟩⟩ := one_of ha x
    rw [ha]
    rw [he] at k ⊢
    obtain ⟨_, e1, k⟩ := k.one_l
    injection e1 with e1; subst e1
    exact k

@[reducible] def Els : List GT → Type
  | [] => Unit
  | [t] => El t
  | t :: u :: r => El t × Els (u :: r)
def valsI : (ts : List GT) → Els ts → List IV
  | [], _ => []
  | [t], x => [valI t x]
  | t :: u :: r, x => valI t x.1 :: valsI (u :: r) x.2
def valsD : (ts : List GT) → Els ts → List DV
  | [], _ => []
  | [t], x => [valD t x]
  | t :: u :: r, x => valD t x.1 :: valsD (u :: r) x.2
def decVs : (ts : List GT) → List IV → Option (Els ts)
  | [], [] => some ()
  | [], _ :: _ => none
  | [t], [v] => decV t v
  | [_], _ => none
  | t :: u :: r, v :: l => match decV t v with
    | some x => match decVs (u :: r) l with
      | some y => some (x, y)
      | none => none
    | none => none
  | _ :: _ :: _, [] => none
theorem valsI_rel {H : Hp} {nx : Nat} : ∀ (ts : List GT) (x : Els ts), Rels H nx (valsI ts x) (valsD ts x)
  | [], _ => .nil
  | [t], x => .one (valI_rel t x)
  | t :: u :: r, x => (valsI_rel (u :: r) x.2).cons (valI_rel t x.1)
theorem decVs_wk {H : Hp} {nx : Nat} : ∀ (ts : List GT) (vs : List IV) (x : Els ts) (ds : List DV), decVs ts vs = some x → Rels H nx vs ds → Both WkD ds (valsD ts x)
  | [], vs, x, ds, h, hr => by
    cases vs with
    | nil => rw [hr.nil_l]; exact .nil
    | cons => simp [decVs] at h
  | [t], vs, x, ds, h, hr => by
    cases vs with
    | nil => simp [decVs] at h
    | cons v l =>
      cases l with
      | nil =>
        obtain ⟨d, rfl, h1⟩ := hr.one_l
        simp only [decVs] at h
        exact .one (decV_wk h h1)
      | cons => simp [decVs] at h
  | t :: u :: r, vs, x, ds, h, hr => by
    cases vs with
    | nil => simp [decVs] at h
    | cons v l =>
      obtain ⟨d, ds, rfl, h1, h2⟩ := hr.cons_l
      simp only [decVs] at h
      split at h
      · rename_i a ha
        split at h
        · rename_i b hb
          injection h with h; subst h
          exact (decVs_wk (u :: r) l b ds hb h2).cons (decV_wk ha h1)
        · cases h
      · cases h

theorem valD_ids (t : GT) (x : El t) : Ids (fun _ => False) (valD t x) := by
  unfold valD
  have h := RelT.ids t x _ (encD_rel t x)
  cases ha : isAg t with
  | true => exact .agg _ h
  | false =>
    obtain ⟨_, ⟨d, hd⟩⟩ := one_of ha x
    rw [hd] at h ⊢
    exact h d (by simp)
theorem valsD_ids : ∀ (ts : List GT) (x : Els ts), ∀ d, d ∈ valsD ts x → Ids (fun _ => False) d
  | [], _, d, h => by cases h
  | [t], x, d, h => by rw [List.mem_singleton.1 h]; exact valD_ids t x
  | t :: u :: r, x, d, h => by
    rcases List.mem_cons.1 h with rfl | h
    · exact valD_ids t x.1
    · exact valsD_ids (u :: r) x.2 d h
theorem resV_ids {l : List DV} {S : Nat → Prop} (h : ∀ d, d ∈ l → Ids S d) : Ids S (resV l) := by
  unfold resV
  split
  · exact h _ (by simp)
  · exact .tup _ h
theorem valsD_len : ∀ (ts : List GT) (x : Els ts), (valsD ts x).length = ts.length
  | [], _ => rfl
  | [t], x => rfl
  | t :: u :: r, x => by simp [valsD, valsD_len (u :: r) x.2]
/-! ### The beginning and the end of a function -/
def argT0 : List IV → Nat → List (Nat × IV)
  | [], _ => []
  | v :: r, i => (i, v) :: argT0 r (i + 1)
theorem argT0_get : ∀ (l : List IV) (i t : Nat), getT (argT0 l i) t = if i ≤ t then l.getD (t - i) .any else .any
  | [], i, t => by simp [argT0, getT]
  | v :: r, i, t => by
    simp only [argT0, getT]
    cases hb : Nat.beq i t with
    | true => have := Nat.eq_of_beq_eq_true hb; subst this; simp
    | false =>
      have := nbeq_ne hb
      simp only [cond_false, argT0_get r (i + 1) t]
      by_cases h : i + 1 ≤ t
      · rw [if_pos h, if_pos (by omega)]
        have : t - i = (t - (i + 1)) + 1 := by omega
        rw [this]; rfl
      · rw [if_neg h, if_neg (by omega)]

theorem start_rel {vs : List IV} {ds : List DV} {HI : IH} {H : Hp} {nx : Nat} (h : Rels H nx vs ds) (hh : HRel HI H nx) (hl : HI.length = nx) : SR ⟨argT0 vs 0, HI⟩ ⟨ofArgs ds, H, nx⟩ := by
  refine ⟨fun t => ?_, hh, hl⟩
  rw [argT0_get, if_pos (Nat.zero_le _), Nat.sub_zero]
  exact Rels.getAny h t

def rrI (T : List (Nat × IV)) (H : IH) : List RR → Option (List IV)
  | [] => some []
  | .t n :: r => match rrI T H r with
    | some l => some (getT T n :: l)
    | none => none
  | .cell a ag n :: r => match getT T a, rrI T H r with
    | .ptr o _ off, some l => match getH H o with
      | some (.box _ cs) => match Nat.ble (off + n) cs.length, ag with
        | true, true => some (.agg ((cs.drop off).take n) :: l)
        | true, false => match n, cs.drop off with
          | 1, c :: _ => some (c :: l)
          | _, _ => none
        | false, _ => none
      | _ => none
    | _, _ => none
theorem rrI_rel {T : List (Nat × IV)} {H : IH} {s : St} (hs : SR ⟨T, H⟩ s) : ∀ (rs : List RR) (vs : List IV), rrI T H rs = some vs → ∃ ds, rrV s.T s.H rs = some ds ∧ Rels s.H s.nx vs ds
  | [], vs, h => by simp only [rrI, Option.some.injEq] at h; subst h; exact ⟨[], rfl, .nil⟩
  | .t n :: r, vs, h => by
    simp only [rrI] at h
    split at h
    · rename_i l hl
      injection h with h; subst h
      obtain ⟨ds, h1, h2⟩ := rrI_rel hs r l hl
      exact ⟨s.T n :: ds, by simp only [rrV, h1], h2.cons (hs.t n)⟩
    · cases h
  | .cell a ag n :: r, vs, h => by
    simp only [rrI] at h
    split at h
    · rename_i o i off l hv hl
      obtain ⟨ds, h1, h2⟩ := rrI_rel hs r l hl
      have hp := hs.t a
      simp only [hv] at hp
      obtain ⟨g, hd, ho, hg⟩ := hp.ptr_inv
      split at h
      · rename_i _ cs hc
        obtain ⟨_, ck, k1, k2, es, k3, k4, k5⟩ := hs.h.at hc
        obtain ⟨rfl, hi⟩ := hg ck k1
        rw [k3] at hi
        have : i = 0 := by simpa using hi
        subst this
        have key : ∀ v, (loadI ag n off cs [] (fun v _ _ => some v)) = some v → vs = v :: l → ∃ ds, rrV s.T s.H (.cell a ag n :: r) = some ds ∧ Rels s.H s.nx vs ds := by
          rintro v hlo rfl
          obtain ⟨v', d, q1, q2, q3, q4⟩ := loadI_sound hlo k4
          injection q1 with q1; subst q1
          refine ⟨d :: ds, ?_, h2.cons q2⟩
          simp only [rrV, hd, loadV, k1, k3, List.getD_cons_zero, h1]
          rw [if_pos ⟨trivial, q3⟩, q4]
        split at h
        · rename_i hb
          injection h with h
          exact key _ (by simp only [loadI, hb]) h.symm
        · rename_i hb
          split at h
          · rename_i c l' he
            injection h with h
            exact key _ (by simp only [loadI, hb, he]) h.symm
          · cases h
        · cases h
      · cases h
    · cases h

def fin (rs : List RR) (ret : List GT) : Exit → SI → Option (Els ret)
  | .normal, si => (match rrI si.T si.H rs with | some vs => decVs ret vs | none => none)
  | .ret, si => (match rrI si.T si.H rs with | some vs => decVs ret vs | none => none)
  | _, _ => none
theorem fin_sound {rs : List RR} {ret : List GT} {e : Exit} {si : SI} {y : Els ret} {s : St} (h : fin rs ret e si = some y) (hs : SR si s) : (e = .normal ∨ e = .ret) ∧ ∃ ds, rrV s.T s.H rs = some ds ∧ WkD (resV ds) (resV (valsD ret y)) := by
  have main : (match rrI si.T si.H rs with | some vs => decVs ret vs | none => none) = some y → ∃ ds, rrV s.T s.H rs = some ds ∧ WkD (resV ds) (resV (valsD ret y)) := by
    intro h
    split at h
    · rename_i vs hv
      obtain ⟨ds, h1, h2⟩ := rrI_rel hs rs vs hv
      have h3 := decVs_wk ret vs y ds h h2
      refine ⟨ds, h1, ?_⟩
      generalize valsD ret y = es at h3
      cases ds with
      | nil => rw [h3.nil_l]; exact .refl _
      | cons d ds =>
        obtain ⟨e1, es', rfl, q1, q2⟩ := h3.cons_l
        cases ds with
        | nil => rw [q2.nil_l]; exact q1
        | cons d2 ds =>
          obtain ⟨e2, es2, rfl, q3, q4⟩ := q2.cons_l
          exact VR.tup_wk h3
    · cases h
  cases e with
  | normal => exact ⟨.inl rfl, main h⟩
  | ret => exact ⟨.inr rfl, main h⟩
  | _ => simp [fin] at h

/-! ### Functions on plain values -/
def PureOK (P : Program) (f : FuncId) (ts ret : List GT) (model : Els ts → Option (Els ret)) : Prop := ∀ x y, model x = some y → ∀ nb, CallOK P f (valsD ts x) [] nb (resV (valsD ret y)) [] nb

theorem CallOK.lift0 {P : Program} {f : FuncId} {args : List DV} {res : DV} (h : CallOK P f args [] 0 res [] 0) (ha : ∀ d, d ∈ args → Ids (fun _ => False) d) (hr : Ids (fun _ => False) res) (nb : Nat) : CallOK P f args [] nb res [] nb := by
  have emp : ∀ o, ofL [] o = none := fun o => rfl
  have nolive : ∀ (ps : Ps) b, ¬ Live (ofL []) ps b := by rintro ps b ⟨o, ck, p, h, _⟩; cases h
  have kps : ∀ (M : Nat → Prop) (ps ps' : Ps) (nx nx' : Nat) (w : World), KpS (fun _ => False) (ofL []) ps M nx w (ofL []) ps' M nx' w := fun M ps ps' nx nx' w =>
    ⟨fun o h => h.elim, fun o h => h.elim, fun b hb => .inl (hb.elim .inl fun h => absurd h (nolive _ b)), fun _ _ _ => rfl⟩
  refine ⟨h.fn, fun o ck h => (by cases h), fun o ck h => (by cases h), Nat.le_refl _, hr.mono' fun _ h => h.elim, fun o ck h => (by cases h), fun M ps w cargs hR hsz hva hgl => ?_⟩
  have hR0 : HR (ofL []) ps M 0 w := ⟨fun o ck h => (by cases h), fun o ck h => (by cases h), fun o o' ck ck' p p' h => (by cases h), hR.ml, fun o ck p h => (by cases h)⟩
  refine (h.run M ps w cargs hR0 hsz (fun j hj => (hva j hj).monoS (ha _ (List.getElem_mem hj)) (kps M ps ps nb 0 w)) hgl).mono ?_
  rintro e w' ⟨v, ps', rfl, h1, h2, h3, h4, h5⟩
  exact ⟨v, ps', rfl, h1.monoS hr (kps M ps' ps' 0 nb w'), ⟨fun o ck h => (by cases h), fun o ck h => (by cases h), fun o o' ck ck' p p' h => (by cases h), h2.ml, fun o ck p h => (by cases h)⟩, h3, fun o ck p h => (by cases h), fun o _ ck h => (by cases h)⟩

theorem pureOK {P : Program} {f nt : Nat} {ow : Nat → Bool} {tc : TC} {rs : List RR} {env : List (Nat × Ent)} {N : Nat} {ts ret : List GT} {model : Els ts → Option (Els ret)} (hm : P.follows .mixedOrders = true) (hf : FnOK P f nt ow tc.er rs) (hE : EnvOK P env) (hh : tc.hok P nt ow false) (hlen : Nat.ble ts.length nt = true)
    (hrun : ∀ x, run env N 0 tc ⟨argT0 (valsI ts x) 0, []⟩ (fin rs ret) = model x) : PureOK P f ts ret model := by
  intro x y hy nb
  refine CallOK.lift0 ?_ (valsD_ids ts x) (resV_ids (valsD_ids ret y)) nb
  obtain ⟨fn, h1, h2, h3, rfl, h5, h6⟩ := hf.ex
  refine CallOK.intro2 hm h1 h2 h3 h5 h6 (by rw [valsD_len]; exact Nat.le_of_ble_eq_true hlen) (fun o ck h => (by cases h)) (fun o ck h => (by cases h)) (Nat.le_refl _) ((resV_ids (valsD_ids ret y)).mono' fun _ h => h.elim) (fun o ck h => (by cases h)) (fun o ck h => (by cases h)) fun cx hcx hnb hro hfz hmm ps a w R0 => ?_
  have hs : SR ⟨argT0 (valsI ts x) 0, []⟩ ⟨ofArgs (valsD ts x), ofL [], 0⟩ := start_rel (valsI_rel ts x) (fun o c h => by simp [getH] at h) rfl
  have hr : run env N cx.nb tc ⟨argT0 (valsI ts x) 0, []⟩ (fin rs ret) = some y := by rw [hnb, ← hy]; exact hrun x
  have key := run_sound hE N tc cx (by rw [hcx, hro]; exact hh) _ _ _ hs hr hmm _ (by rw [hcx]; exact h5) (by rw [hfz]; exact AC.nofz_none _) ps a w R0
  rw [hro] at key
  refine wpIn_mono key ?_
  rintro e a' w' ⟨s', ps', R', si', k1, k2⟩
  obtain ⟨k3, k4⟩ := fin_sound k2 k1
  exact ⟨s', ps', R', k3, k4, fun o ck h => (by cases h)⟩

def resI : List IV → IV
  | [v] => v
  | l => .tup l
theorem resI_rel {H : Hp} {nx : Nat} {vs : List IV} {ds : List DV} (h : Rels H nx vs ds) : Rel H nx (resI vs) (resV ds) := by
  cases vs with
  | nil => rw [h.nil_l]; exact Rel.tupB .nil
  | cons v l =>
    obtain ⟨d, ds', rfl, h1, h2⟩ := h.cons_l
    cases l with
    | nil => rw [h2.nil_l]; exact h1
    | cons v2 l =>
      obtain ⟨d2, ds2, rfl, h3, h4⟩ := h2.cons_l
      exact Rel.tupB h

/-! ### Own arrays lent to a function that gives no list back -/
inductive NoL : DV → Prop
  | v (x : Value) : NoL (.v x)
  | agg (cs : List DV) (h : ∀ c, c ∈ cs → NoL c) : NoL (.agg cs)
  | tup (cs : List DV) (h : ∀ c, c ∈ cs → NoL c) : NoL (.tup cs)
theorem NoL.vr {d : DV} (h : NoL d) : ∀ {H H' : Hp} {ps ps' : Ps} {M M' : Nat → Prop} {nx nx' : Nat} {w w' : World} {x : Value}, VR H ps M nx w d x → VR H' ps' M' nx' w' d x := by
  induction h with
  | v y => intro H H' ps ps' M M' nx nx' w w' x hv; rw [hv.v_inv]; exact .v y
  | agg cs h ih =>
    intro H H' ps ps' M M' nx nx' w w' x hv
    obtain ⟨vs, rfl, h1, h2, h3⟩ := hv.agg_inv
    exact .agg _ vs h1 h2 fun j hj => ih _ (List.getElem_mem hj) (h3 j hj)
  | tup cs h ih =>
    intro H H' ps ps' M M' nx nx' w w' x hv
    obtain ⟨vs, rfl, h1, h2⟩ := hv.tup_inv
    exact .tup _ vs h1 fun j hj => ih _ (List.getElem_mem hj) (h2 j hj)
def GT.nol : GT → Bool
  | .int _ | .bool | .str | .unit => true
  | .list _ => false
  | .pair a b => a.nol && b.nol
def nols : List GT → Bool
  | [] => true
  | t :: r => t.nol && nols r
theorem encD_nol : ∀ (t : GT) (x : El t), t.nol = true → ∀ d, d ∈ encD t x → NoL d
  | .int k, n, h, d, hd => by rw [List.mem_singleton.1 hd]; exact .v _
  | .bool, n, h, d, hd => by rw [List.mem_singleton.1 hd]; exact .v _
  | .str, n, h, d, hd => by rw [List.mem_singleton.1 hd]; exact .v _
  | .list t, n, h, d, hd => by cases h
  | .unit, n, h, d, hd => by cases hd
  | .pair a b, x, h, d, hd => by
    simp only [GT.nol, Bool.and_eq_true] at h
    rcases List.mem_append.1 hd with hd | hd
    · exact encD_nol a _ h.1 d hd
    · exact encD_nol b _ h.2 d hd
theorem valD_nol (t : GT) (x : El t) (h : t.nol = true) : NoL (valD t x) := by
  have q := encD_nol t x h
  unfold valD
  cases ha : isAg t with
  | true => exact .agg _ q
  | false =>
    obtain ⟨_, ⟨d, hd⟩⟩ := one_of ha x
    rw [hd] at q ⊢
    exact q d (by simp)
theorem valsD_nol : ∀ (ts : List GT) (x : Els ts), nols ts = true → ∀ d, d ∈ valsD ts x → NoL d
  | [], _, _, d, h => by cases h
  | [t], x, hn, d, h => by
    simp only [nols, Bool.and_true] at hn
    rw [List.mem_singleton.1 h]; exact valD_nol t x hn
  | t :: u :: r, x, hn, d, h => by
    simp only [nols, Bool.and_eq_true] at hn
    rcases List.mem_cons.1 h with rfl | h
    · exact valD_nol t x.1 hn.1
    · exact valsD_nol (u :: r) x.2 (by simp only [nols, Bool.and_eq_true]; exact hn.2) d h
theorem resV_nol {l : List DV} (h : ∀ d, d ∈ l → NoL d) : NoL (resV l) := by
  unfold resV
  split
  · exact h _ (by simp)
  · exact .tup _ h

/-- A datum that is lent: what it is where its chunks are not told. -/
def BwD (pre : Cks) (nx : Nat) (d' d : DV) : Prop := ∀ (ps : Ps) (M : Nat → Prop) (w : World) (x : Value), HR (ofL pre) ps M nx w → VR (ofL pre) ps M nx w d' x → VR (ofL []) ps M nx w d x
theorem CallOK.borrow {P : Program} {f : FuncId} {args args' : List DV} {res : DV} {nb : Nat} (h : CallOK P f args [] nb res [] nb) (hres : NoL res) (pre : Cks) (hfl : ∀ o ck, ofL pre o = some ck → ∀ x, x ∈ ck.xs → ∀ c, c ∈ x → Ids (fun _ => False) c) (hb : Both (BwD pre nb) args' args) : CallOK P f args' pre nb res pre nb := by
  have emp : ∀ (ps : Ps) b, ¬ Live (ofL []) ps b := by rintro ps b ⟨o, ck, p, h, _⟩; cases h
  have ids : ∀ {S : Nat → Prop}, Ids S res := by
    intro S
    have key : ∀ {d : DV}, NoL d → Ids S d := by
      intro d hd
      induction hd with
      | v x => exact .v x
      | agg cs h ih => exact .agg _ ih
      | tup cs h ih => exact .tup _ ih
    exact key hres
  refine ⟨h.fn, fun o ck ho => ⟨ck, ho⟩, fun o ck ho _ => ⟨ck, ho⟩, Nat.le_refl _, ids, fun o ck ho x hx c hc => ?_, fun M ps w cargs hR hsz hva hgl => ?_⟩
  · exact (hfl o ck ho x hx c hc).mono' fun _ h => h.elim
  · have hR0 : HR (ofL []) ps M nb w := ⟨fun o ck h => (by cases h), fun o ck h => (by cases h), fun o o' ck ck' p p' h => (by cases h), hR.ml, fun o ck p h => (by cases h)⟩
    refine (h.run M ps w cargs hR0 (by rw [hsz, hb.1]) (fun j hj => hb.2 j (by rw [hb.1]; exact hj) hj ps M w _ hR (hva j (by rw [hb.1]; exact hj))) (hgl.less fun b hb => (emp ps b hb).elim)).mono ?_
    rintro e w' ⟨v, ps', rfl, g1, g2, g3, g4, g5⟩
    have blk : ∀ b, b < w.heap.size → w'.heap[b]? = w.heap[b]? := fun b hlt => g3.block b hlt (emp ps b)
    have kp : Kp (ofL pre) ps M nb w (ofL pre) ps M nb w' := ⟨Nat.le_refl _, fun o _ ck' hk => ⟨ck', hk, .inr ⟨rfl, rfl, Nat.le_refl _, rfl⟩⟩, fun b hb => .inl hb, fun b hlt _ => blk b hlt⟩
    exact ⟨v, ps, rfl, hres.vr g1, ⟨hR.lt, fun o ck ho => (hR.cr o ck ho).mono kp rfl fun p hp => blk _ (hR.live_lt ho hp), hR.inj, fun b hb => Nat.lt_of_lt_of_le (hR.ml b hb) g3.size, hR.dj⟩, ⟨g3.os, g3.tape, g3.output, g3.size, fun b hlt _ => blk b hlt⟩, fun o ck p h1 h2 => .inl ⟨o, ck, p, h1, h2, rfl⟩, fun o _ ck' hk => ⟨ck', hk, .inr ⟨rfl, rfl, Nat.le_refl _, rfl⟩⟩⟩

def plainC (t : GT) (cs : List IV) : Option (El t × List Nat × List IV) := match decC t cs with
  | some (x, r) => some (x, [], r)
  | none => none
/-- Cells, with own arrays read as lists. -/
def decCB : (t : GT) → List IV → IH → Option (El t × List Nat × List IV)
  | .list t, cs, H => match cs with
    | .whole o :: r => match getH H o with
      | some (.arr t' as) => match castL t' t as, Nat.ble 1 t.sz with
        | some x, true => some (x, [o], r)
        | _, _ => none
      | _ => none
    | _ => plainC (.list t) cs
  | .pair a b, cs, H => match decCB a cs H with
    | some (x, o1, r) => match decCB b r H with
      | some (y, o2, r') => some ((x, y), o1 ++ o2, r')
      | none => none
    | none => none
  | t, cs, _ => plainC t cs
def decVB (t : GT) (v : IV) (H : IH) : Option (El t × List Nat) := match isAg t, v with
  | true, .agg cs => (match decCB t cs H with
    | some (x, os, []) => some (x, os)
    | _ => none)
  | true, _ => none
  | false, .agg _ => none
  | false, v => (match decCB t [v] H with
    | some (x, os, []) => some (x, os)
    | _ => none)
def decVsB : (ts : List GT) → List IV → IH → Option (Els ts × List Nat)
  | [], [], _ => some ((), [])
  | [], _ :: _, _ => none
  | [t], [v], H => decVB t v H
  | [_], _, _ => none
  | t :: u :: r, v :: l, H => match decVB t v H with
    | some (x, o1) => match decVsB (u :: r) l H with
      | some (y, o2) => some ((x, y), o1 ++ o2)
      | none => none
    | none => none
  | _ :: _ :: _, [], _ => none

section lend
variable {H : Hp} {nx : Nat} {HI : IH} {pre : Cks}
theorem BwD.flat {d d' : DV} (h : WkD d d') (hi : Ids (fun _ => False) d) : BwD pre nx d d' := fun ps M w x hR hv =>
  h _ _ _ _ _ _ (hv.monoS hi ⟨fun o h => h.elim, fun o h => h.elim, fun b hb => .inl (hb.elim .inl fun h => by obtain ⟨o, ck, p, h, _⟩ := h; cases h), fun _ _ _ => rfl⟩)
theorem bothBw {ds es : List DV} (h : Both WkD ds es) (hi : ∀ d, d ∈ ds → Ids (fun _ => False) d) : Both (BwD pre nx) ds es := ⟨h.1, fun j h1 h2 => .flat (h.2 j h1 h2) (hi _ (List.getElem_mem h1))⟩
theorem decCB_at (hH : HRel HI H nx) : ∀ (t : GT) (cs : List IV) (x : El t) (os : List Nat) (r : List IV) (ds : List DV), decCB t cs HI = some (x, os, r) → Rels H nx cs ds → (∀ o, o ∈ os → ofL pre o = H o) →
    ∃ d1 d2, ds = d1 ++ d2 ∧ Both (BwD pre nx) d1 (encD t x) ∧ Rels H nx r d2 := by
  have plain : ∀ (t : GT) (cs : List IV) (x : El t) (os : List Nat) (r : List IV) (ds : List DV), plainC t cs = some (x, os, r) → Rels H nx cs ds → ∃ d1 d2, ds = d1 ++ d2 ∧ Both (BwD pre nx) d1 (encD t x) ∧ Rels H nx r d2 := by
    intro t cs x os r ds h hr
    unfold plainC at h
    split at h
    · rename_i y r' hy
      simp only [Option.some.injEq, Prod.mk.injEq] at h
      obtain ⟨e1, _, e3⟩ := h
      rw [e1, e3] at hy
      obtain ⟨d1, d2, e, h1, h2⟩ := decC_rel t cs x r ds hy hr
      exact ⟨d1, d2, e, bothBw (relT_wk t x d1 h1) (RelT.ids t x d1 h1), h2⟩
    · cases h
  intro t
  induction t with
  | list t ih =>
    intro cs x os r ds h hr ho
    simp only [decCB] at h
    split at h
    · rename_i o r'
      split at h
      · rename_i t' as hc
        split at h
        · rename_i y hy hb
          simp only [Option.some.injEq, Prod.mk.injEq] at h
          obtain ⟨e1, e2, e3⟩ := h
          have hyx : castL t' t as = some x := by rw [hy, e1]
          obtain ⟨rfl, hxe⟩ := castL_some hyx
          have hxe : x = as := hxe
          obtain ⟨d, ds, rfl, q1, q2⟩ := hr.cons_l
          obtain ⟨g, n, rfl, hlt, hg⟩ := q1.whole_inv
          obtain ⟨_, ck, k1, k2⟩ := hH o _ hc
          obtain ⟨z1, z2⟩ := k2
          obtain ⟨g1, g2⟩ := hg ck k1
          have hpre : ofL pre o = some ck := by rw [ho o (by rw [← e2]; simp), k1]
          refine ⟨[.own o g 0 n], ds, rfl, .one ?_, by rw [← e3]; exact q2⟩
          intro ps M w v hR hv
          have hp : 0 < ck.sz := by rw [z1]; exact Nat.le_of_ble_eq_true hb
          have fl : ∀ x ∈ ck.xs, ∀ c ∈ x, Ids (fun _ => False) c := fun x hx c hc => by
            obtain ⟨j, hj, rfl⟩ := List.mem_iff_getElem.1 hx
            exact RelT.ids t' _ _ (z2.2 j (by rw [z2.1]; exact hj) hj) c hc
          have tr := own_lst (s := ⟨fun _ => .any, ofL pre, nx⟩) (H' := ofL []) (o := o) (ck := ck) hpre hp fl ⟨fun j ck' hj => (by cases hj)⟩ rfl g 0 n g1 (by omega)
          have hv2 := tr ps M w v hR hv
          have e : (ck.xs.drop 0).take n = ck.xs := by rw [List.drop_zero, ← g2, List.take_length]
          rw [e] at hv2
          have hw := relT_wk (.list t') as [.lst false ck.xs] ⟨false, ck.xs, rfl, z2⟩
          rw [hxe]
          exact (hw.2 0 Nat.zero_lt_one Nat.zero_lt_one) _ _ _ _ _ _ hv2
        · cases h
      · cases h
    · exact plain (.list t) cs x os r ds h hr
  | pair a b iha ihb =>
    intro cs x os r ds h hr ho
    simp only [decCB] at h
    split at h
    · rename_i x1 o1 r1 h1
      split at h
      · rename_i y1 o2 r2 h2
        simp only [Option.some.injEq, Prod.mk.injEq] at h
        obtain ⟨e1, e2, e3⟩ := h
        obtain ⟨d1, d2, rfl, q1, q2⟩ := iha cs x1 o1 r1 ds h1 hr fun o hm => ho o (by rw [← e2]; exact List.mem_append_left _ hm)
        obtain ⟨d3, d4, rfl, q3, q4⟩ := ihb r1 y1 o2 r2 d2 h2 q2 fun o hm => ho o (by rw [← e2]; exact List.mem_append_right _ hm)
        refine ⟨d1 ++ d3, d4, by rw [List.append_assoc], ?_, by rw [← e3]; exact q4⟩
        rw [← e1]
        exact q1.append q3
      · cases h
    · cases h
  | int k => exact fun cs x os r ds h hr _ => plain (.int k) cs x os r ds h hr
  | bool => exact fun cs x os r ds h hr _ => plain .bool cs x os r ds h hr
  | str => exact fun cs x os r ds h hr _ => plain .str cs x os r ds h hr
  | unit => exact fun cs x os r ds h hr _ => plain .unit cs x os r ds h hr
theorem BwD.agg {ds es : List DV} (h : Both (BwD pre nx) ds es) : BwD pre nx (.agg ds) (.agg es) := fun ps M w x hR hv => by
  obtain ⟨vs, rfl, h1, h2, h3⟩ := hv.agg_inv
  have e := h.1
  exact .agg _ vs (by omega) (fun j hj => h2 j (by omega)) fun j hj => h.2 j (by omega) hj ps M w _ hR (h3 j (by omega))
theorem decVB_at (hH : HRel HI H nx) {t : GT} {v : IV} {x : El t} {os : List Nat} {d : DV} (h : decVB t v HI = some (x, os)) (hr : Rel H nx v d) (ho : ∀ o, o ∈ os → ofL pre o = H o) : BwD pre nx d (valD t x) := by
  unfold decVB at h
  unfold valD
  split at h
  · rename_i cs ha
    obtain ⟨ds, rfl, k⟩ := hr.agg_inv
    split at h
    · rename_i y os' hy
      simp only [Option.some.injEq, Prod.mk.injEq] at h
      obtain ⟨e1, e2⟩ := h
      rw [e1, e2] at hy
      obtain ⟨d1, d2, rfl, q1, q2⟩ := decCB_at hH t cs x os [] ds hy k ho
      have := q2.nil_l; subst this
      rw [ha, List.append_nil]
      exact BwD.agg q1
    · cases h
  · cases h
  · cases h
  · rename_i ha _
    split at h
    · rename_i y os' hy
      simp only [Option.some.injEq, Prod.mk.injEq] at h
      obtain ⟨e1, e2⟩ := h
      rw [e1, e2] at hy
      obtain ⟨d1, d2, e, q1, q2⟩ := decCB_at hH t _ x os [] [d] hy (.one hr) ho
      have := q2.nil_l; subst this
      rw [List.append_nil] at e; subst e
      obtain ⟨_, ⟨e, he⟩⟩ := one_of ha x
      rw [ha]
      rw [he] at q1 ⊢
      obtain ⟨_, e1, k⟩ := q1.one_l
      injection e1 with e1; subst e1
      exact k
    · cases h
theorem decVsB_at (hH : HRel HI H nx) : ∀ (ts : List GT) (vs : List IV) (x : Els ts) (os : List Nat) (ds : List DV), decVsB ts vs HI = some (x, os) → Rels H nx vs ds → (∀ o, o ∈ os → ofL pre o = H o) → Both (BwD pre nx) ds (valsD ts x)
  | [], vs, x, os, ds, h, hr, ho => by
    cases vs with
    | nil => rw [hr.nil_l]; exact .nil
    | cons => simp [decVsB] at h
  | [t], vs, x, os, ds, h, hr, ho => by
    cases vs with
    | nil => simp [decVsB] at h
    | cons v l =>
      cases l with
      | nil =>
        obtain ⟨d, rfl, h1⟩ := hr.one_l
        simp only [decVsB] at h
        exact .one (decVB_at hH h h1 ho)
      | cons => simp [decVsB] at h
  | t :: u :: r, vs, x, os, ds, h, hr, ho => by
    cases vs with
    | nil => simp [decVsB] at h
    | cons v l =>
      obtain ⟨d, ds, rfl, h1, h2⟩ := hr.cons_l
      simp only [decVsB] at h
      split at h
      · rename_i a o1 ha
        split at h
        · rename_i b o2 hb
          simp only [Option.some.injEq, Prod.mk.injEq] at h
          obtain ⟨e1, e2⟩ := h
          rw [← e1]
          exact (decVsB_at hH (u :: r) l b o2 ds hb h2 fun o hm => ho o (by rw [← e2]; exact List.mem_append_right _ hm)).cons (decVB_at hH ha h1 fun o hm => ho o (by rw [← e2]; exact List.mem_append_left _ hm))
        · cases h
      · cases h
/-- The arrays that are read are there. -/
theorem decCB_mem : ∀ (t : GT) (cs : List IV) (x : El t) (os : List Nat) (r : List IV), decCB t cs HI = some (x, os, r) → ∀ o, o ∈ os → ∃ t as, getH HI o = some (.arr t as) := by
  have plain : ∀ (t : GT) (cs : List IV) (x : El t) (os : List Nat) (r : List IV), plainC t cs = some (x, os, r) → ∀ o, o ∈ os → ∃ t as, getH HI o = some (.arr t as) := by
    intro t cs x os r h o ho
    unfold plainC at h
    split at h
    · simp only [Option.some.injEq, Prod.mk.injEq] at h
      rw [← h.2.1] at ho; cases ho
    · cases h
  intro t
  induction t with
  | list t ih =>
    intro cs x os r h
    simp only [decCB] at h
    split at h
    · split at h
      · rename_i t' as hc
        split at h
        · simp only [Option.some.injEq, Prod.mk.injEq] at h
          intro o ho
          rw [← h.2.1] at ho
          rw [List.mem_singleton.1 ho]; exact ⟨_, _, hc⟩
        · cases h
      · cases h
    · exact plain (.list t) cs x os r h
  | pair a b iha ihb =>
    intro cs x os r h
    simp only [decCB] at h
    split at h
    · rename_i x1 o1 r1 h1
      split at h
      · rename_i y1 o2 r2 h2
        simp only [Option.some.injEq, Prod.mk.injEq] at h
        intro o ho
        rw [← h.2.1] at ho
        rcases List.mem_append.1 ho with ho | ho
        · exact iha _ _ _ _ h1 o ho
        · exact ihb _ _ _ _ h2 o ho
      · cases h
    · cases h
  | int k => exact fun cs x os r h => plain (.int k) cs x os r h
  | bool => exact fun cs x os r h => plain .bool cs x os r h
  | str => exact fun cs x os r h => plain .str cs x os r h
  | unit => exact fun cs x os r h => plain .unit cs x os r h
theorem decVB_mem {t : GT} {v : IV} {x : El t} {os : List Nat} (h : decVB t v HI = some (x, os)) : ∀ o, o ∈ os → ∃ t as, getH HI o = some (.arr t as) := by
  unfold decVB at h
  split at h
  · split at h
    · rename_i hy
      simp only [Option.some.injEq, Prod.mk.injEq] at h
      rw [← h.2]; exact decCB_mem _ _ _ _ _ hy
    · cases h
  · cases h
  · cases h
  · split at h
    · rename_i hy
      simp only [Option.some.injEq, Prod.mk.injEq] at h
      rw [← h.2]; exact decCB_mem _ _ _ _ _ hy
    · cases h
theorem decVsB_mem : ∀ (ts : List GT) (vs : List IV) (x : Els ts) (os : List Nat), decVsB ts vs HI = some (x, os) → ∀ o, o ∈ os → ∃ t as, getH HI o = some (.arr t as)
  | [], vs, x, os, h => by
    cases vs with
    | nil =>
      simp only [decVsB, Option.some.injEq, Prod.mk.injEq] at h
      intro o ho; rw [← h.2] at ho; cases ho
    | cons => simp [decVsB] at h
  | [t], vs, x, os, h => by
    cases vs with
    | nil => simp [decVsB] at h
    | cons v l =>
      cases l with
      | nil => simp only [decVsB] at h; exact decVB_mem h
      | cons => simp [decVsB] at h
  | t :: u :: r, vs, x, os, h => by
    cases vs with
    | nil => simp [decVsB] at h
    | cons v l =>
      simp only [decVsB] at h
      split at h
      · rename_i a o1 ha
        split at h
        · rename_i b o2 hb
          simp only [Option.some.injEq, Prod.mk.injEq] at h
          intro o ho
          rw [← h.2] at ho
          rcases List.mem_append.1 ho with ho | ho
          · exact decVB_mem ha o ho
          · exact decVsB_mem (u :: r) l b o2 hb o ho
        · cases h
      · cases h
end lend

def pureE (ts ret : List GT) (model : Els ts → Option (Els ret)) : Ent := fun args H k => match decVs ts args with
  | some x => Option.bind (model x) fun y => k (resI (valsI ret y)) H [] [] []
  | none => match nols ret, decVsB ts args H with
    | true, some (x, os) => Option.bind (model x) fun y => k (resI (valsI ret y)) H os os []
    | _, _ => none
theorem pureE_ok {P : Program} {f : FuncId} {ts ret : List GT} {model : Els ts → Option (Els ret)} (h : PureOK P f ts ret model) : EntOK P f (pureE ts ret model) := by
  intro R args HI k r hr dargs H nx ha hH hn
  simp only [pureE] at hr
  split at hr
  · rename_i x hx
    cases hm : model x with
    | none => rw [hm] at hr; cases hr
    | some y =>
      rw [hm] at hr
      refine ⟨_, HI, [], [], [], hr, [], _, [], nx, (h x y hm nx).weak (decVs_wk ts args x dargs hx ha), fun o ck h => (by cases h), rfl, rfl, hn, hH, resI_rel (valsI_rel ret y), .same Same.refl⟩
  · split at hr
    · rename_i x os hno hx
      cases hm : model x with
      | none => rw [hm] at hr; cases hr
      | some y =>
        rw [hm] at hr
        have hmem := decVsB_mem ts args x os hx
        let pre : Cks := os.map fun o => (o, (H o).getD ⟨0, 0, []⟩)
        have there : ∀ o, o ∈ os → ∃ t as ck, getH HI o = some (.arr t as) ∧ H o = some ck ∧ CkR H nx (.arr t as) ck := fun o ho => by
          obtain ⟨t, as, hc⟩ := hmem o ho
          obtain ⟨_, ck, k1, k2⟩ := hH o _ hc
          exact ⟨t, as, ck, hc, k1, k2⟩
        have inv : ∀ o ck, ofL pre o = some ck → o ∈ os ∧ H o = some ck := fun o ck ho => by
          have hm := ofL_mem ho
          obtain ⟨q, hq, e⟩ := List.mem_map.1 hm
          injection e with e1 e2
          subst e1
          obtain ⟨_, _, c, _, k1, _⟩ := there q hq
          rw [k1] at e2
          exact ⟨hq, by rw [k1, ← e2]; simp⟩
        have at_ : ∀ o, o ∈ os → ofL pre o = H o := fun o ho => by
          obtain ⟨_, _, c, _, k1, _⟩ := there o ho
          have hk : o ∈ pre.map (·.1) := List.mem_map.2 ⟨(o, (H o).getD ⟨0, 0, []⟩), List.mem_map.2 ⟨o, ho, rfl⟩, rfl⟩
          rcases puts_one pre o with ⟨ck, h1, h2⟩ | h2
          · have := inv o ck (h2 Hp.emp)
            show puts Hp.emp pre o = _
            rw [h2 Hp.emp, this.2]
          · exfalso
            have := h2 (fun _ => some ⟨1, 0, []⟩)
            have h3 := puts_in (H := Hp.emp) (H' := fun _ => some ⟨1, 0, []⟩) hk
            rw [h2, h2] at h3; cases h3
        have same : puts H pre = H := by
          funext o
          rcases puts_split pre H o with ⟨_, q2⟩ | ⟨ck, q1, q2⟩
          · exact q2
          · rw [q2, (inv o ck q1).2]
        have hkeys : pre.map (·.1) = os := by simp [pre, Function.comp_def]
        refine ⟨_, HI, os, os, [], hr, pre, _, pre, nx, CallOK.borrow (h x y hm nx) (resV_nol (valsD_nol ret y hno)) pre (fun o ck ho x hx c hc => ?_) (decVsB_at hH ts args x os dargs hx ha at_), fun o ck ho => (inv o ck ho).2, hkeys, hkeys, hn, by rw [same]; exact hH, resI_rel (valsI_rel ret y), by rw [same]; exact .same Same.refl⟩
        obtain ⟨h1, h2⟩ := inv o ck ho
        obtain ⟨t, as, c, _, k1, k2, k3⟩ := there o h1
        rw [h2] at k1; injection k1 with k1; subst k1
        obtain ⟨j, hj, rfl⟩ := List.mem_iff_getElem.1 hx
        exact RelT.ids t _ _ (k3.2 j (by rw [k3.1]; exact hj) hj) c hc
    · cases hr
end Go.Pv
