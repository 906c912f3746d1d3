/- Calls that end by a panic (CallPan), code whose calls may do so (TP, runP), and its soundness. No condition of its own: over any program. -/
import Derived.Test.YthfejkflhpifnaaDoorPxN
set_option linter.all false
namespace Go.Pv
open Go.RowKit

/-- A call that ends by a panic with these entries; what it turned besides the chunks told is as it was. -/
structure CallPan (P : Program) (ch : List PanicEntry) (f : FuncId) (args : List DV) (pre : Cks) (nb : Nat) : Prop where
  fn : ∃ fn, P.funcs[f]? = some fn ∧ (fn.name == "runtime.NumGoroutine") = false ∧ fn.body.isNone = false
  run : ∀ (M : Nat → Prop) (ps : Ps) (w : World) (cargs : Array Value), HR (ofL pre) ps M nb w → cargs.size = args.length → (∀ j (hj : j < args.length), VR (ofL pre) ps M nb w args[j] (cargs.getD j undef)) → GlOK P w (Live (ofL pre) ps) →
    Calls P f cargs w fun e w' => e = .panicked ch ∧ Fr (Live (ofL pre) ps) w w'

def lessH (l : Cks) (H : Hp) : Hp := fun o => match ofL l o with | some _ => none | none => H o
theorem lessH_in {l : Cks} {H : Hp} {o : Nat} {ck : Ck} (h : lessH l H o = some ck) : ofL l o = none ∧ H o = some ck := by
  unfold lessH at h
  split at h
  · cases h
  · exact ⟨‹_›, h⟩
theorem lessH_out {l : Cks} {H : Hp} {o : Nat} (h : ofL l o = none) : lessH l H o = H o := by
  unfold lessH; rw [h]

theorem CallPan.weak {P : Program} {ch : List PanicEntry} {f : FuncId} {args args' : List DV} {pre : Cks} {nb : Nat} (h : CallPan P ch f args pre nb) (hw : Both WkD args' args) : CallPan P ch f args' pre nb :=
  ⟨h.fn, fun M ps w cargs hr hsz hva hgl => h.run M ps w cargs hr (by rw [hsz, hw.1]) (fun j hj => hw.2 j (by rw [hw.1]; exact hj) hj _ _ _ _ _ _ (hva j (by rw [hw.1]; exact hj))) hgl⟩

theorem CallPan.calls {P : Program} {ch : List PanicEntry} {f : FuncId} {args : List DV} {pre : Cks} {nb : Nat} (h : CallPan P ch f args pre nb) {cx : Cx} (hg : GlOK P cx.w0 cx.B) {H : Hp} {ps : Ps} {w : World} (hr : HR H ps cx.M nb w) (fr : Fr cx.B cx.w0 w)
    (lb : ∀ o ck p, H o = some ck → ps o = some p → cx.B p.b ∨ cx.w0.heap.size ≤ p.b) (hpre : ∀ o ck, ofL pre o = some ck → H o = some ck) (cargs : Array Value) (hl : cargs.size = args.length)
    (ha : ∀ j (hj : j < args.length), VR H ps cx.M nb w args[j] (cargs.getD j undef)) :
    Calls P f cargs w fun e w' => e = .panicked ch ∧ Mv cx H ps nb w (lessH pre H) ps nb w' := by
  let M' : Nat → Prop := fun b => cx.M b ∨ (Live H ps b ∧ ¬ Live (ofL pre) ps b)
  have hlive : ∀ b, Live (ofL pre) ps b → Live H ps b := fun b ⟨o, ck, p, h1, h2, h3⟩ => ⟨o, ck, p, hpre o ck h1, h2, h3⟩
  have hmu : ∀ b, Mu (ofL pre) ps M' b ↔ Mu H ps cx.M b := by
    intro b
    constructor
    · rintro ((h | h) | h)
      · exact .inl h
      · exact .inr h.1
      · exact .inr (hlive b h)
    · rintro (h | h)
      · exact .inl (.inl h)
      · by_cases h' : Live (ofL pre) ps b
        · exact .inr h'
        · exact .inl (.inr ⟨h, h'⟩)
  have kp0 : Kp H ps cx.M nb w (ofL pre) ps M' nb w :=
    ⟨Nat.le_refl _, fun o _ ck' hk => ⟨ck', hpre o ck' hk, .inr ⟨rfl, rfl, Nat.le_refl _, rfl⟩⟩, fun b hb => .inl ((hmu b).1 hb), fun _ _ _ => rfl⟩
  have hr0 : HR (ofL pre) ps M' nb w := by
    refine ⟨fun o ck ho => hr.lt o ck (hpre o ck ho), fun o ck ho => (hr.cr o ck (hpre o ck ho)).mono kp0 rfl fun _ _ => rfl, fun o o' ck ck' p p' h1 h2 => hr.inj o o' ck ck' p p' (hpre _ _ h1) (hpre _ _ h2), ?_, ?_⟩
    · rintro b (hb | ⟨⟨o, ck, p, h1, h2, h3⟩, _⟩)
      · exact hr.ml b hb
      · rw [← h3]; exact hr.live_lt h1 h2
    · intro o ck p h1 h2 hM
      rcases hM with hM | ⟨_, hM⟩
      · exact hr.dj o ck p (hpre o ck h1) h2 hM
      · exact hM ⟨o, ck, p, h1, h2, rfl⟩
  refine (h.run M' ps w cargs hr0 hl (fun j hj => (ha j hj).mono kp0) (hg.of fr fun b ⟨o, ck, p, h1, h2, h3⟩ => h3 ▸ lb o ck p (hpre o ck h1) h2)).mono ?_
  rintro e w' ⟨rfl, fr'⟩
  have kp : Kp H ps cx.M nb w (lessH pre H) ps cx.M nb w' :=
    ⟨Nat.le_refl _, fun o ho ck' hk => ⟨ck', (lessH_in hk).2, .inr ⟨rfl, rfl, Nat.le_refl _, rfl⟩⟩, fun b hb => .inl (hb.elim .inl fun ⟨o, ck, p, h1, h2, h3⟩ => .inr ⟨o, ck, p, (lessH_in h1).2, h2, h3⟩), fun b hb hm => fr'.block b hb fun hl => hm (.inr (hlive b hl))⟩
  have keep : ∀ o ck p, lessH pre H o = some ck → ps o = some p → w'.heap[p.b]? = w.heap[p.b]? := fun o ck p h1 h2 => by
    obtain ⟨g1, g2⟩ := lessH_in h1
    refine fr'.block p.b (hr.live_lt g2 h2) ?_
    rintro ⟨o', ck', p', k1, k2, k3⟩
    have := hr.inj o' o ck' ck p' p (hpre _ _ k1) g2 k2 h2 k3
    subst this; rw [g1] at k1; cases k1
  refine ⟨rfl, kp, ⟨fun o ck hk => hr.lt o ck (lessH_in hk).2, fun o ck hk => (hr.cr o ck (lessH_in hk).2).mono kp rfl (fun p hp => keep o ck p hk hp), fun o o' c c' p p' h1 h2 => hr.inj o o' c c' p p' (lessH_in h1).2 (lessH_in h2).2, fun b hb => Nat.lt_of_lt_of_le (hr.ml b hb) fr'.size, fun o ck p h1 => hr.dj o ck p (lessH_in h1).2⟩, ⟨fr'.os.trans fr.os, fr'.tape.trans fr.tape, fr'.output.trans fr.output, Nat.le_trans fr.size fr'.size, fun b hb hB => ?_⟩, fun o ck p h1 => lb o ck p (lessH_in h1).2⟩
  rw [fr'.block b (Nat.lt_of_lt_of_le hb fr.size) ?_]
  · exact fr.block b hb hB
  · rintro ⟨o, ck, p, k1, k2, k3⟩
    rcases lb o ck p (hpre o ck k1) k2 with q | q
    · exact hB (k3 ▸ q)
    · omega

theorem CallPan.rename {P : Program} {ch : List PanicEntry} {f : FuncId} {args args' : List DV} {pre pre' : Cks} {p nb : Nat} {r γ : Nat → Nat} (h : CallPan P ch f args pre p)
    (hinj : ∀ i j, i < p → j < p → r i = r j → i = j) (hpre : Moved r γ p pre' pre) (ha : Both (Rn r γ p) args' args) :
    CallPan P ch f args' pre' nb := by
  refine ⟨h.fn, fun M ps w cargs hR hsz hva hgl => ?_⟩
  let ps1 : Ps := fun j => ps (r j)
  have live1 : ∀ b, Live (ofL pre) ps1 b → Live (ofL pre') ps b := by
    rintro b ⟨j, ck, p1, h1, h2, h3⟩
    obtain ⟨_, ck', h4, _⟩ := hpre.to j ck h1
    exact ⟨r j, ck', p1, h4, h2, h3⟩
  have mu1 : ∀ b, Mu (ofL pre) ps1 M b → Mu (ofL pre') ps M b := fun b hb => hb.elim .inl fun h => .inr (live1 b h)
  have dn : ∀ i ck, i < p → ofL pre i = some ck → ∃ c2, ofL pre' (r i) = some c2 ∧ c2.gen = ck.gen + γ i ∧ ck.sz = c2.sz ∧ ck.xs.length = c2.xs.length ∧ ps1 i = ps (r i) := fun i ck hi hk => by
    obtain ⟨_, c2, k1, k2⟩ := hpre.to i ck hk
    exact ⟨c2, k1, k2.g, k2.s, k2.l, rfl⟩
  have hR1 : HR (ofL pre) ps1 M p w := by
    refine ⟨fun j ck hj => (hpre.to j ck hj).1, fun j ck hj => ?_, fun i j ci cj pi pj h1 h2 h3 h4 h5 => ?_, hR.ml, fun j ck p1 h1 h2 => ?_⟩
    · obtain ⟨_, ck', h1, h2⟩ := hpre.to j ck hj
      rcases hR.cr _ ck' h1 with ⟨g1, g2⟩ | ⟨p1, c, E, vs, g1, g2, g3, g4, g5, g6, g7⟩
      · exact .inl ⟨g1, List.eq_nil_of_length_eq_zero (by rw [h2.l, g2]; rfl)⟩
      · refine .inr ⟨p1, c, E, vs, g1, g2, g3, fun i hi => ?_, by rw [h2.l, h2.s]; exact g5, fun i j hi hj => by rw [h2.s] at hj ⊢; exact g6 i j (by rw [← h2.l]; exact hi) hj, fun i k hi hk => ?_⟩
        · rw [(h2.r i hi (by rw [← h2.l]; exact hi)).1, h2.s]; exact g4 i _
        · have q3 := h2.r i hi (by rw [← h2.l]; exact hi)
          obtain ⟨e, w1, w2⟩ := q3.2 k hk (by rw [← q3.1]; exact hk)
          exact w2.down mu1 dn (Nat.le_refl _) (w1 _ _ _ _ _ _ (g7 i k _ _))
    · obtain ⟨hi, c1, k1, _⟩ := hpre.to i ci h1
      obtain ⟨hj, c2, k2, _⟩ := hpre.to j cj h2
      exact hinj i j (by omega) (by omega) (hR.inj _ _ c1 c2 pi pj k1 k2 h3 h4 h5)
    · obtain ⟨_, c1, k1, _⟩ := hpre.to j ck h1
      exact hR.dj _ c1 p1 k1 h2
  have hva1 : ∀ j (hj : j < args.length), VR (ofL pre) ps1 M p w args[j] (cargs.getD j undef) := fun j hj => by
    have hj' : j < args'.length := by rw [ha.1]; exact hj
    exact (ha.2 j hj' hj).down mu1 dn (Nat.le_refl _) (hva j hj')
  refine (h.run M ps1 w cargs hR1 (by rw [hsz, ha.1]) hva1 (hgl.less live1)).mono ?_
  rintro e w' ⟨rfl, g3⟩
  exact ⟨rfl, g3.os, g3.tape, g3.output, g3.size, fun b hb hl => g3.block b hb fun hl' => hl (live1 b hl')⟩

/-! ### One operation, and a region -/
def StpPan (P : Program) (ch : List PanicEntry) (i : RI) (s s' : St) : Prop := i.gd = none ∧ ∃ f xs fn caps pre, i.op = .call f xs ∧ un true (f.get s.T) = .fn fn caps ∧ CallPan P ch fn (xs.map (fun x => un true (x.get s.T)) ++ caps) pre s.nx ∧ (∀ o ck, ofL pre o = some ck → s.H o = some ck) ∧ s' = ⟨s.T, lessH pre s.H, s.nx⟩

section
variable {P : Program} {cx : Cx} {ops : Array Oper} {Q : Exit → Act → World → Prop} {ch : List PanicEntry}
theorem pan_sound (hg0 : GlOK P cx.w0 cx.B) {ow : Nat → Bool} {o : Oper} {i : RI} {idx : Nat} {s s' : St} {ps : Ps} {a : Act} {w : World} (ho : ops[idx]? = some o) (hi : rI P cx.nt ow ops o = some i) (R : RS cx s ps a w) (h : StpPan P ch i s s')
    (K : Act → World → Prop) (hQ : ∀ w', RS cx s' ps a w' → Q (.panic ch) a w') {n : Nat} : wpOpIn (FR cx.ro) n P ops Q idx K a w := by
  obtain ⟨hdst, ⟨ow', hrop⟩, hd0, hg⟩ := rI_parts hi
  have toIn : ∀ {a : Act} {w : World} {K : Act → World → Prop}, o.wp P a w K Q → o.wpIn (FR cx.ro) n P a w K Q := fun h => h.toIn fun c hc => by rw [hc] at hrop; simp [rop] at hrop
  obtain ⟨hgd, f, xs, fn, caps, pre, hop0, hf, hcall, hpre, rfl⟩ := h
  unfold wpOpIn
  rw [ho]
  simp only
  rcases hg with ⟨g1, g2⟩ | ⟨j, wn, t, g1, g2, g3⟩
  · have hw : Region.wanted o (yielded ops a.tmps) = true := by simp [Region.wanted, g1]
    rw [if_pos hw]
    refine toIn ?_
    rw [hop0] at hrop
    have hcall' : ∃ c, o.op = .call c ∧ ∃ fo, c.callee = .value fo ∧ ro fo = some f ∧ ros c.args.toList = some xs := by
      obtain ⟨dst, op, type, pos, after, guard⟩ := o
      simp only at hrop ⊢
      cases op with
      | call c =>
        obtain ⟨callee, args, argTypes⟩ := c
        cases callee with
        | value fo =>
          simp only [rop] at hrop
          split at hrop
          · rename_i f' xs' h1 h2
            injection hrop with hrop; injection hrop with e1 e2; subst e1; subst e2
            exact ⟨_, rfl, fo, rfl, h1, h2⟩
          · cases hrop
        | invoke r m => simp [rop] at hrop
        | builtin b =>
          cases b <;> simp only [rop] at hrop <;> (try cases hrop; done)
          all_goals (exfalso; revert hrop; (repeat' split) <;> simp)
      | makeFunc fn first captured =>
        exfalso
        cases fn <;> simp only [rop] at hrop <;> (try cases hrop; done)
        revert hrop; split <;> simp
      | slice t x lo hi mx =>
        exfalso
        cases mx <;> simp only [rop] at hrop <;> (try cases hrop; done)
        revert hrop; (repeat' split) <;> simp
      | _ =>
        exfalso
        simp only [rop] at hrop
        revert hrop
        (repeat' split) <;> simp
    obtain ⟨c, hop, fo, hcl, hfo, hxs⟩ := hcall'
    have hfv := R.pre.ro hfo
    rw [hf] at hfv
    obtain ⟨cv, hfe, hcl', hcv⟩ := hfv.fn_inv
    obtain ⟨r1, r2⟩ := ros_sound (a := a) (cx := cx) rfl R.t c.args.toList xs hxs
    obtain ⟨gn, hgn, hname, hbody⟩ := hcall.fn
    let cargs : Array Value := c.args.map a.eval ++ cv
    have hsz : cargs.size = (xs.map (fun x => un true (x.get s.T)) ++ caps).length := by
      simp [cargs, r1, hcl']
    have hva : ∀ j (hj : j < (xs.map (fun x => un true (x.get s.T)) ++ caps).length), VR s.H ps cx.M s.nx w (xs.map (fun x => un true (x.get s.T)) ++ caps)[j] (cargs.getD j undef) := by
      intro j hj
      by_cases hlt : j < xs.length
      · have hjc : j < c.args.size := by simpa [r1] using hlt
        have e1 : cargs.getD j undef = a.eval c.args[j] := by
          simp [cargs, Array.getD_eq_getD_getElem?, Array.getElem?_append, hjc]
        rw [e1, List.getElem_append_left (by simpa using hlt)]
        have := r2 j hlt (by simpa using hjc)
        simpa using this
      · have hjc : ¬ j < c.args.size := by simpa [r1] using hlt
        have hj2 : j - xs.length < caps.length := by simp at hj; omega
        have hxc : xs.length = c.args.size := by simpa using r1
        have e1 : cargs.getD j undef = cv.getD (j - xs.length) undef := by
          simp [cargs, Array.getD_eq_getD_getElem?, Array.getElem?_append, hjc, hxc]
        rw [e1, List.getElem_append_right (by simp; omega)]
        have := hcv (j - xs.length) hj2
        simpa using this
    have hcalls := hcall.calls hg0 R.hr R.fr R.lb hpre cargs hsz hva
    have hrun : (execOp a.eval o).run P w = .ok (.enter fn cargs) w := by
      have hbn : gn.body.isNone = false := hbody
      simp only [execOp, hop, resolve, hcl, hfe, Deferred.ofValue, Sem.run_bind, Sem.run_pure, Result.andThen_ok, invoke, callFunc, run_program, hgn]
      rw [if_neg (by simp [hname]), if_neg (by simp [hbn])]
      simp [cargs]
    unfold Oper.wp
    rw [hrun]
    show Calls P fn cargs w _
    refine hcalls.mono ?_
    rintro en w' ⟨rfl, hm⟩
    have := R.step (dst := none) hm (.any undef) (fun d h => by cases h)
    exact hQ w' this
  · rw [g3] at hgd; cases hgd

theorem textP (hg0 : GlOK P cx.w0 cx.B) {n : Nat} {ow : Nat → Bool} {ris : List RI} {Pn : St → Prop} (hris : rIs P cx.nt ow ops ops.toList = some ris) (hz : ∀ k (hk : k < ris.length), ∀ d, ris[k].dst = some d → cx.fz d = none) (fin : ∀ s ps a w, Pn s → RS cx s ps a w → Q (.panic ch) a w) (i : RI) (l2 : List RI) :
    ∀ (l : List RI) (lg : Lg) (k : Nat) (s : St), ris.drop k = l ++ i :: l2 → k + (l.length + (1 + l2.length)) = ris.length → runX P l lg s (fun _ s1 => ∃ s', StpPan P ch i s1 s' ∧ Pn s') → ∀ ps a w, RS cx s ps a w → wpOpsIn (FR cx.ro) n P ops Q (List.range' k (l.length + (1 + l2.length))) a w
  | [], lg, k, s, hl, hk, h, ps, a, w, R => by
    obtain ⟨s', h1, h2⟩ := h
    obtain ⟨hlen, hr⟩ := rIs_parts hris
    have hk1 : k < ris.length := by omega
    have hk2 : k < ops.toList.length := by omega
    have ho : ops[k]? = some ops.toList[k] := by
      have hk3 : k < ops.size := by simpa using hk2
      simp [hk3]
    have hi : ris[k] = i := by
      have := List.getElem_drop (xs := ris) (i := k) (j := 0) (h := by rw [hl]; simp)
      simp only [hl, List.nil_append, List.getElem_cons_zero, Nat.add_zero] at this
      exact this.symm
    rw [show ([] : List RI).length + (1 + l2.length) = l2.length + 1 by simp; omega, List.range'_succ, wpOpsIn_cons]
    exact pan_sound hg0 ho (hi ▸ hr k hk2 hk1) R h1 _ fun w' R' => fin s' ps a w' h2 R'
  | j :: l, lg, k, s, hl, hk, h, ps, a, w, R => by
    obtain ⟨hlen, hr⟩ := rIs_parts hris
    obtain ⟨e, h1, h2⟩ := h
    simp only [List.length_cons] at hk ⊢
    rw [show l.length + 1 + (1 + l2.length) = (l.length + (1 + l2.length)) + 1 by omega, List.range'_succ, wpOpsIn_cons]
    have hk1 : k < ris.length := by omega
    have hk2 : k < ops.toList.length := by omega
    have ho : ops[k]? = some ops.toList[k] := by
      have hk3 : k < ops.size := by simpa using hk2
      simp [hk3]
    have hi : ris[k] = j := by
      have := List.getElem_drop (xs := ris) (i := k) (j := 0) (h := by rw [hl]; simp)
      simp only [hl, List.cons_append, List.getElem_cons_zero, Nat.add_zero] at this
      exact this.symm
    refine stp_sound hg0 ho (hi ▸ hr k hk2 hk1) R h1 (hi ▸ hz k hk1) _ fun ps2 a2 w2 R2 => ?_
    refine textP hg0 hris hz fin i l2 l _ (k + 1) _ ?_ (by omega) h2 ps2 a2 w2 R2
    rw [← List.drop_drop, hl]; rfl
end

section
variable {P : Program} {cx : Cx} {ow : Nat → Bool} {ch : List PanicEntry} {Q : Exit → St → Prop} {s : St}
theorem AWP.rgP {l : List RI} {i : RI} {l2 : List RI} (h : runX P l [] s fun _ s1 => ∃ s', StpPan P ch i s1 s' ∧ Q (.panic ch) s') : AWP P cx ow (.rg (l ++ i :: l2) none) Q s := fun hm c hc hz ps a w R => by
  cases c with
  | region id ops draw =>
    simp only [comp] at hc
    split at hc
    · rename_i ris' h1
      split at hc
      · split at hc
        · injection hc with hc; injection hc with e1 e2; cases e2
        · cases hc
      · rename_i hd
        injection hc with hc; injection hc with e1 e2; subst e1
        have hdf : draw = false := by simpa using hd
        subst hdf
        obtain ⟨hl, _⟩ := rIs_parts h1
        refine wpIn_region ?_
        have hn : (l ++ i :: l2).length = ops.size := by simpa using hl
        rw [List.range_eq_range', ← hn, show (l ++ i :: l2).length = l.length + (1 + l2.length) by simp; omega]
        exact textP hm.g h1 hz (fun s' ps' a' w' q R' => ⟨s', ps', R', q⟩) i l2 l [] 0 s (by simp) (by simp; omega) h ps a w R
    · cases hc
  | _ => exfalso; simp only [comp] at hc; revert hc; (repeat' split) <;> simp
end
theorem runX_or {P : Program} : ∀ (l : List RI) (lg : Lg) (s : St) (A B : Lg → St → Prop), runX P l lg s (fun lg s => A lg s ∨ B lg s) → runX P l lg s A ∨ runX P l lg s B
  | [], lg, s, A, B, h => h
  | i :: l, lg, s, A, B, h => by
    obtain ⟨e, h1, h2⟩ := h
    rcases runX_or l _ _ A B h2 with h2 | h2
    · exact .inl ⟨e, h1, h2⟩
    · exact .inr ⟨e, h1, h2⟩
theorem runX_app {P : Program} : ∀ (l r : List RI) (lg : Lg) (s : St) (K : Lg → St → Prop), runX P l lg s (fun lg' s' => runX P r lg' s' K) → runX P (l ++ r) lg s K
  | [], r, lg, s, K, h => h
  | i :: l, r, lg, s, K, h => by
    obtain ⟨e, h1, h2⟩ := h
    exact ⟨e, h1, runX_app l r _ _ K h2⟩

/-! ### Code that may end by a panic -/
abbrev PEnt : Type 1 := {R : Type} → List IV → IH → (List Nat → Option R) → Option R → Option R
def PEntOK (P : Program) (ch : List PanicEntry) (f : FuncId) (E : PEnt) : Prop := ∀ (R : Type) (args : List IV) (HI : IH) (yes : List Nat → Option R) (no : Option R) (r : R), E args HI yes no = some r → no = some r ∨ ∃ os, yes os = some r ∧
  ∀ (dargs : List DV) (H : Hp) (nx : Nat), Rels H nx args dargs → HRel HI H nx → HI.length = nx → ∃ pre, CallPan P ch f dargs pre nx ∧ ∀ o ck, ofL pre o = some ck → H o = some ck ∧ o ∈ os
def PEnvOK (P : Program) (ch : List PanicEntry) (penv : List (Nat × PEnt)) : Prop := ∀ x, x ∈ penv → PEntOK P ch x.1 x.2
theorem PEnvOK.nil {P : Program} {ch : List PanicEntry} : PEnvOK P ch [] := fun x h => by cases h
theorem PEnvOK.cons {P : Program} {ch : List PanicEntry} {f : Nat} {E : PEnt} {env : List (Nat × PEnt)} (h : PEntOK P ch f E) (k : PEnvOK P ch env) : PEnvOK P ch ((f, E) :: env) := fun x hx => by
  rcases List.mem_cons.1 hx with rfl | hx
  · exact h
  · exact k x hx
def pcallE {R : Type} : List (Nat × PEnt) → Nat → List IV → IH → (List Nat → Option R) → Option R → Option R
  | [], _, _, _, _, no => no
  | (g, E) :: r, f, args, H, yes, no => brB (Nat.beq g f) (E args H yes no) (pcallE r f args H yes no)
theorem pcallE_sound {P : Program} {ch : List PanicEntry} {R : Type} : ∀ {penv : List (Nat × PEnt)} (hE : PEnvOK P ch penv) {f : Nat} {args : List IV} {HI : IH} {yes : List Nat → Option R} {no : Option R} {r : R}, pcallE penv f args HI yes no = some r → no = some r ∨ ∃ os, yes os = some r ∧
    ∀ (dargs : List DV) (H : Hp) (nx : Nat), Rels H nx args dargs → HRel HI H nx → HI.length = nx → ∃ pre, CallPan P ch f dargs pre nx ∧ ∀ o ck, ofL pre o = some ck → H o = some ck ∧ o ∈ os
  | [], hE, f, args, HI, yes, no, r, h => .inl h
  | (g, E) :: l, hE, f, args, HI, yes, no, r, h => by
    simp only [pcallE] at h
    cases hb : Nat.beq g f with
    | true =>
      rw [hb] at h
      have := Nat.eq_of_beq_eq_true hb
      subst this
      exact hE (g, E) (by simp) _ _ _ _ _ _ h
    | false =>
      rw [hb] at h
      exact pcallE_sound (fun x hx => hE x (List.mem_cons_of_mem _ hx)) h

inductive TP where
  | tc (c : TC)
  | seq (a b : TP)
  | cond (c : RO) (a b : TP)
  | block (id : Nat) (c : TP)
  | pre (ns : List NS) (c : TP)
  | join (ns : List NS) (c : TP)
  | pcall (l : List TI) (i : TI) (l2 : List TI)
def TP.er : TP → AC
  | .tc c => c.er
  | .seq a b => .seq a.er b.er
  | .cond c a b => .cond c a.er b.er
  | .block id c => .block id c.er
  | .pre _ c => c.er
  | .join _ c => c.er
  | .pcall l i l2 => .rg (l.map (·.ri) ++ i.ri :: l2.map (·.ri)) none
def TP.hok (P : Program) (nt : Nat) (ow : Nat → Bool) (inr : Bool) : TP → Prop
  | .tc c => c.hok P nt ow inr
  | .seq a b => a.hok P nt ow inr ∧ b.hok P nt ow inr
  | .cond _ a b => a.hok P nt ow inr ∧ b.hok P nt ow inr
  | .block _ c => c.hok P nt ow inr
  | .pre _ c => c.hok P nt ow inr
  | .join _ c => c.hok P nt ow inr
  | .pcall _ _ _ => True
def TP.noh : TP → Bool
  | .tc c => c.noh
  | .seq a b => a.noh && b.noh
  | .cond _ a b => a.noh && b.noh
  | .block _ c => c.noh
  | .pre _ c => c.noh
  | .join _ c => c.noh
  | .pcall _ _ _ => true
theorem TP.noh_ok {P : Program} {nt : Nat} {ow : Nat → Bool} {inr : Bool} : ∀ {tc : TP}, tc.noh = true → tc.hok P nt ow inr
  | .tc c, h => TC.noh_ok (tc := c) h
  | .seq a b, h => by simp only [TP.noh, Bool.and_eq_true] at h; exact ⟨TP.noh_ok h.1, TP.noh_ok h.2⟩
  | .cond _ a b, h => by simp only [TP.noh, Bool.and_eq_true] at h; exact ⟨TP.noh_ok h.1, TP.noh_ok h.2⟩
  | .block _ c, h => TP.noh_ok (tc := c) h
  | .pre _ c, h => TP.noh_ok (tc := c) h
  | .join _ c, h => TP.noh_ok (tc := c) h
  | .pcall _ _ _, h => trivial

section run
variable {R : Type}
def opP (penv : List (Nat × PEnt)) (T : List (Nat × IV)) (H : IH) (yes : List Nat → Option R) (no : Option R) : RI → Option R
  | ⟨_, .call f xs, none⟩ => match getO T f with
    | .fn id caps => pcallE penv id (xs.map (getO T) ++ caps) H yes no
    | _ => none
  | _ => none
def runP (penv : List (Nat × PEnt)) (env : List (Nat × Ent)) (N nb : Nat) (kp : IH → Option R) : TP → SI → (Exit → SI → Option R) → Option R
  | .tc c, s, k => run env N nb c s k
  | .seq a b, s, k => runP penv env N nb kp a s (seqK (runP penv env N nb kp b) k)
  | .cond c a b, s, k => match getO s.T c with
    | .bool q => brB q (runP penv env N nb kp a ⟨setO s.T c true, s.H⟩ k) (runP penv env N nb kp b ⟨setO s.T c false, s.H⟩ k)
    | _ => none
  | .block id c, s, k => runP penv env N nb kp c s (blkK id k)
  | .pre ns c, s, k => preK (normI nb ns s) fun s' => runP penv env N nb kp c s' k
  | .join ns c, s, k => preK (normI nb ns s) fun s' => joinN (runP penv env N nb kp c) N s' k
  | .pcall l i l2, s, k => runOps env l s.T s.H [] fun T H lg => opP penv T H (fun os => kp (delHs os H)) (runOps env (i :: l2) T H lg (rgK none s.H.length k)) i.ri
end run

section sound
variable {R : Type} {P : Program} {cx : Cx} {ow : Nat → Bool} {r : R} {env : List (Nat × Ent)} {penv : List (Nat × PEnt)} {ch : List PanicEntry} {kp : IH → Option R}

def FinP (ch : List PanicEntry) (kp : IH → Option R) (k : Exit → SI → Option R) (r : R) : Exit → St → Prop := fun e s' => (∃ si', SR si' s' ∧ k e si' = some r) ∨ (e = .panic ch ∧ ∃ HI, HRel HI s'.H s'.nx ∧ HI.length = s'.nx ∧ kp HI = some r)

theorem less_rel {HI : IH} {H : Hp} {nx : Nat} (h : HRel HI H nx) {pre : Cks} {os : List Nat} (hp : ∀ o ck, ofL pre o = some ck → H o = some ck ∧ o ∈ os) : HRel (delHs os HI) (lessH pre H) nx := fun o c hc => by
  obtain ⟨g1, g2⟩ := delHs_get os HI o
  by_cases ho : o ∈ os
  · rw [g1 ho] at hc; cases hc
  · rw [g2 ho] at hc
    obtain ⟨q1, ck, q2, q3⟩ := h o c hc
    have hn : ofL pre o = none := by
      cases hq : ofL pre o with
      | none => rfl
      | some ck => exact absurd (hp o ck hq).2 ho
    exact ⟨q1, ck, by rw [lessH_out hn]; exact q2, q3.same ⟨Nat.le_refl _, fun o ck' _ hk => ⟨ck', (lessH_in hk).2, rfl, rfl⟩⟩⟩

theorem runP_sound (hE : EnvOK P env) (hP : PEnvOK P ch penv) (N : Nat) : ∀ (tc : TP) (cx : Cx) (hh : tc.hok P cx.nt ow cx.ro.isSome) (si : SI) (k : Exit → SI → Option R) (s : St), SR si s → runP penv env N cx.nb kp tc si k = some r → AWP P cx ow tc.er (FinP ch kp k r) s
  | .tc c, cx, hh, si, k, s, hs, h => (run_sound hE N c cx hh si k s hs h).mono fun e s' q => .inl q
  | .seq a b, cx, hh, si, k, s, hs, h => by
    simp only [runP] at h
    refine AWP.seq ((runP_sound hE hP N a cx hh.1 si _ s hs h).mono ?_)
    rintro e s' (⟨si', h1, h2⟩ | ⟨rfl, h1⟩)
    · cases e with
      | normal => exact runP_sound hE hP N b cx hh.2 si' k s' h1 h2
      | _ => exact .inl ⟨si', h1, h2⟩
    · exact .inr ⟨rfl, h1⟩
  | .cond c a b, cx, hh, si, k, s, hs, h => by
    simp only [runP] at h
    split at h
    · rename_i q hq
      have hc := getO_rel hs.t c
      rw [hq] at hc
      have hcv : c.get s.T = .v (.bool q) := by
        cases c with
        | t n =>
          have h2 := hs.t n
          simp only [getO] at hq
          rw [hq] at h2
          simp only [RO.get]
          rw [h2.bool_inv]
        | c d =>
          simp only [getO] at hq
          have h2 := ofD_rel (H := s.H) (nx := s.nx) d
          rw [hq] at h2
          simp only [RO.get]
          rw [h2.bool_inv]
      have ref : ∀ b : Bool, b = q → SR ⟨setO si.T c b, si.H⟩ s := by
        intro b hb
        subst hb
        refine ⟨fun t => ?_, hs.h, hs.n⟩
        cases c with
        | c d => exact hs.t t
        | t n =>
          simp only [setO, getT]
          cases hbq : Nat.beq n t with
          | false => exact hs.t t
          | true =>
            rw [← Nat.eq_of_beq_eq_true hbq]
            have := hs.t n
            simp only [getO] at hq
            rw [hq] at this
            exact this
      refine AWP.cond hcv (fun e => ?_) (fun e => ?_)
      · subst e; exact runP_sound hE hP N a cx hh.1 _ k s (ref true rfl) h
      · subst e; exact runP_sound hE hP N b cx hh.2 _ k s (ref false rfl) h
    · cases h
  | .block id c, cx, hh, si, k, s, hs, h => by
    simp only [runP] at h
    refine AWP.block ((runP_sound hE hP N c cx hh si _ s hs h).mono ?_)
    rintro e s' (⟨si', h1, h2⟩ | ⟨rfl, h1⟩)
    · cases e with
      | exit id' =>
        simp only [blkK] at h2
        simp only [inQ]
        cases hb : Nat.beq id' id with
        | true => rw [hb] at h2; rw [if_pos (Nat.eq_of_beq_eq_true hb)]; exact .inl ⟨si', h1, h2⟩
        | false => rw [hb] at h2; rw [if_neg (nbeq_ne hb)]; exact .inl ⟨si', h1, h2⟩
      | _ => exact .inl ⟨si', h1, h2⟩
    · exact .inr ⟨rfl, h1⟩
  | .pre ns c, cx, hh, si, k, s, hs, h => by
    simp only [runP] at h
    refine AWP.nbx fun hnb => ?_
    cases hg : normI cx.nb ns si with
    | none => simp [hg, preK] at h
    | some si2 =>
      rw [hg] at h
      obtain ⟨s2, w2, r2, _⟩ := normI_sound ns hs hnb hg
      exact AWP.wk w2 (runP_sound hE hP N c cx hh si2 k s2 r2 h)
  | .join ns c, cx, hh, si, k, s, hs, h => by
    simp only [runP] at h
    refine AWP.nbx fun hnb => ?_
    cases hg : normI cx.nb ns si with
    | none => simp [hg, preK] at h
    | some si2 =>
      rw [hg] at h
      obtain ⟨s2, w2, r2, _⟩ := normI_sound ns hs hnb hg
      cases N with
      | zero => simp [preK, joinN] at h
      | succ n => exact AWP.wk w2 (runP_sound hE hP (n + 1) c cx hh si2 k s2 r2 h)
  | .pcall l i l2, cx, hh, si, k, s, hs, h => by
    simp only [runP] at h
    have h1 := runOps_sound hE l si.T si.H [] _ s hs h
    have h2 : runX P (l.map (·.ri)) [] s (fun lg s1 => (runX P (i.ri :: l2.map (·.ri)) lg s1 fun _ s' => FinP ch kp k r .normal s') ∨ ∃ s', StpPan P ch i.ri s1 s' ∧ FinP ch kp k r (.panic ch) s') := by
      refine runX_mono _ _ _ _ _ ?_ h1
      rintro lg s1 ⟨T', H', r1, r2⟩
      obtain ⟨⟨dst, op, gd⟩, an⟩ := i
      unfold opP at r2
      split at r2
      · rename_i f xs he
        simp only [RI.mk.injEq] at he
        obtain ⟨rfl, rfl, rfl⟩ := he
        split at r2
        · rename_i id caps hfv
          rcases pcallE_sound hP r2 with r3 | ⟨os, r3, r4⟩
          · refine .inl ?_
            have := runOps_sound hE _ _ _ _ _ s1 r1 r3
            refine runX_mono _ _ _ _ _ ?_ this
            rintro lg' s' ⟨T2, H2, q1, q2⟩
            exact .inl ⟨⟨T2, H2⟩, q1, q2⟩
          · refine .inr ?_
            have hf := getO_rel r1.t f
            rw [hfv] at hf
            obtain ⟨dc, hfd, hcaps⟩ := hf.fn_inv
            have hargs : Rels s1.H s1.nx (xs.map (getO T') ++ caps) (xs.map (fun x => un true (x.get s1.T)) ++ dc) := (Both.of_map xs fun x => getO_rel r1.t x).append hcaps
            obtain ⟨pre, p1, p2⟩ := r4 _ s1.H s1.nx hargs r1.h r1.n
            exact ⟨⟨s1.T, lessH pre s1.H, s1.nx⟩, ⟨rfl, f, xs, id, dc, pre, rfl, hfd, p1, fun o ck ho => (p2 o ck ho).1, rfl⟩, .inr ⟨rfl, _, less_rel r1.h p2, by rw [delHs_len]; exact r1.n, r3⟩⟩
        · cases r2
      · cases r2
    rcases runX_or _ _ _ _ _ h2 with h3 | h3
    · refine AWP.rgX ?_
      exact runX_app _ _ _ _ _ h3
    · exact AWP.rgP h3
end sound

/-! ### Entries -/
def isPan {α : Type} : Option (Option α) → Bool
  | some none => true
  | _ => false
def joinP {α : Type} : Option (Option α) → Option α
  | some x => x
  | none => none
def panE (pk : List (Option (Nat × Nat))) (ks : List AK) {α : Type} (model : Els (AK.tys ks) → Option (Option α)) : PEnt := fun args H yes no => match unpackI pk args with
  | some vs => match readA ks vs H with
    | some (x, os, as) => brB (nodupB os) (brB (isPan (model x)) (yes os) no) no
    | none => no
  | none => no
/-- Panics of a function that turns boxes. -/
def PanOK (P : Program) (ch : List PanicEntry) (f : FuncId) (pk : List (Option (Nat × Nat))) (ks : List AK) {α : Type} (model : Els (AK.tys ks) → Option (Option α)) : Prop := ∀ x, model x = some none →
  CallPan P ch f (packD pk (argsD id g0 ks x 0)) (boxC id g0 (outs ks) (inB' ks x) 0) (nbs (outs ks))

theorem panE_ok {P : Program} {ch : List PanicEntry} {f : FuncId} {pk : List (Option (Nat × Nat))} {ks : List AK} {α : Type} {model : Els (AK.tys ks) → Option (Option α)} (h : PanOK P ch f pk ks model) : PEntOK P ch f (panE pk ks model) := by
  intro R args HI yes no r hr
  simp only [panE] at hr
  split at hr
  · rename_i vs hun
    split at hr
    · rename_i x os as hx
      cases hnd : nodupB os with
      | false => rw [hnd] at hr; exact .inl hr
      | true =>
        rw [hnd] at hr
        have hr : brB (isPan (model x)) (yes os) no = some r := hr
        cases hp : isPan (model x) with
        | false => rw [hp] at hr; exact .inl hr
        | true =>
          rw [hp] at hr
          have hmx : model x = some none := by
            unfold isPan at hp
            split at hp
            · assumption
            · cases hp
          refine .inr ⟨os, hr, fun dargs H nx ha hH hn => ?_⟩
          obtain ⟨dvs, hvs, rfl⟩ := unpack_rel pk args vs dargs hun ha
          generalize hpp : nbs (outs ks) = p
          let ρ : Nat → Nat := fun j => os.getD j 0
          let γ : Nat → Nat := fun j => ((H (os.getD j 0)).map (·.gen)).getD 0
          have key0 : ∀ (k o : Nat), os[k]? = some o → ρ k = o ∧ γ k = ((H o).map (·.gen)).getD 0 := fun k o hk => by
            simp only [ρ, γ, List.getD_eq_getElem?_getD, hk, Option.getD_some, and_self]
          obtain ⟨hlen0, q2, q3, q4, q5⟩ := readA_at (ρ := ρ) (γ := γ) (q := p) hH ks vs x os as dvs 0 hx hvs (by omega) fun k o hk => by rw [Nat.zero_add]; exact key0 k o hk
          simp only [Nat.zero_add] at q3 q4 q5
          rw [hpp] at hlen0
          have h0 := h x hmx
          rw [hpp] at h0
          have osat : ∀ j, j < p → os[j]? = some (os.getD j 0) := fun j hj => by
            have : j < os.length := by rw [hlen0]; exact hj
            simp [List.getD_eq_getElem?_getD, List.getElem?_eq_getElem this]
          have hinj : ∀ i j, i < p → j < p → ρ i = ρ j → i = j := fun i j hi hj e => nodupB_inj' hnd i j _ (osat i hi) (by rw [osat j hj]; exact congrArg some e.symm)
          let pre := boxC id g0 (outs ks) (inB' ks x) 0
          let pre' : Cks := pre.map fun c => (ρ c.1, (H (ρ c.1)).getD ⟨0, 0, []⟩)
          have lpre : pre.length = p := by simp only [pre]; rw [boxC_len, hpp]
          have lepre : LE id g0 p pre pre 0 := boxC_le (outs ks) (inB' ks x) 0 (by omega)
          have at1 : ∀ j (hj : j < pre.length), ∃ ck : Ck, H (ρ j) = some ck ∧ ρ j < nx ∧ CkM ρ γ p (γ j) ck pre[j].2 := fun j hj => by
            obtain ⟨o, ck, a1, a2, a3, a4, a5⟩ := q3 j _ (List.getElem?_eq_getElem hj)
            obtain ⟨k1, k2⟩ := key0 j o a1
            have hγ : γ j = ck.gen := by rw [k2, a2]; rfl
            exact ⟨ck, by rw [k1]; exact a2, by rw [k1]; exact a3, by rw [hγ]; exact a4⟩
          have Kpre : Keyed pre p id (ckAt pre) := lepre.keyed lpre fun _ _ _ _ e => e
          have Kpre' : Keyed pre' p ρ (fun k => (H (ρ k)).getD ⟨0, 0, []⟩) := ⟨by simp [pre', lpre], fun k hk => by
            have hk' : k < pre.length := by simpa [pre'] using hk
            have e := (lepre.nth k hk' hk').1
            rw [Nat.zero_add] at e
            simp only [pre', List.getElem_map, e], hinj⟩
          have ren := CallPan.rename (r := ρ) (γ := γ) (nb := nx) (pre' := pre') (args' := packD pk (argsD ρ γ ks x 0)) h0 hinj
            ⟨fun j ck hj => by
              obtain ⟨k, hk, e, rfl⟩ := Kpre.mem hj
              simp only [id] at e; subst e
              have hk' : j < pre.length := by rw [lpre]; exact hk
              obtain ⟨ck', b1, b2, b3⟩ := at1 j hk'
              refine ⟨hk, ck', ?_, ?_⟩
              · have := Kpre'.get hk Hp.emp
                rw [b1] at this; exact this
              · have : ckAt pre j = pre[j].2 := by simp only [ckAt, List.getD_eq_getElem?_getD, List.getElem?_eq_getElem hk', Option.getD_some]
                rw [this]; exact b3,
            fun o ck' ho => by
              obtain ⟨k, hk, rfl, rfl⟩ := Kpre'.mem ho
              exact ⟨k, ckAt pre k, hk, rfl, Kpre.get hk Hp.emp⟩⟩ (pack_rn pk _ _ (argsD_rn ks x 0 (by omega)))
          refine ⟨pre', ren.weak (pack_wk pk _ _ q2), fun o ck ho => ?_⟩
          obtain ⟨k, hk, rfl, rfl⟩ := Kpre'.mem ho
          obtain ⟨ck, b3, _⟩ := at1 k (by rw [lpre]; exact hk)
          exact ⟨by rw [b3]; rfl, by have := osat k hk; exact List.mem_of_getElem? this⟩
    · exact .inl hr
  · exact .inl hr

theorem RS.leavesU {P : Program} {cx : Cx} {s : St} {ps : Ps} {F : Fence} {n : Nat} {fn : Func} {Rr : Ending → World → Prop} {tmps : Array Value} {u : FrameMode} (hdb : cx.db = []) (hu : u ≠ .run) : ∀ (ds : List Deferred) (w : World), RS cx s ps ⟨tmps, ds⟩ w →
    (∀ w2, RS cx s ps ⟨tmps, []⟩ w2 → LeavesInM F n P fn tmps Rr [] u w2) → LeavesInM F n P fn tmps Rr ds u w
  | [], w, R, k => k w R
  | d :: ds, w, R, k => by
    obtain ⟨D, w', h1, h2, h3⟩ := RS.unmark (P := P) hdb R rfl
    exact ⟨hu, .inl ⟨D, w', h1, h2, RS.leavesU hdb hu ds w' h3 k⟩⟩
/-- From a walk that ends by a panic to a call. -/
theorem CallPan.intro {P : Program} {ch : List PanicEntry} {f : FuncId} {fn : Func} {c : Code} {ac : AC} {ow : Nat → Bool} {args : List DV} {pre : Cks} {nb : Nat} (hm : P.follows .mixedOrders = true)
    (hf : P.funcs[f]? = some fn) (hname : (fn.name == "runtime.NumGoroutine") = false) (hb : fn.body = some c) (hc : comp P fn.ntmps ow c = some ac) (hlen : args.length ≤ fn.ntmps)
    (h : ∀ cx : Cx, cx.nt = fn.ntmps → cx.nb = nb → cx.ro = none → AWP P cx ow ac (fun e s' => e = .panic ch) ⟨ofArgs args, ofL pre, nb⟩) :
    CallPan P ch f args pre nb := by
  refine ⟨⟨fn, hf, hname, by rw [hb]; rfl⟩, fun M ps w cargs hr hsz hva hgl => ?_⟩
  let cx : Cx := ⟨fn.ntmps, M, Live (ofL pre) ps, w, ofL pre, ps, nb, none, fun _ => none, []⟩
  have R : RS cx ⟨ofArgs args, ofL pre, nb⟩ ps { tmps := cargs ++ Array.replicate (fn.ntmps - cargs.size) undef, defers := [] } w := by
    refine ⟨fun t => ?_, by simp [cx]; omega, hr, Fr.refl _ _, fun o ck p h1 h2 => .inl ⟨o, ck, p, h1, h2, rfl⟩, Marks.nil, Nat.le_refl _, fun o _ ck' hk => ⟨ck', hk, .inr ⟨rfl, rfl, Nat.le_refl _, rfl⟩⟩, fun t v h => by cases h⟩
    by_cases ht : t < args.length
    · have e1 : ofArgs args t = args[t] := by simp [ofArgs, List.getD, ht]
      have e2 : (cargs ++ Array.replicate (fn.ntmps - cargs.size) undef).getD t undef = cargs.getD t undef := by
        have : t < cargs.size := by omega
        simp [Array.getD_eq_getD_getElem?, Array.getElem?_append, this]
      show VR (ofL pre) ps M nb w (ofArgs args t) ((cargs ++ Array.replicate (fn.ntmps - cargs.size) undef).getD t undef)
      rw [e1, e2]; exact hva t ht
    · have e1 : ofArgs args t = .any := by simp [ofArgs, List.getD, List.getElem?_eq_none (Nat.le_of_not_lt ht)]
      show VR (ofL pre) ps M nb w (ofArgs args t) _
      rw [e1]; exact .any _
  refine (callsFR (ro := none) (n := 0)).1 (callsIn_of_wp_marks hf hb trivial (wpIn_mono (h cx rfl rfl rfl ⟨hm, hgl⟩ c hc ac.nofz_none ps _ w R) ?_))
  rintro e ⟨tmps, ds⟩ w' ⟨s', ps', R1, rfl⟩
  exact RS.leavesU (cx := cx) rfl (fun e => by cases e) ds w' R1 fun w2 R2 => ⟨rfl, R2.fr⟩

def mapS {α : Type} (k : Exit → SI → Option α) : Exit → SI → Option (Option α) := fun e s => (k e s).map some
def kpN {α : Type} : IH → Option (Option α) := fun _ => some none

theorem psfOK {P : Program} {f nt : Nat} {ow : Nat → Bool} {tp : TP} {rs : List RR} {env : List (Nat × Ent)} {penv : List (Nat × PEnt)} {ch : List PanicEntry} {N p q : Nat} {ns : List NS} {pk : List (Option (Nat × Nat))} {ks : List AK} {rk : List RK} {model : Els (AK.tys ks) → Option (Option (Els (RK.tys rk) × Els (ptys (outs ks))))} (hm : P.follows .mixedOrders = true) (hf : FnOK P f nt ow tp.er rs) (hE : EnvOK P env) (hP : PEnvOK P ch penv) (hh : tp.hok P nt ow false) (hlen : Nat.ble pk.length nt = true)
    (hp : nbs (outs ks) = p) (hq : nbs (outs ks) + arN (outs ks) = q) (hrun : ∀ x, runP penv env N p kpN tp ⟨argT0 (packI pk (argsI ks x 0)) 0, boxI ks x 0⟩ (mapS (finS ns rs ks rk p q)) = model x) : SFOK P f pk ks rk (fun x => joinP (model x)) :=
  sfOK_of hm hf hlen hp hq fun x y z hy cx hcx hnb hro s hs => by
    have hy' : model x = some (some (y, z)) := by
      simp only [joinP] at hy
      split at hy
      · rename_i q hq; rw [hq, hy]
      · cases hy
    refine (runP_sound (kp := kpN) hE hP N tp cx (by rw [hcx, hro]; exact hh) _ _ s hs (by rw [hnb, ← hy']; exact hrun x)).mono ?_
    rintro e s' (⟨si', h1, h2⟩ | ⟨_, HI, _, _, h2⟩)
    · refine ⟨si', h1, ?_⟩
      simp only [mapS, Option.map_eq_some_iff, Option.some.injEq] at h2
      obtain ⟨a, h3, rfl⟩ := h2
      exact h3
    · cases h2

theorem ppanOK {P : Program} {f nt : Nat} {ow : Nat → Bool} {tp : TP} {rs : List RR} {env : List (Nat × Ent)} {penv : List (Nat × PEnt)} {ch : List PanicEntry} {N p q : Nat} {ns : List NS} {pk : List (Option (Nat × Nat))} {ks : List AK} {rk : List RK} {model : Els (AK.tys ks) → Option (Option (Els (RK.tys rk) × Els (ptys (outs ks))))} (hm : P.follows .mixedOrders = true) (hf : FnOK P f nt ow tp.er rs) (hE : EnvOK P env) (hP : PEnvOK P ch penv) (hh : tp.hok P nt ow false) (hlen : Nat.ble pk.length nt = true)
    (hp : nbs (outs ks) = p) (hq : nbs (outs ks) + arN (outs ks) = q) (hrun : ∀ x, runP penv env N p kpN tp ⟨argT0 (packI pk (argsI ks x 0)) 0, boxI ks x 0⟩ (mapS (finS ns rs ks rk p q)) = model x) : PanOK P ch f pk ks model := fun x hx => by
  obtain ⟨fn, h1, h2, h3, rfl, h5, h6⟩ := hf.ex
  subst hp
  refine CallPan.intro hm h1 h2 h3 h5 (Nat.le_trans (pack_len _ _) (Nat.le_of_ble_eq_true hlen)) fun cx hcx hnb hro => ?_
  refine (runP_sound (kp := kpN) hE hP N tp cx (by rw [hcx, hro]; exact hh) _ _ _ (sf_start x) (by rw [hnb, ← hx]; exact hrun x)).mono ?_
  rintro e s' (⟨si', q1, q2⟩ | ⟨rfl, _⟩)
  · simp [mapS] at q2
  · rfl

end Go.Pv
