/- Walks in which a world's fact that the layer does not know is carried along (a strings.Builder): rules over codes, a leaf's walk by the layer, a call by its contract. No condition of its own: over any program. -/
import Derived.Test.YtipokcccpbcmeaaDoorPxT
import Derived.Lib.Builder
set_option linter.all false
namespace Go.Pv
open Go.RowKit

/-- What a code does from a place and a world on. -/
def WP (P : Program) (cx : Cx) (ow : Nat → Bool) (ac : AC) (Post : Exit → Act → World → Prop) (a : Act) (w : World) : Prop :=
  ∀ c, comp P cx.nt ow c = some ac → ac.nofz cx.fz → c.wpIn (FR cx.ro) 0 P Post a w
def thenW (K : Act → World → Prop) (Q : Exit → Act → World → Prop) : Exit → Act → World → Prop
  | .normal, a, w => K a w
  | e, a, w => Q e a w

section
variable {P : Program} {cx : Cx} {ow : Nat → Bool} {Q : Exit → Act → World → Prop} {a : Act} {w : World}
theorem WP.mono {ac : AC} {Q' : Exit → Act → World → Prop} (h : WP P cx ow ac Q a w) (hq : ∀ e a w, Q e a w → Q' e a w) : WP P cx ow ac Q' a w := fun c hc hz => wpIn_mono (h c hc hz) hq
theorem WP.seq {x y : AC} (h : WP P cx ow x (thenW (fun a w => WP P cx ow y Q a w) Q) a w) : WP P cx ow (.seq x y) Q a w := fun c hc hz => by
  cases c with
  | seq c1 c2 =>
    simp only [comp] at hc
    split at hc
    · rename_i x' y' h1 h2
      injection hc with hc; injection hc with e1 e2; subst e1; subst e2
      refine wpIn_seq (wpIn_mono (h c1 h1 hz.1) ?_)
      rintro e a' w' q
      cases e with
      | normal => exact q c2 h2 hz.2
      | _ => exact q
    · cases hc
  | _ => exfalso; simp only [comp] at hc; revert hc; (repeat' split) <;> simp
theorem WP.block {id : Nat} {x : AC} (h : WP P cx ow x (Exit.inBlock id Q) a w) : WP P cx ow (.block id x) Q a w := fun c hc hz => by
  cases c with
  | block id' c1 =>
    simp only [comp] at hc
    split at hc
    · rename_i x' h1
      injection hc with hc; injection hc with e1 e2; subst e1; subst e2
      exact wpIn_block (h c1 h1 hz)
    · cases hc
  | _ => exfalso; simp only [comp] at hc; revert hc; (repeat' split) <;> simp
theorem WP.cond {c : RO} {x y : AC} {b : Bool} {T : Nat → DV} {H : Hp} {ps : Ps} {M : Nat → Prop} {nx : Nat} (hT : ∀ t, VR H ps M nx w (T t) (a.tmps.getD t undef)) (hb : c.get T = .v (.bool b)) (h1 : b = true → WP P cx ow x Q a w) (h2 : b = false → WP P cx ow y Q a w) : WP P cx ow (.cond c x y) Q a w := fun cc hc hz => by
  cases cc with
  | cond c' c1 c2 =>
    simp only [comp] at hc
    split at hc
    · rename_i r x' y' k1 k2 k3
      injection hc with hc; injection hc with e1 e2 e3; subst e1; subst e2; subst e3
      have hv := ro_sound (a := a) k1 hT
      rw [hb] at hv
      exact wpIn_cond_split hv.v_inv (fun e => h1 e c1 k2 hz.1) (fun e => h2 e c2 k3 hz.2)
    · cases hc
  | _ => exfalso; simp only [comp] at hc; revert hc; (repeat' split) <;> simp
theorem WP.skip (h : Q .normal a w) : WP P cx ow .skip Q a w := fun c hc hz => by
  cases c <;> simp only [comp] at hc <;> (try cases hc; done)
  · exact wpIn_skip h
  all_goals (first | exact wpIn_label h | (exfalso; revert hc; (repeat' split) <;> simp))
theorem WP.exit {id : Nat} (h : Q (.exit id) a w) : WP P cx ow (.exit id) Q a w := fun c hc hz => by
  cases c with
  | exit id' => simp only [comp, Option.some.injEq, AC.exit.injEq] at hc; subst hc; exact wpIn_exit h
  | _ => exfalso; simp only [comp] at hc; revert hc; (repeat' split) <;> simp
theorem WP.ret (h : Q .ret a w) : WP P cx ow .ret Q a w := fun c hc hz => by
  cases c with
  | ret => exact wpIn_ret h
  | _ => exfalso; simp only [comp] at hc; revert hc; (repeat' split) <;> simp
/-- The layer's walk of a piece. -/
theorem WP.of {ac : AC} {Q0 : Exit → St → Prop} {s : St} {ps : Ps} (hm : Hm P cx) (R : RS cx s ps a w) (h : AWP P cx ow ac Q0 s) (k : ∀ e s' ps' a' w', RS cx s' ps' a' w' → Q0 e s' → Q e a' w') : WP P cx ow ac Q a w := fun c hc hz =>
  wpIn_mono (h hm c hc hz ps a w R) fun e a w ⟨s', ps', R', q⟩ => k e s' ps' a w R' q

/-- At the head of a loop. -/
def WPL (P : Program) (cx : Cx) (ow : Nat → Bool) (x : AC) (Q : Exit → Act → World → Prop) (a : Act) (w : World) : Prop :=
  ∀ c, comp P cx.nt ow c = some x → x.nofz cx.fz → ∀ (b : Frame) (k : List Item) (cs : List Frame), b.roundOf = cx.ro →
    ∃ e a' w', Q e a' w' ∧ ArrivesIn (Machine.fenced P (FR cx.ro)) P (lone (b.atR a (.code c :: .inLoop c :: k)) cs w) b k cs e a' w'
theorem WPL.unroll {x : AC} (h : WP P cx ow x (thenW (fun a w => WPL P cx ow x Q a w) Q) a w) : WPL P cx ow x Q a w := fun c1 h1 hz b k cs hro => by
  obtain ⟨e, a₁, w₁, hq, harr⟩ := h c1 h1 hz b (.inLoop c1 :: k) cs hro trivial (roomFR _)
  cases e with
  | normal =>
    obtain ⟨e₂, a₂, w₂, hq₂, harr₂⟩ := hq c1 h1 hz b k cs hro
    exact ⟨e₂, a₂, w₂, hq₂, .of_steps (StepsIn.trans harr (.one (fenced_calm (F := FR cx.ro) (n := 0) trivial (roomFR _) rfl) stepR_inLoop)) harr₂⟩
  | exit id => exact ⟨_, a₁, w₁, hq, .pass (x := .inLoop c1) rfl (fun _ _ => .inl (by simp)) harr⟩
  | goto l => exact ⟨_, a₁, w₁, hq, .pass (x := .inLoop c1) rfl (fun _ _ => .inl (by simp)) harr⟩
  | ret => exact ⟨_, a₁, w₁, hq, .pass (x := .inLoop c1) rfl (fun _ _ => .inl (by simp)) harr⟩
  | panic ch => exact ⟨_, a₁, w₁, hq, .pass (x := .inLoop c1) rfl (fun _ _ => .inl (by simp)) harr⟩
  | outgrown => exact ⟨_, a₁, w₁, hq, .pass (x := .inLoop c1) rfl (fun _ _ => .inl (by simp)) harr⟩
theorem WP.loop {x : AC} (h : WPL P cx ow x Q a w) : WP P cx ow (.loop x) Q a w := fun c hc hz => by
  cases c with
  | loop c1 =>
    simp only [comp] at hc
    split at hc
    · rename_i x' h1
      injection hc with hc; injection hc with e1; subst e1
      intro b k cs hro _ _
      obtain ⟨e, a', w', hq, harr⟩ := h c1 h1 hz b k cs hro
      exact ⟨e, a', w', hq, .of_steps (.one (fenced_calm (F := FR cx.ro) (n := 0) trivial (roomFR _) rfl) stepR_loop) harr⟩
    · cases hc
  | _ => exfalso; simp only [comp] at hc; revert hc; (repeat' split) <;> simp


/-! ### Regions, operation by operation -/
def WO (P : Program) (cx : Cx) (ow : Nat → Bool) (l : List RI) (Q : Exit → Act → World → Prop) (a : Act) (w : World) : Prop :=
  ∀ (ops : Array Oper) (ris : List RI) (k : Nat), rIs P cx.nt ow ops ops.toList = some ris → ris.drop k = l → k + l.length = ris.length → wpOpsIn (FR cx.ro) 0 P ops Q (List.range' k l.length) a w
theorem WO.nil (h : Q .normal a w) : WO P cx ow [] Q a w := fun ops ris k _ _ _ => by
  show wpOpsIn (FR cx.ro) 0 P ops Q [] a w
  exact h
theorem WP.rg {ris : List RI} (h : WO P cx ow ris Q a w) : WP P cx ow (.rg ris none) Q a w := fun c hc hz => by
  cases c with
  | region id ops draw =>
    simp only [comp] at hc
    split at hc
    · rename_i ris' h1
      split at hc
      · split at hc
        · injection hc with hc; injection hc with e1 e2; cases e2
        · cases hc
      · rename_i hd
        injection hc with hc; injection hc with e1 e2; subst e1
        have hdf : draw = false := by simpa using hd
        subst hdf
        obtain ⟨hl, hr⟩ := rIs_parts h1
        have hn : ris'.length = ops.size := by simpa using hl
        refine wpIn_region ?_
        rw [List.range_eq_range', ← hn]
        exact h ops ris' 0 h1 rfl (by omega)
    · cases hc
  | _ => exfalso; simp only [comp] at hc; revert hc; (repeat' split) <;> simp
theorem wo_at {P : Program} {nt : Nat} {ow : Nat → Bool} {ops : Array Oper} {ris l : List RI} {i : RI} {k : Nat} (h1 : rIs P nt ow ops ops.toList = some ris) (hd : ris.drop k = i :: l) (hl : k + (i :: l).length = ris.length) :
    ∃ o, ops[k]? = some o ∧ rI P nt ow ops o = some i ∧ ris.drop (k + 1) = l ∧ k + 1 + l.length = ris.length := by
  obtain ⟨hlen, hr⟩ := rIs_parts h1
  simp only [List.length_cons] at hl
  have hk1 : k < ris.length := by omega
  have hk2 : k < ops.toList.length := by omega
  have hi : ris[k] = i := by
    have := List.getElem_drop (xs := ris) (i := k) (j := 0) (h := by rw [hd]; simp)
    simp only [hd, List.getElem_cons_zero, Nat.add_zero] at this
    exact this.symm
  refine ⟨ops.toList[k], ?_, hi ▸ hr k hk2 hk1, ?_, by omega⟩
  · have hk3 : k < ops.size := by simpa using hk2
    simp [hk3]
  · rw [← List.drop_drop, hd]; rfl
/-- An operation that only moves a value. -/
theorem WO.mov {m : Nat} {x : RO} {d : Value} {l : List RI} (hx : x.get (fun t => .v (a.tmps.getD t undef)) = .v d)
    (k : m < cx.nt → WO P cx ow l Q (a.put (some m) d) w) : WO P cx ow (⟨some m, .mov x, none⟩ :: l) Q a w := fun ops ris j h1 hd hl => by
  obtain ⟨o, ho, hi, hd', hl'⟩ := wo_at h1 hd hl
  show wpOpsIn (FR cx.ro) 0 P ops Q (List.range' j (l.length + 1)) a w
  rw [List.range'_succ, wpOpsIn_cons]
  obtain ⟨hdst, ⟨ow', hrop⟩, hd0, hgd⟩ := rI_parts hi
  have hdst : some m = o.dst := hdst
  have hm : m < cx.nt := hd0 m hdst.symm
  have hrop : rop P ow' o.op = some (.mov x) := hrop
  rcases hgd with ⟨g1, g2⟩ | ⟨j', wn, t, g1, g2, g3⟩
  · unfold wpOpIn
    rw [ho]
    simp only
    have hw : Region.wanted o (yielded ops a.tmps) = true := by simp [Region.wanted, g1]
    rw [if_pos hw]
    refine Go.Oper.wp.toIn ?_ fun c hc => by rw [hc] at hrop; simp [rop] at hrop
    have hmv : ∃ y, ro y = some x ∧ (execOp a.eval o).run P w = .ok (.value (a.eval y)) w := by
      obtain ⟨dst', op, type, pos, after, guard⟩ := o
      simp only at hrop ⊢
      cases op with
      | move y =>
        simp only [rop] at hrop
        cases hy : ro y with
        | none => rw [hy] at hrop; cases hrop
        | some z => rw [hy] at hrop; injection hrop with hrop; injection hrop with hrop; subst hrop; exact ⟨y, hy, rfl⟩
      | assign y =>
        simp only [rop] at hrop
        cases hy : ro y with
        | none => rw [hy] at hrop; cases hrop
        | some z => rw [hy] at hrop; injection hrop with hrop; injection hrop with hrop; subst hrop; exact ⟨y, hy, rfl⟩
      | call c =>
        exfalso
        obtain ⟨callee, args, argTypes⟩ := c
        cases callee with
        | value fo => simp only [rop] at hrop; revert hrop; split <;> simp
        | invoke r m => simp [rop] at hrop
        | builtin b =>
          cases b <;> simp only [rop] at hrop <;> (try cases hrop; done)
          all_goals (exfalso; revert hrop; (repeat' split) <;> simp)
      | makeFunc fn first captured =>
        exfalso
        cases fn <;> simp only [rop] at hrop <;> (try cases hrop; done)
        revert hrop; split <;> simp
      | slice t x lo hi mx =>
        exfalso
        cases mx <;> simp only [rop] at hrop <;> (try cases hrop; done)
        revert hrop; (repeat' split) <;> simp
      | _ =>
        exfalso
        simp only [rop] at hrop
        revert hrop
        (repeat' split) <;> simp
    obtain ⟨y, hy, hrun⟩ := hmv
    have hv : VR (ofL []) (fun _ => none) (fun _ => False) 0 w (.v d) (a.eval y) := hx ▸ ro_sound (H := ofL []) (ps := fun _ => none) (M := fun _ => False) (nx := 0) (w := w) (T := fun t => .v (a.tmps.getD t undef)) hy fun t => .v _
    unfold Oper.wp
    rw [hrun, hv.v_inv]
    show wpOpsIn (FR cx.ro) 0 P ops Q (List.range' (j + 1) l.length) (a.put o.dst d) w
    rw [← hdst]
    exact k hm ops ris (j + 1) h1 hd' hl'
  · cases g3
/-- A call, by a contract at this very world. -/
theorem WO.call {m : Nat} {f : RO} {xs : List RO} {fn : FuncId} {cargs : List Value} {l : List RI} (hf : f = .c (.fn fn [])) (hfn : ∃ g, P.funcs[fn]? = some g ∧ (g.name == "runtime.NumGoroutine") = false ∧ g.body.isNone = false)
    (ha : xs.map (fun x => x.get (fun t => .v (a.tmps.getD t undef))) = cargs.map DV.v)
    (h : m < cx.nt → Calls P fn cargs.toArray w fun e w' => ∃ v, e = .returned v ∧ WO P cx ow l Q (a.put (some m) v) w') : WO P cx ow (⟨some m, .call f xs, none⟩ :: l) Q a w := fun ops ris j h1 hd hl => by
  subst hf
  obtain ⟨o, ho, hi, hd', hl'⟩ := wo_at h1 hd hl
  show wpOpsIn (FR cx.ro) 0 P ops Q (List.range' j (l.length + 1)) a w
  rw [List.range'_succ, wpOpsIn_cons]
  obtain ⟨hdst, ⟨ow', hrop⟩, hd0, hgd⟩ := rI_parts hi
  have hdst : some m = o.dst := hdst
  have hm : m < cx.nt := hd0 m hdst.symm
  have hrop : rop P ow' o.op = some (.call (.c (.fn fn [])) xs) := hrop
  rcases hgd with ⟨g1, g2⟩ | ⟨j', wn, t, g1, g2, g3⟩
  · unfold wpOpIn
    rw [ho]
    simp only
    have hw : Region.wanted o (yielded ops a.tmps) = true := by simp [Region.wanted, g1]
    rw [if_pos hw]
    refine Go.Oper.wp.toIn ?_ fun c hc => by rw [hc] at hrop; simp [rop] at hrop
    have hcall' : ∃ c, o.op = .call c ∧ ∃ fo, c.callee = .value fo ∧ ro fo = some (.c (.fn fn [])) ∧ ros c.args.toList = some xs := by
      obtain ⟨dst', op, type, pos, after, guard⟩ := o
      simp only at hrop ⊢
      cases op with
      | call c =>
        obtain ⟨callee, args, argTypes⟩ := c
        cases callee with
        | value fo =>
          simp only [rop] at hrop
          split at hrop
          · rename_i f' xs' k1 k2
            injection hrop with hrop; injection hrop with e1 e2; subst e1; subst e2
            exact ⟨_, rfl, fo, rfl, k1, k2⟩
          · cases hrop
        | invoke r m => simp [rop] at hrop
        | builtin b =>
          cases b <;> simp only [rop] at hrop <;> (try cases hrop; done)
          all_goals (exfalso; revert hrop; (repeat' split) <;> simp)
      | makeFunc fn first captured =>
        exfalso
        cases fn <;> simp only [rop] at hrop <;> (try cases hrop; done)
        revert hrop; split <;> simp
      | slice t x lo hi mx =>
        exfalso
        cases mx <;> simp only [rop] at hrop <;> (try cases hrop; done)
        revert hrop; (repeat' split) <;> simp
      | _ =>
        exfalso
        simp only [rop] at hrop
        revert hrop
        (repeat' split) <;> simp
    obtain ⟨c, hop, fo, hcl, hfo, hxs⟩ := hcall'
    have hT : ∀ t, VR (ofL []) (fun _ => none) (fun _ => False) 0 w ((fun t => DV.v (a.tmps.getD t undef)) t) (a.tmps.getD t undef) := fun t => .v _
    have hfv := ro_sound (a := a) hfo hT
    have hfv : VR (ofL []) (fun _ => none) (fun _ => False) 0 w (.fn fn []) (a.eval fo) := hfv
    obtain ⟨cv, hfe, hcl', hcv⟩ := hfv.fn_inv
    have hcv0 : cv = #[] := Array.eq_empty_of_size_eq_zero (by simpa using hcl')
    subst hcv0
    obtain ⟨r1, r2⟩ := ros_sound (a := a) (cx := ⟨0, fun _ => False, fun _ => False, w, ofL [], fun _ => none, 0, none, fun _ => none, []⟩) rfl hT c.args.toList xs hxs
    obtain ⟨gn, hgn, hname, hbody⟩ := hfn
    have hlen : xs.length = cargs.length := by simpa using congrArg List.length ha
    have hcs : c.args.map a.eval = cargs.toArray := by
      have hsz : c.args.size = cargs.length := by rw [← hlen]; simpa using r1.symm
      refine Array.ext (by simpa using hsz) fun q h1 h2 => ?_
      have hq : q < xs.length := by rw [hlen]; simpa using h2
      have hqc : q < c.args.toList.length := by simpa using h1
      have h3 := r2 q hq hqc
      have e1 : un true ((xs[q]).get fun t => DV.v (a.tmps.getD t undef)) = .v (cargs[q]'(by omega)) := by
        have := congrArg (fun l => l[q]?) ha
        simp only [List.getElem?_map, List.getElem?_eq_getElem hq, List.getElem?_eq_getElem (show q < cargs.length by omega), Option.map_some, Option.some.injEq] at this
        rw [this]; rfl
      rw [e1] at h3
      have := h3.v_inv
      simpa using this
    have hrun : (execOp a.eval o).run P w = .ok (.enter fn cargs.toArray) w := by
      have hbn : gn.body.isNone = false := hbody
      simp only [execOp, hop, resolve, hcl, hfe, Deferred.ofValue, Sem.run_bind, Sem.run_pure, Result.andThen_ok, invoke, callFunc, run_program, hgn]
      rw [if_neg (by simp [hname]), if_neg (by simp [hbn])]
      simp [← hcs]
    unfold Oper.wp
    rw [hrun]
    show Calls P fn cargs.toArray w _
    refine (h hm).mono ?_
    rintro en w' ⟨v, rfl, hq⟩
    rw [← hdst]
    exact hq ops ris (j + 1) h1 hd' hl'
  · cases g3
end


/-- Marks of two stretches. -/
theorem Marks.app {M0 : Nat → Prop} {n0 : Nat} {db : List Deferred} {w w' : World} {ds ds' : List Deferred} (h : Marks M0 n0 db w ds) (h' : Marks (fun _ => False) w.heap.size ds w' ds') (hM : ∀ b, M0 b → b < w.heap.size) (hn : n0 ≤ w.heap.size)
    (fr : ∀ (b : Nat) (x : Option (List Deferred)), w.heap[b]? = some (Obj.deferred x) → w'.heap[b]? = w.heap[b]?) : Marks M0 n0 db w' ds' := by
  obtain ⟨Ds, e, nd, f⟩ := h
  obtain ⟨Ds', e', nd', f'⟩ := h'
  have lt : ∀ D, D ∈ Ds → D < w.heap.size := fun D hD => heap_lt (f D hD).2.2
  refine ⟨Ds' ++ Ds, by rw [e', e]; simp, List.nodup_append.2 ⟨nd', nd, fun a ha b hb => ?_⟩, fun D hD => ?_⟩
  · have := (f' a ha).1
    have := lt b hb
    omega
  · rcases List.mem_append.1 hD with hD | hD
    · obtain ⟨g1, g2, g3⟩ := f' D hD
      exact ⟨by omega, fun hm => by have := hM D hm; omega, g3⟩
    · obtain ⟨g1, g2, g3⟩ := f D hD
      exact ⟨g1, g2, (fr D _ g3).trans g3⟩

/-- A leaf: the layer's interpreter over chunks of its own; all other blocks stay. -/
theorem WP.leaf {P : Program} {cx : Cx} {ow : Nat → Bool} {Q : Exit → Act → World → Prop} {a : Act} {w : World} {R : Type} {env : List (Nat × Ent)} (N : Nat) (tc : TC) (hm : P.follows .mixedOrders = true) (hE : EnvOK P env) (hh : tc.hok P cx.nt ow false) (hro : cx.ro = none)
    (fz : Nat → Option Value) (hnz : tc.er.nofz fz) (hfz : ∀ t v, fz t = some v → a.tmps.getD t undef = v) (hsz : a.tmps.size = cx.nt) (s : St) (ps : Ps) (hg : GlOK P w (Live s.H ps)) (hT : ∀ t, VR s.H ps (fun _ => False) s.nx w (s.T t) (a.tmps.getD t undef)) (hr : HR s.H ps (fun _ => False) s.nx w) (si : SI) (hsr : SR si s)
    (k : Exit → SI → Option R) (r : R) (hrun : run env N 0 tc si k = some r)
    (fin : ∀ e si' s' ps' a' w', SR si' s' → k e si' = some r → a'.tmps.size = cx.nt → (∀ t v, fz t = some v → a'.tmps.getD t undef = v) → (∀ t, VR s'.H ps' (fun _ => False) s'.nx w' (s'.T t) (a'.tmps.getD t undef)) → HR s'.H ps' (fun _ => False) s'.nx w' →
      Fr (Live s.H ps) w w' → (∀ b, Live s'.H ps' b → Live s.H ps b ∨ w.heap.size ≤ b) → Marks (fun _ => False) w.heap.size a.defers w' a'.defers → Q e a' w') : WP P cx ow tc.er Q a w := fun c hc hz => by
  let cx' : Cx := ⟨cx.nt, fun _ => False, Live s.H ps, w, s.H, ps, 0, none, fz, a.defers⟩
  have R0 : RS cx' s ps a w := ⟨hT, hsz, hr, Fr.refl _ _, fun o ck p h1 h2 => .inl ⟨o, ck, p, h1, h2, rfl⟩, Marks.nil, Nat.zero_le _, fun o h => absurd h (Nat.not_lt_zero _), hfz⟩
  have key := run_sound hE N tc cx' hh si k s hsr hrun ⟨hm, hg⟩ c hc hnz _ a w R0
  rw [hro]
  refine wpIn_mono key ?_
  rintro e a' w' ⟨s', ps', R', si', k1, k2⟩
  exact fin e si' s' ps' a' w' k1 k2 R'.nt R'.fz R'.t R'.hr R'.fr (fun b ⟨o, ck, p, h1, h2, h3⟩ => h3 ▸ R'.lb o ck p h1 h2) R'.df
end Go.Pv
