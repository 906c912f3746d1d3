/- One operation of a region, on plain data (Stp): sound, and local. No condition of its own: over any program. -/
import Derived.Test.YtiemlgicaibccaaPvK
set_option linter.all false
namespace Go.Pv
open Go.RowKit
structure RI where
 dst : Option Nat
 op : ROp
 gd : Option (Nat × Bool)
structure Rc where
 res : DV
 post : Cks
 nx : Nat
 rd : List Nat
def Up.post (nx : Nat) : Up → Cks
 | .no => []
 | .wr o ck => [(o, ck)]
 | .al ck => [(nx, ck)]
theorem Up.puts_post (H : Hp) (nx : Nat) (u : Up) : puts H (u.post nx) = u.hp H nx := by cases u <;> rfl
def AppN (op : ROp) (p : Bool) (s : St) (e : Rc) : Prop :=
 ∃ sz by' a x o ck d u, op = .app sz by' a x ∧ un p (a.get s.T) = .lst true [] ∧ s.H o = some ck ∧ ck.xs = [] ∧ appV s.H sz by' (.own o ck.gen 0 0) (un p (x.get s.T)) = some (d, u) ∧ e = ⟨d, u.post s.nx, u.nx s.nx, o :: (un p (x.get s.T)).ids⟩
def AppF (op : ROp) (p : Bool) (s : St) (e : Rc) : Prop :=
 ∃ sz by' a x o ck', op = .app sz by' a x ∧ ev (.app sz by' a x) p s.T s.H s.nx = some (.own o ck'.gen 0 ck'.xs.length, .wr o ck') ∧ 0 < ck'.sz ∧ e = ⟨.lst false ck'.xs, [(o, ⟨ck'.gen + 1, ck'.sz, []⟩)], s.nx, rds (.app sz by' a x) p s.T⟩
def MkN (op : ROp) (p : Bool) (s : St) (e : Rc) : Prop :=
 ∃ sz by' z l c o sz0 d ck, op = .mksl sz by' z l c ∧ ev (.mksl sz by' z l c) p s.T s.H s.nx = some (d, .al ck) ∧ s.H o = some ⟨0, sz0, []⟩ ∧ e = ⟨.own o 1 0 ck.xs.length, [(o, ⟨1, ck.sz, ck.xs⟩)], s.nx, [o]⟩
def Exec (P : Program) (op : ROp) (p : Bool) (s : St) (e : Rc) : Prop :=
 (∃ u, ev op p s.T s.H s.nx = some (e.res, u) ∧ e.post = u.post s.nx ∧ e.nx = u.nx s.nx ∧ e.rd = rds op p s.T) ∨
 (∃ f xs fn caps, op = .call f xs ∧ un p (f.get s.T) = .fn fn caps ∧ ∃ pre, CallOK P fn (xs.map (fun x => un p (x.get s.T)) ++ caps) pre s.nx e.res e.post e.nx ∧ (∀ o ck, ofL pre o = some ck → s.H o = some ck) ∧
  (∀ o ck, ofL pre o = some ck → o ∈ e.rd)) ∨
 (∃ z o sz, op = .alloc z ∧ s.H o = some ⟨0, sz, []⟩ ∧ e = ⟨.ptr o 1 0 0, [(o, ⟨1, z.length, [z]⟩)], s.nx, [o]⟩) ∨
 AppN op p s e ∨ AppF op p s e ∨ MkN op p s e
def gv : DV → Bool → Option Bool
 | .v (.bool b), w => some (b == w)
 | .gd q (.v (.bool b)), w => some (q && (b == w))
 | .v (.tuple _), _ => some false
 | _, _ => none
def tot : ROp → Bool
 | .isn .. | .mov _ | .pick .. | .build .. | .load .. | .nilck _ | .bin .. | .eqa .. | .beq .. | .un .. | .conv .. | .fadr .. | .fld .. | .len _ | .lens _ | .lenA _ | .mm .. | .extr .. => true
 | _ => false
def Stp (P : Program) (i : RI) (s : St) (e : Rc) : Prop :=
 match i.gd with
 | none => Exec P i.op true s e
 | some (t, wn) => ∃ p, gv (s.T t) wn = some p ∧
  ((p = true ∧ Exec P i.op true s e) ∨ (p = false ∧ e = ⟨.v undef, [], s.nx, []⟩) ∨
   (tot i.op = true ∧ ∃ d, ev i.op p s.T s.H s.nx = some (d, .no) ∧ e = ⟨.gd p d, [], s.nx, rds i.op p s.T⟩) ∨
   (∃ f xs fn caps d, i.op = .call f xs ∧ un p (f.get s.T) = .fn fn caps ∧ CallOK P fn (xs.map (fun x => un p (x.get s.T)) ++ caps) [] s.nx d [] s.nx ∧ e = ⟨.gd p d, [], s.nx, []⟩))
def St.app (s : St) (dst : Option Nat) (e : Rc) : St := ⟨putT s.T dst e.res, puts s.H e.post, e.nx⟩
def rI (P : Program) (nt : Nat) (ow : Nat → Bool) (ops : Array Oper) (o : Oper) : Option RI :=
 match rop P ((o.dst.map ow).getD false) o.op with
 | none => none
 | some r =>
  if o.dst.all (fun d => decide (d < nt)) = true then
   match o.guard with
   | none => some ⟨o.dst, r, none⟩
   | some (j, w) => match (ops[j]?).bind (·.dst) with
    | some t => some ⟨o.dst, r, some (t, w)⟩
    | none => none
  else none
theorem rI_parts {P nt ow ops o i} (h : rI P nt ow ops o = some i) : i.dst = o.dst ∧ (∃ ow', rop P ow' o.op = some i.op) ∧ (∀ d, o.dst = some d → d < nt) ∧
  ((o.guard = none ∧ i.gd = none) ∨ ∃ j w t, o.guard = some (j, w) ∧ (ops[j]?).bind (·.dst) = some t ∧ i.gd = some (t, w)) := by
 unfold rI at h
 split at h
 ·cases h
 ·rename_i r hr
  split at h
  ·rename_i hd
   have hd' : ∀ d, o.dst = some d → d < nt := by intro d e; rw [e] at hd; simpa using hd
   split at h
   ·rename_i hg; injection h with h; subst h; exact ⟨rfl, ⟨_, hr⟩, hd', .inl ⟨hg, rfl⟩⟩
   ·rename_i j w hg
    split at h
    ·rename_i t ht; injection h with h; subst h; exact ⟨rfl, ⟨_, hr⟩, hd', .inr ⟨j, w, t, hg, ht, rfl⟩⟩
    ·cases h
  ·cases h
theorem RS.pre {cx s ps a w} (r : RS cx s ps a w) : Pre cx s.H ps s.nx w s.T true a := ⟨r.hr, r.fr, r.lb, rfl, r.t⟩
theorem gv_sound {H ps M nx w d wn p} {ops : Array Oper} {a : Act} {j t : Nat} (hj : (ops[j]?).bind (·.dst) = some t) (h : gv d wn = some p) (hv : VR H ps M nx w d (a.tmps.getD t undef)) :
  (yielded ops a.tmps j == some wn) = p := by
 have hy : yielded ops a.tmps j = match a.tmps[t]? with | some (.bool b) => some b | _ => none := by unfold yielded; rw [hj]; rfl
 have hg : ∀ b : Bool, a.tmps.getD t undef = .bool b → yielded ops a.tmps j = some b := by
  intro b hb
  rw [hy]
  rw [Array.getD_eq_getD_getElem?] at hb
  cases hq : a.tmps[t]? with
  | none => rw [hq] at hb; simp [undef] at hb
  | some x => rw [hq] at hb; simp at hb; subst hb; rfl
 have hn : (∀ b, a.tmps.getD t undef ≠ .bool b) → yielded ops a.tmps j = none := by
  intro hb
  rw [hy]
  cases hq : a.tmps[t]? with
  | none => rfl
  | some x =>
   have : a.tmps.getD t undef = x := by rw [Array.getD_eq_getD_getElem?, hq]; rfl
   rw [this] at hb
   cases x <;> first | rfl | exact absurd rfl (hb _)
 unfold gv at h
 split at h
 ·rename_i wn b
  injection h with h; subst h
  rw [hg b hv.v_inv]; cases b <;> cases wn <;> rfl
 ·rename_i wn q b
  injection h with h; subst h
  cases hv with
  | gd _ _ _ h1 h2 =>
   cases q with
   | true => rw [hg b (h1 rfl).v_inv]; cases b <;> cases wn <;> rfl
   | false => rw [hn (by rw [h2 rfl]; intro b; simp [undef])]; cases wn <;> rfl
 ·injection h with h; subst h
  rw [hn (by rw [hv.v_inv]; intro b; simp)]; cases wn <;> rfl
 ·cases h
section
variable {P : Program} {cx : Cx} {ops : Array Oper} {Q : Exit → Act → World → Prop}
theorem gh_sound {s : St} {ps : Ps} {a : Act} {w : World} (k : Pre cx s.H ps s.nx w s.T true a) {ow : Bool} {o : Oper} {z : List DV} {o1 sz : Nat} (hrop : rop P ow o.op = some (.alloc z)) (hH : s.H o1 = some ⟨0, sz, []⟩) :
  ∃ nv v w' ps', (execOp a.eval o).run P w = .ok nv w' ∧ (nv = .value v ∨ (nv = .skip ∧ v = undef)) ∧ VR (s.H.put o1 (some ⟨1, z.length, [z]⟩)) ps' cx.M s.nx w' (.ptr o1 1 0 0) v ∧ Mv cx s.H ps s.nx w (s.H.put o1 (some ⟨1, z.length, [z]⟩)) ps' s.nx w' := by
 have hal : ∃ e, o.op = .alloc e ∧ zeroOf P e = some z := by
  obtain ⟨dst, op, type, pos, after, guard⟩ := o
  simp only at hrop ⊢
  cases op with
  | alloc e =>
   simp only [rop, Option.map_eq_some_iff] at hrop
   obtain ⟨z', h1, h2⟩ := hrop
   injection h2 with h2; subst h2
   exact ⟨e, rfl, h1⟩
  | call c =>
   exfalso
   obtain ⟨callee, args, argTypes⟩ := c
   cases callee with
   | value fo => simp only [rop] at hrop; revert hrop; (repeat' split) <;> simp
   | invoke r m => simp [rop] at hrop
   | builtin b => cases b <;> simp only [rop] at hrop <;> (try cases hrop; done) <;> (revert hrop; (repeat' split) <;> simp)
  | makeFunc fn first captured =>
   exfalso
   cases fn <;> simp only [rop] at hrop <;> (try cases hrop; done)
   revert hrop; split <;> simp
  | slice t x lo hi mx =>
   exfalso
   cases mx <;> simp only [rop] at hrop <;> (try cases hrop; done)
   revert hrop; (repeat' split) <;> simp
  | _ =>
   exfalso
   simp only [rop] at hrop
   revert hrop
   (repeat' split) <;> simp
 obtain ⟨e, hop, h1⟩ := hal
 obtain ⟨i, v, hi, hz, hs, hl, hva⟩ := k.va h1
 have hm : Mv cx s.H ps s.nx w (s.H.put o1 (some ⟨1, z.length, [z]⟩)) (ps.put o1 (some ⟨w.heap.size, 0, v.cells.size⟩)) s.nx (w.alloc (.cells v.cells e)) := by
  refine Mv.upd o1 ⟨1, z.length, [z]⟩ (some ⟨w.heap.size, 0, v.cells.size⟩) s.nx _ k.hr k.fr k.lb (Nat.le_refl _) (k.hr.lt _ _ hH) (.inr ⟨_, hH, .inl (by simp)⟩) ((Grew.alloc w _).but _) ?_ ?_
  ·intro p' hp'; injection hp' with hp'; subst hp'; exact .inr (Nat.le_refl _)
  ·intro kp
   refine .inr ⟨⟨w.heap.size, 0, v.cells.size⟩, v.cells, e, fun _ j => v.cells.getD j undef, Ps.put_same .., ?_, rfl, ?_, by simp [hva.l], ?_, ?_⟩
   ·exact CellsAt.of (by show (w.heap.push _)[w.heap.size]? = _; simp)
   ·intro i hi; have : i = 0 := by simpa using hi
    subst this; rfl
   ·intro i j hi hj
    have : i = 0 := by simpa using hi
    subst this
    refine ⟨hva.o j hj, ?_⟩
    have hj' : j < v.cells.size := by rw [hva.l]; exact hj
    simp [Array.getD, hj']
   ·intro i j hi hj
    have : i = 0 := by simpa using hi
    subst this; exact (hva.r j hj).mono kp
 refine ⟨.value (.pointer (some ⟨w.heap.size, 0, none⟩)), .pointer (some ⟨w.heap.size, 0, none⟩), w.alloc (.cells v.cells e), _, ?_, .inl rfl, ?_, hm⟩
 ·simp only [execOp, hop, Instr.alloc, zeroValue, typeInfo, newVar, Sem.run_bind, run_program, Result.andThen_ok, hi, Sem.run_pure, hz, newRow_run]
 ·refine .ptr _ _ _ _ _ (k.hr.lt _ _ hH) rfl fun ck' h => ?_
  rw [Hp.put_same] at h; injection h with h; subst h
  exact ⟨Nat.le_refl _, fun _ => ⟨by simp, _, Ps.put_same .., by simp⟩⟩
theorem appn_sound {s : St} {ps : Ps} {a : Act} {w : World} (k : Pre cx s.H ps s.nx w s.T true a) {ow : Bool} {o : Oper} {sz by' : Nat} {y x : RO} {o1 : Nat} {ck : Ck} {d : DV} {u : Up} (hrop : rop P ow o.op = some (.app sz by' y x)) (hn : un true (y.get s.T) = .lst true []) (hH : s.H o1 = some ck) (hxs : ck.xs = [])
  (he : appV s.H sz by' (.own o1 ck.gen 0 0) (un true (x.get s.T)) = some (d, u)) : Snd P cx s.H ps s.nx w ((execOp a.eval o).run P w) d u := by
 have nil : ∀ v, VR s.H ps cx.M s.nx w (un true (y.get s.T)) v → VR s.H ps cx.M s.nx w (.own o1 ck.gen 0 0) v := by
  intro v hv
  rw [hn] at hv
  cases hv with
  | lnil _ a cap hf =>
   refine .own _ _ _ _ _ (k.hr.lt _ _ hH) ⟨_, _, rfl⟩ fun ck' hk => ?_
   rw [hH] at hk; injection hk with hk; subst hk
   exact ⟨Nat.le_refl _, fun _ => ⟨by simp, a, cap, rfl, by simp [hf rfl], .inl (hf rfl)⟩⟩
  | lst _ _ _ _ _ _ _ hne => exact absurd rfl hne
 obtain ⟨dst, op, type, pos, after, guard⟩ := o
 simp only at hrop
 cases op with
 | call c =>
  obtain ⟨callee, args, argTypes⟩ := c
  cases callee with
  | value fo => exfalso; simp only [rop] at hrop; revert hrop; (repeat' split) <;> simp
  | invoke r m => exfalso; simp [rop] at hrop
  | builtin b =>
   cases b with
   | append =>
    simp only [rop] at hrop
    split at hrop
    ·rename_i s0 x0 t t' hax hat
     have hargs : args = #[s0, x0] := by rw [← Array.toArray_toList (xs := args), hax]
     have htys : argTypes = #[t, t'] := by rw [← Array.toArray_toList (xs := argTypes), hat]
     subst hargs; subst htys
     split at hrop
     ·rename_i htt
      subst htt
      split at hrop
      ·rename_i e hu
       split at hrop
       ·rename_i i z s' x' hi hz h1 h2
        split at hrop
        ·rename_i h0
         injection hrop with hrop
         injection hrop with e1 e2 e3 e4
         subst e1; subst e2; subst e3; subst e4
         obtain ⟨i', v, q1, hzv, hs, hl, hva⟩ := k.va hz
         rw [hi] at q1; injection q1 with q1; subst q1
         have := app_sound (P := P) k.hr k.fr k.lb t type e i v hu hi hzv h0 hs he (nil _ (k.ro h1)) (k.ro h2)
         have q := Snd.of_v this
         simpa [execOp, resolve, invoke, builtin] using q
        ·cases hrop
       ·cases hrop
      ·cases hrop
     ·cases hrop
    ·cases hrop
   | _ => exfalso; simp only [rop] at hrop <;> (try cases hrop; done) <;> (revert hrop; (repeat' split) <;> simp)
 | makeFunc fn first captured =>
  exfalso
  cases fn <;> simp only [rop] at hrop <;> (try cases hrop; done)
  revert hrop; split <;> simp
 | slice t x lo hi mx =>
  exfalso
  cases mx <;> simp only [rop] at hrop <;> (try cases hrop; done)
  revert hrop; (repeat' split) <;> simp
 | _ =>
  exfalso
  simp only [rop] at hrop
  revert hrop
  (repeat' split) <;> simp
theorem snd_mkslG {H : Hp} {ps : Ps} {nx : Nat} {w : World} {T : Nat → DV} {p : Bool} {a : Act} (k : Pre cx H ps nx w T p a) {t e : TypeId} {i : TypeInfo} {z : List DV} {x y : Operand} {x' y' : RO} {d : DV} {ck : Ck} {o1 sz0 : Nat} (ht : P.underlying t = some (.slice e)) (hi : P.info? e = some i) (hz : zeroOf P e = some z) (h0 : 0 < i.size)
  (h1 : Pv.ro x = some x') (h2 : Pv.ro y = some y') (hH : H o1 = some ⟨0, sz0, []⟩) (h : ev (.mksl i.size i.bytes z x' y') p T H nx = some (d, .al ck)) :
  Snd P cx H ps nx w ((do Pure.pure (Next.value (← Instr.makeSlice t (a.eval x) (a.eval y))) : Sem Next).run P w) (.own o1 1 0 ck.xs.length) (.wr o1 ⟨1, ck.sz, ck.xs⟩) := by
 have hx := k.ro h1
 have hy := k.ro h2
 obtain ⟨i', v, q1, hzv, hs, hl, hva⟩ := k.va hz
 rw [hi] at q1; injection q1 with q1; subst q1
 have hzz : z = v.cells.toList.map ofC := by
  obtain ⟨i', v', q1, q2, _, _, q5, _⟩ := zeroOf_sound hz
  rw [hi] at q1; injection q1 with q1; subst q1; rw [hzv] at q2; injection q2 with q2; subst q2; exact q5
 simp only [ev] at h
 split at h
 ·rename_i l c hd hdy
  rw [hd] at hx; rw [hdy] at hy
  split at h
  ·rename_i hc
   obtain ⟨c1, c2, c3, c4⟩ := hc
   injection h with h; injection h with e1 e2; injection e2 with e2; subst e1; subst e2
   rw [hx.v_inv, hy.v_inv]
   have hrun := run_make (P := P) w t e i v ht hi hzv .i64 .i64 l c c1 c2 (by omega) (by omega)
   obtain ⟨ln, rfl⟩ := Int.eq_ofNat_of_zero_le c1
   obtain ⟨cn, rfl⟩ := Int.eq_ofNat_of_zero_le (show 0 ≤ c by omega)
   simp only [Int.toNat_natCast] at hrun ⊢
   have hlc : ln ≤ cn := by omega
   have hrow := zeroRow_va (H := H) (ps := ps) (M := cx.M) (nx := nx) (w := w) v i.size cn (by omega) h0 (fun j hj => by have := hva.o j (by rw [← hva.l]; exact hj); exact this)
   rw [← hzz] at hrow
   have hzl : ∀ c ∈ List.replicate cn z, c.length = i.size := fun c hc => by rw [List.eq_of_mem_replicate hc]; omega
   have hfl := hrow.fl hzl
   have hmc : madeCells v.cells (cn * i.size) = (Array.range (cn * i.size)).map (v.cells[· % v.cells.size]!) := rfl
   rw [← hmc] at hfl
   have hm : Mv cx H ps nx w (H.put o1 (some ⟨1, i.size, List.replicate ln z⟩)) (ps.put o1 (some ⟨w.heap.size, 0, (madeCells v.cells (cn * i.size)).size⟩)) nx (w.alloc (.cells (madeCells v.cells (cn * i.size)) e)) := by
    refine Mv.upd o1 ⟨1, i.size, List.replicate ln z⟩ (some ⟨w.heap.size, 0, (madeCells v.cells (cn * i.size)).size⟩) nx _ k.hr k.fr k.lb (Nat.le_refl _) (k.hr.lt _ _ hH) (.inr ⟨_, hH, .inl (by simp)⟩) ((Grew.alloc w _).but _) ?_ ?_
    ·intro p' hp'; injection hp' with hp'; subst hp'; exact .inr (Nat.le_refl _)
    ·intro kp
     refine .inr ⟨⟨w.heap.size, 0, (madeCells v.cells (cn * i.size)).size⟩, madeCells v.cells (cn * i.size), e, fun a b => (madeCells v.cells (cn * i.size)).toList.getD (a * i.size + b) undef, Ps.put_same .., ?_, rfl, ?_, ?_, ?_, ?_⟩
     ·exact CellsAt.of (by show (w.heap.push _)[w.heap.size]? = _; simp)
     ·intro j hj; simp only [List.getElem_replicate]; omega
     ·simp only [List.length_replicate, size_madeCells]; have := Nat.mul_le_mul_right i.size hlc; omega
     ·intro a b ha hb
      simp only [List.length_replicate] at ha
      have := hfl.get (i := a) (j := b) (by simp; omega) hb
      exact ⟨this.2, by have := this.1; simpa using this⟩
     ·intro a b ha hb
      simp only [List.length_replicate] at ha
      have := hfl.r a b (by simp; omega) (by simpa using hb)
      have : VR H ps cx.M nx w ((List.replicate ln z)[a]'(by simpa using ha))[b] ((madeCells v.cells (cn * i.size)).toList.getD (a * i.size + b) undef) := by simpa using this
      exact this.mono kp
   refine Snd.of_v ⟨_, _, _, hrun, ?_, by simpa [Up.hp, Up.nx] using hm⟩
   simp only [Up.hp, Up.nx]
   refine .own _ _ _ _ _ (k.hr.lt _ _ hH) ⟨_, _, by rw [List.length_replicate]⟩ fun ck' hck' => ?_
   simp only [Hp.put_same, Option.some.injEq] at hck'; subst hck'
   exact ⟨Nat.le_refl _, fun _ => ⟨by simp, some ⟨w.heap.size, 0, none⟩, cn, by simp, by simpa using hlc, .inr ⟨⟨w.heap.size, 0, (madeCells v.cells (cn * i.size)).size⟩, Ps.put_same .., by simp, by simp [size_madeCells]⟩⟩⟩
  ·cases h
 ·cases h
theorem mkn_sound {s : St} {ps : Ps} {a : Act} {w : World} (k : Pre cx s.H ps s.nx w s.T true a) {ow : Bool} {o : Oper} {sz by' : Nat} {z : List DV} {l c : RO} {o1 sz0 : Nat} {ck : Ck} {d : DV} (hrop : rop P ow o.op = some (.mksl sz by' z l c)) (hH : s.H o1 = some ⟨0, sz0, []⟩)
  (he : ev (.mksl sz by' z l c) true s.T s.H s.nx = some (d, .al ck)) : Snd P cx s.H ps s.nx w ((execOp a.eval o).run P w) (.own o1 1 0 ck.xs.length) (.wr o1 ⟨1, ck.sz, ck.xs⟩) := by
 obtain ⟨dst, op, type, pos, after, guard⟩ := o
 simp only at hrop
 cases op with
 | makeSlice t x y =>
  simp only [rop] at hrop
  split at hrop
  ·rename_i e x' y' hu h1 h2
   split at hrop
   ·rename_i i z hi hz
    split at hrop
    ·rename_i h0
     injection hrop with hrop
     injection hrop with e1 e2 e3 e4 e5
     subst e1; subst e2; subst e3; subst e4; subst e5
     exact snd_mkslG k hu hi hz h0 h1 h2 hH he
    ·cases hrop
   ·cases hrop
  ·cases hrop
 | call c =>
  exfalso
  obtain ⟨callee, args, argTypes⟩ := c
  cases callee with
  | value fo => simp only [rop] at hrop; revert hrop; (repeat' split) <;> simp
  | invoke r m => simp [rop] at hrop
  | builtin b => cases b <;> simp only [rop] at hrop <;> (try cases hrop; done) <;> (revert hrop; (repeat' split) <;> simp)
 | makeFunc fn first captured =>
  exfalso
  cases fn <;> simp only [rop] at hrop <;> (try cases hrop; done)
  revert hrop; split <;> simp
 | slice t x lo hi mx =>
  exfalso
  cases mx <;> simp only [rop] at hrop <;> (try cases hrop; done)
  revert hrop; (repeat' split) <;> simp
 | _ =>
  exfalso
  simp only [rop] at hrop
  revert hrop
  (repeat' split) <;> simp
theorem frz_here {H : Hp} {ps : Ps} {nx : Nat} {w : World} {o : Nat} {ck : Ck} {v : Value} (hr : HR H ps cx.M nx w) (fr : Fr cx.B cx.w0 w) (lb : ∀ o ck p, H o = some ck → ps o = some p → cx.B p.b ∨ cx.w0.heap.size ≤ p.b) (hH : H o = some ck) (hz : 0 < ck.sz)
  (hv : VR H ps cx.M nx w (.own o ck.gen 0 ck.xs.length) v) : Mv cx H ps nx w (H.put o (some ⟨ck.gen + 1, ck.sz, []⟩)) (ps.put o none) nx w ∧ VR (H.put o (some ⟨ck.gen + 1, ck.sz, []⟩)) (ps.put o none) cx.M nx w (.lst false ck.xs) v := by
 have m : Mv cx H ps nx w (H.put o (some ⟨ck.gen + 1, ck.sz, []⟩)) (ps.put o none) nx w :=
  Mv.upd o ⟨ck.gen + 1, ck.sz, []⟩ none nx w hr fr lb (Nat.le_refl _) (hr.lt o ck hH) (.inr ⟨ck, hH, .inl (Nat.lt_succ_self _)⟩) ((Grew.refl w).but _) (fun p' h => by cases h) fun _ => .inl ⟨Ps.put_same .., rfl⟩
 refine ⟨m, ?_⟩
 cases hv with
 | own _ _ _ _ _ h0 h1 hh =>
  obtain ⟨_, hh⟩ := hh ck hH
  obtain ⟨_, a, cap, rfl, hn, hcap⟩ := hh rfl
  by_cases hn0 : ck.xs = []
  ·rw [hn0]; exact .lnil false a cap (fun e => by cases e)
  ·have hpos := List.length_pos_iff.2 hn0
   rcases hcap with hcap | ⟨p, hp1, rfl, htot⟩
   ·omega
   ·rcases hr.cr o ck hH with ⟨q1, _⟩ | ⟨p', c, E, vs, q1, q2, q3, q4, q5, q6, q7⟩
    ·rw [hp1] at q1; cases q1
    ·rw [hp1] at q1; injection q1 with q1; subst q1
     refine .lst false ck.xs p.b (p.k + 0 * ck.sz) cap ck.sz vs hn0 hz hn (fun e => by cases e) ?_ q4 (fun i j hi hj => (q6 i j hi hj).1) (fun i j hi hj => ?_) (fun i j hi hj => (q7 i j hi hj).mono m.kp)
     ·rintro (hm | ⟨j, ck', p', k1, k2, k3⟩)
      ·exact hr.dj o ck p hH hp1 hm
      ·by_cases e : j = o
       ·subst e; rw [Ps.put_same] at k2; cases k2
       ·rw [Hp.put_ne _ _ _ e] at k1; rw [Ps.put_ne _ _ _ e] at k2
        exact e (hr.inj j o ck' ck p' p k1 hH k2 hp1 k3)
     ·have h2 := (q6 i j hi hj).2
      rw [q2.cell]
      rw [Nat.zero_mul, Nat.add_zero]; exact h2
theorem exec_sound (hg : GlOK P cx.w0 cx.B) {ow : Bool} {o : Oper} {op : ROp} {s : St} {ps : Ps} {a : Act} {w : World} {e : Rc} (hrop : rop P ow o.op = some op) (R : RS cx s ps a w) (hd : ∀ d, o.dst = some d → d < cx.nt ∧ cx.fz d = none) (h : Exec P op true s e)
  (K : Act → World → Prop) (hK : ∀ ps' a' w', RS cx (s.app o.dst e) ps' a' w' → K a' w') : o.wp P a w K Q := by
 rcases h with ⟨u, hev, hpost, hnx, _⟩ | ⟨f, xs, fn, caps, rfl, hf, pre, hcall, hpre, _⟩ | ⟨z, o1, sz, rfl, hH, rfl⟩ | ⟨sz, by', y, x, o1, ck, d, u, rfl, hn, hH, hxs, he, rfl⟩ | ⟨sz, by', y, x, o1, ck, rfl, hev, hz, rfl⟩ | ⟨sz, by', z, l, c, o1, sz0, d, ck, rfl, hev, hH, rfl⟩
 ·obtain ⟨nv, v, w', ps', hrun, hnv, hv, hm⟩ := ev_sound R.pre hrop hev
  unfold Oper.wp
  rw [hrun]
  have hst := R.step hm hv hd
  have he : s.app o.dst e = ⟨putT s.T o.dst e.res, u.hp s.H s.nx, u.nx s.nx⟩ := by simp only [St.app, hpost, hnx, Up.puts_post]
  rcases hnv with rfl | ⟨rfl, rfl⟩
  ·exact hK ps' _ _ (by rw [he]; exact hst)
  ·exact hK ps' _ _ (by rw [he]; exact hst)
 ·-- a call
  have hcall' : ∃ c, o.op = .call c ∧ ∃ fo, c.callee = .value fo ∧ ro fo = some f ∧ ros c.args.toList = some xs := by
   obtain ⟨dst, op, type, pos, after, guard⟩ := o
   simp only at hrop ⊢
   cases op with
   | call c =>
    obtain ⟨callee, args, argTypes⟩ := c
    cases callee with
    | value fo =>
     simp only [rop] at hrop
     split at hrop
     ·rename_i f' xs' h1 h2
      injection hrop with hrop; injection hrop with e1 e2; subst e1; subst e2
      exact ⟨_, rfl, fo, rfl, h1, h2⟩
     ·cases hrop
    | invoke r m => simp [rop] at hrop
    | builtin b =>
     cases b <;> simp only [rop] at hrop <;> (try cases hrop; done)
     all_goals (exfalso; revert hrop; (repeat' split) <;> simp)
   | makeFunc fn first captured =>
    exfalso
    cases fn <;> simp only [rop] at hrop <;> (try cases hrop; done)
    revert hrop; split <;> simp
   | slice t x lo hi mx =>
    exfalso
    cases mx <;> simp only [rop] at hrop <;> (try cases hrop; done)
    revert hrop; (repeat' split) <;> simp
   | _ =>
    exfalso
    simp only [rop] at hrop
    revert hrop
    (repeat' split) <;> simp
  obtain ⟨c, hop, fo, hcl, hfo, hxs⟩ := hcall'
  have hfv := R.pre.ro hfo
  rw [hf] at hfv
  obtain ⟨cv, hfe, hcl', hcv⟩ := hfv.fn_inv
  obtain ⟨r1, r2⟩ := ros_sound (a := a) (cx := cx) rfl R.t c.args.toList xs hxs
  obtain ⟨gn, hgn, hname, hbody⟩ := hcall.fn
  let cargs : Array Value := c.args.map a.eval ++ cv
  have hsz : cargs.size = (xs.map (fun x => un true (x.get s.T)) ++ caps).length := by
   simp [cargs, r1, hcl']
  have hva : ∀ j (hj : j < (xs.map (fun x => un true (x.get s.T)) ++ caps).length), VR s.H ps cx.M s.nx w (xs.map (fun x => un true (x.get s.T)) ++ caps)[j] (cargs.getD j undef) := by
   intro j hj
   by_cases hlt : j < xs.length
   ·have hjc : j < c.args.size := by simpa [r1] using hlt
    have e1 : cargs.getD j undef = a.eval c.args[j] := by
     simp [cargs, Array.getD_eq_getD_getElem?, Array.getElem?_append, hjc]
    rw [e1, List.getElem_append_left (by simpa using hlt)]
    have := r2 j hlt (by simpa using hjc)
    simpa using this
   ·have hjc : ¬ j < c.args.size := by simpa [r1] using hlt
    have hj2 : j - xs.length < caps.length := by simp at hj; omega
    have hxc : xs.length = c.args.size := by simpa using r1
    have e1 : cargs.getD j undef = cv.getD (j - xs.length) undef := by
     simp [cargs, Array.getD_eq_getD_getElem?, Array.getElem?_append, hjc, hxc]
    rw [e1, List.getElem_append_right (by simp; omega)]
    have := hcv (j - xs.length) hj2
    simpa using this
  have hcalls := hcall.calls hg R.hr R.fr R.lb hpre cargs hsz hva
  have hrun : (execOp a.eval o).run P w = .ok (.enter fn cargs) w := by
   have hbn : gn.body.isNone = false := hbody
   simp only [execOp, hop, resolve, hcl, hfe, Deferred.ofValue, Sem.run_bind, Sem.run_pure, Result.andThen_ok, invoke, callFunc, run_program, hgn]
   rw [if_neg (by simp [hname]), if_neg (by simp [hbn])]
   simp [cargs]
  unfold Oper.wp
  rw [hrun]
  show Calls P fn cargs w _
  refine hcalls.mono ?_
  rintro en w' ⟨v, ps', rfl, hv, hm⟩
  exact hK ps' _ _ (R.step hm hv hd)
 ·-- a chunk that waited
  obtain ⟨nv, v, w', ps', hrun, hnv, hv, hm⟩ := gh_sound R.pre hrop hH
  unfold Oper.wp
  rw [hrun]
  have hst := R.step hm hv hd
  rcases hnv with rfl | ⟨rfl, rfl⟩
  ·exact hK ps' _ _ hst
  ·exact hK ps' _ _ hst
 ·-- an append to nil that fills a chunk
  obtain ⟨nv, v, w', ps', hrun, hnv, hv, hm⟩ := appn_sound R.pre hrop hn hH hxs he
  unfold Oper.wp
  rw [hrun]
  have hst := R.step hm hv hd
  have heq : s.app o.dst ⟨d, u.post s.nx, u.nx s.nx, o1 :: (un true (x.get s.T)).ids⟩ = ⟨putT s.T o.dst d, u.hp s.H s.nx, u.nx s.nx⟩ := by simp only [St.app, Up.puts_post]
  rcases hnv with rfl | ⟨rfl, rfl⟩
  ·exact hK ps' _ _ (by rw [heq]; exact hst)
  ·exact hK ps' _ _ (by rw [heq]; exact hst)
 ·-- an append that is frozen at once
  obtain ⟨nv, v, w', ps', hrun, hnv, hv, hm⟩ := ev_sound R.pre hrop hev
  unfold Oper.wp
  rw [hrun]
  have hst0 := R.step (dst := none) (d := .any) (x := undef) hm (.any _) (fun t h => by cases h)
  obtain ⟨m2, v2⟩ := frz_here (ck := ck) hm.hr hm.fr hm.lb (Hp.put_same ..) hz hv
  have hst := hst0.step (dst := o.dst) m2 v2 hd
  have heq : s.app o.dst ⟨.lst false ck.xs, [(o1, ⟨ck.gen + 1, ck.sz, []⟩)], s.nx, rds (.app sz by' y x) true s.T⟩ = ⟨putT s.T o.dst (.lst false ck.xs), (s.H.put o1 (some ck)).put o1 (some ⟨ck.gen + 1, ck.sz, []⟩), s.nx⟩ := by
   have : (s.H.put o1 (some ck)).put o1 (some ⟨ck.gen + 1, ck.sz, []⟩) = s.H.put o1 (some ⟨ck.gen + 1, ck.sz, []⟩) := by
    funext j
    by_cases e : j = o1
    ·subst e; rw [Hp.put_same, Hp.put_same]
    ·rw [Hp.put_ne _ _ _ e, Hp.put_ne _ _ _ e, Hp.put_ne _ _ _ e]
   rw [this]; rfl
  rcases hnv with rfl | ⟨rfl, rfl⟩
  ·exact hK _ _ _ (by rw [heq]; exact hst)
  ·exact hK _ _ _ (by rw [heq]; exact hst)
 ·-- a make that fills a chunk
  obtain ⟨nv, v, w', ps', hrun, hnv, hv, hm⟩ := mkn_sound R.pre hrop hH hev
  unfold Oper.wp
  rw [hrun]
  have hst := R.step hm hv hd
  rcases hnv with rfl | ⟨rfl, rfl⟩
  ·exact hK ps' _ _ hst
  ·exact hK ps' _ _ hst
theorem stp_sound (hg0 : GlOK P cx.w0 cx.B) {ow : Nat → Bool} {o : Oper} {i : RI} {idx : Nat} {s : St} {ps : Ps} {a : Act} {w : World} {e : Rc} (ho : ops[idx]? = some o) (hi : rI P cx.nt ow ops o = some i) (R : RS cx s ps a w) (h : Stp P i s e)
  (hz : ∀ d, i.dst = some d → cx.fz d = none) (K : Act → World → Prop) (hK : ∀ ps' a' w', RS cx (s.app i.dst e) ps' a' w' → K a' w') {n : Nat} : wpOpIn (FR cx.ro) n P ops Q idx K a w := by
 obtain ⟨hdst, ⟨ow', hrop⟩, hd0, hg⟩ := rI_parts hi
 have hd : ∀ d, o.dst = some d → d < cx.nt ∧ cx.fz d = none := fun d h => ⟨hd0 d h, hz d (hdst.trans h)⟩
 have toIn : ∀ {a : Act} {w : World} {K : Act → World → Prop}, o.wp P a w K Q → o.wpIn (FR cx.ro) n P a w K Q := fun h => h.toIn fun c hc => by rw [hc] at hrop; simp [rop] at hrop
 have about : ∀ f, o.about P w a.eval = some f → (FR cx.ro).fn f := fun _ _ => trivial
 unfold wpOpIn
 rw [ho]
 simp only
 unfold Stp at h
 rw [hdst] at hK
 rcases hg with ⟨g1, g2⟩ | ⟨j, wn, t, g1, g2, g3⟩
 ·rw [g2] at h
  have hw : Region.wanted o (yielded ops a.tmps) = true := by simp [Region.wanted, g1]
  rw [if_pos hw]
  exact toIn (exec_sound hg0 hrop R hd h K hK)
 ·rw [g3] at h
  obtain ⟨p, hgv, h⟩ := h
  have hw : Region.wanted o (yielded ops a.tmps) = p := by
   have := gv_sound (ops := ops) (a := a) g2 hgv (R.t t)
   simpa [Region.wanted, g1] using this
  rw [hw]
  have skip : p = false → ∀ d, VR s.H ps cx.M s.nx w d undef → RS cx (s.app o.dst ⟨d, [], s.nx, []⟩) ps (a.put o.dst undef) w := by
   intro _ d hv
   exact R.step R.mv hv hd
  rcases h with ⟨rfl, h⟩ | ⟨rfl, rfl⟩ | ⟨htot, d, hev, rfl⟩ | ⟨f, xs, fn, caps, d, hop, hf, hcall, rfl⟩
  ·rw [if_pos rfl]; exact toIn (exec_sound hg0 hrop R hd h K hK)
  ·rw [if_neg (by simp)]
   exact ⟨about, hK ps _ _ (skip rfl _ (.v _))⟩
  ·cases p with
   | false =>
    rw [if_neg (by simp)]
    exact ⟨about, hK ps _ _ (skip rfl _ (.gd _ _ _ (by simp) (fun _ => rfl)))⟩
   | true =>
    rw [if_pos rfl]
    refine toIn ?_
    obtain ⟨nv, v, w', ps', hrun, hnv, hv, hm⟩ := ev_sound R.pre hrop hev
    unfold Oper.wp
    rw [hrun]
    have hst := R.step (dst := o.dst) hm (VR.gd true d v (fun _ => hv) (by simp)) hd
    rcases hnv with rfl | ⟨rfl, rfl⟩
    ·exact hK ps' _ _ hst
    ·exact hK ps' _ _ hst
  ·cases p with
   | false =>
    rw [if_neg (by simp)]
    exact ⟨about, hK ps _ _ (skip rfl _ (.gd _ _ _ (by simp) (fun _ => rfl)))⟩
   | true =>
    rw [if_pos rfl]
    refine toIn (exec_sound hg0 (e := ⟨d, [], s.nx, []⟩) hrop R hd (.inr (.inl ⟨f, xs, fn, caps, hop, hf, [], hcall, (fun o ck h => by cases h), (fun o ck h => by cases h)⟩)) K fun ps' a' w' R' => hK ps' a' w' ?_)
    refine ⟨fun t => ?_, R'.nt, R'.hr, R'.fr, R'.lb, R'.df, R'.nbx, R'.gm, R'.fz⟩
    have := R'.t t
    simp only [St.app] at this ⊢
    cases hdst : o.dst with
    | none => rw [hdst] at this; exact this
    | some q =>
     rw [hdst] at this
     simp only [putT] at this ⊢
     by_cases hq : t = q
     ·subst hq; rw [upd_same] at this ⊢; exact .gd true d _ (fun _ => this) (by simp)
     ·rw [upd_ne _ _ _ _ hq] at this ⊢; exact this
end
end Go.Pv
