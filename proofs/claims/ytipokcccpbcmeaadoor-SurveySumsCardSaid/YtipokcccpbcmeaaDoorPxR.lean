/- A range over a function that yields false, then true: its rounds walked as code of the activation (AWP.rngf). No condition of its own: over any program. -/
import Derived.Test.YtipokcccpbcmeaaDoorPvT
set_option linter.all false
namespace Go.Pv
open Go.RowKit

/-- What code writes. -/
def AC.dsts : AC → List Nat
  | .rg ris _ => ris.filterMap (·.dst)
  | .seq a b => a.dsts ++ b.dsts
  | .cond _ a b => a.dsts ++ b.dsts
  | .block _ c => c.dsts
  | .loop c => c.dsts
  | _ => []
theorem AC.nofz_of {fz : Nat → Option Value} : ∀ {ac : AC}, (∀ t, t ∈ ac.dsts → fz t = none) → ac.nofz fz
  | .rg ris _, h => fun k hk d hd => h d (List.mem_filterMap.2 ⟨ris[k], List.getElem_mem hk, hd⟩)
  | .seq a b, h => ⟨AC.nofz_of fun t ht => h t (List.mem_append_left _ ht), AC.nofz_of fun t ht => h t (List.mem_append_right _ ht)⟩
  | .cond _ a b, h => ⟨AC.nofz_of fun t ht => h t (List.mem_append_left _ ht), AC.nofz_of fun t ht => h t (List.mem_append_right _ ht)⟩
  | .block _ c, h => AC.nofz_of (ac := c) h
  | .loop c, h => AC.nofz_of (ac := c) h
  | .skip, _ | .exit _, _ | .ret, _ | .bad, _ | .rngf _ _ _ _, _ => trivial

/-- An iterator that yields false and then, unless it is told to stop, true. -/
def IterFB (P : Program) (f : FuncId) : Prop := ∀ (l : Nat) (W : World) (K : World → Prop) (f1 : FuncId) (t1 : Array Value) (a1 b1 : Code),
  (Instr.yield l #[.bool false]).run P W = .ok (.round l f1 t1 a1 b1) W →
  RoundIn (FR none) 0 P l f1 t1 a1 b1 W (fun e W1 => e = .returned (.bool true) ∧ ∃ t2, (Instr.yield l #[.bool true]).run P W1 = .ok (.round l f1 t2 a1 b1) W1 ∧ RoundIn (FR none) 0 P l f1 t2 a1 b1 W1 (fun e W2 => e = .returned (.bool true) ∧ K W2)) →
  CallsIn (FR none) 0 P f #[.func (.yield l) #[] #[]] W (fun e W2 => (∃ v, e = .returned v) ∧ K W2)

/-- What a round may write is forgotten behind it. -/
def keepD (wr : List Nat) (T : Nat → DV) : Nat → DV := fun t => if t ∈ wr then .any else T t

section
variable {P : Program} {cx : Cx} {ow : Nat → Bool}

theorem round_ok (hm : Hm P cx) {s : St} {ps : Ps} {a : Act} {W : World} {l p : Nat} {fn0 : FuncId} {ca cb : Code} {D : Nat} {x y : AC} (b : Bool) (R : RS cx s ps a W) (hp : p < cx.nt) (hl0 : cx.w0.heap.size ≤ l)
    (hl : W.heap[l]? = some (.loop { state := .ready, pending := none, fn := fn0, tmps := a.tmps, params := #[p], assign := ca, body := cb, defers := D }))
    (hca : comp P cx.nt ow ca = some x) (hcb : comp P cx.nt ow cb = some y) {post : World → Prop}
    (h : ∀ cx' : Cx, cx'.nt = cx.nt → cx'.nb = cx.nb → cx'.ro.isSome = true → AWP P cx' ow x (fun e s1 => e = .normal ∧ ∀ cy : Cx, cy.nt = cx.nt → cy.nb = cx.nb → cy.ro.isSome = true → AWP P cy ow y (fun e s2 => e = .normal ∧ ∀ ps2 w2, RS cx ⟨keepD (p :: (x.dsts ++ y.dsts)) s2.T, s2.H, s2.nx⟩ ps2 a w2 →
      w2.heap[l]? = some (.loop { state := .ready, pending := none, fn := fn0, tmps := a.tmps, params := #[p], assign := ca, body := cb, defers := D }) → post w2) s1) ⟨upd s.T p (B b), s.H, s.nx⟩) :
    RoundIn (FR none) 0 P l fn0 (a.tmps.setIfInBounds p (.bool b)) ca cb W (fun e W1 => e = .returned (.bool true) ∧ post W1) := by
  let wr := p :: (x.dsts ++ y.dsts)
  let fz : Nat → Option Value := fun t => if t ∈ wr then none else some (a.tmps.getD t undef)
  let rb : Loop := { state := .busy, pending := none, fn := fn0, tmps := a.tmps, params := #[p], assign := ca, body := cb, defers := D }
  let cx' : Cx := ⟨cx.nt, cx.M, Live s.H ps, W, cx.H0, cx.ps0, cx.nb, some l, fz, []⟩
  let cy : Cx := ⟨cx.nt, cx.M, Live s.H ps, W.putObj l (.loop rb), cx.H0, cx.ps0, cx.nb, some l, fz, []⟩
  have hllt := heap_lt hl
  have hnl : ¬ Live s.H ps l := R.hr.no_loop hl
  have hgx : GlOK P W (Live s.H ps) := hm.g.of R.fr fun b ⟨o, ck, q, h1, h2, h3⟩ => h3 ▸ R.lb o ck q h1 h2
  have hgy : GlOK P (W.putObj l (.loop rb)) (Live s.H ps) := fun nm hn g hg => by
    obtain ⟨g1, g2, cs, t, f, g3, g4⟩ := hgx nm hn g hg
    refine ⟨by simpa [World.putObj] using g1, g2, cs, t, f, ?_, g4⟩
    rw [World.putObj_heap_other (fun e => by subst e; rw [hl] at g3; cases g3)]; exact g3
  have tm : ∀ t, t ≠ p → (a.tmps.setIfInBounds p (.bool b)).getD t undef = a.tmps.getD t undef := fun t ht => by
    simp [Array.getD_eq_getD_getElem?, Array.getElem?_setIfInBounds_ne (Ne.symm ht)]
  have tp : (a.tmps.setIfInBounds p (.bool b)).getD p undef = .bool b := by
    have : p < a.tmps.size := by rw [R.nt]; exact hp
    simp [Array.getD, this]
  have R0 : RS cx' ⟨upd s.T p (B b), s.H, s.nx⟩ ps ⟨a.tmps.setIfInBounds p (.bool b), []⟩ W := by
    refine ⟨fun t => ?_, by simpa using R.nt, R.hr, Fr.refl _ _, fun o ck q h1 h2 => .inl ⟨o, ck, q, h1, h2, rfl⟩, Marks.nil, R.nbx, R.gm, fun t v hv => ?_⟩
    · show VR s.H ps cx.M s.nx W (upd s.T p (B b) t) ((a.tmps.setIfInBounds p (.bool b)).getD t undef)
      by_cases e : t = p
      · subst e; rw [upd_same, tp]; exact .v _
      · rw [upd_ne _ _ _ _ e, tm t e]; exact R.t t
    · have hv : (if t ∈ wr then none else some (a.tmps.getD t undef)) = some v := hv
      by_cases hw : t ∈ wr
      · rw [if_pos hw] at hv; cases hv
      · rw [if_neg hw] at hv
        injection hv with hv
        show (a.tmps.setIfInBounds p (.bool b)).getD t undef = v
        rw [tm t (fun e => hw (by rw [e]; exact List.mem_cons_self ..)), hv]
  have hfree : ∀ t, t ∈ wr → fz t = none := fun t ht => if_pos ht
  have hzx : x.nofz fz := AC.nofz_of fun t ht => hfree t (List.mem_cons_of_mem _ (List.mem_append_left _ ht))
  have hzy : y.nofz fz := AC.nofz_of fun t ht => hfree t (List.mem_cons_of_mem _ (List.mem_append_right _ ht))
  refine roundIn_of_wpIn trivial ?_
  refine wpIn_mono (h cx' rfl rfl rfl ⟨hm.m, hgx⟩ ca hca hzx ps _ W R0) ?_
  rintro e a1 w1 ⟨s1, ps1, R1, rfl, hb⟩
  have hl1 : w1.heap[l]? = _ := (R1.fr.block l hllt hnl).trans hl
  refine ⟨_, run_beginRound hl1 rfl, ?_⟩
  have q1 : Quiet 0 w1 (w1.putObj l (.loop rb)) := Quiet.putObj hl1 (fun _ _ _ e => by cases e) (Nat.zero_le _)
  have szW : (W.putObj l (.loop rb)).heap.size = W.heap.size := by simp [World.putObj]
  have R1' : RS cy s1 ps1 a1 (w1.putObj l (.loop rb)) := by
    refine ⟨fun t => (R1.t t).quiet q1, R1.nt, R1.hr.quiet q1, ⟨R1.fr.os, R1.fr.tape, R1.fr.output, by rw [q1.size]; show (W.putObj l (.loop rb)).heap.size ≤ _; rw [szW]; exact R1.fr.size, fun b' hb1 hb2 => ?_⟩, fun o ck q h1 h2 => ?_, ?_, R1.nbx, R1.gm, R1.fz⟩
    · by_cases e : b' = l
      · subst e
        show _ = (W.putObj b' (.loop rb)).heap[b']?
        rw [World.putObj_heap_same hllt, World.putObj_heap_same (heap_lt hl1)]
      · show _ = (W.putObj l (.loop rb)).heap[b']?
        rw [World.putObj_heap_other e, World.putObj_heap_other e]
        exact R1.fr.block b' (by have : b' < (W.putObj l (.loop rb)).heap.size := hb1; rwa [szW] at this) hb2
    · rcases R1.lb o ck q h1 h2 with h | h
      · exact .inl h
      · exact .inr (by show (W.putObj l (.loop rb)).heap.size ≤ _; rw [szW]; exact h)
    · show Marks cx.M (W.putObj l (.loop rb)).heap.size _ _ a1.defers
      rw [szW]
      exact R1.df.keep fun D' _ hD' => World.putObj_heap_other fun e => by subst e; rw [hl1] at hD'; cases hD'
  refine wpIn_mono (hb cy rfl rfl rfl ⟨hm.m, hgy⟩ cb hcb hzy ps1 a1 _ R1') ?_
  rintro e a2 w3 ⟨s2, ps2, R2, rfl, hk⟩
  have hl3 : w3.heap[l]? = some (.loop rb) := (R2.fr.block l (by show l < (W.putObj l (.loop rb)).heap.size; rw [szW]; exact hllt) hnl).trans (World.putObj_heap_same hllt)
  refine ⟨_, _, run_endRound none hl3, rfl, ?_⟩
  generalize hlp : ({ rb with state := _, pending := _ } : Loop) = lp
  have hlp' : lp = { state := .ready, pending := none, fn := fn0, tmps := a.tmps, params := #[p], assign := ca, body := cb, defers := D } := by rw [← hlp]; rfl
  have q3 : Quiet 0 w3 (w3.putObj l (.loop lp)) := Quiet.putObj hl3 (fun _ _ _ e => by cases e) (Nat.zero_le _)
  have back : ∀ b', b' < W.heap.size → b' ≠ l → ¬ Live s.H ps b' → (w3.putObj l (.loop lp)).heap[b']? = W.heap[b']? := fun b' h1 h2 h3 => by
    rw [World.putObj_heap_other h2]
    refine (R2.fr.block b' (by show b' < (W.putObj l (.loop rb)).heap.size; rw [szW]; exact h1) h3).trans ?_
    exact World.putObj_heap_other h2
  have szle : W.heap.size ≤ w3.heap.size := by have : (W.putObj l (.loop rb)).heap.size ≤ w3.heap.size := R2.fr.size; rwa [szW] at this
  refine hk ps2 _ ⟨fun t => ?_, R.nt, R2.hr.quiet q3, ⟨R2.fr.os.trans R.fr.os, R2.fr.tape.trans R.fr.tape, R2.fr.output.trans R.fr.output, by rw [q3.size]; exact Nat.le_trans R.fr.size szle, fun b' h1 h2 => ?_⟩, fun o ck q h1 h2 => ?_, ?_, R2.nbx, R2.gm, R.fz⟩ ?_
  · show VR s2.H ps2 cx.M s2.nx _ (keepD wr s2.T t) (a.tmps.getD t undef)
    unfold keepD
    by_cases hw : t ∈ wr
    · rw [if_pos hw]; exact .any _
    · rw [if_neg hw]
      have := R2.fz t (a.tmps.getD t undef) (if_neg hw)
      rw [← this]; exact (R2.t t).quiet q3
  · have hlive : ¬ Live s.H ps b' := by
      rintro ⟨o, ck, q, g1, g2, rfl⟩
      rcases R.lb o ck q g1 g2 with h | h
      · exact h2 h
      · omega
    rw [back b' (Nat.lt_of_lt_of_le h1 R.fr.size) (by omega) hlive]
    exact R.fr.block b' h1 h2
  · rcases R2.lb o ck q h1 h2 with ⟨o', ck', q', g1, g2, g3⟩ | h
    · rcases R.lb o' ck' q' g1 g2 with h | h
      · exact .inl (g3 ▸ h)
      · exact .inr (g3 ▸ h)
    · have h : (W.putObj l (.loop rb)).heap.size ≤ q.b := h
      rw [szW] at h
      exact .inr (Nat.le_trans R.fr.size h)
  · exact R.df.keep fun D' _ hD' => back D' (heap_lt hD') (fun e => by subst e; rw [hl] at hD'; cases hD') (R.hr.no_live hD')
  · rw [World.putObj_heap_same (heap_lt hl3), hlp']

/-- A range over a function that yields false, then true. -/
theorem AWP.rngf {g : RO} {p : Nat} {x y : AC} {s : St} {Q : Exit → St → Prop} {fb : FuncId} (hro : cx.ro = none) (hit : IterFB P fb) (hfn : ∃ fn, P.funcs[fb]? = some fn ∧ (fn.name == "runtime.NumGoroutine") = false ∧ fn.body.isNone = false) (hg : un true (g.get s.T) = .fn fb [])
    (h : ∀ c1 : Cx, c1.nt = cx.nt → c1.nb = cx.nb → c1.ro.isSome = true → AWP P c1 ow x (fun e s1 => e = .normal ∧ ∀ c2 : Cx, c2.nt = cx.nt → c2.nb = cx.nb → c2.ro.isSome = true → AWP P c2 ow y (fun e s2 => e = .normal ∧
      ∀ c3 : Cx, c3.nt = cx.nt → c3.nb = cx.nb → c3.ro.isSome = true → AWP P c3 ow x (fun e s3 => e = .normal ∧ ∀ c4 : Cx, c4.nt = cx.nt → c4.nb = cx.nb → c4.ro.isSome = true → AWP P c4 ow y (fun e s4 => e = .normal ∧
        (cx.nb ≤ s4.nx → ∃ s5, Wk cx ⟨keepD (p :: (x.dsts ++ y.dsts)) s4.T, s4.H, s4.nx⟩ s5 ∧ Q .normal s5)) s3) ⟨upd (keepD (p :: (x.dsts ++ y.dsts)) s2.T) p (B true), s2.H, s2.nx⟩) s1) ⟨upd s.T p (B false), s.H, s.nx⟩) :
    AWP P cx ow (.rngf g p x y) Q s := fun hm c hc hz ps a w R => by
  cases c with
  | rangeFunc g' ps' ca cb =>
    simp only [comp] at hc
    split at hc
    · rename_i r p' x' y' k1 k2 k3 k4
      split at hc
      · rename_i hp
        injection hc with hc; injection hc with e1 e2 e3 e4; subst e1; subst e2; subst e3; subst e4
        have hps : ps' = #[p'] := by
          have := congrArg List.toArray k2; simpa using this
        subst hps
        have hv := un_sound (p := true) rfl (ro_sound (a := a) k1 R.t)
        rw [hg] at hv
        obtain ⟨vs, hev, hvl, _⟩ := hv.fn_inv
        have hvs : vs = #[] := by
          apply Array.eq_empty_of_size_eq_zero; simpa using hvl
        subst hvs
        rw [hro]
        refine wpIn_rangeFunc fun fn _ => ?_
        let l := w.heap.size + 1
        let lp : Loop := { state := .ready, pending := none, fn := fn, tmps := a.tmps, params := #[p'], assign := ca, body := cb, defers := w.heap.size }
        let W := (w.alloc (.deferred (some []))).alloc (.loop lp)
        let a' : Act := { a with defers := [({ target := .collected w.heap.size, args := #[] } : Deferred)] ++ a.defers }
        have s1 : (w.alloc (.deferred (some []))).heap.size = w.heap.size + 1 := by simp
        have hD : W.heap[w.heap.size]? = some (.deferred (some [])) := (Below.heap_alloc _ _ _ (by rw [s1]; omega)).trans (World.alloc_heap_new w _)
        have hl : W.heap[l]? = some (.loop lp) := by
          have := World.alloc_heap_new (w.alloc (.deferred (some []))) (.loop lp)
          rwa [s1] at this
        have R1 := (R.grew (Grew.alloc w (.deferred (some [])))).grew (Grew.alloc (w.alloc (.deferred (some []))) (.loop lp))
        have R' : RS cx s ps a' W := by
          obtain ⟨Ds, m1, m2, m3⟩ := R1.df
          refine ⟨R1.t, R1.nt, R1.hr, R1.fr, R1.lb, ⟨w.heap.size :: Ds, by show [_] ++ a.defers = _; rw [m1]; rfl, List.nodup_cons.2 ⟨fun hmem => ?_, m2⟩, fun D hD' => ?_⟩, R1.nbx, R1.gm, R1.fz⟩
          · obtain ⟨Ds0, n1, n2, n3⟩ := R.df
            have : Ds0 = Ds := by
              have e := List.append_cancel_right (n1.symm.trans m1)
              have := congrArg (List.map fun d : Deferred => match d.target with | .collected D => D | _ => 0) e
              simpa [List.map_map, Function.comp_def] using this
            subst this
            have := heap_lt (n3 _ hmem).2.2
            omega
          · rcases List.mem_cons.1 hD' with rfl | hD'
            · exact ⟨R.fr.size, fun hM => by have := R.hr.ml _ hM; omega, hD⟩
            · exact m3 D hD'
        have hl0 : cx.w0.heap.size ≤ l := Nat.le_trans R.fr.size (Nat.le_succ _)
        have hy : ∀ (W : World) (b : Bool), W.heap[l]? = some (.loop lp) → (Instr.yield l #[.bool b]).run P W = .ok (.round l fn (a.tmps.setIfInBounds p' (.bool b)) ca cb) W := fun W b hW => by
          have := run_yield (P := P) (args := #[.bool b]) hW rfl
          simpa [lp] using this
        obtain ⟨fnn, f1, f2, f3⟩ := hfn
        refine ⟨l, [({ target := .collected w.heap.size, args := #[] } : Deferred)], W, { target := .fn (.func fb) #[], args := #[.func (.yield l) #[] #[]] }, W, fb, #[.func (.yield l) #[] #[]], W, run_enterLoop_outer _ _ _ _ _, ?_, fun _ _ => trivial, ?_, fun e => (by cases e), ?_⟩
        · have hev' : a.eval g' = .func (.func fb) #[] #[] := hev
          simp only [resolve, rangeCall, hev', Deferred.ofValue, Sem.run_bind, Sem.run_pure, Result.andThen_ok]; simp [Act.eval]
        · simp only [invoke, callFunc, Sem.run_bind, run_program, Result.andThen_ok, f1]
          rw [if_neg (by simp [f2]), if_neg (by simp [f3])]; simp
        · have hK := hit l W (fun w3 => w3.heap[l]? = some (.loop lp) ∧ ∃ s' ps', RS cx s' ps' a' w3 ∧ Q .normal s') fn _ ca cb (hy W false hl) ?_
          · refine hK.mono ?_
            rintro e w3 ⟨⟨v, rfl⟩, hl3, s', ps', R3, hq⟩
            refine ⟨none, _, run_endLoop hl3 (by simp [lp]), s', ps', ?_, hq⟩
            exact R3.quiet (Quiet.putObj hl3 (fun _ _ _ e => by cases e) hl0) (R3.df.keep fun D' _ hD' => World.putObj_heap_other fun e => by subst e; rw [hl3] at hD'; cases hD')
          · refine round_ok (a := a') hm false R' hp hl0 hl k3 k4 fun c1 g1 g2 z1 => (h c1 g1 g2 z1).mono ?_
            rintro e s1 ⟨rfl, h2⟩
            refine ⟨rfl, fun c2 g3 g4 z2 => (h2 c2 g3 g4 z2).mono ?_⟩
            rintro e s2 ⟨rfl, h3⟩
            refine ⟨rfl, fun ps2 w2 R2 hl2 => ⟨_, hy w2 true hl2, round_ok (a := a') hm true R2 hp hl0 hl2 k3 k4 fun c3 g5 g6 z3 => (h3 c3 g5 g6 z3).mono ?_⟩⟩
            rintro e s3 ⟨rfl, h4⟩
            refine ⟨rfl, fun c4 g7 g8 z4 => (h4 c4 g7 g8 z4).mono ?_⟩
            rintro e s4 ⟨rfl, h5⟩
            refine ⟨rfl, fun ps4 w4 R4 hl4 => ?_⟩
            obtain ⟨s5, w5, q5⟩ := h5 R4.nbx
            obtain ⟨ps5, R5⟩ := w5 ps4 a' w4 R4
            exact ⟨hl4, s5, ps5, R5, q5⟩
      · cases hc
    · cases hc
  | _ => exfalso; simp only [comp] at hc; revert hc; (repeat' split) <;> simp

theorem Wk.updP {s' : St} {T : Nat → DV} {H : Hp} {nx p : Nat} {b : Bool} (hT : T p = .any) (h : Wk cx ⟨T, H, nx⟩ s') : Wk cx ⟨upd T p (B b), H, nx⟩ ⟨upd s'.T p (B b), s'.H, s'.nx⟩ := fun ps a w R => by
  have hp : a.tmps.getD p undef = .bool b := by
    have := R.t p
    simp only [upd_same] at this
    exact this.v_inv
  obtain ⟨ps', R'⟩ := h ps a w ⟨fun t => by
    have := R.t t
    by_cases e : t = p
    · subst e; show VR _ _ _ _ _ (T t) _; rw [hT]; exact .any _
    · simp only [upd_ne _ _ _ _ e] at this; exact this, R.nt, R.hr, R.fr, R.lb, R.df, R.nbx, R.gm, R.fz⟩
  refine ⟨ps', ⟨fun t => ?_, R'.nt, R'.hr, R'.fr, R'.lb, R'.df, R'.nbx, R'.gm, R'.fz⟩⟩
  show VR _ _ _ _ _ (upd s'.T p (B b) t) _
  by_cases e : t = p
  · subst e; rw [upd_same, hp]; exact .v _
  · rw [upd_ne _ _ _ _ e]; exact R'.t t
end
end Go.Pv
