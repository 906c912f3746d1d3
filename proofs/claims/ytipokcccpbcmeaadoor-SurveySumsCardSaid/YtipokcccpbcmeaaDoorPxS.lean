/- Calls that end by a panic (CallPan), code whose calls may do so (TP, runP), and its soundness. No condition of its own: over any program. -/
import Derived.Test.YtipokcccpbcmeaaDoorPxN
set_option linter.all false
namespace Go.Pv
open Go.RowKit

/-- A call that ends by a panic with these entries; what it turned besides the chunks told is as it was. -/
structure CallPan (P : Program) (ch : List PanicEntry) (f : FuncId) (args : List DV) (pre : Cks) (nb : Nat) : Prop where
  fn : ∃ fn, P.funcs[f]? = some fn ∧ (fn.name == "runtime.NumGoroutine") = false ∧ fn.body.isNone = false
  run : ∀ (M : Nat → Prop) (ps : Ps) (w : World) (cargs : Array Value), HR (ofL pre) ps M nb w → cargs.size = args.length → (∀ j (hj : j < args.length), VR (ofL pre) ps M nb w args[j] (cargs.getD j undef)) → GlOK P w (Live (ofL pre) ps) →
    Calls P f cargs w fun e w' => e = .panicked ch ∧ Fr (Live (ofL pre) ps) w w'

def lessH (l : Cks) (H : Hp) : Hp := fun o => match ofL l o with | some _ => none | none => H o
theorem lessH_in {l : Cks} {H : Hp} {o : Nat} {ck : Ck} (h : lessH l H o = some ck) : ofL l o = none ∧ H o = some ck := by
  unfold lessH at h
  split at h
  · cases h
  · exact ⟨‹_›, h⟩
theorem CallPan.weak {P : Program} {ch : List PanicEntry} {f : FuncId} {args args' : List DV} {pre : Cks} {nb : Nat} (h : CallPan P ch f args pre nb) (hw : Both WkD args' args) : CallPan P ch f args' pre nb :=
  ⟨h.fn, fun M ps w cargs hr hsz hva hgl => h.run M ps w cargs hr (by rw [hsz, hw.1]) (fun j hj => hw.2 j (by rw [hw.1]; exact hj) hj _ _ _ _ _ _ (hva j (by rw [hw.1]; exact hj))) hgl⟩

theorem CallPan.calls {P : Program} {ch : List PanicEntry} {f : FuncId} {args : List DV} {pre : Cks} {nb : Nat} (h : CallPan P ch f args pre nb) {cx : Cx} (hg : GlOK P cx.w0 cx.B) {H : Hp} {ps : Ps} {w : World} (hr : HR H ps cx.M nb w) (fr : Fr cx.B cx.w0 w)
    (lb : ∀ o ck p, H o = some ck → ps o = some p → cx.B p.b ∨ cx.w0.heap.size ≤ p.b) (hpre : ∀ o ck, ofL pre o = some ck → H o = some ck) (cargs : Array Value) (hl : cargs.size = args.length)
    (ha : ∀ j (hj : j < args.length), VR H ps cx.M nb w args[j] (cargs.getD j undef)) :
    Calls P f cargs w fun e w' => e = .panicked ch ∧ Mv cx H ps nb w (lessH pre H) ps nb w' := by
  let M' : Nat → Prop := fun b => cx.M b ∨ (Live H ps b ∧ ¬ Live (ofL pre) ps b)
  have hlive : ∀ b, Live (ofL pre) ps b → Live H ps b := fun b ⟨o, ck, p, h1, h2, h3⟩ => ⟨o, ck, p, hpre o ck h1, h2, h3⟩
  have hmu : ∀ b, Mu (ofL pre) ps M' b ↔ Mu H ps cx.M b := by
    intro b
    constructor
    · rintro ((h | h) | h)
      · exact .inl h
      · exact .inr h.1
      · exact .inr (hlive b h)
    · rintro (h | h)
      · exact .inl (.inl h)
      · by_cases h' : Live (ofL pre) ps b
        · exact .inr h'
        · exact .inl (.inr ⟨h, h'⟩)
  have kp0 : Kp H ps cx.M nb w (ofL pre) ps M' nb w :=
    ⟨Nat.le_refl _, fun o _ ck' hk => ⟨ck', hpre o ck' hk, .inr ⟨rfl, rfl, Nat.le_refl _, rfl⟩⟩, fun b hb => .inl ((hmu b).1 hb), fun _ _ _ => rfl⟩
  have hr0 : HR (ofL pre) ps M' nb w := by
    refine ⟨fun o ck ho => hr.lt o ck (hpre o ck ho), fun o ck ho => (hr.cr o ck (hpre o ck ho)).mono kp0 rfl fun _ _ => rfl, fun o o' ck ck' p p' h1 h2 => hr.inj o o' ck ck' p p' (hpre _ _ h1) (hpre _ _ h2), ?_, ?_⟩
    · rintro b (hb | ⟨⟨o, ck, p, h1, h2, h3⟩, _⟩)
      · exact hr.ml b hb
      · rw [← h3]; exact hr.live_lt h1 h2
    · intro o ck p h1 h2 hM
      rcases hM with hM | ⟨_, hM⟩
      · exact hr.dj o ck p (hpre o ck h1) h2 hM
      · exact hM ⟨o, ck, p, h1, h2, rfl⟩
  refine (h.run M' ps w cargs hr0 hl (fun j hj => (ha j hj).mono kp0) (hg.of fr fun b ⟨o, ck, p, h1, h2, h3⟩ => h3 ▸ lb o ck p (hpre o ck h1) h2)).mono ?_
  rintro e w' ⟨rfl, fr'⟩
  have kp : Kp H ps cx.M nb w (lessH pre H) ps cx.M nb w' :=
    ⟨Nat.le_refl _, fun o ho ck' hk => ⟨ck', (lessH_in hk).2, .inr ⟨rfl, rfl, Nat.le_refl _, rfl⟩⟩, fun b hb => .inl (hb.elim .inl fun ⟨o, ck, p, h1, h2, h3⟩ => .inr ⟨o, ck, p, (lessH_in h1).2, h2, h3⟩), fun b hb hm => fr'.block b hb fun hl => hm (.inr (hlive b hl))⟩
  have keep : ∀ o ck p, lessH pre H o = some ck → ps o = some p → w'.heap[p.b]? = w.heap[p.b]? := fun o ck p h1 h2 => by
    obtain ⟨g1, g2⟩ := lessH_in h1
    refine fr'.block p.b (hr.live_lt g2 h2) ?_
    rintro ⟨o', ck', p', k1, k2, k3⟩
    have := hr.inj o' o ck' ck p' p (hpre _ _ k1) g2 k2 h2 k3
    subst this; rw [g1] at k1; cases k1
  refine ⟨rfl, kp, ⟨fun o ck hk => hr.lt o ck (lessH_in hk).2, fun o ck hk => (hr.cr o ck (lessH_in hk).2).mono kp rfl (fun p hp => keep o ck p hk hp), fun o o' c c' p p' h1 h2 => hr.inj o o' c c' p p' (lessH_in h1).2 (lessH_in h2).2, fun b hb => Nat.lt_of_lt_of_le (hr.ml b hb) fr'.size, fun o ck p h1 => hr.dj o ck p (lessH_in h1).2⟩, ⟨fr'.os.trans fr.os, fr'.tape.trans fr.tape, fr'.output.trans fr.output, Nat.le_trans fr.size fr'.size, fun b hb hB => ?_⟩, fun o ck p h1 => lb o ck p (lessH_in h1).2⟩
  rw [fr'.block b (Nat.lt_of_lt_of_le hb fr.size) ?_]
  · exact fr.block b hb hB
  · rintro ⟨o, ck, p, k1, k2, k3⟩
    rcases lb o ck p (hpre o ck k1) k2 with q | q
    · exact hB (k3 ▸ q)
    · omega

/-! ### One operation, and a region -/
section
variable {P : Program} {cx : Cx} {ops : Array Oper} {Q : Exit → Act → World → Prop} {ch : List PanicEntry}
end

section
variable {P : Program} {cx : Cx} {ow : Nat → Bool} {ch : List PanicEntry} {Q : Exit → St → Prop} {s : St}
end
/-! ### Code that may end by a panic -/
abbrev PEnt : Type 1 := {R : Type} → List IV → IH → (List Nat → Option R) → Option R → Option R
def PEntOK (P : Program) (ch : List PanicEntry) (f : FuncId) (E : PEnt) : Prop := ∀ (R : Type) (args : List IV) (HI : IH) (yes : List Nat → Option R) (no : Option R) (r : R), E args HI yes no = some r → no = some r ∨ ∃ os, yes os = some r ∧
  ∀ (dargs : List DV) (H : Hp) (nx : Nat), Rels H nx args dargs → HRel HI H nx → HI.length = nx → ∃ pre, CallPan P ch f dargs pre nx ∧ ∀ o ck, ofL pre o = some ck → H o = some ck ∧ o ∈ os
def PEnvOK (P : Program) (ch : List PanicEntry) (penv : List (Nat × PEnt)) : Prop := ∀ x, x ∈ penv → PEntOK P ch x.1 x.2
theorem PEnvOK.nil {P : Program} {ch : List PanicEntry} : PEnvOK P ch [] := fun x h => by cases h
theorem PEnvOK.cons {P : Program} {ch : List PanicEntry} {f : Nat} {E : PEnt} {env : List (Nat × PEnt)} (h : PEntOK P ch f E) (k : PEnvOK P ch env) : PEnvOK P ch ((f, E) :: env) := fun x hx => by
  rcases List.mem_cons.1 hx with rfl | hx
  · exact h
  · exact k x hx
inductive TP where
  | tc (c : TC)
  | seq (a b : TP)
  | cond (c : RO) (a b : TP)
  | block (id : Nat) (c : TP)
  | pre (ns : List NS) (c : TP)
  | join (ns : List NS) (c : TP)
  | pcall (l : List TI) (i : TI) (l2 : List TI)
def TP.er : TP → AC
  | .tc c => c.er
  | .seq a b => .seq a.er b.er
  | .cond c a b => .cond c a.er b.er
  | .block id c => .block id c.er
  | .pre _ c => c.er
  | .join _ c => c.er
  | .pcall l i l2 => .rg (l.map (·.ri) ++ i.ri :: l2.map (·.ri)) none
def TP.hok (P : Program) (nt : Nat) (ow : Nat → Bool) (inr : Bool) : TP → Prop
  | .tc c => c.hok P nt ow inr
  | .seq a b => a.hok P nt ow inr ∧ b.hok P nt ow inr
  | .cond _ a b => a.hok P nt ow inr ∧ b.hok P nt ow inr
  | .block _ c => c.hok P nt ow inr
  | .pre _ c => c.hok P nt ow inr
  | .join _ c => c.hok P nt ow inr
  | .pcall _ _ _ => True
def TP.noh : TP → Bool
  | .tc c => c.noh
  | .seq a b => a.noh && b.noh
  | .cond _ a b => a.noh && b.noh
  | .block _ c => c.noh
  | .pre _ c => c.noh
  | .join _ c => c.noh
  | .pcall _ _ _ => true
theorem TP.noh_ok {P : Program} {nt : Nat} {ow : Nat → Bool} {inr : Bool} : ∀ {tc : TP}, tc.noh = true → tc.hok P nt ow inr
  | .tc c, h => TC.noh_ok (tc := c) h
  | .seq a b, h => by simp only [TP.noh, Bool.and_eq_true] at h; exact ⟨TP.noh_ok h.1, TP.noh_ok h.2⟩
  | .cond _ a b, h => by simp only [TP.noh, Bool.and_eq_true] at h; exact ⟨TP.noh_ok h.1, TP.noh_ok h.2⟩
  | .block _ c, h => TP.noh_ok (tc := c) h
  | .pre _ c, h => TP.noh_ok (tc := c) h
  | .join _ c, h => TP.noh_ok (tc := c) h
  | .pcall _ _ _, h => trivial

section run
variable {R : Type}
end run

section sound
variable {R : Type} {P : Program} {cx : Cx} {ow : Nat → Bool} {r : R} {env : List (Nat × Ent)} {penv : List (Nat × PEnt)} {ch : List PanicEntry} {kp : IH → Option R}

end sound

/-! ### Entries -/
theorem RS.leavesU {P : Program} {cx : Cx} {s : St} {ps : Ps} {F : Fence} {n : Nat} {fn : Func} {Rr : Ending → World → Prop} {tmps : Array Value} {u : FrameMode} (hdb : cx.db = []) (hu : u ≠ .run) : ∀ (ds : List Deferred) (w : World), RS cx s ps ⟨tmps, ds⟩ w →
    (∀ w2, RS cx s ps ⟨tmps, []⟩ w2 → LeavesInM F n P fn tmps Rr [] u w2) → LeavesInM F n P fn tmps Rr ds u w
  | [], w, R, k => k w R
  | d :: ds, w, R, k => by
    obtain ⟨D, w', h1, h2, h3⟩ := RS.unmark (P := P) hdb R rfl
    exact ⟨hu, .inl ⟨D, w', h1, h2, RS.leavesU hdb hu ds w' h3 k⟩⟩
/-- From a walk that ends by a panic to a call. -/
theorem CallPan.intro {P : Program} {ch : List PanicEntry} {f : FuncId} {fn : Func} {c : Code} {ac : AC} {ow : Nat → Bool} {args : List DV} {pre : Cks} {nb : Nat} (hm : P.follows .mixedOrders = true)
    (hf : P.funcs[f]? = some fn) (hname : (fn.name == "runtime.NumGoroutine") = false) (hb : fn.body = some c) (hc : comp P fn.ntmps ow c = some ac) (hlen : args.length ≤ fn.ntmps)
    (h : ∀ cx : Cx, cx.nt = fn.ntmps → cx.nb = nb → cx.ro = none → AWP P cx ow ac (fun e s' => e = .panic ch) ⟨ofArgs args, ofL pre, nb⟩) :
    CallPan P ch f args pre nb := by
  refine ⟨⟨fn, hf, hname, by rw [hb]; rfl⟩, fun M ps w cargs hr hsz hva hgl => ?_⟩
  let cx : Cx := ⟨fn.ntmps, M, Live (ofL pre) ps, w, ofL pre, ps, nb, none, fun _ => none, []⟩
  have R : RS cx ⟨ofArgs args, ofL pre, nb⟩ ps { tmps := cargs ++ Array.replicate (fn.ntmps - cargs.size) undef, defers := [] } w := by
    refine ⟨fun t => ?_, by simp [cx]; omega, hr, Fr.refl _ _, fun o ck p h1 h2 => .inl ⟨o, ck, p, h1, h2, rfl⟩, Marks.nil, Nat.le_refl _, fun o _ ck' hk => ⟨ck', hk, .inr ⟨rfl, rfl, Nat.le_refl _, rfl⟩⟩, fun t v h => by cases h⟩
    by_cases ht : t < args.length
    · have e1 : ofArgs args t = args[t] := by simp [ofArgs, List.getD, ht]
      have e2 : (cargs ++ Array.replicate (fn.ntmps - cargs.size) undef).getD t undef = cargs.getD t undef := by
        have : t < cargs.size := by omega
        simp [Array.getD_eq_getD_getElem?, Array.getElem?_append, this]
      show VR (ofL pre) ps M nb w (ofArgs args t) ((cargs ++ Array.replicate (fn.ntmps - cargs.size) undef).getD t undef)
      rw [e1, e2]; exact hva t ht
    · have e1 : ofArgs args t = .any := by simp [ofArgs, List.getD, List.getElem?_eq_none (Nat.le_of_not_lt ht)]
      show VR (ofL pre) ps M nb w (ofArgs args t) _
      rw [e1]; exact .any _
  refine (callsFR (ro := none) (n := 0)).1 (callsIn_of_wp_marks hf hb trivial (wpIn_mono (h cx rfl rfl rfl ⟨hm, hgl⟩ c hc ac.nofz_none ps _ w R) ?_))
  rintro e ⟨tmps, ds⟩ w' ⟨s', ps', R1, rfl⟩
  exact RS.leavesU (cx := cx) rfl (fun e => by cases e) ds w' R1 fun w2 R2 => ⟨rfl, R2.fr⟩

end Go.Pv
