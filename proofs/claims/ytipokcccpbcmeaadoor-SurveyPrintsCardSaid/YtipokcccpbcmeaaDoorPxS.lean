/- Calls that end by a panic (CallPan), code whose calls may do so (TP, runP), and its soundness. No condition of its own: over any program. -/
import Derived.Test.YtipokcccpbcmeaaDoorPxN
set_option linter.all false
namespace Go.Pv
open Go.RowKit
structure CallPan (P : Program) (ch : List PanicEntry) (f : FuncId) (args : List DV) (pre : Cks) (nb : Nat) : Prop where
  fn : ∃ fn, P.funcs[f]? = some fn ∧ (fn.name == "runtime.NumGoroutine") = false ∧ fn.body.isNone = false
  run : ∀ (M : Nat → Prop) (ps : Ps) (w : World) (cargs : Array Value), HR (ofL pre) ps M nb w → cargs.size = args.length → (∀ j (hj : j < args.length), VR (ofL pre) ps M nb w args[j] (cargs.getD j undef)) → GlOK P w (Live (ofL pre) ps) →
    Calls P f cargs w fun e w' => e = .panicked ch ∧ Fr (Live (ofL pre) ps) w w'
section
variable {P : Program} {cx : Cx} {ops : Array Oper} {Q : Exit → Act → World → Prop} {ch : List PanicEntry}
end
section
variable {P : Program} {cx : Cx} {ow : Nat → Bool} {ch : List PanicEntry} {Q : Exit → St → Prop} {s : St}
end
abbrev PEnt : Type 1 := {R : Type} → List IV → IH → (List Nat → Option R) → Option R → Option R
def PEntOK (P : Program) (ch : List PanicEntry) (f : FuncId) (E : PEnt) : Prop := ∀ (R : Type) (args : List IV) (HI : IH) (yes : List Nat → Option R) (no : Option R) (r : R), E args HI yes no = some r → no = some r ∨ ∃ os, yes os = some r ∧
  ∀ (dargs : List DV) (H : Hp) (nx : Nat), Rels H nx args dargs → HRel HI H nx → HI.length = nx → ∃ pre, CallPan P ch f dargs pre nx ∧ ∀ o ck, ofL pre o = some ck → H o = some ck ∧ o ∈ os
def PEnvOK (P : Program) (ch : List PanicEntry) (penv : List (Nat × PEnt)) : Prop := ∀ x, x ∈ penv → PEntOK P ch x.1 x.2
theorem PEnvOK.nil {P : Program} {ch : List PanicEntry} : PEnvOK P ch [] := fun x h => by cases h
theorem PEnvOK.cons {P : Program} {ch : List PanicEntry} {f : Nat} {E : PEnt} {env : List (Nat × PEnt)} (h : PEntOK P ch f E) (k : PEnvOK P ch env) : PEnvOK P ch ((f, E) :: env) := fun x hx => by
  rcases List.mem_cons.1 hx with rfl | hx
  · exact h
  · exact k x hx
inductive TP where
  | tc (c : TC)
  | seq (a b : TP)
  | cond (c : RO) (a b : TP)
  | block (id : Nat) (c : TP)
  | pre (ns : List NS) (c : TP)
  | join (ns : List NS) (c : TP)
  | pcall (l : List TI) (i : TI) (l2 : List TI)
def TP.er : TP → AC
  | .tc c => c.er
  | .seq a b => .seq a.er b.er
  | .cond c a b => .cond c a.er b.er
  | .block id c => .block id c.er
  | .pre _ c => c.er
  | .join _ c => c.er
  | .pcall l i l2 => .rg (l.map (·.ri) ++ i.ri :: l2.map (·.ri)) none
def TP.hok (P : Program) (nt : Nat) (ow : Nat → Bool) (inr : Bool) : TP → Prop
  | .tc c => c.hok P nt ow inr
  | .seq a b => a.hok P nt ow inr ∧ b.hok P nt ow inr
  | .cond _ a b => a.hok P nt ow inr ∧ b.hok P nt ow inr
  | .block _ c => c.hok P nt ow inr
  | .pre _ c => c.hok P nt ow inr
  | .join _ c => c.hok P nt ow inr
  | .pcall _ _ _ => True
def TP.noh : TP → Bool
  | .tc c => c.noh
  | .seq a b => a.noh && b.noh
  | .cond _ a b => a.noh && b.noh
  | .block _ c => c.noh
  | .pre _ c => c.noh
  | .join _ c => c.noh
  | .pcall _ _ _ => true
theorem TP.noh_ok {P : Program} {nt : Nat} {ow : Nat → Bool} {inr : Bool} : ∀ {tc : TP}, tc.noh = true → tc.hok P nt ow inr
  | .tc c, h => TC.noh_ok (tc := c) h
  | .seq a b, h => by simp only [TP.noh, Bool.and_eq_true] at h; exact ⟨TP.noh_ok h.1, TP.noh_ok h.2⟩
  | .cond _ a b, h => by simp only [TP.noh, Bool.and_eq_true] at h; exact ⟨TP.noh_ok h.1, TP.noh_ok h.2⟩
  | .block _ c, h => TP.noh_ok (tc := c) h
  | .pre _ c, h => TP.noh_ok (tc := c) h
  | .join _ c, h => TP.noh_ok (tc := c) h
  | .pcall _ _ _, h => trivial
section run
variable {R : Type}
end run
section sound
variable {R : Type} {P : Program} {cx : Cx} {ow : Nat → Bool} {r : R} {env : List (Nat × Ent)} {penv : List (Nat × PEnt)} {ch : List PanicEntry} {kp : IH → Option R}
end sound
theorem RS.leavesU {P : Program} {cx : Cx} {s : St} {ps : Ps} {F : Fence} {n : Nat} {fn : Func} {Rr : Ending → World → Prop} {tmps : Array Value} {u : FrameMode} (hdb : cx.db = []) (hu : u ≠ .run) : ∀ (ds : List Deferred) (w : World), RS cx s ps ⟨tmps, ds⟩ w →
    (∀ w2, RS cx s ps ⟨tmps, []⟩ w2 → LeavesInM F n P fn tmps Rr [] u w2) → LeavesInM F n P fn tmps Rr ds u w
  | [], w, R, k => k w R
  | d :: ds, w, R, k => by
    obtain ⟨D, w', h1, h2, h3⟩ := RS.unmark (P := P) hdb R rfl
    exact ⟨hu, .inl ⟨D, w', h1, h2, RS.leavesU hdb hu ds w' h3 k⟩⟩
theorem CallPan.intro {P : Program} {ch : List PanicEntry} {f : FuncId} {fn : Func} {c : Code} {ac : AC} {ow : Nat → Bool} {args : List DV} {pre : Cks} {nb : Nat} (hm : P.follows .mixedOrders = true)
    (hf : P.funcs[f]? = some fn) (hname : (fn.name == "runtime.NumGoroutine") = false) (hb : fn.body = some c) (hc : comp P fn.ntmps ow c = some ac) (hlen : args.length ≤ fn.ntmps)
    (h : ∀ cx : Cx, cx.nt = fn.ntmps → cx.nb = nb → cx.ro = none → AWP P cx ow ac (fun e s' => e = .panic ch) ⟨ofArgs args, ofL pre, nb⟩) :
    CallPan P ch f args pre nb := by
  refine ⟨⟨fn, hf, hname, by rw [hb]; rfl⟩, fun M ps w cargs hr hsz hva hgl => ?_⟩
  let cx : Cx := ⟨fn.ntmps, M, Live (ofL pre) ps, w, ofL pre, ps, nb, none, fun _ => none, []⟩
  have R : RS cx ⟨ofArgs args, ofL pre, nb⟩ ps { tmps := cargs ++ Array.replicate (fn.ntmps - cargs.size) undef, defers := [] } w := by
    refine ⟨fun t => ?_, by simp [cx]; omega, hr, Fr.refl _ _, fun o ck p h1 h2 => .inl ⟨o, ck, p, h1, h2, rfl⟩, Marks.nil, Nat.le_refl _, fun o _ ck' hk => ⟨ck', hk, .inr ⟨rfl, rfl, Nat.le_refl _, rfl⟩⟩, fun t v h => by cases h⟩
    by_cases ht : t < args.length
    · have e1 : ofArgs args t = args[t] := by simp [ofArgs, List.getD, ht]
      have e2 : (cargs ++ Array.replicate (fn.ntmps - cargs.size) undef).getD t undef = cargs.getD t undef := by
        have : t < cargs.size := by omega
        simp [Array.getD_eq_getD_getElem?, Array.getElem?_append, this]
      show VR (ofL pre) ps M nb w (ofArgs args t) ((cargs ++ Array.replicate (fn.ntmps - cargs.size) undef).getD t undef)
      rw [e1, e2]; exact hva t ht
    · have e1 : ofArgs args t = .any := by simp [ofArgs, List.getD, List.getElem?_eq_none (Nat.le_of_not_lt ht)]
      show VR (ofL pre) ps M nb w (ofArgs args t) _
      rw [e1]; exact .any _
  refine (callsFR (ro := none) (n := 0)).1 (callsIn_of_wp_marks hf hb trivial (wpIn_mono (h cx rfl rfl rfl ⟨hm, hgl⟩ c hc ac.nofz_none ps _ w R) ?_))
  rintro e ⟨tmps, ds⟩ w' ⟨s', ps', R1, rfl⟩
  exact RS.leavesU (cx := cx) rfl (fun e => by cases e) ds w' R1 fun w2 R2 => ⟨rfl, R2.fr⟩
end Go.Pv
