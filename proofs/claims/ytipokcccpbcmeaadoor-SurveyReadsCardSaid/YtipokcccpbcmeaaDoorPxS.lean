/- Calls that end by a panic (CallPan), code whose calls may do so (TP, runP), and its soundness. No condition of its own: over any program. -/
import Derived.Test.YtipokcccpbcmeaaDoorPxN
set_option linter.all false
namespace Go.Pv
open Go.RowKit
structure CallPan (P : Program) (ch : List PanicEntry) (f : FuncId) (args : List DV) (pre : Cks) (nb : Nat) : Prop where
  fn : ∃ fn, P.funcs[f]? = some fn ∧ (fn.name == "runtime.NumGoroutine") = false ∧ fn.body.isNone = false
  run : ∀ (M : Nat → Prop) (ps : Ps) (w : World) (cargs : Array Value), HR (ofL pre) ps M nb w → cargs.size = args.length → (∀ j (hj : j < args.length), VR (ofL pre) ps M nb w args[j] (cargs.getD j undef)) → GlOK P w (Live (ofL pre) ps) →
    Calls P f cargs w fun e w' => e = .panicked ch ∧ Fr (Live (ofL pre) ps) w w'
section
variable {P : Program} {cx : Cx} {ops : Array Oper} {Q : Exit → Act → World → Prop} {ch : List PanicEntry}
end
section
variable {P : Program} {cx : Cx} {ow : Nat → Bool} {ch : List PanicEntry} {Q : Exit → St → Prop} {s : St}
end
abbrev PEnt : Type 1 := {R : Type} → List IV → IH → (List Nat → Option R) → Option R → Option R
def PEntOK (P : Program) (ch : List PanicEntry) (f : FuncId) (E : PEnt) : Prop := ∀ (R : Type) (args : List IV) (HI : IH) (yes : List Nat → Option R) (no : Option R) (r : R), E args HI yes no = some r → no = some r ∨ ∃ os, yes os = some r ∧
  ∀ (dargs : List DV) (H : Hp) (nx : Nat), Rels H nx args dargs → HRel HI H nx → HI.length = nx → ∃ pre, CallPan P ch f dargs pre nx ∧ ∀ o ck, ofL pre o = some ck → H o = some ck ∧ o ∈ os
def PEnvOK (P : Program) (ch : List PanicEntry) (penv : List (Nat × PEnt)) : Prop := ∀ x, x ∈ penv → PEntOK P ch x.1 x.2
theorem PEnvOK.cons {P : Program} {ch : List PanicEntry} {f : Nat} {E : PEnt} {env : List (Nat × PEnt)} (h : PEntOK P ch f E) (k : PEnvOK P ch env) : PEnvOK P ch ((f, E) :: env) := fun x hx => by
  rcases List.mem_cons.1 hx with rfl | hx
  · exact h
  · exact k x hx
inductive TP where
  | tc (c : TC)
  | seq (a b : TP)
  | cond (c : RO) (a b : TP)
  | block (id : Nat) (c : TP)
  | pre (ns : List NS) (c : TP)
  | join (ns : List NS) (c : TP)
  | pcall (l : List TI) (i : TI) (l2 : List TI)
def TP.noh : TP → Bool
  | .tc c => c.noh
  | .seq a b => a.noh && b.noh
  | .cond _ a b => a.noh && b.noh
  | .block _ c => c.noh
  | .pre _ c => c.noh
  | .join _ c => c.noh
  | .pcall _ _ _ => true
section run
variable {R : Type}
end run
section sound
variable {R : Type} {P : Program} {cx : Cx} {ow : Nat → Bool} {r : R} {env : List (Nat × Ent)} {penv : List (Nat × PEnt)} {ch : List PanicEntry} {kp : IH → Option R}
end sound
end Go.Pv
