/- How a function's proof is begun, and the rules by which a walk is reckoned. No condition of its own: over any program. -/
import Derived.Test.YtiemlgicaibccaaPvP
set_option linter.all false
namespace Go.Pv
open Go.RowKit
def bodyOf (fn : Func) : Code := fn.body.getD .skip
structure FnOK (P : Program) (f : FuncId) (nt : Nat) (ow : Nat → Bool) (ac : AC) (rs : List RR) : Prop where
 ex : ∃ fn, P.funcs[f]? = some fn ∧ (fn.name == "runtime.NumGoroutine") = false ∧ fn.body = some (bodyOf fn) ∧ fn.ntmps = nt ∧ comp P nt ow (bodyOf fn) = some ac ∧ resR P fn.results.toList = some rs
theorem FnOK.mk' {P : Program} {f : FuncId} {fn : Func} {ow : Nat → Bool} {ac : AC} {rs : List RR} {nt : Nat} (hf : P.funcs[f]? = some fn) (h1 : (fn.name == "runtime.NumGoroutine") = false) (h2 : fn.body = some (bodyOf fn)) (h3 : fn.ntmps = nt)
  (h4 : comp P nt ow (bodyOf fn) = some ac) (h5 : resR P fn.results.toList = some rs) : FnOK P f nt ow ac rs := ⟨⟨fn, hf, h1, h2, h3, h4, h5⟩⟩
section step
variable {P : Program} {r : List RI} {lg : Lg} {s : St} {T : Nat → DV} {H : Hp} {nx : Nat} {K : Lg → St → Prop}
theorem reg_text {ris : List RI} {K : St → Prop} (h : awpOps P ris [] s fun _ s' => K s') : awpR P ris none s K := h
end step
def awpT (P : Program) (ris : List RI) (s : St) (K : St → Prop) : Prop := ∀ lg, awpOps P ris lg s fun _ s' => K s'
section stept
variable {P : Program} {r : List RI} {T : Nat → DV} {H : Hp} {nx : Nat} {K : St → Prop}
end stept
section idsr
end idsr
section flow
variable {P : Program} {cx : Cx} {ow : Nat → Bool} {Q : Exit → St → Prop} {s : St} {K : St → Prop} {ris : List RI}
theorem AWP.rgK (h : awpT P ris s K) : AWP P cx ow (.rg ris none) (thenQ K Q) s := AWP.rg (reg_text (h _))
end flow
section evs
variable (p : Bool) (T : Nat → DV) (H : Hp) (nx : Nat)
theorem ev_pick (c a b : RO) : ev (.pick c a b) p T H nx = (pickV p (c.get T) (a.get T) (b.get T)).map (·, .no) := rfl
theorem ev_bin (op : BinOp) (x y : RO) : ev (.bin op x y) p T H nx = (binV op (un p (x.get T)) (un p (y.get T))).map (·, .no) := rfl
end evs
section rules
theorem evK_congr {r r' : Option (DV × Up)} (k : DV → Up → Prop) (h : r = r') : evK r k = evK r' k := by rw [h]
theorem gvK_congr {r r' : Option Bool} (k : Bool → Prop) (h : r = r') : gvK r k = gvK r' k := by rw [h]
theorem CallX_congr {P : Program} {fv fv' : DV} {args args' : List DV} {H H' : Hp} {nx nx' : Nat} (k : DV → Cks → Nat → List Nat → Prop) (h1 : fv = fv') (h2 : args = args') (h3 : H = H') (h4 : nx = nx') : CallX P fv args H nx k = CallX P fv' args' H' nx' k := by
 rw [h1, h2, h3, h4]
theorem GC_congr {P : Program} {fv fv' : DV} {args args' : List DV} {nx nx' : Nat} (k : DV → Prop) (b : Prop) (h1 : fv = fv') (h2 : args = args') (h4 : nx = nx') : GC P fv args nx k b = GC P fv' args' nx' k b := by
 rw [h1, h2, h4]
theorem AWP_congr {P : Program} {cx : Cx} {ow : Nat → Bool} {ac : AC} {Q : Exit → St → Prop} {s s' : St} (h : s = s') : AWP P cx ow ac Q s = AWP P cx ow ac Q s' := by rw [h]
theorem awpX_congr {P : Program} {op : ROp} {p : Bool} {s s' : St} (k : DV → Cks → Nat → List Nat → Prop) (h : s = s') : awpX P op p s k = awpX P op p s' k := by rw [h]
theorem GX_congr {P : Program} {p : Bool} {op : ROp} {s s' : St} (k : DV → Prop) (b : Prop) (h : s = s') : GX P p op s k b = GX P p op s' k b := by rw [h]
theorem awpOps_congr {P : Program} {r : List RI} {lg : Lg} {s s' : St} {K : Lg → St → Prop} (h : s = s') : awpOps P r lg s K = awpOps P r lg s' K := by rw [h]
theorem awpR_congr {P : Program} {r : List RI} {un : Option (List (Nat × Nat))} {s s' : St} {K : St → Prop} (h : s = s') : awpR P r un s K = awpR P r un s' K := by rw [h]
attribute [congr] awpX_congr GX_congr awpOps_congr awpR_congr evK_congr gvK_congr CallX_congr GC_congr AWP_congr
end rules
end Go.Pv
