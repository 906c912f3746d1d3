/- What ways.Apart computes (apartM). No condition of its own: definitions. -/
import Derived.Test.YtiemlgicaibccaaChecked
import Derived.Test.YtiemlgicaibccaaRq
set_option linter.all false
namespace Go.Proofs.Ytiemlgicaibccaa
open Go.Pv
namespace M
abbrev Ste := Int × Int × Int × Int
abbrev Fdr := Int × List Ste × List Bool × List Bool
def us (f : Fdr) (s : Ste) : Prop := f.2.2.1.getD s.2.1.toNat false = false ∧ f.2.2.2.getD s.2.2.1.toNat false = false
def usB (f : Fdr) (s : Ste) : Bool := !(f.2.2.1.getD s.2.1.toNat false) && !(f.2.2.2.getD s.2.2.1.toNat false)
theorem usB_iff {f : Fdr} {s : Ste} : usB f s = true ↔ us f s := by
 unfold usB us
 cases f.2.2.1.getD s.2.1.toNat false <;> cases f.2.2.2.getD s.2.2.1.toNat false <;> simp
inductive Rch (f : Fdr) (p : Int) (x : Int → Prop) : Int → Prop
 | here : Rch f p x p
 | step {s : Ste} (h : Rch f p x s.2.1) (hs : s ∈ f.2.1) (hu : us f s) (hp : s.2.2.1 ≠ p) (hx : ¬ x s.2.2.1) : Rch f p x s.2.2.1
def Wy (f : Fdr) (p : Int) (x : Int → Prop) : Prop := ∃ q, Rch f p x q ∧ f.2.2.1.getD q.toNat false = true
def Wf (f : Fdr) : Prop := f.1 = (f.2.2.1.length : Int) ∧ f.2.2.2.length = f.2.2.1.length ∧ f.2.2.1.length + f.2.1.length ≤ 1000000 ∧ ∀ s, s ∈ f.2.1 → 0 ≤ s.2.1 ∧ s.2.1 < f.1 ∧ 0 ≤ s.2.2.1 ∧ s.2.2.1 < f.1
open Classical in
noncomputable def apartV (f : Fdr) (p : Int) : Int := if ¬ Wy f p (fun _ => False) then 0 else if ∃ q, q ≠ p ∧ 0 ≤ q ∧ q < f.1 ∧ ¬ Wy f p (fun x => x = q) then 1 else 2
open Classical in
noncomputable def apartM (there : Option Bool) (find : Option (Fdr × Unit)) (p : Int) : Option Int :=
 Option.bind there fun t => bif (!t) then some 0 else Option.bind find fun f => bif inB p f.1.2.2.1.length then (if Wf f.1 then some (bif f.1.2.2.1.getD p.toNat false then 2 else apartV f.1 p) else none) else none
abbrev GMine : GT := .pair (.list (.pair (.int .i64) .bool)) (.list (.pair (.int .i64) (.pair (.int .i64) (.pair (.int .i64) (.pair (.int .i64) (.pair .bool (.pair .bool (.pair (.pair (.int .i64) (.int .i64)) (.pair (.int .i64) (.int .i64))))))))))
abbrev GEsc : GT := .pair (.list (.int .i64)) (.pair (.list (.int .i64)) (.pair (.list (.int .i64)) (.int .i64)))
abbrev GSte : GT := .pair (.int .i64) (.pair (.int .i64) (.pair (.int .i64) (.int .i64)))
abbrev GFdr : GT := .pair (.int .i64) (.pair (.list GSte) (.pair (.list .bool) (.list .bool)))
end M
end Go.Proofs.Ytiemlgicaibccaa
