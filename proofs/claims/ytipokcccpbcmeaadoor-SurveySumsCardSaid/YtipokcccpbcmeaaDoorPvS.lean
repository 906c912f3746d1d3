/- A call from the outside: nothing of one's own in memory. No condition of its own. -/
import Derived.Test.YtipokcccpbcmeaaDoorPvR
import Derived.ProofKit
set_option linter.all false
namespace Go.Pv
open Go.RowKit

/-- The reading of an argument by a call from the outside. -/
abbrev Rd (W : World) : DV → Value → Prop := VR Hp.emp (fun _ => none) (fun _ => False) 0 W

theorem not_live (b : Nat) : ¬ Live Hp.emp (fun _ => none) b := fun ⟨_, _, _, h, _, _⟩ => by cases h

theorem CallOK.outer {P : Program} {f : FuncId} {args : List DV} {r : Value} {nx' : Nat} (h : CallOK P f args [] 0 (.v r) [] nx') {W : World} (hgl : GlOK P W fun _ => False) {cargs : Array Value} (hl : cargs.size = args.length)
    (ha : ∀ j (hj : j < args.length), Rd W args[j] (cargs.getD j undef)) : Calls P f cargs W fun e W' => e = .returned r ∧ Below W.heap.size W W' := by
  refine (h.run (fun _ => False) (fun _ => none) W cargs ⟨fun o ck h => (by cases h), fun o ck h => (by cases h), fun o o' ck ck' p p' h => (by cases h), fun b h => h.elim, fun o ck p h => (by cases h)⟩ hl ha (hgl.less fun b hb => (not_live b hb).elim)).mono ?_
  rintro e W' ⟨v, ps', rfl, hv, _, fr, _, _⟩
  cases hv
  exact ⟨rfl, fr.os, fr.tape, fr.output, fr.size, fun k hk => fr.block k hk (not_live k)⟩

theorem Rd.i (W : World) (n : Int) : Rd W (I n) (.int .i64 n) := .v _
theorem Rd.b (W : World) (b : Bool) : Rd W (B b) (.bool b) := .v _
end Go.Pv
