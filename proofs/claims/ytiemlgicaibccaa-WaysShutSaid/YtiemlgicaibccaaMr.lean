/- The operations on a map told by a function, for the walk. No condition of its own: over any program. -/
import Derived.Test.YtiemlgicaibccaaMp
import Derived.WalkKit
import Derived.Maps.Own
import Derived.Maps.OwnOps
set_option linter.all false
namespace Go.Pv
open Go.MapKept Go.Maps
open Go.ChangeMaps (setBlock)
section
variable {P : Program} {k t e : TypeId} {w : World} {b : Nat} {es : Array MapEntry} {clock : Nat} {f : Value → Option Value}
variable {ops : Array Oper} {rest : List Oper} {o : Oper} {a : Act} {Q : Exit → Act → World → Prop}
theorem grown_set (w : World) (b : Nat) (x : Obj) : w.grownBy (setBlock w b x) (some b) :=
 ⟨rfl, rfl, rfl, by simp [setBlock], fun i hi hne => by
  have : b ≠ i := fun e => hne (by rw [e])
  simp [setBlock, this]⟩
theorem wpList_lookup_F (hg : o.guard = none) (m x : Operand) (t : TypeId) (hop : o.op = Op.lookup t m x false) (k e : TypeId) (K : Keyed P k) (ht : P.underlying t = some (.map k e)) {z : Value} (hz : (zeroValue e).run P w = .ok z w)
  (b : Nat) (hm : a.eval m = .map (some b)) (h : MapF P k w b es clock f) (key : Value) (kl : Lit) (hx : a.eval x = key) (hkey : keyOf P k key = some kl)
  (hK : wpList P ops Q rest (a.put o.dst ((f key).getD z)) w) : wpList P ops Q (o :: rest) a w := by
 refine wpList_plain hg fun K' hK' => ?_
 have hrun := h.look K ht hz hkey
 unfold Oper.wp
 simp [execOp, hop, hm, hx, hrun, Result.andThen]
 exact hK' _ _ hK
theorem wpList_mapUpdate_F (hg : o.guard = none) (m x v : Operand) (t : TypeId) (hop : o.op = Op.mapUpdate t m x v) (k e : TypeId) (K : Keyed P k) (ht : P.underlying t = some (.map k e))
  (b : Nat) (hm : a.eval m = .map (some b)) (h : MapF P k w b es clock f) (key val : Value) (kl : Lit) (hx : a.eval x = key) (hv : a.eval v = val) (hkey : keyOf P k key = some kl)
  (hK : ∀ w' es' clock', MapF P k w' b es' clock' (upF f key val) → w.grownBy w' (some b) → w'.heap.size = w.heap.size → wpList P ops Q rest (a.put o.dst undef) w') : wpList P ops Q (o :: rest) a w := by
 refine wpList_plain hg fun K' hK' => ?_
 obtain ⟨es', clock', hrun, h1⟩ := h.store K ht hkey (val := val)
 unfold Oper.wp
 simp [execOp, hop, hm, hx, hv, hrun, Result.andThen]
 exact hK' _ _ (hK _ es' clock' h1 (grown_set _ _ _) (by simp [setBlock]))
end
end Go.Pv
