/- The range over a map told by a function, for the walk. No condition of its own: over any program. -/
import Derived.Test.YtiemlgicaibccaaMr
import Derived.Maps.RangeWalk
set_option linter.all false
namespace Go.Pv
open Go.MapKept Go.Maps
open Go.ChangeMaps (setBlock)
structure IterF (w : World) (b r : Nat) (es : Array MapEntry) (clock since c0 : Nat) (seen : Array Nat) : Prop where
 hr : w.heap[r]? = some (.mapIter (some b) since seen c0)
 hold : ∀ x ∈ es.toList, x.born < since
 hsc : since ≤ c0
 hsk : since ≤ clock
section
variable {P : Program} {k t e : TypeId} {w : World} {b r : Nat} {es : Array MapEntry} {clock since c0 : Nat} {seen : Array Nat} {f : Value → Option Value}
variable {ops : Array Oper} {rest : List Oper} {o : Oper} {a : Act} {Q : Exit → Act → World → Prop}
theorem MapF.lt (h : MapF P k w b es clock f) : b < w.heap.size := by
 rcases Nat.lt_or_ge b w.heap.size with h' | h'
 ·exact h'
 ·have := h.hb; rw [Array.getElem?_eq_none h'] at this; cases this
theorem MapF.grown {w' : World} {row : Option Nat} (h : MapF P k w b es clock f) (g : w.grownBy w' row) (hne : some b ≠ row) : MapF P k w' b es clock f := h.same (g.block b h.lt hne)
theorem wpList_range_F (hg : o.guard = none) (m : Operand) (t : TypeId) (hop : o.op = Op.range t m) (k e : TypeId) (ht : P.underlying t = some (.map k e)) (b : Nat) (hm : a.eval m = .map (some b)) (h : MapF P k w b es clock f)
  (hK : ∀ w', MapF P k w' b es clock f → IterF w' b w.heap.size es clock clock clock #[] → w.grownBy w' none → w'.heap.size = w.heap.size + 1 → wpList P ops Q rest (a.put o.dst (.pointer (some ⟨w.heap.size, 0, none⟩))) w') :
  wpList P ops Q (o :: rest) a w := by
 refine wpList_plain hg fun K' hK' => ?_
 have hrun := run_range_map (P := P) w t k e b es clock ht h.hb
 unfold Oper.wp
 simp [execOp, hop, hm, hrun, Result.andThen]
 exact hK' _ _ (hK _ (h.grown (World.grownBy_alloc w _ none) (by simp)) ⟨(MapKept.heap_alloc w _).1, h.st.1, Nat.le_refl _, Nat.le_refl _⟩ (World.grownBy_alloc w _ none) (by simp))
theorem wpList_next_F (hg : o.guard = none) (it : Operand) (hop : o.op = Op.next it false) (k : TypeId) (hit : a.eval it = .pointer (some ⟨r, 0, none⟩)) (hne : r ≠ b) (h : MapF P k w b es clock f) (hi : IterF w b r es clock since c0 seen)
  (hDone : (∀ x ∈ es.toList, seen.contains x.born = true) → wpList P ops Q rest (a.put o.dst (.tuple #[.bool false])) w)
  (hMore : ∀ (e : MapEntry) (w' : World), e ∈ es.toList → seen.contains e.born = false → MapF P k w' b es clock f → IterF w' b r es clock since clock (seen.push e.born) → (leftOf es (seen.push e.born)).size < (leftOf es seen).size → w.grownBy w' (some r) → w'.heap.size = w.heap.size →
   (Instr.entry (.pointer (some ⟨r, 0, none⟩))).run P w' = .ok (.tuple #[e.key, e.val]) w' → wpList P ops Q rest (a.put o.dst (.tuple #[.bool true, e.key, e.val])) w') :
  wpList P ops Q (o :: rest) a w := by
 refine wpList_plain hg fun K' hK' => ?_
 unfold Oper.wp
 rcases run_next_at (P := P) w o.type r b since c0 seen es clock hi.hr h.hb hi.hold hi.hsc with ⟨h0, hrun⟩ | ⟨e, he, w1, hal, hrun⟩
 ·simp [execOp, hop, hit, hrun, Result.andThen]
  exact hK' _ _ (hDone fun x hx => all_seen es seen h0 x hx)
 ·obtain ⟨hem, hes⟩ := mem_left he
  have hr1 : w1.heap[r]? = some (.mapIter (some b) since seen c0) := by rcases hal with rfl | rfl <;> exact hi.hr
  have hset := heap_set (o' := .mapIter (some b) since (seen.push e.born) clock) hr1
  have gr : w.grownBy (setBlock w1 r (.mapIter (some b) since (seen.push e.born) clock)) (some r) := by
   rcases hal with rfl | rfl <;> exact ⟨rfl, rfl, rfl, by simp [setBlock], fun i _ hi => hset.2 i (fun e1 => hi (by rw [e1]))⟩
  have h' := h.grown gr (fun e1 => hne (by cases e1; rfl))
  simp [execOp, hop, hit, hrun, Result.andThen]
  exact hK' _ _ (hMore e _ hem hes h' ⟨hset.1, hi.hold, hi.hsk, hi.hsk⟩ (left_shrinks es seen e he) gr (by rcases hal with rfl | rfl <;> simp [setBlock]) (run_entry_at _ r b since seen es clock e hset.1 h'.hb hem ((stamped_iff es clock).1 h.st).2.1))
end
end Go.Pv
