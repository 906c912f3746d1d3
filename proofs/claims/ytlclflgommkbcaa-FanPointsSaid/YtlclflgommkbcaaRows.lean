/-
  No cell of these rows narrows 'for every input' (looked for: loops, veiled, ifaces, maps, wideKeys, modest, calm, conditions, laid).
  DERIVED. THE GIVEN ROWS OF THIS SEAT. 6 by the template 'for every input the law returns true; each argument reads behind the call as it read before'; 0 by the template 'total and deterministic' (their statements: YtlclflgommkbcaaTotals.lean).
  GIVEN WITH THE SEED: the statements are not yours to turn. If you find one false, say at which input.
  Laid BY PROGRAM, IN A SANDBOX (cutbox-rows.mjs): the forced cells as the released guide's own fill.sh prints them over the translation 875afb25e8ca83e4… (all of the seat's roots in one cut). By AI agents, Wed Nov 11 2026. No macro, syntax, notation, axiom, sorry.
-/
import Derived.Test.YtlclflgommkbcaaChecked
import GoSem.Claim
import GoSem.ClaimJoined
import GoSem.ClaimMapViews
import Derived.JoinedTies
import Derived.KernelRfl
namespace Go.Proofs.Ytlclflgommkbcaa
/- THE CELL 'sum', in the pinned program and in every row, IS THE sha256 OF THE DUMP (.gsa) THAT YtlclflgommkbcaaProg.lean LOADS. Nothing in Lean hashes anything: it is a label: what it is worth is what the hold of that sum in a sandbox is worth. -/
noncomputable def Try.pinned : Pinned := { name := "ytlclflgommkbcaa", sum := "875afb25e8ca83e4a988d643ffea161641f82b0674f80ed5c0eeac5239295416", checked := Try.checked }
namespace Rows
def none {H : Type} : Left H := { results := [], args := [] }

/-- 'minecontrollaw07.FanChecks': WHATEVER THE INPUT: true; the input reads as it did. -/
def fanChecksSpec : ChangeSpec := { name := "fanChecks", fn := fun _ => fun
  | [d1, d2, d3, d4] => { results := [.lit (.bool true)], args := [d1, d2, d3, d4] }
  | _ => none }
def fanChecksRow : OpenClaim := { program := "ytlclflgommkbcaa", sum := "875afb25e8ca83e4a988d643ffea161641f82b0674f80ed5c0eeac5239295416", func := "minecontrol/minecontrollaw07.FanChecks", spec := "fanChecks", named := ["math/bits.divideError", "math/bits.overflowError"], apart := false }
def FanChecksSaid : Prop := fanChecksRow.holds Try.pinned (OpenSpec.ofChange fanChecksSpec)

/-- ITS FALSE NEIGHBOUR: 'it returns false'. Refute it at one input. -/
def fanChecksWrong : ChangeSpec := { name := "fanChecks", fn := fun _ => fun
  | [d1, d2, d3, d4] => { results := [.lit (.bool false)], args := [d1, d2, d3, d4] }
  | _ => none }
def FanChecksWrongFalsely : Prop := fanChecksRow.holds Try.pinned (OpenSpec.ofChange fanChecksWrong)

/-- 'minecontrollaw07.FanCurves': WHATEVER THE INPUT: true; the input reads as it did. -/
def fanCurvesSpec : ChangeSpec := { name := "fanCurves", fn := fun _ => fun
  | [d1, d2, d3, d4, d5] => { results := [.lit (.bool true)], args := [d1, d2, d3, d4, d5] }
  | _ => none }
def fanCurvesRow : OpenClaim := { program := "ytlclflgommkbcaa", sum := "875afb25e8ca83e4a988d643ffea161641f82b0674f80ed5c0eeac5239295416", func := "minecontrol/minecontrollaw07.FanCurves", spec := "fanCurves", named := ["math/bits.divideError", "math/bits.overflowError"], apart := false }
def FanCurvesSaid : Prop := fanCurvesRow.holds Try.pinned (OpenSpec.ofChange fanCurvesSpec)

/-- ITS FALSE NEIGHBOUR: 'it returns false'. Refute it at one input. -/
def fanCurvesWrong : ChangeSpec := { name := "fanCurves", fn := fun _ => fun
  | [d1, d2, d3, d4, d5] => { results := [.lit (.bool false)], args := [d1, d2, d3, d4, d5] }
  | _ => none }
def FanCurvesWrongFalsely : Prop := fanCurvesRow.holds Try.pinned (OpenSpec.ofChange fanCurvesWrong)

/-- 'minecontrollaw07.FanStates': WHATEVER THE INPUT: true; the input reads as it did. -/
def fanStatesSpec : ChangeSpec := { name := "fanStates", fn := fun _ => fun
  | [d1, d2, d3, d4, d5, d6] => { results := [.lit (.bool true)], args := [d1, d2, d3, d4, d5, d6] }
  | _ => none }
def fanStatesRow : OpenClaim := { program := "ytlclflgommkbcaa", sum := "875afb25e8ca83e4a988d643ffea161641f82b0674f80ed5c0eeac5239295416", func := "minecontrol/minecontrollaw07.FanStates", spec := "fanStates", named := ["math/bits.divideError", "math/bits.overflowError"], apart := false }
def FanStatesSaid : Prop := fanStatesRow.holds Try.pinned (OpenSpec.ofChange fanStatesSpec)

/-- ITS FALSE NEIGHBOUR: 'it returns false'. Refute it at one input. -/
def fanStatesWrong : ChangeSpec := { name := "fanStates", fn := fun _ => fun
  | [d1, d2, d3, d4, d5, d6] => { results := [.lit (.bool false)], args := [d1, d2, d3, d4, d5, d6] }
  | _ => none }
def FanStatesWrongFalsely : Prop := fanStatesRow.holds Try.pinned (OpenSpec.ofChange fanStatesWrong)

/-- 'minecontrollaw07.FanFalls': WHATEVER THE INPUT: true; the input reads as it did. -/
def fanFallsSpec : ChangeSpec := { name := "fanFalls", fn := fun _ => fun
  | [d1, d2, d3, d4] => { results := [.lit (.bool true)], args := [d1, d2, d3, d4] }
  | _ => none }
def fanFallsRow : OpenClaim := { program := "ytlclflgommkbcaa", sum := "875afb25e8ca83e4a988d643ffea161641f82b0674f80ed5c0eeac5239295416", func := "minecontrol/minecontrollaw07.FanFalls", spec := "fanFalls", named := ["math/bits.divideError", "math/bits.overflowError"], apart := false }
def FanFallsSaid : Prop := fanFallsRow.holds Try.pinned (OpenSpec.ofChange fanFallsSpec)

/-- ITS FALSE NEIGHBOUR: 'it returns false'. Refute it at one input. -/
def fanFallsWrong : ChangeSpec := { name := "fanFalls", fn := fun _ => fun
  | [d1, d2, d3, d4] => { results := [.lit (.bool false)], args := [d1, d2, d3, d4] }
  | _ => none }
def FanFallsWrongFalsely : Prop := fanFallsRow.holds Try.pinned (OpenSpec.ofChange fanFallsWrong)

/-- 'minecontrollaw07.FanTurns': WHATEVER THE INPUT: true; the input reads as it did. -/
def fanTurnsSpec : ChangeSpec := { name := "fanTurns", fn := fun _ => fun
  | [d1, d2] => { results := [.lit (.bool true)], args := [d1, d2] }
  | _ => none }
def fanTurnsRow : OpenClaim := { program := "ytlclflgommkbcaa", sum := "875afb25e8ca83e4a988d643ffea161641f82b0674f80ed5c0eeac5239295416", func := "minecontrol/minecontrollaw07.FanTurns", spec := "fanTurns", named := ["math/bits.divideError", "math/bits.overflowError"], apart := false }
def FanTurnsSaid : Prop := fanTurnsRow.holds Try.pinned (OpenSpec.ofChange fanTurnsSpec)

/-- ITS FALSE NEIGHBOUR: 'it returns false'. Refute it at one input. -/
def fanTurnsWrong : ChangeSpec := { name := "fanTurns", fn := fun _ => fun
  | [d1, d2] => { results := [.lit (.bool false)], args := [d1, d2] }
  | _ => none }
def FanTurnsWrongFalsely : Prop := fanTurnsRow.holds Try.pinned (OpenSpec.ofChange fanTurnsWrong)

/-- 'minecontrollaw07.FanPoints': WHATEVER THE INPUT: true; the input reads as it did. -/
def fanPointsSpec : ChangeSpec := { name := "fanPoints", fn := fun _ => fun
  | [d1, d2, d3] => { results := [.lit (.bool true)], args := [d1, d2, d3] }
  | _ => none }
def fanPointsRow : OpenClaim := { program := "ytlclflgommkbcaa", sum := "875afb25e8ca83e4a988d643ffea161641f82b0674f80ed5c0eeac5239295416", func := "minecontrol/minecontrollaw07.FanPoints", spec := "fanPoints", named := ["math/bits.divideError", "math/bits.overflowError"], apart := false }
def FanPointsSaid : Prop := fanPointsRow.holds Try.pinned (OpenSpec.ofChange fanPointsSpec)

/-- ITS FALSE NEIGHBOUR: 'it returns false'. Refute it at one input. -/
def fanPointsWrong : ChangeSpec := { name := "fanPoints", fn := fun _ => fun
  | [d1, d2, d3] => { results := [.lit (.bool false)], args := [d1, d2, d3] }
  | _ => none }
def FanPointsWrongFalsely : Prop := fanPointsRow.holds Try.pinned (OpenSpec.ofChange fanPointsWrong)

/- THE SECOND FORM. 'bulk': how many values and letters a reading holds, each counted each time it is reached (what is shared counts as often as it is met; a slice's spare places count too). A statement '..UptoSaid' is the law's where the arguments, and the package variables that the reading takes, are together of bulk at most 1048576: NARROWER than '..Said'. Prove '..Said' where nothing that the law and all that it calls make is longer than what came in: it says more and counts as full. Else prove '..UptoSaid'. A law counts once. -/
mutual
def uptoBulk {H : Type} : DataW H → Nat
  | .lit (.string bytes) => bytes.length + 1
  | .lit _ => 1
  | .nil => 1
  | .ptr d => uptoBulk d + 1
  | .slice elems spare => uptoBulkAll elems + uptoBulkAll spare + 1
  | .agg parts => uptoBulkAll parts + 1
  | .iface _ d => uptoBulk d + 1
  | .map entries => uptoBulkEntries entries + 1
  | .held _ => 1
def uptoBulkAll {H : Type} : List (DataW H) → Nat
  | [] => 0
  | d :: r => uptoBulk d + uptoBulkAll r
def uptoBulkEntries {H : Type} : List (Lit × DataW H) → Nat
  | [] => 0
  | x :: r => uptoBulkEntry x + uptoBulkEntries r
def uptoBulkEntry {H : Type} : Lit × DataW H → Nat
  | (.string bytes, d) => bytes.length + uptoBulk d + 1
  | (_, d) => uptoBulk d + 1
 end
def uptoSmall : (H : Type) → List (DataW H) → Bool := fun _ ds => decide (uptoBulkAll ds ≤ 1048576)
def OpenSpec.upto (s : _root_.Go.ChangeSpec) : _root_.Go.OpenSpec := { _root_.Go.OpenSpec.ofChange s with cond := some uptoSmall }

/-- 'minecontrollaw07.FanChecks', WHERE WHAT IT READS IS OF BULK AT MOST 1048576: true; the input reads as it did. -/
def fanChecksUptoRow : OpenClaim := { program := "ytlclflgommkbcaa", sum := "875afb25e8ca83e4a988d643ffea161641f82b0674f80ed5c0eeac5239295416", func := "minecontrol/minecontrollaw07.FanChecks", spec := "fanChecks", named := ["math/bits.divideError", "math/bits.overflowError"], apart := false, narrowed := true }
def FanChecksUptoSaid : Prop := fanChecksUptoRow.holds Try.pinned (OpenSpec.upto fanChecksSpec)

/-- 'minecontrollaw07.FanCurves', WHERE WHAT IT READS IS OF BULK AT MOST 1048576: true; the input reads as it did. -/
def fanCurvesUptoRow : OpenClaim := { program := "ytlclflgommkbcaa", sum := "875afb25e8ca83e4a988d643ffea161641f82b0674f80ed5c0eeac5239295416", func := "minecontrol/minecontrollaw07.FanCurves", spec := "fanCurves", named := ["math/bits.divideError", "math/bits.overflowError"], apart := false, narrowed := true }
def FanCurvesUptoSaid : Prop := fanCurvesUptoRow.holds Try.pinned (OpenSpec.upto fanCurvesSpec)

/-- 'minecontrollaw07.FanStates', WHERE WHAT IT READS IS OF BULK AT MOST 1048576: true; the input reads as it did. -/
def fanStatesUptoRow : OpenClaim := { program := "ytlclflgommkbcaa", sum := "875afb25e8ca83e4a988d643ffea161641f82b0674f80ed5c0eeac5239295416", func := "minecontrol/minecontrollaw07.FanStates", spec := "fanStates", named := ["math/bits.divideError", "math/bits.overflowError"], apart := false, narrowed := true }
def FanStatesUptoSaid : Prop := fanStatesUptoRow.holds Try.pinned (OpenSpec.upto fanStatesSpec)

/-- 'minecontrollaw07.FanFalls', WHERE WHAT IT READS IS OF BULK AT MOST 1048576: true; the input reads as it did. -/
def fanFallsUptoRow : OpenClaim := { program := "ytlclflgommkbcaa", sum := "875afb25e8ca83e4a988d643ffea161641f82b0674f80ed5c0eeac5239295416", func := "minecontrol/minecontrollaw07.FanFalls", spec := "fanFalls", named := ["math/bits.divideError", "math/bits.overflowError"], apart := false, narrowed := true }
def FanFallsUptoSaid : Prop := fanFallsUptoRow.holds Try.pinned (OpenSpec.upto fanFallsSpec)

/-- 'minecontrollaw07.FanTurns', WHERE WHAT IT READS IS OF BULK AT MOST 1048576: true; the input reads as it did. -/
def fanTurnsUptoRow : OpenClaim := { program := "ytlclflgommkbcaa", sum := "875afb25e8ca83e4a988d643ffea161641f82b0674f80ed5c0eeac5239295416", func := "minecontrol/minecontrollaw07.FanTurns", spec := "fanTurns", named := ["math/bits.divideError", "math/bits.overflowError"], apart := false, narrowed := true }
def FanTurnsUptoSaid : Prop := fanTurnsUptoRow.holds Try.pinned (OpenSpec.upto fanTurnsSpec)

/-- 'minecontrollaw07.FanPoints', WHERE WHAT IT READS IS OF BULK AT MOST 1048576: true; the input reads as it did. -/
def fanPointsUptoRow : OpenClaim := { program := "ytlclflgommkbcaa", sum := "875afb25e8ca83e4a988d643ffea161641f82b0674f80ed5c0eeac5239295416", func := "minecontrol/minecontrollaw07.FanPoints", spec := "fanPoints", named := ["math/bits.divideError", "math/bits.overflowError"], apart := false, narrowed := true }
def FanPointsUptoSaid : Prop := fanPointsUptoRow.holds Try.pinned (OpenSpec.upto fanPointsSpec)

end Rows
end Go.Proofs.Ytlclflgommkbcaa
