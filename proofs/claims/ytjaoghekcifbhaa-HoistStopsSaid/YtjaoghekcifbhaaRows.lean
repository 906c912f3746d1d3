/-
  No cell of these rows narrows 'for every input' (looked for: loops, veiled, ifaces, maps, wideKeys, modest, calm, conditions, laid).
  DERIVED. THE GIVEN ROWS OF THIS SEAT. 5 by the template 'for every input the law returns true; each argument reads behind the call as it read before'; 0 by the template 'total and deterministic' (their statements: YtjaoghekcifbhaaTotals.lean).
  GIVEN WITH THE SEED: the statements are not yours to turn. If you find one false, say at which input.
  Laid BY PROGRAM, IN A SANDBOX (cutbox-rows.mjs): the forced cells as the released guide's own fill.sh prints them over the translation f0497c8792019100… (all of the seat's roots in one cut). By AI agents, Wed Nov 11 2026. No macro, syntax, notation, axiom, sorry.
-/
import Derived.Test.YtjaoghekcifbhaaChecked
import GoSem.Claim
import GoSem.ClaimJoined
import GoSem.ClaimMapViews
import Derived.JoinedTies
import Derived.KernelRfl
namespace Go.Proofs.Ytjaoghekcifbhaa
/- THE CELL 'sum', in the pinned program and in every row, IS THE sha256 OF THE DUMP (.gsa) THAT YtjaoghekcifbhaaProg.lean LOADS. Nothing in Lean hashes anything: it is a label: what it is worth is what the hold of that sum in a sandbox is worth. -/
noncomputable def Try.pinned : Pinned := { name := "ytjaoghekcifbhaa", sum := "f0497c87920191005dc59757aa87100c1f2e6965a5124887ca97d45a2ae7ccc4", checked := Try.checked }
namespace Rows
def none {H : Type} : Left H := { results := [], args := [] }

/-- 'minecontrollaw37.HoistStops': WHATEVER THE INPUT: true; the input reads as it did. -/
def hoistStopsSpec : ChangeSpec := { name := "hoistStops", fn := fun _ => fun
  | [d1, d2, d3] => { results := [.lit (.bool true)], args := [d1, d2, d3] }
  | _ => none }
def hoistStopsRow : OpenClaim := { program := "ytjaoghekcifbhaa", sum := "f0497c87920191005dc59757aa87100c1f2e6965a5124887ca97d45a2ae7ccc4", func := "minecontrol/minecontrollaw37.HoistStops", spec := "hoistStops", unfollowed := true, recurses := true, apart := false }
def HoistStopsSaid : Prop := hoistStopsRow.holds Try.pinned (OpenSpec.ofChange hoistStopsSpec)

/-- ITS FALSE NEIGHBOUR: 'it returns false'. Refute it at one input. -/
def hoistStopsWrong : ChangeSpec := { name := "hoistStops", fn := fun _ => fun
  | [d1, d2, d3] => { results := [.lit (.bool false)], args := [d1, d2, d3] }
  | _ => none }
def HoistStopsWrongFalsely : Prop := hoistStopsRow.holds Try.pinned (OpenSpec.ofChange hoistStopsWrong)

/-- 'minecontrollaw37.HoistKeeps': WHATEVER THE INPUT: true; the input reads as it did. -/
def hoistKeepsSpec : ChangeSpec := { name := "hoistKeeps", fn := fun _ => fun
  | [d] => { results := [.lit (.bool true)], args := [d] }
  | _ => none }
def hoistKeepsRow : OpenClaim := { program := "ytjaoghekcifbhaa", sum := "f0497c87920191005dc59757aa87100c1f2e6965a5124887ca97d45a2ae7ccc4", func := "minecontrol/minecontrollaw37.HoistKeeps", spec := "hoistKeeps", unfollowed := true, recurses := true, apart := false }
def HoistKeepsSaid : Prop := hoistKeepsRow.holds Try.pinned (OpenSpec.ofChange hoistKeepsSpec)

/-- ITS FALSE NEIGHBOUR: 'it returns false'. Refute it at one input. -/
def hoistKeepsWrong : ChangeSpec := { name := "hoistKeeps", fn := fun _ => fun
  | [d] => { results := [.lit (.bool false)], args := [d] }
  | _ => none }
def HoistKeepsWrongFalsely : Prop := hoistKeepsRow.holds Try.pinned (OpenSpec.ofChange hoistKeepsWrong)

/-- 'minecontrollaw37.HoistMirror': WHATEVER THE INPUT: true; the input reads as it did. -/
def hoistMirrorSpec : ChangeSpec := { name := "hoistMirror", fn := fun _ => fun
  | [d1, d2, d3] => { results := [.lit (.bool true)], args := [d1, d2, d3] }
  | _ => none }
def hoistMirrorRow : OpenClaim := { program := "ytjaoghekcifbhaa", sum := "f0497c87920191005dc59757aa87100c1f2e6965a5124887ca97d45a2ae7ccc4", func := "minecontrol/minecontrollaw37.HoistMirror", spec := "hoistMirror", unfollowed := true, recurses := true, apart := false }
def HoistMirrorSaid : Prop := hoistMirrorRow.holds Try.pinned (OpenSpec.ofChange hoistMirrorSpec)

/-- ITS FALSE NEIGHBOUR: 'it returns false'. Refute it at one input. -/
def hoistMirrorWrong : ChangeSpec := { name := "hoistMirror", fn := fun _ => fun
  | [d1, d2, d3] => { results := [.lit (.bool false)], args := [d1, d2, d3] }
  | _ => none }
def HoistMirrorWrongFalsely : Prop := hoistMirrorRow.holds Try.pinned (OpenSpec.ofChange hoistMirrorWrong)

/-- 'minecontrollaw37.HoistRaw': WHATEVER THE INPUT: true; the input reads as it did. -/
def hoistRawSpec : ChangeSpec := { name := "hoistRaw", fn := fun _ => fun
  | [d1, d2, d3] => { results := [.lit (.bool true)], args := [d1, d2, d3] }
  | _ => none }
def hoistRawRow : OpenClaim := { program := "ytjaoghekcifbhaa", sum := "f0497c87920191005dc59757aa87100c1f2e6965a5124887ca97d45a2ae7ccc4", func := "minecontrol/minecontrollaw37.HoistRaw", spec := "hoistRaw", unfollowed := true, recurses := true, apart := false }
def HoistRawSaid : Prop := hoistRawRow.holds Try.pinned (OpenSpec.ofChange hoistRawSpec)

/-- ITS FALSE NEIGHBOUR: 'it returns false'. Refute it at one input. -/
def hoistRawWrong : ChangeSpec := { name := "hoistRaw", fn := fun _ => fun
  | [d1, d2, d3] => { results := [.lit (.bool false)], args := [d1, d2, d3] }
  | _ => none }
def HoistRawWrongFalsely : Prop := hoistRawRow.holds Try.pinned (OpenSpec.ofChange hoistRawWrong)

/-- 'minecontrollaw37.HoistMade': WHATEVER THE INPUT: true; the input reads as it did. -/
def hoistMadeSpec : ChangeSpec := { name := "hoistMade", fn := fun _ => fun
  | [d1, d2] => { results := [.lit (.bool true)], args := [d1, d2] }
  | _ => none }
def hoistMadeRow : OpenClaim := { program := "ytjaoghekcifbhaa", sum := "f0497c87920191005dc59757aa87100c1f2e6965a5124887ca97d45a2ae7ccc4", func := "minecontrol/minecontrollaw37.HoistMade", spec := "hoistMade", unfollowed := true, recurses := true, apart := false }
def HoistMadeSaid : Prop := hoistMadeRow.holds Try.pinned (OpenSpec.ofChange hoistMadeSpec)

/-- ITS FALSE NEIGHBOUR: 'it returns false'. Refute it at one input. -/
def hoistMadeWrong : ChangeSpec := { name := "hoistMade", fn := fun _ => fun
  | [d1, d2] => { results := [.lit (.bool false)], args := [d1, d2] }
  | _ => none }
def HoistMadeWrongFalsely : Prop := hoistMadeRow.holds Try.pinned (OpenSpec.ofChange hoistMadeWrong)

/- THE SECOND FORM. 'bulk': how many values and letters a reading holds, each counted each time it is reached (what is shared counts as often as it is met; a slice's spare places count too). A statement '..UptoSaid' is the law's where the arguments, and the package variables that the reading takes, are together of bulk at most 1048576: NARROWER than '..Said'. Prove '..Said' where nothing that the law and all that it calls make is longer than what came in: it says more and counts as full. Else prove '..UptoSaid'. A law counts once. -/
mutual
def uptoBulk {H : Type} : DataW H → Nat
  | .lit (.string bytes) => bytes.length + 1
  | .lit _ => 1
  | .nil => 1
  | .ptr d => uptoBulk d + 1
  | .slice elems spare => uptoBulkAll elems + uptoBulkAll spare + 1
  | .agg parts => uptoBulkAll parts + 1
  | .iface _ d => uptoBulk d + 1
  | .map entries => uptoBulkEntries entries + 1
  | .held _ => 1
def uptoBulkAll {H : Type} : List (DataW H) → Nat
  | [] => 0
  | d :: r => uptoBulk d + uptoBulkAll r
def uptoBulkEntries {H : Type} : List (Lit × DataW H) → Nat
  | [] => 0
  | x :: r => uptoBulkEntry x + uptoBulkEntries r
def uptoBulkEntry {H : Type} : Lit × DataW H → Nat
  | (.string bytes, d) => bytes.length + uptoBulk d + 1
  | (_, d) => uptoBulk d + 1
 end
def uptoSmall : (H : Type) → List (DataW H) → Bool := fun _ ds => decide (uptoBulkAll ds ≤ 1048576)
def OpenSpec.upto (s : _root_.Go.ChangeSpec) : _root_.Go.OpenSpec := { _root_.Go.OpenSpec.ofChange s with cond := some uptoSmall }

/-- 'minecontrollaw37.HoistStops', WHERE WHAT IT READS IS OF BULK AT MOST 1048576: true; the input reads as it did. -/
def hoistStopsUptoRow : OpenClaim := { program := "ytjaoghekcifbhaa", sum := "f0497c87920191005dc59757aa87100c1f2e6965a5124887ca97d45a2ae7ccc4", func := "minecontrol/minecontrollaw37.HoistStops", spec := "hoistStops", unfollowed := true, recurses := true, apart := false, narrowed := true }
def HoistStopsUptoSaid : Prop := hoistStopsUptoRow.holds Try.pinned (OpenSpec.upto hoistStopsSpec)

/-- 'minecontrollaw37.HoistKeeps', WHERE WHAT IT READS IS OF BULK AT MOST 1048576: true; the input reads as it did. -/
def hoistKeepsUptoRow : OpenClaim := { program := "ytjaoghekcifbhaa", sum := "f0497c87920191005dc59757aa87100c1f2e6965a5124887ca97d45a2ae7ccc4", func := "minecontrol/minecontrollaw37.HoistKeeps", spec := "hoistKeeps", unfollowed := true, recurses := true, apart := false, narrowed := true }
def HoistKeepsUptoSaid : Prop := hoistKeepsUptoRow.holds Try.pinned (OpenSpec.upto hoistKeepsSpec)

/-- 'minecontrollaw37.HoistMirror', WHERE WHAT IT READS IS OF BULK AT MOST 1048576: true; the input reads as it did. -/
def hoistMirrorUptoRow : OpenClaim := { program := "ytjaoghekcifbhaa", sum := "f0497c87920191005dc59757aa87100c1f2e6965a5124887ca97d45a2ae7ccc4", func := "minecontrol/minecontrollaw37.HoistMirror", spec := "hoistMirror", unfollowed := true, recurses := true, apart := false, narrowed := true }
def HoistMirrorUptoSaid : Prop := hoistMirrorUptoRow.holds Try.pinned (OpenSpec.upto hoistMirrorSpec)

/-- 'minecontrollaw37.HoistRaw', WHERE WHAT IT READS IS OF BULK AT MOST 1048576: true; the input reads as it did. -/
def hoistRawUptoRow : OpenClaim := { program := "ytjaoghekcifbhaa", sum := "f0497c87920191005dc59757aa87100c1f2e6965a5124887ca97d45a2ae7ccc4", func := "minecontrol/minecontrollaw37.HoistRaw", spec := "hoistRaw", unfollowed := true, recurses := true, apart := false, narrowed := true }
def HoistRawUptoSaid : Prop := hoistRawUptoRow.holds Try.pinned (OpenSpec.upto hoistRawSpec)

/-- 'minecontrollaw37.HoistMade', WHERE WHAT IT READS IS OF BULK AT MOST 1048576: true; the input reads as it did. -/
def hoistMadeUptoRow : OpenClaim := { program := "ytjaoghekcifbhaa", sum := "f0497c87920191005dc59757aa87100c1f2e6965a5124887ca97d45a2ae7ccc4", func := "minecontrol/minecontrollaw37.HoistMade", spec := "hoistMade", unfollowed := true, recurses := true, apart := false, narrowed := true }
def HoistMadeUptoSaid : Prop := hoistMadeUptoRow.holds Try.pinned (OpenSpec.upto hoistMadeSpec)

end Rows
end Go.Proofs.Ytjaoghekcifbhaa
