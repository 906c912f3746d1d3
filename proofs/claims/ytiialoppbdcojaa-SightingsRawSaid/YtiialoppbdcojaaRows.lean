/-
  No cell of these rows narrows 'for every input' (looked for: loops, veiled, ifaces, maps, wideKeys, modest, calm, conditions, laid).
  DERIVED. THE GIVEN ROWS OF THIS SEAT. 4 by the template 'for every input the law returns true; each argument reads behind the call as it read before'; 0 by the template 'total and deterministic' (their statements: YtiialoppbdcojaaTotals.lean).
  GIVEN WITH THE SEED: the statements are not yours to turn. If you find one false, say at which input.
  Laid BY PROGRAM, IN A SANDBOX (cutbox-rows.mjs): the forced cells as the released guide's own fill.sh prints them over the translation 35e575cf2e2cee5d… (all of the seat's roots in one cut). By AI agents, Wed Nov 11 2026. No macro, syntax, notation, axiom, sorry.
-/
import Derived.Test.YtiialoppbdcojaaChecked
import GoSem.Claim
import GoSem.ClaimJoined
import GoSem.ClaimMapViews
import Derived.JoinedTies
import Derived.KernelRfl
namespace Go.Proofs.Ytiialoppbdcojaa
/- THE CELL 'sum', in the pinned program and in every row, IS THE sha256 OF THE DUMP (.gsa) THAT YtiialoppbdcojaaProg.lean LOADS. Nothing in Lean hashes anything: it is a label: what it is worth is what the hold of that sum in a sandbox is worth. -/
noncomputable def Try.pinned : Pinned := { name := "ytiialoppbdcojaa", sum := "35e575cf2e2cee5d961312b7be5f785b10de005bcf4175e1faf118b2ca45f94f", checked := Try.checked }
namespace Rows
def none {H : Type} : Left H := { results := [], args := [] }

/-- 'minecontrollaw24.SightingsMade': WHATEVER THE INPUT: true; the input reads as it did. -/
def sightingsMadeSpec : ChangeSpec := { name := "sightingsMade", fn := fun _ => fun
  | [d] => { results := [.lit (.bool true)], args := [d] }
  | _ => none }
def sightingsMadeRow : OpenClaim := { program := "ytiialoppbdcojaa", sum := "35e575cf2e2cee5d961312b7be5f785b10de005bcf4175e1faf118b2ca45f94f", func := "minecontrol/minecontrollaw24.SightingsMade", spec := "sightingsMade", unfollowed := true, recurses := true, apart := false }
def SightingsMadeSaid : Prop := sightingsMadeRow.holds Try.pinned (OpenSpec.ofChange sightingsMadeSpec)

/-- ITS FALSE NEIGHBOUR: 'it returns false'. Refute it at one input. -/
def sightingsMadeWrong : ChangeSpec := { name := "sightingsMade", fn := fun _ => fun
  | [d] => { results := [.lit (.bool false)], args := [d] }
  | _ => none }
def SightingsMadeWrongFalsely : Prop := sightingsMadeRow.holds Try.pinned (OpenSpec.ofChange sightingsMadeWrong)

/-- 'minecontrollaw24.SightingsTrue': WHATEVER THE INPUT: true; the input reads as it did. -/
def sightingsTrueSpec : ChangeSpec := { name := "sightingsTrue", fn := fun _ => fun
  | [d] => { results := [.lit (.bool true)], args := [d] }
  | _ => none }
def sightingsTrueRow : OpenClaim := { program := "ytiialoppbdcojaa", sum := "35e575cf2e2cee5d961312b7be5f785b10de005bcf4175e1faf118b2ca45f94f", func := "minecontrol/minecontrollaw24.SightingsTrue", spec := "sightingsTrue", unfollowed := true, recurses := true, apart := false }
def SightingsTrueSaid : Prop := sightingsTrueRow.holds Try.pinned (OpenSpec.ofChange sightingsTrueSpec)

/-- ITS FALSE NEIGHBOUR: 'it returns false'. Refute it at one input. -/
def sightingsTrueWrong : ChangeSpec := { name := "sightingsTrue", fn := fun _ => fun
  | [d] => { results := [.lit (.bool false)], args := [d] }
  | _ => none }
def SightingsTrueWrongFalsely : Prop := sightingsTrueRow.holds Try.pinned (OpenSpec.ofChange sightingsTrueWrong)

/-- 'minecontrollaw24.SightingsShift': WHATEVER THE INPUT: true; the input reads as it did. -/
def sightingsShiftSpec : ChangeSpec := { name := "sightingsShift", fn := fun _ => fun
  | [d1, d2] => { results := [.lit (.bool true)], args := [d1, d2] }
  | _ => none }
def sightingsShiftRow : OpenClaim := { program := "ytiialoppbdcojaa", sum := "35e575cf2e2cee5d961312b7be5f785b10de005bcf4175e1faf118b2ca45f94f", func := "minecontrol/minecontrollaw24.SightingsShift", spec := "sightingsShift", unfollowed := true, recurses := true, apart := false }
def SightingsShiftSaid : Prop := sightingsShiftRow.holds Try.pinned (OpenSpec.ofChange sightingsShiftSpec)

/-- ITS FALSE NEIGHBOUR: 'it returns false'. Refute it at one input. -/
def sightingsShiftWrong : ChangeSpec := { name := "sightingsShift", fn := fun _ => fun
  | [d1, d2] => { results := [.lit (.bool false)], args := [d1, d2] }
  | _ => none }
def SightingsShiftWrongFalsely : Prop := sightingsShiftRow.holds Try.pinned (OpenSpec.ofChange sightingsShiftWrong)

/-- 'minecontrollaw24.SightingsRaw': WHATEVER THE INPUT: true; the input reads as it did. -/
def sightingsRawSpec : ChangeSpec := { name := "sightingsRaw", fn := fun _ => fun
  | [d1, d2, d3] => { results := [.lit (.bool true)], args := [d1, d2, d3] }
  | _ => none }
def sightingsRawRow : OpenClaim := { program := "ytiialoppbdcojaa", sum := "35e575cf2e2cee5d961312b7be5f785b10de005bcf4175e1faf118b2ca45f94f", func := "minecontrol/minecontrollaw24.SightingsRaw", spec := "sightingsRaw", unfollowed := true, recurses := true, apart := false }
def SightingsRawSaid : Prop := sightingsRawRow.holds Try.pinned (OpenSpec.ofChange sightingsRawSpec)

/-- ITS FALSE NEIGHBOUR: 'it returns false'. Refute it at one input. -/
def sightingsRawWrong : ChangeSpec := { name := "sightingsRaw", fn := fun _ => fun
  | [d1, d2, d3] => { results := [.lit (.bool false)], args := [d1, d2, d3] }
  | _ => none }
def SightingsRawWrongFalsely : Prop := sightingsRawRow.holds Try.pinned (OpenSpec.ofChange sightingsRawWrong)

/- THE SECOND FORM. 'bulk': how many values and letters a reading holds, each counted each time it is reached (what is shared counts as often as it is met; a slice's spare places count too). A statement '..UptoSaid' is the law's where the arguments, and the package variables that the reading takes, are together of bulk at most 1048576: NARROWER than '..Said'. Prove '..Said' where nothing that the law and all that it calls make is longer than what came in: it says more and counts as full. Else prove '..UptoSaid'. A law counts once. -/
mutual
def uptoBulk {H : Type} : DataW H → Nat
  | .lit (.string bytes) => bytes.length + 1
  | .lit _ => 1
  | .nil => 1
  | .ptr d => uptoBulk d + 1
  | .slice elems spare => uptoBulkAll elems + uptoBulkAll spare + 1
  | .agg parts => uptoBulkAll parts + 1
  | .iface _ d => uptoBulk d + 1
  | .map entries => uptoBulkEntries entries + 1
  | .held _ => 1
def uptoBulkAll {H : Type} : List (DataW H) → Nat
  | [] => 0
  | d :: r => uptoBulk d + uptoBulkAll r
def uptoBulkEntries {H : Type} : List (Lit × DataW H) → Nat
  | [] => 0
  | x :: r => uptoBulkEntry x + uptoBulkEntries r
def uptoBulkEntry {H : Type} : Lit × DataW H → Nat
  | (.string bytes, d) => bytes.length + uptoBulk d + 1
  | (_, d) => uptoBulk d + 1
 end
def uptoSmall : (H : Type) → List (DataW H) → Bool := fun _ ds => decide (uptoBulkAll ds ≤ 1048576)
def OpenSpec.upto (s : _root_.Go.ChangeSpec) : _root_.Go.OpenSpec := { _root_.Go.OpenSpec.ofChange s with cond := some uptoSmall }

/-- 'minecontrollaw24.SightingsMade', WHERE WHAT IT READS IS OF BULK AT MOST 1048576: true; the input reads as it did. -/
def sightingsMadeUptoRow : OpenClaim := { program := "ytiialoppbdcojaa", sum := "35e575cf2e2cee5d961312b7be5f785b10de005bcf4175e1faf118b2ca45f94f", func := "minecontrol/minecontrollaw24.SightingsMade", spec := "sightingsMade", unfollowed := true, recurses := true, apart := false, narrowed := true }
def SightingsMadeUptoSaid : Prop := sightingsMadeUptoRow.holds Try.pinned (OpenSpec.upto sightingsMadeSpec)

/-- 'minecontrollaw24.SightingsTrue', WHERE WHAT IT READS IS OF BULK AT MOST 1048576: true; the input reads as it did. -/
def sightingsTrueUptoRow : OpenClaim := { program := "ytiialoppbdcojaa", sum := "35e575cf2e2cee5d961312b7be5f785b10de005bcf4175e1faf118b2ca45f94f", func := "minecontrol/minecontrollaw24.SightingsTrue", spec := "sightingsTrue", unfollowed := true, recurses := true, apart := false, narrowed := true }
def SightingsTrueUptoSaid : Prop := sightingsTrueUptoRow.holds Try.pinned (OpenSpec.upto sightingsTrueSpec)

/-- 'minecontrollaw24.SightingsShift', WHERE WHAT IT READS IS OF BULK AT MOST 1048576: true; the input reads as it did. -/
def sightingsShiftUptoRow : OpenClaim := { program := "ytiialoppbdcojaa", sum := "35e575cf2e2cee5d961312b7be5f785b10de005bcf4175e1faf118b2ca45f94f", func := "minecontrol/minecontrollaw24.SightingsShift", spec := "sightingsShift", unfollowed := true, recurses := true, apart := false, narrowed := true }
def SightingsShiftUptoSaid : Prop := sightingsShiftUptoRow.holds Try.pinned (OpenSpec.upto sightingsShiftSpec)

/-- 'minecontrollaw24.SightingsRaw', WHERE WHAT IT READS IS OF BULK AT MOST 1048576: true; the input reads as it did. -/
def sightingsRawUptoRow : OpenClaim := { program := "ytiialoppbdcojaa", sum := "35e575cf2e2cee5d961312b7be5f785b10de005bcf4175e1faf118b2ca45f94f", func := "minecontrol/minecontrollaw24.SightingsRaw", spec := "sightingsRaw", unfollowed := true, recurses := true, apart := false, narrowed := true }
def SightingsRawUptoSaid : Prop := sightingsRawUptoRow.holds Try.pinned (OpenSpec.upto sightingsRawSpec)

end Rows
end Go.Proofs.Ytiialoppbdcojaa
