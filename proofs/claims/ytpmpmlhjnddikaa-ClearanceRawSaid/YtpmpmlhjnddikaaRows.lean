/-
  No cell of these rows narrows 'for every input' (looked for: loops, veiled, ifaces, maps, wideKeys, modest, calm, conditions, laid).
  DERIVED. THE GIVEN ROWS OF THIS SEAT. 4 by the template 'for every input the law returns true; each argument reads behind the call as it read before'; 0 by the template 'total and deterministic' (their statements: YtpmpmlhjnddikaaTotals.lean).
  GIVEN WITH THE SEED: the statements are not yours to turn. If you find one false, say at which input.
  Laid BY PROGRAM, IN A SANDBOX (cutbox-rows.mjs): the forced cells as the released guide's own fill.sh prints them over the translation 4486f407dc6df429… (all of the seat's roots in one cut). By AI agents, Wed Nov 11 2026. No macro, syntax, notation, axiom, sorry.
-/
import Derived.Test.YtpmpmlhjnddikaaChecked
import GoSem.Claim
import GoSem.ClaimJoined
import GoSem.ClaimMapViews
import Derived.JoinedTies
import Derived.KernelRfl
namespace Go.Proofs.Ytpmpmlhjnddikaa
/- THE CELL 'sum', in the pinned program and in every row, IS THE sha256 OF THE DUMP (.gsa) THAT YtpmpmlhjnddikaaProg.lean LOADS. Nothing in Lean hashes anything: it is a label: what it is worth is what the hold of that sum in a sandbox is worth. -/
noncomputable def Try.pinned : Pinned := { name := "ytpmpmlhjnddikaa", sum := "4486f407dc6df4293604fc8030c5c96907a57b31d2ae3ab2f72ff0b1e7c7ccc8", checked := Try.checked }
namespace Rows
def none {H : Type} : Left H := { results := [], args := [] }

/-- 'minecontrollaw35.ClearanceRaw': WHATEVER THE INPUT: true; the input reads as it did. -/
def clearanceRawSpec : ChangeSpec := { name := "clearanceRaw", fn := fun _ => fun
  | [d1, d2, d3] => { results := [.lit (.bool true)], args := [d1, d2, d3] }
  | _ => none }
def clearanceRawRow : OpenClaim := { program := "ytpmpmlhjnddikaa", sum := "4486f407dc6df4293604fc8030c5c96907a57b31d2ae3ab2f72ff0b1e7c7ccc8", func := "minecontrol/minecontrollaw35.ClearanceRaw", spec := "clearanceRaw", unfollowed := true, recurses := true, apart := false }
def ClearanceRawSaid : Prop := clearanceRawRow.holds Try.pinned (OpenSpec.ofChange clearanceRawSpec)

/-- ITS FALSE NEIGHBOUR: 'it returns false'. Refute it at one input. -/
def clearanceRawWrong : ChangeSpec := { name := "clearanceRaw", fn := fun _ => fun
  | [d1, d2, d3] => { results := [.lit (.bool false)], args := [d1, d2, d3] }
  | _ => none }
def ClearanceRawWrongFalsely : Prop := clearanceRawRow.holds Try.pinned (OpenSpec.ofChange clearanceRawWrong)

/-- 'minecontrollaw35.ClearanceSinks': WHATEVER THE INPUT: true; the input reads as it did. -/
def clearanceSinksSpec : ChangeSpec := { name := "clearanceSinks", fn := fun _ => fun
  | [d] => { results := [.lit (.bool true)], args := [d] }
  | _ => none }
def clearanceSinksRow : OpenClaim := { program := "ytpmpmlhjnddikaa", sum := "4486f407dc6df4293604fc8030c5c96907a57b31d2ae3ab2f72ff0b1e7c7ccc8", func := "minecontrol/minecontrollaw35.ClearanceSinks", spec := "clearanceSinks", unfollowed := true, recurses := true, apart := false }
def ClearanceSinksSaid : Prop := clearanceSinksRow.holds Try.pinned (OpenSpec.ofChange clearanceSinksSpec)

/-- ITS FALSE NEIGHBOUR: 'it returns false'. Refute it at one input. -/
def clearanceSinksWrong : ChangeSpec := { name := "clearanceSinks", fn := fun _ => fun
  | [d] => { results := [.lit (.bool false)], args := [d] }
  | _ => none }
def ClearanceSinksWrongFalsely : Prop := clearanceSinksRow.holds Try.pinned (OpenSpec.ofChange clearanceSinksWrong)

/-- 'minecontrollaw35.ClearanceUntil': WHATEVER THE INPUT: true; the input reads as it did. -/
def clearanceUntilSpec : ChangeSpec := { name := "clearanceUntil", fn := fun _ => fun
  | [d] => { results := [.lit (.bool true)], args := [d] }
  | _ => none }
def clearanceUntilRow : OpenClaim := { program := "ytpmpmlhjnddikaa", sum := "4486f407dc6df4293604fc8030c5c96907a57b31d2ae3ab2f72ff0b1e7c7ccc8", func := "minecontrol/minecontrollaw35.ClearanceUntil", spec := "clearanceUntil", unfollowed := true, recurses := true, apart := false }
def ClearanceUntilSaid : Prop := clearanceUntilRow.holds Try.pinned (OpenSpec.ofChange clearanceUntilSpec)

/-- ITS FALSE NEIGHBOUR: 'it returns false'. Refute it at one input. -/
def clearanceUntilWrong : ChangeSpec := { name := "clearanceUntil", fn := fun _ => fun
  | [d] => { results := [.lit (.bool false)], args := [d] }
  | _ => none }
def ClearanceUntilWrongFalsely : Prop := clearanceUntilRow.holds Try.pinned (OpenSpec.ofChange clearanceUntilWrong)

/-- 'minecontrollaw35.ClearanceWide': WHATEVER THE INPUT: true; the input reads as it did. -/
def clearanceWideSpec : ChangeSpec := { name := "clearanceWide", fn := fun _ => fun
  | [d] => { results := [.lit (.bool true)], args := [d] }
  | _ => none }
def clearanceWideRow : OpenClaim := { program := "ytpmpmlhjnddikaa", sum := "4486f407dc6df4293604fc8030c5c96907a57b31d2ae3ab2f72ff0b1e7c7ccc8", func := "minecontrol/minecontrollaw35.ClearanceWide", spec := "clearanceWide", unfollowed := true, recurses := true, apart := false }
def ClearanceWideSaid : Prop := clearanceWideRow.holds Try.pinned (OpenSpec.ofChange clearanceWideSpec)

/-- ITS FALSE NEIGHBOUR: 'it returns false'. Refute it at one input. -/
def clearanceWideWrong : ChangeSpec := { name := "clearanceWide", fn := fun _ => fun
  | [d] => { results := [.lit (.bool false)], args := [d] }
  | _ => none }
def ClearanceWideWrongFalsely : Prop := clearanceWideRow.holds Try.pinned (OpenSpec.ofChange clearanceWideWrong)

/- THE SECOND FORM. 'bulk': how many values and letters a reading holds, each counted each time it is reached (what is shared counts as often as it is met; a slice's spare places count too). A statement '..UptoSaid' is the law's where the arguments, and the package variables that the reading takes, are together of bulk at most 1048576: NARROWER than '..Said'. Prove '..Said' where nothing that the law and all that it calls make is longer than what came in: it says more and counts as full. Else prove '..UptoSaid'. A law counts once. -/
mutual
def uptoBulk {H : Type} : DataW H → Nat
  | .lit (.string bytes) => bytes.length + 1
  | .lit _ => 1
  | .nil => 1
  | .ptr d => uptoBulk d + 1
  | .slice elems spare => uptoBulkAll elems + uptoBulkAll spare + 1
  | .agg parts => uptoBulkAll parts + 1
  | .iface _ d => uptoBulk d + 1
  | .map entries => uptoBulkEntries entries + 1
  | .held _ => 1
def uptoBulkAll {H : Type} : List (DataW H) → Nat
  | [] => 0
  | d :: r => uptoBulk d + uptoBulkAll r
def uptoBulkEntries {H : Type} : List (Lit × DataW H) → Nat
  | [] => 0
  | x :: r => uptoBulkEntry x + uptoBulkEntries r
def uptoBulkEntry {H : Type} : Lit × DataW H → Nat
  | (.string bytes, d) => bytes.length + uptoBulk d + 1
  | (_, d) => uptoBulk d + 1
 end
def uptoSmall : (H : Type) → List (DataW H) → Bool := fun _ ds => decide (uptoBulkAll ds ≤ 1048576)
def OpenSpec.upto (s : _root_.Go.ChangeSpec) : _root_.Go.OpenSpec := { _root_.Go.OpenSpec.ofChange s with cond := some uptoSmall }

/-- 'minecontrollaw35.ClearanceRaw', WHERE WHAT IT READS IS OF BULK AT MOST 1048576: true; the input reads as it did. -/
def clearanceRawUptoRow : OpenClaim := { program := "ytpmpmlhjnddikaa", sum := "4486f407dc6df4293604fc8030c5c96907a57b31d2ae3ab2f72ff0b1e7c7ccc8", func := "minecontrol/minecontrollaw35.ClearanceRaw", spec := "clearanceRaw", unfollowed := true, recurses := true, apart := false, narrowed := true }
def ClearanceRawUptoSaid : Prop := clearanceRawUptoRow.holds Try.pinned (OpenSpec.upto clearanceRawSpec)

/-- 'minecontrollaw35.ClearanceSinks', WHERE WHAT IT READS IS OF BULK AT MOST 1048576: true; the input reads as it did. -/
def clearanceSinksUptoRow : OpenClaim := { program := "ytpmpmlhjnddikaa", sum := "4486f407dc6df4293604fc8030c5c96907a57b31d2ae3ab2f72ff0b1e7c7ccc8", func := "minecontrol/minecontrollaw35.ClearanceSinks", spec := "clearanceSinks", unfollowed := true, recurses := true, apart := false, narrowed := true }
def ClearanceSinksUptoSaid : Prop := clearanceSinksUptoRow.holds Try.pinned (OpenSpec.upto clearanceSinksSpec)

/-- 'minecontrollaw35.ClearanceUntil', WHERE WHAT IT READS IS OF BULK AT MOST 1048576: true; the input reads as it did. -/
def clearanceUntilUptoRow : OpenClaim := { program := "ytpmpmlhjnddikaa", sum := "4486f407dc6df4293604fc8030c5c96907a57b31d2ae3ab2f72ff0b1e7c7ccc8", func := "minecontrol/minecontrollaw35.ClearanceUntil", spec := "clearanceUntil", unfollowed := true, recurses := true, apart := false, narrowed := true }
def ClearanceUntilUptoSaid : Prop := clearanceUntilUptoRow.holds Try.pinned (OpenSpec.upto clearanceUntilSpec)

/-- 'minecontrollaw35.ClearanceWide', WHERE WHAT IT READS IS OF BULK AT MOST 1048576: true; the input reads as it did. -/
def clearanceWideUptoRow : OpenClaim := { program := "ytpmpmlhjnddikaa", sum := "4486f407dc6df4293604fc8030c5c96907a57b31d2ae3ab2f72ff0b1e7c7ccc8", func := "minecontrol/minecontrollaw35.ClearanceWide", spec := "clearanceWide", unfollowed := true, recurses := true, apart := false, narrowed := true }
def ClearanceWideUptoSaid : Prop := clearanceWideUptoRow.holds Try.pinned (OpenSpec.upto clearanceWideSpec)

end Rows
end Go.Proofs.Ytpmpmlhjnddikaa
