/-
  No cell of these rows narrows 'for every input' (looked for: loops, veiled, ifaces, maps, wideKeys, modest, calm, conditions, laid).
  DERIVED. THE GIVEN ROWS OF THIS SEAT. 6 by the template 'for every input the law returns true; each argument reads behind the call as it read before'; 0 by the template 'total and deterministic' (their statements: YtiemlgicaibccaaTotals.lean).
  GIVEN WITH THE SEED: the statements are not yours to turn. If you find one false, say at which input.
  Laid BY PROGRAM, IN A SANDBOX (cutbox-rows.mjs): the forced cells as the released guide's own fill.sh prints them over the translation 21333645057ce185… (all of the seat's roots in one cut). By AI agents, Wed Nov 11 2026. No macro, syntax, notation, axiom, sorry.
-/
import Derived.Test.YtiemlgicaibccaaChecked
import GoSem.Claim
import GoSem.ClaimJoined
import GoSem.ClaimMapViews
import Derived.JoinedTies
import Derived.KernelRfl
namespace Go.Proofs.Ytiemlgicaibccaa
/- THE CELL 'sum', in the pinned program and in every row, IS THE sha256 OF THE DUMP (.gsa) THAT YtiemlgicaibccaaProg.lean LOADS. Nothing in Lean hashes anything: it is a label: what it is worth is what the hold of that sum in a sandbox is worth. -/
noncomputable def Try.pinned : Pinned := { name := "ytiemlgicaibccaa", sum := "21333645057ce185514145572bcd903335d591e506e5a8335680919171903ca0", checked := Try.checked }
namespace Rows
def none {H : Type} : Left H := { results := [], args := [] }

/-- 'minecontrollaw29.WaysRaw': WHATEVER THE INPUT: true; the input reads as it did. -/
def waysRawSpec : ChangeSpec := { name := "waysRaw", fn := fun _ => fun
  | [d1, d2, d3] => { results := [.lit (.bool true)], args := [d1, d2, d3] }
  | _ => none }
def waysRawRow : OpenClaim := { program := "ytiemlgicaibccaa", sum := "21333645057ce185514145572bcd903335d591e506e5a8335680919171903ca0", func := "minecontrol/minecontrollaw29.WaysRaw", spec := "waysRaw", unfollowed := true, recurses := true, plainKeys := false, apart := false }
def WaysRawSaid : Prop := waysRawRow.holds Try.pinned (OpenSpec.ofChange waysRawSpec)

/-- ITS FALSE NEIGHBOUR: 'it returns false'. Refute it at one input. -/
def waysRawWrong : ChangeSpec := { name := "waysRaw", fn := fun _ => fun
  | [d1, d2, d3] => { results := [.lit (.bool false)], args := [d1, d2, d3] }
  | _ => none }
def WaysRawWrongFalsely : Prop := waysRawRow.holds Try.pinned (OpenSpec.ofChange waysRawWrong)

/-- 'minecontrollaw29.WaysMade': WHATEVER THE INPUT: true; the input reads as it did. -/
def waysMadeSpec : ChangeSpec := { name := "waysMade", fn := fun _ => fun
  | [d] => { results := [.lit (.bool true)], args := [d] }
  | _ => none }
def waysMadeRow : OpenClaim := { program := "ytiemlgicaibccaa", sum := "21333645057ce185514145572bcd903335d591e506e5a8335680919171903ca0", func := "minecontrol/minecontrollaw29.WaysMade", spec := "waysMade", unfollowed := true, recurses := true, plainKeys := false, apart := false }
def WaysMadeSaid : Prop := waysMadeRow.holds Try.pinned (OpenSpec.ofChange waysMadeSpec)

/-- ITS FALSE NEIGHBOUR: 'it returns false'. Refute it at one input. -/
def waysMadeWrong : ChangeSpec := { name := "waysMade", fn := fun _ => fun
  | [d] => { results := [.lit (.bool false)], args := [d] }
  | _ => none }
def WaysMadeWrongFalsely : Prop := waysMadeRow.holds Try.pinned (OpenSpec.ofChange waysMadeWrong)

/-- 'minecontrollaw29.WaysTwo': WHATEVER THE INPUT: true; the input reads as it did. -/
def waysTwoSpec : ChangeSpec := { name := "waysTwo", fn := fun _ => fun
  | [d] => { results := [.lit (.bool true)], args := [d] }
  | _ => none }
def waysTwoRow : OpenClaim := { program := "ytiemlgicaibccaa", sum := "21333645057ce185514145572bcd903335d591e506e5a8335680919171903ca0", func := "minecontrol/minecontrollaw29.WaysTwo", spec := "waysTwo", unfollowed := true, recurses := true, plainKeys := false, apart := false }
def WaysTwoSaid : Prop := waysTwoRow.holds Try.pinned (OpenSpec.ofChange waysTwoSpec)

/-- ITS FALSE NEIGHBOUR: 'it returns false'. Refute it at one input. -/
def waysTwoWrong : ChangeSpec := { name := "waysTwo", fn := fun _ => fun
  | [d] => { results := [.lit (.bool false)], args := [d] }
  | _ => none }
def WaysTwoWrongFalsely : Prop := waysTwoRow.holds Try.pinned (OpenSpec.ofChange waysTwoWrong)

/-- 'minecontrollaw29.WaysBest': WHATEVER THE INPUT: true; the input reads as it did. -/
def waysBestSpec : ChangeSpec := { name := "waysBest", fn := fun _ => fun
  | [d] => { results := [.lit (.bool true)], args := [d] }
  | _ => none }
def waysBestRow : OpenClaim := { program := "ytiemlgicaibccaa", sum := "21333645057ce185514145572bcd903335d591e506e5a8335680919171903ca0", func := "minecontrol/minecontrollaw29.WaysBest", spec := "waysBest", unfollowed := true, recurses := true, plainKeys := false, apart := false }
def WaysBestSaid : Prop := waysBestRow.holds Try.pinned (OpenSpec.ofChange waysBestSpec)

/-- ITS FALSE NEIGHBOUR: 'it returns false'. Refute it at one input. -/
def waysBestWrong : ChangeSpec := { name := "waysBest", fn := fun _ => fun
  | [d] => { results := [.lit (.bool false)], args := [d] }
  | _ => none }
def WaysBestWrongFalsely : Prop := waysBestRow.holds Try.pinned (OpenSpec.ofChange waysBestWrong)

/-- 'minecontrollaw29.WaysShut': WHATEVER THE INPUT: true; the input reads as it did. -/
def waysShutSpec : ChangeSpec := { name := "waysShut", fn := fun _ => fun
  | [d] => { results := [.lit (.bool true)], args := [d] }
  | _ => none }
def waysShutRow : OpenClaim := { program := "ytiemlgicaibccaa", sum := "21333645057ce185514145572bcd903335d591e506e5a8335680919171903ca0", func := "minecontrol/minecontrollaw29.WaysShut", spec := "waysShut", unfollowed := true, recurses := true, plainKeys := false, apart := false }
def WaysShutSaid : Prop := waysShutRow.holds Try.pinned (OpenSpec.ofChange waysShutSpec)

/-- ITS FALSE NEIGHBOUR: 'it returns false'. Refute it at one input. -/
def waysShutWrong : ChangeSpec := { name := "waysShut", fn := fun _ => fun
  | [d] => { results := [.lit (.bool false)], args := [d] }
  | _ => none }
def WaysShutWrongFalsely : Prop := waysShutRow.holds Try.pinned (OpenSpec.ofChange waysShutWrong)

/-- 'minecontrollaw29.WaysSafe': WHATEVER THE INPUT: true; the input reads as it did. -/
def waysSafeSpec : ChangeSpec := { name := "waysSafe", fn := fun _ => fun
  | [d] => { results := [.lit (.bool true)], args := [d] }
  | _ => none }
def waysSafeRow : OpenClaim := { program := "ytiemlgicaibccaa", sum := "21333645057ce185514145572bcd903335d591e506e5a8335680919171903ca0", func := "minecontrol/minecontrollaw29.WaysSafe", spec := "waysSafe", unfollowed := true, recurses := true, plainKeys := false, apart := false }
def WaysSafeSaid : Prop := waysSafeRow.holds Try.pinned (OpenSpec.ofChange waysSafeSpec)

/-- ITS FALSE NEIGHBOUR: 'it returns false'. Refute it at one input. -/
def waysSafeWrong : ChangeSpec := { name := "waysSafe", fn := fun _ => fun
  | [d] => { results := [.lit (.bool false)], args := [d] }
  | _ => none }
def WaysSafeWrongFalsely : Prop := waysSafeRow.holds Try.pinned (OpenSpec.ofChange waysSafeWrong)

/- THE SECOND FORM. 'bulk': how many values and letters a reading holds, each counted each time it is reached (what is shared counts as often as it is met; a slice's spare places count too). A statement '..UptoSaid' is the law's where the arguments, and the package variables that the reading takes, are together of bulk at most 1048576: NARROWER than '..Said'. Prove '..Said' where nothing that the law and all that it calls make is longer than what came in: it says more and counts as full. Else prove '..UptoSaid'. A law counts once. -/
mutual
def uptoBulk {H : Type} : DataW H → Nat
  | .lit (.string bytes) => bytes.length + 1
  | .lit _ => 1
  | .nil => 1
  | .ptr d => uptoBulk d + 1
  | .slice elems spare => uptoBulkAll elems + uptoBulkAll spare + 1
  | .agg parts => uptoBulkAll parts + 1
  | .iface _ d => uptoBulk d + 1
  | .map entries => uptoBulkEntries entries + 1
  | .held _ => 1
def uptoBulkAll {H : Type} : List (DataW H) → Nat
  | [] => 0
  | d :: r => uptoBulk d + uptoBulkAll r
def uptoBulkEntries {H : Type} : List (Lit × DataW H) → Nat
  | [] => 0
  | x :: r => uptoBulkEntry x + uptoBulkEntries r
def uptoBulkEntry {H : Type} : Lit × DataW H → Nat
  | (.string bytes, d) => bytes.length + uptoBulk d + 1
  | (_, d) => uptoBulk d + 1
 end
def uptoSmall : (H : Type) → List (DataW H) → Bool := fun _ ds => decide (uptoBulkAll ds ≤ 1048576)
def OpenSpec.upto (s : _root_.Go.ChangeSpec) : _root_.Go.OpenSpec := { _root_.Go.OpenSpec.ofChange s with cond := some uptoSmall }

/-- 'minecontrollaw29.WaysRaw', WHERE WHAT IT READS IS OF BULK AT MOST 1048576: true; the input reads as it did. -/
def waysRawUptoRow : OpenClaim := { program := "ytiemlgicaibccaa", sum := "21333645057ce185514145572bcd903335d591e506e5a8335680919171903ca0", func := "minecontrol/minecontrollaw29.WaysRaw", spec := "waysRaw", unfollowed := true, recurses := true, plainKeys := false, apart := false, narrowed := true }
def WaysRawUptoSaid : Prop := waysRawUptoRow.holds Try.pinned (OpenSpec.upto waysRawSpec)

/-- 'minecontrollaw29.WaysMade', WHERE WHAT IT READS IS OF BULK AT MOST 1048576: true; the input reads as it did. -/
def waysMadeUptoRow : OpenClaim := { program := "ytiemlgicaibccaa", sum := "21333645057ce185514145572bcd903335d591e506e5a8335680919171903ca0", func := "minecontrol/minecontrollaw29.WaysMade", spec := "waysMade", unfollowed := true, recurses := true, plainKeys := false, apart := false, narrowed := true }
def WaysMadeUptoSaid : Prop := waysMadeUptoRow.holds Try.pinned (OpenSpec.upto waysMadeSpec)

/-- 'minecontrollaw29.WaysTwo', WHERE WHAT IT READS IS OF BULK AT MOST 1048576: true; the input reads as it did. -/
def waysTwoUptoRow : OpenClaim := { program := "ytiemlgicaibccaa", sum := "21333645057ce185514145572bcd903335d591e506e5a8335680919171903ca0", func := "minecontrol/minecontrollaw29.WaysTwo", spec := "waysTwo", unfollowed := true, recurses := true, plainKeys := false, apart := false, narrowed := true }
def WaysTwoUptoSaid : Prop := waysTwoUptoRow.holds Try.pinned (OpenSpec.upto waysTwoSpec)

/-- 'minecontrollaw29.WaysBest', WHERE WHAT IT READS IS OF BULK AT MOST 1048576: true; the input reads as it did. -/
def waysBestUptoRow : OpenClaim := { program := "ytiemlgicaibccaa", sum := "21333645057ce185514145572bcd903335d591e506e5a8335680919171903ca0", func := "minecontrol/minecontrollaw29.WaysBest", spec := "waysBest", unfollowed := true, recurses := true, plainKeys := false, apart := false, narrowed := true }
def WaysBestUptoSaid : Prop := waysBestUptoRow.holds Try.pinned (OpenSpec.upto waysBestSpec)

/-- 'minecontrollaw29.WaysShut', WHERE WHAT IT READS IS OF BULK AT MOST 1048576: true; the input reads as it did. -/
def waysShutUptoRow : OpenClaim := { program := "ytiemlgicaibccaa", sum := "21333645057ce185514145572bcd903335d591e506e5a8335680919171903ca0", func := "minecontrol/minecontrollaw29.WaysShut", spec := "waysShut", unfollowed := true, recurses := true, plainKeys := false, apart := false, narrowed := true }
def WaysShutUptoSaid : Prop := waysShutUptoRow.holds Try.pinned (OpenSpec.upto waysShutSpec)

/-- 'minecontrollaw29.WaysSafe', WHERE WHAT IT READS IS OF BULK AT MOST 1048576: true; the input reads as it did. -/
def waysSafeUptoRow : OpenClaim := { program := "ytiemlgicaibccaa", sum := "21333645057ce185514145572bcd903335d591e506e5a8335680919171903ca0", func := "minecontrol/minecontrollaw29.WaysSafe", spec := "waysSafe", unfollowed := true, recurses := true, plainKeys := false, apart := false, narrowed := true }
def WaysSafeUptoSaid : Prop := waysSafeUptoRow.holds Try.pinned (OpenSpec.upto waysSafeSpec)

end Rows
end Go.Proofs.Ytiemlgicaibccaa
