/-
  No cell of these rows narrows 'for every input' (looked for: loops, veiled, ifaces, maps, wideKeys, modest, calm, conditions, laid).
  DERIVED. THE GIVEN ROWS OF THIS SEAT. 6 by the template 'for every input the law returns true; each argument reads behind the call as it read before'; 0 by the template 'total and deterministic' (their statements: YtdmggkpefjpknaaTotals.lean).
  GIVEN WITH THE SEED: the statements are not yours to turn. If you find one false, say at which input.
  Laid BY PROGRAM, IN A SANDBOX (cutbox-rows.mjs): the forced cells as the released guide's own fill.sh prints them over the translation 68561f10d5bbf7d2… (all of the seat's roots in one cut). By AI agents, Wed Nov 11 2026. No macro, syntax, notation, axiom, sorry.
-/
import Derived.Test.YtdmggkpefjpknaaChecked
import GoSem.Claim
import GoSem.ClaimJoined
import GoSem.ClaimMapViews
import Derived.JoinedTies
import Derived.KernelRfl
namespace Go.Proofs.Ytdmggkpefjpknaa
/- THE CELL 'sum', in the pinned program and in every row, IS THE sha256 OF THE DUMP (.gsa) THAT YtdmggkpefjpknaaProg.lean LOADS. Nothing in Lean hashes anything: it is a label: what it is worth is what the hold of that sum in a sandbox is worth. -/
noncomputable def Try.pinned : Pinned := { name := "ytdmggkpefjpknaa", sum := "68561f10d5bbf7d2cfb74831f0f058dd9db92605c41ae6d8faa10b971b179394", checked := Try.checked }
namespace Rows
def none {H : Type} : Left H := { results := [], args := [] }

/-- 'minecontrollaw01.PlanChecks': WHATEVER THE INPUT: true; the input reads as it did. -/
def planChecksSpec : ChangeSpec := { name := "planChecks", fn := fun _ => fun
  | [d1, d2, d3, d4] => { results := [.lit (.bool true)], args := [d1, d2, d3, d4] }
  | _ => none }
def planChecksRow : OpenClaim := { program := "ytdmggkpefjpknaa", sum := "68561f10d5bbf7d2cfb74831f0f058dd9db92605c41ae6d8faa10b971b179394", func := "minecontrol/minecontrollaw01.PlanChecks", spec := "planChecks", apart := false }
def PlanChecksSaid : Prop := planChecksRow.holds Try.pinned (OpenSpec.ofChange planChecksSpec)

/-- ITS FALSE NEIGHBOUR: 'it returns false'. Refute it at one input. -/
def planChecksWrong : ChangeSpec := { name := "planChecks", fn := fun _ => fun
  | [d1, d2, d3, d4] => { results := [.lit (.bool false)], args := [d1, d2, d3, d4] }
  | _ => none }
def PlanChecksWrongFalsely : Prop := planChecksRow.holds Try.pinned (OpenSpec.ofChange planChecksWrong)

/-- 'minecontrollaw01.PlanOrders': WHATEVER THE INPUT: true; the input reads as it did. -/
def planOrdersSpec : ChangeSpec := { name := "planOrders", fn := fun _ => fun
  | [d1, d2, d3] => { results := [.lit (.bool true)], args := [d1, d2, d3] }
  | _ => none }
def planOrdersRow : OpenClaim := { program := "ytdmggkpefjpknaa", sum := "68561f10d5bbf7d2cfb74831f0f058dd9db92605c41ae6d8faa10b971b179394", func := "minecontrol/minecontrollaw01.PlanOrders", spec := "planOrders", apart := false }
def PlanOrdersSaid : Prop := planOrdersRow.holds Try.pinned (OpenSpec.ofChange planOrdersSpec)

/-- ITS FALSE NEIGHBOUR: 'it returns false'. Refute it at one input. -/
def planOrdersWrong : ChangeSpec := { name := "planOrders", fn := fun _ => fun
  | [d1, d2, d3] => { results := [.lit (.bool false)], args := [d1, d2, d3] }
  | _ => none }
def PlanOrdersWrongFalsely : Prop := planOrdersRow.holds Try.pinned (OpenSpec.ofChange planOrdersWrong)

/-- 'minecontrollaw01.PlanApplies': WHATEVER THE INPUT: true; the input reads as it did. -/
def planAppliesSpec : ChangeSpec := { name := "planApplies", fn := fun _ => fun
  | [d1, d2] => { results := [.lit (.bool true)], args := [d1, d2] }
  | _ => none }
def planAppliesRow : OpenClaim := { program := "ytdmggkpefjpknaa", sum := "68561f10d5bbf7d2cfb74831f0f058dd9db92605c41ae6d8faa10b971b179394", func := "minecontrol/minecontrollaw01.PlanApplies", spec := "planApplies", apart := false }
def PlanAppliesSaid : Prop := planAppliesRow.holds Try.pinned (OpenSpec.ofChange planAppliesSpec)

/-- ITS FALSE NEIGHBOUR: 'it returns false'. Refute it at one input. -/
def planAppliesWrong : ChangeSpec := { name := "planApplies", fn := fun _ => fun
  | [d1, d2] => { results := [.lit (.bool false)], args := [d1, d2] }
  | _ => none }
def PlanAppliesWrongFalsely : Prop := planAppliesRow.holds Try.pinned (OpenSpec.ofChange planAppliesWrong)

/-- 'minecontrollaw01.PlanBack': WHATEVER THE INPUT: true; the input reads as it did. -/
def planBackSpec : ChangeSpec := { name := "planBack", fn := fun _ => fun
  | [d1, d2] => { results := [.lit (.bool true)], args := [d1, d2] }
  | _ => none }
def planBackRow : OpenClaim := { program := "ytdmggkpefjpknaa", sum := "68561f10d5bbf7d2cfb74831f0f058dd9db92605c41ae6d8faa10b971b179394", func := "minecontrol/minecontrollaw01.PlanBack", spec := "planBack", apart := false }
def PlanBackSaid : Prop := planBackRow.holds Try.pinned (OpenSpec.ofChange planBackSpec)

/-- ITS FALSE NEIGHBOUR: 'it returns false'. Refute it at one input. -/
def planBackWrong : ChangeSpec := { name := "planBack", fn := fun _ => fun
  | [d1, d2] => { results := [.lit (.bool false)], args := [d1, d2] }
  | _ => none }
def PlanBackWrongFalsely : Prop := planBackRow.holds Try.pinned (OpenSpec.ofChange planBackWrong)

/-- 'minecontrollaw01.PlanParts': WHATEVER THE INPUT: true; the input reads as it did. -/
def planPartsSpec : ChangeSpec := { name := "planParts", fn := fun _ => fun
  | [d] => { results := [.lit (.bool true)], args := [d] }
  | _ => none }
def planPartsRow : OpenClaim := { program := "ytdmggkpefjpknaa", sum := "68561f10d5bbf7d2cfb74831f0f058dd9db92605c41ae6d8faa10b971b179394", func := "minecontrol/minecontrollaw01.PlanParts", spec := "planParts", apart := false }
def PlanPartsSaid : Prop := planPartsRow.holds Try.pinned (OpenSpec.ofChange planPartsSpec)

/-- ITS FALSE NEIGHBOUR: 'it returns false'. Refute it at one input. -/
def planPartsWrong : ChangeSpec := { name := "planParts", fn := fun _ => fun
  | [d] => { results := [.lit (.bool false)], args := [d] }
  | _ => none }
def PlanPartsWrongFalsely : Prop := planPartsRow.holds Try.pinned (OpenSpec.ofChange planPartsWrong)

/-- 'minecontrollaw01.PlanLooks': WHATEVER THE INPUT: true; the input reads as it did. -/
def planLooksSpec : ChangeSpec := { name := "planLooks", fn := fun _ => fun
  | [d1, d2, d3, d4] => { results := [.lit (.bool true)], args := [d1, d2, d3, d4] }
  | _ => none }
def planLooksRow : OpenClaim := { program := "ytdmggkpefjpknaa", sum := "68561f10d5bbf7d2cfb74831f0f058dd9db92605c41ae6d8faa10b971b179394", func := "minecontrol/minecontrollaw01.PlanLooks", spec := "planLooks", apart := false }
def PlanLooksSaid : Prop := planLooksRow.holds Try.pinned (OpenSpec.ofChange planLooksSpec)

/-- ITS FALSE NEIGHBOUR: 'it returns false'. Refute it at one input. -/
def planLooksWrong : ChangeSpec := { name := "planLooks", fn := fun _ => fun
  | [d1, d2, d3, d4] => { results := [.lit (.bool false)], args := [d1, d2, d3, d4] }
  | _ => none }
def PlanLooksWrongFalsely : Prop := planLooksRow.holds Try.pinned (OpenSpec.ofChange planLooksWrong)

/- THE SECOND FORM. 'bulk': how many values and letters a reading holds, each counted each time it is reached (what is shared counts as often as it is met; a slice's spare places count too). A statement '..UptoSaid' is the law's where the arguments, and the package variables that the reading takes, are together of bulk at most 1048576: NARROWER than '..Said'. Prove '..Said' where nothing that the law and all that it calls make is longer than what came in: it says more and counts as full. Else prove '..UptoSaid'. A law counts once. -/
mutual
def uptoBulk {H : Type} : DataW H → Nat
  | .lit (.string bytes) => bytes.length + 1
  | .lit _ => 1
  | .nil => 1
  | .ptr d => uptoBulk d + 1
  | .slice elems spare => uptoBulkAll elems + uptoBulkAll spare + 1
  | .agg parts => uptoBulkAll parts + 1
  | .iface _ d => uptoBulk d + 1
  | .map entries => uptoBulkEntries entries + 1
  | .held _ => 1
def uptoBulkAll {H : Type} : List (DataW H) → Nat
  | [] => 0
  | d :: r => uptoBulk d + uptoBulkAll r
def uptoBulkEntries {H : Type} : List (Lit × DataW H) → Nat
  | [] => 0
  | x :: r => uptoBulkEntry x + uptoBulkEntries r
def uptoBulkEntry {H : Type} : Lit × DataW H → Nat
  | (.string bytes, d) => bytes.length + uptoBulk d + 1
  | (_, d) => uptoBulk d + 1
 end
def uptoSmall : (H : Type) → List (DataW H) → Bool := fun _ ds => decide (uptoBulkAll ds ≤ 1048576)
def OpenSpec.upto (s : _root_.Go.ChangeSpec) : _root_.Go.OpenSpec := { _root_.Go.OpenSpec.ofChange s with cond := some uptoSmall }

/-- 'minecontrollaw01.PlanChecks', WHERE WHAT IT READS IS OF BULK AT MOST 1048576: true; the input reads as it did. -/
def planChecksUptoRow : OpenClaim := { program := "ytdmggkpefjpknaa", sum := "68561f10d5bbf7d2cfb74831f0f058dd9db92605c41ae6d8faa10b971b179394", func := "minecontrol/minecontrollaw01.PlanChecks", spec := "planChecks", apart := false, narrowed := true }
def PlanChecksUptoSaid : Prop := planChecksUptoRow.holds Try.pinned (OpenSpec.upto planChecksSpec)

/-- 'minecontrollaw01.PlanOrders', WHERE WHAT IT READS IS OF BULK AT MOST 1048576: true; the input reads as it did. -/
def planOrdersUptoRow : OpenClaim := { program := "ytdmggkpefjpknaa", sum := "68561f10d5bbf7d2cfb74831f0f058dd9db92605c41ae6d8faa10b971b179394", func := "minecontrol/minecontrollaw01.PlanOrders", spec := "planOrders", apart := false, narrowed := true }
def PlanOrdersUptoSaid : Prop := planOrdersUptoRow.holds Try.pinned (OpenSpec.upto planOrdersSpec)

/-- 'minecontrollaw01.PlanApplies', WHERE WHAT IT READS IS OF BULK AT MOST 1048576: true; the input reads as it did. -/
def planAppliesUptoRow : OpenClaim := { program := "ytdmggkpefjpknaa", sum := "68561f10d5bbf7d2cfb74831f0f058dd9db92605c41ae6d8faa10b971b179394", func := "minecontrol/minecontrollaw01.PlanApplies", spec := "planApplies", apart := false, narrowed := true }
def PlanAppliesUptoSaid : Prop := planAppliesUptoRow.holds Try.pinned (OpenSpec.upto planAppliesSpec)

/-- 'minecontrollaw01.PlanBack', WHERE WHAT IT READS IS OF BULK AT MOST 1048576: true; the input reads as it did. -/
def planBackUptoRow : OpenClaim := { program := "ytdmggkpefjpknaa", sum := "68561f10d5bbf7d2cfb74831f0f058dd9db92605c41ae6d8faa10b971b179394", func := "minecontrol/minecontrollaw01.PlanBack", spec := "planBack", apart := false, narrowed := true }
def PlanBackUptoSaid : Prop := planBackUptoRow.holds Try.pinned (OpenSpec.upto planBackSpec)

/-- 'minecontrollaw01.PlanParts', WHERE WHAT IT READS IS OF BULK AT MOST 1048576: true; the input reads as it did. -/
def planPartsUptoRow : OpenClaim := { program := "ytdmggkpefjpknaa", sum := "68561f10d5bbf7d2cfb74831f0f058dd9db92605c41ae6d8faa10b971b179394", func := "minecontrol/minecontrollaw01.PlanParts", spec := "planParts", apart := false, narrowed := true }
def PlanPartsUptoSaid : Prop := planPartsUptoRow.holds Try.pinned (OpenSpec.upto planPartsSpec)

/-- 'minecontrollaw01.PlanLooks', WHERE WHAT IT READS IS OF BULK AT MOST 1048576: true; the input reads as it did. -/
def planLooksUptoRow : OpenClaim := { program := "ytdmggkpefjpknaa", sum := "68561f10d5bbf7d2cfb74831f0f058dd9db92605c41ae6d8faa10b971b179394", func := "minecontrol/minecontrollaw01.PlanLooks", spec := "planLooks", apart := false, narrowed := true }
def PlanLooksUptoSaid : Prop := planLooksUptoRow.holds Try.pinned (OpenSpec.upto planLooksSpec)

end Rows
end Go.Proofs.Ytdmggkpefjpknaa
