/-
  DERIVED. GIVEN WITH THE SEED: THE CARDS: each row of YthfejkflhpifnaaDoorRows.lean that lists a variable, with what it lists TIED to the program's text (the seventh form; the later family's looks); each row that meets fmt, with fmt's text TOLD by the authors' own Lean function (tested against real Go, not proved from fmt's source: count such statements apart). THE CARD IS WHAT COUNTS. Prove the row's statement (the work); the ties are given (YthfejkflhpifnaaDoorTie.lean); close each card by the builder's one call (the guide's Derived/Test/ToyasCard.lean, 'card_holds'). Laid BY PROGRAM, IN A SANDBOX (cutbox-door.mjs). By AI agents, Wed Nov 11 2026. No macro, syntax, notation, axiom, sorry.
-/
import Derived.Test.YthfejkflhpifnaaDoorRows
import GoSem.ClaimSeven
namespace Go.Proofs.YthfejkflhpifnaaDoor
namespace Rows

/-- THE TIED CARD OF 'minecontrollaw19.RuleChecks'. -/
def ruleChecksCard : Claim7 := { stood := { row := ruleChecksRow, standIns := [], harness := (true, "f297e67601a46397f7917a82b0e1a2cd005d3d99f84db71ea0a94026eb2db0ce"), looks := true }, kinds := [], alts := [], laidByText := true, laidKinds := [.data, .data, .data, .sentinel, .sentinel], laidTests := true, laidLooks := .later }
def RuleChecksCardSaid : Prop := Claim7.holds Tryd.pinned (.plain (OpenSpec.ofChange ruleChecksSpec)) ruleChecksCard

/-- THE TIED CARD OF 'minecontrollaw19.RulePrints'. -/
def rulePrintsCard : Claim7 := { stood := { row := rulePrintsRow, standIns := [], harness := (true, "f297e67601a46397f7917a82b0e1a2cd005d3d99f84db71ea0a94026eb2db0ce"), looks := true }, kinds := [], alts := [], laidByText := true, laidKinds := [.data, .data, .data, .sentinel, .sentinel], laidTests := true, laidLooks := .later }
def RulePrintsCardSaid : Prop := Claim7.holds Tryd.pinned (.plain (OpenSpec.ofChange rulePrintsSpec)) rulePrintsCard

/-- THE TIED CARD OF 'minecontrollaw19.RuleBack'. -/
def ruleBackCard : Claim7 := { stood := { row := ruleBackRow, standIns := [], harness := (true, "f297e67601a46397f7917a82b0e1a2cd005d3d99f84db71ea0a94026eb2db0ce"), looks := true }, kinds := [], alts := [], laidByText := true, laidKinds := [.data, .data, .data, .sentinel, .sentinel], laidTests := true, laidLooks := .later }
def RuleBackCardSaid : Prop := Claim7.holds Tryd.pinned (.plain (OpenSpec.ofChange ruleBackSpec)) ruleBackCard

/-- THE TIED CARD OF 'minecontrollaw19.RuleKnown'. -/
def ruleKnownCard : Claim7 := { stood := { row := ruleKnownRow, standIns := [], harness := (true, "f297e67601a46397f7917a82b0e1a2cd005d3d99f84db71ea0a94026eb2db0ce"), looks := true }, kinds := [], alts := [], laidByText := true, laidKinds := [.data, .data, .data, .sentinel, .sentinel], laidTests := true, laidLooks := .later }
def RuleKnownCardSaid : Prop := Claim7.holds Tryd.pinned (.plain (OpenSpec.ofChange ruleKnownSpec)) ruleKnownCard

/-- THE TIED CARD OF 'minecontrollaw19.RuleLaws'. -/
def ruleLawsCard : Claim7 := { stood := { row := ruleLawsRow, standIns := [], harness := (true, "f297e67601a46397f7917a82b0e1a2cd005d3d99f84db71ea0a94026eb2db0ce"), looks := true }, kinds := [], alts := [], laidByText := true, laidKinds := [.data, .data, .data, .sentinel, .sentinel], laidTests := true, laidLooks := .later }
def RuleLawsCardSaid : Prop := Claim7.holds Tryd.pinned (.plain (OpenSpec.ofChange ruleLawsSpec)) ruleLawsCard

/-- THE TIED CARD OF 'minecontrollaw19.RuleDeep'. -/
def ruleDeepCard : Claim7 := { stood := { row := ruleDeepRow, standIns := [], harness := (true, "f297e67601a46397f7917a82b0e1a2cd005d3d99f84db71ea0a94026eb2db0ce"), looks := true }, kinds := [], alts := [], laidByText := true, laidKinds := [.data, .data, .data, .sentinel, .sentinel], laidTests := true, laidLooks := .later }
def RuleDeepCardSaid : Prop := Claim7.holds Tryd.pinned (.plain (OpenSpec.ofChange ruleDeepSpec)) ruleDeepCard

/-- THE SECOND FORM's CARD OF 'minecontrollaw19.RuleChecks'. -/
def ruleChecksUptoCard : Claim7 := { stood := { row := ruleChecksUptoRow, standIns := [], harness := (true, "f297e67601a46397f7917a82b0e1a2cd005d3d99f84db71ea0a94026eb2db0ce"), looks := true }, kinds := [], alts := [], laidByText := true, laidKinds := [.data, .data, .data, .sentinel, .sentinel], laidTests := true, laidLooks := .later }
def RuleChecksUptoCardSaid : Prop := Claim7.holds Tryd.pinned (.plain (OpenSpec.upto ruleChecksSpec)) ruleChecksUptoCard

/-- THE SECOND FORM's CARD OF 'minecontrollaw19.RulePrints'. -/
def rulePrintsUptoCard : Claim7 := { stood := { row := rulePrintsUptoRow, standIns := [], harness := (true, "f297e67601a46397f7917a82b0e1a2cd005d3d99f84db71ea0a94026eb2db0ce"), looks := true }, kinds := [], alts := [], laidByText := true, laidKinds := [.data, .data, .data, .sentinel, .sentinel], laidTests := true, laidLooks := .later }
def RulePrintsUptoCardSaid : Prop := Claim7.holds Tryd.pinned (.plain (OpenSpec.upto rulePrintsSpec)) rulePrintsUptoCard

/-- THE SECOND FORM's CARD OF 'minecontrollaw19.RuleBack'. -/
def ruleBackUptoCard : Claim7 := { stood := { row := ruleBackUptoRow, standIns := [], harness := (true, "f297e67601a46397f7917a82b0e1a2cd005d3d99f84db71ea0a94026eb2db0ce"), looks := true }, kinds := [], alts := [], laidByText := true, laidKinds := [.data, .data, .data, .sentinel, .sentinel], laidTests := true, laidLooks := .later }
def RuleBackUptoCardSaid : Prop := Claim7.holds Tryd.pinned (.plain (OpenSpec.upto ruleBackSpec)) ruleBackUptoCard

/-- THE SECOND FORM's CARD OF 'minecontrollaw19.RuleKnown'. -/
def ruleKnownUptoCard : Claim7 := { stood := { row := ruleKnownUptoRow, standIns := [], harness := (true, "f297e67601a46397f7917a82b0e1a2cd005d3d99f84db71ea0a94026eb2db0ce"), looks := true }, kinds := [], alts := [], laidByText := true, laidKinds := [.data, .data, .data, .sentinel, .sentinel], laidTests := true, laidLooks := .later }
def RuleKnownUptoCardSaid : Prop := Claim7.holds Tryd.pinned (.plain (OpenSpec.upto ruleKnownSpec)) ruleKnownUptoCard

/-- THE SECOND FORM's CARD OF 'minecontrollaw19.RuleLaws'. -/
def ruleLawsUptoCard : Claim7 := { stood := { row := ruleLawsUptoRow, standIns := [], harness := (true, "f297e67601a46397f7917a82b0e1a2cd005d3d99f84db71ea0a94026eb2db0ce"), looks := true }, kinds := [], alts := [], laidByText := true, laidKinds := [.data, .data, .data, .sentinel, .sentinel], laidTests := true, laidLooks := .later }
def RuleLawsUptoCardSaid : Prop := Claim7.holds Tryd.pinned (.plain (OpenSpec.upto ruleLawsSpec)) ruleLawsUptoCard

/-- THE SECOND FORM's CARD OF 'minecontrollaw19.RuleDeep'. -/
def ruleDeepUptoCard : Claim7 := { stood := { row := ruleDeepUptoRow, standIns := [], harness := (true, "f297e67601a46397f7917a82b0e1a2cd005d3d99f84db71ea0a94026eb2db0ce"), looks := true }, kinds := [], alts := [], laidByText := true, laidKinds := [.data, .data, .data, .sentinel, .sentinel], laidTests := true, laidLooks := .later }
def RuleDeepUptoCardSaid : Prop := Claim7.holds Tryd.pinned (.plain (OpenSpec.upto ruleDeepSpec)) ruleDeepUptoCard
end Rows
end Go.Proofs.YthfejkflhpifnaaDoor
