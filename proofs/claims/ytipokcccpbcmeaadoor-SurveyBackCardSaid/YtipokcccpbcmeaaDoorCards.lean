/-
  DERIVED. GIVEN WITH THE SEED: THE CARDS: each row of YtipokcccpbcmeaaDoorRows.lean that lists a variable, with what it lists TIED to the program's text (the seventh form; the later family's looks); each row that meets fmt, with fmt's text TOLD by the authors' own Lean function (tested against real Go, not proved from fmt's source: count such statements apart). THE CARD IS WHAT COUNTS. Prove the row's statement (the work); the ties are given (YtipokcccpbcmeaaDoorTie.lean); close each card by the builder's one call (the guide's Derived/Test/ToyasCard.lean, 'card_holds'). Laid BY PROGRAM, IN A SANDBOX (cutbox-door.mjs). By AI agents, Wed Nov 11 2026. No macro, syntax, notation, axiom, sorry.
-/
import Derived.Test.YtipokcccpbcmeaaDoorRows
import GoSem.ClaimSeven
namespace Go.Proofs.YtipokcccpbcmeaaDoor
namespace Rows

/-- THE TIED CARD OF 'minecontrollaw02.SurveySums'. -/
def surveySumsCard : Claim7 := { stood := { row := surveySumsRow, standIns := [], harness := (true, "d90f27493c7b366fc6d0aeec8123aed771fb686875a64551b2a04e5979361688"), looks := false }, kinds := [], alts := [], laidByText := true, laidKinds := [.data, .data, .data, .data, .pinned], laidTests := true, laidLooks := .later }
def SurveySumsCardSaid : Prop := Claim7.holds Tryd.pinned (.plain (OpenSpec.ofChange surveySumsSpec)) surveySumsCard

/-- THE TIED CARD OF 'minecontrollaw02.SurveyPrints'. -/
def surveyPrintsCard : Claim7 := { stood := { row := surveyPrintsRow, standIns := [], harness := (true, "d90f27493c7b366fc6d0aeec8123aed771fb686875a64551b2a04e5979361688"), looks := false }, kinds := [], alts := [], laidByText := true, laidKinds := [.data, .data, .data, .data, .pinned], laidTests := true, laidLooks := .later }
def SurveyPrintsCardSaid : Prop := Claim7.holds Tryd.pinned (.plain (OpenSpec.ofChange surveyPrintsSpec)) surveyPrintsCard

/-- THE TIED CARD OF 'minecontrollaw02.SurveyBack'. -/
def surveyBackCard : Claim7 := { stood := { row := surveyBackRow, standIns := [], harness := (true, "d90f27493c7b366fc6d0aeec8123aed771fb686875a64551b2a04e5979361688"), looks := false }, kinds := [], alts := [], laidByText := true, laidKinds := [.data, .data, .data, .data, .pinned], laidTests := true, laidLooks := .later }
def SurveyBackCardSaid : Prop := Claim7.holds Tryd.pinned (.plain (OpenSpec.ofChange surveyBackSpec)) surveyBackCard

/-- THE TIED CARD OF 'minecontrollaw02.SurveyReads'. -/
def surveyReadsCard : Claim7 := { stood := { row := surveyReadsRow, standIns := [], harness := (true, "d90f27493c7b366fc6d0aeec8123aed771fb686875a64551b2a04e5979361688"), looks := false }, kinds := [], alts := [], laidByText := true, laidKinds := [.data, .data, .data, .data, .pinned], laidTests := true, laidLooks := .later }
def SurveyReadsCardSaid : Prop := Claim7.holds Tryd.pinned (.plain (OpenSpec.ofChange surveyReadsSpec)) surveyReadsCard

/-- THE SECOND FORM's CARD OF 'minecontrollaw02.SurveySums'. -/
def surveySumsUptoCard : Claim7 := { stood := { row := surveySumsUptoRow, standIns := [], harness := (true, "d90f27493c7b366fc6d0aeec8123aed771fb686875a64551b2a04e5979361688"), looks := false }, kinds := [], alts := [], laidByText := true, laidKinds := [.data, .data, .data, .data, .pinned], laidTests := true, laidLooks := .later }
def SurveySumsUptoCardSaid : Prop := Claim7.holds Tryd.pinned (.plain (OpenSpec.upto surveySumsSpec)) surveySumsUptoCard

/-- THE SECOND FORM's CARD OF 'minecontrollaw02.SurveyPrints'. -/
def surveyPrintsUptoCard : Claim7 := { stood := { row := surveyPrintsUptoRow, standIns := [], harness := (true, "d90f27493c7b366fc6d0aeec8123aed771fb686875a64551b2a04e5979361688"), looks := false }, kinds := [], alts := [], laidByText := true, laidKinds := [.data, .data, .data, .data, .pinned], laidTests := true, laidLooks := .later }
def SurveyPrintsUptoCardSaid : Prop := Claim7.holds Tryd.pinned (.plain (OpenSpec.upto surveyPrintsSpec)) surveyPrintsUptoCard

/-- THE SECOND FORM's CARD OF 'minecontrollaw02.SurveyBack'. -/
def surveyBackUptoCard : Claim7 := { stood := { row := surveyBackUptoRow, standIns := [], harness := (true, "d90f27493c7b366fc6d0aeec8123aed771fb686875a64551b2a04e5979361688"), looks := false }, kinds := [], alts := [], laidByText := true, laidKinds := [.data, .data, .data, .data, .pinned], laidTests := true, laidLooks := .later }
def SurveyBackUptoCardSaid : Prop := Claim7.holds Tryd.pinned (.plain (OpenSpec.upto surveyBackSpec)) surveyBackUptoCard

/-- THE SECOND FORM's CARD OF 'minecontrollaw02.SurveyReads'. -/
def surveyReadsUptoCard : Claim7 := { stood := { row := surveyReadsUptoRow, standIns := [], harness := (true, "d90f27493c7b366fc6d0aeec8123aed771fb686875a64551b2a04e5979361688"), looks := false }, kinds := [], alts := [], laidByText := true, laidKinds := [.data, .data, .data, .data, .pinned], laidTests := true, laidLooks := .later }
def SurveyReadsUptoCardSaid : Prop := Claim7.holds Tryd.pinned (.plain (OpenSpec.upto surveyReadsSpec)) surveyReadsUptoCard
end Rows
end Go.Proofs.YtipokcccpbcmeaaDoor
