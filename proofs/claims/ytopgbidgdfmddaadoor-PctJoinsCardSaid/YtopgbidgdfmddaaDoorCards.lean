/-
  DERIVED. GIVEN WITH THE SEED: THE CARDS: each row of YtopgbidgdfmddaaDoorRows.lean that lists a variable, with what it lists TIED to the program's text (the seventh form; the later family's looks); each row that meets fmt, with fmt's text TOLD by the authors' own Lean function (tested against real Go, not proved from fmt's source: count such statements apart). THE CARD IS WHAT COUNTS. Prove the row's statement (the work); the ties are given (YtopgbidgdfmddaaDoorTie.lean); close each card by the builder's one call (the guide's Derived/Test/ToyasCard.lean, 'card_holds'). Laid BY PROGRAM, IN A SANDBOX (cutbox-door.mjs). By AI agents, Wed Nov 11 2026. No macro, syntax, notation, axiom, sorry.
-/
import Derived.Test.YtopgbidgdfmddaaDoorRows
import GoSem.ClaimSeven
namespace Go.Proofs.YtopgbidgdfmddaaDoor
namespace Rows

/-- THE TIED CARD OF 'matriculalaw01.PctTells'. -/
def pctTellsCard : Claim7 := { stood := { row := pctTellsRow, standIns := [], harness := (true, "1153e0c6914cc4ad3ecbac84873cc5fdd7103b64422b2707da07a5aa793043da"), looks := false }, kinds := [], alts := [], laidByText := true, laidKinds := [.data, .data, .pinned], laidTests := true, laidLooks := .later }
def PctTellsCardSaid : Prop := Claim7.holds Tryd.pinned (.plain (OpenSpec.ofChange pctTellsSpec)) pctTellsCard

/-- THE TIED CARD OF 'matriculalaw01.PctBack'. -/
def pctBackCard : Claim7 := { stood := { row := pctBackRow, standIns := [], harness := (true, "1153e0c6914cc4ad3ecbac84873cc5fdd7103b64422b2707da07a5aa793043da"), looks := false }, kinds := [], alts := [], laidByText := true, laidKinds := [.data, .data, .pinned], laidTests := true, laidLooks := .later }
def PctBackCardSaid : Prop := Claim7.holds Tryd.pinned (.plain (OpenSpec.ofChange pctBackSpec)) pctBackCard

/-- THE TIED CARD OF 'matriculalaw01.PctNormal'. -/
def pctNormalCard : Claim7 := { stood := { row := pctNormalRow, standIns := [], harness := (true, "1153e0c6914cc4ad3ecbac84873cc5fdd7103b64422b2707da07a5aa793043da"), looks := false }, kinds := [], alts := [], laidByText := true, laidKinds := [.data, .data, .pinned], laidTests := true, laidLooks := .later }
def PctNormalCardSaid : Prop := Claim7.holds Tryd.pinned (.plain (OpenSpec.ofChange pctNormalSpec)) pctNormalCard

/-- THE TIED CARD OF 'matriculalaw01.PctJoins'. -/
def pctJoinsCard : Claim7 := { stood := { row := pctJoinsRow, standIns := [], harness := (true, "1153e0c6914cc4ad3ecbac84873cc5fdd7103b64422b2707da07a5aa793043da"), looks := false }, kinds := [], alts := [], laidByText := true, laidKinds := [.data, .data, .pinned], laidTests := true, laidLooks := .later }
def PctJoinsCardSaid : Prop := Claim7.holds Tryd.pinned (.plain (OpenSpec.ofChange pctJoinsSpec)) pctJoinsCard

/-- THE TIED CARD OF 'matriculalaw01.PctReads'. -/
def pctReadsCard : Claim7 := { stood := { row := pctReadsRow, standIns := [], harness := (true, "1153e0c6914cc4ad3ecbac84873cc5fdd7103b64422b2707da07a5aa793043da"), looks := false }, kinds := [], alts := [], laidByText := true, laidKinds := [.data, .data, .pinned], laidTests := true, laidLooks := .later }
def PctReadsCardSaid : Prop := Claim7.holds Tryd.pinned (.plain (OpenSpec.ofChange pctReadsSpec)) pctReadsCard

/-- THE TIED CARD OF 'matriculalaw01.PctForms'. -/
def pctFormsCard : Claim7 := { stood := { row := pctFormsRow, standIns := [], harness := (true, "1153e0c6914cc4ad3ecbac84873cc5fdd7103b64422b2707da07a5aa793043da"), looks := false }, kinds := [], alts := [], laidByText := true, laidKinds := [.data, .data, .pinned], laidTests := true, laidLooks := .later }
def PctFormsCardSaid : Prop := Claim7.holds Tryd.pinned (.plain (OpenSpec.ofChange pctFormsSpec)) pctFormsCard

/-- THE SECOND FORM's CARD OF 'matriculalaw01.PctTells'. -/
def pctTellsUptoCard : Claim7 := { stood := { row := pctTellsUptoRow, standIns := [], harness := (true, "1153e0c6914cc4ad3ecbac84873cc5fdd7103b64422b2707da07a5aa793043da"), looks := false }, kinds := [], alts := [], laidByText := true, laidKinds := [.data, .data, .pinned], laidTests := true, laidLooks := .later }
def PctTellsUptoCardSaid : Prop := Claim7.holds Tryd.pinned (.plain (OpenSpec.upto pctTellsSpec)) pctTellsUptoCard

/-- THE SECOND FORM's CARD OF 'matriculalaw01.PctBack'. -/
def pctBackUptoCard : Claim7 := { stood := { row := pctBackUptoRow, standIns := [], harness := (true, "1153e0c6914cc4ad3ecbac84873cc5fdd7103b64422b2707da07a5aa793043da"), looks := false }, kinds := [], alts := [], laidByText := true, laidKinds := [.data, .data, .pinned], laidTests := true, laidLooks := .later }
def PctBackUptoCardSaid : Prop := Claim7.holds Tryd.pinned (.plain (OpenSpec.upto pctBackSpec)) pctBackUptoCard

/-- THE SECOND FORM's CARD OF 'matriculalaw01.PctNormal'. -/
def pctNormalUptoCard : Claim7 := { stood := { row := pctNormalUptoRow, standIns := [], harness := (true, "1153e0c6914cc4ad3ecbac84873cc5fdd7103b64422b2707da07a5aa793043da"), looks := false }, kinds := [], alts := [], laidByText := true, laidKinds := [.data, .data, .pinned], laidTests := true, laidLooks := .later }
def PctNormalUptoCardSaid : Prop := Claim7.holds Tryd.pinned (.plain (OpenSpec.upto pctNormalSpec)) pctNormalUptoCard

/-- THE SECOND FORM's CARD OF 'matriculalaw01.PctJoins'. -/
def pctJoinsUptoCard : Claim7 := { stood := { row := pctJoinsUptoRow, standIns := [], harness := (true, "1153e0c6914cc4ad3ecbac84873cc5fdd7103b64422b2707da07a5aa793043da"), looks := false }, kinds := [], alts := [], laidByText := true, laidKinds := [.data, .data, .pinned], laidTests := true, laidLooks := .later }
def PctJoinsUptoCardSaid : Prop := Claim7.holds Tryd.pinned (.plain (OpenSpec.upto pctJoinsSpec)) pctJoinsUptoCard

/-- THE SECOND FORM's CARD OF 'matriculalaw01.PctReads'. -/
def pctReadsUptoCard : Claim7 := { stood := { row := pctReadsUptoRow, standIns := [], harness := (true, "1153e0c6914cc4ad3ecbac84873cc5fdd7103b64422b2707da07a5aa793043da"), looks := false }, kinds := [], alts := [], laidByText := true, laidKinds := [.data, .data, .pinned], laidTests := true, laidLooks := .later }
def PctReadsUptoCardSaid : Prop := Claim7.holds Tryd.pinned (.plain (OpenSpec.upto pctReadsSpec)) pctReadsUptoCard

/-- THE SECOND FORM's CARD OF 'matriculalaw01.PctForms'. -/
def pctFormsUptoCard : Claim7 := { stood := { row := pctFormsUptoRow, standIns := [], harness := (true, "1153e0c6914cc4ad3ecbac84873cc5fdd7103b64422b2707da07a5aa793043da"), looks := false }, kinds := [], alts := [], laidByText := true, laidKinds := [.data, .data, .pinned], laidTests := true, laidLooks := .later }
def PctFormsUptoCardSaid : Prop := Claim7.holds Tryd.pinned (.plain (OpenSpec.upto pctFormsSpec)) pctFormsUptoCard
end Rows
end Go.Proofs.YtopgbidgdfmddaaDoor
