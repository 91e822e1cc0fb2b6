/-
  DERIVED. GIVEN WITH THE SEED: THE CARDS: each row of YtnfkbbkojgbbeaaDoorRows.lean that lists a variable, with what it lists TIED to the program's text (the seventh form; the later family's looks); each row that meets fmt, with fmt's text TOLD by the authors' own Lean function (tested against real Go, not proved from fmt's source: count such statements apart). THE CARD IS WHAT COUNTS. Prove the row's statement (the work); the ties are given (YtnfkbbkojgbbeaaDoorTie.lean); close each card by the builder's one call (the guide's Derived/Test/ToyasCard.lean, 'card_holds'). Laid BY PROGRAM, IN A SANDBOX (cutbox-door.mjs). By AI agents, Wed Nov 11 2026. No macro, syntax, notation, axiom, sorry.
-/
import Derived.Test.YtnfkbbkojgbbeaaDoorRows
import GoSem.ClaimSeven
namespace Go.Proofs.YtnfkbbkojgbbeaaDoor
namespace Rows

/-- THE TIED CARD OF 'matriculalaw06.XmlTexts'. -/
def xmlTextsCard : Claim7 := { stood := { row := xmlTextsRow, standIns := [], harness := (true, "44040229d84c26d8488fb24dad4cf83eaef8cfefd74b9c1bcdda29bf64f9c14b"), looks := false }, kinds := [], alts := [], laidByText := true, laidKinds := [.data, .widerDeep, .pinned], laidTests := true, laidLooks := .later }
def XmlTextsCardSaid : Prop := Claim7.holds Tryd.pinned (.plain (OpenSpec.ofChange xmlTextsSpec)) xmlTextsCard

/-- THE TIED CARD OF 'matriculalaw06.XmlReads'. -/
def xmlReadsCard : Claim7 := { stood := { row := xmlReadsRow, standIns := [], harness := (true, "44040229d84c26d8488fb24dad4cf83eaef8cfefd74b9c1bcdda29bf64f9c14b"), looks := false }, kinds := [], alts := [], laidByText := true, laidKinds := [.data, .widerDeep, .pinned], laidTests := true, laidLooks := .later }
def XmlReadsCardSaid : Prop := Claim7.holds Tryd.pinned (.plain (OpenSpec.ofChange xmlReadsSpec)) xmlReadsCard

/-- THE TIED CARD OF 'matriculalaw06.XmlBack'. -/
def xmlBackCard : Claim7 := { stood := { row := xmlBackRow, standIns := [], harness := (true, "44040229d84c26d8488fb24dad4cf83eaef8cfefd74b9c1bcdda29bf64f9c14b"), looks := false }, kinds := [], alts := [], laidByText := true, laidKinds := [.data, .widerDeep, .pinned], laidTests := true, laidLooks := .later }
def XmlBackCardSaid : Prop := Claim7.holds Tryd.pinned (.plain (OpenSpec.ofChange xmlBackSpec)) xmlBackCard

/-- THE TIED CARD OF 'matriculalaw06.XmlHolds'. -/
def xmlHoldsCard : Claim7 := { stood := { row := xmlHoldsRow, standIns := [], harness := (true, "44040229d84c26d8488fb24dad4cf83eaef8cfefd74b9c1bcdda29bf64f9c14b"), looks := false }, kinds := [], alts := [], laidByText := true, laidKinds := [.data, .widerDeep, .pinned], laidTests := true, laidLooks := .later }
def XmlHoldsCardSaid : Prop := Claim7.holds Tryd.pinned (.plain (OpenSpec.ofChange xmlHoldsSpec)) xmlHoldsCard

/-- THE TIED CARD OF 'matriculalaw06.XmlDeep'. -/
def xmlDeepCard : Claim7 := { stood := { row := xmlDeepRow, standIns := [], harness := (true, "44040229d84c26d8488fb24dad4cf83eaef8cfefd74b9c1bcdda29bf64f9c14b"), looks := false }, kinds := [], alts := [], laidByText := true, laidKinds := [.data, .widerDeep, .pinned], laidTests := true, laidLooks := .later }
def XmlDeepCardSaid : Prop := Claim7.holds Tryd.pinned (.plain (OpenSpec.ofChange xmlDeepSpec)) xmlDeepCard

/-- THE SECOND FORM's CARD OF 'matriculalaw06.XmlTexts'. -/
def xmlTextsUptoCard : Claim7 := { stood := { row := xmlTextsUptoRow, standIns := [], harness := (true, "44040229d84c26d8488fb24dad4cf83eaef8cfefd74b9c1bcdda29bf64f9c14b"), looks := false }, kinds := [], alts := [], laidByText := true, laidKinds := [.data, .widerDeep, .pinned], laidTests := true, laidLooks := .later }
def XmlTextsUptoCardSaid : Prop := Claim7.holds Tryd.pinned (.plain (OpenSpec.upto xmlTextsSpec)) xmlTextsUptoCard

/-- THE SECOND FORM's CARD OF 'matriculalaw06.XmlReads'. -/
def xmlReadsUptoCard : Claim7 := { stood := { row := xmlReadsUptoRow, standIns := [], harness := (true, "44040229d84c26d8488fb24dad4cf83eaef8cfefd74b9c1bcdda29bf64f9c14b"), looks := false }, kinds := [], alts := [], laidByText := true, laidKinds := [.data, .widerDeep, .pinned], laidTests := true, laidLooks := .later }
def XmlReadsUptoCardSaid : Prop := Claim7.holds Tryd.pinned (.plain (OpenSpec.upto xmlReadsSpec)) xmlReadsUptoCard

/-- THE SECOND FORM's CARD OF 'matriculalaw06.XmlBack'. -/
def xmlBackUptoCard : Claim7 := { stood := { row := xmlBackUptoRow, standIns := [], harness := (true, "44040229d84c26d8488fb24dad4cf83eaef8cfefd74b9c1bcdda29bf64f9c14b"), looks := false }, kinds := [], alts := [], laidByText := true, laidKinds := [.data, .widerDeep, .pinned], laidTests := true, laidLooks := .later }
def XmlBackUptoCardSaid : Prop := Claim7.holds Tryd.pinned (.plain (OpenSpec.upto xmlBackSpec)) xmlBackUptoCard

/-- THE SECOND FORM's CARD OF 'matriculalaw06.XmlHolds'. -/
def xmlHoldsUptoCard : Claim7 := { stood := { row := xmlHoldsUptoRow, standIns := [], harness := (true, "44040229d84c26d8488fb24dad4cf83eaef8cfefd74b9c1bcdda29bf64f9c14b"), looks := false }, kinds := [], alts := [], laidByText := true, laidKinds := [.data, .widerDeep, .pinned], laidTests := true, laidLooks := .later }
def XmlHoldsUptoCardSaid : Prop := Claim7.holds Tryd.pinned (.plain (OpenSpec.upto xmlHoldsSpec)) xmlHoldsUptoCard

/-- THE SECOND FORM's CARD OF 'matriculalaw06.XmlDeep'. -/
def xmlDeepUptoCard : Claim7 := { stood := { row := xmlDeepUptoRow, standIns := [], harness := (true, "44040229d84c26d8488fb24dad4cf83eaef8cfefd74b9c1bcdda29bf64f9c14b"), looks := false }, kinds := [], alts := [], laidByText := true, laidKinds := [.data, .widerDeep, .pinned], laidTests := true, laidLooks := .later }
def XmlDeepUptoCardSaid : Prop := Claim7.holds Tryd.pinned (.plain (OpenSpec.upto xmlDeepSpec)) xmlDeepUptoCard
end Rows
end Go.Proofs.YtnfkbbkojgbbeaaDoor
