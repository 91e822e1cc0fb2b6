/-
  DERIVED. GIVEN WITH THE SEED: THE CARDS: each row of YthkpekmecgbokaaDoorRows.lean that lists a variable, with what it lists TIED to the program's text (the seventh form; the later family's looks); each row that meets fmt, with fmt's text TOLD by the authors' own Lean function (tested against real Go, not proved from fmt's source: count such statements apart). THE CARD IS WHAT COUNTS. Prove the row's statement (the work); the ties are given (YthkpekmecgbokaaDoorTie.lean); close each card by the builder's one call (the guide's Derived/Test/ToyasCard.lean, 'card_holds'). Laid BY PROGRAM, IN A SANDBOX (cutbox-door.mjs). By AI agents, Wed Nov 11 2026. No macro, syntax, notation, axiom, sorry.
-/
import Derived.Test.YthkpekmecgbokaaDoorRows
import GoSem.ClaimSeven
namespace Go.Proofs.YthkpekmecgbokaaDoor
namespace Rows

/-- THE TIED CARD OF 'matriculalaw05.ResponseUnlike'. -/
def responseUnlikeCard : Claim7 := { stood := { row := responseUnlikeRow, standIns := [], harness := (true, "d750a824449170e5d379577a44a1bea53650f36600bfebc43131183dc1bc5dff"), looks := true }, kinds := [], alts := [], laidByText := true, laidKinds := [.data, .data, .data, .data, .pinned], laidTests := true, laidLooks := .later }
def ResponseUnlikeCardSaid : Prop := Claim7.holds Tryd.pinned (.plain (OpenSpec.ofChange responseUnlikeSpec)) responseUnlikeCard

/-- THE TIED CARD OF 'matriculalaw05.ResponseWrites'. -/
def responseWritesCard : Claim7 := { stood := { row := responseWritesRow, standIns := [], harness := (true, "d750a824449170e5d379577a44a1bea53650f36600bfebc43131183dc1bc5dff"), looks := true }, kinds := [], alts := [], laidByText := true, laidKinds := [.data, .data, .data, .data, .pinned], laidTests := true, laidLooks := .later }
def ResponseWritesCardSaid : Prop := Claim7.holds Tryd.pinned (.plain (OpenSpec.ofChange responseWritesSpec)) responseWritesCard

/-- THE TIED CARD OF 'matriculalaw05.ResponseMakes'. -/
def responseMakesCard : Claim7 := { stood := { row := responseMakesRow, standIns := [], harness := (true, "d750a824449170e5d379577a44a1bea53650f36600bfebc43131183dc1bc5dff"), looks := true }, kinds := [], alts := [], laidByText := true, laidKinds := [.data, .data, .data, .data, .pinned], laidTests := true, laidLooks := .later }
def ResponseMakesCardSaid : Prop := Claim7.holds Tryd.pinned (.plain (OpenSpec.ofChange responseMakesSpec)) responseMakesCard

/-- THE TIED CARD OF 'matriculalaw05.ResponseAsked'. -/
def responseAskedCard : Claim7 := { stood := { row := responseAskedRow, standIns := [], harness := (true, "d750a824449170e5d379577a44a1bea53650f36600bfebc43131183dc1bc5dff"), looks := true }, kinds := [], alts := [], laidByText := true, laidKinds := [.data, .data, .data, .data, .pinned], laidTests := true, laidLooks := .later }
def ResponseAskedCardSaid : Prop := Claim7.holds Tryd.pinned (.plain (OpenSpec.ofChange responseAskedSpec)) responseAskedCard

/-- THE TIED CARD OF 'matriculalaw05.ResponseReads'. -/
def responseReadsCard : Claim7 := { stood := { row := responseReadsRow, standIns := [], harness := (true, "d750a824449170e5d379577a44a1bea53650f36600bfebc43131183dc1bc5dff"), looks := true }, kinds := [], alts := [], laidByText := true, laidKinds := [.data, .data, .data, .data, .sentinel, .sentinel, .pinned], laidTests := true, laidLooks := .later }
def ResponseReadsCardSaid : Prop := Claim7.holds Tryd.pinned (.plain (OpenSpec.ofChange responseReadsSpec)) responseReadsCard

/-- THE TIED CARD OF 'matriculalaw05.ResponseBack'. -/
def responseBackCard : Claim7 := { stood := { row := responseBackRow, standIns := [], harness := (true, "d750a824449170e5d379577a44a1bea53650f36600bfebc43131183dc1bc5dff"), looks := true }, kinds := [], alts := [], laidByText := true, laidKinds := [.data, .data, .data, .data, .sentinel, .sentinel, .pinned], laidTests := true, laidLooks := .later }
def ResponseBackCardSaid : Prop := Claim7.holds Tryd.pinned (.plain (OpenSpec.ofChange responseBackSpec)) responseBackCard

/-- THE SECOND FORM's CARD OF 'matriculalaw05.ResponseUnlike'. -/
def responseUnlikeUptoCard : Claim7 := { stood := { row := responseUnlikeUptoRow, standIns := [], harness := (true, "d750a824449170e5d379577a44a1bea53650f36600bfebc43131183dc1bc5dff"), looks := true }, kinds := [], alts := [], laidByText := true, laidKinds := [.data, .data, .data, .data, .pinned], laidTests := true, laidLooks := .later }
def ResponseUnlikeUptoCardSaid : Prop := Claim7.holds Tryd.pinned (.plain (OpenSpec.upto responseUnlikeSpec)) responseUnlikeUptoCard

/-- THE SECOND FORM's CARD OF 'matriculalaw05.ResponseWrites'. -/
def responseWritesUptoCard : Claim7 := { stood := { row := responseWritesUptoRow, standIns := [], harness := (true, "d750a824449170e5d379577a44a1bea53650f36600bfebc43131183dc1bc5dff"), looks := true }, kinds := [], alts := [], laidByText := true, laidKinds := [.data, .data, .data, .data, .pinned], laidTests := true, laidLooks := .later }
def ResponseWritesUptoCardSaid : Prop := Claim7.holds Tryd.pinned (.plain (OpenSpec.upto responseWritesSpec)) responseWritesUptoCard

/-- THE SECOND FORM's CARD OF 'matriculalaw05.ResponseMakes'. -/
def responseMakesUptoCard : Claim7 := { stood := { row := responseMakesUptoRow, standIns := [], harness := (true, "d750a824449170e5d379577a44a1bea53650f36600bfebc43131183dc1bc5dff"), looks := true }, kinds := [], alts := [], laidByText := true, laidKinds := [.data, .data, .data, .data, .pinned], laidTests := true, laidLooks := .later }
def ResponseMakesUptoCardSaid : Prop := Claim7.holds Tryd.pinned (.plain (OpenSpec.upto responseMakesSpec)) responseMakesUptoCard

/-- THE SECOND FORM's CARD OF 'matriculalaw05.ResponseAsked'. -/
def responseAskedUptoCard : Claim7 := { stood := { row := responseAskedUptoRow, standIns := [], harness := (true, "d750a824449170e5d379577a44a1bea53650f36600bfebc43131183dc1bc5dff"), looks := true }, kinds := [], alts := [], laidByText := true, laidKinds := [.data, .data, .data, .data, .pinned], laidTests := true, laidLooks := .later }
def ResponseAskedUptoCardSaid : Prop := Claim7.holds Tryd.pinned (.plain (OpenSpec.upto responseAskedSpec)) responseAskedUptoCard

/-- THE SECOND FORM's CARD OF 'matriculalaw05.ResponseReads'. -/
def responseReadsUptoCard : Claim7 := { stood := { row := responseReadsUptoRow, standIns := [], harness := (true, "d750a824449170e5d379577a44a1bea53650f36600bfebc43131183dc1bc5dff"), looks := true }, kinds := [], alts := [], laidByText := true, laidKinds := [.data, .data, .data, .data, .sentinel, .sentinel, .pinned], laidTests := true, laidLooks := .later }
def ResponseReadsUptoCardSaid : Prop := Claim7.holds Tryd.pinned (.plain (OpenSpec.upto responseReadsSpec)) responseReadsUptoCard

/-- THE SECOND FORM's CARD OF 'matriculalaw05.ResponseBack'. -/
def responseBackUptoCard : Claim7 := { stood := { row := responseBackUptoRow, standIns := [], harness := (true, "d750a824449170e5d379577a44a1bea53650f36600bfebc43131183dc1bc5dff"), looks := true }, kinds := [], alts := [], laidByText := true, laidKinds := [.data, .data, .data, .data, .sentinel, .sentinel, .pinned], laidTests := true, laidLooks := .later }
def ResponseBackUptoCardSaid : Prop := Claim7.holds Tryd.pinned (.plain (OpenSpec.upto responseBackSpec)) responseBackUptoCard
end Rows
end Go.Proofs.YthkpekmecgbokaaDoor
