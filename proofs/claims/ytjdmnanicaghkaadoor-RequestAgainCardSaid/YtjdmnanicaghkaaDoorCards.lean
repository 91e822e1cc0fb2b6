/-
  DERIVED. GIVEN WITH THE SEED: THE CARDS: each row of YtjdmnanicaghkaaDoorRows.lean that lists a variable, with what it lists TIED to the program's text (the seventh form; the later family's looks); each row that meets fmt, with fmt's text TOLD by the authors' own Lean function (tested against real Go, not proved from fmt's source: count such statements apart). THE CARD IS WHAT COUNTS. Prove the row's statement (the work); the ties are given (YtjdmnanicaghkaaDoorTie.lean); close each card by the builder's one call (the guide's Derived/Test/ToyasCard.lean, 'card_holds'). Laid BY PROGRAM, IN A SANDBOX (cutbox-door.mjs). By AI agents, Wed Nov 11 2026. No macro, syntax, notation, axiom, sorry.
-/
import Derived.Test.YtjdmnanicaghkaaDoorRows
import GoSem.ClaimSeven
namespace Go.Proofs.YtjdmnanicaghkaaDoor
namespace Rows

/-- THE TIED CARD OF 'matriculalaw03.RequestReads'. -/
def requestReadsCard : Claim7 := { stood := { row := requestReadsRow, standIns := [], harness := (true, "ccaf6c0a0e535ee7f23086817f8d0dd50d5cb918d2ed0de9617782e9e0c846bd"), looks := false }, kinds := [], alts := [], laidByText := true, laidKinds := [.data, .data, .pinned], laidTests := true, laidLooks := .later }
def RequestReadsCardSaid : Prop := Claim7.holds Tryd.pinned (.plain (OpenSpec.ofChange requestReadsSpec)) requestReadsCard

/-- THE TIED CARD OF 'matriculalaw03.RequestCuts'. -/
def requestCutsCard : Claim7 := { stood := { row := requestCutsRow, standIns := [], harness := (true, "ccaf6c0a0e535ee7f23086817f8d0dd50d5cb918d2ed0de9617782e9e0c846bd"), looks := false }, kinds := [], alts := [], laidByText := true, laidKinds := [.data, .data, .pinned], laidTests := true, laidLooks := .later }
def RequestCutsCardSaid : Prop := Claim7.holds Tryd.pinned (.plain (OpenSpec.ofChange requestCutsSpec)) requestCutsCard

/-- THE TIED CARD OF 'matriculalaw03.RequestArgs'. -/
def requestArgsCard : Claim7 := { stood := { row := requestArgsRow, standIns := [], harness := (true, "ccaf6c0a0e535ee7f23086817f8d0dd50d5cb918d2ed0de9617782e9e0c846bd"), looks := false }, kinds := [], alts := [], laidByText := true, laidKinds := [.data, .data, .pinned], laidTests := true, laidLooks := .later }
def RequestArgsCardSaid : Prop := Claim7.holds Tryd.pinned (.plain (OpenSpec.ofChange requestArgsSpec)) requestArgsCard

/-- THE TIED CARD OF 'matriculalaw03.RequestTells'. -/
def requestTellsCard : Claim7 := { stood := { row := requestTellsRow, standIns := [], harness := (true, "ccaf6c0a0e535ee7f23086817f8d0dd50d5cb918d2ed0de9617782e9e0c846bd"), looks := false }, kinds := [], alts := [], laidByText := true, laidKinds := [.data, .data, .pinned], laidTests := true, laidLooks := .later }
def RequestTellsCardSaid : Prop := Claim7.holds Tryd.pinned (.plain (OpenSpec.ofChange requestTellsSpec)) requestTellsCard

/-- THE TIED CARD OF 'matriculalaw03.RequestBack'. -/
def requestBackCard : Claim7 := { stood := { row := requestBackRow, standIns := [], harness := (true, "ccaf6c0a0e535ee7f23086817f8d0dd50d5cb918d2ed0de9617782e9e0c846bd"), looks := false }, kinds := [], alts := [], laidByText := true, laidKinds := [.data, .data, .pinned], laidTests := true, laidLooks := .later }
def RequestBackCardSaid : Prop := Claim7.holds Tryd.pinned (.plain (OpenSpec.ofChange requestBackSpec)) requestBackCard

/-- THE TIED CARD OF 'matriculalaw03.RequestAgain'. -/
def requestAgainCard : Claim7 := { stood := { row := requestAgainRow, standIns := [], harness := (true, "ccaf6c0a0e535ee7f23086817f8d0dd50d5cb918d2ed0de9617782e9e0c846bd"), looks := false }, kinds := [], alts := [], laidByText := true, laidKinds := [.data, .data, .pinned], laidTests := true, laidLooks := .later }
def RequestAgainCardSaid : Prop := Claim7.holds Tryd.pinned (.plain (OpenSpec.ofChange requestAgainSpec)) requestAgainCard

/-- THE SECOND FORM's CARD OF 'matriculalaw03.RequestReads'. -/
def requestReadsUptoCard : Claim7 := { stood := { row := requestReadsUptoRow, standIns := [], harness := (true, "ccaf6c0a0e535ee7f23086817f8d0dd50d5cb918d2ed0de9617782e9e0c846bd"), looks := false }, kinds := [], alts := [], laidByText := true, laidKinds := [.data, .data, .pinned], laidTests := true, laidLooks := .later }
def RequestReadsUptoCardSaid : Prop := Claim7.holds Tryd.pinned (.plain (OpenSpec.upto requestReadsSpec)) requestReadsUptoCard

/-- THE SECOND FORM's CARD OF 'matriculalaw03.RequestCuts'. -/
def requestCutsUptoCard : Claim7 := { stood := { row := requestCutsUptoRow, standIns := [], harness := (true, "ccaf6c0a0e535ee7f23086817f8d0dd50d5cb918d2ed0de9617782e9e0c846bd"), looks := false }, kinds := [], alts := [], laidByText := true, laidKinds := [.data, .data, .pinned], laidTests := true, laidLooks := .later }
def RequestCutsUptoCardSaid : Prop := Claim7.holds Tryd.pinned (.plain (OpenSpec.upto requestCutsSpec)) requestCutsUptoCard

/-- THE SECOND FORM's CARD OF 'matriculalaw03.RequestArgs'. -/
def requestArgsUptoCard : Claim7 := { stood := { row := requestArgsUptoRow, standIns := [], harness := (true, "ccaf6c0a0e535ee7f23086817f8d0dd50d5cb918d2ed0de9617782e9e0c846bd"), looks := false }, kinds := [], alts := [], laidByText := true, laidKinds := [.data, .data, .pinned], laidTests := true, laidLooks := .later }
def RequestArgsUptoCardSaid : Prop := Claim7.holds Tryd.pinned (.plain (OpenSpec.upto requestArgsSpec)) requestArgsUptoCard

/-- THE SECOND FORM's CARD OF 'matriculalaw03.RequestTells'. -/
def requestTellsUptoCard : Claim7 := { stood := { row := requestTellsUptoRow, standIns := [], harness := (true, "ccaf6c0a0e535ee7f23086817f8d0dd50d5cb918d2ed0de9617782e9e0c846bd"), looks := false }, kinds := [], alts := [], laidByText := true, laidKinds := [.data, .data, .pinned], laidTests := true, laidLooks := .later }
def RequestTellsUptoCardSaid : Prop := Claim7.holds Tryd.pinned (.plain (OpenSpec.upto requestTellsSpec)) requestTellsUptoCard

/-- THE SECOND FORM's CARD OF 'matriculalaw03.RequestBack'. -/
def requestBackUptoCard : Claim7 := { stood := { row := requestBackUptoRow, standIns := [], harness := (true, "ccaf6c0a0e535ee7f23086817f8d0dd50d5cb918d2ed0de9617782e9e0c846bd"), looks := false }, kinds := [], alts := [], laidByText := true, laidKinds := [.data, .data, .pinned], laidTests := true, laidLooks := .later }
def RequestBackUptoCardSaid : Prop := Claim7.holds Tryd.pinned (.plain (OpenSpec.upto requestBackSpec)) requestBackUptoCard

/-- THE SECOND FORM's CARD OF 'matriculalaw03.RequestAgain'. -/
def requestAgainUptoCard : Claim7 := { stood := { row := requestAgainUptoRow, standIns := [], harness := (true, "ccaf6c0a0e535ee7f23086817f8d0dd50d5cb918d2ed0de9617782e9e0c846bd"), looks := false }, kinds := [], alts := [], laidByText := true, laidKinds := [.data, .data, .pinned], laidTests := true, laidLooks := .later }
def RequestAgainUptoCardSaid : Prop := Claim7.holds Tryd.pinned (.plain (OpenSpec.upto requestAgainSpec)) requestAgainUptoCard
end Rows
end Go.Proofs.YtjdmnanicaghkaaDoor
