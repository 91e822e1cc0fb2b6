/-
  DERIVED. GIVEN WITH THE SEED: THE CARDS: each row of YtgfbieplidpebaaGreatDoorRows.lean that lists a variable, with what it lists TIED to the program's text (the seventh form; the later family's looks); each row that meets fmt, with fmt's text TOLD by the authors' own Lean function (tested against real Go, not proved from fmt's source: count such statements apart). THE CARD IS WHAT COUNTS. Prove the row's statement (the work); the ties are given (YtgfbieplidpebaaGreatDoorTie.lean); close each card by the builder's one call (the guide's Derived/Test/ToyasCard.lean, 'card_holds'). Laid BY PROGRAM, IN A SANDBOX (cutbox-door.mjs). By AI agents, Wed Nov 11 2026. No macro, syntax, notation, axiom, sorry.
-/
import Derived.Test.YtgfbieplidpebaaGreatDoorRows
import GoSem.ClaimSeven
namespace Go.Proofs.YtgfbieplidpebaaGreatDoor
namespace Rows

/-- THE TIED CARD OF 'matriculalaw24.RenderTells'. -/
def renderTellsCard : Claim7 := { stood := { row := renderTellsRow, standIns := [], harness := (true, "8cfee630b9d5fbd07bc052ac3bba7af8cc82c856c563975ae43193015fd062d8"), looks := false }, kinds := [], alts := [], laidByText := true, laidKinds := [.data, .widerDeep, .pinned], laidTests := true, laidLooks := .later }
def RenderTellsCardSaid : Prop := Claim7.holds Tryz.pinned (.plain (OpenSpec.ofChange renderTellsSpec)) renderTellsCard

/-- THE TIED CARD OF 'matriculalaw24.RenderShows'. -/
def renderShowsCard : Claim7 := { stood := { row := renderShowsRow, standIns := [], harness := (true, "8cfee630b9d5fbd07bc052ac3bba7af8cc82c856c563975ae43193015fd062d8"), looks := false }, kinds := [], alts := [], laidByText := true, laidKinds := [.data, .widerDeep, .pinned], laidTests := true, laidLooks := .later }
def RenderShowsCardSaid : Prop := Claim7.holds Tryz.pinned (.plain (OpenSpec.ofChange renderShowsSpec)) renderShowsCard

/-- THE TIED CARD OF 'matriculalaw24.RenderReads'. -/
def renderReadsCard : Claim7 := { stood := { row := renderReadsRow, standIns := [], harness := (true, "8cfee630b9d5fbd07bc052ac3bba7af8cc82c856c563975ae43193015fd062d8"), looks := false }, kinds := [], alts := [], laidByText := true, laidKinds := [.data, .widerDeep, .pinned], laidTests := true, laidLooks := .later }
def RenderReadsCardSaid : Prop := Claim7.holds Tryz.pinned (.plain (OpenSpec.ofChange renderReadsSpec)) renderReadsCard

/-- THE SECOND FORM's CARD OF 'matriculalaw24.RenderTells'. -/
def renderTellsUptoCard : Claim7 := { stood := { row := renderTellsUptoRow, standIns := [], harness := (true, "8cfee630b9d5fbd07bc052ac3bba7af8cc82c856c563975ae43193015fd062d8"), looks := false }, kinds := [], alts := [], laidByText := true, laidKinds := [.data, .widerDeep, .pinned], laidTests := true, laidLooks := .later }
def RenderTellsUptoCardSaid : Prop := Claim7.holds Tryz.pinned (.plain (OpenSpec.upto renderTellsSpec)) renderTellsUptoCard

/-- THE SECOND FORM's CARD OF 'matriculalaw24.RenderShows'. -/
def renderShowsUptoCard : Claim7 := { stood := { row := renderShowsUptoRow, standIns := [], harness := (true, "8cfee630b9d5fbd07bc052ac3bba7af8cc82c856c563975ae43193015fd062d8"), looks := false }, kinds := [], alts := [], laidByText := true, laidKinds := [.data, .widerDeep, .pinned], laidTests := true, laidLooks := .later }
def RenderShowsUptoCardSaid : Prop := Claim7.holds Tryz.pinned (.plain (OpenSpec.upto renderShowsSpec)) renderShowsUptoCard

/-- THE SECOND FORM's CARD OF 'matriculalaw24.RenderReads'. -/
def renderReadsUptoCard : Claim7 := { stood := { row := renderReadsUptoRow, standIns := [], harness := (true, "8cfee630b9d5fbd07bc052ac3bba7af8cc82c856c563975ae43193015fd062d8"), looks := false }, kinds := [], alts := [], laidByText := true, laidKinds := [.data, .widerDeep, .pinned], laidTests := true, laidLooks := .later }
def RenderReadsUptoCardSaid : Prop := Claim7.holds Tryz.pinned (.plain (OpenSpec.upto renderReadsSpec)) renderReadsUptoCard
end Rows
end Go.Proofs.YtgfbieplidpebaaGreatDoor
