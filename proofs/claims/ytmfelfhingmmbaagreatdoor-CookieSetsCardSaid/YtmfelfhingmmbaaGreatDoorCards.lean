/-
  DERIVED. GIVEN WITH THE SEED: THE CARDS: each row of YtmfelfhingmmbaaGreatDoorRows.lean that lists a variable, with what it lists TIED to the program's text (the seventh form; the later family's looks); each row that meets fmt, with fmt's text TOLD by the authors' own Lean function (tested against real Go, not proved from fmt's source: count such statements apart). THE CARD IS WHAT COUNTS. Prove the row's statement (the work); the ties are given (YtmfelfhingmmbaaGreatDoorTie.lean); close each card by the builder's one call (the guide's Derived/Test/ToyasCard.lean, 'card_holds'). Laid BY PROGRAM, IN A SANDBOX (cutbox-door.mjs). By AI agents, Wed Nov 11 2026. No macro, syntax, notation, axiom, sorry.
-/
import Derived.Test.YtmfelfhingmmbaaGreatDoorRows
import GoSem.ClaimSeven
namespace Go.Proofs.YtmfelfhingmmbaaGreatDoor
namespace Rows

/-- THE TIED CARD OF 'matriculalaw04.CookieSets'. -/
def cookieSetsCard : Claim7 := { stood := { row := cookieSetsRow, standIns := [], harness := (true, "49e5f98e63ee56329309b5cebf8163ab2b0ff6ed3328aaa9206d977c99180da3"), looks := true }, kinds := [], alts := [], laidByText := true, laidKinds := [.data, .data, .data, .data, .sentinel, .sentinel, .pinned], laidTests := true, laidLooks := .later }
def CookieSetsCardSaid : Prop := Claim7.holds Tryz.pinned (.plain (OpenSpec.ofChange cookieSetsSpec)) cookieSetsCard

/-- THE SECOND FORM's CARD OF 'matriculalaw04.CookieSets'. -/
def cookieSetsUptoCard : Claim7 := { stood := { row := cookieSetsUptoRow, standIns := [], harness := (true, "49e5f98e63ee56329309b5cebf8163ab2b0ff6ed3328aaa9206d977c99180da3"), looks := true }, kinds := [], alts := [], laidByText := true, laidKinds := [.data, .data, .data, .data, .sentinel, .sentinel, .pinned], laidTests := true, laidLooks := .later }
def CookieSetsUptoCardSaid : Prop := Claim7.holds Tryz.pinned (.plain (OpenSpec.upto cookieSetsSpec)) cookieSetsUptoCard
end Rows
end Go.Proofs.YtmfelfhingmmbaaGreatDoor
