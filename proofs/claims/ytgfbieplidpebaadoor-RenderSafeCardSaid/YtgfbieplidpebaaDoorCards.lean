/-
  DERIVED. GIVEN WITH THE SEED: THE CARDS: each row of YtgfbieplidpebaaDoorRows.lean that lists a variable, with what it lists TIED to the program's text (the seventh form; the later family's looks); each row that meets fmt, with fmt's text TOLD by the authors' own Lean function (tested against real Go, not proved from fmt's source: count such statements apart). THE CARD IS WHAT COUNTS. Prove the row's statement (the work); the ties are given (YtgfbieplidpebaaDoorTie.lean); close each card by the builder's one call (the guide's Derived/Test/ToyasCard.lean, 'card_holds'). Laid BY PROGRAM, IN A SANDBOX (cutbox-door.mjs). By AI agents, Wed Nov 11 2026. No macro, syntax, notation, axiom, sorry.
-/
import Derived.Test.YtgfbieplidpebaaDoorRows
import GoSem.ClaimSeven
namespace Go.Proofs.YtgfbieplidpebaaDoor
namespace Rows

/-- THE TIED CARD OF 'matriculalaw24.RenderSafe'. -/
def renderSafeCard : Claim7 := { stood := { row := renderSafeRow, standIns := [], harness := (true, "756fb03fd2d2fef766bf92a49e78fe8d09a70234bfaf32e887b2435813f25b05"), looks := false }, kinds := [], alts := [], laidByText := true, laidKinds := [.data, .widerDeep, .pinned], laidTests := true, laidLooks := .later }
def RenderSafeCardSaid : Prop := Claim7.holds Tryd.pinned (.plain (OpenSpec.ofChange renderSafeSpec)) renderSafeCard

/-- THE TIED CARD OF 'matriculalaw24.RenderBack'. -/
def renderBackCard : Claim7 := { stood := { row := renderBackRow, standIns := [], harness := (true, "756fb03fd2d2fef766bf92a49e78fe8d09a70234bfaf32e887b2435813f25b05"), looks := false }, kinds := [], alts := [], laidByText := true, laidKinds := [.data, .widerDeep, .pinned], laidTests := true, laidLooks := .later }
def RenderBackCardSaid : Prop := Claim7.holds Tryd.pinned (.plain (OpenSpec.ofChange renderBackSpec)) renderBackCard

/-- THE TIED CARD OF 'matriculalaw24.RenderForms'. -/
def renderFormsCard : Claim7 := { stood := { row := renderFormsRow, standIns := [], harness := (true, "756fb03fd2d2fef766bf92a49e78fe8d09a70234bfaf32e887b2435813f25b05"), looks := false }, kinds := [], alts := [], laidByText := true, laidKinds := [.data, .widerDeep, .pinned], laidTests := true, laidLooks := .later }
def RenderFormsCardSaid : Prop := Claim7.holds Tryd.pinned (.plain (OpenSpec.ofChange renderFormsSpec)) renderFormsCard

/-- THE SECOND FORM's CARD OF 'matriculalaw24.RenderSafe'. -/
def renderSafeUptoCard : Claim7 := { stood := { row := renderSafeUptoRow, standIns := [], harness := (true, "756fb03fd2d2fef766bf92a49e78fe8d09a70234bfaf32e887b2435813f25b05"), looks := false }, kinds := [], alts := [], laidByText := true, laidKinds := [.data, .widerDeep, .pinned], laidTests := true, laidLooks := .later }
def RenderSafeUptoCardSaid : Prop := Claim7.holds Tryd.pinned (.plain (OpenSpec.upto renderSafeSpec)) renderSafeUptoCard

/-- THE SECOND FORM's CARD OF 'matriculalaw24.RenderBack'. -/
def renderBackUptoCard : Claim7 := { stood := { row := renderBackUptoRow, standIns := [], harness := (true, "756fb03fd2d2fef766bf92a49e78fe8d09a70234bfaf32e887b2435813f25b05"), looks := false }, kinds := [], alts := [], laidByText := true, laidKinds := [.data, .widerDeep, .pinned], laidTests := true, laidLooks := .later }
def RenderBackUptoCardSaid : Prop := Claim7.holds Tryd.pinned (.plain (OpenSpec.upto renderBackSpec)) renderBackUptoCard

/-- THE SECOND FORM's CARD OF 'matriculalaw24.RenderForms'. -/
def renderFormsUptoCard : Claim7 := { stood := { row := renderFormsUptoRow, standIns := [], harness := (true, "756fb03fd2d2fef766bf92a49e78fe8d09a70234bfaf32e887b2435813f25b05"), looks := false }, kinds := [], alts := [], laidByText := true, laidKinds := [.data, .widerDeep, .pinned], laidTests := true, laidLooks := .later }
def RenderFormsUptoCardSaid : Prop := Claim7.holds Tryd.pinned (.plain (OpenSpec.upto renderFormsSpec)) renderFormsUptoCard
end Rows
end Go.Proofs.YtgfbieplidpebaaDoor
