/-
  DERIVED. GIVEN WITH THE SEED: THE CARDS: each row of YtmfelfhingmmbaaDoorRows.lean that lists a variable, with what it lists TIED to the program's text (the seventh form; the later family's looks); each row that meets fmt, with fmt's text TOLD by the authors' own Lean function (tested against real Go, not proved from fmt's source: count such statements apart). THE CARD IS WHAT COUNTS. Prove the row's statement (the work); the ties are given (YtmfelfhingmmbaaDoorTie.lean); close each card by the builder's one call (the guide's Derived/Test/ToyasCard.lean, 'card_holds'). Laid BY PROGRAM, IN A SANDBOX (cutbox-door.mjs). By AI agents, Wed Nov 11 2026. No macro, syntax, notation, axiom, sorry.
-/
import Derived.Test.YtmfelfhingmmbaaDoorRows
import GoSem.ClaimSeven
namespace Go.Proofs.YtmfelfhingmmbaaDoor
namespace Rows

/-- THE TIED CARD OF 'matriculalaw04.CookieJars'. -/
def cookieJarsCard : Claim7 := { stood := { row := cookieJarsRow, standIns := [], harness := (true, "137438deaffcd74af3ac0a46c9d06f10c06c1e464cbea1c4df0718da584ba8fb"), looks := true }, kinds := [], alts := [], laidByText := true, laidKinds := [.data, .data, .data, .data, .pinned], laidTests := true, laidLooks := .later }
def CookieJarsCardSaid : Prop := Claim7.holds Tryd.pinned (.plain (OpenSpec.ofChange cookieJarsSpec)) cookieJarsCard

/-- THE TIED CARD OF 'matriculalaw04.CookieOnce'. -/
def cookieOnceCard : Claim7 := { stood := { row := cookieOnceRow, standIns := [], harness := (true, "137438deaffcd74af3ac0a46c9d06f10c06c1e464cbea1c4df0718da584ba8fb"), looks := true }, kinds := [], alts := [], laidByText := true, laidKinds := [.data, .data, .data, .data, .pinned], laidTests := true, laidLooks := .later }
def CookieOnceCardSaid : Prop := Claim7.holds Tryd.pinned (.plain (OpenSpec.ofChange cookieOnceSpec)) cookieOnceCard

/-- THE TIED CARD OF 'matriculalaw04.CookieSent'. -/
def cookieSentCard : Claim7 := { stood := { row := cookieSentRow, standIns := [], harness := (true, "137438deaffcd74af3ac0a46c9d06f10c06c1e464cbea1c4df0718da584ba8fb"), looks := true }, kinds := [], alts := [], laidByText := true, laidKinds := [.data, .data, .data, .data, .pinned], laidTests := true, laidLooks := .later }
def CookieSentCardSaid : Prop := Claim7.holds Tryd.pinned (.plain (OpenSpec.ofChange cookieSentSpec)) cookieSentCard

/-- THE TIED CARD OF 'matriculalaw04.CookieLines'. -/
def cookieLinesCard : Claim7 := { stood := { row := cookieLinesRow, standIns := [], harness := (true, "137438deaffcd74af3ac0a46c9d06f10c06c1e464cbea1c4df0718da584ba8fb"), looks := true }, kinds := [], alts := [], laidByText := true, laidKinds := [.data, .data, .data, .data, .pinned], laidTests := true, laidLooks := .later }
def CookieLinesCardSaid : Prop := Claim7.holds Tryd.pinned (.plain (OpenSpec.ofChange cookieLinesSpec)) cookieLinesCard

/-- THE TIED CARD OF 'matriculalaw04.CookieBack'. -/
def cookieBackCard : Claim7 := { stood := { row := cookieBackRow, standIns := [], harness := (true, "137438deaffcd74af3ac0a46c9d06f10c06c1e464cbea1c4df0718da584ba8fb"), looks := true }, kinds := [], alts := [], laidByText := true, laidKinds := [.data, .data, .data, .data, .sentinel, .sentinel, .pinned], laidTests := true, laidLooks := .later }
def CookieBackCardSaid : Prop := Claim7.holds Tryd.pinned (.plain (OpenSpec.ofChange cookieBackSpec)) cookieBackCard

/-- THE SECOND FORM's CARD OF 'matriculalaw04.CookieJars'. -/
def cookieJarsUptoCard : Claim7 := { stood := { row := cookieJarsUptoRow, standIns := [], harness := (true, "137438deaffcd74af3ac0a46c9d06f10c06c1e464cbea1c4df0718da584ba8fb"), looks := true }, kinds := [], alts := [], laidByText := true, laidKinds := [.data, .data, .data, .data, .pinned], laidTests := true, laidLooks := .later }
def CookieJarsUptoCardSaid : Prop := Claim7.holds Tryd.pinned (.plain (OpenSpec.upto cookieJarsSpec)) cookieJarsUptoCard

/-- THE SECOND FORM's CARD OF 'matriculalaw04.CookieOnce'. -/
def cookieOnceUptoCard : Claim7 := { stood := { row := cookieOnceUptoRow, standIns := [], harness := (true, "137438deaffcd74af3ac0a46c9d06f10c06c1e464cbea1c4df0718da584ba8fb"), looks := true }, kinds := [], alts := [], laidByText := true, laidKinds := [.data, .data, .data, .data, .pinned], laidTests := true, laidLooks := .later }
def CookieOnceUptoCardSaid : Prop := Claim7.holds Tryd.pinned (.plain (OpenSpec.upto cookieOnceSpec)) cookieOnceUptoCard

/-- THE SECOND FORM's CARD OF 'matriculalaw04.CookieSent'. -/
def cookieSentUptoCard : Claim7 := { stood := { row := cookieSentUptoRow, standIns := [], harness := (true, "137438deaffcd74af3ac0a46c9d06f10c06c1e464cbea1c4df0718da584ba8fb"), looks := true }, kinds := [], alts := [], laidByText := true, laidKinds := [.data, .data, .data, .data, .pinned], laidTests := true, laidLooks := .later }
def CookieSentUptoCardSaid : Prop := Claim7.holds Tryd.pinned (.plain (OpenSpec.upto cookieSentSpec)) cookieSentUptoCard

/-- THE SECOND FORM's CARD OF 'matriculalaw04.CookieLines'. -/
def cookieLinesUptoCard : Claim7 := { stood := { row := cookieLinesUptoRow, standIns := [], harness := (true, "137438deaffcd74af3ac0a46c9d06f10c06c1e464cbea1c4df0718da584ba8fb"), looks := true }, kinds := [], alts := [], laidByText := true, laidKinds := [.data, .data, .data, .data, .pinned], laidTests := true, laidLooks := .later }
def CookieLinesUptoCardSaid : Prop := Claim7.holds Tryd.pinned (.plain (OpenSpec.upto cookieLinesSpec)) cookieLinesUptoCard

/-- THE SECOND FORM's CARD OF 'matriculalaw04.CookieBack'. -/
def cookieBackUptoCard : Claim7 := { stood := { row := cookieBackUptoRow, standIns := [], harness := (true, "137438deaffcd74af3ac0a46c9d06f10c06c1e464cbea1c4df0718da584ba8fb"), looks := true }, kinds := [], alts := [], laidByText := true, laidKinds := [.data, .data, .data, .data, .sentinel, .sentinel, .pinned], laidTests := true, laidLooks := .later }
def CookieBackUptoCardSaid : Prop := Claim7.holds Tryd.pinned (.plain (OpenSpec.upto cookieBackSpec)) cookieBackUptoCard
end Rows
end Go.Proofs.YtmfelfhingmmbaaDoor
