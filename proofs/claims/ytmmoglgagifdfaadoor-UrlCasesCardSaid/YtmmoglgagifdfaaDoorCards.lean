/-
  DERIVED. GIVEN WITH THE SEED: THE CARDS: each row of YtmmoglgagifdfaaDoorRows.lean that lists a variable, with what it lists TIED to the program's text (the seventh form; the later family's looks); each row that meets fmt, with fmt's text TOLD by the authors' own Lean function (tested against real Go, not proved from fmt's source: count such statements apart). THE CARD IS WHAT COUNTS. Prove the row's statement (the work); the ties are given (YtmmoglgagifdfaaDoorTie.lean); close each card by the builder's one call (the guide's Derived/Test/ToyasCard.lean, 'card_holds'). Laid BY PROGRAM, IN A SANDBOX (cutbox-door.mjs). By AI agents, Wed Nov 11 2026. No macro, syntax, notation, axiom, sorry.
-/
import Derived.Test.YtmmoglgagifdfaaDoorRows
import GoSem.ClaimSeven
namespace Go.Proofs.YtmmoglgagifdfaaDoor
namespace Rows

/-- THE TIED CARD OF 'matriculalaw02.UrlReads'. -/
def urlReadsCard : Claim7 := { stood := { row := urlReadsRow, standIns := [], harness := (true, "a1ff366cabed8019b4829700af8e1a1c13888b9db8c4994b37230c74cd4b517a"), looks := false }, kinds := [], alts := [], laidByText := true, laidKinds := [.data, .data, .data, .data, .data, .pinned], laidTests := true, laidLooks := .later }
def UrlReadsCardSaid : Prop := Claim7.holds Tryd.pinned (.plain (OpenSpec.ofChange urlReadsSpec)) urlReadsCard

/-- THE TIED CARD OF 'matriculalaw02.UrlNormal'. -/
def urlNormalCard : Claim7 := { stood := { row := urlNormalRow, standIns := [], harness := (true, "a1ff366cabed8019b4829700af8e1a1c13888b9db8c4994b37230c74cd4b517a"), looks := false }, kinds := [], alts := [], laidByText := true, laidKinds := [.data, .data, .data, .data, .data, .pinned], laidTests := true, laidLooks := .later }
def UrlNormalCardSaid : Prop := Claim7.holds Tryd.pinned (.plain (OpenSpec.ofChange urlNormalSpec)) urlNormalCard

/-- THE TIED CARD OF 'matriculalaw02.UrlPaths'. -/
def urlPathsCard : Claim7 := { stood := { row := urlPathsRow, standIns := [], harness := (true, "a1ff366cabed8019b4829700af8e1a1c13888b9db8c4994b37230c74cd4b517a"), looks := false }, kinds := [], alts := [], laidByText := true, laidKinds := [.data, .data, .data, .data, .data, .pinned], laidTests := true, laidLooks := .later }
def UrlPathsCardSaid : Prop := Claim7.holds Tryd.pinned (.plain (OpenSpec.ofChange urlPathsSpec)) urlPathsCard

/-- THE TIED CARD OF 'matriculalaw02.UrlCases'. -/
def urlCasesCard : Claim7 := { stood := { row := urlCasesRow, standIns := [], harness := (true, "a1ff366cabed8019b4829700af8e1a1c13888b9db8c4994b37230c74cd4b517a"), looks := false }, kinds := [], alts := [], laidByText := true, laidKinds := [.data, .data, .data, .data, .data, .pinned], laidTests := true, laidLooks := .later }
def UrlCasesCardSaid : Prop := Claim7.holds Tryd.pinned (.plain (OpenSpec.ofChange urlCasesSpec)) urlCasesCard

/-- THE TIED CARD OF 'matriculalaw02.UrlTells'. -/
def urlTellsCard : Claim7 := { stood := { row := urlTellsRow, standIns := [], harness := (true, "a1ff366cabed8019b4829700af8e1a1c13888b9db8c4994b37230c74cd4b517a"), looks := false }, kinds := [], alts := [], laidByText := true, laidKinds := [.data, .data, .data, .data, .data, .pinned], laidTests := true, laidLooks := .later }
def UrlTellsCardSaid : Prop := Claim7.holds Tryd.pinned (.plain (OpenSpec.ofChange urlTellsSpec)) urlTellsCard

/-- THE TIED CARD OF 'matriculalaw02.UrlAdds'. -/
def urlAddsCard : Claim7 := { stood := { row := urlAddsRow, standIns := [], harness := (true, "a1ff366cabed8019b4829700af8e1a1c13888b9db8c4994b37230c74cd4b517a"), looks := false }, kinds := [], alts := [], laidByText := true, laidKinds := [.data, .data, .data, .data, .data, .pinned], laidTests := true, laidLooks := .later }
def UrlAddsCardSaid : Prop := Claim7.holds Tryd.pinned (.plain (OpenSpec.ofChange urlAddsSpec)) urlAddsCard

/-- THE SECOND FORM's CARD OF 'matriculalaw02.UrlReads'. -/
def urlReadsUptoCard : Claim7 := { stood := { row := urlReadsUptoRow, standIns := [], harness := (true, "a1ff366cabed8019b4829700af8e1a1c13888b9db8c4994b37230c74cd4b517a"), looks := false }, kinds := [], alts := [], laidByText := true, laidKinds := [.data, .data, .data, .data, .data, .pinned], laidTests := true, laidLooks := .later }
def UrlReadsUptoCardSaid : Prop := Claim7.holds Tryd.pinned (.plain (OpenSpec.upto urlReadsSpec)) urlReadsUptoCard

/-- THE SECOND FORM's CARD OF 'matriculalaw02.UrlNormal'. -/
def urlNormalUptoCard : Claim7 := { stood := { row := urlNormalUptoRow, standIns := [], harness := (true, "a1ff366cabed8019b4829700af8e1a1c13888b9db8c4994b37230c74cd4b517a"), looks := false }, kinds := [], alts := [], laidByText := true, laidKinds := [.data, .data, .data, .data, .data, .pinned], laidTests := true, laidLooks := .later }
def UrlNormalUptoCardSaid : Prop := Claim7.holds Tryd.pinned (.plain (OpenSpec.upto urlNormalSpec)) urlNormalUptoCard

/-- THE SECOND FORM's CARD OF 'matriculalaw02.UrlPaths'. -/
def urlPathsUptoCard : Claim7 := { stood := { row := urlPathsUptoRow, standIns := [], harness := (true, "a1ff366cabed8019b4829700af8e1a1c13888b9db8c4994b37230c74cd4b517a"), looks := false }, kinds := [], alts := [], laidByText := true, laidKinds := [.data, .data, .data, .data, .data, .pinned], laidTests := true, laidLooks := .later }
def UrlPathsUptoCardSaid : Prop := Claim7.holds Tryd.pinned (.plain (OpenSpec.upto urlPathsSpec)) urlPathsUptoCard

/-- THE SECOND FORM's CARD OF 'matriculalaw02.UrlCases'. -/
def urlCasesUptoCard : Claim7 := { stood := { row := urlCasesUptoRow, standIns := [], harness := (true, "a1ff366cabed8019b4829700af8e1a1c13888b9db8c4994b37230c74cd4b517a"), looks := false }, kinds := [], alts := [], laidByText := true, laidKinds := [.data, .data, .data, .data, .data, .pinned], laidTests := true, laidLooks := .later }
def UrlCasesUptoCardSaid : Prop := Claim7.holds Tryd.pinned (.plain (OpenSpec.upto urlCasesSpec)) urlCasesUptoCard

/-- THE SECOND FORM's CARD OF 'matriculalaw02.UrlTells'. -/
def urlTellsUptoCard : Claim7 := { stood := { row := urlTellsUptoRow, standIns := [], harness := (true, "a1ff366cabed8019b4829700af8e1a1c13888b9db8c4994b37230c74cd4b517a"), looks := false }, kinds := [], alts := [], laidByText := true, laidKinds := [.data, .data, .data, .data, .data, .pinned], laidTests := true, laidLooks := .later }
def UrlTellsUptoCardSaid : Prop := Claim7.holds Tryd.pinned (.plain (OpenSpec.upto urlTellsSpec)) urlTellsUptoCard

/-- THE SECOND FORM's CARD OF 'matriculalaw02.UrlAdds'. -/
def urlAddsUptoCard : Claim7 := { stood := { row := urlAddsUptoRow, standIns := [], harness := (true, "a1ff366cabed8019b4829700af8e1a1c13888b9db8c4994b37230c74cd4b517a"), looks := false }, kinds := [], alts := [], laidByText := true, laidKinds := [.data, .data, .data, .data, .data, .pinned], laidTests := true, laidLooks := .later }
def UrlAddsUptoCardSaid : Prop := Claim7.holds Tryd.pinned (.plain (OpenSpec.upto urlAddsSpec)) urlAddsUptoCard
end Rows
end Go.Proofs.YtmmoglgagifdfaaDoor
