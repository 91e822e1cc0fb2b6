/-
  NARROWER THAN 'FOR EVERY INPUT', by the rows' own cells (each row's printed sentence says how): RequestReads: laid · RequestCuts: laid · RequestArgs: laid · RequestTells: laid · RequestBack: laid · RequestAgain: laid.
  DERIVED. THE GIVEN ROWS OF THIS SEAT. 6 by the template 'for every input the law returns true; each argument reads behind the call as it read before'; 0 by the template 'total and deterministic' (their statements: YtjdmnanicaghkaaDoorTotals.lean).
  GIVEN WITH THE SEED: the statements are not yours to turn. If you find one false, say at which input.
  Laid BY PROGRAM, IN A SANDBOX (cutbox-rows.mjs): the forced cells as the released guide's own fill.sh prints them over the translation 74e1d7cb04022a8e… (all of the seat's roots in one cut). By AI agents, Wed Nov 11 2026. No macro, syntax, notation, axiom, sorry.
-/
import Derived.Test.YtjdmnanicaghkaaDoorChecked
import GoSem.PinnedTables
import GoSem.Claim
import GoSem.ClaimJoined
import GoSem.ClaimMapViews
import Derived.JoinedTies
import Derived.KernelRfl
namespace Go.Proofs.YtjdmnanicaghkaaDoor
/- THE CELL 'sum', in the pinned program and in every row, IS THE sha256 OF THE DUMP (.gsa) THAT YtjdmnanicaghkaaDoorProg.lean LOADS. Nothing in Lean hashes anything: it is a label: what it is worth is what the hold of that sum in a sandbox is worth. -/
noncomputable def Tryd.pinned : Pinned := { name := "ytjdmnanicaghkaadoor", sum := "74e1d7cb04022a8ea452465008914b119d3461bca72794e4cecc80744cbc80c7", checked := Tryd.checked }
namespace Rows
def none {H : Type} : Left H := { results := [], args := [] }

/- WHAT THE LISTED PACKAGE-LEVEL VARIABLES READ AS WHEN THE CALL BEGINS. Each datum BY PROGRAM (the guide's laid-datum.mjs) off the statement by which the dump's own 'gosem.cut.vars' lays the variable. In a bare row this is a premise. The card (YtjdmnanicaghkaaDoorCards.lean) ties it to the program's text. -/
def laid_unicode_utf8_acceptRanges {H : Type} : DataW H := .agg [.agg [.lit (.int .u8 128), .lit (.int .u8 191)], .agg [.lit (.int .u8 160), .lit (.int .u8 191)], .agg [.lit (.int .u8 128), .lit (.int .u8 159)], .agg [.lit (.int .u8 144), .lit (.int .u8 191)], .agg [.lit (.int .u8 128), .lit (.int .u8 143)], .agg [.lit (.int .u8 0), .lit (.int .u8 0)], .agg [.lit (.int .u8 0), .lit (.int .u8 0)], .agg [.lit (.int .u8 0), .lit (.int .u8 0)], .agg [.lit (.int .u8 0), .lit (.int .u8 0)], .agg [.lit (.int .u8 0), .lit (.int .u8 0)], .agg [.lit (.int .u8 0), .lit (.int .u8 0)], .agg [.lit (.int .u8 0), .lit (.int .u8 0)], .agg [.lit (.int .u8 0), .lit (.int .u8 0)], .agg [.lit (.int .u8 0), .lit (.int .u8 0)], .agg [.lit (.int .u8 0), .lit (.int .u8 0)], .agg [.lit (.int .u8 0), .lit (.int .u8 0)]]
def laid_matricula_pct_digits {H : Type} : DataW H := .agg [.lit (.int .u8 48), .lit (.int .u8 49), .lit (.int .u8 50), .lit (.int .u8 51), .lit (.int .u8 52), .lit (.int .u8 53), .lit (.int .u8 54), .lit (.int .u8 55), .lit (.int .u8 56), .lit (.int .u8 57), .lit (.int .u8 65), .lit (.int .u8 66), .lit (.int .u8 67), .lit (.int .u8 68), .lit (.int .u8 69), .lit (.int .u8 70)]
/-- One of Go's own tables, pinned by name: the form's constant. -/
def laid_unicode_utf8_first : DataW Unit := Go.Pinned.utf8First

/-- 'matriculalaw03.RequestReads': WHATEVER THE INPUT: true; the input reads as it did. -/
def requestReadsSpec : ChangeSpec := { name := "requestReads", fn := fun _ => fun
  | [d] => { results := [.lit (.bool true)], args := [d] }
  | _ => none }
def requestReadsRow : OpenClaim := { program := "ytjdmnanicaghkaadoor", sum := "74e1d7cb04022a8ea452465008914b119d3461bca72794e4cecc80744cbc80c7", func := "matricula/matriculalaw03.RequestReads", spec := "requestReads", inPlace := ["internal/bytealg.IndexByteString", "internal/bytealg.IndexString", "internal/bytealg.CountString", "internal/abi.NoEscape"], unfollowed := true, recurses := true, named := ["internal/bytealg.MaxLen", "unicode/utf8.first", "unicode/utf8.acceptRanges", "matricula/pct.digits"], apart := false, laid := [("unicode/utf8.acceptRanges", laid_unicode_utf8_acceptRanges), ("matricula/pct.digits", laid_matricula_pct_digits), ("unicode/utf8.first", laid_unicode_utf8_first)] }
def RequestReadsSaid : Prop := requestReadsRow.holds Tryd.pinned (OpenSpec.ofChange requestReadsSpec)

/-- ITS FALSE NEIGHBOUR: 'it returns false'. Refute it at one input. -/
def requestReadsWrong : ChangeSpec := { name := "requestReads", fn := fun _ => fun
  | [d] => { results := [.lit (.bool false)], args := [d] }
  | _ => none }
def RequestReadsWrongFalsely : Prop := requestReadsRow.holds Tryd.pinned (OpenSpec.ofChange requestReadsWrong)

/-- 'matriculalaw03.RequestCuts': WHATEVER THE INPUT: true; the input reads as it did. -/
def requestCutsSpec : ChangeSpec := { name := "requestCuts", fn := fun _ => fun
  | [d1, d2, d3] => { results := [.lit (.bool true)], args := [d1, d2, d3] }
  | _ => none }
def requestCutsRow : OpenClaim := { program := "ytjdmnanicaghkaadoor", sum := "74e1d7cb04022a8ea452465008914b119d3461bca72794e4cecc80744cbc80c7", func := "matricula/matriculalaw03.RequestCuts", spec := "requestCuts", inPlace := ["internal/bytealg.IndexByteString", "internal/bytealg.IndexString", "internal/bytealg.CountString", "internal/abi.NoEscape"], unfollowed := true, recurses := true, named := ["internal/bytealg.MaxLen", "unicode/utf8.first", "unicode/utf8.acceptRanges", "matricula/pct.digits"], apart := false, laid := [("unicode/utf8.acceptRanges", laid_unicode_utf8_acceptRanges), ("matricula/pct.digits", laid_matricula_pct_digits), ("unicode/utf8.first", laid_unicode_utf8_first)] }
def RequestCutsSaid : Prop := requestCutsRow.holds Tryd.pinned (OpenSpec.ofChange requestCutsSpec)

/-- ITS FALSE NEIGHBOUR: 'it returns false'. Refute it at one input. -/
def requestCutsWrong : ChangeSpec := { name := "requestCuts", fn := fun _ => fun
  | [d1, d2, d3] => { results := [.lit (.bool false)], args := [d1, d2, d3] }
  | _ => none }
def RequestCutsWrongFalsely : Prop := requestCutsRow.holds Tryd.pinned (OpenSpec.ofChange requestCutsWrong)

/-- 'matriculalaw03.RequestArgs': WHATEVER THE INPUT: true; the input reads as it did. -/
def requestArgsSpec : ChangeSpec := { name := "requestArgs", fn := fun _ => fun
  | [d1, d2, d3] => { results := [.lit (.bool true)], args := [d1, d2, d3] }
  | _ => none }
def requestArgsRow : OpenClaim := { program := "ytjdmnanicaghkaadoor", sum := "74e1d7cb04022a8ea452465008914b119d3461bca72794e4cecc80744cbc80c7", func := "matricula/matriculalaw03.RequestArgs", spec := "requestArgs", inPlace := ["internal/bytealg.IndexByteString", "internal/bytealg.IndexString", "internal/bytealg.CountString", "internal/abi.NoEscape"], unfollowed := true, recurses := true, named := ["internal/bytealg.MaxLen", "unicode/utf8.first", "unicode/utf8.acceptRanges", "matricula/pct.digits"], apart := false, laid := [("unicode/utf8.acceptRanges", laid_unicode_utf8_acceptRanges), ("matricula/pct.digits", laid_matricula_pct_digits), ("unicode/utf8.first", laid_unicode_utf8_first)] }
def RequestArgsSaid : Prop := requestArgsRow.holds Tryd.pinned (OpenSpec.ofChange requestArgsSpec)

/-- ITS FALSE NEIGHBOUR: 'it returns false'. Refute it at one input. -/
def requestArgsWrong : ChangeSpec := { name := "requestArgs", fn := fun _ => fun
  | [d1, d2, d3] => { results := [.lit (.bool false)], args := [d1, d2, d3] }
  | _ => none }
def RequestArgsWrongFalsely : Prop := requestArgsRow.holds Tryd.pinned (OpenSpec.ofChange requestArgsWrong)

/-- 'matriculalaw03.RequestTells': WHATEVER THE INPUT: true; the input reads as it did. -/
def requestTellsSpec : ChangeSpec := { name := "requestTells", fn := fun _ => fun
  | [d1, d2, d3] => { results := [.lit (.bool true)], args := [d1, d2, d3] }
  | _ => none }
def requestTellsRow : OpenClaim := { program := "ytjdmnanicaghkaadoor", sum := "74e1d7cb04022a8ea452465008914b119d3461bca72794e4cecc80744cbc80c7", func := "matricula/matriculalaw03.RequestTells", spec := "requestTells", inPlace := ["internal/bytealg.IndexByteString", "internal/bytealg.IndexString", "internal/bytealg.CountString", "internal/abi.NoEscape"], unfollowed := true, recurses := true, named := ["internal/bytealg.MaxLen", "unicode/utf8.first", "unicode/utf8.acceptRanges", "matricula/pct.digits"], apart := false, laid := [("unicode/utf8.acceptRanges", laid_unicode_utf8_acceptRanges), ("matricula/pct.digits", laid_matricula_pct_digits), ("unicode/utf8.first", laid_unicode_utf8_first)] }
def RequestTellsSaid : Prop := requestTellsRow.holds Tryd.pinned (OpenSpec.ofChange requestTellsSpec)

/-- ITS FALSE NEIGHBOUR: 'it returns false'. Refute it at one input. -/
def requestTellsWrong : ChangeSpec := { name := "requestTells", fn := fun _ => fun
  | [d1, d2, d3] => { results := [.lit (.bool false)], args := [d1, d2, d3] }
  | _ => none }
def RequestTellsWrongFalsely : Prop := requestTellsRow.holds Tryd.pinned (OpenSpec.ofChange requestTellsWrong)

/-- 'matriculalaw03.RequestBack': WHATEVER THE INPUT: true; the input reads as it did. -/
def requestBackSpec : ChangeSpec := { name := "requestBack", fn := fun _ => fun
  | [d] => { results := [.lit (.bool true)], args := [d] }
  | _ => none }
def requestBackRow : OpenClaim := { program := "ytjdmnanicaghkaadoor", sum := "74e1d7cb04022a8ea452465008914b119d3461bca72794e4cecc80744cbc80c7", func := "matricula/matriculalaw03.RequestBack", spec := "requestBack", inPlace := ["internal/bytealg.IndexByteString", "internal/bytealg.IndexString", "internal/bytealg.CountString", "internal/abi.NoEscape"], unfollowed := true, recurses := true, named := ["internal/bytealg.MaxLen", "unicode/utf8.first", "unicode/utf8.acceptRanges", "matricula/pct.digits"], apart := false, laid := [("unicode/utf8.acceptRanges", laid_unicode_utf8_acceptRanges), ("matricula/pct.digits", laid_matricula_pct_digits), ("unicode/utf8.first", laid_unicode_utf8_first)] }
def RequestBackSaid : Prop := requestBackRow.holds Tryd.pinned (OpenSpec.ofChange requestBackSpec)

/-- ITS FALSE NEIGHBOUR: 'it returns false'. Refute it at one input. -/
def requestBackWrong : ChangeSpec := { name := "requestBack", fn := fun _ => fun
  | [d] => { results := [.lit (.bool false)], args := [d] }
  | _ => none }
def RequestBackWrongFalsely : Prop := requestBackRow.holds Tryd.pinned (OpenSpec.ofChange requestBackWrong)

/-- 'matriculalaw03.RequestAgain': WHATEVER THE INPUT: true; the input reads as it did. -/
def requestAgainSpec : ChangeSpec := { name := "requestAgain", fn := fun _ => fun
  | [d] => { results := [.lit (.bool true)], args := [d] }
  | _ => none }
def requestAgainRow : OpenClaim := { program := "ytjdmnanicaghkaadoor", sum := "74e1d7cb04022a8ea452465008914b119d3461bca72794e4cecc80744cbc80c7", func := "matricula/matriculalaw03.RequestAgain", spec := "requestAgain", inPlace := ["internal/bytealg.IndexByteString", "internal/bytealg.IndexString", "internal/bytealg.CountString", "internal/abi.NoEscape"], unfollowed := true, recurses := true, named := ["internal/bytealg.MaxLen", "unicode/utf8.first", "unicode/utf8.acceptRanges", "matricula/pct.digits"], apart := false, laid := [("unicode/utf8.acceptRanges", laid_unicode_utf8_acceptRanges), ("matricula/pct.digits", laid_matricula_pct_digits), ("unicode/utf8.first", laid_unicode_utf8_first)] }
def RequestAgainSaid : Prop := requestAgainRow.holds Tryd.pinned (OpenSpec.ofChange requestAgainSpec)

/-- ITS FALSE NEIGHBOUR: 'it returns false'. Refute it at one input. -/
def requestAgainWrong : ChangeSpec := { name := "requestAgain", fn := fun _ => fun
  | [d] => { results := [.lit (.bool false)], args := [d] }
  | _ => none }
def RequestAgainWrongFalsely : Prop := requestAgainRow.holds Tryd.pinned (OpenSpec.ofChange requestAgainWrong)

/- THE SECOND FORM. 'bulk': how many values and letters a reading holds, each counted each time it is reached (what is shared counts as often as it is met; a slice's spare places count too). A statement '..UptoSaid' is the law's where the arguments, and the package variables that the reading takes, are together of bulk at most 1048576: NARROWER than '..Said'. Prove '..Said' where nothing that the law and all that it calls make is longer than what came in: it says more and counts as full. Else prove '..UptoSaid'. A law counts once. -/
mutual
def uptoBulk {H : Type} : DataW H → Nat
  | .lit (.string bytes) => bytes.length + 1
  | .lit _ => 1
  | .nil => 1
  | .ptr d => uptoBulk d + 1
  | .slice elems spare => uptoBulkAll elems + uptoBulkAll spare + 1
  | .agg parts => uptoBulkAll parts + 1
  | .iface _ d => uptoBulk d + 1
  | .map entries => uptoBulkEntries entries + 1
  | .held _ => 1
def uptoBulkAll {H : Type} : List (DataW H) → Nat
  | [] => 0
  | d :: r => uptoBulk d + uptoBulkAll r
def uptoBulkEntries {H : Type} : List (Lit × DataW H) → Nat
  | [] => 0
  | x :: r => uptoBulkEntry x + uptoBulkEntries r
def uptoBulkEntry {H : Type} : Lit × DataW H → Nat
  | (.string bytes, d) => bytes.length + uptoBulk d + 1
  | (_, d) => uptoBulk d + 1
 end
def uptoSmall : (H : Type) → List (DataW H) → Bool := fun _ ds => decide (uptoBulkAll ds ≤ 1048576)
def OpenSpec.upto (s : _root_.Go.ChangeSpec) : _root_.Go.OpenSpec := { _root_.Go.OpenSpec.ofChange s with cond := some uptoSmall }

/-- 'matriculalaw03.RequestReads', WHERE WHAT IT READS IS OF BULK AT MOST 1048576: true; the input reads as it did. -/
def requestReadsUptoRow : OpenClaim := { program := "ytjdmnanicaghkaadoor", sum := "74e1d7cb04022a8ea452465008914b119d3461bca72794e4cecc80744cbc80c7", func := "matricula/matriculalaw03.RequestReads", spec := "requestReads", inPlace := ["internal/bytealg.IndexByteString", "internal/bytealg.IndexString", "internal/bytealg.CountString", "internal/abi.NoEscape"], unfollowed := true, recurses := true, named := ["internal/bytealg.MaxLen", "unicode/utf8.first", "unicode/utf8.acceptRanges", "matricula/pct.digits"], apart := false, laid := [("unicode/utf8.acceptRanges", laid_unicode_utf8_acceptRanges), ("matricula/pct.digits", laid_matricula_pct_digits), ("unicode/utf8.first", laid_unicode_utf8_first)], narrowed := true }
def RequestReadsUptoSaid : Prop := requestReadsUptoRow.holds Tryd.pinned (OpenSpec.upto requestReadsSpec)

/-- 'matriculalaw03.RequestCuts', WHERE WHAT IT READS IS OF BULK AT MOST 1048576: true; the input reads as it did. -/
def requestCutsUptoRow : OpenClaim := { program := "ytjdmnanicaghkaadoor", sum := "74e1d7cb04022a8ea452465008914b119d3461bca72794e4cecc80744cbc80c7", func := "matricula/matriculalaw03.RequestCuts", spec := "requestCuts", inPlace := ["internal/bytealg.IndexByteString", "internal/bytealg.IndexString", "internal/bytealg.CountString", "internal/abi.NoEscape"], unfollowed := true, recurses := true, named := ["internal/bytealg.MaxLen", "unicode/utf8.first", "unicode/utf8.acceptRanges", "matricula/pct.digits"], apart := false, laid := [("unicode/utf8.acceptRanges", laid_unicode_utf8_acceptRanges), ("matricula/pct.digits", laid_matricula_pct_digits), ("unicode/utf8.first", laid_unicode_utf8_first)], narrowed := true }
def RequestCutsUptoSaid : Prop := requestCutsUptoRow.holds Tryd.pinned (OpenSpec.upto requestCutsSpec)

/-- 'matriculalaw03.RequestArgs', WHERE WHAT IT READS IS OF BULK AT MOST 1048576: true; the input reads as it did. -/
def requestArgsUptoRow : OpenClaim := { program := "ytjdmnanicaghkaadoor", sum := "74e1d7cb04022a8ea452465008914b119d3461bca72794e4cecc80744cbc80c7", func := "matricula/matriculalaw03.RequestArgs", spec := "requestArgs", inPlace := ["internal/bytealg.IndexByteString", "internal/bytealg.IndexString", "internal/bytealg.CountString", "internal/abi.NoEscape"], unfollowed := true, recurses := true, named := ["internal/bytealg.MaxLen", "unicode/utf8.first", "unicode/utf8.acceptRanges", "matricula/pct.digits"], apart := false, laid := [("unicode/utf8.acceptRanges", laid_unicode_utf8_acceptRanges), ("matricula/pct.digits", laid_matricula_pct_digits), ("unicode/utf8.first", laid_unicode_utf8_first)], narrowed := true }
def RequestArgsUptoSaid : Prop := requestArgsUptoRow.holds Tryd.pinned (OpenSpec.upto requestArgsSpec)

/-- 'matriculalaw03.RequestTells', WHERE WHAT IT READS IS OF BULK AT MOST 1048576: true; the input reads as it did. -/
def requestTellsUptoRow : OpenClaim := { program := "ytjdmnanicaghkaadoor", sum := "74e1d7cb04022a8ea452465008914b119d3461bca72794e4cecc80744cbc80c7", func := "matricula/matriculalaw03.RequestTells", spec := "requestTells", inPlace := ["internal/bytealg.IndexByteString", "internal/bytealg.IndexString", "internal/bytealg.CountString", "internal/abi.NoEscape"], unfollowed := true, recurses := true, named := ["internal/bytealg.MaxLen", "unicode/utf8.first", "unicode/utf8.acceptRanges", "matricula/pct.digits"], apart := false, laid := [("unicode/utf8.acceptRanges", laid_unicode_utf8_acceptRanges), ("matricula/pct.digits", laid_matricula_pct_digits), ("unicode/utf8.first", laid_unicode_utf8_first)], narrowed := true }
def RequestTellsUptoSaid : Prop := requestTellsUptoRow.holds Tryd.pinned (OpenSpec.upto requestTellsSpec)

/-- 'matriculalaw03.RequestBack', WHERE WHAT IT READS IS OF BULK AT MOST 1048576: true; the input reads as it did. -/
def requestBackUptoRow : OpenClaim := { program := "ytjdmnanicaghkaadoor", sum := "74e1d7cb04022a8ea452465008914b119d3461bca72794e4cecc80744cbc80c7", func := "matricula/matriculalaw03.RequestBack", spec := "requestBack", inPlace := ["internal/bytealg.IndexByteString", "internal/bytealg.IndexString", "internal/bytealg.CountString", "internal/abi.NoEscape"], unfollowed := true, recurses := true, named := ["internal/bytealg.MaxLen", "unicode/utf8.first", "unicode/utf8.acceptRanges", "matricula/pct.digits"], apart := false, laid := [("unicode/utf8.acceptRanges", laid_unicode_utf8_acceptRanges), ("matricula/pct.digits", laid_matricula_pct_digits), ("unicode/utf8.first", laid_unicode_utf8_first)], narrowed := true }
def RequestBackUptoSaid : Prop := requestBackUptoRow.holds Tryd.pinned (OpenSpec.upto requestBackSpec)

/-- 'matriculalaw03.RequestAgain', WHERE WHAT IT READS IS OF BULK AT MOST 1048576: true; the input reads as it did. -/
def requestAgainUptoRow : OpenClaim := { program := "ytjdmnanicaghkaadoor", sum := "74e1d7cb04022a8ea452465008914b119d3461bca72794e4cecc80744cbc80c7", func := "matricula/matriculalaw03.RequestAgain", spec := "requestAgain", inPlace := ["internal/bytealg.IndexByteString", "internal/bytealg.IndexString", "internal/bytealg.CountString", "internal/abi.NoEscape"], unfollowed := true, recurses := true, named := ["internal/bytealg.MaxLen", "unicode/utf8.first", "unicode/utf8.acceptRanges", "matricula/pct.digits"], apart := false, laid := [("unicode/utf8.acceptRanges", laid_unicode_utf8_acceptRanges), ("matricula/pct.digits", laid_matricula_pct_digits), ("unicode/utf8.first", laid_unicode_utf8_first)], narrowed := true }
def RequestAgainUptoSaid : Prop := requestAgainUptoRow.holds Tryd.pinned (OpenSpec.upto requestAgainSpec)

end Rows
end Go.Proofs.YtjdmnanicaghkaaDoor
