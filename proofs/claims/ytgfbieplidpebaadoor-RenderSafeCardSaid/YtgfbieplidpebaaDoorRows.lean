/-
  NARROWER THAN 'FOR EVERY INPUT', by the rows' own cells (each row's printed sentence says how): RenderSafe: laid · RenderBack: laid · RenderForms: laid.
  DERIVED. THE GIVEN ROWS OF THIS SEAT. 3 by the template 'for every input the law returns true; each argument reads behind the call as it read before'; 0 by the template 'total and deterministic' (their statements: YtgfbieplidpebaaDoorTotals.lean).
  GIVEN WITH THE SEED: the statements are not yours to turn. If you find one false, say at which input.
  Laid BY PROGRAM, IN A SANDBOX (cutbox-rows.mjs): the forced cells as the released guide's own fill.sh prints them over the translation 4b83ad9032bc8f3a… (all of the seat's roots in one cut). By AI agents, Wed Nov 11 2026. No macro, syntax, notation, axiom, sorry.
-/
import Derived.Test.YtgfbieplidpebaaDoorChecked
import GoSem.PinnedTables
import GoSem.Claim
import GoSem.ClaimJoined
import GoSem.ClaimMapViews
import Derived.JoinedTies
import Derived.KernelRfl
namespace Go.Proofs.YtgfbieplidpebaaDoor
/- THE CELL 'sum', in the pinned program and in every row, IS THE sha256 OF THE DUMP (.gsa) THAT YtgfbieplidpebaaDoorProg.lean LOADS. Nothing in Lean hashes anything: it is a label: what it is worth is what the hold of that sum in a sandbox is worth. -/
noncomputable def Tryd.pinned : Pinned := { name := "ytgfbieplidpebaadoor", sum := "4b83ad9032bc8f3ac0ad56fe874e8c1cfe79448d2ea90a6e9000d05cc3b27f0d", checked := Tryd.checked }
namespace Rows
def none {H : Type} : Left H := { results := [], args := [] }

/- WHAT THE LISTED PACKAGE-LEVEL VARIABLES READ AS WHEN THE CALL BEGINS. Each datum BY PROGRAM (the guide's laid-datum.mjs) off the statement by which the dump's own 'gosem.cut.vars' lays the variable. In a bare row this is a premise. The card (YtgfbieplidpebaaDoorCards.lean) ties it to the program's text. -/
def laid_unicode_utf8_acceptRanges {H : Type} : DataW H := .agg [.agg [.lit (.int .u8 128), .lit (.int .u8 191)], .agg [.lit (.int .u8 160), .lit (.int .u8 191)], .agg [.lit (.int .u8 128), .lit (.int .u8 159)], .agg [.lit (.int .u8 144), .lit (.int .u8 191)], .agg [.lit (.int .u8 128), .lit (.int .u8 143)], .agg [.lit (.int .u8 0), .lit (.int .u8 0)], .agg [.lit (.int .u8 0), .lit (.int .u8 0)], .agg [.lit (.int .u8 0), .lit (.int .u8 0)], .agg [.lit (.int .u8 0), .lit (.int .u8 0)], .agg [.lit (.int .u8 0), .lit (.int .u8 0)], .agg [.lit (.int .u8 0), .lit (.int .u8 0)], .agg [.lit (.int .u8 0), .lit (.int .u8 0)], .agg [.lit (.int .u8 0), .lit (.int .u8 0)], .agg [.lit (.int .u8 0), .lit (.int .u8 0)], .agg [.lit (.int .u8 0), .lit (.int .u8 0)], .agg [.lit (.int .u8 0), .lit (.int .u8 0)]]
def laid_matricula_xml_marks {H : Type} : DataW H := .agg [.agg [.lit (.string [38]), .lit (.string [38, 97, 109, 112, 59])], .agg [.lit (.string [60]), .lit (.string [38, 108, 116, 59])], .agg [.lit (.string [62]), .lit (.string [38, 103, 116, 59])], .agg [.lit (.string [34]), .lit (.string [38, 113, 117, 111, 116, 59])], .agg [.lit (.string [39]), .lit (.string [38, 35, 51, 57, 59])]]
/-- One of Go's own tables, pinned by name: the form's constant. -/
def laid_unicode_utf8_first : DataW Unit := Go.Pinned.utf8First

/-- 'matriculalaw24.RenderSafe': WHATEVER THE INPUT: true; the input reads as it did. -/
def renderSafeSpec : ChangeSpec := { name := "renderSafe", fn := fun _ => fun
  | [d1, d2] => { results := [.lit (.bool true)], args := [d1, d2] }
  | _ => none }
def renderSafeRow : OpenClaim := { program := "ytgfbieplidpebaadoor", sum := "4b83ad9032bc8f3ac0ad56fe874e8c1cfe79448d2ea90a6e9000d05cc3b27f0d", func := "matricula/matriculalaw24.RenderSafe", spec := "renderSafe", inPlace := ["internal/abi.NoEscape", "internal/bytealg.CountString", "internal/bytealg.IndexByteString", "internal/bytealg.IndexString", "internal/bytealg.MakeNoZero"], unfollowed := true, recurses := true, named := ["matricula/xml.marks", "internal/bytealg.MaxLen", "unicode/utf8.first", "unicode/utf8.acceptRanges"], apart := false, laid := [("unicode/utf8.acceptRanges", laid_unicode_utf8_acceptRanges), ("matricula/xml.marks", laid_matricula_xml_marks), ("unicode/utf8.first", laid_unicode_utf8_first)] }
def RenderSafeSaid : Prop := renderSafeRow.holds Tryd.pinned (OpenSpec.ofChange renderSafeSpec)

/-- ITS FALSE NEIGHBOUR: 'it returns false'. Refute it at one input. -/
def renderSafeWrong : ChangeSpec := { name := "renderSafe", fn := fun _ => fun
  | [d1, d2] => { results := [.lit (.bool false)], args := [d1, d2] }
  | _ => none }
def RenderSafeWrongFalsely : Prop := renderSafeRow.holds Tryd.pinned (OpenSpec.ofChange renderSafeWrong)

/-- 'matriculalaw24.RenderBack': WHATEVER THE INPUT: true; the input reads as it did. -/
def renderBackSpec : ChangeSpec := { name := "renderBack", fn := fun _ => fun
  | [d1, d2, d3] => { results := [.lit (.bool true)], args := [d1, d2, d3] }
  | _ => none }
def renderBackRow : OpenClaim := { program := "ytgfbieplidpebaadoor", sum := "4b83ad9032bc8f3ac0ad56fe874e8c1cfe79448d2ea90a6e9000d05cc3b27f0d", func := "matricula/matriculalaw24.RenderBack", spec := "renderBack", inPlace := ["internal/abi.NoEscape", "internal/bytealg.CountString", "internal/bytealg.IndexByteString", "internal/bytealg.IndexString", "internal/bytealg.MakeNoZero"], unfollowed := true, recurses := true, named := ["matricula/xml.marks", "internal/bytealg.MaxLen", "unicode/utf8.first", "unicode/utf8.acceptRanges"], apart := false, laid := [("unicode/utf8.acceptRanges", laid_unicode_utf8_acceptRanges), ("matricula/xml.marks", laid_matricula_xml_marks), ("unicode/utf8.first", laid_unicode_utf8_first)] }
def RenderBackSaid : Prop := renderBackRow.holds Tryd.pinned (OpenSpec.ofChange renderBackSpec)

/-- ITS FALSE NEIGHBOUR: 'it returns false'. Refute it at one input. -/
def renderBackWrong : ChangeSpec := { name := "renderBack", fn := fun _ => fun
  | [d1, d2, d3] => { results := [.lit (.bool false)], args := [d1, d2, d3] }
  | _ => none }
def RenderBackWrongFalsely : Prop := renderBackRow.holds Tryd.pinned (OpenSpec.ofChange renderBackWrong)

/-- 'matriculalaw24.RenderForms': WHATEVER THE INPUT: true; the input reads as it did. -/
def renderFormsSpec : ChangeSpec := { name := "renderForms", fn := fun _ => fun
  | [d1, d2, d3, d4] => { results := [.lit (.bool true)], args := [d1, d2, d3, d4] }
  | _ => none }
def renderFormsRow : OpenClaim := { program := "ytgfbieplidpebaadoor", sum := "4b83ad9032bc8f3ac0ad56fe874e8c1cfe79448d2ea90a6e9000d05cc3b27f0d", func := "matricula/matriculalaw24.RenderForms", spec := "renderForms", inPlace := ["internal/abi.NoEscape", "internal/bytealg.CountString", "internal/bytealg.IndexByteString", "internal/bytealg.IndexString", "internal/bytealg.MakeNoZero"], unfollowed := true, recurses := true, named := ["matricula/xml.marks", "internal/bytealg.MaxLen", "unicode/utf8.first", "unicode/utf8.acceptRanges"], apart := false, laid := [("unicode/utf8.acceptRanges", laid_unicode_utf8_acceptRanges), ("matricula/xml.marks", laid_matricula_xml_marks), ("unicode/utf8.first", laid_unicode_utf8_first)] }
def RenderFormsSaid : Prop := renderFormsRow.holds Tryd.pinned (OpenSpec.ofChange renderFormsSpec)

/-- ITS FALSE NEIGHBOUR: 'it returns false'. Refute it at one input. -/
def renderFormsWrong : ChangeSpec := { name := "renderForms", fn := fun _ => fun
  | [d1, d2, d3, d4] => { results := [.lit (.bool false)], args := [d1, d2, d3, d4] }
  | _ => none }
def RenderFormsWrongFalsely : Prop := renderFormsRow.holds Tryd.pinned (OpenSpec.ofChange renderFormsWrong)

/- THE SECOND FORM. 'bulk': how many values and letters a reading holds, each counted each time it is reached (what is shared counts as often as it is met; a slice's spare places count too). A statement '..UptoSaid' is the law's where the arguments, and the package variables that the reading takes, are together of bulk at most 1048576: NARROWER than '..Said'. Prove '..Said' where nothing that the law and all that it calls make is longer than what came in: it says more and counts as full. Else prove '..UptoSaid'. A law counts once. -/
mutual
def uptoBulk {H : Type} : DataW H → Nat
  | .lit (.string bytes) => bytes.length + 1
  | .lit _ => 1
  | .nil => 1
  | .ptr d => uptoBulk d + 1
  | .slice elems spare => uptoBulkAll elems + uptoBulkAll spare + 1
  | .agg parts => uptoBulkAll parts + 1
  | .iface _ d => uptoBulk d + 1
  | .map entries => uptoBulkEntries entries + 1
  | .held _ => 1
def uptoBulkAll {H : Type} : List (DataW H) → Nat
  | [] => 0
  | d :: r => uptoBulk d + uptoBulkAll r
def uptoBulkEntries {H : Type} : List (Lit × DataW H) → Nat
  | [] => 0
  | x :: r => uptoBulkEntry x + uptoBulkEntries r
def uptoBulkEntry {H : Type} : Lit × DataW H → Nat
  | (.string bytes, d) => bytes.length + uptoBulk d + 1
  | (_, d) => uptoBulk d + 1
 end
def uptoSmall : (H : Type) → List (DataW H) → Bool := fun _ ds => decide (uptoBulkAll ds ≤ 1048576)
def OpenSpec.upto (s : _root_.Go.ChangeSpec) : _root_.Go.OpenSpec := { _root_.Go.OpenSpec.ofChange s with cond := some uptoSmall }

/-- 'matriculalaw24.RenderSafe', WHERE WHAT IT READS IS OF BULK AT MOST 1048576: true; the input reads as it did. -/
def renderSafeUptoRow : OpenClaim := { program := "ytgfbieplidpebaadoor", sum := "4b83ad9032bc8f3ac0ad56fe874e8c1cfe79448d2ea90a6e9000d05cc3b27f0d", func := "matricula/matriculalaw24.RenderSafe", spec := "renderSafe", inPlace := ["internal/abi.NoEscape", "internal/bytealg.CountString", "internal/bytealg.IndexByteString", "internal/bytealg.IndexString", "internal/bytealg.MakeNoZero"], unfollowed := true, recurses := true, named := ["matricula/xml.marks", "internal/bytealg.MaxLen", "unicode/utf8.first", "unicode/utf8.acceptRanges"], apart := false, laid := [("unicode/utf8.acceptRanges", laid_unicode_utf8_acceptRanges), ("matricula/xml.marks", laid_matricula_xml_marks), ("unicode/utf8.first", laid_unicode_utf8_first)], narrowed := true }
def RenderSafeUptoSaid : Prop := renderSafeUptoRow.holds Tryd.pinned (OpenSpec.upto renderSafeSpec)

/-- 'matriculalaw24.RenderBack', WHERE WHAT IT READS IS OF BULK AT MOST 1048576: true; the input reads as it did. -/
def renderBackUptoRow : OpenClaim := { program := "ytgfbieplidpebaadoor", sum := "4b83ad9032bc8f3ac0ad56fe874e8c1cfe79448d2ea90a6e9000d05cc3b27f0d", func := "matricula/matriculalaw24.RenderBack", spec := "renderBack", inPlace := ["internal/abi.NoEscape", "internal/bytealg.CountString", "internal/bytealg.IndexByteString", "internal/bytealg.IndexString", "internal/bytealg.MakeNoZero"], unfollowed := true, recurses := true, named := ["matricula/xml.marks", "internal/bytealg.MaxLen", "unicode/utf8.first", "unicode/utf8.acceptRanges"], apart := false, laid := [("unicode/utf8.acceptRanges", laid_unicode_utf8_acceptRanges), ("matricula/xml.marks", laid_matricula_xml_marks), ("unicode/utf8.first", laid_unicode_utf8_first)], narrowed := true }
def RenderBackUptoSaid : Prop := renderBackUptoRow.holds Tryd.pinned (OpenSpec.upto renderBackSpec)

/-- 'matriculalaw24.RenderForms', WHERE WHAT IT READS IS OF BULK AT MOST 1048576: true; the input reads as it did. -/
def renderFormsUptoRow : OpenClaim := { program := "ytgfbieplidpebaadoor", sum := "4b83ad9032bc8f3ac0ad56fe874e8c1cfe79448d2ea90a6e9000d05cc3b27f0d", func := "matricula/matriculalaw24.RenderForms", spec := "renderForms", inPlace := ["internal/abi.NoEscape", "internal/bytealg.CountString", "internal/bytealg.IndexByteString", "internal/bytealg.IndexString", "internal/bytealg.MakeNoZero"], unfollowed := true, recurses := true, named := ["matricula/xml.marks", "internal/bytealg.MaxLen", "unicode/utf8.first", "unicode/utf8.acceptRanges"], apart := false, laid := [("unicode/utf8.acceptRanges", laid_unicode_utf8_acceptRanges), ("matricula/xml.marks", laid_matricula_xml_marks), ("unicode/utf8.first", laid_unicode_utf8_first)], narrowed := true }
def RenderFormsUptoSaid : Prop := renderFormsUptoRow.holds Tryd.pinned (OpenSpec.upto renderFormsSpec)

end Rows
end Go.Proofs.YtgfbieplidpebaaDoor
