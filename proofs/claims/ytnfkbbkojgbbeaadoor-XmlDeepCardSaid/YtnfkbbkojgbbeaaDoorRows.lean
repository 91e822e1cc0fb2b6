/-
  NARROWER THAN 'FOR EVERY INPUT', by the rows' own cells (each row's printed sentence says how): XmlTexts: laid · XmlReads: laid · XmlBack: loops, laid · XmlHolds: laid · XmlDeep: laid.
  DERIVED. THE GIVEN ROWS OF THIS SEAT. 5 by the template 'for every input the law returns true; each argument reads behind the call as it read before'; 0 by the template 'total and deterministic' (their statements: YtnfkbbkojgbbeaaDoorTotals.lean).
  GIVEN WITH THE SEED: the statements are not yours to turn. If you find one false, say at which input.
  Laid BY PROGRAM, IN A SANDBOX (cutbox-rows.mjs): the forced cells as the released guide's own fill.sh prints them over the translation b1ad164658fdb06e… (all of the seat's roots in one cut). By AI agents, Wed Nov 11 2026. No macro, syntax, notation, axiom, sorry.
-/
import Derived.Test.YtnfkbbkojgbbeaaDoorChecked
import GoSem.PinnedTables
import GoSem.Claim
import GoSem.ClaimJoined
import GoSem.ClaimMapViews
import Derived.JoinedTies
import Derived.KernelRfl
namespace Go.Proofs.YtnfkbbkojgbbeaaDoor
/- THE CELL 'sum', in the pinned program and in every row, IS THE sha256 OF THE DUMP (.gsa) THAT YtnfkbbkojgbbeaaDoorProg.lean LOADS. Nothing in Lean hashes anything: it is a label: what it is worth is what the hold of that sum in a sandbox is worth. -/
noncomputable def Tryd.pinned : Pinned := { name := "ytnfkbbkojgbbeaadoor", sum := "b1ad164658fdb06ec923b9218ec5b9707915c996f04f00764404e469ae839233", checked := Tryd.checked }
namespace Rows
def none {H : Type} : Left H := { results := [], args := [] }

/- WHAT THE LISTED PACKAGE-LEVEL VARIABLES READ AS WHEN THE CALL BEGINS. Each datum BY PROGRAM (the guide's laid-datum.mjs) off the statement by which the dump's own 'gosem.cut.vars' lays the variable. In a bare row this is a premise. The card (YtnfkbbkojgbbeaaDoorCards.lean) ties it to the program's text. -/
def laid_unicode_utf8_acceptRanges {H : Type} : DataW H := .agg [.agg [.lit (.int .u8 128), .lit (.int .u8 191)], .agg [.lit (.int .u8 160), .lit (.int .u8 191)], .agg [.lit (.int .u8 128), .lit (.int .u8 159)], .agg [.lit (.int .u8 144), .lit (.int .u8 191)], .agg [.lit (.int .u8 128), .lit (.int .u8 143)], .agg [.lit (.int .u8 0), .lit (.int .u8 0)], .agg [.lit (.int .u8 0), .lit (.int .u8 0)], .agg [.lit (.int .u8 0), .lit (.int .u8 0)], .agg [.lit (.int .u8 0), .lit (.int .u8 0)], .agg [.lit (.int .u8 0), .lit (.int .u8 0)], .agg [.lit (.int .u8 0), .lit (.int .u8 0)], .agg [.lit (.int .u8 0), .lit (.int .u8 0)], .agg [.lit (.int .u8 0), .lit (.int .u8 0)], .agg [.lit (.int .u8 0), .lit (.int .u8 0)], .agg [.lit (.int .u8 0), .lit (.int .u8 0)], .agg [.lit (.int .u8 0), .lit (.int .u8 0)]]
def laid_matricula_xml_marks {H : Type} : DataW H := .agg [.agg [.lit (.string [38]), .lit (.string [38, 97, 109, 112, 59])], .agg [.lit (.string [60]), .lit (.string [38, 108, 116, 59])], .agg [.lit (.string [62]), .lit (.string [38, 103, 116, 59])], .agg [.lit (.string [34]), .lit (.string [38, 113, 117, 111, 116, 59])], .agg [.lit (.string [39]), .lit (.string [38, 35, 51, 57, 59])]]
/-- One of Go's own tables, pinned by name: the form's constant. -/
def laid_unicode_utf8_first : DataW Unit := Go.Pinned.utf8First

/-- 'matriculalaw06.XmlTexts': WHATEVER THE INPUT: true; the input reads as it did. -/
def xmlTextsSpec : ChangeSpec := { name := "xmlTexts", fn := fun _ => fun
  | [d] => { results := [.lit (.bool true)], args := [d] }
  | _ => none }
def xmlTextsRow : OpenClaim := { program := "ytnfkbbkojgbbeaadoor", sum := "b1ad164658fdb06ec923b9218ec5b9707915c996f04f00764404e469ae839233", func := "matricula/matriculalaw06.XmlTexts", spec := "xmlTexts", inPlace := ["internal/abi.NoEscape", "internal/bytealg.CountString", "internal/bytealg.IndexByteString", "internal/bytealg.IndexString", "internal/bytealg.MakeNoZero"], unfollowed := true, recurses := true, named := ["matricula/xml.marks", "internal/bytealg.MaxLen", "unicode/utf8.first", "unicode/utf8.acceptRanges"], apart := false, laid := [("unicode/utf8.acceptRanges", laid_unicode_utf8_acceptRanges), ("matricula/xml.marks", laid_matricula_xml_marks), ("unicode/utf8.first", laid_unicode_utf8_first)] }
def XmlTextsSaid : Prop := xmlTextsRow.holds Tryd.pinned (OpenSpec.ofChange xmlTextsSpec)

/-- ITS FALSE NEIGHBOUR: 'it returns false'. Refute it at one input. -/
def xmlTextsWrong : ChangeSpec := { name := "xmlTexts", fn := fun _ => fun
  | [d] => { results := [.lit (.bool false)], args := [d] }
  | _ => none }
def XmlTextsWrongFalsely : Prop := xmlTextsRow.holds Tryd.pinned (OpenSpec.ofChange xmlTextsWrong)

/-- 'matriculalaw06.XmlReads': WHATEVER THE INPUT: true; the input reads as it did. -/
def xmlReadsSpec : ChangeSpec := { name := "xmlReads", fn := fun _ => fun
  | [d] => { results := [.lit (.bool true)], args := [d] }
  | _ => none }
def xmlReadsRow : OpenClaim := { program := "ytnfkbbkojgbbeaadoor", sum := "b1ad164658fdb06ec923b9218ec5b9707915c996f04f00764404e469ae839233", func := "matricula/matriculalaw06.XmlReads", spec := "xmlReads", inPlace := ["internal/abi.NoEscape", "internal/bytealg.CountString", "internal/bytealg.IndexByteString", "internal/bytealg.IndexString", "internal/bytealg.MakeNoZero"], unfollowed := true, recurses := true, named := ["matricula/xml.marks", "internal/bytealg.MaxLen", "unicode/utf8.first", "unicode/utf8.acceptRanges"], apart := false, laid := [("unicode/utf8.acceptRanges", laid_unicode_utf8_acceptRanges), ("matricula/xml.marks", laid_matricula_xml_marks), ("unicode/utf8.first", laid_unicode_utf8_first)] }
def XmlReadsSaid : Prop := xmlReadsRow.holds Tryd.pinned (OpenSpec.ofChange xmlReadsSpec)

/-- ITS FALSE NEIGHBOUR: 'it returns false'. Refute it at one input. -/
def xmlReadsWrong : ChangeSpec := { name := "xmlReads", fn := fun _ => fun
  | [d] => { results := [.lit (.bool false)], args := [d] }
  | _ => none }
def XmlReadsWrongFalsely : Prop := xmlReadsRow.holds Tryd.pinned (OpenSpec.ofChange xmlReadsWrong)

/-- 'matriculalaw06.XmlBack': WHATEVER THE INPUT: true; the input reads as it did. -/
def xmlBackSpec : ChangeSpec := { name := "xmlBack", fn := fun _ => fun
  | [d1, d2] => { results := [.lit (.bool true)], args := [d1, d2] }
  | _ => none }
def xmlBackRow : OpenClaim := { program := "ytnfkbbkojgbbeaadoor", sum := "b1ad164658fdb06ec923b9218ec5b9707915c996f04f00764404e469ae839233", func := "matricula/matriculalaw06.XmlBack", spec := "xmlBack", inPlace := ["internal/abi.NoEscape", "internal/bytealg.CountString", "internal/bytealg.IndexByteString", "internal/bytealg.IndexString", "internal/bytealg.MakeNoZero"], unfollowed := true, recurses := true, named := ["matricula/xml.marks", "internal/bytealg.MaxLen", "unicode/utf8.first", "unicode/utf8.acceptRanges"], loops := true, apart := false, laid := [("unicode/utf8.acceptRanges", laid_unicode_utf8_acceptRanges), ("matricula/xml.marks", laid_matricula_xml_marks), ("unicode/utf8.first", laid_unicode_utf8_first)] }
def XmlBackSaid : Prop := xmlBackRow.holds Tryd.pinned (OpenSpec.ofChange xmlBackSpec)

/-- ITS FALSE NEIGHBOUR: 'it returns false'. Refute it at one input. -/
def xmlBackWrong : ChangeSpec := { name := "xmlBack", fn := fun _ => fun
  | [d1, d2] => { results := [.lit (.bool false)], args := [d1, d2] }
  | _ => none }
def XmlBackWrongFalsely : Prop := xmlBackRow.holds Tryd.pinned (OpenSpec.ofChange xmlBackWrong)

/-- 'matriculalaw06.XmlHolds': WHATEVER THE INPUT: true; the input reads as it did. -/
def xmlHoldsSpec : ChangeSpec := { name := "xmlHolds", fn := fun _ => fun
  | [d1, d2] => { results := [.lit (.bool true)], args := [d1, d2] }
  | _ => none }
def xmlHoldsRow : OpenClaim := { program := "ytnfkbbkojgbbeaadoor", sum := "b1ad164658fdb06ec923b9218ec5b9707915c996f04f00764404e469ae839233", func := "matricula/matriculalaw06.XmlHolds", spec := "xmlHolds", inPlace := ["internal/abi.NoEscape", "internal/bytealg.CountString", "internal/bytealg.IndexByteString", "internal/bytealg.IndexString", "internal/bytealg.MakeNoZero"], unfollowed := true, recurses := true, named := ["matricula/xml.marks", "internal/bytealg.MaxLen", "unicode/utf8.first", "unicode/utf8.acceptRanges"], apart := false, laid := [("unicode/utf8.acceptRanges", laid_unicode_utf8_acceptRanges), ("matricula/xml.marks", laid_matricula_xml_marks), ("unicode/utf8.first", laid_unicode_utf8_first)] }
def XmlHoldsSaid : Prop := xmlHoldsRow.holds Tryd.pinned (OpenSpec.ofChange xmlHoldsSpec)

/-- ITS FALSE NEIGHBOUR: 'it returns false'. Refute it at one input. -/
def xmlHoldsWrong : ChangeSpec := { name := "xmlHolds", fn := fun _ => fun
  | [d1, d2] => { results := [.lit (.bool false)], args := [d1, d2] }
  | _ => none }
def XmlHoldsWrongFalsely : Prop := xmlHoldsRow.holds Tryd.pinned (OpenSpec.ofChange xmlHoldsWrong)

/-- 'matriculalaw06.XmlDeep': WHATEVER THE INPUT: true; the input reads as it did. -/
def xmlDeepSpec : ChangeSpec := { name := "xmlDeep", fn := fun _ => fun
  | [d1, d2] => { results := [.lit (.bool true)], args := [d1, d2] }
  | _ => none }
def xmlDeepRow : OpenClaim := { program := "ytnfkbbkojgbbeaadoor", sum := "b1ad164658fdb06ec923b9218ec5b9707915c996f04f00764404e469ae839233", func := "matricula/matriculalaw06.XmlDeep", spec := "xmlDeep", inPlace := ["internal/abi.NoEscape", "internal/bytealg.CountString", "internal/bytealg.IndexByteString", "internal/bytealg.IndexString", "internal/bytealg.MakeNoZero"], unfollowed := true, recurses := true, named := ["matricula/xml.marks", "internal/bytealg.MaxLen", "unicode/utf8.first", "unicode/utf8.acceptRanges"], apart := false, laid := [("unicode/utf8.acceptRanges", laid_unicode_utf8_acceptRanges), ("matricula/xml.marks", laid_matricula_xml_marks), ("unicode/utf8.first", laid_unicode_utf8_first)] }
def XmlDeepSaid : Prop := xmlDeepRow.holds Tryd.pinned (OpenSpec.ofChange xmlDeepSpec)

/-- ITS FALSE NEIGHBOUR: 'it returns false'. Refute it at one input. -/
def xmlDeepWrong : ChangeSpec := { name := "xmlDeep", fn := fun _ => fun
  | [d1, d2] => { results := [.lit (.bool false)], args := [d1, d2] }
  | _ => none }
def XmlDeepWrongFalsely : Prop := xmlDeepRow.holds Tryd.pinned (OpenSpec.ofChange xmlDeepWrong)

/- THE SECOND FORM. 'bulk': how many values and letters a reading holds, each counted each time it is reached (what is shared counts as often as it is met; a slice's spare places count too). A statement '..UptoSaid' is the law's where the arguments, and the package variables that the reading takes, are together of bulk at most 1048576: NARROWER than '..Said'. Prove '..Said' where nothing that the law and all that it calls make is longer than what came in: it says more and counts as full. Else prove '..UptoSaid'. A law counts once. -/
mutual
def uptoBulk {H : Type} : DataW H → Nat
  | .lit (.string bytes) => bytes.length + 1
  | .lit _ => 1
  | .nil => 1
  | .ptr d => uptoBulk d + 1
  | .slice elems spare => uptoBulkAll elems + uptoBulkAll spare + 1
  | .agg parts => uptoBulkAll parts + 1
  | .iface _ d => uptoBulk d + 1
  | .map entries => uptoBulkEntries entries + 1
  | .held _ => 1
def uptoBulkAll {H : Type} : List (DataW H) → Nat
  | [] => 0
  | d :: r => uptoBulk d + uptoBulkAll r
def uptoBulkEntries {H : Type} : List (Lit × DataW H) → Nat
  | [] => 0
  | x :: r => uptoBulkEntry x + uptoBulkEntries r
def uptoBulkEntry {H : Type} : Lit × DataW H → Nat
  | (.string bytes, d) => bytes.length + uptoBulk d + 1
  | (_, d) => uptoBulk d + 1
 end
def uptoSmall : (H : Type) → List (DataW H) → Bool := fun _ ds => decide (uptoBulkAll ds ≤ 1048576)
def OpenSpec.upto (s : _root_.Go.ChangeSpec) : _root_.Go.OpenSpec := { _root_.Go.OpenSpec.ofChange s with cond := some uptoSmall }

/-- 'matriculalaw06.XmlTexts', WHERE WHAT IT READS IS OF BULK AT MOST 1048576: true; the input reads as it did. -/
def xmlTextsUptoRow : OpenClaim := { program := "ytnfkbbkojgbbeaadoor", sum := "b1ad164658fdb06ec923b9218ec5b9707915c996f04f00764404e469ae839233", func := "matricula/matriculalaw06.XmlTexts", spec := "xmlTexts", inPlace := ["internal/abi.NoEscape", "internal/bytealg.CountString", "internal/bytealg.IndexByteString", "internal/bytealg.IndexString", "internal/bytealg.MakeNoZero"], unfollowed := true, recurses := true, named := ["matricula/xml.marks", "internal/bytealg.MaxLen", "unicode/utf8.first", "unicode/utf8.acceptRanges"], apart := false, laid := [("unicode/utf8.acceptRanges", laid_unicode_utf8_acceptRanges), ("matricula/xml.marks", laid_matricula_xml_marks), ("unicode/utf8.first", laid_unicode_utf8_first)], narrowed := true }
def XmlTextsUptoSaid : Prop := xmlTextsUptoRow.holds Tryd.pinned (OpenSpec.upto xmlTextsSpec)

/-- 'matriculalaw06.XmlReads', WHERE WHAT IT READS IS OF BULK AT MOST 1048576: true; the input reads as it did. -/
def xmlReadsUptoRow : OpenClaim := { program := "ytnfkbbkojgbbeaadoor", sum := "b1ad164658fdb06ec923b9218ec5b9707915c996f04f00764404e469ae839233", func := "matricula/matriculalaw06.XmlReads", spec := "xmlReads", inPlace := ["internal/abi.NoEscape", "internal/bytealg.CountString", "internal/bytealg.IndexByteString", "internal/bytealg.IndexString", "internal/bytealg.MakeNoZero"], unfollowed := true, recurses := true, named := ["matricula/xml.marks", "internal/bytealg.MaxLen", "unicode/utf8.first", "unicode/utf8.acceptRanges"], apart := false, laid := [("unicode/utf8.acceptRanges", laid_unicode_utf8_acceptRanges), ("matricula/xml.marks", laid_matricula_xml_marks), ("unicode/utf8.first", laid_unicode_utf8_first)], narrowed := true }
def XmlReadsUptoSaid : Prop := xmlReadsUptoRow.holds Tryd.pinned (OpenSpec.upto xmlReadsSpec)

/-- 'matriculalaw06.XmlBack', WHERE WHAT IT READS IS OF BULK AT MOST 1048576: true; the input reads as it did. -/
def xmlBackUptoRow : OpenClaim := { program := "ytnfkbbkojgbbeaadoor", sum := "b1ad164658fdb06ec923b9218ec5b9707915c996f04f00764404e469ae839233", func := "matricula/matriculalaw06.XmlBack", spec := "xmlBack", inPlace := ["internal/abi.NoEscape", "internal/bytealg.CountString", "internal/bytealg.IndexByteString", "internal/bytealg.IndexString", "internal/bytealg.MakeNoZero"], unfollowed := true, recurses := true, named := ["matricula/xml.marks", "internal/bytealg.MaxLen", "unicode/utf8.first", "unicode/utf8.acceptRanges"], loops := true, apart := false, laid := [("unicode/utf8.acceptRanges", laid_unicode_utf8_acceptRanges), ("matricula/xml.marks", laid_matricula_xml_marks), ("unicode/utf8.first", laid_unicode_utf8_first)], narrowed := true }
def XmlBackUptoSaid : Prop := xmlBackUptoRow.holds Tryd.pinned (OpenSpec.upto xmlBackSpec)

/-- 'matriculalaw06.XmlHolds', WHERE WHAT IT READS IS OF BULK AT MOST 1048576: true; the input reads as it did. -/
def xmlHoldsUptoRow : OpenClaim := { program := "ytnfkbbkojgbbeaadoor", sum := "b1ad164658fdb06ec923b9218ec5b9707915c996f04f00764404e469ae839233", func := "matricula/matriculalaw06.XmlHolds", spec := "xmlHolds", inPlace := ["internal/abi.NoEscape", "internal/bytealg.CountString", "internal/bytealg.IndexByteString", "internal/bytealg.IndexString", "internal/bytealg.MakeNoZero"], unfollowed := true, recurses := true, named := ["matricula/xml.marks", "internal/bytealg.MaxLen", "unicode/utf8.first", "unicode/utf8.acceptRanges"], apart := false, laid := [("unicode/utf8.acceptRanges", laid_unicode_utf8_acceptRanges), ("matricula/xml.marks", laid_matricula_xml_marks), ("unicode/utf8.first", laid_unicode_utf8_first)], narrowed := true }
def XmlHoldsUptoSaid : Prop := xmlHoldsUptoRow.holds Tryd.pinned (OpenSpec.upto xmlHoldsSpec)

/-- 'matriculalaw06.XmlDeep', WHERE WHAT IT READS IS OF BULK AT MOST 1048576: true; the input reads as it did. -/
def xmlDeepUptoRow : OpenClaim := { program := "ytnfkbbkojgbbeaadoor", sum := "b1ad164658fdb06ec923b9218ec5b9707915c996f04f00764404e469ae839233", func := "matricula/matriculalaw06.XmlDeep", spec := "xmlDeep", inPlace := ["internal/abi.NoEscape", "internal/bytealg.CountString", "internal/bytealg.IndexByteString", "internal/bytealg.IndexString", "internal/bytealg.MakeNoZero"], unfollowed := true, recurses := true, named := ["matricula/xml.marks", "internal/bytealg.MaxLen", "unicode/utf8.first", "unicode/utf8.acceptRanges"], apart := false, laid := [("unicode/utf8.acceptRanges", laid_unicode_utf8_acceptRanges), ("matricula/xml.marks", laid_matricula_xml_marks), ("unicode/utf8.first", laid_unicode_utf8_first)], narrowed := true }
def XmlDeepUptoSaid : Prop := xmlDeepUptoRow.holds Tryd.pinned (OpenSpec.upto xmlDeepSpec)

end Rows
end Go.Proofs.YtnfkbbkojgbbeaaDoor
