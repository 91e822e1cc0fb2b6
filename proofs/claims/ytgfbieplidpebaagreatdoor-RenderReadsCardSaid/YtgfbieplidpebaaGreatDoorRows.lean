/-
  NARROWER THAN 'FOR EVERY INPUT', by the rows' own cells (each row's printed sentence says how): RenderTells: laid · RenderShows: laid · RenderReads: laid.
  DERIVED. THE GIVEN ROWS OF THIS SEAT. 3 by the template 'for every input the law returns true; each argument reads behind the call as it read before'; 0 by the template 'total and deterministic' (their statements: YtgfbieplidpebaaGreatDoorTotals.lean).
  GIVEN WITH THE SEED: the statements are not yours to turn. If you find one false, say at which input.
  Laid BY PROGRAM, IN A SANDBOX (cutbox-rows.mjs): the forced cells as the released guide's own fill.sh prints them over the translation 820f56b49c8d98f9… (all of the seat's roots in one cut). By AI agents, Wed Nov 11 2026. No macro, syntax, notation, axiom, sorry.
-/
import Derived.Test.YtgfbieplidpebaaGreatDoorChecked
import GoSem.PinnedTables
import GoSem.Claim
import GoSem.ClaimJoined
import GoSem.ClaimMapViews
import Derived.JoinedTies
import Derived.KernelRfl
namespace Go.Proofs.YtgfbieplidpebaaGreatDoor
/- THE CELL 'sum', in the pinned program and in every row, IS THE sha256 OF THE DUMP (.gsa) THAT YtgfbieplidpebaaGreatDoorProg.lean LOADS. Nothing in Lean hashes anything: it is a label: what it is worth is what the hold of that sum in a sandbox is worth. -/
noncomputable def Tryz.pinned : Pinned := { name := "ytgfbieplidpebaagreatdoor", sum := "820f56b49c8d98f973c24c4ad799e55fc59c580e7b8dd0abcc698c69c154079b", checked := Tryz.checked }
namespace Rows
def none {H : Type} : Left H := { results := [], args := [] }

/- WHAT THE LISTED PACKAGE-LEVEL VARIABLES READ AS WHEN THE CALL BEGINS. Each datum BY PROGRAM (the guide's laid-datum.mjs) off the statement by which the dump's own 'gosem.cut.vars' lays the variable. In a bare row this is a premise. The card (YtgfbieplidpebaaGreatDoorCards.lean) ties it to the program's text. -/
def laid_unicode_utf8_acceptRanges {H : Type} : DataW H := .agg [.agg [.lit (.int .u8 128), .lit (.int .u8 191)], .agg [.lit (.int .u8 160), .lit (.int .u8 191)], .agg [.lit (.int .u8 128), .lit (.int .u8 159)], .agg [.lit (.int .u8 144), .lit (.int .u8 191)], .agg [.lit (.int .u8 128), .lit (.int .u8 143)], .agg [.lit (.int .u8 0), .lit (.int .u8 0)], .agg [.lit (.int .u8 0), .lit (.int .u8 0)], .agg [.lit (.int .u8 0), .lit (.int .u8 0)], .agg [.lit (.int .u8 0), .lit (.int .u8 0)], .agg [.lit (.int .u8 0), .lit (.int .u8 0)], .agg [.lit (.int .u8 0), .lit (.int .u8 0)], .agg [.lit (.int .u8 0), .lit (.int .u8 0)], .agg [.lit (.int .u8 0), .lit (.int .u8 0)], .agg [.lit (.int .u8 0), .lit (.int .u8 0)], .agg [.lit (.int .u8 0), .lit (.int .u8 0)], .agg [.lit (.int .u8 0), .lit (.int .u8 0)]]
def laid_matricula_xml_marks {H : Type} : DataW H := .agg [.agg [.lit (.string [38]), .lit (.string [38, 97, 109, 112, 59])], .agg [.lit (.string [60]), .lit (.string [38, 108, 116, 59])], .agg [.lit (.string [62]), .lit (.string [38, 103, 116, 59])], .agg [.lit (.string [34]), .lit (.string [38, 113, 117, 111, 116, 59])], .agg [.lit (.string [39]), .lit (.string [38, 35, 51, 57, 59])]]
/-- One of Go's own tables, pinned by name: the form's constant. -/
def laid_unicode_utf8_first : DataW Unit := Go.Pinned.utf8First

/-- 'matriculalaw24.RenderTells': WHATEVER THE INPUT: true; the input reads as it did. -/
def renderTellsSpec : ChangeSpec := { name := "renderTells", fn := fun _ => fun
  | [d1, d2, d3, d4] => { results := [.lit (.bool true)], args := [d1, d2, d3, d4] }
  | _ => none }
def renderTellsRow : OpenClaim := { program := "ytgfbieplidpebaagreatdoor", sum := "820f56b49c8d98f973c24c4ad799e55fc59c580e7b8dd0abcc698c69c154079b", func := "matricula/matriculalaw24.RenderTells", spec := "renderTells", inPlace := ["internal/abi.NoEscape", "internal/bytealg.CountString", "internal/bytealg.IndexByteString", "internal/bytealg.IndexString", "internal/bytealg.MakeNoZero"], unfollowed := true, recurses := true, named := ["matricula/xml.marks", "internal/bytealg.MaxLen", "unicode/utf8.first", "unicode/utf8.acceptRanges"], apart := false, laid := [("unicode/utf8.acceptRanges", laid_unicode_utf8_acceptRanges), ("matricula/xml.marks", laid_matricula_xml_marks), ("unicode/utf8.first", laid_unicode_utf8_first)] }
def RenderTellsSaid : Prop := renderTellsRow.holds Tryz.pinned (OpenSpec.ofChange renderTellsSpec)

/-- ITS FALSE NEIGHBOUR: 'it returns false'. Refute it at one input. -/
def renderTellsWrong : ChangeSpec := { name := "renderTells", fn := fun _ => fun
  | [d1, d2, d3, d4] => { results := [.lit (.bool false)], args := [d1, d2, d3, d4] }
  | _ => none }
def RenderTellsWrongFalsely : Prop := renderTellsRow.holds Tryz.pinned (OpenSpec.ofChange renderTellsWrong)

/-- 'matriculalaw24.RenderShows': WHATEVER THE INPUT: true; the input reads as it did. -/
def renderShowsSpec : ChangeSpec := { name := "renderShows", fn := fun _ => fun
  | [d1, d2, d3, d4] => { results := [.lit (.bool true)], args := [d1, d2, d3, d4] }
  | _ => none }
def renderShowsRow : OpenClaim := { program := "ytgfbieplidpebaagreatdoor", sum := "820f56b49c8d98f973c24c4ad799e55fc59c580e7b8dd0abcc698c69c154079b", func := "matricula/matriculalaw24.RenderShows", spec := "renderShows", inPlace := ["internal/abi.NoEscape", "internal/bytealg.CountString", "internal/bytealg.IndexByteString", "internal/bytealg.IndexString", "internal/bytealg.MakeNoZero"], unfollowed := true, recurses := true, named := ["matricula/xml.marks", "internal/bytealg.MaxLen", "unicode/utf8.first", "unicode/utf8.acceptRanges"], apart := false, laid := [("unicode/utf8.acceptRanges", laid_unicode_utf8_acceptRanges), ("matricula/xml.marks", laid_matricula_xml_marks), ("unicode/utf8.first", laid_unicode_utf8_first)] }
def RenderShowsSaid : Prop := renderShowsRow.holds Tryz.pinned (OpenSpec.ofChange renderShowsSpec)

/-- ITS FALSE NEIGHBOUR: 'it returns false'. Refute it at one input. -/
def renderShowsWrong : ChangeSpec := { name := "renderShows", fn := fun _ => fun
  | [d1, d2, d3, d4] => { results := [.lit (.bool false)], args := [d1, d2, d3, d4] }
  | _ => none }
def RenderShowsWrongFalsely : Prop := renderShowsRow.holds Tryz.pinned (OpenSpec.ofChange renderShowsWrong)

/-- 'matriculalaw24.RenderReads': WHATEVER THE INPUT: true; the input reads as it did. -/
def renderReadsSpec : ChangeSpec := { name := "renderReads", fn := fun _ => fun
  | [d] => { results := [.lit (.bool true)], args := [d] }
  | _ => none }
def renderReadsRow : OpenClaim := { program := "ytgfbieplidpebaagreatdoor", sum := "820f56b49c8d98f973c24c4ad799e55fc59c580e7b8dd0abcc698c69c154079b", func := "matricula/matriculalaw24.RenderReads", spec := "renderReads", inPlace := ["internal/abi.NoEscape", "internal/bytealg.CountString", "internal/bytealg.IndexByteString", "internal/bytealg.IndexString", "internal/bytealg.MakeNoZero"], unfollowed := true, recurses := true, named := ["matricula/xml.marks", "internal/bytealg.MaxLen", "unicode/utf8.first", "unicode/utf8.acceptRanges"], apart := false, laid := [("unicode/utf8.acceptRanges", laid_unicode_utf8_acceptRanges), ("matricula/xml.marks", laid_matricula_xml_marks), ("unicode/utf8.first", laid_unicode_utf8_first)] }
def RenderReadsSaid : Prop := renderReadsRow.holds Tryz.pinned (OpenSpec.ofChange renderReadsSpec)

/-- ITS FALSE NEIGHBOUR: 'it returns false'. Refute it at one input. -/
def renderReadsWrong : ChangeSpec := { name := "renderReads", fn := fun _ => fun
  | [d] => { results := [.lit (.bool false)], args := [d] }
  | _ => none }
def RenderReadsWrongFalsely : Prop := renderReadsRow.holds Tryz.pinned (OpenSpec.ofChange renderReadsWrong)

/- THE SECOND FORM. 'bulk': how many values and letters a reading holds, each counted each time it is reached (what is shared counts as often as it is met; a slice's spare places count too). A statement '..UptoSaid' is the law's where the arguments, and the package variables that the reading takes, are together of bulk at most 1048576: NARROWER than '..Said'. Prove '..Said' where nothing that the law and all that it calls make is longer than what came in: it says more and counts as full. Else prove '..UptoSaid'. A law counts once. -/
mutual
def uptoBulk {H : Type} : DataW H → Nat
  | .lit (.string bytes) => bytes.length + 1
  | .lit _ => 1
  | .nil => 1
  | .ptr d => uptoBulk d + 1
  | .slice elems spare => uptoBulkAll elems + uptoBulkAll spare + 1
  | .agg parts => uptoBulkAll parts + 1
  | .iface _ d => uptoBulk d + 1
  | .map entries => uptoBulkEntries entries + 1
  | .held _ => 1
def uptoBulkAll {H : Type} : List (DataW H) → Nat
  | [] => 0
  | d :: r => uptoBulk d + uptoBulkAll r
def uptoBulkEntries {H : Type} : List (Lit × DataW H) → Nat
  | [] => 0
  | x :: r => uptoBulkEntry x + uptoBulkEntries r
def uptoBulkEntry {H : Type} : Lit × DataW H → Nat
  | (.string bytes, d) => bytes.length + uptoBulk d + 1
  | (_, d) => uptoBulk d + 1
 end
def uptoSmall : (H : Type) → List (DataW H) → Bool := fun _ ds => decide (uptoBulkAll ds ≤ 1048576)
def OpenSpec.upto (s : _root_.Go.ChangeSpec) : _root_.Go.OpenSpec := { _root_.Go.OpenSpec.ofChange s with cond := some uptoSmall }

/-- 'matriculalaw24.RenderTells', WHERE WHAT IT READS IS OF BULK AT MOST 1048576: true; the input reads as it did. -/
def renderTellsUptoRow : OpenClaim := { program := "ytgfbieplidpebaagreatdoor", sum := "820f56b49c8d98f973c24c4ad799e55fc59c580e7b8dd0abcc698c69c154079b", func := "matricula/matriculalaw24.RenderTells", spec := "renderTells", inPlace := ["internal/abi.NoEscape", "internal/bytealg.CountString", "internal/bytealg.IndexByteString", "internal/bytealg.IndexString", "internal/bytealg.MakeNoZero"], unfollowed := true, recurses := true, named := ["matricula/xml.marks", "internal/bytealg.MaxLen", "unicode/utf8.first", "unicode/utf8.acceptRanges"], apart := false, laid := [("unicode/utf8.acceptRanges", laid_unicode_utf8_acceptRanges), ("matricula/xml.marks", laid_matricula_xml_marks), ("unicode/utf8.first", laid_unicode_utf8_first)], narrowed := true }
def RenderTellsUptoSaid : Prop := renderTellsUptoRow.holds Tryz.pinned (OpenSpec.upto renderTellsSpec)

/-- 'matriculalaw24.RenderShows', WHERE WHAT IT READS IS OF BULK AT MOST 1048576: true; the input reads as it did. -/
def renderShowsUptoRow : OpenClaim := { program := "ytgfbieplidpebaagreatdoor", sum := "820f56b49c8d98f973c24c4ad799e55fc59c580e7b8dd0abcc698c69c154079b", func := "matricula/matriculalaw24.RenderShows", spec := "renderShows", inPlace := ["internal/abi.NoEscape", "internal/bytealg.CountString", "internal/bytealg.IndexByteString", "internal/bytealg.IndexString", "internal/bytealg.MakeNoZero"], unfollowed := true, recurses := true, named := ["matricula/xml.marks", "internal/bytealg.MaxLen", "unicode/utf8.first", "unicode/utf8.acceptRanges"], apart := false, laid := [("unicode/utf8.acceptRanges", laid_unicode_utf8_acceptRanges), ("matricula/xml.marks", laid_matricula_xml_marks), ("unicode/utf8.first", laid_unicode_utf8_first)], narrowed := true }
def RenderShowsUptoSaid : Prop := renderShowsUptoRow.holds Tryz.pinned (OpenSpec.upto renderShowsSpec)

/-- 'matriculalaw24.RenderReads', WHERE WHAT IT READS IS OF BULK AT MOST 1048576: true; the input reads as it did. -/
def renderReadsUptoRow : OpenClaim := { program := "ytgfbieplidpebaagreatdoor", sum := "820f56b49c8d98f973c24c4ad799e55fc59c580e7b8dd0abcc698c69c154079b", func := "matricula/matriculalaw24.RenderReads", spec := "renderReads", inPlace := ["internal/abi.NoEscape", "internal/bytealg.CountString", "internal/bytealg.IndexByteString", "internal/bytealg.IndexString", "internal/bytealg.MakeNoZero"], unfollowed := true, recurses := true, named := ["matricula/xml.marks", "internal/bytealg.MaxLen", "unicode/utf8.first", "unicode/utf8.acceptRanges"], apart := false, laid := [("unicode/utf8.acceptRanges", laid_unicode_utf8_acceptRanges), ("matricula/xml.marks", laid_matricula_xml_marks), ("unicode/utf8.first", laid_unicode_utf8_first)], narrowed := true }
def RenderReadsUptoSaid : Prop := renderReadsUptoRow.holds Tryz.pinned (OpenSpec.upto renderReadsSpec)

end Rows
end Go.Proofs.YtgfbieplidpebaaGreatDoor
