/-
  NARROWER THAN 'FOR EVERY INPUT', by the rows' own cells (each row's printed sentence says how): PctTells: laid · PctBack: laid · PctNormal: laid · PctJoins: laid · PctReads: laid · PctForms: laid.
  DERIVED. THE GIVEN ROWS OF THIS SEAT. 6 by the template 'for every input the law returns true; each argument reads behind the call as it read before'; 0 by the template 'total and deterministic' (their statements: YtopgbidgdfmddaaDoorTotals.lean).
  GIVEN WITH THE SEED: the statements are not yours to turn. If you find one false, say at which input.
  Laid BY PROGRAM, IN A SANDBOX (cutbox-rows.mjs): the forced cells as the released guide's own fill.sh prints them over the translation 29c4049b119f9c37… (all of the seat's roots in one cut). By AI agents, Wed Nov 11 2026. No macro, syntax, notation, axiom, sorry.
-/
import Derived.Test.YtopgbidgdfmddaaDoorChecked
import GoSem.PinnedTables
import GoSem.Claim
import GoSem.ClaimJoined
import GoSem.ClaimMapViews
import Derived.JoinedTies
import Derived.KernelRfl
namespace Go.Proofs.YtopgbidgdfmddaaDoor
/- THE CELL 'sum', in the pinned program and in every row, IS THE sha256 OF THE DUMP (.gsa) THAT YtopgbidgdfmddaaDoorProg.lean LOADS. Nothing in Lean hashes anything: it is a label: what it is worth is what the hold of that sum in a sandbox is worth. -/
noncomputable def Tryd.pinned : Pinned := { name := "ytopgbidgdfmddaadoor", sum := "29c4049b119f9c379776050cc5e753791e05427f381dc879ca72740fbb38e543", checked := Tryd.checked }
namespace Rows
def none {H : Type} : Left H := { results := [], args := [] }

/- WHAT THE LISTED PACKAGE-LEVEL VARIABLES READ AS WHEN THE CALL BEGINS. Each datum BY PROGRAM (the guide's laid-datum.mjs) off the statement by which the dump's own 'gosem.cut.vars' lays the variable. In a bare row this is a premise. The card (YtopgbidgdfmddaaDoorCards.lean) ties it to the program's text. -/
def laid_unicode_utf8_acceptRanges {H : Type} : DataW H := .agg [.agg [.lit (.int .u8 128), .lit (.int .u8 191)], .agg [.lit (.int .u8 160), .lit (.int .u8 191)], .agg [.lit (.int .u8 128), .lit (.int .u8 159)], .agg [.lit (.int .u8 144), .lit (.int .u8 191)], .agg [.lit (.int .u8 128), .lit (.int .u8 143)], .agg [.lit (.int .u8 0), .lit (.int .u8 0)], .agg [.lit (.int .u8 0), .lit (.int .u8 0)], .agg [.lit (.int .u8 0), .lit (.int .u8 0)], .agg [.lit (.int .u8 0), .lit (.int .u8 0)], .agg [.lit (.int .u8 0), .lit (.int .u8 0)], .agg [.lit (.int .u8 0), .lit (.int .u8 0)], .agg [.lit (.int .u8 0), .lit (.int .u8 0)], .agg [.lit (.int .u8 0), .lit (.int .u8 0)], .agg [.lit (.int .u8 0), .lit (.int .u8 0)], .agg [.lit (.int .u8 0), .lit (.int .u8 0)], .agg [.lit (.int .u8 0), .lit (.int .u8 0)]]
def laid_matricula_pct_digits {H : Type} : DataW H := .agg [.lit (.int .u8 48), .lit (.int .u8 49), .lit (.int .u8 50), .lit (.int .u8 51), .lit (.int .u8 52), .lit (.int .u8 53), .lit (.int .u8 54), .lit (.int .u8 55), .lit (.int .u8 56), .lit (.int .u8 57), .lit (.int .u8 65), .lit (.int .u8 66), .lit (.int .u8 67), .lit (.int .u8 68), .lit (.int .u8 69), .lit (.int .u8 70)]
/-- One of Go's own tables, pinned by name: the form's constant. -/
def laid_unicode_utf8_first : DataW Unit := Go.Pinned.utf8First

/-- 'matriculalaw01.PctTells': WHATEVER THE INPUT: true; the input reads as it did. -/
def pctTellsSpec : ChangeSpec := { name := "pctTells", fn := fun _ => fun
  | [d1, d2] => { results := [.lit (.bool true)], args := [d1, d2] }
  | _ => none }
def pctTellsRow : OpenClaim := { program := "ytopgbidgdfmddaadoor", sum := "29c4049b119f9c379776050cc5e753791e05427f381dc879ca72740fbb38e543", func := "matricula/matriculalaw01.PctTells", spec := "pctTells", inPlace := ["internal/abi.NoEscape", "internal/bytealg.CountString", "internal/bytealg.IndexByteString", "internal/bytealg.IndexString"], unfollowed := true, recurses := true, named := ["matricula/pct.digits", "unicode/utf8.first", "unicode/utf8.acceptRanges", "internal/bytealg.MaxLen"], apart := false, laid := [("unicode/utf8.acceptRanges", laid_unicode_utf8_acceptRanges), ("matricula/pct.digits", laid_matricula_pct_digits), ("unicode/utf8.first", laid_unicode_utf8_first)] }
def PctTellsSaid : Prop := pctTellsRow.holds Tryd.pinned (OpenSpec.ofChange pctTellsSpec)

/-- ITS FALSE NEIGHBOUR: 'it returns false'. Refute it at one input. -/
def pctTellsWrong : ChangeSpec := { name := "pctTells", fn := fun _ => fun
  | [d1, d2] => { results := [.lit (.bool false)], args := [d1, d2] }
  | _ => none }
def PctTellsWrongFalsely : Prop := pctTellsRow.holds Tryd.pinned (OpenSpec.ofChange pctTellsWrong)

/-- 'matriculalaw01.PctBack': WHATEVER THE INPUT: true; the input reads as it did. -/
def pctBackSpec : ChangeSpec := { name := "pctBack", fn := fun _ => fun
  | [d1, d2] => { results := [.lit (.bool true)], args := [d1, d2] }
  | _ => none }
def pctBackRow : OpenClaim := { program := "ytopgbidgdfmddaadoor", sum := "29c4049b119f9c379776050cc5e753791e05427f381dc879ca72740fbb38e543", func := "matricula/matriculalaw01.PctBack", spec := "pctBack", inPlace := ["internal/abi.NoEscape", "internal/bytealg.CountString", "internal/bytealg.IndexByteString", "internal/bytealg.IndexString"], unfollowed := true, recurses := true, named := ["matricula/pct.digits", "unicode/utf8.first", "unicode/utf8.acceptRanges", "internal/bytealg.MaxLen"], apart := false, laid := [("unicode/utf8.acceptRanges", laid_unicode_utf8_acceptRanges), ("matricula/pct.digits", laid_matricula_pct_digits), ("unicode/utf8.first", laid_unicode_utf8_first)] }
def PctBackSaid : Prop := pctBackRow.holds Tryd.pinned (OpenSpec.ofChange pctBackSpec)

/-- ITS FALSE NEIGHBOUR: 'it returns false'. Refute it at one input. -/
def pctBackWrong : ChangeSpec := { name := "pctBack", fn := fun _ => fun
  | [d1, d2] => { results := [.lit (.bool false)], args := [d1, d2] }
  | _ => none }
def PctBackWrongFalsely : Prop := pctBackRow.holds Tryd.pinned (OpenSpec.ofChange pctBackWrong)

/-- 'matriculalaw01.PctNormal': WHATEVER THE INPUT: true; the input reads as it did. -/
def pctNormalSpec : ChangeSpec := { name := "pctNormal", fn := fun _ => fun
  | [d1, d2] => { results := [.lit (.bool true)], args := [d1, d2] }
  | _ => none }
def pctNormalRow : OpenClaim := { program := "ytopgbidgdfmddaadoor", sum := "29c4049b119f9c379776050cc5e753791e05427f381dc879ca72740fbb38e543", func := "matricula/matriculalaw01.PctNormal", spec := "pctNormal", inPlace := ["internal/abi.NoEscape", "internal/bytealg.CountString", "internal/bytealg.IndexByteString", "internal/bytealg.IndexString"], unfollowed := true, recurses := true, named := ["matricula/pct.digits", "unicode/utf8.first", "unicode/utf8.acceptRanges", "internal/bytealg.MaxLen"], apart := false, laid := [("unicode/utf8.acceptRanges", laid_unicode_utf8_acceptRanges), ("matricula/pct.digits", laid_matricula_pct_digits), ("unicode/utf8.first", laid_unicode_utf8_first)] }
def PctNormalSaid : Prop := pctNormalRow.holds Tryd.pinned (OpenSpec.ofChange pctNormalSpec)

/-- ITS FALSE NEIGHBOUR: 'it returns false'. Refute it at one input. -/
def pctNormalWrong : ChangeSpec := { name := "pctNormal", fn := fun _ => fun
  | [d1, d2] => { results := [.lit (.bool false)], args := [d1, d2] }
  | _ => none }
def PctNormalWrongFalsely : Prop := pctNormalRow.holds Tryd.pinned (OpenSpec.ofChange pctNormalWrong)

/-- 'matriculalaw01.PctJoins': WHATEVER THE INPUT: true; the input reads as it did. -/
def pctJoinsSpec : ChangeSpec := { name := "pctJoins", fn := fun _ => fun
  | [d1, d2, d3] => { results := [.lit (.bool true)], args := [d1, d2, d3] }
  | _ => none }
def pctJoinsRow : OpenClaim := { program := "ytopgbidgdfmddaadoor", sum := "29c4049b119f9c379776050cc5e753791e05427f381dc879ca72740fbb38e543", func := "matricula/matriculalaw01.PctJoins", spec := "pctJoins", inPlace := ["internal/abi.NoEscape", "internal/bytealg.CountString", "internal/bytealg.IndexByteString", "internal/bytealg.IndexString"], unfollowed := true, recurses := true, named := ["matricula/pct.digits", "unicode/utf8.first", "unicode/utf8.acceptRanges", "internal/bytealg.MaxLen"], apart := false, laid := [("unicode/utf8.acceptRanges", laid_unicode_utf8_acceptRanges), ("matricula/pct.digits", laid_matricula_pct_digits), ("unicode/utf8.first", laid_unicode_utf8_first)] }
def PctJoinsSaid : Prop := pctJoinsRow.holds Tryd.pinned (OpenSpec.ofChange pctJoinsSpec)

/-- ITS FALSE NEIGHBOUR: 'it returns false'. Refute it at one input. -/
def pctJoinsWrong : ChangeSpec := { name := "pctJoins", fn := fun _ => fun
  | [d1, d2, d3] => { results := [.lit (.bool false)], args := [d1, d2, d3] }
  | _ => none }
def PctJoinsWrongFalsely : Prop := pctJoinsRow.holds Tryd.pinned (OpenSpec.ofChange pctJoinsWrong)

/-- 'matriculalaw01.PctReads': WHATEVER THE INPUT: true; the input reads as it did. -/
def pctReadsSpec : ChangeSpec := { name := "pctReads", fn := fun _ => fun
  | [d] => { results := [.lit (.bool true)], args := [d] }
  | _ => none }
def pctReadsRow : OpenClaim := { program := "ytopgbidgdfmddaadoor", sum := "29c4049b119f9c379776050cc5e753791e05427f381dc879ca72740fbb38e543", func := "matricula/matriculalaw01.PctReads", spec := "pctReads", inPlace := ["internal/abi.NoEscape", "internal/bytealg.CountString", "internal/bytealg.IndexByteString", "internal/bytealg.IndexString", "internal/bytealg.MakeNoZero"], unfollowed := true, recurses := true, named := ["matricula/pct.digits", "unicode/utf8.first", "unicode/utf8.acceptRanges", "internal/bytealg.MaxLen"], apart := false, laid := [("unicode/utf8.acceptRanges", laid_unicode_utf8_acceptRanges), ("matricula/pct.digits", laid_matricula_pct_digits), ("unicode/utf8.first", laid_unicode_utf8_first)] }
def PctReadsSaid : Prop := pctReadsRow.holds Tryd.pinned (OpenSpec.ofChange pctReadsSpec)

/-- ITS FALSE NEIGHBOUR: 'it returns false'. Refute it at one input. -/
def pctReadsWrong : ChangeSpec := { name := "pctReads", fn := fun _ => fun
  | [d] => { results := [.lit (.bool false)], args := [d] }
  | _ => none }
def PctReadsWrongFalsely : Prop := pctReadsRow.holds Tryd.pinned (OpenSpec.ofChange pctReadsWrong)

/-- 'matriculalaw01.PctForms': WHATEVER THE INPUT: true; the input reads as it did. -/
def pctFormsSpec : ChangeSpec := { name := "pctForms", fn := fun _ => fun
  | [d1, d2, d3] => { results := [.lit (.bool true)], args := [d1, d2, d3] }
  | _ => none }
def pctFormsRow : OpenClaim := { program := "ytopgbidgdfmddaadoor", sum := "29c4049b119f9c379776050cc5e753791e05427f381dc879ca72740fbb38e543", func := "matricula/matriculalaw01.PctForms", spec := "pctForms", inPlace := ["internal/abi.NoEscape", "internal/bytealg.CountString", "internal/bytealg.IndexByteString", "internal/bytealg.IndexString", "internal/bytealg.MakeNoZero"], unfollowed := true, recurses := true, named := ["matricula/pct.digits", "unicode/utf8.first", "unicode/utf8.acceptRanges", "internal/bytealg.MaxLen"], apart := false, laid := [("unicode/utf8.acceptRanges", laid_unicode_utf8_acceptRanges), ("matricula/pct.digits", laid_matricula_pct_digits), ("unicode/utf8.first", laid_unicode_utf8_first)] }
def PctFormsSaid : Prop := pctFormsRow.holds Tryd.pinned (OpenSpec.ofChange pctFormsSpec)

/-- ITS FALSE NEIGHBOUR: 'it returns false'. Refute it at one input. -/
def pctFormsWrong : ChangeSpec := { name := "pctForms", fn := fun _ => fun
  | [d1, d2, d3] => { results := [.lit (.bool false)], args := [d1, d2, d3] }
  | _ => none }
def PctFormsWrongFalsely : Prop := pctFormsRow.holds Tryd.pinned (OpenSpec.ofChange pctFormsWrong)

/- THE SECOND FORM. 'bulk': how many values and letters a reading holds, each counted each time it is reached (what is shared counts as often as it is met; a slice's spare places count too). A statement '..UptoSaid' is the law's where the arguments, and the package variables that the reading takes, are together of bulk at most 1048576: NARROWER than '..Said'. Prove '..Said' where nothing that the law and all that it calls make is longer than what came in: it says more and counts as full. Else prove '..UptoSaid'. A law counts once. -/
mutual
def uptoBulk {H : Type} : DataW H → Nat
  | .lit (.string bytes) => bytes.length + 1
  | .lit _ => 1
  | .nil => 1
  | .ptr d => uptoBulk d + 1
  | .slice elems spare => uptoBulkAll elems + uptoBulkAll spare + 1
  | .agg parts => uptoBulkAll parts + 1
  | .iface _ d => uptoBulk d + 1
  | .map entries => uptoBulkEntries entries + 1
  | .held _ => 1
def uptoBulkAll {H : Type} : List (DataW H) → Nat
  | [] => 0
  | d :: r => uptoBulk d + uptoBulkAll r
def uptoBulkEntries {H : Type} : List (Lit × DataW H) → Nat
  | [] => 0
  | x :: r => uptoBulkEntry x + uptoBulkEntries r
def uptoBulkEntry {H : Type} : Lit × DataW H → Nat
  | (.string bytes, d) => bytes.length + uptoBulk d + 1
  | (_, d) => uptoBulk d + 1
 end
def uptoSmall : (H : Type) → List (DataW H) → Bool := fun _ ds => decide (uptoBulkAll ds ≤ 1048576)
def OpenSpec.upto (s : _root_.Go.ChangeSpec) : _root_.Go.OpenSpec := { _root_.Go.OpenSpec.ofChange s with cond := some uptoSmall }

/-- 'matriculalaw01.PctTells', WHERE WHAT IT READS IS OF BULK AT MOST 1048576: true; the input reads as it did. -/
def pctTellsUptoRow : OpenClaim := { program := "ytopgbidgdfmddaadoor", sum := "29c4049b119f9c379776050cc5e753791e05427f381dc879ca72740fbb38e543", func := "matricula/matriculalaw01.PctTells", spec := "pctTells", inPlace := ["internal/abi.NoEscape", "internal/bytealg.CountString", "internal/bytealg.IndexByteString", "internal/bytealg.IndexString"], unfollowed := true, recurses := true, named := ["matricula/pct.digits", "unicode/utf8.first", "unicode/utf8.acceptRanges", "internal/bytealg.MaxLen"], apart := false, laid := [("unicode/utf8.acceptRanges", laid_unicode_utf8_acceptRanges), ("matricula/pct.digits", laid_matricula_pct_digits), ("unicode/utf8.first", laid_unicode_utf8_first)], narrowed := true }
def PctTellsUptoSaid : Prop := pctTellsUptoRow.holds Tryd.pinned (OpenSpec.upto pctTellsSpec)

/-- 'matriculalaw01.PctBack', WHERE WHAT IT READS IS OF BULK AT MOST 1048576: true; the input reads as it did. -/
def pctBackUptoRow : OpenClaim := { program := "ytopgbidgdfmddaadoor", sum := "29c4049b119f9c379776050cc5e753791e05427f381dc879ca72740fbb38e543", func := "matricula/matriculalaw01.PctBack", spec := "pctBack", inPlace := ["internal/abi.NoEscape", "internal/bytealg.CountString", "internal/bytealg.IndexByteString", "internal/bytealg.IndexString"], unfollowed := true, recurses := true, named := ["matricula/pct.digits", "unicode/utf8.first", "unicode/utf8.acceptRanges", "internal/bytealg.MaxLen"], apart := false, laid := [("unicode/utf8.acceptRanges", laid_unicode_utf8_acceptRanges), ("matricula/pct.digits", laid_matricula_pct_digits), ("unicode/utf8.first", laid_unicode_utf8_first)], narrowed := true }
def PctBackUptoSaid : Prop := pctBackUptoRow.holds Tryd.pinned (OpenSpec.upto pctBackSpec)

/-- 'matriculalaw01.PctNormal', WHERE WHAT IT READS IS OF BULK AT MOST 1048576: true; the input reads as it did. -/
def pctNormalUptoRow : OpenClaim := { program := "ytopgbidgdfmddaadoor", sum := "29c4049b119f9c379776050cc5e753791e05427f381dc879ca72740fbb38e543", func := "matricula/matriculalaw01.PctNormal", spec := "pctNormal", inPlace := ["internal/abi.NoEscape", "internal/bytealg.CountString", "internal/bytealg.IndexByteString", "internal/bytealg.IndexString"], unfollowed := true, recurses := true, named := ["matricula/pct.digits", "unicode/utf8.first", "unicode/utf8.acceptRanges", "internal/bytealg.MaxLen"], apart := false, laid := [("unicode/utf8.acceptRanges", laid_unicode_utf8_acceptRanges), ("matricula/pct.digits", laid_matricula_pct_digits), ("unicode/utf8.first", laid_unicode_utf8_first)], narrowed := true }
def PctNormalUptoSaid : Prop := pctNormalUptoRow.holds Tryd.pinned (OpenSpec.upto pctNormalSpec)

/-- 'matriculalaw01.PctJoins', WHERE WHAT IT READS IS OF BULK AT MOST 1048576: true; the input reads as it did. -/
def pctJoinsUptoRow : OpenClaim := { program := "ytopgbidgdfmddaadoor", sum := "29c4049b119f9c379776050cc5e753791e05427f381dc879ca72740fbb38e543", func := "matricula/matriculalaw01.PctJoins", spec := "pctJoins", inPlace := ["internal/abi.NoEscape", "internal/bytealg.CountString", "internal/bytealg.IndexByteString", "internal/bytealg.IndexString"], unfollowed := true, recurses := true, named := ["matricula/pct.digits", "unicode/utf8.first", "unicode/utf8.acceptRanges", "internal/bytealg.MaxLen"], apart := false, laid := [("unicode/utf8.acceptRanges", laid_unicode_utf8_acceptRanges), ("matricula/pct.digits", laid_matricula_pct_digits), ("unicode/utf8.first", laid_unicode_utf8_first)], narrowed := true }
def PctJoinsUptoSaid : Prop := pctJoinsUptoRow.holds Tryd.pinned (OpenSpec.upto pctJoinsSpec)

/-- 'matriculalaw01.PctReads', WHERE WHAT IT READS IS OF BULK AT MOST 1048576: true; the input reads as it did. -/
def pctReadsUptoRow : OpenClaim := { program := "ytopgbidgdfmddaadoor", sum := "29c4049b119f9c379776050cc5e753791e05427f381dc879ca72740fbb38e543", func := "matricula/matriculalaw01.PctReads", spec := "pctReads", inPlace := ["internal/abi.NoEscape", "internal/bytealg.CountString", "internal/bytealg.IndexByteString", "internal/bytealg.IndexString", "internal/bytealg.MakeNoZero"], unfollowed := true, recurses := true, named := ["matricula/pct.digits", "unicode/utf8.first", "unicode/utf8.acceptRanges", "internal/bytealg.MaxLen"], apart := false, laid := [("unicode/utf8.acceptRanges", laid_unicode_utf8_acceptRanges), ("matricula/pct.digits", laid_matricula_pct_digits), ("unicode/utf8.first", laid_unicode_utf8_first)], narrowed := true }
def PctReadsUptoSaid : Prop := pctReadsUptoRow.holds Tryd.pinned (OpenSpec.upto pctReadsSpec)

/-- 'matriculalaw01.PctForms', WHERE WHAT IT READS IS OF BULK AT MOST 1048576: true; the input reads as it did. -/
def pctFormsUptoRow : OpenClaim := { program := "ytopgbidgdfmddaadoor", sum := "29c4049b119f9c379776050cc5e753791e05427f381dc879ca72740fbb38e543", func := "matricula/matriculalaw01.PctForms", spec := "pctForms", inPlace := ["internal/abi.NoEscape", "internal/bytealg.CountString", "internal/bytealg.IndexByteString", "internal/bytealg.IndexString", "internal/bytealg.MakeNoZero"], unfollowed := true, recurses := true, named := ["matricula/pct.digits", "unicode/utf8.first", "unicode/utf8.acceptRanges", "internal/bytealg.MaxLen"], apart := false, laid := [("unicode/utf8.acceptRanges", laid_unicode_utf8_acceptRanges), ("matricula/pct.digits", laid_matricula_pct_digits), ("unicode/utf8.first", laid_unicode_utf8_first)], narrowed := true }
def PctFormsUptoSaid : Prop := pctFormsUptoRow.holds Tryd.pinned (OpenSpec.upto pctFormsSpec)

end Rows
end Go.Proofs.YtopgbidgdfmddaaDoor
