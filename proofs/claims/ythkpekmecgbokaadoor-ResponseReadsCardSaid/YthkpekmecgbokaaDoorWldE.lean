/-
  The frames' common part where a row lists the two errors of strconv: what its world holds; a world for the witness.
-/
import Derived.Test.YthkpekmecgbokaaDoorWld
import Derived.Test.YthkpekmecgbokaaDoorStr
import Derived.Stop.LaidErr
import Derived.Deep.DeepWitnessRowRef
namespace Go.Proofs.YthkpekmecgbokaaDoor
open Go.ChangeShapes Go.WideShapes Go.ChangeAt Go.RowKit Go.Eng Go.Pct
set_option maxRecDepth 100000

/-- the two errors' texts -/
def tSyn : List UInt8 := [105, 110, 118, 97, 108, 105, 100, 32, 115, 121, 110, 116, 97, 120]
def tRan : List UInt8 := [118, 97, 108, 117, 101, 32, 111, 117, 116, 32, 111, 102, 32, 114, 97, 110, 103, 101]
structure ListsE (l : List (String × DataW Unit)) : Prop extends Lists l where
  syn : l.filter (fun x => x.1 == "strconv.ErrSyntax") = [("strconv.ErrSyntax", .iface "*errors.errorString" (.ptr (.agg [.lit (.string tSyn)])))]
  ran : l.filter (fun x => x.1 == "strconv.ErrRange") = [("strconv.ErrRange", .iface "*errors.errorString" (.ptr (.agg [.lit (.string tRan)])))]
theorem gSynT : (Tryd.prog.globals[2]?).map (·.type) = some 84 := by kernel_rfl
theorem gRanT : (Tryd.prog.globals[3]?).map (·.type) = some 84 := by kernel_rfl
theorem cellsES : Tryd.prog.cellsOf 142 = 1 := by kernel_rfl
theorem cellsStr : Tryd.prog.cellsOf 9 = 1 := by kernel_rfl
theorem starES : "*" ++ "errors.errorString" = "*errors.errorString" := by decide
theorem rowES (u : TypeId) (h : Tryd.prog.typeName? 3 u = some "*errors.errorString") : u = 140 :=
  typeName_ptr_named (nm := "errors.errorString") (by rw [starES]; kernel_rfl) (by kernel_rfl) (by decide) u (by rw [starES]; exact h)
theorem var_cells {P : Program} {W : World} {n : String} {g : Nat} {v : Value} (hg : P.globalNamed n = some g) (h : W.var? P n = some #[v]) : ∃ T fz, All W g (.cells #[v] T fz) := by
  unfold World.var? at h
  rw [hg, Option.bind_some] at h
  split at h
  · rename_i cs T fz hh
    simp only [Option.some.injEq] at h
    exact ⟨T, fz, by rw [← h]; exact hh⟩
  · cases h
theorem globE_of {W : World} {l : List (String × DataW Unit)} (hl : ListsE l) (h : laidMetH Tryd.prog l W) (hsh : W.ShapedOpen Tryd.prog) : GlobE (All W) := by
  have h1 := h.filter (fun x => x.1 == "strconv.ErrSyntax")
  rw [hl.syn, Go.MakeChecks.laidMetH_plain _ _ _ (by rfl)] at h1
  have h2 := h.filter (fun x => x.1 == "strconv.ErrRange")
  rw [hl.ran, Go.MakeChecks.laidMetH_plain _ _ _ (by rfl)] at h2
  obtain ⟨a1, s1, hv1, -, -, -⟩ := laid_sentinel h1 gSyn gSynT Tryd.underlying84 rowES Tryd.underlying140 Tryd.underlying142 rfl rfl Tryd.underlying9 cellsES cellsStr
  obtain ⟨a2, s2, hv2, -, -, -⟩ := laid_sentinel h2 gRan gRanT Tryd.underlying84 rowES Tryd.underlying140 Tryd.underlying142 rfl rfl Tryd.underlying9 cellsES cellsStr
  obtain ⟨T1, f1, e1⟩ := var_cells gSyn hv1
  obtain ⟨T2, f2, e2⟩ := var_cells gRan hv2
  exact ⟨glob_of hl.toLists h hsh, ⟨T1, f1, _, _, e1⟩, ⟨T2, f2, _, _, e2⟩⟩

/-- A world for the witness: the settled one and the errors' two structs behind it; the tables and the two variables holding what their initialisers lay. -/
noncomputable def laidWorldE (os : Os) (l : List (String × DataW Unit)) : World :=
  let N := (World.settled Tryd.prog os).heap.size
  let w0 := World.holding Tryd.prog os ⟨#[.cells #[.string ⟨tRan.toArray⟩] 142, .cells #[.string ⟨tSyn.toArray⟩] 142], #[], []⟩
  let put (h : Array Obj) (g : Nat) (cs : Array Value) : Array Obj := h.modify g fun
    | .cells _ t frozen => .cells cs t frozen
    | o => o
  let h0 := l.foldl (fun h x => if x.1 == "strconv.ErrSyntax" || x.1 == "strconv.ErrRange" then h else match Tryd.prog.globalNamed x.1 with | some g => h.modify g (layAt x.2) | none => h) w0.heap
  { w0 with heap := put (put h0 3 #[.iface 140 (.pointer (some ⟨N, 0, none⟩))]) 2 #[.iface 140 (.pointer (some ⟨N + 1, 0, none⟩))] }
end Go.Proofs.YthkpekmecgbokaaDoor
