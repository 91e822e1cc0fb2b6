/-
  The given statement CookieSetsCardSaid of layer texts: it holds of the given program, for every input that the row speaks of; no further condition.
-/
import Derived.Stop.LaidErr
import Derived.Deep.DeepWitnessRowRef
import Derived.Test.YtmfelfhingmmbaaGreatDoorJFCSets1
import Derived.Test.YtmfelfhingmmbaaGreatDoorJFCSets2
import Derived.Test.YtmfelfhingmmbaaGreatDoorJFCSets3
/-
  The frames' common part where a row lists the two errors of strconv: what its world holds; a world for the witness.
-/
namespace Go.Proofs.YtmfelfhingmmbaaGreatDoor
open Go.ChangeShapes Go.WideShapes Go.ChangeAt Go.RowKit Go.Eng Go.Pct
set_option maxRecDepth 100000

/-- the two errors' texts -/
def tSyn : List UInt8 := [105, 110, 118, 97, 108, 105, 100, 32, 115, 121, 110, 116, 97, 120]
def tRan : List UInt8 := [118, 97, 108, 117, 101, 32, 111, 117, 116, 32, 111, 102, 32, 114, 97, 110, 103, 101]
structure ListsE (l : List (String × DataW Unit)) : Prop extends Lists l where
  syn : l.filter (fun x => x.1 == "strconv.ErrSyntax") = [("strconv.ErrSyntax", .iface "*errors.errorString" (.ptr (.agg [.lit (.string tSyn)])))]
  ran : l.filter (fun x => x.1 == "strconv.ErrRange") = [("strconv.ErrRange", .iface "*errors.errorString" (.ptr (.agg [.lit (.string tRan)])))]
theorem gSynT : (Tryz.prog.globals[1]?).map (·.type) = some 49 := by kernel_rfl
theorem gRanT : (Tryz.prog.globals[2]?).map (·.type) = some 49 := by kernel_rfl
theorem cellsES : Tryz.prog.cellsOf 123 = 1 := by kernel_rfl
theorem cellsStr : Tryz.prog.cellsOf 9 = 1 := by kernel_rfl
theorem starES : "*" ++ "errors.errorString" = "*errors.errorString" := by decide
theorem rowES (u : TypeId) (h : Tryz.prog.typeName? 3 u = some "*errors.errorString") : u = 121 :=
  typeName_ptr_named (nm := "errors.errorString") (by rw [starES]; kernel_rfl) (by kernel_rfl) (by decide) u (by rw [starES]; exact h)
theorem var_cells {P : Program} {W : World} {n : String} {g : Nat} {v : Value} (hg : P.globalNamed n = some g) (h : W.var? P n = some #[v]) : ∃ T fz, All W g (.cells #[v] T fz) := by
  unfold World.var? at h
  rw [hg, Option.bind_some] at h
  split at h
  · rename_i cs T fz hh
    simp only [Option.some.injEq] at h
    exact ⟨T, fz, by rw [← h]; exact hh⟩
  · cases h
theorem globE_of {W : World} {l : List (String × DataW Unit)} (hl : ListsE l) (h : laidMetH Tryz.prog l W) (hsh : W.ShapedOpen Tryz.prog) : GlobE (All W) := by
  have h1 := h.filter (fun x => x.1 == "strconv.ErrSyntax")
  rw [hl.syn, Go.MakeChecks.laidMetH_plain _ _ _ (by rfl)] at h1
  have h2 := h.filter (fun x => x.1 == "strconv.ErrRange")
  rw [hl.ran, Go.MakeChecks.laidMetH_plain _ _ _ (by rfl)] at h2
  obtain ⟨a1, s1, hv1, -, -, -⟩ := laid_sentinel h1 gSyn gSynT Tryz.underlying49 rowES Tryz.underlying121 Tryz.underlying123 rfl rfl Tryz.underlying9 cellsES cellsStr
  obtain ⟨a2, s2, hv2, -, -, -⟩ := laid_sentinel h2 gRan gRanT Tryz.underlying49 rowES Tryz.underlying121 Tryz.underlying123 rfl rfl Tryz.underlying9 cellsES cellsStr
  obtain ⟨T1, f1, e1⟩ := var_cells gSyn hv1
  obtain ⟨T2, f2, e2⟩ := var_cells gRan hv2
  exact ⟨glob_of hl.toLists h hsh, ⟨T1, f1, _, _, e1⟩, ⟨T2, f2, _, _, e2⟩⟩

/-- A world for the witness: the settled one and the errors' two structs behind it; the tables and the two variables holding what their initialisers lay. -/
noncomputable def laidWorldE (os : Os) (l : List (String × DataW Unit)) : World :=
  let N := (World.settled Tryz.prog os).heap.size
  let w0 := World.holding Tryz.prog os ⟨#[.cells #[.string ⟨tRan.toArray⟩] 123, .cells #[.string ⟨tSyn.toArray⟩] 123], #[], []⟩
  let put (h : Array Obj) (g : Nat) (cs : Array Value) : Array Obj := h.modify g fun
    | .cells _ t frozen => .cells cs t frozen
    | o => o
  let h0 := l.foldl (fun h x => if x.1 == "strconv.ErrSyntax" || x.1 == "strconv.ErrRange" then h else match Tryz.prog.globalNamed x.1 with | some g => h.modify g (layAt x.2) | none => h) w0.heap
  { w0 with heap := put (put h0 2 #[.iface 121 (.pointer (some ⟨N, 0, none⟩))]) 1 #[.iface 121 (.pointer (some ⟨N + 1, 0, none⟩))] }
end Go.Proofs.YtmfelfhingmmbaaGreatDoor
/-
  The given statement of CookieSets: from the walk of CookieSets to the card.
-/
namespace Go.Proofs.YtmfelfhingmmbaaGreatDoor
open Go.ChangeShapes Go.WideShapes Go.ChangeAt Go.RowKit Go.Eng Go.Pct
set_option maxRecDepth 100000
set_option linter.unusedSimpArgs false

theorem cookieSets_lists : ListsE Rows.cookieSetsRow.laid := ⟨by constructor <;> kernel_rfl, by kernel_rfl, by kernel_rfl⟩
theorem cookieSets_contract (H : Type) (enc : TypeId × Value → H) (W : World) (base : Nat) (args : Array Value) (ds gs : List (DataW H)) (before : List MemPlace)
    (hval : ∀ (j : Nat) t v, Tryz.f3.params[j]? = some t → args[j]? = some v → Value.okWide Tryz.prog W .any base t v)
    (hW : DataW.Whole enc Tryz.prog Tryz.f3.params.toList Rows.cookieSetsSpec.vars false W args.toList ds gs before)
    (hz : (DataW.weightsEach Tryz.prog (Tryz.f3.params.toList ++ (OpenSpec.ofChange Rows.cookieSetsSpec).bare.plain.varTypes Tryz.prog) (ds ++ gs)).all (· ≤ reachBytes) = true) (hL : laidMetH Tryz.prog Rows.cookieSetsRow.laid W) (hsh : W.ShapedOpen Tryz.prog) :
    Calls Tryz.prog 3 args W fun e W' => ∃ v, e = .returned v ∧ Rows.cookieSetsSpec.post enc Tryz.prog Tryz.f3 false true false false W args v W' := by
  have hW' := hW
  obtain ⟨p, q, hA0, hV, rfl, hfz, hnd⟩ := hW
  have hAk : DataW.TrodAll enc Tryz.prog W 0 (fun _ => true) true Tryz.f3.params.toList args.toList ds p := hA0
  have hA := hAk
  rw [Tryz.params3] at hA hval hz
  obtain ⟨rfl, rfl⟩ := trodVars_none hV
  obtain ⟨v0, vs0, d0, ds0, p0, q0, hargs, rfl, hq0, h0, r0⟩ := trodAll_cons hA
  obtain ⟨v1, vs1, d1, ds1, p1, q1, rfl, rfl, hq1, h1, r1⟩ := trodAll_cons r0
  obtain ⟨rfl, rfl, hqn⟩ := trodAll_nil r1
  obtain rfl : args = #[v0, v1] := by cases args; simp_all
  obtain ⟨c0, rfl, k0⟩ := arg_ck (hval 0 23 v0 rfl rfl) h0 (sizes_of (j := 0) hz rfl rfl)
  obtain ⟨s1, rfl, ks1⟩ := arg_str (hval 1 9 v1 rfl rfl) h1 (sizes_of (j := 1) hz rfl rfl)
  have hE := globE_of (W := W) cookieSets_lists hL hsh
  have walk := cookieSets_ok hE (all_laid W) c0 s1 k0 (Nat.le_trans ks1 (by decide))
  refine walk.mono fun e W' ⟨he, hg⟩ => ?_
  subst he
  have hb := hg.below
  refine ⟨_, rfl, ⟨_, _, _, [], _, [], hW', trodAll_mk1 (shut_bool Tryz.underlying4 _), trodAll_below laidOut hb (by kernel_rfl) hAk (fun x hx => ?_), rfl, hb.frame _, fun h => by cases h⟩⟩
  have := hW'.lt x (by simpa using hx)
  simpa using this

theorem cookieSets_laid (os : Os) : laidMet Tryz.prog Rows.cookieSetsRow.laid ((laidWorldE os Rows.cookieSetsRow.laid).forCall (fun _ _ => 0) ⟨#[], #[.agg #[.string ⟨#[]⟩, .string ⟨#[]⟩, .string ⟨#[]⟩, .int .i64 0, .bool false, .bool false], .string ⟨#[]⟩], []⟩).memory :=
  laidMet_of_run' 8 (by kernel_rfl) (by kernel_rfl)
theorem cookieSets_reads (os : Os) {H : Type} (enc : TypeId × Value → H) : ∃ places, DataW.whole enc Tryz.prog ((laidWorldE os Rows.cookieSetsRow.laid).forCall (fun _ _ => 0) ⟨#[], #[.agg #[.string ⟨#[]⟩, .string ⟨#[]⟩, .string ⟨#[]⟩, .int .i64 0, .bool false, .bool false], .string ⟨#[]⟩], []⟩).memory Tryz.f3.params.toList Rows.cookieSetsSpec.vars false (#[Value.agg #[.string ⟨#[]⟩, .string ⟨#[]⟩, .string ⟨#[]⟩, .int .i64 0, .bool false, .bool false], Value.string ⟨#[]⟩] : Array Value).toList 8 = some ([.agg [.lit (.string []), .lit (.string []), .lit (.string []), .lit (.int .i64 0), .lit (.bool false), .lit (.bool false)], .lit (.string [])], [], places) :=
  ⟨[], by kernel_rfl⟩
theorem cookieSets_lifted (os : Os) (started : os.Started) (H : Type) (enc : TypeId × Value → H) (F : Stop.Interp) :
    ReturnsInHanded {} Tryz.checked os 3 .any ((OpenSpec.ofChange Rows.cookieSetsSpec).preRow enc Tryz.prog Tryz.f3 Rows.cookieSetsRow.domain false Rows.cookieSetsRow.laid) (((OpenSpec.ofChange Rows.cookieSetsSpec).at F).post enc Tryz.prog Tryz.f3 false true false false) := by
  obtain ⟨places, hx⟩ := cookieSets_reads os enc
  refine returnsInHanded_of_row (C := Tryz.checked) (s := OpenSpec.ofChange Rows.cookieSetsSpec) own started (by kernel_rfl) Tryz.func3
    (witness_row_atRef (enc := enc) (C := Tryz.checked) false (laidWorldE os Rows.cookieSetsRow.laid) #[.agg #[.string ⟨#[]⟩, .string ⟨#[]⟩, .string ⟨#[]⟩, .int .i64 0, .bool false, .bool false], .string ⟨#[]⟩] rfl (by kernel_rfl) (by kernel_rfl) (by kernel_rfl)
      (OpenSpec.preRow_of_cond 8 hx (by kernel_rfl) (fun k hk => by cases hk) (by kernel_rfl) (cookieSets_laid os))) ?_
  intro W base args ds gs before hval hW _ _ hz hL hsh _
  exact cookieSets_contract H enc W base args ds gs before hval hW hz hL hsh
theorem cookieSets_said : Rows.CookieSetsSaid :=
  OpenClaim.holds_of_cond 3 Tryz.f3 rfl rfl rfl rfl rfl rfl rfl ⟨rfl, rfl, rfl, rfl, rfl⟩ rfl rfl rfl rfl rfl (by kernel_rfl) Tryz.func3 (by kernel_rfl)
    (of_decide_eq_true (by kernel_rfl)) (by unfold Func.isWrapper; first | (rw [if_pos (by decide +kernel)]; kernel_rfl) | (rw [if_neg (by decide +kernel)]; exact ⟨rfl, rfl⟩))
    (fun os started H enc _ F => by rw [OpenClaim.pre_eq_preRow]; exact cookieSets_lifted os started H enc F)
theorem cookieSets_plain (f : FuncId) (fn : Func) (hf : Tryz.pinned.checked.prog.funcNamed "matricula/matriculalaw04.CookieSets" = some f) (hfn : Tryz.pinned.checked.prog.funcs[f]? = some fn) :
    true = Tryz.pinned.checked.prog.looks [] ∧ ∀ (j : Nat) t, fn.params[j]? = some t → Tryz.pinned.checked.prog.wantsStandIn t = false := by
  obtain rfl : f = 3 := Option.some.inj ((show Tryz.prog.funcNamed "matricula/matriculalaw04.CookieSets" = some 3 by kernel_rfl).symm.trans hf) |>.symm
  obtain rfl : fn = Tryz.f3 := (Option.some.inj (Tryz.func3.symm.trans hfn)).symm
  refine ⟨by kernel_rfl, fun j t ht => ?_⟩
  rw [Tryz.params3] at ht
  exact noStand t _ (by kernel_rfl) j ht
/-- The given statement. -/
theorem cookieSets_card : Rows.CookieSetsCardSaid :=
  Claim7.holds_tied_plain_at .later [] _ _ _ _ cookieSets_said (fun _ h => by cases h) (by kernel_rfl) (fun _ h => by cases h) cookieSets_row_tie rfl ⟨rfl, rfl⟩ (by kernel_rfl) rfl cookieSets_plain (by kernel_rfl)
end Go.Proofs.YtmfelfhingmmbaaGreatDoor
