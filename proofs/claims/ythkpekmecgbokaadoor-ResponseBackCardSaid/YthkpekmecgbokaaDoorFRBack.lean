/-
  The given statement of ResponseBack: from the walk of ResponseBack to the card.
-/
import Derived.Test.YthkpekmecgbokaaDoorWldE
import Derived.Test.YthkpekmecgbokaaDoorRspJ
namespace Go.Proofs.YthkpekmecgbokaaDoor
open Go.ChangeShapes Go.WideShapes Go.ChangeAt Go.RowKit Go.Eng Go.Pct
set_option maxRecDepth 100000

theorem responseBack_lists : ListsE Rows.responseBackRow.laid := ⟨by constructor <;> kernel_rfl, by kernel_rfl, by kernel_rfl⟩
theorem responseBack_contract (H : Type) (enc : TypeId × Value → H) (W : World) (base : Nat) (args : Array Value) (ds gs : List (DataW H)) (before : List MemPlace)
    (hval : ∀ (j : Nat) t v, Tryd.f8.params[j]? = some t → args[j]? = some v → Value.okWide Tryd.prog W .any base t v)
    (hW : DataW.Whole enc Tryd.prog Tryd.f8.params.toList Rows.responseBackSpec.vars false W args.toList ds gs before)
    (hz : (DataW.weightsEach Tryd.prog (Tryd.f8.params.toList ++ (OpenSpec.ofChange Rows.responseBackSpec).bare.plain.varTypes Tryd.prog) (ds ++ gs)).all (· ≤ reachBytes) = true) (hL : laidMetH Tryd.prog Rows.responseBackRow.laid W) (hsh : W.ShapedOpen Tryd.prog) :
    Calls Tryd.prog 8 args W fun e W' => ∃ v, e = .returned v ∧ Rows.responseBackSpec.post enc Tryd.prog Tryd.f8 false true false false W args v W' := by
  have hW' := hW
  obtain ⟨p, q, hA0, hV, rfl, hfz, hnd⟩ := hW
  have hAk : DataW.TrodAll enc Tryd.prog W 0 (fun _ => true) true Tryd.f8.params.toList args.toList ds p := hA0
  have hA := hAk
  rw [Tryd.params8] at hA hval hz
  obtain ⟨rfl, rfl⟩ := trodVars_none hV
  obtain ⟨v0, vs0, d0, ds0, p0, q0, hargs, rfl, hq0, h0, r0⟩ := trodAll_cons hA
  obtain ⟨v1, vs1, d1, ds1, p1, q1, rfl, rfl, hq1, h1, r1⟩ := trodAll_cons r0
  obtain ⟨rfl, rfl, hqn⟩ := trodAll_nil r1
  obtain rfl : args = #[v0, v1] := by cases args; simp_all
  obtain ⟨st0, v0, l0, bd0, rfl, h0, k0, kb0⟩ := arg_rsp (hval 0 24 v0 rfl rfl) h0 (sizes_of (j := 0) hz rfl rfl)
  obtain ⟨s1, rfl, ks1⟩ := arg_str (hval 1 9 v1 rfl rfl) h1 (sizes_of (j := 1) hz rfl rfl)
  have hE := globE_of (W := W) responseBack_lists hL hsh
  have walk := back_ok hE (all_laid W) h0 st0 bd0 s1
  refine walk.mono fun e W' ⟨he, hg⟩ => ?_
  subst he
  have hb := hg.below
  refine ⟨_, rfl, ⟨_, _, _, [], _, [], hW', trodAll_mk1 (shut_bool Tryd.underlying4 _), trodAll_below laidOut hb (by kernel_rfl) hAk (fun x hx => ?_), rfl, hb.frame _, fun h => by cases h⟩⟩
  have := hW'.lt x (by simpa using hx)
  simpa using this

theorem responseBack_laid (os : Os) : laidMet Tryd.prog Rows.responseBackRow.laid ((laidWorldE os Rows.responseBackRow.laid).forCall (fun _ _ => 0) ⟨#[], #[.agg #[.int .i64 0, .slice none 0 0, .string ⟨#[]⟩], .string ⟨#[]⟩], []⟩).memory :=
  laidMet_of_run' 8 (by kernel_rfl) (by kernel_rfl)
theorem responseBack_reads (os : Os) {H : Type} (enc : TypeId × Value → H) : ∃ places, DataW.whole enc Tryd.prog ((laidWorldE os Rows.responseBackRow.laid).forCall (fun _ _ => 0) ⟨#[], #[.agg #[.int .i64 0, .slice none 0 0, .string ⟨#[]⟩], .string ⟨#[]⟩], []⟩).memory Tryd.f8.params.toList Rows.responseBackSpec.vars false (#[Value.agg #[.int .i64 0, .slice none 0 0, .string ⟨#[]⟩], Value.string ⟨#[]⟩] : Array Value).toList 8 = some ([.agg [.lit (.int .i64 0), .nil, .lit (.string [])], .lit (.string [])], [], places) :=
  ⟨[], by kernel_rfl⟩
theorem responseBack_lifted (os : Os) (started : os.Started) (H : Type) (enc : TypeId × Value → H) (F : Stop.Interp) :
    ReturnsInHanded {} Tryd.checked os 8 .any ((OpenSpec.ofChange Rows.responseBackSpec).preRow enc Tryd.prog Tryd.f8 Rows.responseBackRow.domain false Rows.responseBackRow.laid) (((OpenSpec.ofChange Rows.responseBackSpec).at F).post enc Tryd.prog Tryd.f8 false true false false) := by
  obtain ⟨places, hx⟩ := responseBack_reads os enc
  refine returnsInHanded_of_row (C := Tryd.checked) (s := OpenSpec.ofChange Rows.responseBackSpec) own started (by kernel_rfl) Tryd.func8
    (witness_row_atRef (enc := enc) (C := Tryd.checked) false (laidWorldE os Rows.responseBackRow.laid) #[.agg #[.int .i64 0, .slice none 0 0, .string ⟨#[]⟩], .string ⟨#[]⟩] rfl (by kernel_rfl) (by kernel_rfl) (by kernel_rfl)
      (OpenSpec.preRow_of_cond 8 hx (by kernel_rfl) (fun k hk => by cases hk) (by kernel_rfl) (responseBack_laid os))) ?_
  intro W base args ds gs before hval hW _ _ hz hL hsh _
  exact responseBack_contract H enc W base args ds gs before hval hW hz hL hsh
theorem responseBack_said : Rows.ResponseBackSaid :=
  OpenClaim.holds_of_cond 8 Tryd.f8 rfl rfl rfl rfl rfl rfl rfl ⟨rfl, rfl, rfl, rfl, rfl⟩ rfl rfl rfl rfl rfl (by kernel_rfl) Tryd.func8 (by kernel_rfl)
    (of_decide_eq_true (by kernel_rfl)) (by unfold Func.isWrapper; first | (rw [if_pos (by decide +kernel)]; kernel_rfl) | (rw [if_neg (by decide +kernel)]; exact ⟨rfl, rfl⟩))
    (fun os started H enc _ F => by rw [OpenClaim.pre_eq_preRow]; exact responseBack_lifted os started H enc F)
theorem responseBack_plain (f : FuncId) (fn : Func) (hf : Tryd.pinned.checked.prog.funcNamed "matricula/matriculalaw05.ResponseBack" = some f) (hfn : Tryd.pinned.checked.prog.funcs[f]? = some fn) :
    true = Tryd.pinned.checked.prog.looks [] ∧ ∀ (j : Nat) t, fn.params[j]? = some t → Tryd.pinned.checked.prog.wantsStandIn t = false := by
  obtain rfl : f = 8 := Option.some.inj ((show Tryd.prog.funcNamed "matricula/matriculalaw05.ResponseBack" = some 8 by kernel_rfl).symm.trans hf) |>.symm
  obtain rfl : fn = Tryd.f8 := (Option.some.inj (Tryd.func8.symm.trans hfn)).symm
  refine ⟨by kernel_rfl, fun j t ht => ?_⟩
  rw [Tryd.params8] at ht
  exact noStand t _ (by kernel_rfl) j ht
/-- The given statement. -/
theorem responseBack_card : Rows.ResponseBackCardSaid :=
  Claim7.holds_tied_plain_at .later [] _ _ _ _ responseBack_said (fun _ h => by cases h) (by kernel_rfl) (fun _ h => by cases h) responseBack_row_tie rfl ⟨rfl, rfl⟩ (by kernel_rfl) rfl responseBack_plain (by kernel_rfl)
end Go.Proofs.YthkpekmecgbokaaDoor

