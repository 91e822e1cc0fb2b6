/-
  The given statement of ResponseWrites: from the walk of ResponseWrites to the card.
-/
import Derived.Test.YthkpekmecgbokaaDoorWld
import Derived.Test.YthkpekmecgbokaaDoorRspE
namespace Go.Proofs.YthkpekmecgbokaaDoor
open Go.ChangeShapes Go.WideShapes Go.ChangeAt Go.RowKit Go.Eng Go.Pct
set_option maxRecDepth 100000

theorem responseWrites_lists : Lists Rows.responseWritesRow.laid := by constructor <;> kernel_rfl
theorem responseWrites_contract (H : Type) (enc : TypeId × Value → H) (W : World) (base : Nat) (args : Array Value) (ds gs : List (DataW H)) (before : List MemPlace)
    (hval : ∀ (j : Nat) t v, Tryd.f4.params[j]? = some t → args[j]? = some v → Value.okWide Tryd.prog W .any base t v)
    (hW : DataW.Whole enc Tryd.prog Tryd.f4.params.toList Rows.responseWritesSpec.vars false W args.toList ds gs before)
    (hz : (DataW.weightsEach Tryd.prog (Tryd.f4.params.toList ++ (OpenSpec.ofChange Rows.responseWritesSpec).bare.plain.varTypes Tryd.prog) (ds ++ gs)).all (· ≤ reachBytes) = true) (hL : laidMetH Tryd.prog Rows.responseWritesRow.laid W) (hsh : W.ShapedOpen Tryd.prog) :
    Calls Tryd.prog 4 args W fun e W' => ∃ v, e = .returned v ∧ Rows.responseWritesSpec.post enc Tryd.prog Tryd.f4 false true false false W args v W' := by
  have hW' := hW
  obtain ⟨p, q, hA0, hV, rfl, hfz, hnd⟩ := hW
  have hAk : DataW.TrodAll enc Tryd.prog W 0 (fun _ => true) true Tryd.f4.params.toList args.toList ds p := hA0
  have hA := hAk
  rw [Tryd.params4] at hA hval hz
  obtain ⟨rfl, rfl⟩ := trodVars_none hV
  obtain ⟨v0, vs0, d0, ds0, p0, q0, hargs, rfl, hq0, h0, r0⟩ := trodAll_cons hA
  obtain ⟨v1, vs1, d1, ds1, p1, q1, rfl, rfl, hq1, h1, r1⟩ := trodAll_cons r0
  obtain ⟨v2, vs2, d2, ds2, p2, q2, rfl, rfl, hq2, h2, r2⟩ := trodAll_cons r1
  obtain ⟨rfl, rfl, hqn⟩ := trodAll_nil r2
  obtain rfl : args = #[v0, v1, v2] := by cases args; simp_all
  obtain ⟨st0, v0, l0, bd0, rfl, h0, k0, kb0⟩ := arg_rsp (hval 0 24 v0 rfl rfl) h0 (sizes_of (j := 0) hz rfl rfl)
  obtain ⟨z1, rfl, k1, kk1⟩ := arg_int (hval 1 3 v1 rfl rfl) h1 (sizes_of (j := 1) hz rfl rfl)
  obtain ⟨s2, rfl, ks2⟩ := arg_str (hval 2 9 v2 rfl rfl) h2 (sizes_of (j := 2) hz rfl rfl)
  have hG := glob_of (W := W) responseWrites_lists hL hsh
  have walk := writes_ok hG (all_laid W) h0 st0 z1 bd0 s2
  refine walk.mono fun e W' ⟨he, hg⟩ => ?_
  subst he
  have hb := hg.below
  refine ⟨_, rfl, ⟨_, _, _, [], _, [], hW', trodAll_mk1 (shut_bool Tryd.underlying4 _), trodAll_below laidOut hb (by kernel_rfl) hAk (fun x hx => ?_), rfl, hb.frame _, fun h => by cases h⟩⟩
  have := hW'.lt x (by simpa using hx)
  simpa using this

theorem responseWrites_laid (os : Os) : laidMet Tryd.prog Rows.responseWritesRow.laid ((laidWorld os Rows.responseWritesRow.laid).forCall (fun _ _ => 0) ⟨#[], #[.agg #[.int .i64 0, .slice none 0 0, .string ⟨#[]⟩], .int .i64 0, .string ⟨#[]⟩], []⟩).memory :=
  laidMet_of_run' 8 (by kernel_rfl) (by kernel_rfl)
theorem responseWrites_reads (os : Os) {H : Type} (enc : TypeId × Value → H) : ∃ places, DataW.whole enc Tryd.prog ((laidWorld os Rows.responseWritesRow.laid).forCall (fun _ _ => 0) ⟨#[], #[.agg #[.int .i64 0, .slice none 0 0, .string ⟨#[]⟩], .int .i64 0, .string ⟨#[]⟩], []⟩).memory Tryd.f4.params.toList Rows.responseWritesSpec.vars false (#[Value.agg #[.int .i64 0, .slice none 0 0, .string ⟨#[]⟩], Value.int .i64 0, Value.string ⟨#[]⟩] : Array Value).toList 8 = some ([.agg [.lit (.int .i64 0), .nil, .lit (.string [])], .lit (.int .i64 0), .lit (.string [])], [], places) :=
  ⟨[], by kernel_rfl⟩
theorem responseWrites_lifted (os : Os) (started : os.Started) (H : Type) (enc : TypeId × Value → H) (F : Stop.Interp) :
    ReturnsInHanded {} Tryd.checked os 4 .any ((OpenSpec.ofChange Rows.responseWritesSpec).preRow enc Tryd.prog Tryd.f4 Rows.responseWritesRow.domain false Rows.responseWritesRow.laid) (((OpenSpec.ofChange Rows.responseWritesSpec).at F).post enc Tryd.prog Tryd.f4 false true false false) := by
  obtain ⟨places, hx⟩ := responseWrites_reads os enc
  refine returnsInHanded_of_row (C := Tryd.checked) (s := OpenSpec.ofChange Rows.responseWritesSpec) own started (by kernel_rfl) Tryd.func4
    (witness_row_at (enc := enc) (C := Tryd.checked) false (laidWorld os Rows.responseWritesRow.laid) #[.agg #[.int .i64 0, .slice none 0 0, .string ⟨#[]⟩], .int .i64 0, .string ⟨#[]⟩] rfl (by kernel_rfl) (by kernel_rfl) (by kernel_rfl)
      (OpenSpec.preRow_of_cond 8 hx (by kernel_rfl) (fun k hk => by cases hk) (by kernel_rfl) (responseWrites_laid os))) ?_
  intro W base args ds gs before hval hW _ _ hz hL hsh _
  exact responseWrites_contract H enc W base args ds gs before hval hW hz hL hsh
theorem responseWrites_said : Rows.ResponseWritesSaid :=
  OpenClaim.holds_of_cond 4 Tryd.f4 rfl rfl rfl rfl rfl rfl rfl ⟨rfl, rfl, rfl, rfl, rfl⟩ rfl rfl rfl rfl rfl (by kernel_rfl) Tryd.func4 (by kernel_rfl)
    (of_decide_eq_true (by kernel_rfl)) (by unfold Func.isWrapper; first | (rw [if_pos (by decide +kernel)]; kernel_rfl) | (rw [if_neg (by decide +kernel)]; exact ⟨rfl, rfl⟩))
    (fun os started H enc _ F => by rw [OpenClaim.pre_eq_preRow]; exact responseWrites_lifted os started H enc F)
theorem responseWrites_plain (f : FuncId) (fn : Func) (hf : Tryd.pinned.checked.prog.funcNamed "matricula/matriculalaw05.ResponseWrites" = some f) (hfn : Tryd.pinned.checked.prog.funcs[f]? = some fn) :
    true = Tryd.pinned.checked.prog.looks [] ∧ ∀ (j : Nat) t, fn.params[j]? = some t → Tryd.pinned.checked.prog.wantsStandIn t = false := by
  obtain rfl : f = 4 := Option.some.inj ((show Tryd.prog.funcNamed "matricula/matriculalaw05.ResponseWrites" = some 4 by kernel_rfl).symm.trans hf) |>.symm
  obtain rfl : fn = Tryd.f4 := (Option.some.inj (Tryd.func4.symm.trans hfn)).symm
  refine ⟨by kernel_rfl, fun j t ht => ?_⟩
  rw [Tryd.params4] at ht
  exact noStand t _ (by kernel_rfl) j ht
/-- The given statement. -/
theorem responseWrites_card : Rows.ResponseWritesCardSaid :=
  Claim7.holds_tied_plain_at .later [] _ _ _ _ responseWrites_said (fun _ h => by cases h) (by kernel_rfl) (fun _ h => by cases h) responseWrites_row_tie rfl ⟨rfl, rfl⟩ (by kernel_rfl) rfl responseWrites_plain (by kernel_rfl)
end Go.Proofs.YthkpekmecgbokaaDoor

