/-
  The given statement of ResponseMakes: from the walk of ResponseMakes to the card.
-/
import Derived.Test.YthkpekmecgbokaaDoorWld
import Derived.Test.YthkpekmecgbokaaDoorRspF
namespace Go.Proofs.YthkpekmecgbokaaDoor
open Go.ChangeShapes Go.WideShapes Go.ChangeAt Go.RowKit Go.Eng Go.Pct
set_option maxRecDepth 100000

theorem responseMakes_lists : Lists Rows.responseMakesRow.laid := by constructor <;> kernel_rfl
theorem responseMakes_contract (H : Type) (enc : TypeId × Value → H) (W : World) (base : Nat) (args : Array Value) (ds gs : List (DataW H)) (before : List MemPlace)
    (hval : ∀ (j : Nat) t v, Tryd.f5.params[j]? = some t → args[j]? = some v → Value.okWide Tryd.prog W .any base t v)
    (hW : DataW.Whole enc Tryd.prog Tryd.f5.params.toList Rows.responseMakesSpec.vars false W args.toList ds gs before)
    (hz : (DataW.weightsEach Tryd.prog (Tryd.f5.params.toList ++ (OpenSpec.ofChange Rows.responseMakesSpec).bare.plain.varTypes Tryd.prog) (ds ++ gs)).all (· ≤ reachBytes) = true) (hL : laidMetH Tryd.prog Rows.responseMakesRow.laid W) (hsh : W.ShapedOpen Tryd.prog) :
    Calls Tryd.prog 5 args W fun e W' => ∃ v, e = .returned v ∧ Rows.responseMakesSpec.post enc Tryd.prog Tryd.f5 false true false false W args v W' := by
  have hW' := hW
  obtain ⟨p, q, hA0, hV, rfl, hfz, hnd⟩ := hW
  have hAk : DataW.TrodAll enc Tryd.prog W 0 (fun _ => true) true Tryd.f5.params.toList args.toList ds p := hA0
  have hA := hAk
  rw [Tryd.params5] at hA hval hz
  obtain ⟨rfl, rfl⟩ := trodVars_none hV
  obtain ⟨v0, vs0, d0, ds0, p0, q0, hargs, rfl, hq0, h0, r0⟩ := trodAll_cons hA
  obtain ⟨v1, vs1, d1, ds1, p1, q1, rfl, rfl, hq1, h1, r1⟩ := trodAll_cons r0
  obtain ⟨v2, vs2, d2, ds2, p2, q2, rfl, rfl, hq2, h2, r2⟩ := trodAll_cons r1
  obtain ⟨v3, vs3, d3, ds3, p3, q3, rfl, rfl, hq3, h3, r3⟩ := trodAll_cons r2
  obtain ⟨rfl, rfl, hqn⟩ := trodAll_nil r3
  obtain rfl : args = #[v0, v1, v2, v3] := by cases args; simp_all
  obtain ⟨s0, rfl, ks0⟩ := arg_str (hval 0 9 v0 rfl rfl) h0 (sizes_of (j := 0) hz rfl rfl)
  obtain ⟨s1, rfl, ks1⟩ := arg_str (hval 1 9 v1 rfl rfl) h1 (sizes_of (j := 1) hz rfl rfl)
  obtain ⟨s2, rfl, ks2⟩ := arg_str (hval 2 9 v2 rfl rfl) h2 (sizes_of (j := 2) hz rfl rfl)
  obtain ⟨l3, h3, k3⟩ := arg_strs (hval 3 33 v3 rfl rfl) h3 (sizes_of (j := 3) hz rfl rfl)
  have hG := glob_of (W := W) responseMakes_lists hL hsh
  have walk := makes_ok hG (all_laid W) s0 s1 s2 h3 k3 (reach_le ks2)
  refine walk.mono fun e W' ⟨he, hg⟩ => ?_
  subst he
  have hb := hg.below
  refine ⟨_, rfl, ⟨_, _, _, [], _, [], hW', trodAll_mk1 (shut_bool Tryd.underlying4 _), trodAll_below laidOut hb (by kernel_rfl) hAk (fun x hx => ?_), rfl, hb.frame _, fun h => by cases h⟩⟩
  have := hW'.lt x (by simpa using hx)
  simpa using this

theorem responseMakes_laid (os : Os) : laidMet Tryd.prog Rows.responseMakesRow.laid ((laidWorld os Rows.responseMakesRow.laid).forCall (fun _ _ => 0) ⟨#[], #[.string ⟨#[]⟩, .string ⟨#[]⟩, .string ⟨#[]⟩, .slice none 0 0], []⟩).memory :=
  laidMet_of_run' 8 (by kernel_rfl) (by kernel_rfl)
theorem responseMakes_reads (os : Os) {H : Type} (enc : TypeId × Value → H) : ∃ places, DataW.whole enc Tryd.prog ((laidWorld os Rows.responseMakesRow.laid).forCall (fun _ _ => 0) ⟨#[], #[.string ⟨#[]⟩, .string ⟨#[]⟩, .string ⟨#[]⟩, .slice none 0 0], []⟩).memory Tryd.f5.params.toList Rows.responseMakesSpec.vars false (#[Value.string ⟨#[]⟩, Value.string ⟨#[]⟩, Value.string ⟨#[]⟩, Value.slice none 0 0] : Array Value).toList 8 = some ([.lit (.string []), .lit (.string []), .lit (.string []), .nil], [], places) :=
  ⟨[], by kernel_rfl⟩
theorem responseMakes_lifted (os : Os) (started : os.Started) (H : Type) (enc : TypeId × Value → H) (F : Stop.Interp) :
    ReturnsInHanded {} Tryd.checked os 5 .any ((OpenSpec.ofChange Rows.responseMakesSpec).preRow enc Tryd.prog Tryd.f5 Rows.responseMakesRow.domain false Rows.responseMakesRow.laid) (((OpenSpec.ofChange Rows.responseMakesSpec).at F).post enc Tryd.prog Tryd.f5 false true false false) := by
  obtain ⟨places, hx⟩ := responseMakes_reads os enc
  refine returnsInHanded_of_row (C := Tryd.checked) (s := OpenSpec.ofChange Rows.responseMakesSpec) own started (by kernel_rfl) Tryd.func5
    (witness_row_at (enc := enc) (C := Tryd.checked) false (laidWorld os Rows.responseMakesRow.laid) #[.string ⟨#[]⟩, .string ⟨#[]⟩, .string ⟨#[]⟩, .slice none 0 0] rfl (by kernel_rfl) (by kernel_rfl) (by kernel_rfl)
      (OpenSpec.preRow_of_cond 8 hx (by kernel_rfl) (fun k hk => by cases hk) (by kernel_rfl) (responseMakes_laid os))) ?_
  intro W base args ds gs before hval hW _ _ hz hL hsh _
  exact responseMakes_contract H enc W base args ds gs before hval hW hz hL hsh
theorem responseMakes_said : Rows.ResponseMakesSaid :=
  OpenClaim.holds_of_cond 5 Tryd.f5 rfl rfl rfl rfl rfl rfl rfl ⟨rfl, rfl, rfl, rfl, rfl⟩ rfl rfl rfl rfl rfl (by kernel_rfl) Tryd.func5 (by kernel_rfl)
    (of_decide_eq_true (by kernel_rfl)) (by unfold Func.isWrapper; first | (rw [if_pos (by decide +kernel)]; kernel_rfl) | (rw [if_neg (by decide +kernel)]; exact ⟨rfl, rfl⟩))
    (fun os started H enc _ F => by rw [OpenClaim.pre_eq_preRow]; exact responseMakes_lifted os started H enc F)
theorem responseMakes_plain (f : FuncId) (fn : Func) (hf : Tryd.pinned.checked.prog.funcNamed "matricula/matriculalaw05.ResponseMakes" = some f) (hfn : Tryd.pinned.checked.prog.funcs[f]? = some fn) :
    true = Tryd.pinned.checked.prog.looks [] ∧ ∀ (j : Nat) t, fn.params[j]? = some t → Tryd.pinned.checked.prog.wantsStandIn t = false := by
  obtain rfl : f = 5 := Option.some.inj ((show Tryd.prog.funcNamed "matricula/matriculalaw05.ResponseMakes" = some 5 by kernel_rfl).symm.trans hf) |>.symm
  obtain rfl : fn = Tryd.f5 := (Option.some.inj (Tryd.func5.symm.trans hfn)).symm
  refine ⟨by kernel_rfl, fun j t ht => ?_⟩
  rw [Tryd.params5] at ht
  exact noStand t _ (by kernel_rfl) j ht
/-- The given statement. -/
theorem responseMakes_card : Rows.ResponseMakesCardSaid :=
  Claim7.holds_tied_plain_at .later [] _ _ _ _ responseMakes_said (fun _ h => by cases h) (by kernel_rfl) (fun _ h => by cases h) responseMakes_row_tie rfl ⟨rfl, rfl⟩ (by kernel_rfl) rfl responseMakes_plain (by kernel_rfl)
end Go.Proofs.YthkpekmecgbokaaDoor

