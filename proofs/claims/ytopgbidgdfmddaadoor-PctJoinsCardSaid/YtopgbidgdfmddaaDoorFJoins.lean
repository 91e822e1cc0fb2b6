/-
  The given statement of PctJoins: from the walk of PctJoins to the card.
-/
import Derived.Test.YtopgbidgdfmddaaDoorPctO
namespace Go.Proofs.YtopgbidgdfmddaaDoor
open Go.ChangeShapes Go.WideShapes Go.ChangeAt Go.RowKit Go.Eng Go.Pct
open Go.ChangeMaps (open_string)
set_option maxRecDepth 100000

theorem pctJoins_contract (H : Type) (enc : TypeId × Value → H) (W : World) (base : Nat) (args : Array Value) (ds gs : List (DataW H)) (before : List MemPlace)
    (hval : ∀ (j : Nat) t v, Tryd.f6.params[j]? = some t → args[j]? = some v → Value.okWide Tryd.prog W .any base t v)
    (hW : DataW.Whole enc Tryd.prog Tryd.f6.params.toList Rows.pctJoinsSpec.vars false W args.toList ds gs before) (hL : laidMetH Tryd.prog Rows.pctJoinsRow.laid W) (hsh : W.ShapedOpen Tryd.prog) :
    Calls Tryd.prog 6 args W fun e W' => ∃ v, e = .returned v ∧ Rows.pctJoinsSpec.post enc Tryd.prog Tryd.f6 false true false false W args v W' := by
  have hW' := hW
  obtain ⟨p, q, hA0, hV, rfl, hfz, hnd⟩ := hW
  have hAk : DataW.TrodAll enc Tryd.prog W 0 (fun _ => true) true Tryd.f6.params.toList args.toList ds p := hA0
  have hA := hAk
  rw [Tryd.params6] at hA hval
  obtain ⟨rfl, rfl⟩ := trodVars_none hV
  obtain ⟨v0, vs0, d0, ds0, p0, q0, hargs, rfl, hq0, h0, r0⟩ := trodAll_cons hA
  obtain ⟨v1, vs1, d1, ds1, p1, q1, rfl, rfl, hq1, h1, r1⟩ := trodAll_cons r0
  obtain ⟨v2, vs2, d2, ds2, p2, q2, rfl, rfl, hq2, h2, r2⟩ := trodAll_cons r1
  obtain ⟨rfl, rfl, hqn⟩ := trodAll_nil r2
  obtain rfl : args = #[v0, v1, v2] := by cases args; simp_all
  obtain ⟨s0, rfl, rfl, hp0, hs0⟩ := open_string Tryd.underlying9 (hval 0 9 v0 rfl rfl) h0
  obtain ⟨s1, rfl, rfl, hp1, hs1⟩ := open_string Tryd.underlying9 (hval 1 9 v1 rfl rfl) h1
  obtain ⟨z2, rfl, rfl, hp2, hz2⟩ := open_int Tryd.underlying5 (hval 2 5 v2 rfl rfl) h2
  have hG := glob_of (W := W) rfl hL hsh
  have walk := joinsZ_ok hG (all_laid W) s0.data.toList s1.data.toList z2 hz2
  rw [← str_of s0] at walk
  rw [← str_of s1] at walk
  refine walk.mono fun e W' ⟨he, hg⟩ => ?_
  subst he
  have hb := hg.below
  refine ⟨_, rfl, ⟨_, _, _, [], _, [], hW', trodAll_mk1 (shut_bool Tryd.underlying4 _), trodAll_below laidOut hb (by kernel_rfl) hAk (fun x hx => ?_), rfl, hb.frame _, fun h => by cases h⟩⟩
  have := hW'.lt x (by simpa using hx)
  simpa using this

theorem pctJoins_laid (os : Os) : laidMet Tryd.prog Rows.pctJoinsRow.laid ((laidWorld os).forCall (fun _ _ => 0) ⟨#[], #[.string ⟨#[]⟩, .string ⟨#[]⟩, .int .u8 0], []⟩).memory :=
  laidMet_of_run' 8 (by kernel_rfl) (by kernel_rfl)
theorem pctJoins_reads (os : Os) {H : Type} (enc : TypeId × Value → H) : ∃ places, DataW.whole enc Tryd.prog ((laidWorld os).forCall (fun _ _ => 0) ⟨#[], #[.string ⟨#[]⟩, .string ⟨#[]⟩, .int .u8 0], []⟩).memory Tryd.f6.params.toList Rows.pctJoinsSpec.vars false (#[Value.string ⟨#[]⟩, Value.string ⟨#[]⟩, Value.int .u8 0] : Array Value).toList 8 = some ([.lit (.string []), .lit (.string []), .lit (.int .u8 0)], [], places) :=
  ⟨[], by kernel_rfl⟩
theorem pctJoins_lifted (os : Os) (started : os.Started) (H : Type) (enc : TypeId × Value → H) (F : Stop.Interp) :
    ReturnsInHanded {} Tryd.checked os 6 .any ((OpenSpec.ofChange Rows.pctJoinsSpec).preRow enc Tryd.prog Tryd.f6 Rows.pctJoinsRow.domain false Rows.pctJoinsRow.laid) (((OpenSpec.ofChange Rows.pctJoinsSpec).at F).post enc Tryd.prog Tryd.f6 false true false false) := by
  obtain ⟨places, hx⟩ := pctJoins_reads os enc
  refine returnsInHanded_of_row (C := Tryd.checked) (s := OpenSpec.ofChange Rows.pctJoinsSpec) own started (by kernel_rfl) Tryd.func6
    (witness_row_at (enc := enc) (C := Tryd.checked) false (laidWorld os) #[.string ⟨#[]⟩, .string ⟨#[]⟩, .int .u8 0] rfl (by kernel_rfl) (by kernel_rfl) (by kernel_rfl)
      (OpenSpec.preRow_of_cond 8 hx (by kernel_rfl) (fun k hk => by cases hk) (by kernel_rfl) (pctJoins_laid os))) ?_
  intro W base args ds gs before hval hW _ _ _ hL hsh _
  exact pctJoins_contract H enc W base args ds gs before hval hW hL hsh
theorem pctJoins_said : Rows.PctJoinsSaid :=
  OpenClaim.holds_of_cond 6 Tryd.f6 rfl rfl rfl rfl rfl rfl rfl ⟨rfl, rfl, rfl, rfl, rfl⟩ rfl rfl rfl rfl rfl (by kernel_rfl) Tryd.func6 (by kernel_rfl)
    (of_decide_eq_true (by kernel_rfl)) (by unfold Func.isWrapper; first | (rw [if_pos (by decide +kernel)]; kernel_rfl) | (rw [if_neg (by decide +kernel)]; exact ⟨rfl, rfl⟩))
    (fun os started H enc _ F => by rw [OpenClaim.pre_eq_preRow]; exact pctJoins_lifted os started H enc F)
theorem pctJoins_plain (f : FuncId) (fn : Func) (hf : Tryd.pinned.checked.prog.funcNamed "matricula/matriculalaw01.PctJoins" = some f) (hfn : Tryd.pinned.checked.prog.funcs[f]? = some fn) :
    false = Tryd.pinned.checked.prog.looks [] ∧ ∀ (j : Nat) t, fn.params[j]? = some t → Tryd.pinned.checked.prog.wantsStandIn t = false := by
  obtain rfl : f = 6 := Option.some.inj ((show Tryd.prog.funcNamed "matricula/matriculalaw01.PctJoins" = some 6 by kernel_rfl).symm.trans hf) |>.symm
  obtain rfl : fn = Tryd.f6 := (Option.some.inj (Tryd.func6.symm.trans hfn)).symm
  refine ⟨by kernel_rfl, fun j t ht => ?_⟩
  rw [Tryd.params6] at ht
  exact noStand t _ (by kernel_rfl) j ht
/-- The given statement. -/
theorem pctJoins_card : Rows.PctJoinsCardSaid :=
  Claim7.holds_tied_plain_at .later [] _ _ _ _ pctJoins_said (fun _ h => by cases h) (by kernel_rfl) (fun _ h => by cases h) pctJoins_row_tie rfl ⟨rfl, rfl⟩ (by kernel_rfl) rfl pctJoins_plain (by kernel_rfl)
end Go.Proofs.YtopgbidgdfmddaaDoor

