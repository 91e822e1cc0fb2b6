/-
  The given statement of PctBack: from the walk of PctBack to the card.
-/
import Derived.Test.YtopgbidgdfmddaaDoorPctM
namespace Go.Proofs.YtopgbidgdfmddaaDoor
open Go.ChangeShapes Go.WideShapes Go.ChangeAt Go.RowKit Go.Eng Go.Pct
open Go.ChangeMaps (open_string)
set_option maxRecDepth 100000

theorem pctBack_contract (H : Type) (enc : TypeId × Value → H) (W : World) (base : Nat) (args : Array Value) (ds gs : List (DataW H)) (before : List MemPlace)
    (hval : ∀ (j : Nat) t v, Tryd.f4.params[j]? = some t → args[j]? = some v → Value.okWide Tryd.prog W .any base t v)
    (hW : DataW.Whole enc Tryd.prog Tryd.f4.params.toList Rows.pctBackSpec.vars false W args.toList ds gs before) (hL : laidMetH Tryd.prog Rows.pctBackRow.laid W) (hsh : W.ShapedOpen Tryd.prog) :
    Calls Tryd.prog 4 args W fun e W' => ∃ v, e = .returned v ∧ Rows.pctBackSpec.post enc Tryd.prog Tryd.f4 false true false false W args v W' := by
  have hW' := hW
  obtain ⟨p, q, hA0, hV, rfl, hfz, hnd⟩ := hW
  have hAk : DataW.TrodAll enc Tryd.prog W 0 (fun _ => true) true Tryd.f4.params.toList args.toList ds p := hA0
  have hA := hAk
  rw [Tryd.params4] at hA hval
  obtain ⟨rfl, rfl⟩ := trodVars_none hV
  obtain ⟨v0, vs0, d0, ds0, p0, q0, hargs, rfl, hq0, h0, r0⟩ := trodAll_cons hA
  obtain ⟨v1, vs1, d1, ds1, p1, q1, rfl, rfl, hq1, h1, r1⟩ := trodAll_cons r0
  obtain ⟨rfl, rfl, hqn⟩ := trodAll_nil r1
  obtain rfl : args = #[v0, v1] := by cases args; simp_all
  obtain ⟨s0, rfl, rfl, hp0, hs0⟩ := open_string Tryd.underlying9 (hval 0 9 v0 rfl rfl) h0
  obtain ⟨b1, rfl, rfl, hp1⟩ := open_bool Tryd.underlying4 (hval 1 4 v1 rfl rfl) h1
  have hG := glob_of (W := W) rfl hL hsh
  have walk := back_ok hG (all_laid W) s0.data.toList b1
  rw [← str_of s0] at walk
  refine walk.mono fun e W' ⟨he, hg⟩ => ?_
  subst he
  have hb := hg.below
  refine ⟨_, rfl, ⟨_, _, _, [], _, [], hW', trodAll_mk1 (shut_bool Tryd.underlying4 _), trodAll_below laidOut hb (by kernel_rfl) hAk (fun x hx => ?_), rfl, hb.frame _, fun h => by cases h⟩⟩
  have := hW'.lt x (by simpa using hx)
  simpa using this

theorem pctBack_laid (os : Os) : laidMet Tryd.prog Rows.pctBackRow.laid ((laidWorld os).forCall (fun _ _ => 0) ⟨#[], #[.string ⟨#[]⟩, .bool false], []⟩).memory :=
  laidMet_of_run' 8 (by kernel_rfl) (by kernel_rfl)
theorem pctBack_reads (os : Os) {H : Type} (enc : TypeId × Value → H) : ∃ places, DataW.whole enc Tryd.prog ((laidWorld os).forCall (fun _ _ => 0) ⟨#[], #[.string ⟨#[]⟩, .bool false], []⟩).memory Tryd.f4.params.toList Rows.pctBackSpec.vars false (#[Value.string ⟨#[]⟩, Value.bool false] : Array Value).toList 8 = some ([.lit (.string []), .lit (.bool false)], [], places) :=
  ⟨[], by kernel_rfl⟩
theorem pctBack_lifted (os : Os) (started : os.Started) (H : Type) (enc : TypeId × Value → H) (F : Stop.Interp) :
    ReturnsInHanded {} Tryd.checked os 4 .any ((OpenSpec.ofChange Rows.pctBackSpec).preRow enc Tryd.prog Tryd.f4 Rows.pctBackRow.domain false Rows.pctBackRow.laid) (((OpenSpec.ofChange Rows.pctBackSpec).at F).post enc Tryd.prog Tryd.f4 false true false false) := by
  obtain ⟨places, hx⟩ := pctBack_reads os enc
  refine returnsInHanded_of_row (C := Tryd.checked) (s := OpenSpec.ofChange Rows.pctBackSpec) own started (by kernel_rfl) Tryd.func4
    (witness_row_at (enc := enc) (C := Tryd.checked) false (laidWorld os) #[.string ⟨#[]⟩, .bool false] rfl (by kernel_rfl) (by kernel_rfl) (by kernel_rfl)
      (OpenSpec.preRow_of_cond 8 hx (by kernel_rfl) (fun k hk => by cases hk) (by kernel_rfl) (pctBack_laid os))) ?_
  intro W base args ds gs before hval hW _ _ _ hL hsh _
  exact pctBack_contract H enc W base args ds gs before hval hW hL hsh
theorem pctBack_said : Rows.PctBackSaid :=
  OpenClaim.holds_of_cond 4 Tryd.f4 rfl rfl rfl rfl rfl rfl rfl ⟨rfl, rfl, rfl, rfl, rfl⟩ rfl rfl rfl rfl rfl (by kernel_rfl) Tryd.func4 (by kernel_rfl)
    (of_decide_eq_true (by kernel_rfl)) (by unfold Func.isWrapper; first | (rw [if_pos (by decide +kernel)]; kernel_rfl) | (rw [if_neg (by decide +kernel)]; exact ⟨rfl, rfl⟩))
    (fun os started H enc _ F => by rw [OpenClaim.pre_eq_preRow]; exact pctBack_lifted os started H enc F)
theorem pctBack_plain (f : FuncId) (fn : Func) (hf : Tryd.pinned.checked.prog.funcNamed "matricula/matriculalaw01.PctBack" = some f) (hfn : Tryd.pinned.checked.prog.funcs[f]? = some fn) :
    false = Tryd.pinned.checked.prog.looks [] ∧ ∀ (j : Nat) t, fn.params[j]? = some t → Tryd.pinned.checked.prog.wantsStandIn t = false := by
  obtain rfl : f = 4 := Option.some.inj ((show Tryd.prog.funcNamed "matricula/matriculalaw01.PctBack" = some 4 by kernel_rfl).symm.trans hf) |>.symm
  obtain rfl : fn = Tryd.f4 := (Option.some.inj (Tryd.func4.symm.trans hfn)).symm
  refine ⟨by kernel_rfl, fun j t ht => ?_⟩
  rw [Tryd.params4] at ht
  exact noStand t _ (by kernel_rfl) j ht
/-- The given statement. -/
theorem pctBack_card : Rows.PctBackCardSaid :=
  Claim7.holds_tied_plain_at .later [] _ _ _ _ pctBack_said (fun _ h => by cases h) (by kernel_rfl) (fun _ h => by cases h) pctBack_row_tie rfl ⟨rfl, rfl⟩ (by kernel_rfl) rfl pctBack_plain (by kernel_rfl)
end Go.Proofs.YtopgbidgdfmddaaDoor

