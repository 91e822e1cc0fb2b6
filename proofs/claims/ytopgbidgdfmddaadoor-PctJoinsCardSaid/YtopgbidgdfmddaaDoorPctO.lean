/-
  The walks of PctNormal, PctReads, PctForms and PctJoins beside the frames' lemmas.
-/
import Derived.Test.YtopgbidgdfmddaaDoorPctM
import Derived.Test.YtopgbidgdfmddaaDoorPctN
namespace Go.Proofs.YtopgbidgdfmddaaDoor
open Go.Eng Go.Pct

theorem joinsZ_ok {M : Ghost} {w : World} (hG : Glob M) (hM : Laid M w) (s t : List UInt8) (z : Int) (hz : (Lit.int .u8 z).wf = true) : Calls Tryd.prog 6 #[str s, str t, .int .u8 z] w (RetE w (.bool true)) := by
  have hb : 0 ≤ z ∧ z ≤ 255 := by
    have h0 : IntKind.u8.min = 0 := by decide
    have h1 : IntKind.u8.max = 255 := by decide
    simp only [Lit.wf, h0, h1, Bool.and_eq_true, decide_eq_true_eq] at hz
    exact hz
  have h := joins_ok hG hM s t z.toNat (by omega)
  rw [show ((z.toNat : Nat) : Int) = z from by omega] at h
  exact h
end Go.Proofs.YtopgbidgdfmddaaDoor
