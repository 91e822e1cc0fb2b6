/-
  Bytes as numbers: what the walks of texts need; the contract of package pct's Plain.
-/
import Derived.Test.YthkpekmecgbokaaDoorEngH
import Derived.Test.YthkpekmecgbokaaDoorPctS
import Derived.Test.YthkpekmecgbokaaDoorProg
namespace Go.Proofs.YthkpekmecgbokaaDoor
open Go.Eng Go.Pct
set_option maxRecDepth 10000
set_option linter.unusedSimpArgs false
set_option linter.unusedVariables false

theorem getD_cast (c : UInt8) (d : UInt8) : ((c.toNat : Int) = (d.toNat : Int)) ↔ c = d := by
  constructor
  · intro h; exact UInt8.toNat_inj.1 (by omega)
  · rintro rfl; rfl
theorem u8_lt (c : UInt8) : (c.toNat : Int) < 256 := by have := c.toNat_lt; omega
theorem u8_eq (c : UInt8) (m : Nat) (hm : m < 256) : ((c.toNat : Int) = (m : Int)) ↔ c = UInt8.ofNat m := by
  constructor
  · intro h; apply UInt8.toNat_inj.1; simp; omega
  · rintro rfl; simp; omega
theorem u8_byt {z : Int} (h0 : 0 ≤ z) (h1 : z ≤ 255) : Value.int .u8 z = byt (UInt8.ofNat z.toNat) := by
  have h3 : z.toNat < 256 := by omega
  have : ((UInt8.ofNat z.toNat).toNat : Int) = z := by simp [Nat.mod_eq_of_lt h3]; omega
  rw [byt, this]
variable {M : Ghost} {w : World}
theorem plain_all (c : UInt8) : ((decide ((97 : Int) ≤ c.toNat) && decide ((c.toNat : Int) ≤ 122) || decide ((65 : Int) ≤ c.toNat) && decide ((c.toNat : Int) ≤ 90) || decide ((48 : Int) ≤ c.toNat) && decide ((c.toNat : Int) ≤ 57) || decide ((c.toNat : Int) = 45) || decide ((c.toNat : Int) = 46) || decide ((c.toNat : Int) = 95) || decide ((c.toNat : Int) = 126)) : Bool) = plainB c := by
  revert c; apply all_bytes; decide +kernel
theorem plain_ok (hM : Laid M w) (c : UInt8) : Calls Tryd.prog 46 #[byt c] w (RetE w (.bool (plainB c))) := by
  refine calls_st (l := [byt c]) hM Tryd.func46 rfl rfl rfl (E0 := [(0, true, byt c)]) (params_cons rfl (params_nil _)) ?_
  repeat' (first | (first | refine wc_seq ?_ | refine wc_region ?_ | refine wl_nil ?_ | refine wn_seq ?_ | refine wn_blk ?_ | refine wc_skip ?_ | refine wc_block ?_ | refine wc_exit rfl ?_ | (show WL _ _ (_ :: _) _ _ _ _; first | refine wl_v rfl rfl rfl (by first | (show OpV _ _ _ _ (Oper.mk _ (Op.move _) _ _ _ _) _ _; exact xo_move rfl) | (show OpV _ _ _ _ (Oper.mk _ (Op.assign _) _ _ _ _) _ _; exact xo_assign rfl) | (show OpV _ _ _ _ (Oper.mk _ (Op.pick _ _ _) _ _ _ _) _ _; first | exact xo_and rfl rfl | exact xo_or rfl rfl) | (show OpV _ _ _ _ (Oper.mk _ (Op.binOp BinOp.eql _ _ _ _) _ _ _ _) _ _; first | exact xo_eql rfl rfl | exact xo_seql rfl rfl | exact xo_beql rfl rfl | exact xo_aeql rfl rfl) | (show OpV _ _ _ _ (Oper.mk _ (Op.binOp BinOp.leq _ _ _ _) _ _ _ _) _ _; exact xo_leq rfl rfl) | (show OpV _ _ _ _ (Oper.mk _ (Op.binOp BinOp.geq _ _ _ _) _ _ _ _) _ _; exact xo_geq rfl rfl)) ?_ | refine wl_v rfl rfl rfl (by first  | fail) ?_) | refine wc_ret rfl ?_) | (show WC _ (Code.cond _ _ _) _ _ _ _; (refine wc_cond rfl (fun hc => ?_) (fun hc => ?_) <;> (try (simp only [decide_eq_true_eq, decide_eq_false_iff_not, Bool.and_eq_true, Bool.or_eq_true, Bool.and_eq_false_iff, Bool.or_eq_false_iff, Bool.not_eq_true', Bool.not_eq_false', Int.not_lt, Int.not_le] at hc)) <;> (try (exfalso; first | omega | contradiction)))))
  refine wr_tmp rfl rfl ?_
  exact congrArg Value.bool (plain_all c)
end Go.Proofs.YthkpekmecgbokaaDoor
