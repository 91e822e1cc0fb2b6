/-
  The contract of matricularef03.Line.
-/
import Derived.Test.YthkpekmecgbokaaDoorBytA
import Derived.Test.YthkpekmecgbokaaDoorTxtM
namespace Go.Proofs.YthkpekmecgbokaaDoor
open Go.Eng Go.Pct Go.Txt
set_option maxRecDepth 10000
set_option linter.unusedSimpArgs false
set_option linter.unusedVariables false

variable {M : Ghost} {w : World}
theorem u8c (c : UInt8) (m : Nat) (hm : m < 256) : ((c.toNat : Int) = (m : Int)) ↔ c = UInt8.ofNat m := u8_eq c m hm
/-- what Line yields -/
def lineV (s : List UInt8) (a : Nat) : Value := match cutS [13, 10] (s.drop a) with
  | some p => .tuple #[str p.1, i64 ((a + p.1.length + 2 : Nat) : Int)]
  | none => .tuple #[str [], i64 (-1)]
theorem c13 {c : UInt8} : ((c.toNat : Int) = 13) ↔ c = 13 := u8_eq c 13 (by decide)
theorem c10 {c : UInt8} : ((c.toNat : Int) = 10) ↔ c = 10 := u8_eq c 10 (by decide)
theorem line_ok (hM : Laid M w) (s : List UInt8) (a : Nat) (hs : s.length ≤ 1000000000) (ha : a ≤ s.length) : Calls Tryd.prog 24 #[str s, i64 (a : Int)] w (RetE w (lineV s a)) := by
  refine calls_st (l := [str s, i64 (a : Int)]) hM Tryd.func24 rfl rfl rfl (E0 := [(0, true, str s), (1, true, i64 (a : Int))]) (params_cons rfl (params_cons rfl (params_nil _))) ?_
  repeat' (first | (first | refine wc_seq ?_ | refine wc_region ?_ | refine wl_nil ?_ | refine wn_seq ?_ | refine wn_blk ?_ | refine wc_skip ?_ | refine wc_block ?_ | refine wc_exit rfl ?_ | (show WL _ _ (_ :: _) _ _ _ _; first | refine wl_v rfl rfl rfl (by first | (show OpV _ _ _ _ (Oper.mk _ (Op.move _) _ _ _ _) _ _; exact xo_move rfl) | (show OpV _ _ _ _ (Oper.mk _ (Op.assign _) _ _ _ _) _ _; exact xo_assign rfl) | (show OpV _ _ _ _ (Oper.mk _ (Op.pick _ _ _) _ _ _ _) _ _; first | exact xo_and rfl rfl | exact xo_or rfl rfl) | (show OpV _ _ _ _ (Oper.mk _ (Op.call ⟨.builtin .len, _, _⟩) _ _ _ _) _ _; first | exact xo_slen rfl | exact xo_len rfl) | (show OpV _ _ _ _ (Oper.mk _ (Op.binOp BinOp.eql _ _ _ _) _ _ _ _) _ _; first | exact xo_eql rfl rfl | exact xo_seql rfl rfl | exact xo_beql rfl rfl | exact xo_aeql rfl rfl) | (show OpV _ _ _ _ (Oper.mk _ (Op.binOp BinOp.lss _ _ _ _) _ _ _ _) _ _; exact xo_lss rfl rfl) | (show OpV _ _ _ _ (Oper.mk _ (Op.binOp BinOp.add _ _ _ _) _ _ _ _) _ _; first | exact xo_add rfl rfl | exact ov_sadd rfl rfl (by first | with_reducible exact fun _ => rfl | with_reducible exact fun h => h | exact fun _ => rfl | exact fun h => h | (intro himp; simp_all; done)) (by first | with_reducible exact fun _ => rfl | with_reducible exact fun h => h | exact fun _ => rfl | exact fun h => h | (intro himp; simp_all; done)) (by intro hcg; first | omega | (simp only [List.length_append, List.length_take, List.length_drop, List.length_cons, List.length_nil, List.length_nil]; omega))) | (show OpV _ _ _ _ (Oper.mk _ (Op.index _ _ _) _ _ _ _) _ _; exact xo_sindex rfl rfl) | (show OpV _ _ _ _ (Oper.mk _ (Op.slice _ _ (some _) (some _) none) _ _ _ _) _ _; first | exact xo_slice rfl rfl rfl | exact xo_slcB rfl rfl rfl) | (show OpV _ _ _ _ (Oper.mk _ (Op.slice _ _ (some _) none none) _ _ _ _) _ _; first | exact xo_from rfl rfl | exact xo_slcFrom rfl rfl) | (show OpV _ _ _ _ (Oper.mk _ (Op.slice _ _ none (some _) none) _ _ _ _) _ _; first | exact xo_to rfl rfl | exact xo_slcTo rfl rfl) | (show OpV _ _ _ _ (Oper.mk _ (Op.slice _ _ none (some _) (some _)) _ _ _ _) _ _; exact xo_slc3 rfl rfl rfl)) ?_ | refine wl_v rfl rfl rfl (by first  | fail) ?_) | refine wc_ret rfl ?_) | (show WC _ (Code.cond _ _ _) _ _ _ _; (refine wc_cond rfl (fun hc => ?_) (fun hc => ?_) <;> (try (simp only [decide_eq_true_eq, decide_eq_false_iff_not, Bool.and_eq_true, Bool.or_eq_true, Bool.and_eq_false_iff, Bool.or_eq_false_iff, Bool.not_eq_true', Bool.not_eq_false', Int.not_lt, Int.not_le] at hc)) <;> (try (exfalso; first | omega | contradiction)))))
  refine wc_loop (α := { i : Nat // Scan 13 10 s a i }) (fun x => [(0, true, str s), (1, true, i64 (a : Int)), (6, true, i64 (x.1 : Int))]) (fun _ => St w [] [] M) (fun x => s.length - x.1) ⟨a, scan_start _ _ ha⟩ (by first | exact Sub.nil _ | (repeat (first | exact Sub.nil _ | refine Sub.cons (by first | rfl | (simp [look]; done)) ?_))) (fun _ h => h) ?_
  rintro ⟨i, hi⟩
  dsimp only
  have h1 := hi.1
  have h2 := hi.2.1
  repeat' (first | (first | refine wc_seq ?_ | refine wc_region ?_ | refine wl_nil ?_ | refine wn_seq ?_ | refine wn_blk ?_ | refine wc_skip ?_ | refine wc_block ?_ | refine wc_exit rfl ?_ | (show WL _ _ (_ :: _) _ _ _ _; first | refine wl_v rfl rfl rfl (by first | (show OpV _ _ _ _ (Oper.mk _ (Op.move _) _ _ _ _) _ _; exact xo_move rfl) | (show OpV _ _ _ _ (Oper.mk _ (Op.assign _) _ _ _ _) _ _; exact xo_assign rfl) | (show OpV _ _ _ _ (Oper.mk _ (Op.pick _ _ _) _ _ _ _) _ _; first | exact xo_and rfl rfl | exact xo_or rfl rfl) | (show OpV _ _ _ _ (Oper.mk _ (Op.call ⟨.builtin .len, _, _⟩) _ _ _ _) _ _; first | exact xo_slen rfl | exact xo_len rfl) | (show OpV _ _ _ _ (Oper.mk _ (Op.binOp BinOp.eql _ _ _ _) _ _ _ _) _ _; first | exact xo_eql rfl rfl | exact xo_seql rfl rfl | exact xo_beql rfl rfl | exact xo_aeql rfl rfl) | (show OpV _ _ _ _ (Oper.mk _ (Op.binOp BinOp.lss _ _ _ _) _ _ _ _) _ _; exact xo_lss rfl rfl) | (show OpV _ _ _ _ (Oper.mk _ (Op.binOp BinOp.add _ _ _ _) _ _ _ _) _ _; first | exact xo_add rfl rfl | exact ov_sadd rfl rfl (by first | with_reducible exact fun _ => rfl | with_reducible exact fun h => h | exact fun _ => rfl | exact fun h => h | (intro himp; simp_all; done)) (by first | with_reducible exact fun _ => rfl | with_reducible exact fun h => h | exact fun _ => rfl | exact fun h => h | (intro himp; simp_all; done)) (by intro hcg; first | omega | (simp only [List.length_append, List.length_take, List.length_drop, List.length_cons, List.length_nil, List.length_nil]; omega))) | (show OpV _ _ _ _ (Oper.mk _ (Op.index _ _ _) _ _ _ _) _ _; exact xo_sindex rfl rfl) | (show OpV _ _ _ _ (Oper.mk _ (Op.slice _ _ (some _) (some _) none) _ _ _ _) _ _; first | exact xo_slice rfl rfl rfl | exact xo_slcB rfl rfl rfl) | (show OpV _ _ _ _ (Oper.mk _ (Op.slice _ _ (some _) none none) _ _ _ _) _ _; first | exact xo_from rfl rfl | exact xo_slcFrom rfl rfl) | (show OpV _ _ _ _ (Oper.mk _ (Op.slice _ _ none (some _) none) _ _ _ _) _ _; first | exact xo_to rfl rfl | exact xo_slcTo rfl rfl) | (show OpV _ _ _ _ (Oper.mk _ (Op.slice _ _ none (some _) (some _)) _ _ _ _) _ _; exact xo_slc3 rfl rfl rfl)) ?_ | refine wl_v rfl rfl rfl (by first  | fail) ?_) | refine wc_ret rfl ?_) | (show WC _ (Code.cond _ _ _) _ _ _ _; (refine wc_cond rfl (fun hc => ?_) (fun hc => ?_) <;> (try (simp only [decide_eq_true_eq, decide_eq_false_iff_not, Bool.and_eq_true, Bool.or_eq_true, Bool.and_eq_false_iff, Bool.or_eq_false_iff, Bool.not_eq_true', Bool.not_eq_false', Int.not_lt, Int.not_le] at hc)) <;> (try (exfalso; first | omega | contradiction)))))
  · have hh := scan_hit hi (by omega) (c13.1 hc.1) (c10.1 hc.2)
    unfold lineV
    rw [hh]
    refine wr_tmp2 rfl rfl rfl rfl ?_
    have : ((s.drop a).take (i - a)).length = i - a := by simp; omega
    simp only [this]
    exact congrArg i64 (by omega)
  · refine wn_cut ⟨i + 1, scan_step hi (by omega) ?_⟩ (by show s.length - (i + 1) < s.length - i; omega) (by first | exact Sub.nil _ | (repeat (first | exact Sub.nil _ | refine Sub.cons (by first | rfl | (simp [look]; done)) ?_))) (fun _ h => h.drop (by repeat (first | exact List.Sublist.refl _ | apply List.Sublist.cons)))
    rintro ⟨e1, e2⟩
    have h3 := c13.2 e1
    have h4 := c10.2 e2
    rcases hc with hc | hc
    · exact hc h3
    · exact hc h4
  · unfold lineV
    rw [scan_end hi (by omega)]
    exact wr_tmp2 rfl rfl rfl rfl rfl
end Go.Proofs.YthkpekmecgbokaaDoor
