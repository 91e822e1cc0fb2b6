/-
  Texts of a proof, joined: ReqK, ReqR, ReqL, ReqM, PctP, PctQ, ReqN.
-/
import Derived.Test.YtjdmnanicaghkaaDoorJFRqAgain1
import Derived.Test.YtjdmnanicaghkaaDoorJFRqAgain2
import Derived.Test.YtjdmnanicaghkaaDoorJFRqAgain3
import Derived.Test.YtjdmnanicaghkaaDoorJFRqAgain4
/-
  Requests compared, written, their path: matricularef03.Same, request.same, request.lines, matricularef03.Text, both Paths.
-/
namespace Go.Proofs.YtjdmnanicaghkaaDoor
open Go.Eng Go.Pct Go.Rsp Go.Txt
set_option maxRecDepth 10000
set_option linter.unusedSimpArgs false
set_option linter.unusedVariables false

variable {M : Ghost} {w0 w : World} {bs : List Nat} {H : List (Nat × Obj)}

theorem rsame_ok (hM : Laid M w) {hv hu : Value} {l l' : List Pr} (hh : SlP M hv l) (hh' : SlP M hu l') (m t b m' t' b' : List UInt8) : Calls Tryd.prog 12 #[.agg #[str m, str t, hv, str b], .agg #[str m', str t', hu, str b']] w (RetE w (.bool (decide (m = m') && decide (t = t') && decide (b = b') && decide (l = l')))) := by
  have hp := fun {w : World} (h : Laid M w) => pairs_ok h hh hh'
  obtain ⟨a, cap, _, _, _, _, _, rfl, _⟩ := hh.open
  obtain ⟨a', cap', _, _, _, _, _, rfl, _⟩ := hh'.open
  refine calls_st (l := [.agg #[str m, str t, .slice a l.length cap, str b], .agg #[str m', str t', .slice a' l'.length cap', str b']]) hM Tryd.func12 rfl rfl rfl (E0 := [(0, true, .agg #[str m, str t, .slice a l.length cap, str b]), (1, true, .agg #[str m', str t', .slice a' l'.length cap', str b'])]) (params_cons rfl (params_cons rfl (params_nil _))) ?_
  repeat' (first | (first | refine wc_seq ?_ | refine wc_region ?_ | refine wl_nil ?_ | refine wn_seq ?_ | refine wn_blk ?_ | refine wc_skip ?_ | refine wc_block ?_ | refine wc_exit rfl ?_ | (show WL _ _ (_ :: _) _ _ _ _; first | refine wl_v rfl rfl rfl (by first | (show OpV _ _ _ _ (Oper.mk _ (Op.move _) _ _ _ _) _ _; exact xo_move rfl) | (show OpV _ _ _ _ (Oper.mk _ (Op.assign _) _ _ _ _) _ _; exact xo_assign rfl) | (show OpV _ _ _ _ (Oper.mk _ (Op.pick _ _ _) _ _ _ _) _ _; first | exact xo_and rfl rfl | exact xo_or rfl rfl) | (show OpV _ _ _ _ (Oper.mk _ (Op.binOp BinOp.eql _ _ _ _) _ _ _ _) _ _; first | exact xo_eql rfl rfl | exact xo_seql rfl rfl | exact xo_beql rfl rfl | exact xo_aeql rfl rfl) | (show OpV _ _ _ _ (Oper.mk _ (Op.fieldAddr _ _ _) _ _ _ _) _ _; exact xo_fieldAddr rfl) | (show OpV _ _ _ _ (Oper.mk _ (Op.load _ _) _ _ _ _) _ _; first | exact xo_load1 rfl | exact xo_loadS rfl)) ?_ | refine wl_v rfl rfl rfl (by first | ((show OpV _ _ _ _ (Oper.mk _ (Op.call ⟨.value (.func 16), _, _⟩) _ _ _ _) _ _; exact ov_call Tryd.call16 rfl (by intro himp; first | rfl | (simp_all; done)) (by rfl) (fun _ _ h k => h.ext k) (fun hcg w hw => hp hw.laid))) | fail) ?_ | refine xl_box rfl (fun _ => ?_)) | refine wc_ret rfl ?_) | (show WC _ (Code.cond _ _ _) _ _ _ _; (refine wc_cond rfl (fun hc => ?_) (fun hc => ?_) <;> (try (simp only [decide_eq_true_eq, decide_eq_false_iff_not, Bool.and_eq_true, Bool.or_eq_true, Bool.and_eq_false_iff, Bool.or_eq_false_iff, Bool.not_eq_true', Bool.not_eq_false', Int.not_lt, Int.not_le] at hc)) <;> (try (exfalso; first | omega | contradiction)))))
  exact wr_tmp rfl rfl rfl
theorem qsame_ok (hM : Laid M w) {hv hu : Value} {l l' : List Pr} (hh : SlP M hv l) (hh' : SlP M hu l') (m t b m' t' b' : List UInt8) : Calls Tryd.prog 46 #[.agg #[str m, str t, hv, str b], .agg #[str m', str t', hu, str b']] w (RetE w (.bool (decide (m = m') && decide (t = t') && decide (b = b') && decide (l = l')))) := by
  obtain ⟨a, cap, bb, o, cs, T, fz, rfl, h1, h2, h3, h4⟩ := hh.open
  obtain ⟨a', cap', bb', o', cs', T', fz', rfl, h1', h2', h3', h4'⟩ := hh'.open
  refine calls_st (l := [.agg #[str m, str t, .slice a l.length cap, str b], .agg #[str m', str t', .slice a' l'.length cap', str b']]) hM Tryd.func46 rfl rfl rfl (E0 := [(0, true, .agg #[str m, str t, .slice a l.length cap, str b]), (1, true, .agg #[str m', str t', .slice a' l'.length cap', str b'])]) (params_cons rfl (params_cons rfl (params_nil _))) ?_
  repeat' (first | (first | refine wc_seq ?_ | refine wc_region ?_ | refine wl_nil ?_ | refine wn_seq ?_ | refine wn_blk ?_ | refine wc_skip ?_ | refine wc_block ?_ | refine wc_exit rfl ?_ | (show WL _ _ (_ :: _) _ _ _ _; first | refine wl_v rfl rfl rfl (by first | (show OpV _ _ _ _ (Oper.mk _ (Op.move _) _ _ _ _) _ _; exact xo_move rfl) | (show OpV _ _ _ _ (Oper.mk _ (Op.assign _) _ _ _ _) _ _; exact xo_assign rfl) | (show OpV _ _ _ _ (Oper.mk _ (Op.pick _ _ _) _ _ _ _) _ _; first | exact xo_and rfl rfl | exact xo_or rfl rfl) | (show OpV _ _ _ _ (Oper.mk _ (Op.call ⟨.builtin .len, _, _⟩) _ _ _ _) _ _; first | exact xo_slen rfl | exact xo_len rfl) | (show OpV _ _ _ _ (Oper.mk _ (Op.binOp BinOp.neq _ _ _ _) _ _ _ _) _ _; first | exact xo_neq rfl rfl | exact xo_sneq rfl rfl | exact xo_bneq rfl rfl | exact xo_aneq rfl rfl) | (show OpV _ _ _ _ (Oper.mk _ (Op.binOp BinOp.lss _ _ _ _) _ _ _ _) _ _; exact xo_lss rfl rfl) | (show OpV _ _ _ _ (Oper.mk _ (Op.binOp BinOp.add _ _ _ _) _ _ _ _) _ _; first | exact xo_add rfl rfl | exact ov_sadd rfl rfl (by first | with_reducible exact fun _ => rfl | with_reducible exact fun h => h | exact fun _ => rfl | exact fun h => h | (intro himp; simp_all; done)) (by first | with_reducible exact fun _ => rfl | with_reducible exact fun h => h | exact fun _ => rfl | exact fun h => h | (intro himp; simp_all; done)) (by intro hcg; first | omega | (simp only [List.length_append, List.length_take, List.length_drop, List.length_cons, List.length_nil, List.length_nil]; omega))) | (show OpV _ _ _ _ (Oper.mk _ (Op.fieldAddr _ _ _) _ _ _ _) _ _; exact xo_fieldAddr rfl) | (show OpV _ _ _ _ (Oper.mk _ (Op.load _ _) _ _ _ _) _ _; first | exact xo_load1 rfl | exact xo_loadS rfl)) ?_ | refine wl_v rfl rfl rfl (by first  | fail) ?_ | refine xl_alloc (fun _ => ?_) | refine xl_box rfl (fun _ => ?_) | refine xl_store rfl rfl ?_) | refine wc_ret rfl ?_) | (show WC _ (Code.cond _ _ _) _ _ _ _; (refine wc_cond rfl (fun hc => ?_) (fun hc => ?_) <;> (try (simp only [decide_eq_true_eq, decide_eq_false_iff_not, Bool.and_eq_true, Bool.or_eq_true, Bool.and_eq_false_iff, Bool.or_eq_false_iff, Bool.not_eq_true', Bool.not_eq_false', Int.not_lt, Int.not_le] at hc)) <;> (try (exfalso; first | omega | contradiction)))))
  · refine wr_tmp rfl rfl (congrArg Value.bool ?_)
    symm
    simp only [Bool.and_eq_false_iff, decide_eq_false_iff_not]
    rcases hc with ((h | h) | h) | h
    · exact .inl (.inl (.inl h))
    · exact .inl (.inl (.inr h))
    · exact .inl (.inr h)
    · exact .inr (fun e => h (by rw [e]))
  obtain ⟨⟨⟨e1, e2⟩, e3⟩, e4⟩ := hc
  subst e1 e2 e3
  rename_i b2 b3
  refine wc_loop (α := { i : Nat // i ≤ l.length ∧ ∀ j, j < i → l.getD j default = l'.getD j default }) (fun x => [(2, true, .pointer (some ⟨b2, 0, none⟩)), (3, true, .pointer (some ⟨b3, 0, none⟩)), (36, true, .slice a l.length cap), (37, true, i64 (l.length : Int)), (38, true, i64 (x.1 : Int))]) (fun _ => St w [] [(b3, .cells [str m, str t, .slice a' l'.length cap', str b].toArray 25 (0, 0)), (b2, .cells [str m, str t, .slice a l.length cap, str b].toArray 25 (0, 0))] M) (fun x => l.length - x.1) ⟨0, by omega, by intro j hj; omega⟩ (by first | exact Sub.nil _ | (repeat (first | exact Sub.nil _ | refine Sub.cons (by first | rfl | (simp [look]; done)) ?_))) (fun _ h => h) ?_
  rintro ⟨i, hi, hall⟩
  dsimp only
  rcases Nat.lt_or_ge i l.length with hlt | hge
  · repeat' (first | (first | refine wc_seq ?_ | refine wc_region ?_ | refine wl_nil ?_ | refine wn_seq ?_ | refine wn_blk ?_ | refine wc_skip ?_ | refine wc_block ?_ | refine wc_exit rfl ?_ | (show WL _ _ (_ :: _) _ _ _ _; first | refine wl_v rfl rfl rfl (by first | (show OpV _ _ _ _ (Oper.mk _ (Op.move _) _ _ _ _) _ _; exact xo_move rfl) | (show OpV _ _ _ _ (Oper.mk _ (Op.assign _) _ _ _ _) _ _; exact xo_assign rfl) | (show OpV _ _ _ _ (Oper.mk _ (Op.pick _ _ _) _ _ _ _) _ _; first | exact xo_and rfl rfl | exact xo_or rfl rfl) | (show OpV _ _ _ _ (Oper.mk _ (Op.call ⟨.builtin .len, _, _⟩) _ _ _ _) _ _; first | exact xo_slen rfl | exact xo_len rfl) | (show OpV _ _ _ _ (Oper.mk _ (Op.binOp BinOp.neq _ _ _ _) _ _ _ _) _ _; first | exact xo_neq rfl rfl | exact xo_sneq rfl rfl | exact xo_bneq rfl rfl | exact xo_aneq rfl rfl) | (show OpV _ _ _ _ (Oper.mk _ (Op.binOp BinOp.lss _ _ _ _) _ _ _ _) _ _; exact xo_lss rfl rfl) | (show OpV _ _ _ _ (Oper.mk _ (Op.binOp BinOp.add _ _ _ _) _ _ _ _) _ _; first | exact xo_add rfl rfl | exact ov_sadd rfl rfl (by first | with_reducible exact fun _ => rfl | with_reducible exact fun h => h | exact fun _ => rfl | exact fun h => h | (intro himp; simp_all; done)) (by first | with_reducible exact fun _ => rfl | with_reducible exact fun h => h | exact fun _ => rfl | exact fun h => h | (intro himp; simp_all; done)) (by intro hcg; first | omega | (simp only [List.length_append, List.length_take, List.length_drop, List.length_cons, List.length_nil, List.length_nil]; omega))) | (show OpV _ _ _ _ (Oper.mk _ (Op.fieldAddr _ _ _) _ _ _ _) _ _; exact xo_fieldAddr rfl) | (show OpV _ _ _ _ (Oper.mk _ (Op.load _ _) _ _ _ _) _ _; first | exact xo_load1 rfl | exact xo_loadS rfl)) ?_ | refine wl_v rfl rfl rfl (by first | (show OpV _ _ _ _ (Oper.mk _ (Op.indexAddr _ _ _) _ _ _ _) _ _; exact ov_indexAddr rfl rfl (by (fail_if_success (with_reducible show (987654321 : Int) = _)); repeat' (first | with_reducible exact nc_cast | with_reducible exact nc_lit | apply nc_add | apply nc_div | apply nc_mod | apply nc_mul | refine nc_sub (m := _) (n := _) nc_cast nc_lit (by omega) | refine nc_sub (m := _) (n := _) nc_cast nc_cast (by omega))) (by first | with_reducible exact fun _ => rfl | with_reducible exact fun h => h | exact fun _ => rfl | exact fun h => h | (intro himp; simp_all; done)) (by first | with_reducible exact fun _ => rfl | with_reducible exact fun h => h | exact fun _ => rfl | exact fun h => h | (intro himp; simp_all; done)) rfl (by first | exact (rfl : _ = some 1) | exact (rfl : _ = some 2) | exact (rfl : _ = some 3) | exact (rfl : _ = some 4) | exact (rfl : _ = some 6) | exact rfl) (fun hcg => (h3 (by intro h; subst h; simp only [List.length_nil] at *; omega)).1) (by intro hcg; first | omega | (simp at hcg; omega))) | (show OpV _ _ _ _ (Oper.mk _ (Op.load _ _) _ _ _ _) _ _; exact ov_loadSM rfl (by first | with_reducible exact fun _ => rfl | with_reducible exact fun h => h | exact fun _ => rfl | exact fun h => h | (intro himp; simp_all; done)) rfl (by first | exact (rfl : _ = some 1) | exact (rfl : _ = some 2) | exact (rfl : _ = some 3) | exact (rfl : _ = some 4) | exact (rfl : _ = some 6) | exact rfl) (fun hcg => (h3 (by intro h; subst h; simp only [List.length_nil] at *; omega)).2) (fun hcg => pcell (h4 i (by omega)))) | fail) ?_ | refine xl_alloc (fun _ => ?_) | refine xl_box rfl (fun _ => ?_) | refine xl_store rfl rfl ?_) | refine wc_ret rfl ?_) | (show WC _ (Code.cond _ _ _) _ _ _ _; (refine wc_cond rfl (fun hc => ?_) (fun hc => ?_) <;> (try (simp only [decide_eq_true_eq, decide_eq_false_iff_not, Bool.and_eq_true, Bool.or_eq_true, Bool.and_eq_false_iff, Bool.or_eq_false_iff, Bool.not_eq_true', Bool.not_eq_false', Int.not_lt, Int.not_le] at hc)) <;> (try (exfalso; first | omega | contradiction)))))
    rename_i b6
    refine wc_weak (E' := [(2, true, .pointer (some ⟨b2, 0, none⟩)), (3, true, .pointer (some ⟨b3, 0, none⟩)), (36, true, .slice a l.length cap), (37, true, i64 (l.length : Int)), (38, true, i64 (i : Int)), (5, true, i64 (i : Int)), (6, true, .pointer (some ⟨b6, 0, none⟩))]) (by first | exact Sub.nil _ | (repeat (first | exact Sub.nil _ | refine Sub.cons (by first | rfl | (simp [look]; done)) ?_))) (fun _ h => h) ?_
    refine wc_draw 7 (by kernel_rfl) rfl (by kernel_rfl) (fun _ _ h k => h.ext k) ?_
    repeat' (first | (show WD _ _ (_ :: _) _ _ _ _ _ _; first | refine wd_v rfl rfl rfl rfl rfl rfl (by first | (show OpV _ _ _ _ (Oper.mk _ (Op.move _) _ _ _ _) _ _; exact xo_move rfl) | (show OpV _ _ _ _ (Oper.mk _ (Op.assign _) _ _ _ _) _ _; exact xo_assign rfl) | (show OpV _ _ _ _ (Oper.mk _ (Op.pick _ _ _) _ _ _ _) _ _; first | exact xo_and rfl rfl | exact xo_or rfl rfl) | (show OpV _ _ _ _ (Oper.mk _ (Op.call ⟨.builtin .len, _, _⟩) _ _ _ _) _ _; first | exact xo_slen rfl | exact xo_len rfl) | (show OpV _ _ _ _ (Oper.mk _ (Op.binOp BinOp.neq _ _ _ _) _ _ _ _) _ _; first | exact xo_neq rfl rfl | exact xo_sneq rfl rfl | exact xo_bneq rfl rfl | exact xo_aneq rfl rfl) | (show OpV _ _ _ _ (Oper.mk _ (Op.binOp BinOp.lss _ _ _ _) _ _ _ _) _ _; exact xo_lss rfl rfl) | (show OpV _ _ _ _ (Oper.mk _ (Op.binOp BinOp.add _ _ _ _) _ _ _ _) _ _; first | exact xo_add rfl rfl | exact ov_sadd rfl rfl (by first | with_reducible exact fun _ => rfl | with_reducible exact fun h => h | exact fun _ => rfl | exact fun h => h | (intro himp; simp_all; done)) (by first | with_reducible exact fun _ => rfl | with_reducible exact fun h => h | exact fun _ => rfl | exact fun h => h | (intro himp; simp_all; done)) (by intro hcg; first | omega | (simp only [List.length_append, List.length_take, List.length_drop, List.length_cons, List.length_nil, List.length_nil]; omega))) | (show OpV _ _ _ _ (Oper.mk _ (Op.fieldAddr _ _ _) _ _ _ _) _ _; exact xo_fieldAddr rfl) | (show OpV _ _ _ _ (Oper.mk _ (Op.load _ _) _ _ _ _) _ _; first | exact xo_load1 rfl | exact xo_loadS rfl)) ?_ | refine wd_v rfl rfl rfl rfl rfl rfl (by first | (show OpV _ _ _ _ (Oper.mk _ (Op.indexAddr _ _ _) _ _ _ _) _ _; exact ov_indexAddr rfl rfl (by (fail_if_success (with_reducible show (987654321 : Int) = _)); repeat' (first | with_reducible exact nc_cast | with_reducible exact nc_lit | apply nc_add | apply nc_div | apply nc_mod | apply nc_mul | refine nc_sub (m := _) (n := _) nc_cast nc_lit (by omega) | refine nc_sub (m := _) (n := _) nc_cast nc_cast (by omega))) (by first | with_reducible exact fun _ => rfl | with_reducible exact fun h => h | exact fun _ => rfl | exact fun h => h | (intro himp; simp_all; done)) (by first | with_reducible exact fun _ => rfl | with_reducible exact fun h => h | exact fun _ => rfl | exact fun h => h | (intro himp; simp_all; done)) rfl (by first | exact (rfl : _ = some 1) | exact (rfl : _ = some 2) | exact (rfl : _ = some 3) | exact (rfl : _ = some 4) | exact (rfl : _ = some 6) | exact rfl) (fun hcg => (h3' (by intro h; subst h; simp only [List.length_nil] at *; omega)).1) (by intro hcg; first | omega | (simp at hcg; omega))) | (show OpV _ _ _ _ (Oper.mk _ (Op.load _ _) _ _ _ _) _ _; exact ov_loadSM rfl (by first | with_reducible exact fun _ => rfl | with_reducible exact fun h => h | exact fun _ => rfl | exact fun h => h | (intro himp; simp_all; done)) rfl (by first | exact (rfl : _ = some 1) | exact (rfl : _ = some 2) | exact (rfl : _ = some 3) | exact (rfl : _ = some 4) | exact (rfl : _ = some 6) | exact rfl) (fun hcg => (h3' (by intro h; subst h; simp only [List.length_nil] at *; omega)).2) (fun hcg => pcell (h4' i (by omega)))) | fail) ?_ | refine wd_new rfl rfl rfl rfl rfl rfl steady_fresh (or_buildSlice rfl rfl (by first | exact (rfl : _ = some 1) | exact (rfl : _ = some 2) | exact (rfl : _ = some 3) | exact (rfl : _ = some 4) | exact (rfl : _ = some 6) | exact rfl) (fun _ => rfl) rfl rfl rfl (by simp only [cellsAll, Value.cells, List.size_toArray, List.length_cons, List.length_nil, Nat.zero_add, Nat.reduceAdd, and_self, if_true, true_and, Option.map_some, List.cons_append, List.nil_append]; first | done | rfl)) ?_ | refine wd_conv rfl rfl rfl rfl rfl rfl rfl rfl rfl rfl ?_) | (show WD _ _ _ _ _ _ _ _ _; first | refine wd_nil ?_ | refine wd_nilF ?_) | (first | refine wc_seq ?_ | refine wc_region ?_ | refine wl_nil ?_ | refine wn_seq ?_ | refine wn_blk ?_ | refine wc_skip ?_ | refine wc_block ?_ | refine wc_exit rfl ?_ | (show WL _ _ (_ :: _) _ _ _ _; first | refine wl_v rfl rfl rfl (by first | (show OpV _ _ _ _ (Oper.mk _ (Op.move _) _ _ _ _) _ _; exact xo_move rfl) | (show OpV _ _ _ _ (Oper.mk _ (Op.assign _) _ _ _ _) _ _; exact xo_assign rfl) | (show OpV _ _ _ _ (Oper.mk _ (Op.pick _ _ _) _ _ _ _) _ _; first | exact xo_and rfl rfl | exact xo_or rfl rfl) | (show OpV _ _ _ _ (Oper.mk _ (Op.call ⟨.builtin .len, _, _⟩) _ _ _ _) _ _; first | exact xo_slen rfl | exact xo_len rfl) | (show OpV _ _ _ _ (Oper.mk _ (Op.binOp BinOp.neq _ _ _ _) _ _ _ _) _ _; first | exact xo_neq rfl rfl | exact xo_sneq rfl rfl | exact xo_bneq rfl rfl | exact xo_aneq rfl rfl) | (show OpV _ _ _ _ (Oper.mk _ (Op.binOp BinOp.lss _ _ _ _) _ _ _ _) _ _; exact xo_lss rfl rfl) | (show OpV _ _ _ _ (Oper.mk _ (Op.binOp BinOp.add _ _ _ _) _ _ _ _) _ _; first | exact xo_add rfl rfl | exact ov_sadd rfl rfl (by first | with_reducible exact fun _ => rfl | with_reducible exact fun h => h | exact fun _ => rfl | exact fun h => h | (intro himp; simp_all; done)) (by first | with_reducible exact fun _ => rfl | with_reducible exact fun h => h | exact fun _ => rfl | exact fun h => h | (intro himp; simp_all; done)) (by intro hcg; first | omega | (simp only [List.length_append, List.length_take, List.length_drop, List.length_cons, List.length_nil, List.length_nil]; omega))) | (show OpV _ _ _ _ (Oper.mk _ (Op.fieldAddr _ _ _) _ _ _ _) _ _; exact xo_fieldAddr rfl) | (show OpV _ _ _ _ (Oper.mk _ (Op.load _ _) _ _ _ _) _ _; first | exact xo_load1 rfl | exact xo_loadS rfl)) ?_ | refine wl_v rfl rfl rfl (by first | (show OpV _ _ _ _ (Oper.mk _ (Op.indexAddr _ _ _) _ _ _ _) _ _; exact ov_indexAddr rfl rfl (by (fail_if_success (with_reducible show (987654321 : Int) = _)); repeat' (first | with_reducible exact nc_cast | with_reducible exact nc_lit | apply nc_add | apply nc_div | apply nc_mod | apply nc_mul | refine nc_sub (m := _) (n := _) nc_cast nc_lit (by omega) | refine nc_sub (m := _) (n := _) nc_cast nc_cast (by omega))) (by first | with_reducible exact fun _ => rfl | with_reducible exact fun h => h | exact fun _ => rfl | exact fun h => h | (intro himp; simp_all; done)) (by first | with_reducible exact fun _ => rfl | with_reducible exact fun h => h | exact fun _ => rfl | exact fun h => h | (intro himp; simp_all; done)) rfl (by first | exact (rfl : _ = some 1) | exact (rfl : _ = some 2) | exact (rfl : _ = some 3) | exact (rfl : _ = some 4) | exact (rfl : _ = some 6) | exact rfl) (fun hcg => (h3' (by intro h; subst h; simp only [List.length_nil] at *; omega)).1) (by intro hcg; first | omega | (simp at hcg; omega))) | (show OpV _ _ _ _ (Oper.mk _ (Op.load _ _) _ _ _ _) _ _; exact ov_loadSM rfl (by first | with_reducible exact fun _ => rfl | with_reducible exact fun h => h | exact fun _ => rfl | exact fun h => h | (intro himp; simp_all; done)) rfl (by first | exact (rfl : _ = some 1) | exact (rfl : _ = some 2) | exact (rfl : _ = some 3) | exact (rfl : _ = some 4) | exact (rfl : _ = some 6) | exact rfl) (fun hcg => (h3' (by intro h; subst h; simp only [List.length_nil] at *; omega)).2) (fun hcg => pcell (h4' i (by omega)))) | fail) ?_ | refine xl_alloc (fun _ => ?_) | refine xl_box rfl (fun _ => ?_) | refine xl_store rfl rfl ?_) | refine wc_ret rfl ?_))
    repeat' (first | (first | refine wc_seq ?_ | refine wc_region ?_ | refine wl_nil ?_ | refine wn_seq ?_ | refine wn_blk ?_ | refine wc_skip ?_ | refine wc_block ?_ | refine wc_exit rfl ?_ | (show WL _ _ (_ :: _) _ _ _ _; first | refine wl_v rfl rfl rfl (by first | (show OpV _ _ _ _ (Oper.mk _ (Op.move _) _ _ _ _) _ _; exact xo_move rfl) | (show OpV _ _ _ _ (Oper.mk _ (Op.assign _) _ _ _ _) _ _; exact xo_assign rfl) | (show OpV _ _ _ _ (Oper.mk _ (Op.pick _ _ _) _ _ _ _) _ _; first | exact xo_and rfl rfl | exact xo_or rfl rfl) | (show OpV _ _ _ _ (Oper.mk _ (Op.call ⟨.builtin .len, _, _⟩) _ _ _ _) _ _; first | exact xo_slen rfl | exact xo_len rfl) | (show OpV _ _ _ _ (Oper.mk _ (Op.binOp BinOp.neq _ _ _ _) _ _ _ _) _ _; first | exact xo_neq rfl rfl | exact xo_sneq rfl rfl | exact xo_bneq rfl rfl | exact xo_aneq rfl rfl) | (show OpV _ _ _ _ (Oper.mk _ (Op.binOp BinOp.lss _ _ _ _) _ _ _ _) _ _; exact xo_lss rfl rfl) | (show OpV _ _ _ _ (Oper.mk _ (Op.binOp BinOp.add _ _ _ _) _ _ _ _) _ _; first | exact xo_add rfl rfl | exact ov_sadd rfl rfl (by first | with_reducible exact fun _ => rfl | with_reducible exact fun h => h | exact fun _ => rfl | exact fun h => h | (intro himp; simp_all; done)) (by first | with_reducible exact fun _ => rfl | with_reducible exact fun h => h | exact fun _ => rfl | exact fun h => h | (intro himp; simp_all; done)) (by intro hcg; first | omega | (simp only [List.length_append, List.length_take, List.length_drop, List.length_cons, List.length_nil, List.length_nil]; omega))) | (show OpV _ _ _ _ (Oper.mk _ (Op.fieldAddr _ _ _) _ _ _ _) _ _; exact xo_fieldAddr rfl) | (show OpV _ _ _ _ (Oper.mk _ (Op.load _ _) _ _ _ _) _ _; first | exact xo_load1 rfl | exact xo_loadS rfl)) ?_ | refine wl_v rfl rfl rfl (by first  | fail) ?_ | refine xl_alloc (fun _ => ?_) | refine xl_box rfl (fun _ => ?_) | refine xl_store rfl rfl ?_) | refine wc_ret rfl ?_) | (show WC _ (Code.cond _ _ _) _ _ _ _; (refine wc_cond rfl (fun hc => ?_) (fun hc => ?_) <;> (try (simp only [decide_eq_true_eq, decide_eq_false_iff_not, Bool.and_eq_true, Bool.or_eq_true, Bool.and_eq_false_iff, Bool.or_eq_false_iff, Bool.not_eq_true', Bool.not_eq_false', Int.not_lt, Int.not_le] at hc)) <;> (try (exfalso; first | omega | contradiction)))))
    · refine wr_tmp rfl rfl (congrArg Value.bool ?_)
      symm
      simp only [Bool.and_eq_false_iff, decide_eq_false_iff_not]
      refine .inr ?_
      rintro rfl
      simp at hc
    · have hh : l.getD i default = l'.getD i default := by
        simp at hc
        exact Prod.ext hc.1 hc.2
      refine wn_cut ⟨i + 1, by omega, ?_⟩ (by show l.length - (i + 1) < l.length - i; omega) (by first | exact Sub.nil _ | (repeat (first | exact Sub.nil _ | refine Sub.cons (by first | rfl | (simp [look]; done)) ?_))) (fun _ h => h.drop (by repeat (first | exact List.Sublist.refl _ | apply List.Sublist.cons)))
      intro j hj
      by_cases h : j = i
      · subst h; exact hh
      · exact hall j (by omega)
  · repeat' (first | (first | refine wc_seq ?_ | refine wc_region ?_ | refine wl_nil ?_ | refine wn_seq ?_ | refine wn_blk ?_ | refine wc_skip ?_ | refine wc_block ?_ | refine wc_exit rfl ?_ | (show WL _ _ (_ :: _) _ _ _ _; first | refine wl_v rfl rfl rfl (by first | (show OpV _ _ _ _ (Oper.mk _ (Op.move _) _ _ _ _) _ _; exact xo_move rfl) | (show OpV _ _ _ _ (Oper.mk _ (Op.assign _) _ _ _ _) _ _; exact xo_assign rfl) | (show OpV _ _ _ _ (Oper.mk _ (Op.pick _ _ _) _ _ _ _) _ _; first | exact xo_and rfl rfl | exact xo_or rfl rfl) | (show OpV _ _ _ _ (Oper.mk _ (Op.call ⟨.builtin .len, _, _⟩) _ _ _ _) _ _; first | exact xo_slen rfl | exact xo_len rfl) | (show OpV _ _ _ _ (Oper.mk _ (Op.binOp BinOp.neq _ _ _ _) _ _ _ _) _ _; first | exact xo_neq rfl rfl | exact xo_sneq rfl rfl | exact xo_bneq rfl rfl | exact xo_aneq rfl rfl) | (show OpV _ _ _ _ (Oper.mk _ (Op.binOp BinOp.lss _ _ _ _) _ _ _ _) _ _; exact xo_lss rfl rfl) | (show OpV _ _ _ _ (Oper.mk _ (Op.binOp BinOp.add _ _ _ _) _ _ _ _) _ _; first | exact xo_add rfl rfl | exact ov_sadd rfl rfl (by first | with_reducible exact fun _ => rfl | with_reducible exact fun h => h | exact fun _ => rfl | exact fun h => h | (intro himp; simp_all; done)) (by first | with_reducible exact fun _ => rfl | with_reducible exact fun h => h | exact fun _ => rfl | exact fun h => h | (intro himp; simp_all; done)) (by intro hcg; first | omega | (simp only [List.length_append, List.length_take, List.length_drop, List.length_cons, List.length_nil, List.length_nil]; omega))) | (show OpV _ _ _ _ (Oper.mk _ (Op.fieldAddr _ _ _) _ _ _ _) _ _; exact xo_fieldAddr rfl) | (show OpV _ _ _ _ (Oper.mk _ (Op.load _ _) _ _ _ _) _ _; first | exact xo_load1 rfl | exact xo_loadS rfl)) ?_ | refine wl_v rfl rfl rfl (by first  | fail) ?_ | refine xl_alloc (fun _ => ?_) | refine xl_box rfl (fun _ => ?_) | refine xl_store rfl rfl ?_) | refine wc_ret rfl ?_) | (show WC _ (Code.cond _ _ _) _ _ _ _; (refine wc_cond rfl (fun hc => ?_) (fun hc => ?_) <;> (try (simp only [decide_eq_true_eq, decide_eq_false_iff_not, Bool.and_eq_true, Bool.or_eq_true, Bool.and_eq_false_iff, Bool.or_eq_false_iff, Bool.not_eq_true', Bool.not_eq_false', Int.not_lt, Int.not_le] at hc)) <;> (try (exfalso; first | omega | contradiction)))))
    refine wr_tmp rfl rfl (congrArg Value.bool ?_)
    have : l = l' := by
      apply List.ext_getElem (by omega)
      intro j hj hj'
      have := hall j (by omega)
      simpa [hj, hj'] using this
    simp [this]
def hlineQ (gap : List UInt8) (p : Pr) : List UInt8 := p.1 ++ [58] ++ gap ++ p.2 ++ [13, 10]
theorem hlineQ_length (gap : List UInt8) (p : Pr) : (hlineQ gap p).length = p.1.length + 1 + gap.length + p.2.length + 2 := by
  unfold hlineQ; simp only [List.length_append, List.length_cons, List.length_nil]
def sVerL : List UInt8 := [32, 72, 84, 84, 80, 47, 49, 46, 49]
/-- a request's bytes -/
def linesQ (gap : List UInt8) (r : Req) : List UInt8 := r.meth ++ [32] ++ r.targ ++ sVerL ++ [13, 10] ++ r.headers.flatMap (hlineQ gap) ++ [13, 10] ++ r.body
theorem flat_take (f : Pr → List UInt8) {l : List Pr} {i : Nat} (h : i < l.length) : ((l.take i).flatMap f).length + (f (l.getD i default)).length ≤ (l.flatMap f).length := by
  conv => rhs; rw [← List.take_append_drop i l, dropP h]
  simp only [List.flatMap_append, List.flatMap_cons, List.length_append]; omega
theorem flat_succ (f : Pr → List UInt8) {l : List Pr} {i : Nat} (h : i < l.length) : (l.take (i + 1)).flatMap f = (l.take i).flatMap f ++ f (l.getD i default) := by
  have e : l.getD i default = l[i] := by simp [h]
  rw [List.take_succ_eq_append_getElem h, List.flatMap_append, e]; simp
theorem qlines_ok (hM : Laid M w) {hv : Value} {l : List Pr} (hh : SlP M hv l) (m t b gap : List UInt8) (hb : (linesQ gap ⟨m, t, l, b⟩).length ≤ 1000000000) : Calls Tryd.prog 43 #[.agg #[str m, str t, hv, str b], str gap] w (RetE w (str (linesQ gap ⟨m, t, l, b⟩))) := by
  obtain ⟨a, cap, bb, o, cs, T, fz, rfl, h1, h2, h3, h4⟩ := hh.open
  unfold linesQ at *
  dsimp only at *
  simp only [List.length_append, List.length_cons, List.length_nil] at hb
  have hvl : sVerL.length = 9 := rfl
  refine calls_st (l := [.agg #[str m, str t, .slice a l.length cap, str b], str gap]) hM Tryd.func43 rfl rfl rfl (E0 := [(0, true, .agg #[str m, str t, .slice a l.length cap, str b]), (1, true, str gap)]) (params_cons rfl (params_cons rfl (params_nil _))) ?_
  repeat' (first | (first | refine wc_seq ?_ | refine wc_region ?_ | refine wl_nil ?_ | refine wn_seq ?_ | refine wn_blk ?_ | refine wc_skip ?_ | refine wc_block ?_ | refine wc_exit rfl ?_ | (show WL _ _ (_ :: _) _ _ _ _; first | refine wl_v rfl rfl rfl (by first | (show OpV _ _ _ _ (Oper.mk _ (Op.move _) _ _ _ _) _ _; exact xo_move rfl) | (show OpV _ _ _ _ (Oper.mk _ (Op.assign _) _ _ _ _) _ _; exact xo_assign rfl) | (show OpV _ _ _ _ (Oper.mk _ (Op.call ⟨.builtin .len, _, _⟩) _ _ _ _) _ _; first | exact xo_slen rfl | exact xo_len rfl) | (show OpV _ _ _ _ (Oper.mk _ (Op.binOp BinOp.lss _ _ _ _) _ _ _ _) _ _; exact xo_lss rfl rfl) | (show OpV _ _ _ _ (Oper.mk _ (Op.binOp BinOp.add _ _ _ _) _ _ _ _) _ _; first | exact xo_add rfl rfl | exact ov_sadd rfl rfl (by first | with_reducible exact fun _ => rfl | with_reducible exact fun h => h | exact fun _ => rfl | exact fun h => h | (intro himp; simp_all; done)) (by first | with_reducible exact fun _ => rfl | with_reducible exact fun h => h | exact fun _ => rfl | exact fun h => h | (intro himp; simp_all; done)) (by intro hcg; first | omega | (simp only [List.length_append, List.length_take, List.length_drop, List.length_cons, List.length_nil, List.length_nil]; omega))) | (show OpV _ _ _ _ (Oper.mk _ (Op.fieldAddr _ _ _) _ _ _ _) _ _; exact xo_fieldAddr rfl) | (show OpV _ _ _ _ (Oper.mk _ (Op.load _ _) _ _ _ _) _ _; first | exact xo_load1 rfl | exact xo_loadS rfl)) ?_ | refine wl_v rfl rfl rfl (by first  | fail) ?_ | refine xl_alloc (fun _ => ?_) | refine xl_box rfl (fun _ => ?_) | refine xl_store rfl rfl ?_) | refine wc_ret rfl ?_) | (show WC _ (Code.cond _ _ _) _ _ _ _; (refine wc_cond rfl (fun hc => ?_) (fun hc => ?_) <;> (try (simp only [decide_eq_true_eq, decide_eq_false_iff_not, Bool.and_eq_true, Bool.or_eq_true, Bool.and_eq_false_iff, Bool.or_eq_false_iff, Bool.not_eq_true', Bool.not_eq_false', Int.not_lt, Int.not_le] at hc)) <;> (try (exfalso; first | omega | contradiction)))))
  rename_i b2
  refine wc_loop (α := { i : Nat // i ≤ l.length }) (fun x => [(1, true, str gap), (2, true, .pointer (some ⟨b2, 0, none⟩)), (5, true, str (m ++ [32] ++ t ++ sVerL ++ [13, 10] ++ (l.take x.1).flatMap (hlineQ gap))), (17, true, .slice a l.length cap), (18, true, i64 (l.length : Int)), (19, true, i64 (x.1 : Int))]) (fun _ => St w [] [(b2, .cells [str m, str t, .slice a l.length cap, str b].toArray 25 (0, 0))] M) (fun x => l.length - x.1) ⟨0, by omega⟩ (by rw [List.take_zero, List.flatMap_nil, List.append_nil]; exact (by first | exact Sub.nil _ | (repeat (first | exact Sub.nil _ | refine Sub.cons (by first | rfl | (simp [look]; done)) ?_)))) (fun _ h => h) ?_
  rintro ⟨i, hi⟩
  dsimp only
  rcases Nat.lt_or_ge i l.length with hlt | hge
  · have hft := flat_take (hlineQ gap) hlt
    have hfs := flat_succ (hlineQ gap) hlt
    have hll := hlineQ_length gap (l.getD i default)
    repeat' (first | (first | refine wc_seq ?_ | refine wc_region ?_ | refine wl_nil ?_ | refine wn_seq ?_ | refine wn_blk ?_ | refine wc_skip ?_ | refine wc_block ?_ | refine wc_exit rfl ?_ | (show WL _ _ (_ :: _) _ _ _ _; first | refine wl_v rfl rfl rfl (by first | (show OpV _ _ _ _ (Oper.mk _ (Op.move _) _ _ _ _) _ _; exact xo_move rfl) | (show OpV _ _ _ _ (Oper.mk _ (Op.assign _) _ _ _ _) _ _; exact xo_assign rfl) | (show OpV _ _ _ _ (Oper.mk _ (Op.call ⟨.builtin .len, _, _⟩) _ _ _ _) _ _; first | exact xo_slen rfl | exact xo_len rfl) | (show OpV _ _ _ _ (Oper.mk _ (Op.binOp BinOp.lss _ _ _ _) _ _ _ _) _ _; exact xo_lss rfl rfl) | (show OpV _ _ _ _ (Oper.mk _ (Op.binOp BinOp.add _ _ _ _) _ _ _ _) _ _; first | exact xo_add rfl rfl | exact ov_sadd rfl rfl (by first | with_reducible exact fun _ => rfl | with_reducible exact fun h => h | exact fun _ => rfl | exact fun h => h | (intro himp; simp_all; done)) (by first | with_reducible exact fun _ => rfl | with_reducible exact fun h => h | exact fun _ => rfl | exact fun h => h | (intro himp; simp_all; done)) (by intro hcg; first | omega | (simp only [List.length_append, List.length_take, List.length_drop, List.length_cons, List.length_nil, List.length_nil]; omega))) | (show OpV _ _ _ _ (Oper.mk _ (Op.fieldAddr _ _ _) _ _ _ _) _ _; exact xo_fieldAddr rfl) | (show OpV _ _ _ _ (Oper.mk _ (Op.load _ _) _ _ _ _) _ _; first | exact xo_load1 rfl | exact xo_loadS rfl)) ?_ | refine wl_v rfl rfl rfl (by first | (show OpV _ _ _ _ (Oper.mk _ (Op.indexAddr _ _ _) _ _ _ _) _ _; exact ov_indexAddr rfl rfl (by (fail_if_success (with_reducible show (987654321 : Int) = _)); repeat' (first | with_reducible exact nc_cast | with_reducible exact nc_lit | apply nc_add | apply nc_div | apply nc_mod | apply nc_mul | refine nc_sub (m := _) (n := _) nc_cast nc_lit (by omega) | refine nc_sub (m := _) (n := _) nc_cast nc_cast (by omega))) (by first | with_reducible exact fun _ => rfl | with_reducible exact fun h => h | exact fun _ => rfl | exact fun h => h | (intro himp; simp_all; done)) (by first | with_reducible exact fun _ => rfl | with_reducible exact fun h => h | exact fun _ => rfl | exact fun h => h | (intro himp; simp_all; done)) rfl (by first | exact (rfl : _ = some 1) | exact (rfl : _ = some 2) | exact (rfl : _ = some 3) | exact (rfl : _ = some 4) | exact (rfl : _ = some 6) | exact rfl) (fun hcg => (h3 (by intro h; subst h; simp only [List.length_nil] at *; omega)).1) (by intro hcg; first | omega | (simp at hcg; omega))) | (show OpV _ _ _ _ (Oper.mk _ (Op.load _ _) _ _ _ _) _ _; exact ov_loadSM rfl (by first | with_reducible exact fun _ => rfl | with_reducible exact fun h => h | exact fun _ => rfl | exact fun h => h | (intro himp; simp_all; done)) rfl (by first | exact (rfl : _ = some 1) | exact (rfl : _ = some 2) | exact (rfl : _ = some 3) | exact (rfl : _ = some 4) | exact (rfl : _ = some 6) | exact rfl) (fun hcg => (h3 (by intro h; subst h; simp only [List.length_nil] at *; omega)).2) (fun hcg => pcell (h4 i (by omega)))) | fail) ?_ | refine xl_alloc (fun _ => ?_) | refine xl_box rfl (fun _ => ?_) | refine xl_store rfl rfl ?_) | refine wc_ret rfl ?_) | (show WC _ (Code.cond _ _ _) _ _ _ _; (refine wc_cond rfl (fun hc => ?_) (fun hc => ?_) <;> (try (simp only [decide_eq_true_eq, decide_eq_false_iff_not, Bool.and_eq_true, Bool.or_eq_true, Bool.and_eq_false_iff, Bool.or_eq_false_iff, Bool.not_eq_true', Bool.not_eq_false', Int.not_lt, Int.not_le] at hc)) <;> (try (exfalso; first | omega | contradiction)))))
    refine wn_cut ⟨i + 1, by omega⟩ (by show l.length - (i + 1) < l.length - i; omega) (by rw [hfs]; unfold hlineQ; simp only [← List.append_assoc]; exact (by first | exact Sub.nil _ | (repeat (first | exact Sub.nil _ | refine Sub.cons (by first | rfl | (simp [look]; done)) ?_)))) (fun _ h => h.drop (by repeat (first | exact List.Sublist.refl _ | apply List.Sublist.cons)))
  · have hfull : l.take i = l := List.take_of_length_le (by omega)
    rw [hfull]
    repeat' (first | (first | refine wc_seq ?_ | refine wc_region ?_ | refine wl_nil ?_ | refine wn_seq ?_ | refine wn_blk ?_ | refine wc_skip ?_ | refine wc_block ?_ | refine wc_exit rfl ?_ | (show WL _ _ (_ :: _) _ _ _ _; first | refine wl_v rfl rfl rfl (by first | (show OpV _ _ _ _ (Oper.mk _ (Op.move _) _ _ _ _) _ _; exact xo_move rfl) | (show OpV _ _ _ _ (Oper.mk _ (Op.assign _) _ _ _ _) _ _; exact xo_assign rfl) | (show OpV _ _ _ _ (Oper.mk _ (Op.call ⟨.builtin .len, _, _⟩) _ _ _ _) _ _; first | exact xo_slen rfl | exact xo_len rfl) | (show OpV _ _ _ _ (Oper.mk _ (Op.binOp BinOp.lss _ _ _ _) _ _ _ _) _ _; exact xo_lss rfl rfl) | (show OpV _ _ _ _ (Oper.mk _ (Op.binOp BinOp.add _ _ _ _) _ _ _ _) _ _; first | exact xo_add rfl rfl | exact ov_sadd rfl rfl (by first | with_reducible exact fun _ => rfl | with_reducible exact fun h => h | exact fun _ => rfl | exact fun h => h | (intro himp; simp_all; done)) (by first | with_reducible exact fun _ => rfl | with_reducible exact fun h => h | exact fun _ => rfl | exact fun h => h | (intro himp; simp_all; done)) (by intro hcg; first | omega | (simp only [List.length_append, List.length_take, List.length_drop, List.length_cons, List.length_nil, List.length_nil]; omega))) | (show OpV _ _ _ _ (Oper.mk _ (Op.fieldAddr _ _ _) _ _ _ _) _ _; exact xo_fieldAddr rfl) | (show OpV _ _ _ _ (Oper.mk _ (Op.load _ _) _ _ _ _) _ _; first | exact xo_load1 rfl | exact xo_loadS rfl)) ?_ | refine wl_v rfl rfl rfl (by first  | fail) ?_ | refine xl_alloc (fun _ => ?_) | refine xl_box rfl (fun _ => ?_) | refine xl_store rfl rfl ?_) | refine wc_ret rfl ?_) | (show WC _ (Code.cond _ _ _) _ _ _ _; (refine wc_cond rfl (fun hc => ?_) (fun hc => ?_) <;> (try (simp only [decide_eq_true_eq, decide_eq_false_iff_not, Bool.and_eq_true, Bool.or_eq_true, Bool.and_eq_false_iff, Bool.or_eq_false_iff, Bool.not_eq_true', Bool.not_eq_false', Int.not_lt, Int.not_le] at hc)) <;> (try (exfalso; first | omega | contradiction)))))
    exact wr_tmp rfl rfl rfl
theorem rtext_ok (hM : Laid M w) {hv : Value} {l : List Pr} (hh : SlP M hv l) (m t b gap : List UInt8) (hb : (linesQ gap ⟨m, t, l, b⟩).length ≤ 1000000000) : Calls Tryd.prog 44 #[.agg #[str m, str t, hv, str b], str gap] w (RetE w (str (linesQ gap ⟨m, t, l, b⟩))) := by
  obtain ⟨a, cap, bb, o, cs, T, fz, rfl, h1, h2, h3, h4⟩ := hh.open
  unfold linesQ at *
  dsimp only at *
  simp only [List.length_append, List.length_cons, List.length_nil] at hb
  have hvl : sVerL.length = 9 := rfl
  have hve : m ++ [32] ++ t ++ sVerL ++ [13, 10] = m ++ [32] ++ t ++ [32, 72, 84, 84, 80, 47, 49, 46, 49, 13, 10] := by rw [List.append_assoc (m ++ [32] ++ t)]; rfl
  rw [hve]
  refine calls_st (l := [.agg #[str m, str t, .slice a l.length cap, str b], str gap]) hM Tryd.func44 rfl rfl rfl (E0 := [(0, true, .agg #[str m, str t, .slice a l.length cap, str b]), (1, true, str gap)]) (params_cons rfl (params_cons rfl (params_nil _))) ?_
  repeat' (first | (first | refine wc_seq ?_ | refine wc_region ?_ | refine wl_nil ?_ | refine wn_seq ?_ | refine wn_blk ?_ | refine wc_skip ?_ | refine wc_block ?_ | refine wc_exit rfl ?_ | (show WL _ _ (_ :: _) _ _ _ _; first | refine wl_v rfl rfl rfl (by first | (show OpV _ _ _ _ (Oper.mk _ (Op.move _) _ _ _ _) _ _; exact xo_move rfl) | (show OpV _ _ _ _ (Oper.mk _ (Op.assign _) _ _ _ _) _ _; exact xo_assign rfl) | (show OpV _ _ _ _ (Oper.mk _ (Op.call ⟨.builtin .len, _, _⟩) _ _ _ _) _ _; first | exact xo_slen rfl | exact xo_len rfl) | (show OpV _ _ _ _ (Oper.mk _ (Op.binOp BinOp.lss _ _ _ _) _ _ _ _) _ _; exact xo_lss rfl rfl) | (show OpV _ _ _ _ (Oper.mk _ (Op.binOp BinOp.add _ _ _ _) _ _ _ _) _ _; first | exact xo_add rfl rfl | exact ov_sadd rfl rfl (by first | with_reducible exact fun _ => rfl | with_reducible exact fun h => h | exact fun _ => rfl | exact fun h => h | (intro himp; simp_all; done)) (by first | with_reducible exact fun _ => rfl | with_reducible exact fun h => h | exact fun _ => rfl | exact fun h => h | (intro himp; simp_all; done)) (by intro hcg; first | omega | (simp only [List.length_append, List.length_take, List.length_drop, List.length_cons, List.length_nil, List.length_nil]; omega))) | (show OpV _ _ _ _ (Oper.mk _ (Op.fieldAddr _ _ _) _ _ _ _) _ _; exact xo_fieldAddr rfl) | (show OpV _ _ _ _ (Oper.mk _ (Op.load _ _) _ _ _ _) _ _; first | exact xo_load1 rfl | exact xo_loadS rfl)) ?_ | refine wl_v rfl rfl rfl (by first  | fail) ?_ | refine xl_box rfl (fun _ => ?_)) | refine wc_ret rfl ?_) | (show WC _ (Code.cond _ _ _) _ _ _ _; (refine wc_cond rfl (fun hc => ?_) (fun hc => ?_) <;> (try (simp only [decide_eq_true_eq, decide_eq_false_iff_not, Bool.and_eq_true, Bool.or_eq_true, Bool.and_eq_false_iff, Bool.or_eq_false_iff, Bool.not_eq_true', Bool.not_eq_false', Int.not_lt, Int.not_le] at hc)) <;> (try (exfalso; first | omega | contradiction)))))
  rename_i b2
  refine wc_loop (α := { i : Nat // i ≤ l.length }) (fun x => [(1, true, str gap), (2, true, .pointer (some ⟨b2, 0, none⟩)), (5, true, str (m ++ [32] ++ t ++ [32, 72, 84, 84, 80, 47, 49, 46, 49, 13, 10] ++ (l.take x.1).flatMap (hlineQ gap))), (6, true, i64 (x.1 : Int))]) (fun _ => St w [] [(b2, .cells [str m, str t, .slice a l.length cap, str b].toArray 25 (0, 0))] M) (fun x => l.length - x.1) ⟨0, by omega⟩ (by rw [List.take_zero, List.flatMap_nil, List.append_nil]; exact (by first | exact Sub.nil _ | (repeat (first | exact Sub.nil _ | refine Sub.cons (by first | rfl | (simp [look]; done)) ?_)))) (fun _ h => h) ?_
  rintro ⟨i, hi⟩
  dsimp only
  rcases Nat.lt_or_ge i l.length with hlt | hge
  · have hft := flat_take (hlineQ gap) hlt
    have hfs := flat_succ (hlineQ gap) hlt
    have hll := hlineQ_length gap (l.getD i default)
    repeat' (first | (first | refine wc_seq ?_ | refine wc_region ?_ | refine wl_nil ?_ | refine wn_seq ?_ | refine wn_blk ?_ | refine wc_skip ?_ | refine wc_block ?_ | refine wc_exit rfl ?_ | (show WL _ _ (_ :: _) _ _ _ _; first | refine wl_v rfl rfl rfl (by first | (show OpV _ _ _ _ (Oper.mk _ (Op.move _) _ _ _ _) _ _; exact xo_move rfl) | (show OpV _ _ _ _ (Oper.mk _ (Op.assign _) _ _ _ _) _ _; exact xo_assign rfl) | (show OpV _ _ _ _ (Oper.mk _ (Op.call ⟨.builtin .len, _, _⟩) _ _ _ _) _ _; first | exact xo_slen rfl | exact xo_len rfl) | (show OpV _ _ _ _ (Oper.mk _ (Op.binOp BinOp.lss _ _ _ _) _ _ _ _) _ _; exact xo_lss rfl rfl) | (show OpV _ _ _ _ (Oper.mk _ (Op.binOp BinOp.add _ _ _ _) _ _ _ _) _ _; first | exact xo_add rfl rfl | exact ov_sadd rfl rfl (by first | with_reducible exact fun _ => rfl | with_reducible exact fun h => h | exact fun _ => rfl | exact fun h => h | (intro himp; simp_all; done)) (by first | with_reducible exact fun _ => rfl | with_reducible exact fun h => h | exact fun _ => rfl | exact fun h => h | (intro himp; simp_all; done)) (by intro hcg; first | omega | (simp only [List.length_append, List.length_take, List.length_drop, List.length_cons, List.length_nil, List.length_nil]; omega))) | (show OpV _ _ _ _ (Oper.mk _ (Op.fieldAddr _ _ _) _ _ _ _) _ _; exact xo_fieldAddr rfl) | (show OpV _ _ _ _ (Oper.mk _ (Op.load _ _) _ _ _ _) _ _; first | exact xo_load1 rfl | exact xo_loadS rfl)) ?_ | refine wl_v rfl rfl rfl (by first  | fail) ?_ | refine xl_box rfl (fun _ => ?_)) | refine wc_ret rfl ?_) | (show WC _ (Code.cond _ _ _) _ _ _ _; (refine wc_cond rfl (fun hc => ?_) (fun hc => ?_) <;> (try (simp only [decide_eq_true_eq, decide_eq_false_iff_not, Bool.and_eq_true, Bool.or_eq_true, Bool.and_eq_false_iff, Bool.or_eq_false_iff, Bool.not_eq_true', Bool.not_eq_false', Int.not_lt, Int.not_le] at hc)) <;> (try (exfalso; first | omega | contradiction)))))
    refine wc_weak (E' := [(1, true, str gap), (2, true, .pointer (some ⟨b2, 0, none⟩)), (5, true, str (m ++ [32] ++ t ++ [32, 72, 84, 84, 80, 47, 49, 46, 49, 13, 10] ++ (l.take i).flatMap (hlineQ gap))), (6, true, i64 (i : Int))]) (by first | exact Sub.nil _ | (repeat (first | exact Sub.nil _ | refine Sub.cons (by first | rfl | (simp [look]; done)) ?_))) (fun _ h => h) ?_
    refine wc_draw 19 (by kernel_rfl) rfl (by kernel_rfl) (fun _ _ h k => h.ext k) ?_
    repeat' (first | (show WD _ _ (_ :: _) _ _ _ _ _ _; first | refine wd_v rfl rfl rfl rfl rfl rfl (by first | (show OpV _ _ _ _ (Oper.mk _ (Op.move _) _ _ _ _) _ _; exact xo_move rfl) | (show OpV _ _ _ _ (Oper.mk _ (Op.assign _) _ _ _ _) _ _; exact xo_assign rfl) | (show OpV _ _ _ _ (Oper.mk _ (Op.call ⟨.builtin .len, _, _⟩) _ _ _ _) _ _; first | exact xo_slen rfl | exact xo_len rfl) | (show OpV _ _ _ _ (Oper.mk _ (Op.binOp BinOp.lss _ _ _ _) _ _ _ _) _ _; exact xo_lss rfl rfl) | (show OpV _ _ _ _ (Oper.mk _ (Op.binOp BinOp.add _ _ _ _) _ _ _ _) _ _; first | exact xo_add rfl rfl | exact ov_sadd rfl rfl (by first | with_reducible exact fun _ => rfl | with_reducible exact fun h => h | exact fun _ => rfl | exact fun h => h | (intro himp; simp_all; done)) (by first | with_reducible exact fun _ => rfl | with_reducible exact fun h => h | exact fun _ => rfl | exact fun h => h | (intro himp; simp_all; done)) (by intro hcg; first | omega | (simp only [List.length_append, List.length_take, List.length_drop, List.length_cons, List.length_nil, List.length_nil]; omega))) | (show OpV _ _ _ _ (Oper.mk _ (Op.fieldAddr _ _ _) _ _ _ _) _ _; exact xo_fieldAddr rfl) | (show OpV _ _ _ _ (Oper.mk _ (Op.load _ _) _ _ _ _) _ _; first | exact xo_load1 rfl | exact xo_loadS rfl)) ?_ | refine wd_v rfl rfl rfl rfl rfl rfl (by first | (show OpV _ _ _ _ (Oper.mk _ (Op.indexAddr _ _ _) _ _ _ _) _ _; exact ov_indexAddr rfl rfl (by (fail_if_success (with_reducible show (987654321 : Int) = _)); repeat' (first | with_reducible exact nc_cast | with_reducible exact nc_lit | apply nc_add | apply nc_div | apply nc_mod | apply nc_mul | refine nc_sub (m := _) (n := _) nc_cast nc_lit (by omega) | refine nc_sub (m := _) (n := _) nc_cast nc_cast (by omega))) (by first | with_reducible exact fun _ => rfl | with_reducible exact fun h => h | exact fun _ => rfl | exact fun h => h | (intro himp; simp_all; done)) (by first | with_reducible exact fun _ => rfl | with_reducible exact fun h => h | exact fun _ => rfl | exact fun h => h | (intro himp; simp_all; done)) rfl (by first | exact (rfl : _ = some 1) | exact (rfl : _ = some 2) | exact (rfl : _ = some 3) | exact (rfl : _ = some 4) | exact (rfl : _ = some 6) | exact rfl) (fun hcg => (h3 (by intro h; subst h; simp only [List.length_nil] at *; omega)).1) (by intro hcg; first | omega | (simp at hcg; omega))) | (show OpV _ _ _ _ (Oper.mk _ (Op.load _ _) _ _ _ _) _ _; first | exact ov_load1M rfl (by first | with_reducible exact fun _ => rfl | with_reducible exact fun h => h | exact fun _ => rfl | exact fun h => h | (intro himp; simp_all; done)) rfl rfl (fun hcg => (h3 (by intro h; subst h; simp only [List.length_nil] at *; omega)).2) (fun hcg => (h4 i (by first | omega | (simp at hcg; omega))).1) | exact ov_load1M rfl (by first | with_reducible exact fun _ => rfl | with_reducible exact fun h => h | exact fun _ => rfl | exact fun h => h | (intro himp; simp_all; done)) rfl rfl (fun hcg => (h3 (by intro h; subst h; simp only [List.length_nil] at *; omega)).2) (fun hcg => (h4 i (by first | omega | (simp at hcg; omega))).2)) | fail) ?_ | refine wd_new rfl rfl rfl rfl rfl rfl steady_fresh (or_buildSlice rfl rfl (by first | exact (rfl : _ = some 1) | exact (rfl : _ = some 2) | exact (rfl : _ = some 3) | exact (rfl : _ = some 4) | exact (rfl : _ = some 6) | exact rfl) (fun _ => rfl) rfl rfl rfl (by simp only [cellsAll, Value.cells, List.size_toArray, List.length_cons, List.length_nil, Nat.zero_add, Nat.reduceAdd, and_self, if_true, true_and, Option.map_some, List.cons_append, List.nil_append]; first | done | rfl)) ?_ | refine wd_conv rfl rfl rfl rfl rfl rfl rfl rfl rfl rfl ?_) | (show WD _ _ _ _ _ _ _ _ _; first | refine wd_nil ?_ | refine wd_nilF ?_) | (first | refine wc_seq ?_ | refine wc_region ?_ | refine wl_nil ?_ | refine wn_seq ?_ | refine wn_blk ?_ | refine wc_skip ?_ | refine wc_block ?_ | refine wc_exit rfl ?_ | (show WL _ _ (_ :: _) _ _ _ _; first | refine wl_v rfl rfl rfl (by first | (show OpV _ _ _ _ (Oper.mk _ (Op.move _) _ _ _ _) _ _; exact xo_move rfl) | (show OpV _ _ _ _ (Oper.mk _ (Op.assign _) _ _ _ _) _ _; exact xo_assign rfl) | (show OpV _ _ _ _ (Oper.mk _ (Op.call ⟨.builtin .len, _, _⟩) _ _ _ _) _ _; first | exact xo_slen rfl | exact xo_len rfl) | (show OpV _ _ _ _ (Oper.mk _ (Op.binOp BinOp.lss _ _ _ _) _ _ _ _) _ _; exact xo_lss rfl rfl) | (show OpV _ _ _ _ (Oper.mk _ (Op.binOp BinOp.add _ _ _ _) _ _ _ _) _ _; first | exact xo_add rfl rfl | exact ov_sadd rfl rfl (by first | with_reducible exact fun _ => rfl | with_reducible exact fun h => h | exact fun _ => rfl | exact fun h => h | (intro himp; simp_all; done)) (by first | with_reducible exact fun _ => rfl | with_reducible exact fun h => h | exact fun _ => rfl | exact fun h => h | (intro himp; simp_all; done)) (by intro hcg; first | omega | (simp only [List.length_append, List.length_take, List.length_drop, List.length_cons, List.length_nil, List.length_nil]; omega))) | (show OpV _ _ _ _ (Oper.mk _ (Op.fieldAddr _ _ _) _ _ _ _) _ _; exact xo_fieldAddr rfl) | (show OpV _ _ _ _ (Oper.mk _ (Op.load _ _) _ _ _ _) _ _; first | exact xo_load1 rfl | exact xo_loadS rfl)) ?_ | refine wl_v rfl rfl rfl (by first | (show OpV _ _ _ _ (Oper.mk _ (Op.indexAddr _ _ _) _ _ _ _) _ _; exact ov_indexAddr rfl rfl (by (fail_if_success (with_reducible show (987654321 : Int) = _)); repeat' (first | with_reducible exact nc_cast | with_reducible exact nc_lit | apply nc_add | apply nc_div | apply nc_mod | apply nc_mul | refine nc_sub (m := _) (n := _) nc_cast nc_lit (by omega) | refine nc_sub (m := _) (n := _) nc_cast nc_cast (by omega))) (by first | with_reducible exact fun _ => rfl | with_reducible exact fun h => h | exact fun _ => rfl | exact fun h => h | (intro himp; simp_all; done)) (by first | with_reducible exact fun _ => rfl | with_reducible exact fun h => h | exact fun _ => rfl | exact fun h => h | (intro himp; simp_all; done)) rfl (by first | exact (rfl : _ = some 1) | exact (rfl : _ = some 2) | exact (rfl : _ = some 3) | exact (rfl : _ = some 4) | exact (rfl : _ = some 6) | exact rfl) (fun hcg => (h3 (by intro h; subst h; simp only [List.length_nil] at *; omega)).1) (by intro hcg; first | omega | (simp at hcg; omega))) | (show OpV _ _ _ _ (Oper.mk _ (Op.load _ _) _ _ _ _) _ _; first | exact ov_load1M rfl (by first | with_reducible exact fun _ => rfl | with_reducible exact fun h => h | exact fun _ => rfl | exact fun h => h | (intro himp; simp_all; done)) rfl rfl (fun hcg => (h3 (by intro h; subst h; simp only [List.length_nil] at *; omega)).2) (fun hcg => (h4 i (by first | omega | (simp at hcg; omega))).1) | exact ov_load1M rfl (by first | with_reducible exact fun _ => rfl | with_reducible exact fun h => h | exact fun _ => rfl | exact fun h => h | (intro himp; simp_all; done)) rfl rfl (fun hcg => (h3 (by intro h; subst h; simp only [List.length_nil] at *; omega)).2) (fun hcg => (h4 i (by first | omega | (simp at hcg; omega))).2)) | fail) ?_ | refine xl_box rfl (fun _ => ?_)) | refine wc_ret rfl ?_))
    repeat' (first | (first | refine wc_seq ?_ | refine wc_region ?_ | refine wl_nil ?_ | refine wn_seq ?_ | refine wn_blk ?_ | refine wc_skip ?_ | refine wc_block ?_ | refine wc_exit rfl ?_ | (show WL _ _ (_ :: _) _ _ _ _; first | refine wl_v rfl rfl rfl (by first | (show OpV _ _ _ _ (Oper.mk _ (Op.move _) _ _ _ _) _ _; exact xo_move rfl) | (show OpV _ _ _ _ (Oper.mk _ (Op.assign _) _ _ _ _) _ _; exact xo_assign rfl) | (show OpV _ _ _ _ (Oper.mk _ (Op.call ⟨.builtin .len, _, _⟩) _ _ _ _) _ _; first | exact xo_slen rfl | exact xo_len rfl) | (show OpV _ _ _ _ (Oper.mk _ (Op.binOp BinOp.lss _ _ _ _) _ _ _ _) _ _; exact xo_lss rfl rfl) | (show OpV _ _ _ _ (Oper.mk _ (Op.binOp BinOp.add _ _ _ _) _ _ _ _) _ _; first | exact xo_add rfl rfl | exact ov_sadd rfl rfl (by first | with_reducible exact fun _ => rfl | with_reducible exact fun h => h | exact fun _ => rfl | exact fun h => h | (intro himp; simp_all; done)) (by first | with_reducible exact fun _ => rfl | with_reducible exact fun h => h | exact fun _ => rfl | exact fun h => h | (intro himp; simp_all; done)) (by intro hcg; first | omega | (simp only [List.length_append, List.length_take, List.length_drop, List.length_cons, List.length_nil, List.length_nil]; omega))) | (show OpV _ _ _ _ (Oper.mk _ (Op.fieldAddr _ _ _) _ _ _ _) _ _; exact xo_fieldAddr rfl) | (show OpV _ _ _ _ (Oper.mk _ (Op.load _ _) _ _ _ _) _ _; first | exact xo_load1 rfl | exact xo_loadS rfl)) ?_ | refine wl_v rfl rfl rfl (by first  | fail) ?_ | refine xl_box rfl (fun _ => ?_)) | refine wc_ret rfl ?_) | (show WC _ (Code.cond _ _ _) _ _ _ _; (refine wc_cond rfl (fun hc => ?_) (fun hc => ?_) <;> (try (simp only [decide_eq_true_eq, decide_eq_false_iff_not, Bool.and_eq_true, Bool.or_eq_true, Bool.and_eq_false_iff, Bool.or_eq_false_iff, Bool.not_eq_true', Bool.not_eq_false', Int.not_lt, Int.not_le] at hc)) <;> (try (exfalso; first | omega | contradiction)))))
    refine wn_cut ⟨i + 1, by omega⟩ (by show l.length - (i + 1) < l.length - i; omega) (by rw [hfs]; unfold hlineQ; simp only [← List.append_assoc]; exact (by first | exact Sub.nil _ | (repeat (first | exact Sub.nil _ | refine Sub.cons (by first | rfl | (simp [look]; done)) ?_)))) (fun _ h => h.drop (by repeat (first | exact List.Sublist.refl _ | apply List.Sublist.cons)))
  · have hfull : l.take i = l := List.take_of_length_le (by omega)
    rw [hfull]
    repeat' (first | (first | refine wc_seq ?_ | refine wc_region ?_ | refine wl_nil ?_ | refine wn_seq ?_ | refine wn_blk ?_ | refine wc_skip ?_ | refine wc_block ?_ | refine wc_exit rfl ?_ | (show WL _ _ (_ :: _) _ _ _ _; first | refine wl_v rfl rfl rfl (by first | (show OpV _ _ _ _ (Oper.mk _ (Op.move _) _ _ _ _) _ _; exact xo_move rfl) | (show OpV _ _ _ _ (Oper.mk _ (Op.assign _) _ _ _ _) _ _; exact xo_assign rfl) | (show OpV _ _ _ _ (Oper.mk _ (Op.call ⟨.builtin .len, _, _⟩) _ _ _ _) _ _; first | exact xo_slen rfl | exact xo_len rfl) | (show OpV _ _ _ _ (Oper.mk _ (Op.binOp BinOp.lss _ _ _ _) _ _ _ _) _ _; exact xo_lss rfl rfl) | (show OpV _ _ _ _ (Oper.mk _ (Op.binOp BinOp.add _ _ _ _) _ _ _ _) _ _; first | exact xo_add rfl rfl | exact ov_sadd rfl rfl (by first | with_reducible exact fun _ => rfl | with_reducible exact fun h => h | exact fun _ => rfl | exact fun h => h | (intro himp; simp_all; done)) (by first | with_reducible exact fun _ => rfl | with_reducible exact fun h => h | exact fun _ => rfl | exact fun h => h | (intro himp; simp_all; done)) (by intro hcg; first | omega | (simp only [List.length_append, List.length_take, List.length_drop, List.length_cons, List.length_nil, List.length_nil]; omega))) | (show OpV _ _ _ _ (Oper.mk _ (Op.fieldAddr _ _ _) _ _ _ _) _ _; exact xo_fieldAddr rfl) | (show OpV _ _ _ _ (Oper.mk _ (Op.load _ _) _ _ _ _) _ _; first | exact xo_load1 rfl | exact xo_loadS rfl)) ?_ | refine wl_v rfl rfl rfl (by first  | fail) ?_ | refine xl_box rfl (fun _ => ?_)) | refine wc_ret rfl ?_) | (show WC _ (Code.cond _ _ _) _ _ _ _; (refine wc_cond rfl (fun hc => ?_) (fun hc => ?_) <;> (try (simp only [decide_eq_true_eq, decide_eq_false_iff_not, Bool.and_eq_true, Bool.or_eq_true, Bool.and_eq_false_iff, Bool.or_eq_false_iff, Bool.not_eq_true', Bool.not_eq_false', Int.not_lt, Int.not_le] at hc)) <;> (try (exfalso; first | omega | contradiction)))))
    exact wr_tmp rfl rfl rfl
end Go.Proofs.YtjdmnanicaghkaaDoor
/-
  Requests written and read, plainly: what is written reads as it was, what was read can be written; no beginning of a request is one. No program stands here.
-/
namespace Go.Proofs.YtjdmnanicaghkaaDoor
open Go.Pct Go.Txt Go.Rsp
set_option linter.unusedSimpArgs false
set_option linter.unusedVariables false

theorem all_notin {p : UInt8 → Bool} {s : List UInt8} {c : UInt8} (h : s.all p = true) (hc : p c = false) : c ∉ s := by
  intro hm
  have := List.all_eq_true.1 h c hm
  rw [hc] at this; cases this
theorem shown_notin {f c : UInt8} {s : List UInt8} (hf : c.toNat < f.toNat) (h : shownB f s = true) : c ∉ s := all_notin h (by rw [decide_eq_false (by omega)]; rfl)
theorem token_notin {c : UInt8} {s : List UInt8} (hc : tokC c = false) (h : tokenB s = true) : c ∉ s := by
  unfold tokenB at h
  rw [Bool.and_eq_true] at h
  exact all_notin h.1 hc
theorem target_shown {t : List UInt8} (h : targetB t = true) : shownB 33 t = true := by
  unfold targetB at h
  rw [Bool.and_eq_true] at h
  exact h.2
theorem pieces_flat (c : UInt8) : ∀ (s p : List UInt8) (ps : List (List UInt8)), pieces c s = p :: ps → s = p ++ ps.flatMap (c :: ·)
  | [], p, ps, h => by
    simp only [pieces, List.cons.injEq] at h
    obtain ⟨rfl, rfl⟩ := h
    rfl
  | x :: s, p, ps, h => by
    rw [pieces] at h
    cases hp : pieces c s with
    | nil => exact absurd hp (pieces_ne c s)
    | cons q qs =>
      have ih := pieces_flat c s q qs hp
      rw [hp] at h
      split at h
      · rename_i hx
        simp only [List.cons.injEq] at h
        obtain ⟨rfl, rfl⟩ := h
        rw [hx, List.nil_append, List.flatMap_cons, List.cons_append, ← ih]
      · simp only [List.cons.injEq] at h
        obtain ⟨rfl, rfl⟩ := h
        rw [List.cons_append, ← ih]
theorem firstP_ok {l m t : List UInt8} (h : firstP l = (m, t, 0)) : l = m ++ [32] ++ t ++ sVerL ∧ (m = sGet ∨ m = sPost) ∧ targetB t = true := by
  unfold firstP at h
  rw [split_pc] at h
  split at h
  · rename_i m' t' v hp
    have hf := pieces_flat 32 l _ _ hp
    split at h
    · simp only [Prod.mk.injEq] at h; exact absurd h.2.2 (by decide)
    rename_i h1
    split at h
    · simp only [Prod.mk.injEq] at h; exact absurd h.2.2 (by decide)
    rename_i h2
    simp only [Prod.mk.injEq, and_true] at h
    obtain ⟨rfl, rfl⟩ := h
    refine ⟨?_, ?_, ?_⟩
    · have hv : v = sVer := Classical.byContradiction fun h => h1 (.inr h)
      rw [hf, hv]
      simp [sVerL, sVer]
    · exact Classical.byContradiction fun h => h2 ⟨fun e => h (.inl e), fun e => h (.inr e)⟩
    · cases ht : targetB t' with
      | true => rfl
      | false => exact absurd (.inl (.inr (.inr ht))) h1
  · simp only [Prod.mk.injEq] at h; exact absurd h.2.2 (by decide)
theorem firstP_mk {m t : List UInt8} (hm : m = sGet ∨ m = sPost) (ht : targetB t = true) : firstP (m ++ [32] ++ t ++ sVerL) = (m, t, 0) := by
  have h32 : (32 : UInt8) ∉ t := shown_notin (f := 33) (by decide) (target_shown ht)
  have hm32 : (32 : UInt8) ∉ m := by rcases hm with rfl | rfl <;> decide
  have hp : pieces 32 (m ++ [32] ++ t ++ sVerL) = [m, t, sVer] := by
    have e : m ++ [32] ++ t ++ sVerL = m ++ 32 :: (t ++ 32 :: sVer) := by simp [sVerL, sVer]
    rw [e, pieces_hit hm32, pieces_hit h32, pieces_no (by decide)]
  unfold firstP
  rw [split_pc, hp]
  simp only
  rw [if_neg, if_neg]
  · rintro ⟨h1, h2⟩
    rcases hm with h | h
    · exact h1 h
    · exact h2 h
  · rintro ((h | h | h) | h)
    · rcases hm with rfl | rfl <;> cases h
    · have : betw 65 90 m = true := by rcases hm with rfl | rfl <;> decide
      rw [this] at h; cases h
    · rw [ht] at h; cases h
    · exact h rfl
theorem lft_idem (s : List UInt8) : lft (lft s) = lft s := by
  induction s with
  | nil => rfl
  | cons c r ih =>
    rw [lft_cons]
    by_cases hb : blank c = true
    · rw [if_pos hb, ih]
    · rw [if_neg hb, lft_cons, if_neg hb]
theorem rgt_idem (s : List UInt8) : rgt (rgt s) = rgt s := by
  have e : ∀ s, rgt s = (lft s.reverse).reverse := fun _ => rfl
  rw [e, e s, List.reverse_reverse, lft_idem]
theorem trimB_idem (s : List UInt8) : trimB (trimB s) = trimB s := by
  unfold trimB
  rw [trim_comm, lft_idem, rgt_idem]
theorem trimB_gap (v : List UInt8) : trimB (32 :: v) = trimB v := by
  unfold trimB
  rw [lft_cons, if_pos (by decide)]
/-- a header that can be -/
def goodH (p : Pr) : Bool := tokenB p.1 && shownB 32 p.2 && decide (trimB p.2 = p.2)
theorem good_parts {p : Pr} (h : goodH p = true) : tokenB p.1 = true ∧ shownB 32 p.2 = true ∧ trimB p.2 = p.2 := by
  unfold goodH at h
  simp only [Bool.and_eq_true, decide_eq_true_eq] at h
  exact ⟨h.1.1, h.1.2, h.2⟩
theorem hdr_back {p : Pr} {gap : List UInt8} (hg : gap = [] ∨ gap = [32]) (h : goodH p = true) : hdrP (p.1 ++ [58] ++ gap ++ p.2) = (p, 0) ∧ (13 : UInt8) ∉ p.1 ++ [58] ++ gap ++ p.2 ∧ p.1 ++ [58] ++ gap ++ p.2 ≠ [] := by
  obtain ⟨h1, h2, h3⟩ := good_parts h
  have h58 : (58 : UInt8) ∉ p.1 := token_notin (by decide) h1
  have e : p.1 ++ [58] ++ gap ++ p.2 = p.1 ++ [58] ++ (gap ++ p.2) := by simp
  have ht : trimB (gap ++ p.2) = p.2 := by
    rcases hg with rfl | rfl
    · exact h3
    · rw [List.singleton_append, trimB_gap, h3]
  refine ⟨?_, ?_, by simp⟩
  · unfold hdrP
    rw [e, cutS_mid (c := 58) (t := []) _ h58]
    simp only
    rw [ht, if_pos ⟨h1, h2⟩]
  · have h4 : (13 : UInt8) ∉ p.1 := token_notin (by decide) h1
    have h5 : (13 : UInt8) ∉ p.2 := shown_notin (f := 32) (by decide) h2
    have h6 : (13 : UInt8) ∉ gap := by rcases hg with rfl | rfl <;> decide
    simp only [List.mem_append, List.mem_singleton, not_or]
    exact ⟨⟨⟨h4, by decide⟩, h6⟩, h5⟩
theorem hdrs_back {gap : List UInt8} (hg : gap = [] ∨ gap = [32]) (body : List UInt8) : ∀ (hs : List Pr) (n : Nat) (acc : List Pr), (∀ p ∈ hs, goodH p = true) → acc.length + hs.length ≤ 32 → n + acc.length = 32 → hdrsQ (n + 1) (hs.flatMap (hlineQ gap) ++ [13, 10] ++ body) acc = (acc ++ hs, 0, body)
  | [], n, acc, _, _, _ => by
    have hc : cutS [13, 10] (([] : List Pr).flatMap (hlineQ gap) ++ [13, 10] ++ body) = some ([], body) := cutS_mid (c := 13) (t := [10]) (a := []) body (by simp)
    rw [hdrsQ, hc]
    simp
  | p :: hs, n, acc, hgood, hl, hn => by
    obtain ⟨g1, g2, g3⟩ := hdr_back hg (hgood p (List.mem_cons_self ..))
    have e : (p :: hs).flatMap (hlineQ gap) ++ [13, 10] ++ body = (p.1 ++ [58] ++ gap ++ p.2) ++ [13, 10] ++ (hs.flatMap (hlineQ gap) ++ [13, 10] ++ body) := by
      rw [List.flatMap_cons]; unfold hlineQ; simp
    rw [hdrsQ, e, cutS_mid (c := 13) (t := [10]) _ g2]
    simp only
    simp only [List.length_cons] at hl
    rw [if_neg g3, if_neg (by omega), g1]
    simp only
    rw [if_neg (by decide)]
    match n, hn with
    | 0, hn => omega
    | n + 1, hn =>
      rw [hdrs_back hg body hs n (acc ++ [p]) (fun q hq => hgood q (List.mem_cons_of_mem _ hq)) (by simp; omega) (by simp; omega)]
      simp
theorem fits_zero {n want : Int} : fitsE n want = 0 ↔ n = want := by
  unfold fitsE
  split
  · exact ⟨fun h => (by cases h), fun h => (by omega)⟩
  · split
    · exact ⟨fun h => (by cases h), fun h => (by omega)⟩
    · exact ⟨fun _ => (by omega), fun _ => rfl⟩
/-- what a request that is read consists of -/
structure Parts (s : List UInt8) (r : Req) (rest : List UInt8) : Prop where
  short : s.length ≤ 4096
  cut : cutS [13, 10] s = some (r.meth ++ [32] ++ r.targ ++ sVerL, rest)
  meth : r.meth = sGet ∨ r.meth = sPost
  targ : targetB r.targ = true
  hdrs : hdrsQ 33 rest [] = (r.headers, 0, r.body)
  len : lenP r.headers = ((r.body.length : Int), 0)
theorem parse_of {s : List UInt8} {r : Req} {rest : List UInt8} (h : Parts s r rest) : parseQ s = (r, 0) := by
  unfold parseQ
  rw [if_neg (by have := h.short; omega), h.cut]
  simp only
  rw [firstP_mk h.meth h.targ]
  simp only
  rw [if_neg (by decide)]
  unfold pfin
  rw [h.hdrs]
  simp only
  rw [if_neg (by decide), h.len]
  simp only
  rw [if_neg (by decide), if_neg (by rw [fits_zero.2 rfl]; decide)]
theorem parse_cases (s : List UInt8) : (∃ r rest, parseQ s = (r, 0) ∧ Parts s r rest) ∨ ∃ e, e ≠ 0 ∧ parseQ s = (.none, e) := by
  by_cases h4 : 4096 < s.length
  · exact .inr ⟨2, by decide, by unfold parseQ; rw [if_pos h4]⟩
  cases hc : cutS [13, 10] s with
  | none => exact .inr ⟨3, by decide, by unfold parseQ; rw [if_neg h4, hc]⟩
  | some p =>
    obtain ⟨l, rest⟩ := p
    by_cases h1 : (firstP l).2.2 ≠ 0
    · exact .inr ⟨_, h1, by unfold parseQ; rw [if_neg h4, hc]; simp only; rw [if_pos h1]⟩
    have hp : parseQ s = pfin (firstP l).1 (firstP l).2.1 (hdrsQ 33 rest []) := by unfold parseQ; rw [if_neg h4, hc]; simp only; rw [if_neg h1]
    have hf : firstP l = ((firstP l).1, (firstP l).2.1, 0) := by
      have : (firstP l).2.2 = 0 := by omega
      rw [← this]
    obtain ⟨g1, g2, g3⟩ := firstP_ok hf
    generalize hq : hdrsQ 33 rest [] = q at *
    by_cases h2 : q.2.1 ≠ 0
    · exact .inr ⟨_, h2, by rw [hp]; unfold pfin; rw [if_pos h2]⟩
    by_cases h3 : (lenP q.1).2 ≠ 0
    · exact .inr ⟨_, h3, by rw [hp]; unfold pfin; rw [if_neg h2, if_pos h3]⟩
    by_cases h5 : fitsE (q.2.2.length : Int) (lenP q.1).1 ≠ 0
    · exact .inr ⟨_, h5, by rw [hp]; unfold pfin; rw [if_neg h2, if_neg h3, if_pos h5]⟩
    refine .inl ⟨⟨(firstP l).1, (firstP l).2.1, q.1, q.2.2⟩, rest, by rw [hp]; unfold pfin; rw [if_neg h2, if_neg h3, if_neg h5], ⟨by omega, by rw [hc]; exact congrArg some (Prod.ext g1 rfl), g2, g3, ?_, ?_⟩⟩
    · rw [hq]
      exact Prod.ext rfl (Prod.ext (by show q.2.1 = 0; omega) rfl)
    · have h6 : (q.2.2.length : Int) = (lenP q.1).1 := fits_zero.1 (by omega)
      exact Prod.ext h6.symm (by show (lenP q.1).2 = 0; omega)
theorem parts_of {s : List UInt8} {r : Req} (h : parseQ s = (r, 0)) : ∃ rest, Parts s r rest := by
  rcases parse_cases s with ⟨r', rest, h1, h2⟩ | ⟨e, h1, h2⟩
  · rw [h] at h1
    simp only [Prod.mk.injEq, and_true] at h1
    subst h1
    exact ⟨rest, h2⟩
  · rw [h] at h2
    simp only [Prod.mk.injEq] at h2
    exact absurd h2.2.symm h1
/-- a request that can be, but for how long it is -/
def wfQ (r : Req) : Bool := decide (firstP (r.meth ++ [32] ++ r.targ ++ sVerL) = (r.meth, r.targ, 0)) && decide (r.headers.length ≤ 32) && decide (lenP r.headers = ((r.body.length : Int), 0)) && r.headers.all goodH
theorem wf_parts {r : Req} (h : wfQ r = true) : (r.meth = sGet ∨ r.meth = sPost) ∧ targetB r.targ = true ∧ r.headers.length ≤ 32 ∧ lenP r.headers = ((r.body.length : Int), 0) ∧ ∀ p ∈ r.headers, goodH p = true := by
  unfold wfQ at h
  simp only [Bool.and_eq_true, decide_eq_true_eq, List.all_eq_true] at h
  obtain ⟨⟨⟨h1, h2⟩, h3⟩, h4⟩ := h
  obtain ⟨_, g2, g3⟩ := firstP_ok h1
  exact ⟨g2, g3, h2, h3, h4⟩
theorem parse_lines {r : Req} {gap : List UInt8} (hw : wfQ r = true) (hg : gap = [] ∨ gap = [32]) (hl : (linesQ gap r).length ≤ 4096) : parseQ (linesQ gap r) = (r, 0) := by
  obtain ⟨h1, h2, h3, h4, h5⟩ := wf_parts hw
  have h13 : (13 : UInt8) ∉ r.meth ++ [32] ++ r.targ ++ sVerL := by
    have a1 : (13 : UInt8) ∉ r.meth := by rcases h1 with h | h <;> rw [h] <;> decide
    have a2 : (13 : UInt8) ∉ r.targ := shown_notin (f := 33) (by decide) (target_shown h2)
    simp only [List.mem_append, List.mem_singleton, not_or]
    exact ⟨⟨⟨a1, by decide⟩, a2⟩, by decide⟩
  refine parse_of (rest := r.headers.flatMap (hlineQ gap) ++ [13, 10] ++ r.body) ⟨hl, ?_, h1, h2, ?_, h4⟩
  · have e : linesQ gap r = (r.meth ++ [32] ++ r.targ ++ sVerL) ++ [13, 10] ++ (r.headers.flatMap (hlineQ gap) ++ [13, 10] ++ r.body) := by unfold linesQ; simp
    rw [e, cutS_mid (c := 13) (t := [10]) _ h13]
  · exact hdrs_back hg r.body r.headers 32 [] h5 (by simpa using h3) rfl
theorem hdrP_good {l : List UInt8} (h : (hdrP l).2 = 0) : goodH (hdrP l).1 = true ∧ (hdrP l).1.1.length + 1 + (hdrP l).1.2.length ≤ l.length := by
  unfold hdrP at *
  cases hc : cutS [58] l with
  | none => rw [hc] at h; cases h
  | some p =>
    obtain ⟨a, b⟩ := p
    rw [hc] at h
    have hl := cutS_length hc
    have ht := trimB_length b
    simp only [List.length_cons, List.length_nil] at hl
    simp only at *
    split at h
    · rename_i hk
      rw [if_pos hk]
      unfold goodH
      simp only [Bool.and_eq_true, decide_eq_true_eq]
      exact ⟨⟨hk, trimB_idem b⟩, by omega⟩
    · cases h
theorem hdrs_good : ∀ (n : Nat) (t : List UInt8) (acc hs : List Pr) (body : List UInt8), hdrsQ n t acc = (hs, 0, body) → (∀ p ∈ acc, goodH p = true) → acc.length ≤ 32 → (∀ p ∈ hs, goodH p = true) ∧ hs.length ≤ 32 ∧ (hs.flatMap (hlineQ [])).length + 2 + body.length ≤ (acc.flatMap (hlineQ [])).length + t.length
  | 0, t, acc, hs, body, h, _, _ => by simp only [hdrsQ, Prod.mk.injEq] at h; exact absurd h.2.1 (by decide)
  | n + 1, t, acc, hs, body, h, hg, hl => by
    rw [hdrsQ] at h
    cases hc : cutS [13, 10] t with
    | none => rw [hc] at h; simp only [Prod.mk.injEq] at h; exact absurd h.2.1 (by decide)
    | some p =>
      obtain ⟨l, r⟩ := p
      have hlr := cutS_length hc
      simp only [List.length_cons, List.length_nil] at hlr
      rw [hc] at h
      simp only at h
      split at h
      · rename_i hl0
        subst hl0
        simp only [Prod.mk.injEq, true_and] at h
        obtain ⟨rfl, rfl⟩ := h
        exact ⟨hg, hl, by simp only [List.length_nil] at hlr; omega⟩
      split at h
      · simp only [Prod.mk.injEq] at h; exact absurd h.2.1 (by decide)
      split at h
      · rename_i he
        simp only [Prod.mk.injEq] at h; exact absurd h.2.1 he
      rename_i h32 he
      have h0 : (hdrP l).2 = 0 := by omega
      obtain ⟨g1, g2⟩ := hdrP_good h0
      obtain ⟨k1, k2, k3⟩ := hdrs_good n r (acc ++ [(hdrP l).1]) hs body h (fun q hq => by
        rcases List.mem_append.1 hq with hq | hq
        · exact hg q hq
        · rw [List.mem_singleton] at hq; subst hq; exact g1) (by simp; omega)
      refine ⟨k1, k2, ?_⟩
      have e := hlineQ_length [] (hdrP l).1
      simp only [List.length_nil] at e
      simp only [List.flatMap_append, List.flatMap_cons, List.flatMap_nil, List.length_append, List.append_nil] at k3
      omega
theorem parse_wf {s : List UInt8} {r : Req} (h : parseQ s = (r, 0)) : wfQ r = true ∧ (linesQ [] r).length ≤ s.length ∧ s.length ≤ 4096 := by
  obtain ⟨rest, hp⟩ := parts_of h
  obtain ⟨k1, k2, k3⟩ := hdrs_good 33 rest [] _ _ hp.hdrs (fun p hp => by cases hp) (by decide)
  have hl := cutS_length hp.cut
  refine ⟨?_, ?_, hp.short⟩
  · unfold wfQ
    rw [firstP_mk hp.meth hp.targ]
    simp only [Bool.and_eq_true, decide_eq_true_eq, List.all_eq_true]
    exact ⟨⟨⟨trivial, k2⟩, hp.len⟩, k1⟩
  · unfold linesQ
    simp only [List.flatMap_nil, List.length_nil] at k3
    simp only [List.length_append, List.length_cons, List.length_nil] at *
    omega
/-- a request that can be -/
def rightQ (r : Req) : Bool := wfQ r && decide ((linesQ [] r).length ≤ 4096)
theorem right_iff (r : Req) : rightQ r = true ↔ parseQ (linesQ [] r) = (r, 0) := by
  unfold rightQ
  simp only [Bool.and_eq_true, decide_eq_true_eq]
  constructor
  · rintro ⟨h1, h2⟩; exact parse_lines h1 (.inl rfl) h2
  · intro h; have := parse_wf h; exact ⟨this.1, this.2.2⟩
theorem lines_gap (r : Req) : (linesQ [32] r).length = (linesQ [] r).length + r.headers.length := by
  have h : ∀ l : List Pr, (l.flatMap (hlineQ [32])).length = (l.flatMap (hlineQ [])).length + l.length := by
    intro l
    induction l with
    | nil => rfl
    | cons p l ih =>
      have e1 := hlineQ_length [32] p
      have e2 := hlineQ_length [] p
      simp only [List.length_cons, List.length_nil] at e1 e2
      simp only [List.flatMap_cons, List.length_append, List.length_cons, ih, e1, e2]; omega
  unfold linesQ
  simp only [List.length_append, h]; omega

/-! ### beginnings, and more behind -/
theorem cutS_more {sep : List UInt8} (more : List UInt8) : ∀ {s a b : List UInt8}, cutS sep s = some (a, b) → sep ≠ [] → cutS sep (s ++ more) = some (a, b ++ more)
  | [], _, _, h, _ => by cases h
  | c :: r, a, b, h, h0 => by
    rw [cutS] at h
    rw [List.cons_append, cutS]
    split at h
    · rename_i hp
      simp only [Option.some.injEq, Prod.mk.injEq] at h
      obtain ⟨rfl, rfl⟩ := h
      have hpre := List.isPrefixOf_iff_prefix.1 hp
      have hle := hpre.length_le
      rw [if_pos (List.isPrefixOf_iff_prefix.2 (by rw [← List.cons_append]; exact hpre.trans (List.prefix_append _ _)))]
      rw [← List.cons_append, List.drop_append_of_le_length hle]
    · rename_i hp
      obtain ⟨p, hp2, e⟩ := Option.map_eq_some_iff.1 h
      simp only [Prod.mk.injEq] at e
      obtain ⟨rfl, rfl⟩ := e
      have ih := cutS_more more (a := p.1) (b := p.2) hp2 h0
      have hl := cutS_some (a := p.1) (b := p.2) hp2
      rw [if_neg, ih]
      · rfl
      · intro hq
        apply hp
        rw [List.isPrefixOf_iff_prefix] at *
        have : sep.length ≤ (c :: r).length := by
          have := cutS_length (a := p.1) (b := p.2) hp2
          simp; omega
        rw [← List.cons_append] at hq
        exact List.prefix_of_prefix_length_le hq (List.prefix_append _ _) this
theorem hdrs_more (more : List UInt8) : ∀ (n : Nat) (t : List UInt8) (acc hs : List Pr) (body : List UInt8), hdrsQ n t acc = (hs, 0, body) → hdrsQ n (t ++ more) acc = (hs, 0, body ++ more)
  | 0, t, acc, hs, body, h => by simp only [hdrsQ, Prod.mk.injEq] at h; exact absurd h.2.1 (by decide)
  | n + 1, t, acc, hs, body, h => by
    rw [hdrsQ] at h
    cases hc : cutS [13, 10] t with
    | none => rw [hc] at h; simp only [Prod.mk.injEq] at h; exact absurd h.2.1 (by decide)
    | some p =>
      obtain ⟨l, r⟩ := p
      rw [hc] at h
      rw [hdrsQ, cutS_more more hc (by simp)]
      simp only at *
      split at h
      · rename_i hl0
        rw [if_pos hl0]
        simp only [Prod.mk.injEq, true_and] at h
        obtain ⟨rfl, rfl⟩ := h
        rfl
      rename_i hl0
      rw [if_neg hl0]
      split at h
      · simp only [Prod.mk.injEq] at h; exact absurd h.2.1 (by decide)
      rename_i h32
      rw [if_neg h32]
      split at h
      · rename_i he
        simp only [Prod.mk.injEq] at h; exact absurd h.2.1 he
      rename_i he
      rw [if_neg he]
      exact hdrs_more more n r _ hs body h
theorem parse_more {s more : List UInt8} {r : Req} (h : parseQ s = (r, 0)) (hm : more ≠ []) (hl : (s ++ more).length ≤ 4096) : parseQ (s ++ more) = (.none, 9) := by
  obtain ⟨rest, hp⟩ := parts_of h
  have hpos := List.length_pos_iff.2 hm
  unfold parseQ
  rw [if_neg (by omega), cutS_more more hp.cut (by simp)]
  simp only
  rw [firstP_mk hp.meth hp.targ]
  simp only
  rw [if_neg (by decide)]
  unfold pfin
  rw [hdrs_more more 33 rest [] _ _ hp.hdrs]
  simp only
  rw [if_neg (by decide), hp.len]
  simp only
  have hf : fitsE ((r.body ++ more).length : Int) (r.body.length : Int) = 9 := by
    unfold fitsE
    rw [List.length_append, if_neg (by omega), if_pos (by omega)]
  rw [if_neg (by decide), hf, if_pos (by decide)]
theorem cutS_take : ∀ {s a b : List UInt8} (k : Nat), cutS [13, 10] s = some (a, b) → cutS [13, 10] (s.take k) = if k < a.length + 2 then none else some (a, b.take (k - (a.length + 2)))
  | [], _, _, _, h => by cases h
  | c :: r, a, b, k, h => by
    rw [cutS] at h
    split at h
    · rename_i hp
      simp only [Option.some.injEq, Prod.mk.injEq] at h
      obtain ⟨rfl, rfl⟩ := h
      have hs := pre_split hp
      rw [hs]
      generalize (c :: r).drop [13, 10].length = b
      match k with
      | 0 => rfl
      | 1 => simp [cutS]
      | k + 2 =>
        simp only [List.cons_append, List.nil_append, List.take_succ_cons, List.length_nil, Nat.zero_add, Nat.add_sub_cancel, List.length_cons]
        rw [if_neg (by omega), cutS, if_pos (by simp [List.isPrefixOf])]
        simp
    · rename_i hp
      obtain ⟨p, hp2, e⟩ := Option.map_eq_some_iff.1 h
      simp only [Prod.mk.injEq] at e
      obtain ⟨rfl, rfl⟩ := e
      match k with
      | 0 => simp [cutS]
      | k + 1 =>
        have ih := cutS_take (a := p.1) (b := p.2) k hp2
        rw [List.take_succ_cons, cutS, if_neg, ih]
        · simp only [List.length_cons]
          by_cases hk : k < p.1.length + 2
          · rw [if_pos hk, if_pos (by omega)]; rfl
          · rw [if_neg hk, if_neg (by omega)]
            simp only [Option.map_some, Option.some.injEq, Prod.mk.injEq, true_and]
            congr 1; omega
        · intro hq
          apply hp
          rw [List.isPrefixOf_iff_prefix] at *
          exact hq.trans (by rw [← List.take_succ_cons]; exact List.take_prefix _ _)
theorem hdrs_take : ∀ (n : Nat) (t : List UInt8) (acc hs : List Pr) (body : List UInt8) (k : Nat), hdrsQ n t acc = (hs, 0, body) → (hdrsQ n (t.take k) acc).2.1 = 3 ∨ ∃ j, hdrsQ n (t.take k) acc = (hs, 0, body.take j) ∧ (k < t.length → j < body.length)
  | 0, t, acc, hs, body, k, h => by simp only [hdrsQ, Prod.mk.injEq] at h; exact absurd h.2.1 (by decide)
  | n + 1, t, acc, hs, body, k, h => by
    rw [hdrsQ] at h
    cases hc : cutS [13, 10] t with
    | none => rw [hc] at h; simp only [Prod.mk.injEq] at h; exact absurd h.2.1 (by decide)
    | some p =>
      obtain ⟨l, r⟩ := p
      have hlr := cutS_length hc
      simp only [List.length_cons, List.length_nil] at hlr
      rw [hc] at h
      rw [hdrsQ, cutS_take k hc]
      by_cases hk : k < l.length + 2
      · rw [if_pos hk]; exact .inl rfl
      rw [if_neg hk]
      simp only at *
      split at h
      · rename_i hl0
        rw [if_pos hl0]
        simp only [Prod.mk.injEq, true_and] at h
        obtain ⟨rfl, rfl⟩ := h
        exact .inr ⟨k - (l.length + 2), rfl, fun h => by omega⟩
      rename_i hl0
      rw [if_neg hl0]
      split at h
      · simp only [Prod.mk.injEq] at h; exact absurd h.2.1 (by decide)
      rename_i h32
      rw [if_neg h32]
      split at h
      · rename_i he
        simp only [Prod.mk.injEq] at h; exact absurd h.2.1 he
      rename_i he
      rw [if_neg he]
      rcases hdrs_take n r _ hs body (k - (l.length + 2)) h with h1 | ⟨j, h1, h2⟩
      · exact .inl h1
      · exact .inr ⟨j, h1, fun h => h2 (by omega)⟩
theorem parse_take {s : List UInt8} {r : Req} {k : Nat} (h : parseQ s = (r, 0)) (hk : k < s.length) : (parseQ (s.take k)).2 = 3 := by
  obtain ⟨rest, hp⟩ := parts_of h
  have hs := hp.short
  have hl := cutS_length hp.cut
  simp only [List.length_cons, List.length_nil] at hl
  unfold parseQ
  rw [if_neg (by rw [List.length_take]; omega), cutS_take k hp.cut]
  by_cases hk2 : k < (r.meth ++ [32] ++ r.targ ++ sVerL).length + 2
  · rw [if_pos hk2]
  rw [if_neg hk2]
  simp only
  rw [firstP_mk hp.meth hp.targ]
  simp only
  rw [if_neg (by decide)]
  unfold pfin
  rcases hdrs_take 33 rest [] _ _ (k - ((r.meth ++ [32] ++ r.targ ++ sVerL).length + 2)) hp.hdrs with h1 | ⟨j, h1, h2⟩
  · rw [if_pos (by rw [h1]; decide)]; exact h1
  · have hj := h2 (by omega)
    rw [h1]
    simp only
    rw [if_neg (by decide), hp.len]
    simp only
    have hf : fitsE ((r.body.take j).length : Int) (r.body.length : Int) = 3 := by
      unfold fitsE
      rw [List.length_take, if_pos (by omega)]
    rw [if_neg (by decide), hf, if_pos (by decide)]
end Go.Proofs.YtjdmnanicaghkaaDoor
/-
  Whether a request can be, its bytes, its path, its pairs: request.Right, Write, Path, Args, and the document's.
-/
namespace Go.Proofs.YtjdmnanicaghkaaDoor
open Go.Eng Go.Pct Go.Rsp Go.Txt
set_option maxRecDepth 10000
set_option linter.unusedSimpArgs false
set_option linter.unusedVariables false

variable {M : Ghost} {w0 w : World} {bs : List Nat} {H : List (Nat × Obj)}

theorem qright_ok (hG : Glob M) (hM : Laid M w) {hv : Value} {l : List Pr} (hh : SlP M hv l) (m t b : List UInt8) (hb : (linesQ [] ⟨m, t, l, b⟩).length ≤ 1000000000) : Calls Tryd.prog 25 #[.agg #[str m, str t, hv, str b]] w (RetE w (.bool (rightQ ⟨m, t, l, b⟩))) := by
  have hln := fun {w : World} (h : Laid M w) => qlines_ok h hh m t b [] hb
  have hh0 := hh
  obtain ⟨a, cap, bb, o, cs, T, fz, rfl, _⟩ := hh.open
  refine calls_st (l := [.agg #[str m, str t, .slice a l.length cap, str b]]) hM Tryd.func25 rfl rfl rfl (E0 := [(0, true, .agg #[str m, str t, .slice a l.length cap, str b])]) (params_cons rfl (params_nil _)) ?_
  repeat' (first | (first | refine wc_seq ?_ | refine wc_region ?_ | refine wl_nil ?_ | refine wn_seq ?_ | refine wn_blk ?_ | refine wc_skip ?_ | refine wc_block ?_ | refine wc_exit rfl ?_ | (show WL _ _ (_ :: _) _ _ _ _; first | refine wl_v rfl rfl rfl (by first | (show OpV _ _ _ _ (Oper.mk _ (Op.move _) _ _ _ _) _ _; exact xo_move rfl) | (show OpV _ _ _ _ (Oper.mk _ (Op.assign _) _ _ _ _) _ _; exact xo_assign rfl) | (show OpV _ _ _ _ (Oper.mk _ (Op.pick _ _ _) _ _ _ _) _ _; first | exact xo_and rfl rfl | exact xo_or rfl rfl) | (show OpV _ _ _ _ (Oper.mk _ (Op.extract _ _) _ _ _ _) _ _; exact xo_extract rfl) | (show OpV _ _ _ _ (Oper.mk _ (Op.binOp BinOp.eql _ _ _ _) _ _ _ _) _ _; first | exact xo_eql rfl rfl | exact xo_seql rfl rfl | exact xo_beql rfl rfl | exact xo_aeql rfl rfl) | (show OpV _ _ _ _ (Oper.mk _ (Op.load _ _) _ _ _ _) _ _; first | exact xo_load1 rfl | exact xo_loadS rfl)) ?_ | refine wl_v rfl rfl rfl (by first | ((show OpV _ _ _ _ (Oper.mk _ (Op.call ⟨.value (.func 43), _, _⟩) _ _ _ _) _ _; exact ov_call Tryd.call43 rfl (by intro himp; first | rfl | (simp_all; done)) (by rfl) (fun _ _ h k => h.ext k) (fun hcg w hw => hln hw.laid))) | fail) ?_ | refine xl_alloc (fun _ => ?_) | refine xl_box rfl (fun _ => ?_) | refine xl_store rfl rfl ?_) | refine wc_ret rfl ?_) | (show WC _ (Code.cond _ _ _) _ _ _ _; (refine wc_cond rfl (fun hc => ?_) (fun hc => ?_) <;> (try (simp only [decide_eq_true_eq, decide_eq_false_iff_not, Bool.and_eq_true, Bool.or_eq_true, Bool.and_eq_false_iff, Bool.or_eq_false_iff, Bool.not_eq_true', Bool.not_eq_false', Int.not_lt, Int.not_le] at hc)) <;> (try (exfalso; first | omega | contradiction)))))
  refine wl_callS rfl Tryd.call10 rfl rfl rfl rfl (fun w hw => qparse_ok hG hw.laid _ (by omega)) ?_
  rintro v1 Hn M1 hm1 hnew1 ⟨rfl, hu, rfl, hk⟩
  have hr := right_iff ⟨m, t, l, b⟩
  generalize parseQ (linesQ [] ⟨m, t, l, b⟩) = q at *
  obtain ⟨⟨m', t', l', b'⟩, e⟩ := q
  dsimp only at *
  have hsm := fun {w : World} (h : Laid M1 w) => qsame_ok h hk (hh0.mono hm1 (fun _ _ _ h => h)) m' t' b' m t b
  obtain ⟨a', cap', _, _, _, _, _, rfl, _⟩ := hk.open
  repeat' (first | (first | refine wc_seq ?_ | refine wc_region ?_ | refine wl_nil ?_ | refine wn_seq ?_ | refine wn_blk ?_ | refine wc_skip ?_ | refine wc_block ?_ | refine wc_exit rfl ?_ | (show WL _ _ (_ :: _) _ _ _ _; first | refine wl_v rfl rfl rfl (by first | (show OpV _ _ _ _ (Oper.mk _ (Op.move _) _ _ _ _) _ _; exact xo_move rfl) | (show OpV _ _ _ _ (Oper.mk _ (Op.assign _) _ _ _ _) _ _; exact xo_assign rfl) | (show OpV _ _ _ _ (Oper.mk _ (Op.pick _ _ _) _ _ _ _) _ _; first | exact xo_and rfl rfl | exact xo_or rfl rfl) | (show OpV _ _ _ _ (Oper.mk _ (Op.extract _ _) _ _ _ _) _ _; exact xo_extract rfl) | (show OpV _ _ _ _ (Oper.mk _ (Op.binOp BinOp.eql _ _ _ _) _ _ _ _) _ _; first | exact xo_eql rfl rfl | exact xo_seql rfl rfl | exact xo_beql rfl rfl | exact xo_aeql rfl rfl) | (show OpV _ _ _ _ (Oper.mk _ (Op.load _ _) _ _ _ _) _ _; first | exact xo_load1 rfl | exact xo_loadS rfl)) ?_ | refine wl_v rfl rfl rfl (by first | ((show OpV _ _ _ _ (Oper.mk _ (Op.call ⟨.value (.func 46), _, _⟩) _ _ _ _) _ _; exact ov_call Tryd.call46 rfl (by intro himp; first | rfl | (simp_all; done)) (by rfl) (fun _ _ h k => h.ext k) (fun hcg w hw => hsm hw.laid))) | fail) ?_ | refine xl_alloc (fun _ => ?_) | refine xl_box rfl (fun _ => ?_) | refine xl_store rfl rfl ?_) | refine wc_ret rfl ?_) | (show WC _ (Code.cond _ _ _) _ _ _ _; (refine wc_cond rfl (fun hc => ?_) (fun hc => ?_) <;> (try (simp only [decide_eq_true_eq, decide_eq_false_iff_not, Bool.and_eq_true, Bool.or_eq_true, Bool.and_eq_false_iff, Bool.or_eq_false_iff, Bool.not_eq_true', Bool.not_eq_false', Int.not_lt, Int.not_le] at hc)) <;> (try (exfalso; first | omega | contradiction)))))
  refine wr_tmp rfl rfl (congrArg Value.bool ?_)
  rw [Bool.eq_iff_iff, hr]
  simp only [Bool.and_eq_true, decide_eq_true_eq, Prod.mk.injEq, Req.mk.injEq]
  constructor
  · rintro ⟨h0, ⟨⟨h1, h2⟩, h3⟩, h4⟩; exact ⟨⟨h1, h2, h4, h3⟩, h0⟩
  · rintro ⟨⟨h1, h2, h4, h3⟩, h0⟩; exact ⟨h0, ⟨⟨h1, h2⟩, h3⟩, h4⟩
/-- a request written: its bytes, what is wrong -/
def writeQ (r : Req) : List UInt8 × Int := if rightQ r = true then (if 4096 < (linesQ [32] r).length then ([], 2) else (linesQ [32] r, 0)) else ([], 1)
theorem qwrite_ok (hG : Glob M) (hM : Laid M w) {hv : Value} {l : List Pr} (hh : SlP M hv l) (m t b : List UInt8) (hb : (linesQ [32] ⟨m, t, l, b⟩).length ≤ 1000000000) : Calls Tryd.prog 19 #[.agg #[str m, str t, hv, str b]] w (RetE w (.tuple #[str (writeQ ⟨m, t, l, b⟩).1, i64 (writeQ ⟨m, t, l, b⟩).2])) := by
  have hgap := lines_gap ⟨m, t, l, b⟩
  have hln := fun {w : World} (h : Laid M w) => qlines_ok h hh m t b [32] hb
  have hri := fun {w : World} (h : Laid M w) => qright_ok hG h hh m t b (by omega)
  obtain ⟨a, cap, bb, o, cs, T, fz, rfl, _⟩ := hh.open
  unfold writeQ
  generalize linesQ [32] ⟨m, t, l, b⟩ = ls at *
  generalize rightQ ⟨m, t, l, b⟩ = ri at *
  refine calls_st (l := [.agg #[str m, str t, .slice a l.length cap, str b]]) hM Tryd.func19 rfl rfl rfl (E0 := [(0, true, .agg #[str m, str t, .slice a l.length cap, str b])]) (params_cons rfl (params_nil _)) ?_
  repeat' (first | (first | refine wc_seq ?_ | refine wc_region ?_ | refine wl_nil ?_ | refine wn_seq ?_ | refine wn_blk ?_ | refine wc_skip ?_ | refine wc_block ?_ | refine wc_exit rfl ?_ | (show WL _ _ (_ :: _) _ _ _ _; first | refine wl_v rfl rfl rfl (by first | (show OpV _ _ _ _ (Oper.mk _ (Op.move _) _ _ _ _) _ _; exact xo_move rfl) | (show OpV _ _ _ _ (Oper.mk _ (Op.assign _) _ _ _ _) _ _; exact xo_assign rfl) | (show OpV _ _ _ _ (Oper.mk _ (Op.call ⟨.builtin .len, _, _⟩) _ _ _ _) _ _; first | exact xo_slen rfl | exact xo_len rfl) | (show OpV _ _ _ _ (Oper.mk _ (Op.unOp _ _ _) _ _ _ _) _ _; exact xo_not rfl) | (show OpV _ _ _ _ (Oper.mk _ (Op.binOp BinOp.gtr _ _ _ _) _ _ _ _) _ _; exact xo_gtr rfl rfl) | (show OpV _ _ _ _ (Oper.mk _ (Op.load _ _) _ _ _ _) _ _; first | exact xo_load1 rfl | exact xo_loadS rfl)) ?_ | refine wl_v rfl rfl rfl (by first | ((show OpV _ _ _ _ (Oper.mk _ (Op.call ⟨.value (.func 43), _, _⟩) _ _ _ _) _ _; exact ov_call Tryd.call43 rfl (by intro himp; first | rfl | (simp_all; done)) (by rfl) (fun _ _ h k => h.ext k) (fun hcg w hw => hln hw.laid))) | ((show OpV _ _ _ _ (Oper.mk _ (Op.call ⟨.value (.func 25), _, _⟩) _ _ _ _) _ _; exact ov_call Tryd.call25 rfl (by intro himp; first | rfl | (simp_all; done)) (by rfl) (fun _ _ h k => h.ext k) (fun hcg w hw => hri hw.laid))) | fail) ?_ | refine xl_box rfl (fun _ => ?_)) | refine wc_ret rfl ?_) | (show WC _ (Code.cond _ _ _) _ _ _ _; (refine wc_cond rfl (fun hc => ?_) (fun hc => ?_) <;> (try (simp only [decide_eq_true_eq, decide_eq_false_iff_not, Bool.and_eq_true, Bool.or_eq_true, Bool.and_eq_false_iff, Bool.or_eq_false_iff, Bool.not_eq_true', Bool.not_eq_false', Int.not_lt, Int.not_le] at hc)) <;> (try (exfalso; first | omega | contradiction)))))
  · rw [if_neg (by rw [hc]; decide)]
    exact wr_tmp2 rfl rfl rfl rfl rfl
  · rw [if_pos (by assumption), if_pos (by omega)]
    exact wr_tmp2 rfl rfl rfl rfl rfl
  · rw [if_pos (by assumption), if_neg (by omega)]
    exact wr_tmp2 rfl rfl rfl rfl rfl
def pathQ (t : List UInt8) : List UInt8 := t.take (idx 63 t)
def queryQ (t : List UInt8) : List UInt8 := t.drop (idx 63 t + 1)
theorem qpath_ok (hG : Glob M) (hM : Laid M w) {hv : Value} {l : List Pr} (hh : SlP M hv l) (m t b : List UInt8) (hs : t.length ≤ 1000000000) : Calls Tryd.prog 17 #[.agg #[str m, str t, hv, str b]] w (RetE w (str (pathQ t))) := by
  obtain ⟨a, cap, bb, o, cs, T, fz, rfl, _⟩ := hh.open
  refine calls_st (l := [.agg #[str m, str t, .slice a l.length cap, str b]]) hM Tryd.func17 rfl rfl rfl (E0 := [(0, true, .agg #[str m, str t, .slice a l.length cap, str b])]) (params_cons rfl (params_nil _)) ?_
  repeat' (first | (first | refine wc_seq ?_ | refine wc_region ?_ | refine wl_nil ?_ | refine wn_seq ?_ | refine wn_blk ?_ | refine wc_skip ?_ | refine wc_block ?_ | refine wc_exit rfl ?_ | (show WL _ _ (_ :: _) _ _ _ _; first | refine wl_v rfl rfl rfl (by first | (show OpV _ _ _ _ (Oper.mk _ (Op.move _) _ _ _ _) _ _; exact xo_move rfl) | (show OpV _ _ _ _ (Oper.mk _ (Op.assign _) _ _ _ _) _ _; exact xo_assign rfl) | (show OpV _ _ _ _ (Oper.mk _ (Op.extract _ _) _ _ _ _) _ _; exact xo_extract rfl) | (show OpV _ _ _ _ (Oper.mk _ (Op.fieldAddr _ _ _) _ _ _ _) _ _; exact xo_fieldAddr rfl) | (show OpV _ _ _ _ (Oper.mk _ (Op.load _ _) _ _ _ _) _ _; first | exact xo_load1 rfl | exact xo_loadS rfl)) ?_ | refine wl_v rfl rfl rfl (by first | ((show OpV _ _ _ _ (Oper.mk _ (Op.call ⟨.value (.func 41), _, _⟩) _ _ _ _) _ _; exact ov_call Tryd.call41 rfl (by intro himp; first | rfl | (simp_all; done)) (by rfl) (fun _ _ h k => h.ext k) (fun hcg w hw => cut_ok hG hw.laid t 63 hs))) | fail) ?_ | refine xl_box rfl (fun _ => ?_)) | refine wc_ret rfl ?_) | (show WC _ (Code.cond _ _ _) _ _ _ _; (refine wc_cond rfl (fun hc => ?_) (fun hc => ?_) <;> (try (simp only [decide_eq_true_eq, decide_eq_false_iff_not, Bool.and_eq_true, Bool.or_eq_true, Bool.and_eq_false_iff, Bool.or_eq_false_iff, Bool.not_eq_true', Bool.not_eq_false', Int.not_lt, Int.not_le] at hc)) <;> (try (exfalso; first | omega | contradiction)))))
  exact wr_tmp rfl rfl rfl
/-- all pairs that are asked -/
def argsQ (m t b : List UInt8) : List Pr × Int :=
  if ((form (queryQ t)).2 : Int) ≠ 0 ∨ m ≠ sPost then ((form (queryQ t)).1, ((form (queryQ t)).2 : Int))
  else if ((form b).2 : Int) ≠ 0 then ([], ((form b).2 : Int))
  else if 32 < (form (queryQ t)).1.length + (form b).1.length then ([], 5)
  else ((form (queryQ t)).1 ++ (form b).1, 0)
def ArgsIs (r : List Pr × Int) (M' : Ghost) (v : Value) : Prop := ∃ sv, v = .tuple #[sv, i64 r.2] ∧ SlP M' sv r.1
theorem src_cells {M : Ghost} {a : Option Addr} {b o : Nat} {cs : Array Value} {T : TypeId} {fz : Nat × Nat} {l : List Pr} (h3 : l ≠ [] → a = some ⟨b, o, none⟩ ∧ M b (.cells cs T fz)) (h4 : ∀ i, i < l.length → cs[o + i * 2]? = some (str (l.getD i default).1) ∧ cs[o + i * 2 + 1]? = some (str (l.getD i default).2)) : l.length = 0 ∨ ∃ b o cs T fz, a = some ⟨b, o, none⟩ ∧ M b (.cells cs T fz) ∧ ∀ j u, (cellsP l)[j]? = some u → cs[o + j]? = some u := by
  cases l with
  | nil => exact .inl rfl
  | cons p l =>
    obtain ⟨h5, h6⟩ := h3 (by simp)
    exact .inr ⟨b, o, cs, T, fz, h5, h6, row_cells _ cs o h4⟩
theorem qargs_ok (hG : Glob M) (hM : Laid M w) {hv : Value} {l : List Pr} (hh : SlP M hv l) (m t b : List UInt8) (hs : t.length ≤ 1000000000) (hs2 : b.length ≤ 1000000000) : Calls Tryd.prog 15 #[.agg #[str m, str t, hv, str b]] w (RetS M w (fun M' H v => H = [] ∧ ArgsIs (argsQ m t b) M' v)) := by
  obtain ⟨a, cap, bb, o, cs, T, fz, rfl, _⟩ := hh.open
  have hql : (queryQ t).length ≤ t.length := by unfold queryQ; rw [List.length_drop]; omega
  have hcut := fun {w : World} (h : Laid M w) => cut_ok hG h t 63 hs
  refine calls_st (l := [.agg #[str m, str t, .slice a l.length cap, str b]]) hM Tryd.func15 rfl rfl rfl (E0 := [(0, true, .agg #[str m, str t, .slice a l.length cap, str b])]) (params_cons rfl (params_nil _)) ?_
  repeat' (first | (first | refine wc_seq ?_ | refine wc_region ?_ | refine wl_nil ?_ | refine wn_seq ?_ | refine wn_blk ?_ | refine wc_skip ?_ | refine wc_block ?_ | refine wc_exit rfl ?_ | (show WL _ _ (_ :: _) _ _ _ _; first | refine wl_v rfl rfl rfl (by first | (show OpV _ _ _ _ (Oper.mk _ (Op.move _) _ _ _ _) _ _; exact xo_move rfl) | (show OpV _ _ _ _ (Oper.mk _ (Op.assign _) _ _ _ _) _ _; exact xo_assign rfl) | (show OpV _ _ _ _ (Oper.mk _ (Op.pick _ _ _) _ _ _ _) _ _; first | exact xo_and rfl rfl | exact xo_or rfl rfl) | (show OpV _ _ _ _ (Oper.mk _ (Op.extract _ _) _ _ _ _) _ _; exact xo_extract rfl) | (show OpV _ _ _ _ (Oper.mk _ (Op.call ⟨.builtin .len, _, _⟩) _ _ _ _) _ _; first | exact xo_slen rfl | exact xo_len rfl) | (show OpV _ _ _ _ (Oper.mk _ (Op.binOp BinOp.neq _ _ _ _) _ _ _ _) _ _; first | exact xo_neq rfl rfl | exact xo_sneq rfl rfl | exact xo_bneq rfl rfl | exact xo_aneq rfl rfl) | (show OpV _ _ _ _ (Oper.mk _ (Op.binOp BinOp.gtr _ _ _ _) _ _ _ _) _ _; exact xo_gtr rfl rfl) | (show OpV _ _ _ _ (Oper.mk _ (Op.binOp BinOp.add _ _ _ _) _ _ _ _) _ _; first | exact xo_add rfl rfl | exact ov_sadd rfl rfl (by first | with_reducible exact fun _ => rfl | with_reducible exact fun h => h | exact fun _ => rfl | exact fun h => h | (intro himp; simp_all; done)) (by first | with_reducible exact fun _ => rfl | with_reducible exact fun h => h | exact fun _ => rfl | exact fun h => h | (intro himp; simp_all; done)) (by intro hcg; first | omega | (simp only [List.length_append, List.length_take, List.length_drop, List.length_cons, List.length_nil, List.length_nil]; omega))) | (show OpV _ _ _ _ (Oper.mk _ (Op.fieldAddr _ _ _) _ _ _ _) _ _; exact xo_fieldAddr rfl) | (show OpV _ _ _ _ (Oper.mk _ (Op.load _ _) _ _ _ _) _ _; first | exact xo_load1 rfl | exact xo_loadS rfl)) ?_ | refine wl_v rfl rfl rfl (by first | ((show OpV _ _ _ _ (Oper.mk _ (Op.call ⟨.value (.func 41), _, _⟩) _ _ _ _) _ _; exact ov_call Tryd.call41 rfl (by intro himp; first | rfl | (simp_all; done)) (by rfl) (fun _ _ h k => h.ext k) (fun hcg w hw => hcut hw.laid))) | fail) ?_ | refine xl_box rfl (fun _ => ?_)) | refine wc_ret rfl ?_) | (show WC _ (Code.cond _ _ _) _ _ _ _; (refine wc_cond rfl (fun hc => ?_) (fun hc => ?_) <;> (try (simp only [decide_eq_true_eq, decide_eq_false_iff_not, Bool.and_eq_true, Bool.or_eq_true, Bool.and_eq_false_iff, Bool.or_eq_false_iff, Bool.not_eq_true', Bool.not_eq_false', Int.not_lt, Int.not_le] at hc)) <;> (try (exfalso; first | omega | contradiction)))))
  refine wl_callS rfl Tryd.call42 rfl rfl rfl rfl (fun w hw => form_own_ok hG hw.laid (queryQ t) (by omega)) ?_
  rintro v1 H1 M1 hm1 hnew1 ⟨sv, rfl, own⟩
  have hG1 := hG.mono hm1
  have hsin1 : Since w M M1 := Since.refl.step hm1 hnew1
  have hsh := form_short (queryQ t)
  unfold argsQ
  generalize form (queryQ t) = q at *
  obtain ⟨l1, e1⟩ := q
  dsimp only at *
  obtain ⟨a1, c1, rfl⟩ := own.slice (k := l1.length) (by decide) (cellsP_length _)
  have hsl1 : ∀ {M' : Ghost}, (∀ p ∈ H1, M' p.1 p.2) → SlP M' (.slice a1 l1.length c1) l1 := fun h => own.slP h (by omega)
  repeat' (first | (first | refine wc_seq ?_ | refine wc_region ?_ | refine wl_nil ?_ | refine wn_seq ?_ | refine wn_blk ?_ | refine wc_skip ?_ | refine wc_block ?_ | refine wc_exit rfl ?_ | (show WL _ _ (_ :: _) _ _ _ _; first | refine wl_v rfl rfl rfl (by first | (show OpV _ _ _ _ (Oper.mk _ (Op.move _) _ _ _ _) _ _; exact xo_move rfl) | (show OpV _ _ _ _ (Oper.mk _ (Op.assign _) _ _ _ _) _ _; exact xo_assign rfl) | (show OpV _ _ _ _ (Oper.mk _ (Op.pick _ _ _) _ _ _ _) _ _; first | exact xo_and rfl rfl | exact xo_or rfl rfl) | (show OpV _ _ _ _ (Oper.mk _ (Op.extract _ _) _ _ _ _) _ _; exact xo_extract rfl) | (show OpV _ _ _ _ (Oper.mk _ (Op.call ⟨.builtin .len, _, _⟩) _ _ _ _) _ _; first | exact xo_slen rfl | exact xo_len rfl) | (show OpV _ _ _ _ (Oper.mk _ (Op.binOp BinOp.neq _ _ _ _) _ _ _ _) _ _; first | exact xo_neq rfl rfl | exact xo_sneq rfl rfl | exact xo_bneq rfl rfl | exact xo_aneq rfl rfl) | (show OpV _ _ _ _ (Oper.mk _ (Op.binOp BinOp.gtr _ _ _ _) _ _ _ _) _ _; exact xo_gtr rfl rfl) | (show OpV _ _ _ _ (Oper.mk _ (Op.binOp BinOp.add _ _ _ _) _ _ _ _) _ _; first | exact xo_add rfl rfl | exact ov_sadd rfl rfl (by first | with_reducible exact fun _ => rfl | with_reducible exact fun h => h | exact fun _ => rfl | exact fun h => h | (intro himp; simp_all; done)) (by first | with_reducible exact fun _ => rfl | with_reducible exact fun h => h | exact fun _ => rfl | exact fun h => h | (intro himp; simp_all; done)) (by intro hcg; first | omega | (simp only [List.length_append, List.length_take, List.length_drop, List.length_cons, List.length_nil, List.length_nil]; omega))) | (show OpV _ _ _ _ (Oper.mk _ (Op.fieldAddr _ _ _) _ _ _ _) _ _; exact xo_fieldAddr rfl) | (show OpV _ _ _ _ (Oper.mk _ (Op.load _ _) _ _ _ _) _ _; first | exact xo_load1 rfl | exact xo_loadS rfl)) ?_ | refine wl_v rfl rfl rfl (by first  | fail) ?_ | refine xl_box rfl (fun _ => ?_)) | refine wc_ret rfl ?_) | (show WC _ (Code.cond _ _ _) _ _ _ _; (refine wc_cond rfl (fun hc => ?_) (fun hc => ?_) <;> (try (simp only [decide_eq_true_eq, decide_eq_false_iff_not, Bool.and_eq_true, Bool.or_eq_true, Bool.and_eq_false_iff, Bool.or_eq_false_iff, Bool.not_eq_true', Bool.not_eq_false', Int.not_lt, Int.not_le] at hc)) <;> (try (exfalso; first | omega | contradiction)))))
  · rw [if_pos (show (e1 : Int) ≠ 0 ∨ m ≠ sPost from hc)]
    refine wr_lay2 (Hn := H1) rfl rfl rfl hsin1 (List.sublist_append_left _ _) ⟨rfl, _, rfl, hsl1 (fun p hp => .inr hp)⟩
  have hne : ¬ ((e1 : Int) ≠ 0 ∨ m ≠ sPost) := by
    rintro (h | h)
    · exact h hc.1
    · exact h hc.2
  rw [if_neg hne]
  obtain ⟨he1, rfl⟩ := hc
  obtain rfl : e1 = 0 := by omega
  refine wl_callS rfl Tryd.call42 rfl rfl rfl rfl (fun w hw => form_ok hG1 hw.laid b hs2) ?_
  rintro v2 H2 M2 hm2 hnew2 ⟨rfl, sv2, rfl, hk⟩
  have hsin2 := hsin1.step hm2 hnew2
  have hsh2 := form_short b
  generalize form b = q2 at *
  obtain ⟨l2, e2⟩ := q2
  dsimp only at *
  obtain ⟨a2, c2, b2, o2, cs2, T2, fz2, rfl, k1, k2, k3, k4⟩ := hk.open
  repeat' (first | (first | refine wc_seq ?_ | refine wc_region ?_ | refine wl_nil ?_ | refine wn_seq ?_ | refine wn_blk ?_ | refine wc_skip ?_ | refine wc_block ?_ | refine wc_exit rfl ?_ | (show WL _ _ (_ :: _) _ _ _ _; first | refine wl_v rfl rfl rfl (by first | (show OpV _ _ _ _ (Oper.mk _ (Op.move _) _ _ _ _) _ _; exact xo_move rfl) | (show OpV _ _ _ _ (Oper.mk _ (Op.assign _) _ _ _ _) _ _; exact xo_assign rfl) | (show OpV _ _ _ _ (Oper.mk _ (Op.pick _ _ _) _ _ _ _) _ _; first | exact xo_and rfl rfl | exact xo_or rfl rfl) | (show OpV _ _ _ _ (Oper.mk _ (Op.extract _ _) _ _ _ _) _ _; exact xo_extract rfl) | (show OpV _ _ _ _ (Oper.mk _ (Op.call ⟨.builtin .len, _, _⟩) _ _ _ _) _ _; first | exact xo_slen rfl | exact xo_len rfl) | (show OpV _ _ _ _ (Oper.mk _ (Op.binOp BinOp.neq _ _ _ _) _ _ _ _) _ _; first | exact xo_neq rfl rfl | exact xo_sneq rfl rfl | exact xo_bneq rfl rfl | exact xo_aneq rfl rfl) | (show OpV _ _ _ _ (Oper.mk _ (Op.binOp BinOp.gtr _ _ _ _) _ _ _ _) _ _; exact xo_gtr rfl rfl) | (show OpV _ _ _ _ (Oper.mk _ (Op.binOp BinOp.add _ _ _ _) _ _ _ _) _ _; first | exact xo_add rfl rfl | exact ov_sadd rfl rfl (by first | with_reducible exact fun _ => rfl | with_reducible exact fun h => h | exact fun _ => rfl | exact fun h => h | (intro himp; simp_all; done)) (by first | with_reducible exact fun _ => rfl | with_reducible exact fun h => h | exact fun _ => rfl | exact fun h => h | (intro himp; simp_all; done)) (by intro hcg; first | omega | (simp only [List.length_append, List.length_take, List.length_drop, List.length_cons, List.length_nil, List.length_nil]; omega))) | (show OpV _ _ _ _ (Oper.mk _ (Op.fieldAddr _ _ _) _ _ _ _) _ _; exact xo_fieldAddr rfl) | (show OpV _ _ _ _ (Oper.mk _ (Op.load _ _) _ _ _ _) _ _; first | exact xo_load1 rfl | exact xo_loadS rfl)) ?_ | refine wl_v rfl rfl rfl (by first  | fail) ?_ | refine xl_box rfl (fun _ => ?_)) | refine wc_ret rfl ?_) | (show WC _ (Code.cond _ _ _) _ _ _ _; (refine wc_cond rfl (fun hc => ?_) (fun hc => ?_) <;> (try (simp only [decide_eq_true_eq, decide_eq_false_iff_not, Bool.and_eq_true, Bool.or_eq_true, Bool.and_eq_false_iff, Bool.or_eq_false_iff, Bool.not_eq_true', Bool.not_eq_false', Int.not_lt, Int.not_le] at hc)) <;> (try (exfalso; first | omega | contradiction)))))
  · rw [if_pos (by omega)]
    exact wr_lay2 (Hn := []) rfl rfl rfl hsin2 (List.nil_sublist _) ⟨rfl, _, rfl, sl_nil⟩
  · rw [if_neg (by omega), if_pos (by omega)]
    exact wr_lay2 (Hn := []) rfl rfl rfl hsin2 (List.nil_sublist _) ⟨rfl, _, rfl, sl_nil⟩
  · rw [if_neg (by omega), if_neg (by omega)]
    refine wl_appendM (news := cellsP l2) (H0 := []) rfl own rfl rfl rfl rfl rfl rfl rfl rfl rfl rfl (src_cells k3 k4) (cellsP_length _) (cellsP_plain _) (by rw [List.append_nil]; exact List.sublist_append_left _ _) (by rw [cellsP_length]; omega) rfl ?_
    intro v' Hs' ho'
    rw [← cellsP_append] at ho'
    obtain ⟨a3, c3, rfl⟩ := ho'.slice (k := (l1 ++ l2).length) (by decide) (cellsP_length _)
    repeat' (first | (first | refine wc_seq ?_ | refine wc_region ?_ | refine wl_nil ?_ | refine wn_seq ?_ | refine wn_blk ?_ | refine wc_skip ?_ | refine wc_block ?_ | refine wc_exit rfl ?_ | (show WL _ _ (_ :: _) _ _ _ _; first | refine wl_v rfl rfl rfl (by first | (show OpV _ _ _ _ (Oper.mk _ (Op.move _) _ _ _ _) _ _; exact xo_move rfl) | (show OpV _ _ _ _ (Oper.mk _ (Op.assign _) _ _ _ _) _ _; exact xo_assign rfl) | (show OpV _ _ _ _ (Oper.mk _ (Op.pick _ _ _) _ _ _ _) _ _; first | exact xo_and rfl rfl | exact xo_or rfl rfl) | (show OpV _ _ _ _ (Oper.mk _ (Op.extract _ _) _ _ _ _) _ _; exact xo_extract rfl) | (show OpV _ _ _ _ (Oper.mk _ (Op.call ⟨.builtin .len, _, _⟩) _ _ _ _) _ _; first | exact xo_slen rfl | exact xo_len rfl) | (show OpV _ _ _ _ (Oper.mk _ (Op.binOp BinOp.neq _ _ _ _) _ _ _ _) _ _; first | exact xo_neq rfl rfl | exact xo_sneq rfl rfl | exact xo_bneq rfl rfl | exact xo_aneq rfl rfl) | (show OpV _ _ _ _ (Oper.mk _ (Op.binOp BinOp.gtr _ _ _ _) _ _ _ _) _ _; exact xo_gtr rfl rfl) | (show OpV _ _ _ _ (Oper.mk _ (Op.binOp BinOp.add _ _ _ _) _ _ _ _) _ _; first | exact xo_add rfl rfl | exact ov_sadd rfl rfl (by first | with_reducible exact fun _ => rfl | with_reducible exact fun h => h | exact fun _ => rfl | exact fun h => h | (intro himp; simp_all; done)) (by first | with_reducible exact fun _ => rfl | with_reducible exact fun h => h | exact fun _ => rfl | exact fun h => h | (intro himp; simp_all; done)) (by intro hcg; first | omega | (simp only [List.length_append, List.length_take, List.length_drop, List.length_cons, List.length_nil, List.length_nil]; omega))) | (show OpV _ _ _ _ (Oper.mk _ (Op.fieldAddr _ _ _) _ _ _ _) _ _; exact xo_fieldAddr rfl) | (show OpV _ _ _ _ (Oper.mk _ (Op.load _ _) _ _ _ _) _ _; first | exact xo_load1 rfl | exact xo_loadS rfl)) ?_ | refine wl_v rfl rfl rfl (by first  | fail) ?_ | refine xl_box rfl (fun _ => ?_)) | refine wc_ret rfl ?_) | (show WC _ (Code.cond _ _ _) _ _ _ _; (refine wc_cond rfl (fun hc => ?_) (fun hc => ?_) <;> (try (simp only [decide_eq_true_eq, decide_eq_false_iff_not, Bool.and_eq_true, Bool.or_eq_true, Bool.and_eq_false_iff, Bool.or_eq_false_iff, Bool.not_eq_true', Bool.not_eq_false', Int.not_lt, Int.not_le] at hc)) <;> (try (exfalso; first | omega | contradiction)))))
    exact wr_lay2 (Hn := Hs') rfl rfl rfl hsin2 (by rw [List.append_nil]; exact List.Sublist.refl _) ⟨rfl, _, rfl, ho'.slP (fun p hp => .inr hp) (by rw [List.length_append]; omega)⟩
theorem c63 {c : UInt8} : ((c.toNat : Int) = 63) ↔ c = 63 := u8_eq c 63 (by decide)
theorem rpath_ok (hM : Laid M w) {hv : Value} {l : List Pr} (hh : SlP M hv l) (m t b : List UInt8) (hs : t.length ≤ 1000000000) : Calls Tryd.prog 24 #[.agg #[str m, str t, hv, str b]] w (RetE w (.tuple #[str (pathQ t), str (queryQ t)])) := by
  obtain ⟨a, cap, bb, o, cs, T, fz, rfl, _⟩ := hh.open
  refine calls_st (l := [.agg #[str m, str t, .slice a l.length cap, str b]]) hM Tryd.func24 rfl rfl rfl (E0 := [(0, true, .agg #[str m, str t, .slice a l.length cap, str b])]) (params_cons rfl (params_nil _)) ?_
  repeat' (first | (first | refine wc_seq ?_ | refine wc_region ?_ | refine wl_nil ?_ | refine wn_seq ?_ | refine wn_blk ?_ | refine wc_skip ?_ | refine wc_block ?_ | refine wc_exit rfl ?_ | (show WL _ _ (_ :: _) _ _ _ _; first | refine wl_v rfl rfl rfl (by first | (show OpV _ _ _ _ (Oper.mk _ (Op.move _) _ _ _ _) _ _; exact xo_move rfl) | (show OpV _ _ _ _ (Oper.mk _ (Op.assign _) _ _ _ _) _ _; exact xo_assign rfl) | (show OpV _ _ _ _ (Oper.mk _ (Op.call ⟨.builtin .len, _, _⟩) _ _ _ _) _ _; first | exact xo_slen rfl | exact xo_len rfl) | (show OpV _ _ _ _ (Oper.mk _ (Op.binOp BinOp.eql _ _ _ _) _ _ _ _) _ _; first | exact xo_eql rfl rfl | exact xo_seql rfl rfl | exact xo_beql rfl rfl | exact xo_aeql rfl rfl) | (show OpV _ _ _ _ (Oper.mk _ (Op.binOp BinOp.lss _ _ _ _) _ _ _ _) _ _; exact xo_lss rfl rfl) | (show OpV _ _ _ _ (Oper.mk _ (Op.binOp BinOp.add _ _ _ _) _ _ _ _) _ _; first | exact xo_add rfl rfl | exact ov_sadd rfl rfl (by first | with_reducible exact fun _ => rfl | with_reducible exact fun h => h | exact fun _ => rfl | exact fun h => h | (intro himp; simp_all; done)) (by first | with_reducible exact fun _ => rfl | with_reducible exact fun h => h | exact fun _ => rfl | exact fun h => h | (intro himp; simp_all; done)) (by intro hcg; first | omega | (simp only [List.length_append, List.length_take, List.length_drop, List.length_cons, List.length_nil, List.length_nil]; omega))) | (show OpV _ _ _ _ (Oper.mk _ (Op.index _ _ _) _ _ _ _) _ _; exact xo_sindex rfl rfl) | (show OpV _ _ _ _ (Oper.mk _ (Op.slice _ _ (some _) (some _) none) _ _ _ _) _ _; first | exact xo_slice rfl rfl rfl | exact xo_slcB rfl rfl rfl) | (show OpV _ _ _ _ (Oper.mk _ (Op.slice _ _ (some _) none none) _ _ _ _) _ _; first | exact xo_from rfl rfl | exact xo_slcFrom rfl rfl) | (show OpV _ _ _ _ (Oper.mk _ (Op.slice _ _ none (some _) none) _ _ _ _) _ _; first | exact xo_to rfl rfl | exact xo_slcTo rfl rfl) | (show OpV _ _ _ _ (Oper.mk _ (Op.slice _ _ none (some _) (some _)) _ _ _ _) _ _; exact xo_slc3 rfl rfl rfl) | (show OpV _ _ _ _ (Oper.mk _ (Op.fieldAddr _ _ _) _ _ _ _) _ _; exact xo_fieldAddr rfl) | (show OpV _ _ _ _ (Oper.mk _ (Op.load _ _) _ _ _ _) _ _; first | exact xo_load1 rfl | exact xo_loadS rfl)) ?_ | refine wl_v rfl rfl rfl (by first  | fail) ?_ | refine xl_box rfl (fun _ => ?_)) | refine wc_ret rfl ?_) | (show WC _ (Code.cond _ _ _) _ _ _ _; (refine wc_cond rfl (fun hc => ?_) (fun hc => ?_) <;> (try (simp only [decide_eq_true_eq, decide_eq_false_iff_not, Bool.and_eq_true, Bool.or_eq_true, Bool.and_eq_false_iff, Bool.or_eq_false_iff, Bool.not_eq_true', Bool.not_eq_false', Int.not_lt, Int.not_le] at hc)) <;> (try (exfalso; first | omega | contradiction)))))
  rename_i b1
  refine wc_loop (α := { k : Nat // k ≤ t.length ∧ ∀ j, j < k → t.getD j 0 ≠ 63 }) (fun x => [(1, true, .pointer (some ⟨b1, 0, none⟩)), (4, true, i64 (x.1 : Int))]) (fun _ => St w [] [(b1, .cells [str m, str t, .slice a l.length cap, str b].toArray 25 (0, 0))] M) (fun x => t.length - x.1) ⟨0, by omega, by intro j hj; omega⟩ (by first | exact Sub.nil _ | (repeat (first | exact Sub.nil _ | refine Sub.cons (by first | rfl | (simp [look]; done)) ?_))) (fun _ h => h) ?_
  rintro ⟨k, hk, hno⟩
  dsimp only
  rcases Nat.lt_or_ge k t.length with hlt | hge
  · by_cases h63 : t.getD k 0 = 63
    · have hi := c63.2 h63
      have hidx : idx 63 t = k := idx_eq hk hno (.inr h63)
      repeat' (first | (first | refine wc_seq ?_ | refine wc_region ?_ | refine wl_nil ?_ | refine wn_seq ?_ | refine wn_blk ?_ | refine wc_skip ?_ | refine wc_block ?_ | refine wc_exit rfl ?_ | (show WL _ _ (_ :: _) _ _ _ _; first | refine wl_v rfl rfl rfl (by first | (show OpV _ _ _ _ (Oper.mk _ (Op.move _) _ _ _ _) _ _; exact xo_move rfl) | (show OpV _ _ _ _ (Oper.mk _ (Op.assign _) _ _ _ _) _ _; exact xo_assign rfl) | (show OpV _ _ _ _ (Oper.mk _ (Op.call ⟨.builtin .len, _, _⟩) _ _ _ _) _ _; first | exact xo_slen rfl | exact xo_len rfl) | (show OpV _ _ _ _ (Oper.mk _ (Op.binOp BinOp.eql _ _ _ _) _ _ _ _) _ _; first | exact xo_eql rfl rfl | exact xo_seql rfl rfl | exact xo_beql rfl rfl | exact xo_aeql rfl rfl) | (show OpV _ _ _ _ (Oper.mk _ (Op.binOp BinOp.lss _ _ _ _) _ _ _ _) _ _; exact xo_lss rfl rfl) | (show OpV _ _ _ _ (Oper.mk _ (Op.binOp BinOp.add _ _ _ _) _ _ _ _) _ _; first | exact xo_add rfl rfl | exact ov_sadd rfl rfl (by first | with_reducible exact fun _ => rfl | with_reducible exact fun h => h | exact fun _ => rfl | exact fun h => h | (intro himp; simp_all; done)) (by first | with_reducible exact fun _ => rfl | with_reducible exact fun h => h | exact fun _ => rfl | exact fun h => h | (intro himp; simp_all; done)) (by intro hcg; first | omega | (simp only [List.length_append, List.length_take, List.length_drop, List.length_cons, List.length_nil, List.length_nil]; omega))) | (show OpV _ _ _ _ (Oper.mk _ (Op.index _ _ _) _ _ _ _) _ _; exact xo_sindex rfl rfl) | (show OpV _ _ _ _ (Oper.mk _ (Op.slice _ _ (some _) (some _) none) _ _ _ _) _ _; first | exact xo_slice rfl rfl rfl | exact xo_slcB rfl rfl rfl) | (show OpV _ _ _ _ (Oper.mk _ (Op.slice _ _ (some _) none none) _ _ _ _) _ _; first | exact xo_from rfl rfl | exact xo_slcFrom rfl rfl) | (show OpV _ _ _ _ (Oper.mk _ (Op.slice _ _ none (some _) none) _ _ _ _) _ _; first | exact xo_to rfl rfl | exact xo_slcTo rfl rfl) | (show OpV _ _ _ _ (Oper.mk _ (Op.slice _ _ none (some _) (some _)) _ _ _ _) _ _; exact xo_slc3 rfl rfl rfl) | (show OpV _ _ _ _ (Oper.mk _ (Op.fieldAddr _ _ _) _ _ _ _) _ _; exact xo_fieldAddr rfl) | (show OpV _ _ _ _ (Oper.mk _ (Op.load _ _) _ _ _ _) _ _; first | exact xo_load1 rfl | exact xo_loadS rfl)) ?_ | refine wl_v rfl rfl rfl (by first  | fail) ?_ | refine xl_box rfl (fun _ => ?_)) | refine wc_ret rfl ?_) | (show WC _ (Code.cond _ _ _) _ _ _ _; (refine wc_cond rfl (fun hc => ?_) (fun hc => ?_) <;> (try (simp only [decide_eq_true_eq, decide_eq_false_iff_not, Bool.and_eq_true, Bool.or_eq_true, Bool.and_eq_false_iff, Bool.or_eq_false_iff, Bool.not_eq_true', Bool.not_eq_false', Int.not_lt, Int.not_le] at hc)) <;> (try (exfalso; first | omega | contradiction)))))
      refine wc_weak (E' := [(1, true, .pointer (some ⟨b1, 0, none⟩)), (4, true, i64 (k : Int))]) (by first | exact Sub.nil _ | (repeat (first | exact Sub.nil _ | refine Sub.cons (by first | rfl | (simp [look]; done)) ?_))) (fun _ h => h) ?_
      refine wc_draw 11 (by kernel_rfl) rfl (by kernel_rfl) (fun _ _ h k => h.ext k) ?_
      repeat' (first | (show WD _ _ (_ :: _) _ _ _ _ _ _; first | refine wd_v rfl rfl rfl rfl rfl rfl (by first | (show OpV _ _ _ _ (Oper.mk _ (Op.move _) _ _ _ _) _ _; exact xo_move rfl) | (show OpV _ _ _ _ (Oper.mk _ (Op.assign _) _ _ _ _) _ _; exact xo_assign rfl) | (show OpV _ _ _ _ (Oper.mk _ (Op.call ⟨.builtin .len, _, _⟩) _ _ _ _) _ _; first | exact xo_slen rfl | exact xo_len rfl) | (show OpV _ _ _ _ (Oper.mk _ (Op.binOp BinOp.eql _ _ _ _) _ _ _ _) _ _; first | exact xo_eql rfl rfl | exact xo_seql rfl rfl | exact xo_beql rfl rfl | exact xo_aeql rfl rfl) | (show OpV _ _ _ _ (Oper.mk _ (Op.binOp BinOp.lss _ _ _ _) _ _ _ _) _ _; exact xo_lss rfl rfl) | (show OpV _ _ _ _ (Oper.mk _ (Op.binOp BinOp.add _ _ _ _) _ _ _ _) _ _; first | exact xo_add rfl rfl | exact ov_sadd rfl rfl (by first | with_reducible exact fun _ => rfl | with_reducible exact fun h => h | exact fun _ => rfl | exact fun h => h | (intro himp; simp_all; done)) (by first | with_reducible exact fun _ => rfl | with_reducible exact fun h => h | exact fun _ => rfl | exact fun h => h | (intro himp; simp_all; done)) (by intro hcg; first | omega | (simp only [List.length_append, List.length_take, List.length_drop, List.length_cons, List.length_nil, List.length_nil]; omega))) | (show OpV _ _ _ _ (Oper.mk _ (Op.index _ _ _) _ _ _ _) _ _; exact xo_sindex rfl rfl) | (show OpV _ _ _ _ (Oper.mk _ (Op.slice _ _ (some _) (some _) none) _ _ _ _) _ _; first | exact xo_slice rfl rfl rfl | exact xo_slcB rfl rfl rfl) | (show OpV _ _ _ _ (Oper.mk _ (Op.slice _ _ (some _) none none) _ _ _ _) _ _; first | exact xo_from rfl rfl | exact xo_slcFrom rfl rfl) | (show OpV _ _ _ _ (Oper.mk _ (Op.slice _ _ none (some _) none) _ _ _ _) _ _; first | exact xo_to rfl rfl | exact xo_slcTo rfl rfl) | (show OpV _ _ _ _ (Oper.mk _ (Op.slice _ _ none (some _) (some _)) _ _ _ _) _ _; exact xo_slc3 rfl rfl rfl) | (show OpV _ _ _ _ (Oper.mk _ (Op.fieldAddr _ _ _) _ _ _ _) _ _; exact xo_fieldAddr rfl) | (show OpV _ _ _ _ (Oper.mk _ (Op.load _ _) _ _ _ _) _ _; first | exact xo_load1 rfl | exact xo_loadS rfl)) ?_ | refine wd_v rfl rfl rfl rfl rfl rfl (by first  | fail) ?_ | refine wd_new rfl rfl rfl rfl rfl rfl steady_fresh (or_buildSlice rfl rfl (by first | exact (rfl : _ = some 1) | exact (rfl : _ = some 2) | exact (rfl : _ = some 3) | exact (rfl : _ = some 4) | exact (rfl : _ = some 6) | exact rfl) (fun _ => rfl) rfl rfl rfl (by simp only [cellsAll, Value.cells, List.size_toArray, List.length_cons, List.length_nil, Nat.zero_add, Nat.reduceAdd, and_self, if_true, true_and, Option.map_some, List.cons_append, List.nil_append]; first | done | rfl)) ?_ | refine wd_conv rfl rfl rfl rfl rfl rfl rfl rfl rfl rfl ?_) | (show WD _ _ _ _ _ _ _ _ _; first | refine wd_nil ?_ | refine wd_nilF ?_) | (first | refine wc_seq ?_ | refine wc_region ?_ | refine wl_nil ?_ | refine wn_seq ?_ | refine wn_blk ?_ | refine wc_skip ?_ | refine wc_block ?_ | refine wc_exit rfl ?_ | (show WL _ _ (_ :: _) _ _ _ _; first | refine wl_v rfl rfl rfl (by first | (show OpV _ _ _ _ (Oper.mk _ (Op.move _) _ _ _ _) _ _; exact xo_move rfl) | (show OpV _ _ _ _ (Oper.mk _ (Op.assign _) _ _ _ _) _ _; exact xo_assign rfl) | (show OpV _ _ _ _ (Oper.mk _ (Op.call ⟨.builtin .len, _, _⟩) _ _ _ _) _ _; first | exact xo_slen rfl | exact xo_len rfl) | (show OpV _ _ _ _ (Oper.mk _ (Op.binOp BinOp.eql _ _ _ _) _ _ _ _) _ _; first | exact xo_eql rfl rfl | exact xo_seql rfl rfl | exact xo_beql rfl rfl | exact xo_aeql rfl rfl) | (show OpV _ _ _ _ (Oper.mk _ (Op.binOp BinOp.lss _ _ _ _) _ _ _ _) _ _; exact xo_lss rfl rfl) | (show OpV _ _ _ _ (Oper.mk _ (Op.binOp BinOp.add _ _ _ _) _ _ _ _) _ _; first | exact xo_add rfl rfl | exact ov_sadd rfl rfl (by first | with_reducible exact fun _ => rfl | with_reducible exact fun h => h | exact fun _ => rfl | exact fun h => h | (intro himp; simp_all; done)) (by first | with_reducible exact fun _ => rfl | with_reducible exact fun h => h | exact fun _ => rfl | exact fun h => h | (intro himp; simp_all; done)) (by intro hcg; first | omega | (simp only [List.length_append, List.length_take, List.length_drop, List.length_cons, List.length_nil, List.length_nil]; omega))) | (show OpV _ _ _ _ (Oper.mk _ (Op.index _ _ _) _ _ _ _) _ _; exact xo_sindex rfl rfl) | (show OpV _ _ _ _ (Oper.mk _ (Op.slice _ _ (some _) (some _) none) _ _ _ _) _ _; first | exact xo_slice rfl rfl rfl | exact xo_slcB rfl rfl rfl) | (show OpV _ _ _ _ (Oper.mk _ (Op.slice _ _ (some _) none none) _ _ _ _) _ _; first | exact xo_from rfl rfl | exact xo_slcFrom rfl rfl) | (show OpV _ _ _ _ (Oper.mk _ (Op.slice _ _ none (some _) none) _ _ _ _) _ _; first | exact xo_to rfl rfl | exact xo_slcTo rfl rfl) | (show OpV _ _ _ _ (Oper.mk _ (Op.slice _ _ none (some _) (some _)) _ _ _ _) _ _; exact xo_slc3 rfl rfl rfl) | (show OpV _ _ _ _ (Oper.mk _ (Op.fieldAddr _ _ _) _ _ _ _) _ _; exact xo_fieldAddr rfl) | (show OpV _ _ _ _ (Oper.mk _ (Op.load _ _) _ _ _ _) _ _; first | exact xo_load1 rfl | exact xo_loadS rfl)) ?_ | refine wl_v rfl rfl rfl (by first  | fail) ?_ | refine xl_box rfl (fun _ => ?_)) | refine wc_ret rfl ?_))
      repeat' (first | (first | refine wc_seq ?_ | refine wc_region ?_ | refine wl_nil ?_ | refine wn_seq ?_ | refine wn_blk ?_ | refine wc_skip ?_ | refine wc_block ?_ | refine wc_exit rfl ?_ | (show WL _ _ (_ :: _) _ _ _ _; first | refine wl_v rfl rfl rfl (by first | (show OpV _ _ _ _ (Oper.mk _ (Op.move _) _ _ _ _) _ _; exact xo_move rfl) | (show OpV _ _ _ _ (Oper.mk _ (Op.assign _) _ _ _ _) _ _; exact xo_assign rfl) | (show OpV _ _ _ _ (Oper.mk _ (Op.call ⟨.builtin .len, _, _⟩) _ _ _ _) _ _; first | exact xo_slen rfl | exact xo_len rfl) | (show OpV _ _ _ _ (Oper.mk _ (Op.binOp BinOp.eql _ _ _ _) _ _ _ _) _ _; first | exact xo_eql rfl rfl | exact xo_seql rfl rfl | exact xo_beql rfl rfl | exact xo_aeql rfl rfl) | (show OpV _ _ _ _ (Oper.mk _ (Op.binOp BinOp.lss _ _ _ _) _ _ _ _) _ _; exact xo_lss rfl rfl) | (show OpV _ _ _ _ (Oper.mk _ (Op.binOp BinOp.add _ _ _ _) _ _ _ _) _ _; first | exact xo_add rfl rfl | exact ov_sadd rfl rfl (by first | with_reducible exact fun _ => rfl | with_reducible exact fun h => h | exact fun _ => rfl | exact fun h => h | (intro himp; simp_all; done)) (by first | with_reducible exact fun _ => rfl | with_reducible exact fun h => h | exact fun _ => rfl | exact fun h => h | (intro himp; simp_all; done)) (by intro hcg; first | omega | (simp only [List.length_append, List.length_take, List.length_drop, List.length_cons, List.length_nil, List.length_nil]; omega))) | (show OpV _ _ _ _ (Oper.mk _ (Op.index _ _ _) _ _ _ _) _ _; exact xo_sindex rfl rfl) | (show OpV _ _ _ _ (Oper.mk _ (Op.slice _ _ (some _) (some _) none) _ _ _ _) _ _; first | exact xo_slice rfl rfl rfl | exact xo_slcB rfl rfl rfl) | (show OpV _ _ _ _ (Oper.mk _ (Op.slice _ _ (some _) none none) _ _ _ _) _ _; first | exact xo_from rfl rfl | exact xo_slcFrom rfl rfl) | (show OpV _ _ _ _ (Oper.mk _ (Op.slice _ _ none (some _) none) _ _ _ _) _ _; first | exact xo_to rfl rfl | exact xo_slcTo rfl rfl) | (show OpV _ _ _ _ (Oper.mk _ (Op.slice _ _ none (some _) (some _)) _ _ _ _) _ _; exact xo_slc3 rfl rfl rfl) | (show OpV _ _ _ _ (Oper.mk _ (Op.fieldAddr _ _ _) _ _ _ _) _ _; exact xo_fieldAddr rfl) | (show OpV _ _ _ _ (Oper.mk _ (Op.load _ _) _ _ _ _) _ _; first | exact xo_load1 rfl | exact xo_loadS rfl)) ?_ | refine wl_v rfl rfl rfl (by first  | fail) ?_ | refine xl_box rfl (fun _ => ?_)) | refine wc_ret rfl ?_) | (show WC _ (Code.cond _ _ _) _ _ _ _; (refine wc_cond rfl (fun hc => ?_) (fun hc => ?_) <;> (try (simp only [decide_eq_true_eq, decide_eq_false_iff_not, Bool.and_eq_true, Bool.or_eq_true, Bool.and_eq_false_iff, Bool.or_eq_false_iff, Bool.not_eq_true', Bool.not_eq_false', Int.not_lt, Int.not_le] at hc)) <;> (try (exfalso; first | omega | contradiction)))))
      unfold pathQ queryQ
      rw [hidx]
      exact wr_tmp2 rfl rfl rfl rfl rfl
    · have hi : ¬ (((t.getD k 0).toNat : Int) = 63) := fun h => h63 (c63.1 h)
      repeat' (first | (first | refine wc_seq ?_ | refine wc_region ?_ | refine wl_nil ?_ | refine wn_seq ?_ | refine wn_blk ?_ | refine wc_skip ?_ | refine wc_block ?_ | refine wc_exit rfl ?_ | (show WL _ _ (_ :: _) _ _ _ _; first | refine wl_v rfl rfl rfl (by first | (show OpV _ _ _ _ (Oper.mk _ (Op.move _) _ _ _ _) _ _; exact xo_move rfl) | (show OpV _ _ _ _ (Oper.mk _ (Op.assign _) _ _ _ _) _ _; exact xo_assign rfl) | (show OpV _ _ _ _ (Oper.mk _ (Op.call ⟨.builtin .len, _, _⟩) _ _ _ _) _ _; first | exact xo_slen rfl | exact xo_len rfl) | (show OpV _ _ _ _ (Oper.mk _ (Op.binOp BinOp.eql _ _ _ _) _ _ _ _) _ _; first | exact xo_eql rfl rfl | exact xo_seql rfl rfl | exact xo_beql rfl rfl | exact xo_aeql rfl rfl) | (show OpV _ _ _ _ (Oper.mk _ (Op.binOp BinOp.lss _ _ _ _) _ _ _ _) _ _; exact xo_lss rfl rfl) | (show OpV _ _ _ _ (Oper.mk _ (Op.binOp BinOp.add _ _ _ _) _ _ _ _) _ _; first | exact xo_add rfl rfl | exact ov_sadd rfl rfl (by first | with_reducible exact fun _ => rfl | with_reducible exact fun h => h | exact fun _ => rfl | exact fun h => h | (intro himp; simp_all; done)) (by first | with_reducible exact fun _ => rfl | with_reducible exact fun h => h | exact fun _ => rfl | exact fun h => h | (intro himp; simp_all; done)) (by intro hcg; first | omega | (simp only [List.length_append, List.length_take, List.length_drop, List.length_cons, List.length_nil, List.length_nil]; omega))) | (show OpV _ _ _ _ (Oper.mk _ (Op.index _ _ _) _ _ _ _) _ _; exact xo_sindex rfl rfl) | (show OpV _ _ _ _ (Oper.mk _ (Op.slice _ _ (some _) (some _) none) _ _ _ _) _ _; first | exact xo_slice rfl rfl rfl | exact xo_slcB rfl rfl rfl) | (show OpV _ _ _ _ (Oper.mk _ (Op.slice _ _ (some _) none none) _ _ _ _) _ _; first | exact xo_from rfl rfl | exact xo_slcFrom rfl rfl) | (show OpV _ _ _ _ (Oper.mk _ (Op.slice _ _ none (some _) none) _ _ _ _) _ _; first | exact xo_to rfl rfl | exact xo_slcTo rfl rfl) | (show OpV _ _ _ _ (Oper.mk _ (Op.slice _ _ none (some _) (some _)) _ _ _ _) _ _; exact xo_slc3 rfl rfl rfl) | (show OpV _ _ _ _ (Oper.mk _ (Op.fieldAddr _ _ _) _ _ _ _) _ _; exact xo_fieldAddr rfl) | (show OpV _ _ _ _ (Oper.mk _ (Op.load _ _) _ _ _ _) _ _; first | exact xo_load1 rfl | exact xo_loadS rfl)) ?_ | refine wl_v rfl rfl rfl (by first  | fail) ?_ | refine xl_box rfl (fun _ => ?_)) | refine wc_ret rfl ?_) | (show WC _ (Code.cond _ _ _) _ _ _ _; (refine wc_cond rfl (fun hc => ?_) (fun hc => ?_) <;> (try (simp only [decide_eq_true_eq, decide_eq_false_iff_not, Bool.and_eq_true, Bool.or_eq_true, Bool.and_eq_false_iff, Bool.or_eq_false_iff, Bool.not_eq_true', Bool.not_eq_false', Int.not_lt, Int.not_le] at hc)) <;> (try (exfalso; first | omega | contradiction)))))
      refine wn_cut ⟨k + 1, by omega, ?_⟩ (by show t.length - (k + 1) < t.length - k; omega) (by first | exact Sub.nil _ | (repeat (first | exact Sub.nil _ | refine Sub.cons (by first | rfl | (simp [look]; done)) ?_))) (fun _ h => h)
      intro j hj
      by_cases h : j = k
      · subst h; exact h63
      · exact hno j (by omega)
  · have hidx : idx 63 t = t.length := idx_eq (Nat.le_refl _) (fun j hj => hno j (by omega)) (.inl rfl)
    repeat' (first | (first | refine wc_seq ?_ | refine wc_region ?_ | refine wl_nil ?_ | refine wn_seq ?_ | refine wn_blk ?_ | refine wc_skip ?_ | refine wc_block ?_ | refine wc_exit rfl ?_ | (show WL _ _ (_ :: _) _ _ _ _; first | refine wl_v rfl rfl rfl (by first | (show OpV _ _ _ _ (Oper.mk _ (Op.move _) _ _ _ _) _ _; exact xo_move rfl) | (show OpV _ _ _ _ (Oper.mk _ (Op.assign _) _ _ _ _) _ _; exact xo_assign rfl) | (show OpV _ _ _ _ (Oper.mk _ (Op.call ⟨.builtin .len, _, _⟩) _ _ _ _) _ _; first | exact xo_slen rfl | exact xo_len rfl) | (show OpV _ _ _ _ (Oper.mk _ (Op.binOp BinOp.eql _ _ _ _) _ _ _ _) _ _; first | exact xo_eql rfl rfl | exact xo_seql rfl rfl | exact xo_beql rfl rfl | exact xo_aeql rfl rfl) | (show OpV _ _ _ _ (Oper.mk _ (Op.binOp BinOp.lss _ _ _ _) _ _ _ _) _ _; exact xo_lss rfl rfl) | (show OpV _ _ _ _ (Oper.mk _ (Op.binOp BinOp.add _ _ _ _) _ _ _ _) _ _; first | exact xo_add rfl rfl | exact ov_sadd rfl rfl (by first | with_reducible exact fun _ => rfl | with_reducible exact fun h => h | exact fun _ => rfl | exact fun h => h | (intro himp; simp_all; done)) (by first | with_reducible exact fun _ => rfl | with_reducible exact fun h => h | exact fun _ => rfl | exact fun h => h | (intro himp; simp_all; done)) (by intro hcg; first | omega | (simp only [List.length_append, List.length_take, List.length_drop, List.length_cons, List.length_nil, List.length_nil]; omega))) | (show OpV _ _ _ _ (Oper.mk _ (Op.index _ _ _) _ _ _ _) _ _; exact xo_sindex rfl rfl) | (show OpV _ _ _ _ (Oper.mk _ (Op.slice _ _ (some _) (some _) none) _ _ _ _) _ _; first | exact xo_slice rfl rfl rfl | exact xo_slcB rfl rfl rfl) | (show OpV _ _ _ _ (Oper.mk _ (Op.slice _ _ (some _) none none) _ _ _ _) _ _; first | exact xo_from rfl rfl | exact xo_slcFrom rfl rfl) | (show OpV _ _ _ _ (Oper.mk _ (Op.slice _ _ none (some _) none) _ _ _ _) _ _; first | exact xo_to rfl rfl | exact xo_slcTo rfl rfl) | (show OpV _ _ _ _ (Oper.mk _ (Op.slice _ _ none (some _) (some _)) _ _ _ _) _ _; exact xo_slc3 rfl rfl rfl) | (show OpV _ _ _ _ (Oper.mk _ (Op.fieldAddr _ _ _) _ _ _ _) _ _; exact xo_fieldAddr rfl) | (show OpV _ _ _ _ (Oper.mk _ (Op.load _ _) _ _ _ _) _ _; first | exact xo_load1 rfl | exact xo_loadS rfl)) ?_ | refine wl_v rfl rfl rfl (by first  | fail) ?_ | refine xl_box rfl (fun _ => ?_)) | refine wc_ret rfl ?_) | (show WC _ (Code.cond _ _ _) _ _ _ _; (refine wc_cond rfl (fun hc => ?_) (fun hc => ?_) <;> (try (simp only [decide_eq_true_eq, decide_eq_false_iff_not, Bool.and_eq_true, Bool.or_eq_true, Bool.and_eq_false_iff, Bool.or_eq_false_iff, Bool.not_eq_true', Bool.not_eq_false', Int.not_lt, Int.not_le] at hc)) <;> (try (exfalso; first | omega | contradiction)))))
    unfold pathQ queryQ
    rw [hidx, List.take_of_length_le (Nat.le_refl _), List.drop_eq_nil_of_le (by omega)]
    exact wr_tmp2 rfl rfl rfl rfl rfl
theorem rargs_ok (hM : Laid M w) {hv : Value} {l : List Pr} (hh : SlP M hv l) (m t b : List UInt8) (hs : t.length ≤ 1000000) (hs2 : b.length ≤ 1000000) : Calls Tryd.prog 21 #[.agg #[str m, str t, hv, str b]] w (RetS M w (fun M' H v => H = [] ∧ ArgsIs (argsQ m t b) M' v)) := by
  have hpa := fun {w : World} (h : Laid M w) => rpath_ok h hh m t b (by omega)
  obtain ⟨a, cap, bb, o, cs, T, fz, rfl, _⟩ := hh.open
  have hql : (queryQ t).length ≤ t.length := by unfold queryQ; rw [List.length_drop]; omega
  refine calls_st (l := [.agg #[str m, str t, .slice a l.length cap, str b]]) hM Tryd.func21 rfl rfl rfl (E0 := [(0, true, .agg #[str m, str t, .slice a l.length cap, str b])]) (params_cons rfl (params_nil _)) ?_
  repeat' (first | (first | refine wc_seq ?_ | refine wc_region ?_ | refine wl_nil ?_ | refine wn_seq ?_ | refine wn_blk ?_ | refine wc_skip ?_ | refine wc_block ?_ | refine wc_exit rfl ?_ | (show WL _ _ (_ :: _) _ _ _ _; first | refine wl_v rfl rfl rfl (by first | (show OpV _ _ _ _ (Oper.mk _ (Op.move _) _ _ _ _) _ _; exact xo_move rfl) | (show OpV _ _ _ _ (Oper.mk _ (Op.assign _) _ _ _ _) _ _; exact xo_assign rfl) | (show OpV _ _ _ _ (Oper.mk _ (Op.pick _ _ _) _ _ _ _) _ _; first | exact xo_and rfl rfl | exact xo_or rfl rfl) | (show OpV _ _ _ _ (Oper.mk _ (Op.extract _ _) _ _ _ _) _ _; exact xo_extract rfl) | (show OpV _ _ _ _ (Oper.mk _ (Op.call ⟨.builtin .len, _, _⟩) _ _ _ _) _ _; first | exact xo_slen rfl | exact xo_len rfl) | (show OpV _ _ _ _ (Oper.mk _ (Op.binOp BinOp.neq _ _ _ _) _ _ _ _) _ _; first | exact xo_neq rfl rfl | exact xo_sneq rfl rfl | exact xo_bneq rfl rfl | exact xo_aneq rfl rfl) | (show OpV _ _ _ _ (Oper.mk _ (Op.binOp BinOp.gtr _ _ _ _) _ _ _ _) _ _; exact xo_gtr rfl rfl) | (show OpV _ _ _ _ (Oper.mk _ (Op.binOp BinOp.add _ _ _ _) _ _ _ _) _ _; first | exact xo_add rfl rfl | exact ov_sadd rfl rfl (by first | with_reducible exact fun _ => rfl | with_reducible exact fun h => h | exact fun _ => rfl | exact fun h => h | (intro himp; simp_all; done)) (by first | with_reducible exact fun _ => rfl | with_reducible exact fun h => h | exact fun _ => rfl | exact fun h => h | (intro himp; simp_all; done)) (by intro hcg; first | omega | (simp only [List.length_append, List.length_take, List.length_drop, List.length_cons, List.length_nil, List.length_nil]; omega))) | (show OpV _ _ _ _ (Oper.mk _ (Op.fieldAddr _ _ _) _ _ _ _) _ _; exact xo_fieldAddr rfl) | (show OpV _ _ _ _ (Oper.mk _ (Op.load _ _) _ _ _ _) _ _; first | exact xo_load1 rfl | exact xo_loadS rfl)) ?_ | refine wl_v rfl rfl rfl (by first | ((show OpV _ _ _ _ (Oper.mk _ (Op.call ⟨.value (.func 24), _, _⟩) _ _ _ _) _ _; exact ov_call Tryd.call24 rfl (by intro himp; first | rfl | (simp_all; done)) (by rfl) (fun _ _ h k => h.ext k) (fun hcg w hw => hpa hw.laid))) | fail) ?_ | refine xl_box rfl (fun _ => ?_) | refine xl_buildSlice rfl (fun _ => ?_)) | refine wc_ret rfl ?_) | (show WC _ (Code.cond _ _ _) _ _ _ _; (refine wc_cond rfl (fun hc => ?_) (fun hc => ?_) <;> (try (simp only [decide_eq_true_eq, decide_eq_false_iff_not, Bool.and_eq_true, Bool.or_eq_true, Bool.and_eq_false_iff, Bool.or_eq_false_iff, Bool.not_eq_true', Bool.not_eq_false', Int.not_lt, Int.not_le] at hc)) <;> (try (exfalso; first | omega | contradiction)))))
  refine wl_callS rfl Tryd.call45 rfl rfl rfl rfl (fun w hw => rform_ok hw.laid (queryQ t) (by omega)) ?_
  rintro v1 H1 M1 hm1 hnew1 ⟨rfl, sv, rfl, hk1⟩
  have hsin1 : Since w M M1 := Since.refl.step hm1 hnew1
  have hsh := form_short (queryQ t)
  unfold argsQ
  generalize form (queryQ t) = q at *
  obtain ⟨l1, e1⟩ := q
  dsimp only at *
  obtain ⟨a1, c1, b1, o1, cs1, T1, fz1, rfl, i1, i2, i3, i4⟩ := hk1.open
  repeat' (first | (first | refine wc_seq ?_ | refine wc_region ?_ | refine wl_nil ?_ | refine wn_seq ?_ | refine wn_blk ?_ | refine wc_skip ?_ | refine wc_block ?_ | refine wc_exit rfl ?_ | (show WL _ _ (_ :: _) _ _ _ _; first | refine wl_v rfl rfl rfl (by first | (show OpV _ _ _ _ (Oper.mk _ (Op.move _) _ _ _ _) _ _; exact xo_move rfl) | (show OpV _ _ _ _ (Oper.mk _ (Op.assign _) _ _ _ _) _ _; exact xo_assign rfl) | (show OpV _ _ _ _ (Oper.mk _ (Op.pick _ _ _) _ _ _ _) _ _; first | exact xo_and rfl rfl | exact xo_or rfl rfl) | (show OpV _ _ _ _ (Oper.mk _ (Op.extract _ _) _ _ _ _) _ _; exact xo_extract rfl) | (show OpV _ _ _ _ (Oper.mk _ (Op.call ⟨.builtin .len, _, _⟩) _ _ _ _) _ _; first | exact xo_slen rfl | exact xo_len rfl) | (show OpV _ _ _ _ (Oper.mk _ (Op.binOp BinOp.neq _ _ _ _) _ _ _ _) _ _; first | exact xo_neq rfl rfl | exact xo_sneq rfl rfl | exact xo_bneq rfl rfl | exact xo_aneq rfl rfl) | (show OpV _ _ _ _ (Oper.mk _ (Op.binOp BinOp.gtr _ _ _ _) _ _ _ _) _ _; exact xo_gtr rfl rfl) | (show OpV _ _ _ _ (Oper.mk _ (Op.binOp BinOp.add _ _ _ _) _ _ _ _) _ _; first | exact xo_add rfl rfl | exact ov_sadd rfl rfl (by first | with_reducible exact fun _ => rfl | with_reducible exact fun h => h | exact fun _ => rfl | exact fun h => h | (intro himp; simp_all; done)) (by first | with_reducible exact fun _ => rfl | with_reducible exact fun h => h | exact fun _ => rfl | exact fun h => h | (intro himp; simp_all; done)) (by intro hcg; first | omega | (simp only [List.length_append, List.length_take, List.length_drop, List.length_cons, List.length_nil, List.length_nil]; omega))) | (show OpV _ _ _ _ (Oper.mk _ (Op.fieldAddr _ _ _) _ _ _ _) _ _; exact xo_fieldAddr rfl) | (show OpV _ _ _ _ (Oper.mk _ (Op.load _ _) _ _ _ _) _ _; first | exact xo_load1 rfl | exact xo_loadS rfl)) ?_ | refine wl_v rfl rfl rfl (by first  | fail) ?_ | refine xl_box rfl (fun _ => ?_) | refine xl_buildSlice rfl (fun _ => ?_)) | refine wc_ret rfl ?_) | (show WC _ (Code.cond _ _ _) _ _ _ _; (refine wc_cond rfl (fun hc => ?_) (fun hc => ?_) <;> (try (simp only [decide_eq_true_eq, decide_eq_false_iff_not, Bool.and_eq_true, Bool.or_eq_true, Bool.and_eq_false_iff, Bool.or_eq_false_iff, Bool.not_eq_true', Bool.not_eq_false', Int.not_lt, Int.not_le] at hc)) <;> (try (exfalso; first | omega | contradiction)))))
  · rw [if_pos (show (e1 : Int) ≠ 0 ∨ m ≠ sPost from hc)]
    exact wr_lay2 (Hn := []) rfl rfl rfl hsin1 (List.nil_sublist _) ⟨rfl, _, rfl, hk1.mono (fun _ _ => .inl) (fun _ _ _ h => h)⟩
  have hne : ¬ ((e1 : Int) ≠ 0 ∨ m ≠ sPost) := by
    rintro (h | h)
    · exact h hc.1
    · exact h hc.2
  rw [if_neg hne]
  obtain ⟨he1, rfl⟩ := hc
  obtain rfl : e1 = 0 := by omega
  refine wl_callS rfl Tryd.call45 rfl rfl rfl rfl (fun w hw => rform_ok hw.laid b hs2) ?_
  rintro v2 H2 M2 hm2 hnew2 ⟨rfl, sv2, rfl, hk⟩
  have hsin2 := hsin1.step hm2 hnew2
  have hsh2 := form_short b
  generalize form b = q2 at *
  obtain ⟨l2, e2⟩ := q2
  dsimp only at *
  obtain ⟨a2, c2, b2, o2, cs2, T2, fz2, rfl, k1, k2, k3, k4⟩ := hk.open
  repeat' (first | (first | refine wc_seq ?_ | refine wc_region ?_ | refine wl_nil ?_ | refine wn_seq ?_ | refine wn_blk ?_ | refine wc_skip ?_ | refine wc_block ?_ | refine wc_exit rfl ?_ | (show WL _ _ (_ :: _) _ _ _ _; first | refine wl_v rfl rfl rfl (by first | (show OpV _ _ _ _ (Oper.mk _ (Op.move _) _ _ _ _) _ _; exact xo_move rfl) | (show OpV _ _ _ _ (Oper.mk _ (Op.assign _) _ _ _ _) _ _; exact xo_assign rfl) | (show OpV _ _ _ _ (Oper.mk _ (Op.pick _ _ _) _ _ _ _) _ _; first | exact xo_and rfl rfl | exact xo_or rfl rfl) | (show OpV _ _ _ _ (Oper.mk _ (Op.extract _ _) _ _ _ _) _ _; exact xo_extract rfl) | (show OpV _ _ _ _ (Oper.mk _ (Op.call ⟨.builtin .len, _, _⟩) _ _ _ _) _ _; first | exact xo_slen rfl | exact xo_len rfl) | (show OpV _ _ _ _ (Oper.mk _ (Op.binOp BinOp.neq _ _ _ _) _ _ _ _) _ _; first | exact xo_neq rfl rfl | exact xo_sneq rfl rfl | exact xo_bneq rfl rfl | exact xo_aneq rfl rfl) | (show OpV _ _ _ _ (Oper.mk _ (Op.binOp BinOp.gtr _ _ _ _) _ _ _ _) _ _; exact xo_gtr rfl rfl) | (show OpV _ _ _ _ (Oper.mk _ (Op.binOp BinOp.add _ _ _ _) _ _ _ _) _ _; first | exact xo_add rfl rfl | exact ov_sadd rfl rfl (by first | with_reducible exact fun _ => rfl | with_reducible exact fun h => h | exact fun _ => rfl | exact fun h => h | (intro himp; simp_all; done)) (by first | with_reducible exact fun _ => rfl | with_reducible exact fun h => h | exact fun _ => rfl | exact fun h => h | (intro himp; simp_all; done)) (by intro hcg; first | omega | (simp only [List.length_append, List.length_take, List.length_drop, List.length_cons, List.length_nil, List.length_nil]; omega))) | (show OpV _ _ _ _ (Oper.mk _ (Op.fieldAddr _ _ _) _ _ _ _) _ _; exact xo_fieldAddr rfl) | (show OpV _ _ _ _ (Oper.mk _ (Op.load _ _) _ _ _ _) _ _; first | exact xo_load1 rfl | exact xo_loadS rfl)) ?_ | refine wl_v rfl rfl rfl (by first  | fail) ?_ | refine xl_box rfl (fun _ => ?_) | refine xl_buildSlice rfl (fun _ => ?_)) | refine wc_ret rfl ?_) | (show WC _ (Code.cond _ _ _) _ _ _ _; (refine wc_cond rfl (fun hc => ?_) (fun hc => ?_) <;> (try (simp only [decide_eq_true_eq, decide_eq_false_iff_not, Bool.and_eq_true, Bool.or_eq_true, Bool.and_eq_false_iff, Bool.or_eq_false_iff, Bool.not_eq_true', Bool.not_eq_false', Int.not_lt, Int.not_le] at hc)) <;> (try (exfalso; first | omega | contradiction)))))
  · rw [if_pos (by omega)]
    exact wr_lay2 (Hn := []) rfl rfl rfl hsin2 (List.nil_sublist _) ⟨rfl, _, rfl, sl_nil⟩
  · rw [if_neg (by omega), if_pos (by omega)]
    exact wr_lay2 (Hn := []) rfl rfl rfl hsin2 (List.nil_sublist _) ⟨rfl, _, rfl, sl_nil⟩
  · rw [if_neg (by omega), if_neg (by omega)]
    rename_i b44
    refine wl_appendM (news := cellsP l1) (H0 := []) rfl (OwnS.lit (e := 50) (m := 2) (b := b44) (l := []) rfl (by decide)) rfl rfl rfl rfl rfl rfl rfl rfl rfl rfl (src_cells (fun h => ⟨(i3 h).1, hm2 _ _ (i3 h).2⟩) i4) (cellsP_length _) (cellsP_plain _) (by rw [List.append_nil]; exact List.Sublist.cons_cons _ (List.nil_sublist _)) (by simp; omega) rfl ?_
    intro v' Hs' ho'
    rw [List.nil_append] at ho'
    obtain ⟨a3, c3, rfl⟩ := ho'.slice (k := l1.length) (by decide) (cellsP_length _)
    repeat' (first | (first | refine wc_seq ?_ | refine wc_region ?_ | refine wl_nil ?_ | refine wn_seq ?_ | refine wn_blk ?_ | refine wc_skip ?_ | refine wc_block ?_ | refine wc_exit rfl ?_ | (show WL _ _ (_ :: _) _ _ _ _; first | refine wl_v rfl rfl rfl (by first | (show OpV _ _ _ _ (Oper.mk _ (Op.move _) _ _ _ _) _ _; exact xo_move rfl) | (show OpV _ _ _ _ (Oper.mk _ (Op.assign _) _ _ _ _) _ _; exact xo_assign rfl) | (show OpV _ _ _ _ (Oper.mk _ (Op.pick _ _ _) _ _ _ _) _ _; first | exact xo_and rfl rfl | exact xo_or rfl rfl) | (show OpV _ _ _ _ (Oper.mk _ (Op.extract _ _) _ _ _ _) _ _; exact xo_extract rfl) | (show OpV _ _ _ _ (Oper.mk _ (Op.call ⟨.builtin .len, _, _⟩) _ _ _ _) _ _; first | exact xo_slen rfl | exact xo_len rfl) | (show OpV _ _ _ _ (Oper.mk _ (Op.binOp BinOp.neq _ _ _ _) _ _ _ _) _ _; first | exact xo_neq rfl rfl | exact xo_sneq rfl rfl | exact xo_bneq rfl rfl | exact xo_aneq rfl rfl) | (show OpV _ _ _ _ (Oper.mk _ (Op.binOp BinOp.gtr _ _ _ _) _ _ _ _) _ _; exact xo_gtr rfl rfl) | (show OpV _ _ _ _ (Oper.mk _ (Op.binOp BinOp.add _ _ _ _) _ _ _ _) _ _; first | exact xo_add rfl rfl | exact ov_sadd rfl rfl (by first | with_reducible exact fun _ => rfl | with_reducible exact fun h => h | exact fun _ => rfl | exact fun h => h | (intro himp; simp_all; done)) (by first | with_reducible exact fun _ => rfl | with_reducible exact fun h => h | exact fun _ => rfl | exact fun h => h | (intro himp; simp_all; done)) (by intro hcg; first | omega | (simp only [List.length_append, List.length_take, List.length_drop, List.length_cons, List.length_nil, List.length_nil]; omega))) | (show OpV _ _ _ _ (Oper.mk _ (Op.fieldAddr _ _ _) _ _ _ _) _ _; exact xo_fieldAddr rfl) | (show OpV _ _ _ _ (Oper.mk _ (Op.load _ _) _ _ _ _) _ _; first | exact xo_load1 rfl | exact xo_loadS rfl)) ?_ | refine wl_v rfl rfl rfl (by first  | fail) ?_ | refine xl_box rfl (fun _ => ?_) | refine xl_buildSlice rfl (fun _ => ?_)) | refine wc_ret rfl ?_) | (show WC _ (Code.cond _ _ _) _ _ _ _; (refine wc_cond rfl (fun hc => ?_) (fun hc => ?_) <;> (try (simp only [decide_eq_true_eq, decide_eq_false_iff_not, Bool.and_eq_true, Bool.or_eq_true, Bool.and_eq_false_iff, Bool.or_eq_false_iff, Bool.not_eq_true', Bool.not_eq_false', Int.not_lt, Int.not_le] at hc)) <;> (try (exfalso; first | omega | contradiction)))))
    refine wl_appendM (news := cellsP l2) (H0 := []) rfl ho' rfl rfl rfl rfl rfl rfl rfl rfl rfl rfl (src_cells k3 k4) (cellsP_length _) (cellsP_plain _) (by rw [List.append_nil]; exact List.Sublist.refl _) (by rw [cellsP_length]; omega) rfl ?_
    intro v'' Hs'' ho''
    rw [← cellsP_append] at ho''
    obtain ⟨a4, c4, rfl⟩ := ho''.slice (k := (l1 ++ l2).length) (by decide) (cellsP_length _)
    repeat' (first | (first | refine wc_seq ?_ | refine wc_region ?_ | refine wl_nil ?_ | refine wn_seq ?_ | refine wn_blk ?_ | refine wc_skip ?_ | refine wc_block ?_ | refine wc_exit rfl ?_ | (show WL _ _ (_ :: _) _ _ _ _; first | refine wl_v rfl rfl rfl (by first | (show OpV _ _ _ _ (Oper.mk _ (Op.move _) _ _ _ _) _ _; exact xo_move rfl) | (show OpV _ _ _ _ (Oper.mk _ (Op.assign _) _ _ _ _) _ _; exact xo_assign rfl) | (show OpV _ _ _ _ (Oper.mk _ (Op.pick _ _ _) _ _ _ _) _ _; first | exact xo_and rfl rfl | exact xo_or rfl rfl) | (show OpV _ _ _ _ (Oper.mk _ (Op.extract _ _) _ _ _ _) _ _; exact xo_extract rfl) | (show OpV _ _ _ _ (Oper.mk _ (Op.call ⟨.builtin .len, _, _⟩) _ _ _ _) _ _; first | exact xo_slen rfl | exact xo_len rfl) | (show OpV _ _ _ _ (Oper.mk _ (Op.binOp BinOp.neq _ _ _ _) _ _ _ _) _ _; first | exact xo_neq rfl rfl | exact xo_sneq rfl rfl | exact xo_bneq rfl rfl | exact xo_aneq rfl rfl) | (show OpV _ _ _ _ (Oper.mk _ (Op.binOp BinOp.gtr _ _ _ _) _ _ _ _) _ _; exact xo_gtr rfl rfl) | (show OpV _ _ _ _ (Oper.mk _ (Op.binOp BinOp.add _ _ _ _) _ _ _ _) _ _; first | exact xo_add rfl rfl | exact ov_sadd rfl rfl (by first | with_reducible exact fun _ => rfl | with_reducible exact fun h => h | exact fun _ => rfl | exact fun h => h | (intro himp; simp_all; done)) (by first | with_reducible exact fun _ => rfl | with_reducible exact fun h => h | exact fun _ => rfl | exact fun h => h | (intro himp; simp_all; done)) (by intro hcg; first | omega | (simp only [List.length_append, List.length_take, List.length_drop, List.length_cons, List.length_nil, List.length_nil]; omega))) | (show OpV _ _ _ _ (Oper.mk _ (Op.fieldAddr _ _ _) _ _ _ _) _ _; exact xo_fieldAddr rfl) | (show OpV _ _ _ _ (Oper.mk _ (Op.load _ _) _ _ _ _) _ _; first | exact xo_load1 rfl | exact xo_loadS rfl)) ?_ | refine wl_v rfl rfl rfl (by first  | fail) ?_ | refine xl_box rfl (fun _ => ?_) | refine xl_buildSlice rfl (fun _ => ?_)) | refine wc_ret rfl ?_) | (show WC _ (Code.cond _ _ _) _ _ _ _; (refine wc_cond rfl (fun hc => ?_) (fun hc => ?_) <;> (try (simp only [decide_eq_true_eq, decide_eq_false_iff_not, Bool.and_eq_true, Bool.or_eq_true, Bool.and_eq_false_iff, Bool.or_eq_false_iff, Bool.not_eq_true', Bool.not_eq_false', Int.not_lt, Int.not_le] at hc)) <;> (try (exfalso; first | omega | contradiction)))))
    exact wr_lay2 (Hn := Hs'') rfl rfl rfl hsin2 (by rw [List.append_nil]; exact List.Sublist.refl _) ⟨rfl, _, rfl, ho''.slP (fun p hp => .inr hp) (by rw [List.length_append]; omega)⟩
end Go.Proofs.YtjdmnanicaghkaaDoor
/-
  The document's answer whether a request can be, and how it is written; of which size it is: matricularef03.Right, Write, Few.
-/
namespace Go.Proofs.YtjdmnanicaghkaaDoor
open Go.Eng Go.Pct Go.Rsp Go.Txt
set_option maxRecDepth 10000
set_option linter.unusedSimpArgs false
set_option linter.unusedVariables false

variable {M : Ghost} {w0 w : World} {bs : List Nat} {H : List (Nat × Obj)}

theorem wf_iff (r : Req) : wfQ r = true ↔ firstP (r.meth ++ [32] ++ r.targ ++ sVerL) = (r.meth, r.targ, 0) ∧ r.headers.length ≤ 32 ∧ lenP r.headers = ((r.body.length : Int), 0) ∧ ∀ p ∈ r.headers, goodH p = true := by
  unfold wfQ
  simp only [Bool.and_eq_true, decide_eq_true_eq, List.all_eq_true]
  exact ⟨fun h => ⟨h.1.1.1, h.1.1.2, h.1.2, h.2⟩, fun h => ⟨⟨⟨h.1, h.2.1⟩, h.2.2.1⟩, h.2.2.2⟩⟩
theorem right_no {r : Req} (h : ¬ wfQ r = true) : rightQ r = false := by
  unfold rightQ
  cases hw : wfQ r with
  | true => exact absurd hw h
  | false => rfl
theorem rright_ok (hM : Laid M w) {hv : Value} {l : List Pr} (hh : SlP M hv l) (m t b : List UInt8) (hsm : Small 140737488355328 l) (hb : (linesQ [] ⟨m, t, l, b⟩).length ≤ 900000) : Calls Tryd.prog 26 #[.agg #[str m, str t, hv, str b]] w (RetE w (.bool (rightQ ⟨m, t, l, b⟩))) := by
  have htx := fun {w : World} (h : Laid M w) => rtext_ok h hh m t b [] (by omega)
  have hlen : m.length + t.length + b.length ≤ (linesQ [] ⟨m, t, l, b⟩).length := by
    unfold linesQ; simp only [List.length_append]; omega
  have hcount : l.length ≤ (linesQ [] ⟨m, t, l, b⟩).length := by
    have : ∀ l : List Pr, l.length ≤ (l.flatMap (hlineQ [])).length := by
      intro l
      induction l with
      | nil => simp
      | cons p l ih =>
        have := hlineQ_length [] p
        rw [List.flatMap_cons, List.length_append, List.length_cons]; omega
    have := this l
    unfold linesQ; simp only [List.length_append]; omega
  have hle := fun {w : World} (h : Laid M w) => rlength_ok h hh m t b (by omega) hsm
  have hfi := fun {w : World} (h : Laid M w) => rfirst_ok h (m ++ [32] ++ t ++ sVerL) (by simp only [List.length_append, List.length_cons, List.length_nil]; show m.length + 1 + t.length + 9 ≤ _; omega)
  have hlp := lenP_is l
  obtain ⟨a, cap, bb, o, cs, T, fz, rfl, h1, h2, h3, h4⟩ := hh.open
  have hwf := wf_iff ⟨m, t, l, b⟩
  have hgood : ∀ j, j < l.length → l.getD j default ∈ l := fun j hj => by
    have : l.getD j default = l[j] := by simp [hj]
    rw [this]; exact List.getElem_mem _
  dsimp only at hwf
  generalize hfp : firstP (m ++ [32] ++ t ++ sVerL) = fp at *
  obtain ⟨m', t', e⟩ := fp
  dsimp only at hfi
  simp only [Prod.mk.injEq] at hwf
  generalize hlx : lenP l = lp at *
  obtain ⟨want, e2⟩ := lp
  dsimp only at *
  have hlq : (lenP l = ((b.length : Int), 0)) ↔ (if e2 ≠ 0 then -1 else want) = (b.length : Int) := by
    rw [hlx]
    simp only [Prod.mk.injEq]
    constructor
    · rintro ⟨k1, k2⟩; rw [k2, if_neg (by decide)]; exact k1
    · intro k
      by_cases k2 : e2 = 0
      · rw [k2, if_neg (by decide)] at k; exact ⟨k, k2⟩
      · rw [if_pos k2] at k; omega
  rw [hlx] at hlq
  rw [hlq] at hwf
  generalize (if e2 ≠ 0 then -1 else want) = wz at *
  refine calls_st (l := [.agg #[str m, str t, .slice a l.length cap, str b]]) hM Tryd.func26 rfl rfl rfl (E0 := [(0, true, .agg #[str m, str t, .slice a l.length cap, str b])]) (params_cons rfl (params_nil _)) ?_
  repeat' (first | (first | refine wc_seq ?_ | refine wc_region ?_ | refine wl_nil ?_ | refine wn_seq ?_ | refine wn_blk ?_ | refine wc_skip ?_ | refine wc_block ?_ | refine wc_exit rfl ?_ | (show WL _ _ (_ :: _) _ _ _ _; first | refine wl_v rfl rfl rfl (by first | (show OpV _ _ _ _ (Oper.mk _ (Op.move _) _ _ _ _) _ _; exact xo_move rfl) | (show OpV _ _ _ _ (Oper.mk _ (Op.assign _) _ _ _ _) _ _; exact xo_assign rfl) | (show OpV _ _ _ _ (Oper.mk _ (Op.pick _ _ _) _ _ _ _) _ _; first | exact xo_and rfl rfl | exact xo_or rfl rfl) | (show OpV _ _ _ _ (Oper.mk _ (Op.extract _ _) _ _ _ _) _ _; exact xo_extract rfl) | (show OpV _ _ _ _ (Oper.mk _ (Op.call ⟨.builtin .len, _, _⟩) _ _ _ _) _ _; first | exact xo_slen rfl | exact xo_len rfl) | (show OpV _ _ _ _ (Oper.mk _ (Op.unOp _ _ _) _ _ _ _) _ _; exact xo_not rfl) | (show OpV _ _ _ _ (Oper.mk _ (Op.binOp BinOp.neq _ _ _ _) _ _ _ _) _ _; first | exact xo_neq rfl rfl | exact xo_sneq rfl rfl | exact xo_bneq rfl rfl | exact xo_aneq rfl rfl) | (show OpV _ _ _ _ (Oper.mk _ (Op.binOp BinOp.lss _ _ _ _) _ _ _ _) _ _; exact xo_lss rfl rfl) | (show OpV _ _ _ _ (Oper.mk _ (Op.binOp BinOp.leq _ _ _ _) _ _ _ _) _ _; exact xo_leq rfl rfl) | (show OpV _ _ _ _ (Oper.mk _ (Op.binOp BinOp.gtr _ _ _ _) _ _ _ _) _ _; exact xo_gtr rfl rfl) | (show OpV _ _ _ _ (Oper.mk _ (Op.binOp BinOp.add _ _ _ _) _ _ _ _) _ _; first | exact xo_add rfl rfl | exact ov_sadd rfl rfl (by first | with_reducible exact fun _ => rfl | with_reducible exact fun h => h | exact fun _ => rfl | exact fun h => h | (intro himp; simp_all; done)) (by first | with_reducible exact fun _ => rfl | with_reducible exact fun h => h | exact fun _ => rfl | exact fun h => h | (intro himp; simp_all; done)) (by intro hcg; first | omega | (simp only [List.length_append, List.length_take, List.length_drop, List.length_cons, List.length_nil, List.length_nil]; omega))) | (show OpV _ _ _ _ (Oper.mk _ (Op.fieldAddr _ _ _) _ _ _ _) _ _; exact xo_fieldAddr rfl) | (show OpV _ _ _ _ (Oper.mk _ (Op.load _ _) _ _ _ _) _ _; first | exact xo_load1 rfl | exact xo_loadS rfl)) ?_ | refine wl_v rfl rfl rfl (by first | ((show OpV _ _ _ _ (Oper.mk _ (Op.call ⟨.value (.func 37), _, _⟩) _ _ _ _) _ _; exact ov_call Tryd.call37 rfl (by intro himp; first | rfl | (simp_all; done)) (by rfl) (fun _ _ h k => h.ext k) (fun hcg w hw => hfi hw.laid))) | fail) ?_ | refine xl_alloc (fun _ => ?_) | refine xl_box rfl (fun _ => ?_) | refine xl_store rfl rfl ?_) | refine wc_ret rfl ?_) | (show WC _ (Code.cond _ _ _) _ _ _ _; (refine wc_cond rfl (fun hc => ?_) (fun hc => ?_) <;> (try (simp only [decide_eq_true_eq, decide_eq_false_iff_not, Bool.and_eq_true, Bool.or_eq_true, Bool.and_eq_false_iff, Bool.or_eq_false_iff, Bool.not_eq_true', Bool.not_eq_false', Int.not_lt, Int.not_le] at hc)) <;> (try (exfalso; first | omega | contradiction)))))
  rename_i b1 b3
  refine wc_weak (E' := [(1, true, .pointer (some ⟨b1, 0, none⟩)), (3, true, .pointer (some ⟨b3, 0, none⟩)), (4, true, i64 e)]) (by first | exact Sub.nil _ | (repeat (first | exact Sub.nil _ | refine Sub.cons (by first | rfl | (simp [look]; done)) ?_))) (fun _ h => h) ?_
  refine wc_draw 30 (by kernel_rfl) rfl (by kernel_rfl) (fun _ _ h k => h.ext k) ?_
  repeat' (first | (show WD _ _ (_ :: _) _ _ _ _ _ _; first | refine wd_v rfl rfl rfl rfl rfl rfl (by first | (show OpV _ _ _ _ (Oper.mk _ (Op.move _) _ _ _ _) _ _; exact xo_move rfl) | (show OpV _ _ _ _ (Oper.mk _ (Op.assign _) _ _ _ _) _ _; exact xo_assign rfl) | (show OpV _ _ _ _ (Oper.mk _ (Op.pick _ _ _) _ _ _ _) _ _; first | exact xo_and rfl rfl | exact xo_or rfl rfl) | (show OpV _ _ _ _ (Oper.mk _ (Op.extract _ _) _ _ _ _) _ _; exact xo_extract rfl) | (show OpV _ _ _ _ (Oper.mk _ (Op.call ⟨.builtin .len, _, _⟩) _ _ _ _) _ _; first | exact xo_slen rfl | exact xo_len rfl) | (show OpV _ _ _ _ (Oper.mk _ (Op.unOp _ _ _) _ _ _ _) _ _; exact xo_not rfl) | (show OpV _ _ _ _ (Oper.mk _ (Op.binOp BinOp.neq _ _ _ _) _ _ _ _) _ _; first | exact xo_neq rfl rfl | exact xo_sneq rfl rfl | exact xo_bneq rfl rfl | exact xo_aneq rfl rfl) | (show OpV _ _ _ _ (Oper.mk _ (Op.binOp BinOp.lss _ _ _ _) _ _ _ _) _ _; exact xo_lss rfl rfl) | (show OpV _ _ _ _ (Oper.mk _ (Op.binOp BinOp.leq _ _ _ _) _ _ _ _) _ _; exact xo_leq rfl rfl) | (show OpV _ _ _ _ (Oper.mk _ (Op.binOp BinOp.gtr _ _ _ _) _ _ _ _) _ _; exact xo_gtr rfl rfl) | (show OpV _ _ _ _ (Oper.mk _ (Op.binOp BinOp.add _ _ _ _) _ _ _ _) _ _; first | exact xo_add rfl rfl | exact ov_sadd rfl rfl (by first | with_reducible exact fun _ => rfl | with_reducible exact fun h => h | exact fun _ => rfl | exact fun h => h | (intro himp; simp_all; done)) (by first | with_reducible exact fun _ => rfl | with_reducible exact fun h => h | exact fun _ => rfl | exact fun h => h | (intro himp; simp_all; done)) (by intro hcg; first | omega | (simp only [List.length_append, List.length_take, List.length_drop, List.length_cons, List.length_nil, List.length_nil]; omega))) | (show OpV _ _ _ _ (Oper.mk _ (Op.fieldAddr _ _ _) _ _ _ _) _ _; exact xo_fieldAddr rfl) | (show OpV _ _ _ _ (Oper.mk _ (Op.load _ _) _ _ _ _) _ _; first | exact xo_load1 rfl | exact xo_loadS rfl)) ?_ | refine wd_v rfl rfl rfl rfl rfl rfl (by first | ((show OpV _ _ _ _ (Oper.mk _ (Op.call ⟨.value (.func 39), _, _⟩) _ _ _ _) _ _; exact ov_call Tryd.call39 rfl (by intro himp; first | rfl | (simp_all; done)) (by rfl) (fun _ _ h k => h.ext k) (fun hcg w hw => hle hw.laid))) | fail) ?_ | refine wd_new rfl rfl rfl rfl rfl rfl steady_fresh (or_buildSlice rfl rfl (by first | exact (rfl : _ = some 1) | exact (rfl : _ = some 2) | exact (rfl : _ = some 3) | exact (rfl : _ = some 4) | exact (rfl : _ = some 6) | exact rfl) (fun _ => rfl) rfl rfl rfl (by simp only [cellsAll, Value.cells, List.size_toArray, List.length_cons, List.length_nil, Nat.zero_add, Nat.reduceAdd, and_self, if_true, true_and, Option.map_some, List.cons_append, List.nil_append]; first | done | rfl)) ?_ | refine wd_conv rfl rfl rfl rfl rfl rfl rfl rfl rfl rfl ?_) | (show WD _ _ _ _ _ _ _ _ _; first | refine wd_nil ?_ | refine wd_nilF ?_) | (first | refine wc_seq ?_ | refine wc_region ?_ | refine wl_nil ?_ | refine wn_seq ?_ | refine wn_blk ?_ | refine wc_skip ?_ | refine wc_block ?_ | refine wc_exit rfl ?_ | (show WL _ _ (_ :: _) _ _ _ _; first | refine wl_v rfl rfl rfl (by first | (show OpV _ _ _ _ (Oper.mk _ (Op.move _) _ _ _ _) _ _; exact xo_move rfl) | (show OpV _ _ _ _ (Oper.mk _ (Op.assign _) _ _ _ _) _ _; exact xo_assign rfl) | (show OpV _ _ _ _ (Oper.mk _ (Op.pick _ _ _) _ _ _ _) _ _; first | exact xo_and rfl rfl | exact xo_or rfl rfl) | (show OpV _ _ _ _ (Oper.mk _ (Op.extract _ _) _ _ _ _) _ _; exact xo_extract rfl) | (show OpV _ _ _ _ (Oper.mk _ (Op.call ⟨.builtin .len, _, _⟩) _ _ _ _) _ _; first | exact xo_slen rfl | exact xo_len rfl) | (show OpV _ _ _ _ (Oper.mk _ (Op.unOp _ _ _) _ _ _ _) _ _; exact xo_not rfl) | (show OpV _ _ _ _ (Oper.mk _ (Op.binOp BinOp.neq _ _ _ _) _ _ _ _) _ _; first | exact xo_neq rfl rfl | exact xo_sneq rfl rfl | exact xo_bneq rfl rfl | exact xo_aneq rfl rfl) | (show OpV _ _ _ _ (Oper.mk _ (Op.binOp BinOp.lss _ _ _ _) _ _ _ _) _ _; exact xo_lss rfl rfl) | (show OpV _ _ _ _ (Oper.mk _ (Op.binOp BinOp.leq _ _ _ _) _ _ _ _) _ _; exact xo_leq rfl rfl) | (show OpV _ _ _ _ (Oper.mk _ (Op.binOp BinOp.gtr _ _ _ _) _ _ _ _) _ _; exact xo_gtr rfl rfl) | (show OpV _ _ _ _ (Oper.mk _ (Op.binOp BinOp.add _ _ _ _) _ _ _ _) _ _; first | exact xo_add rfl rfl | exact ov_sadd rfl rfl (by first | with_reducible exact fun _ => rfl | with_reducible exact fun h => h | exact fun _ => rfl | exact fun h => h | (intro himp; simp_all; done)) (by first | with_reducible exact fun _ => rfl | with_reducible exact fun h => h | exact fun _ => rfl | exact fun h => h | (intro himp; simp_all; done)) (by intro hcg; first | omega | (simp only [List.length_append, List.length_take, List.length_drop, List.length_cons, List.length_nil, List.length_nil]; omega))) | (show OpV _ _ _ _ (Oper.mk _ (Op.fieldAddr _ _ _) _ _ _ _) _ _; exact xo_fieldAddr rfl) | (show OpV _ _ _ _ (Oper.mk _ (Op.load _ _) _ _ _ _) _ _; first | exact xo_load1 rfl | exact xo_loadS rfl)) ?_ | refine wl_v rfl rfl rfl (by first | ((show OpV _ _ _ _ (Oper.mk _ (Op.call ⟨.value (.func 39), _, _⟩) _ _ _ _) _ _; exact ov_call Tryd.call39 rfl (by intro himp; first | rfl | (simp_all; done)) (by rfl) (fun _ _ h k => h.ext k) (fun hcg w hw => hle hw.laid))) | fail) ?_ | refine xl_alloc (fun _ => ?_) | refine xl_box rfl (fun _ => ?_) | refine xl_store rfl rfl ?_) | refine wc_ret rfl ?_))
  repeat' (first | (first | refine wc_seq ?_ | refine wc_region ?_ | refine wl_nil ?_ | refine wn_seq ?_ | refine wn_blk ?_ | refine wc_skip ?_ | refine wc_block ?_ | refine wc_exit rfl ?_ | (show WL _ _ (_ :: _) _ _ _ _; first | refine wl_v rfl rfl rfl (by first | (show OpV _ _ _ _ (Oper.mk _ (Op.move _) _ _ _ _) _ _; exact xo_move rfl) | (show OpV _ _ _ _ (Oper.mk _ (Op.assign _) _ _ _ _) _ _; exact xo_assign rfl) | (show OpV _ _ _ _ (Oper.mk _ (Op.pick _ _ _) _ _ _ _) _ _; first | exact xo_and rfl rfl | exact xo_or rfl rfl) | (show OpV _ _ _ _ (Oper.mk _ (Op.extract _ _) _ _ _ _) _ _; exact xo_extract rfl) | (show OpV _ _ _ _ (Oper.mk _ (Op.call ⟨.builtin .len, _, _⟩) _ _ _ _) _ _; first | exact xo_slen rfl | exact xo_len rfl) | (show OpV _ _ _ _ (Oper.mk _ (Op.unOp _ _ _) _ _ _ _) _ _; exact xo_not rfl) | (show OpV _ _ _ _ (Oper.mk _ (Op.binOp BinOp.neq _ _ _ _) _ _ _ _) _ _; first | exact xo_neq rfl rfl | exact xo_sneq rfl rfl | exact xo_bneq rfl rfl | exact xo_aneq rfl rfl) | (show OpV _ _ _ _ (Oper.mk _ (Op.binOp BinOp.lss _ _ _ _) _ _ _ _) _ _; exact xo_lss rfl rfl) | (show OpV _ _ _ _ (Oper.mk _ (Op.binOp BinOp.leq _ _ _ _) _ _ _ _) _ _; exact xo_leq rfl rfl) | (show OpV _ _ _ _ (Oper.mk _ (Op.binOp BinOp.gtr _ _ _ _) _ _ _ _) _ _; exact xo_gtr rfl rfl) | (show OpV _ _ _ _ (Oper.mk _ (Op.binOp BinOp.add _ _ _ _) _ _ _ _) _ _; first | exact xo_add rfl rfl | exact ov_sadd rfl rfl (by first | with_reducible exact fun _ => rfl | with_reducible exact fun h => h | exact fun _ => rfl | exact fun h => h | (intro himp; simp_all; done)) (by first | with_reducible exact fun _ => rfl | with_reducible exact fun h => h | exact fun _ => rfl | exact fun h => h | (intro himp; simp_all; done)) (by intro hcg; first | omega | (simp only [List.length_append, List.length_take, List.length_drop, List.length_cons, List.length_nil, List.length_nil]; omega))) | (show OpV _ _ _ _ (Oper.mk _ (Op.fieldAddr _ _ _) _ _ _ _) _ _; exact xo_fieldAddr rfl) | (show OpV _ _ _ _ (Oper.mk _ (Op.load _ _) _ _ _ _) _ _; first | exact xo_load1 rfl | exact xo_loadS rfl)) ?_ | refine wl_v rfl rfl rfl (by first  | fail) ?_ | refine xl_alloc (fun _ => ?_) | refine xl_box rfl (fun _ => ?_) | refine xl_store rfl rfl ?_) | refine wc_ret rfl ?_) | (show WC _ (Code.cond _ _ _) _ _ _ _; (refine wc_cond rfl (fun hc => ?_) (fun hc => ?_) <;> (try (simp only [decide_eq_true_eq, decide_eq_false_iff_not, Bool.and_eq_true, Bool.or_eq_true, Bool.and_eq_false_iff, Bool.or_eq_false_iff, Bool.not_eq_true', Bool.not_eq_false', Int.not_lt, Int.not_le] at hc)) <;> (try (exfalso; first | omega | contradiction)))))
  · refine wr_tmp rfl rfl (congrArg Value.bool ?_)
    symm
    apply right_no
    rw [hwf]
    rintro ⟨⟨k1, k2, k3⟩, k4, k5, k6⟩
    rcases hc with (((h | h) | h) | h) | h
    · exact h k3
    · exact h k1
    · exact h k2
    · omega
    · exact h k5
  have hpart : (m' = m ∧ t' = t ∧ e = 0) ∧ l.length ≤ 32 ∧ wz = (b.length : Int) := by
    obtain ⟨⟨⟨⟨k1, k2⟩, k3⟩, k4⟩, k5⟩ := hc
    exact ⟨⟨k2, k3, k1⟩, by omega, k5⟩
  clear hc
  refine wc_loop (α := { i : Nat // i ≤ l.length ∧ ∀ j, j < i → goodH (l.getD j default) = true }) (fun x => [(1, true, .pointer (some ⟨b1, 0, none⟩)), (5, true, i64 (x.1 : Int))]) (fun _ => St w [] [(b3, .cells [str m', str t', .slice none 0 0, str []].toArray 25 (0, 0)), (b1, .cells [str m, str t, .slice a l.length cap, str b].toArray 25 (0, 0))] M) (fun x => l.length - x.1) ⟨0, by omega, by intro j hj; omega⟩ (by first | exact Sub.nil _ | (repeat (first | exact Sub.nil _ | refine Sub.cons (by first | rfl | (simp [look]; done)) ?_))) (fun _ h => h) ?_
  rintro ⟨i, hi, hall⟩
  dsimp only
  rcases Nat.lt_or_ge i l.length with hlt | hge
  · have hbi := hsm _ (hgood i hlt)
    repeat' (first | (first | refine wc_seq ?_ | refine wc_region ?_ | refine wl_nil ?_ | refine wn_seq ?_ | refine wn_blk ?_ | refine wc_skip ?_ | refine wc_block ?_ | refine wc_exit rfl ?_ | (show WL _ _ (_ :: _) _ _ _ _; first | refine wl_v rfl rfl rfl (by first | (show OpV _ _ _ _ (Oper.mk _ (Op.move _) _ _ _ _) _ _; exact xo_move rfl) | (show OpV _ _ _ _ (Oper.mk _ (Op.assign _) _ _ _ _) _ _; exact xo_assign rfl) | (show OpV _ _ _ _ (Oper.mk _ (Op.pick _ _ _) _ _ _ _) _ _; first | exact xo_and rfl rfl | exact xo_or rfl rfl) | (show OpV _ _ _ _ (Oper.mk _ (Op.extract _ _) _ _ _ _) _ _; exact xo_extract rfl) | (show OpV _ _ _ _ (Oper.mk _ (Op.call ⟨.builtin .len, _, _⟩) _ _ _ _) _ _; first | exact xo_slen rfl | exact xo_len rfl) | (show OpV _ _ _ _ (Oper.mk _ (Op.unOp _ _ _) _ _ _ _) _ _; exact xo_not rfl) | (show OpV _ _ _ _ (Oper.mk _ (Op.binOp BinOp.neq _ _ _ _) _ _ _ _) _ _; first | exact xo_neq rfl rfl | exact xo_sneq rfl rfl | exact xo_bneq rfl rfl | exact xo_aneq rfl rfl) | (show OpV _ _ _ _ (Oper.mk _ (Op.binOp BinOp.lss _ _ _ _) _ _ _ _) _ _; exact xo_lss rfl rfl) | (show OpV _ _ _ _ (Oper.mk _ (Op.binOp BinOp.leq _ _ _ _) _ _ _ _) _ _; exact xo_leq rfl rfl) | (show OpV _ _ _ _ (Oper.mk _ (Op.binOp BinOp.gtr _ _ _ _) _ _ _ _) _ _; exact xo_gtr rfl rfl) | (show OpV _ _ _ _ (Oper.mk _ (Op.binOp BinOp.add _ _ _ _) _ _ _ _) _ _; first | exact xo_add rfl rfl | exact ov_sadd rfl rfl (by first | with_reducible exact fun _ => rfl | with_reducible exact fun h => h | exact fun _ => rfl | exact fun h => h | (intro himp; simp_all; done)) (by first | with_reducible exact fun _ => rfl | with_reducible exact fun h => h | exact fun _ => rfl | exact fun h => h | (intro himp; simp_all; done)) (by intro hcg; first | omega | (simp only [List.length_append, List.length_take, List.length_drop, List.length_cons, List.length_nil, List.length_nil]; omega))) | (show OpV _ _ _ _ (Oper.mk _ (Op.fieldAddr _ _ _) _ _ _ _) _ _; exact xo_fieldAddr rfl) | (show OpV _ _ _ _ (Oper.mk _ (Op.load _ _) _ _ _ _) _ _; first | exact xo_load1 rfl | exact xo_loadS rfl)) ?_ | refine wl_v rfl rfl rfl (by first | (show OpV _ _ _ _ (Oper.mk _ (Op.indexAddr _ _ _) _ _ _ _) _ _; exact ov_indexAddr rfl rfl (by (fail_if_success (with_reducible show (987654321 : Int) = _)); repeat' (first | with_reducible exact nc_cast | with_reducible exact nc_lit | apply nc_add | apply nc_div | apply nc_mod | apply nc_mul | refine nc_sub (m := _) (n := _) nc_cast nc_lit (by omega) | refine nc_sub (m := _) (n := _) nc_cast nc_cast (by omega))) (by first | with_reducible exact fun _ => rfl | with_reducible exact fun h => h | exact fun _ => rfl | exact fun h => h | (intro himp; simp_all; done)) (by first | with_reducible exact fun _ => rfl | with_reducible exact fun h => h | exact fun _ => rfl | exact fun h => h | (intro himp; simp_all; done)) rfl (by first | exact (rfl : _ = some 1) | exact (rfl : _ = some 2) | exact (rfl : _ = some 3) | exact (rfl : _ = some 4) | exact (rfl : _ = some 6) | exact rfl) (fun hcg => (h3 (by intro h; subst h; simp only [List.length_nil] at *; omega)).1) (by intro hcg; first | omega | (simp at hcg; omega))) | (show OpV _ _ _ _ (Oper.mk _ (Op.load _ _) _ _ _ _) _ _; exact ov_loadSM rfl (by first | with_reducible exact fun _ => rfl | with_reducible exact fun h => h | exact fun _ => rfl | exact fun h => h | (intro himp; simp_all; done)) rfl (by first | exact (rfl : _ = some 1) | exact (rfl : _ = some 2) | exact (rfl : _ = some 3) | exact (rfl : _ = some 4) | exact (rfl : _ = some 6) | exact rfl) (fun hcg => (h3 (by intro h; subst h; simp only [List.length_nil] at *; omega)).2) (fun hcg => pcell (h4 i (by omega)))) | fail) ?_ | refine xl_alloc (fun _ => ?_) | refine xl_box rfl (fun _ => ?_) | refine xl_store rfl rfl ?_) | refine wc_ret rfl ?_) | (show WC _ (Code.cond _ _ _) _ _ _ _; (refine wc_cond rfl (fun hc => ?_) (fun hc => ?_) <;> (try (simp only [decide_eq_true_eq, decide_eq_false_iff_not, Bool.and_eq_true, Bool.or_eq_true, Bool.and_eq_false_iff, Bool.or_eq_false_iff, Bool.not_eq_true', Bool.not_eq_false', Int.not_lt, Int.not_le] at hc)) <;> (try (exfalso; first | omega | contradiction)))))
    rename_i b6
    refine wc_weak (E' := [(1, true, .pointer (some ⟨b1, 0, none⟩)), (5, true, i64 (i : Int)), (6, true, .pointer (some ⟨b6, 0, none⟩))]) (by first | exact Sub.nil _ | (repeat (first | exact Sub.nil _ | refine Sub.cons (by first | rfl | (simp [look]; done)) ?_))) (fun _ h => h) ?_
    refine wc_draw 18 (by kernel_rfl) rfl (by kernel_rfl) (fun _ _ h k => h.ext k) ?_
    repeat' (first | (show WD _ _ (_ :: _) _ _ _ _ _ _; first | refine wd_v rfl rfl rfl rfl rfl rfl (by first | (show OpV _ _ _ _ (Oper.mk _ (Op.move _) _ _ _ _) _ _; exact xo_move rfl) | (show OpV _ _ _ _ (Oper.mk _ (Op.assign _) _ _ _ _) _ _; exact xo_assign rfl) | (show OpV _ _ _ _ (Oper.mk _ (Op.pick _ _ _) _ _ _ _) _ _; first | exact xo_and rfl rfl | exact xo_or rfl rfl) | (show OpV _ _ _ _ (Oper.mk _ (Op.extract _ _) _ _ _ _) _ _; exact xo_extract rfl) | (show OpV _ _ _ _ (Oper.mk _ (Op.call ⟨.builtin .len, _, _⟩) _ _ _ _) _ _; first | exact xo_slen rfl | exact xo_len rfl) | (show OpV _ _ _ _ (Oper.mk _ (Op.unOp _ _ _) _ _ _ _) _ _; exact xo_not rfl) | (show OpV _ _ _ _ (Oper.mk _ (Op.binOp BinOp.neq _ _ _ _) _ _ _ _) _ _; first | exact xo_neq rfl rfl | exact xo_sneq rfl rfl | exact xo_bneq rfl rfl | exact xo_aneq rfl rfl) | (show OpV _ _ _ _ (Oper.mk _ (Op.binOp BinOp.lss _ _ _ _) _ _ _ _) _ _; exact xo_lss rfl rfl) | (show OpV _ _ _ _ (Oper.mk _ (Op.binOp BinOp.leq _ _ _ _) _ _ _ _) _ _; exact xo_leq rfl rfl) | (show OpV _ _ _ _ (Oper.mk _ (Op.binOp BinOp.gtr _ _ _ _) _ _ _ _) _ _; exact xo_gtr rfl rfl) | (show OpV _ _ _ _ (Oper.mk _ (Op.binOp BinOp.add _ _ _ _) _ _ _ _) _ _; first | exact xo_add rfl rfl | exact ov_sadd rfl rfl (by first | with_reducible exact fun _ => rfl | with_reducible exact fun h => h | exact fun _ => rfl | exact fun h => h | (intro himp; simp_all; done)) (by first | with_reducible exact fun _ => rfl | with_reducible exact fun h => h | exact fun _ => rfl | exact fun h => h | (intro himp; simp_all; done)) (by intro hcg; first | omega | (simp only [List.length_append, List.length_take, List.length_drop, List.length_cons, List.length_nil, List.length_nil]; omega))) | (show OpV _ _ _ _ (Oper.mk _ (Op.fieldAddr _ _ _) _ _ _ _) _ _; exact xo_fieldAddr rfl) | (show OpV _ _ _ _ (Oper.mk _ (Op.load _ _) _ _ _ _) _ _; first | exact xo_load1 rfl | exact xo_loadS rfl)) ?_ | refine wd_v rfl rfl rfl rfl rfl rfl (by first | ((show OpV _ _ _ _ (Oper.mk _ (Op.call ⟨.value (.func 30), _, _⟩) _ _ _ _) _ _; exact ov_call Tryd.call30 rfl (by intro himp; first | rfl | (simp_all; done)) (by rfl) (fun _ _ h k => h.ext k) (fun hcg w hw => rtoken_ok hw.laid _ (by omega)))) | ((show OpV _ _ _ _ (Oper.mk _ (Op.call ⟨.value (.func 29), _, _⟩) _ _ _ _) _ _; exact ov_call Tryd.call29 rfl (by intro himp; first | rfl | (simp_all; done)) (by rfl) (fun _ _ h k => h.ext k) (fun hcg w hw => rshown32_ok hw.laid _ (by omega)))) | ((show OpV _ _ _ _ (Oper.mk _ (Op.call ⟨.value (.func 38), _, _⟩) _ _ _ _) _ _; exact ov_call Tryd.call38 rfl (by intro himp; first | rfl | (simp_all; done)) (by rfl) (fun _ _ h k => h.ext k) (fun hcg w hw => rtrim_ok hw.laid _ (by omega)))) | fail) ?_ | refine wd_new rfl rfl rfl rfl rfl rfl steady_fresh (or_buildSlice rfl rfl (by first | exact (rfl : _ = some 1) | exact (rfl : _ = some 2) | exact (rfl : _ = some 3) | exact (rfl : _ = some 4) | exact (rfl : _ = some 6) | exact rfl) (fun _ => rfl) rfl rfl rfl (by simp only [cellsAll, Value.cells, List.size_toArray, List.length_cons, List.length_nil, Nat.zero_add, Nat.reduceAdd, and_self, if_true, true_and, Option.map_some, List.cons_append, List.nil_append]; first | done | rfl)) ?_ | refine wd_conv rfl rfl rfl rfl rfl rfl rfl rfl rfl rfl ?_) | (show WD _ _ _ _ _ _ _ _ _; first | refine wd_nil ?_ | refine wd_nilF ?_) | (first | refine wc_seq ?_ | refine wc_region ?_ | refine wl_nil ?_ | refine wn_seq ?_ | refine wn_blk ?_ | refine wc_skip ?_ | refine wc_block ?_ | refine wc_exit rfl ?_ | (show WL _ _ (_ :: _) _ _ _ _; first | refine wl_v rfl rfl rfl (by first | (show OpV _ _ _ _ (Oper.mk _ (Op.move _) _ _ _ _) _ _; exact xo_move rfl) | (show OpV _ _ _ _ (Oper.mk _ (Op.assign _) _ _ _ _) _ _; exact xo_assign rfl) | (show OpV _ _ _ _ (Oper.mk _ (Op.pick _ _ _) _ _ _ _) _ _; first | exact xo_and rfl rfl | exact xo_or rfl rfl) | (show OpV _ _ _ _ (Oper.mk _ (Op.extract _ _) _ _ _ _) _ _; exact xo_extract rfl) | (show OpV _ _ _ _ (Oper.mk _ (Op.call ⟨.builtin .len, _, _⟩) _ _ _ _) _ _; first | exact xo_slen rfl | exact xo_len rfl) | (show OpV _ _ _ _ (Oper.mk _ (Op.unOp _ _ _) _ _ _ _) _ _; exact xo_not rfl) | (show OpV _ _ _ _ (Oper.mk _ (Op.binOp BinOp.neq _ _ _ _) _ _ _ _) _ _; first | exact xo_neq rfl rfl | exact xo_sneq rfl rfl | exact xo_bneq rfl rfl | exact xo_aneq rfl rfl) | (show OpV _ _ _ _ (Oper.mk _ (Op.binOp BinOp.lss _ _ _ _) _ _ _ _) _ _; exact xo_lss rfl rfl) | (show OpV _ _ _ _ (Oper.mk _ (Op.binOp BinOp.leq _ _ _ _) _ _ _ _) _ _; exact xo_leq rfl rfl) | (show OpV _ _ _ _ (Oper.mk _ (Op.binOp BinOp.gtr _ _ _ _) _ _ _ _) _ _; exact xo_gtr rfl rfl) | (show OpV _ _ _ _ (Oper.mk _ (Op.binOp BinOp.add _ _ _ _) _ _ _ _) _ _; first | exact xo_add rfl rfl | exact ov_sadd rfl rfl (by first | with_reducible exact fun _ => rfl | with_reducible exact fun h => h | exact fun _ => rfl | exact fun h => h | (intro himp; simp_all; done)) (by first | with_reducible exact fun _ => rfl | with_reducible exact fun h => h | exact fun _ => rfl | exact fun h => h | (intro himp; simp_all; done)) (by intro hcg; first | omega | (simp only [List.length_append, List.length_take, List.length_drop, List.length_cons, List.length_nil, List.length_nil]; omega))) | (show OpV _ _ _ _ (Oper.mk _ (Op.fieldAddr _ _ _) _ _ _ _) _ _; exact xo_fieldAddr rfl) | (show OpV _ _ _ _ (Oper.mk _ (Op.load _ _) _ _ _ _) _ _; first | exact xo_load1 rfl | exact xo_loadS rfl)) ?_ | refine wl_v rfl rfl rfl (by first | ((show OpV _ _ _ _ (Oper.mk _ (Op.call ⟨.value (.func 30), _, _⟩) _ _ _ _) _ _; exact ov_call Tryd.call30 rfl (by intro himp; first | rfl | (simp_all; done)) (by rfl) (fun _ _ h k => h.ext k) (fun hcg w hw => rtoken_ok hw.laid _ (by omega)))) | ((show OpV _ _ _ _ (Oper.mk _ (Op.call ⟨.value (.func 29), _, _⟩) _ _ _ _) _ _; exact ov_call Tryd.call29 rfl (by intro himp; first | rfl | (simp_all; done)) (by rfl) (fun _ _ h k => h.ext k) (fun hcg w hw => rshown32_ok hw.laid _ (by omega)))) | ((show OpV _ _ _ _ (Oper.mk _ (Op.call ⟨.value (.func 38), _, _⟩) _ _ _ _) _ _; exact ov_call Tryd.call38 rfl (by intro himp; first | rfl | (simp_all; done)) (by rfl) (fun _ _ h k => h.ext k) (fun hcg w hw => rtrim_ok hw.laid _ (by omega)))) | fail) ?_ | refine xl_alloc (fun _ => ?_) | refine xl_box rfl (fun _ => ?_) | refine xl_store rfl rfl ?_) | refine wc_ret rfl ?_))
    repeat' (first | (first | refine wc_seq ?_ | refine wc_region ?_ | refine wl_nil ?_ | refine wn_seq ?_ | refine wn_blk ?_ | refine wc_skip ?_ | refine wc_block ?_ | refine wc_exit rfl ?_ | (show WL _ _ (_ :: _) _ _ _ _; first | refine wl_v rfl rfl rfl (by first | (show OpV _ _ _ _ (Oper.mk _ (Op.move _) _ _ _ _) _ _; exact xo_move rfl) | (show OpV _ _ _ _ (Oper.mk _ (Op.assign _) _ _ _ _) _ _; exact xo_assign rfl) | (show OpV _ _ _ _ (Oper.mk _ (Op.pick _ _ _) _ _ _ _) _ _; first | exact xo_and rfl rfl | exact xo_or rfl rfl) | (show OpV _ _ _ _ (Oper.mk _ (Op.extract _ _) _ _ _ _) _ _; exact xo_extract rfl) | (show OpV _ _ _ _ (Oper.mk _ (Op.call ⟨.builtin .len, _, _⟩) _ _ _ _) _ _; first | exact xo_slen rfl | exact xo_len rfl) | (show OpV _ _ _ _ (Oper.mk _ (Op.unOp _ _ _) _ _ _ _) _ _; exact xo_not rfl) | (show OpV _ _ _ _ (Oper.mk _ (Op.binOp BinOp.neq _ _ _ _) _ _ _ _) _ _; first | exact xo_neq rfl rfl | exact xo_sneq rfl rfl | exact xo_bneq rfl rfl | exact xo_aneq rfl rfl) | (show OpV _ _ _ _ (Oper.mk _ (Op.binOp BinOp.lss _ _ _ _) _ _ _ _) _ _; exact xo_lss rfl rfl) | (show OpV _ _ _ _ (Oper.mk _ (Op.binOp BinOp.leq _ _ _ _) _ _ _ _) _ _; exact xo_leq rfl rfl) | (show OpV _ _ _ _ (Oper.mk _ (Op.binOp BinOp.gtr _ _ _ _) _ _ _ _) _ _; exact xo_gtr rfl rfl) | (show OpV _ _ _ _ (Oper.mk _ (Op.binOp BinOp.add _ _ _ _) _ _ _ _) _ _; first | exact xo_add rfl rfl | exact ov_sadd rfl rfl (by first | with_reducible exact fun _ => rfl | with_reducible exact fun h => h | exact fun _ => rfl | exact fun h => h | (intro himp; simp_all; done)) (by first | with_reducible exact fun _ => rfl | with_reducible exact fun h => h | exact fun _ => rfl | exact fun h => h | (intro himp; simp_all; done)) (by intro hcg; first | omega | (simp only [List.length_append, List.length_take, List.length_drop, List.length_cons, List.length_nil, List.length_nil]; omega))) | (show OpV _ _ _ _ (Oper.mk _ (Op.fieldAddr _ _ _) _ _ _ _) _ _; exact xo_fieldAddr rfl) | (show OpV _ _ _ _ (Oper.mk _ (Op.load _ _) _ _ _ _) _ _; first | exact xo_load1 rfl | exact xo_loadS rfl)) ?_ | refine wl_v rfl rfl rfl (by first  | fail) ?_ | refine xl_alloc (fun _ => ?_) | refine xl_box rfl (fun _ => ?_) | refine xl_store rfl rfl ?_) | refine wc_ret rfl ?_) | (show WC _ (Code.cond _ _ _) _ _ _ _; (refine wc_cond rfl (fun hc => ?_) (fun hc => ?_) <;> (try (simp only [decide_eq_true_eq, decide_eq_false_iff_not, Bool.and_eq_true, Bool.or_eq_true, Bool.and_eq_false_iff, Bool.or_eq_false_iff, Bool.not_eq_true', Bool.not_eq_false', Int.not_lt, Int.not_le] at hc)) <;> (try (exfalso; first | omega | contradiction)))))
    · refine wr_tmp rfl rfl (congrArg Value.bool ?_)
      symm
      apply right_no
      rw [hwf]
      rintro ⟨_, _, _, k6⟩
      obtain ⟨g1, g2, g3⟩ := good_parts (k6 _ (hgood i hlt))
      rcases hc with (h | h) | h
      · rw [g1] at h; cases h
      · rw [g2] at h; cases h
      · exact h g3
    · refine wn_cut ⟨i + 1, by omega, ?_⟩ (by show l.length - (i + 1) < l.length - i; omega) (by first | exact Sub.nil _ | (repeat (first | exact Sub.nil _ | refine Sub.cons (by first | rfl | (simp [look]; done)) ?_))) (fun _ h => h.drop (by repeat (first | exact List.Sublist.refl _ | apply List.Sublist.cons)))
      intro j hj
      by_cases h : j = i
      · subst h
        unfold goodH
        simp only [Bool.and_eq_true, decide_eq_true_eq]
        exact hc
      · exact hall j (by omega)
  · repeat' (first | (first | refine wc_seq ?_ | refine wc_region ?_ | refine wl_nil ?_ | refine wn_seq ?_ | refine wn_blk ?_ | refine wc_skip ?_ | refine wc_block ?_ | refine wc_exit rfl ?_ | (show WL _ _ (_ :: _) _ _ _ _; first | refine wl_v rfl rfl rfl (by first | (show OpV _ _ _ _ (Oper.mk _ (Op.move _) _ _ _ _) _ _; exact xo_move rfl) | (show OpV _ _ _ _ (Oper.mk _ (Op.assign _) _ _ _ _) _ _; exact xo_assign rfl) | (show OpV _ _ _ _ (Oper.mk _ (Op.pick _ _ _) _ _ _ _) _ _; first | exact xo_and rfl rfl | exact xo_or rfl rfl) | (show OpV _ _ _ _ (Oper.mk _ (Op.extract _ _) _ _ _ _) _ _; exact xo_extract rfl) | (show OpV _ _ _ _ (Oper.mk _ (Op.call ⟨.builtin .len, _, _⟩) _ _ _ _) _ _; first | exact xo_slen rfl | exact xo_len rfl) | (show OpV _ _ _ _ (Oper.mk _ (Op.unOp _ _ _) _ _ _ _) _ _; exact xo_not rfl) | (show OpV _ _ _ _ (Oper.mk _ (Op.binOp BinOp.neq _ _ _ _) _ _ _ _) _ _; first | exact xo_neq rfl rfl | exact xo_sneq rfl rfl | exact xo_bneq rfl rfl | exact xo_aneq rfl rfl) | (show OpV _ _ _ _ (Oper.mk _ (Op.binOp BinOp.lss _ _ _ _) _ _ _ _) _ _; exact xo_lss rfl rfl) | (show OpV _ _ _ _ (Oper.mk _ (Op.binOp BinOp.leq _ _ _ _) _ _ _ _) _ _; exact xo_leq rfl rfl) | (show OpV _ _ _ _ (Oper.mk _ (Op.binOp BinOp.gtr _ _ _ _) _ _ _ _) _ _; exact xo_gtr rfl rfl) | (show OpV _ _ _ _ (Oper.mk _ (Op.binOp BinOp.add _ _ _ _) _ _ _ _) _ _; first | exact xo_add rfl rfl | exact ov_sadd rfl rfl (by first | with_reducible exact fun _ => rfl | with_reducible exact fun h => h | exact fun _ => rfl | exact fun h => h | (intro himp; simp_all; done)) (by first | with_reducible exact fun _ => rfl | with_reducible exact fun h => h | exact fun _ => rfl | exact fun h => h | (intro himp; simp_all; done)) (by intro hcg; first | omega | (simp only [List.length_append, List.length_take, List.length_drop, List.length_cons, List.length_nil, List.length_nil]; omega))) | (show OpV _ _ _ _ (Oper.mk _ (Op.fieldAddr _ _ _) _ _ _ _) _ _; exact xo_fieldAddr rfl) | (show OpV _ _ _ _ (Oper.mk _ (Op.load _ _) _ _ _ _) _ _; first | exact xo_load1 rfl | exact xo_loadS rfl)) ?_ | refine wl_v rfl rfl rfl (by first | ((show OpV _ _ _ _ (Oper.mk _ (Op.call ⟨.value (.func 44), _, _⟩) _ _ _ _) _ _; exact ov_call Tryd.call44 rfl (by intro himp; first | rfl | (simp_all; done)) (by rfl) (fun _ _ h k => h.ext k) (fun hcg w hw => htx hw.laid))) | fail) ?_ | refine xl_alloc (fun _ => ?_) | refine xl_box rfl (fun _ => ?_) | refine xl_store rfl rfl ?_) | refine wc_ret rfl ?_) | (show WC _ (Code.cond _ _ _) _ _ _ _; (refine wc_cond rfl (fun hc => ?_) (fun hc => ?_) <;> (try (simp only [decide_eq_true_eq, decide_eq_false_iff_not, Bool.and_eq_true, Bool.or_eq_true, Bool.and_eq_false_iff, Bool.or_eq_false_iff, Bool.not_eq_true', Bool.not_eq_false', Int.not_lt, Int.not_le] at hc)) <;> (try (exfalso; first | omega | contradiction)))))
    refine wr_tmp rfl rfl (congrArg Value.bool ?_)
    unfold rightQ
    have hw' : wfQ ⟨m, t, l, b⟩ = true := by
      rw [hwf]
      refine ⟨hpart.1, hpart.2.1, hpart.2.2, fun p hp => ?_⟩
      obtain ⟨j, hj, rfl⟩ := List.mem_iff_getElem.1 hp
      have := hall j (by omega)
      simpa [hj] using this
    rw [hw', Bool.true_and]
    apply decide_eq_decide.2
    omega
theorem rwriteQ_ok (hM : Laid M w) {hv : Value} {l : List Pr} (hh : SlP M hv l) (m t b : List UInt8) (hsm : Small 140737488355328 l) (hb : (linesQ [32] ⟨m, t, l, b⟩).length ≤ 900000) : Calls Tryd.prog 20 #[.agg #[str m, str t, hv, str b]] w (RetE w (.tuple #[str (writeQ ⟨m, t, l, b⟩).1, i64 (writeQ ⟨m, t, l, b⟩).2])) := by
  have hgap := lines_gap ⟨m, t, l, b⟩
  have hln := fun {w : World} (h : Laid M w) => rtext_ok h hh m t b [32] (by omega)
  have hri := fun {w : World} (h : Laid M w) => rright_ok h hh m t b hsm (by omega)
  obtain ⟨a, cap, bb, o, cs, T, fz, rfl, _⟩ := hh.open
  unfold writeQ
  generalize linesQ [32] ⟨m, t, l, b⟩ = ls at *
  generalize rightQ ⟨m, t, l, b⟩ = ri at *
  refine calls_st (l := [.agg #[str m, str t, .slice a l.length cap, str b]]) hM Tryd.func20 rfl rfl rfl (E0 := [(0, true, .agg #[str m, str t, .slice a l.length cap, str b])]) (params_cons rfl (params_nil _)) ?_
  repeat' (first | (first | refine wc_seq ?_ | refine wc_region ?_ | refine wl_nil ?_ | refine wn_seq ?_ | refine wn_blk ?_ | refine wc_skip ?_ | refine wc_block ?_ | refine wc_exit rfl ?_ | (show WL _ _ (_ :: _) _ _ _ _; first | refine wl_v rfl rfl rfl (by first | (show OpV _ _ _ _ (Oper.mk _ (Op.move _) _ _ _ _) _ _; exact xo_move rfl) | (show OpV _ _ _ _ (Oper.mk _ (Op.assign _) _ _ _ _) _ _; exact xo_assign rfl) | (show OpV _ _ _ _ (Oper.mk _ (Op.call ⟨.builtin .len, _, _⟩) _ _ _ _) _ _; first | exact xo_slen rfl | exact xo_len rfl) | (show OpV _ _ _ _ (Oper.mk _ (Op.unOp _ _ _) _ _ _ _) _ _; exact xo_not rfl) | (show OpV _ _ _ _ (Oper.mk _ (Op.binOp BinOp.gtr _ _ _ _) _ _ _ _) _ _; exact xo_gtr rfl rfl) | (show OpV _ _ _ _ (Oper.mk _ (Op.load _ _) _ _ _ _) _ _; first | exact xo_load1 rfl | exact xo_loadS rfl)) ?_ | refine wl_v rfl rfl rfl (by first | ((show OpV _ _ _ _ (Oper.mk _ (Op.call ⟨.value (.func 44), _, _⟩) _ _ _ _) _ _; exact ov_call Tryd.call44 rfl (by intro himp; first | rfl | (simp_all; done)) (by rfl) (fun _ _ h k => h.ext k) (fun hcg w hw => hln hw.laid))) | ((show OpV _ _ _ _ (Oper.mk _ (Op.call ⟨.value (.func 26), _, _⟩) _ _ _ _) _ _; exact ov_call Tryd.call26 rfl (by intro himp; first | rfl | (simp_all; done)) (by rfl) (fun _ _ h k => h.ext k) (fun hcg w hw => hri hw.laid))) | fail) ?_ | refine xl_box rfl (fun _ => ?_)) | refine wc_ret rfl ?_) | (show WC _ (Code.cond _ _ _) _ _ _ _; (refine wc_cond rfl (fun hc => ?_) (fun hc => ?_) <;> (try (simp only [decide_eq_true_eq, decide_eq_false_iff_not, Bool.and_eq_true, Bool.or_eq_true, Bool.and_eq_false_iff, Bool.or_eq_false_iff, Bool.not_eq_true', Bool.not_eq_false', Int.not_lt, Int.not_le] at hc)) <;> (try (exfalso; first | omega | contradiction)))))
  · rw [if_neg (by rw [hc]; decide)]
    exact wr_tmp2 rfl rfl rfl rfl rfl
  · rw [if_pos (by assumption), if_pos (by omega)]
    exact wr_tmp2 rfl rfl rfl rfl rfl
  · rw [if_pos (by assumption), if_neg (by omega)]
    exact wr_tmp2 rfl rfl rfl rfl rfl
/-- of a size that is looked at -/
def fewQ (r : Req) : Bool := fewB r.headers && decide ((r.meth.length : Int) ≤ 20) && decide ((r.targ.length : Int) ≤ 300) && decide ((r.body.length : Int) ≤ 300)
theorem rfewQ_ok (hM : Laid M w) {hv : Value} {l : List Pr} (hh : SlP M hv l) (m t b : List UInt8) : Calls Tryd.prog 18 #[.agg #[str m, str t, hv, str b]] w (RetE w (.bool (fewQ ⟨m, t, l, b⟩))) := by
  have hf := fun {w : World} (h : Laid M w) => few_ok h hh
  obtain ⟨a, cap, bb, o, cs, T, fz, rfl, _⟩ := hh.open
  refine calls_st (l := [.agg #[str m, str t, .slice a l.length cap, str b]]) hM Tryd.func18 rfl rfl rfl (E0 := [(0, true, .agg #[str m, str t, .slice a l.length cap, str b])]) (params_cons rfl (params_nil _)) ?_
  repeat' (first | (first | refine wc_seq ?_ | refine wc_region ?_ | refine wl_nil ?_ | refine wn_seq ?_ | refine wn_blk ?_ | refine wc_skip ?_ | refine wc_block ?_ | refine wc_exit rfl ?_ | (show WL _ _ (_ :: _) _ _ _ _; first | refine wl_v rfl rfl rfl (by first | (show OpV _ _ _ _ (Oper.mk _ (Op.move _) _ _ _ _) _ _; exact xo_move rfl) | (show OpV _ _ _ _ (Oper.mk _ (Op.assign _) _ _ _ _) _ _; exact xo_assign rfl) | (show OpV _ _ _ _ (Oper.mk _ (Op.pick _ _ _) _ _ _ _) _ _; first | exact xo_and rfl rfl | exact xo_or rfl rfl) | (show OpV _ _ _ _ (Oper.mk _ (Op.call ⟨.builtin .len, _, _⟩) _ _ _ _) _ _; first | exact xo_slen rfl | exact xo_len rfl) | (show OpV _ _ _ _ (Oper.mk _ (Op.binOp BinOp.leq _ _ _ _) _ _ _ _) _ _; exact xo_leq rfl rfl) | (show OpV _ _ _ _ (Oper.mk _ (Op.fieldAddr _ _ _) _ _ _ _) _ _; exact xo_fieldAddr rfl) | (show OpV _ _ _ _ (Oper.mk _ (Op.load _ _) _ _ _ _) _ _; first | exact xo_load1 rfl | exact xo_loadS rfl)) ?_ | refine wl_v rfl rfl rfl (by first | ((show OpV _ _ _ _ (Oper.mk _ (Op.call ⟨.value (.func 13), _, _⟩) _ _ _ _) _ _; exact ov_call Tryd.call13 rfl (by intro himp; first | rfl | (simp_all; done)) (by rfl) (fun _ _ h k => h.ext k) (fun hcg w hw => hf hw.laid))) | fail) ?_ | refine xl_box rfl (fun _ => ?_)) | refine wc_ret rfl ?_) | (show WC _ (Code.cond _ _ _) _ _ _ _; (refine wc_cond rfl (fun hc => ?_) (fun hc => ?_) <;> (try (simp only [decide_eq_true_eq, decide_eq_false_iff_not, Bool.and_eq_true, Bool.or_eq_true, Bool.and_eq_false_iff, Bool.or_eq_false_iff, Bool.not_eq_true', Bool.not_eq_false', Int.not_lt, Int.not_le] at hc)) <;> (try (exfalso; first | omega | contradiction)))))
  exact wr_tmp rfl rfl rfl
end Go.Proofs.YtjdmnanicaghkaaDoor
/-
  The plain laws of percents and forms. No program stands here.
-/
namespace Go.Pct
open Go.Txt

/-! ### what is encoded is decoded -/
theorem enc1_all (c : UInt8) : (enc1 c).all (fun d => d == 37 || plainB d) = true := by revert c; apply all_bytes; decide +kernel
theorem enc_bytes (s : List UInt8) : (encode s).all (fun d => d == 37 || plainB d) = true := by
  induction s with
  | nil => rfl
  | cons c s ih => simp only [encode, List.flatMap_cons, List.all_append, Bool.and_eq_true] at *; exact ⟨enc1_all c, ih⟩
theorem told2_hex (c : UInt8) : told2 (hexd (c.toNat / 16)) (hexd (c.toNat % 16)) = some c := by revert c; apply all_bytes; decide +kernel
theorem plain_not (c : UInt8) (h : plainB c = true) : c ≠ 37 ∧ c ≠ 43 ∧ c ≠ 38 ∧ c ≠ 61 := by revert h; revert c; apply all_bytes; decide +kernel
theorem each_plain (by1 : UInt8 → Bool → List UInt8) (c : UInt8) (r : List UInt8) (h : c ≠ 37) : each by1 (c :: r) = (each by1 r).map (by1 c false ++ ·) := by rw [each_cons, if_neg h]
theorem each_pct (by1 : UInt8 → Bool → List UInt8) (c : UInt8) (r : List UInt8) : each by1 (pctOf c ++ r) = (each by1 r).map (by1 c true ++ ·) := by
  rw [pctOf, List.cons_append, each_cons, if_pos rfl]
  simp [told, told2_hex]
theorem decode_encode (plus : Bool) (s : List UInt8) : decode plus (encode s) = some s := by
  unfold decode
  induction s with
  | nil => rfl
  | cons c s ih =>
    simp only [encode, List.flatMap_cons] at *
    by_cases h : plainB c = true
    · rw [enc1, if_pos h, List.singleton_append, each_plain _ _ _ (plain_not c h).1, ih]
      simp [byDec, (plain_not c h).2.1]
    · rw [enc1, if_neg h, each_pct, ih]
      simp [byDec]

/-! ### a text's tokens -/
def tokens : List UInt8 → Option (List (UInt8 × Bool))
  | [] => some []
  | [c] => if c = 37 then none else some [(c, false)]
  | [c, d] => if c = 37 then none else if d = 37 then none else some [(c, false), (d, false)]
  | c :: a :: b :: r =>
    if c = 37 then (match told2 a b with
      | some d => (tokens r).map ((d, true) :: ·)
      | none => none)
    else (tokens (a :: b :: r)).map ((c, false) :: ·)
theorem tokens_cons (c : UInt8) (r : List UInt8) : tokens (c :: r) = if c = 37 then (match told r with | some (d, r') => (tokens r').map ((d, true) :: ·) | none => none) else (tokens r).map ((c, false) :: ·) := by
  match r with
  | [] => by_cases h : c = 37 <;> simp [tokens, told, h]
  | [d] => by_cases h : c = 37 <;> by_cases h' : d = 37 <;> simp [tokens, told, h, h']
  | a :: b :: r =>
    simp only [tokens, told]
    split
    · cases told2 a b <;> rfl
    · rfl
theorem told_shorter {r : List UInt8} {d : UInt8} {r' : List UInt8} (h : told r = some (d, r')) : r'.length < r.length := by
  match r, h with
  | a :: b :: r, ht => simp only [told, Option.map_eq_some_iff, Prod.mk.injEq] at ht; obtain ⟨_, _, _, rfl⟩ := ht; simp; omega
theorem each_tokens (by1 : UInt8 → Bool → List UInt8) : ∀ (n : Nat) (s : List UInt8), s.length ≤ n → each by1 s = (tokens s).map (fun l => l.flatMap fun p => by1 p.1 p.2)
  | _, [], _ => by simp [each, tokens]
  | 0, c :: r, h => by simp at h
  | n + 1, c :: r, h => by
    rw [each_cons, tokens_cons]
    split
    · cases ht : told r with
      | none => rfl
      | some x =>
        obtain ⟨d, r'⟩ := x
        have := told_shorter ht
        simp only
        rw [each_tokens by1 n r' (by simp at h; omega)]
        simp [Option.map_map, Function.comp_def]
    · rw [each_tokens by1 n r (by simpa using h)]
      simp [Option.map_map, Function.comp_def]
/-- a byte that stands as itself is no percent -/
def Good (l : List (UInt8 × Bool)) : Prop := ∀ p ∈ l, p.2 = false → p.1 ≠ 37
theorem tokens_good : ∀ (n : Nat) (s : List UInt8) (l : List (UInt8 × Bool)), s.length ≤ n → tokens s = some l → Good l
  | _, [], l, _, h => by simp [tokens] at h; subst h; simp [Good]
  | 0, c :: r, l, hn, _ => by simp at hn
  | n + 1, c :: r, l, hn, h => by
    rw [tokens_cons] at h
    split at h
    · cases ht : told r with
      | none => rw [ht] at h; cases h
      | some x =>
        obtain ⟨d, r'⟩ := x
        rw [ht] at h
        have := told_shorter ht
        obtain ⟨u, hu, rfl⟩ := Option.map_eq_some_iff.1 h
        have := tokens_good n r' u (by simp at hn; omega) hu
        intro p hp
        rcases List.mem_cons.1 hp with rfl | hp
        · intro h; cases h
        · exact this p hp
    · rename_i hc
      obtain ⟨u, hu, rfl⟩ := Option.map_eq_some_iff.1 h
      have := tokens_good n r u (by simpa using hn) hu
      intro p hp
      rcases List.mem_cons.1 hp with rfl | hp
      · intro _; exact hc
      · exact this p hp
theorem tokens_only : ∀ (n : Nat) (s : List UInt8) (l : List (UInt8 × Bool)), s.length ≤ n → tokens s = some l → s.all (fun d => d == 37 || plainB d) = true → ∀ p ∈ l, p.2 = false → plainB p.1 = true
  | _, [], l, _, h, _ => by simp [tokens] at h; subst h; simp
  | 0, c :: r, l, hn, _, _ => by simp at hn
  | n + 1, c :: r, l, hn, h, ho => by
    simp only [List.all_cons, Bool.and_eq_true] at ho
    rw [tokens_cons] at h
    split at h
    · cases ht : told r with
      | none => rw [ht] at h; cases h
      | some x =>
        obtain ⟨d, r'⟩ := x
        rw [ht] at h
        have hsh := told_shorter ht
        have hr' : r'.all (fun d => d == 37 || plainB d) = true := by
          match r, ht, ho with
          | a :: b :: r, ht, ho => simp only [told, Option.map_eq_some_iff, Prod.mk.injEq] at ht; obtain ⟨_, _, _, rfl⟩ := ht; simp only [List.all_cons, Bool.and_eq_true] at ho; exact ho.2.2.2
        obtain ⟨u, hu, rfl⟩ := Option.map_eq_some_iff.1 h
        have := tokens_only n r' u (by simp at hn; omega) hu hr'
        intro p hp
        rcases List.mem_cons.1 hp with rfl | hp
        · intro h; cases h
        · exact this p hp
    · rename_i hc
      obtain ⟨u, hu, rfl⟩ := Option.map_eq_some_iff.1 h
      have := tokens_only n r u (by simpa using hn) hu ho.2
      intro p hp
      rcases List.mem_cons.1 hp with rfl | hp
      · intro _; simpa [hc] using ho.1
      · exact this p hp
def rn (p : UInt8 × Bool) : UInt8 × Bool := (p.1, p.2 && !plainB p.1)
def nrm (l : List (UInt8 × Bool)) : List UInt8 := l.flatMap fun p => byNorm p.1 p.2
theorem tokens_plain (c : UInt8) (r : List UInt8) (h : c ≠ 37) : tokens (c :: r) = (tokens r).map ((c, false) :: ·) := by rw [tokens_cons, if_neg h]
theorem tokens_pct (c : UInt8) (r : List UInt8) : tokens (pctOf c ++ r) = (tokens r).map ((c, true) :: ·) := by
  rw [pctOf, List.cons_append, tokens_cons, if_pos rfl]
  simp [told, told2_hex]
theorem tokens_nrm (l : List (UInt8 × Bool)) (h : Good l) : tokens (nrm l) = some (l.map rn) := by
  induction l with
  | nil => rfl
  | cons p l ih =>
    have ih := ih (fun q hq => h q (List.mem_cons_of_mem _ hq))
    have hp := h p (List.mem_cons_self ..)
    obtain ⟨c, pc⟩ := p
    simp only [nrm, List.flatMap_cons, List.map_cons] at *
    cases pc with
    | false =>
      rw [show byNorm c false = [c] from by simp [byNorm], List.singleton_append, tokens_plain _ _ (hp rfl), ih]; simp [rn]
    | true =>
      by_cases hpl : plainB c = true
      · rw [show byNorm c true = [c] from by simp [byNorm, hpl], List.singleton_append, tokens_plain _ _ (plain_not c hpl).1, ih]; simp [rn, hpl]
      · rw [show byNorm c true = pctOf c from by simp [byNorm, hpl], tokens_pct, ih]; simp [rn, hpl]
theorem normal_tokens (s : List UInt8) : normal s = (tokens s).map nrm := each_tokens byNorm _ s (Nat.le_refl _)
theorem decode_tokens (s : List UInt8) : decode false s = (tokens s).map (·.map (·.1)) := by
  unfold decode
  rw [each_tokens _ _ s (Nat.le_refl _)]
  congr 1
  funext l
  induction l with
  | nil => rfl
  | cons p l ih => simp only [List.flatMap_cons, List.map_cons, ih]; simp [byDec]
theorem nrm_rn (l : List (UInt8 × Bool)) : nrm (l.map rn) = nrm l := by
  induction l with
  | nil => rfl
  | cons p l ih =>
    simp only [nrm, List.map_cons, List.flatMap_cons] at *
    rw [ih]
    congr 1
    obtain ⟨c, pc⟩ := p
    cases pc <;> by_cases h : plainB c = true <;> simp [byNorm, rn, h]
theorem fst_rn (l : List (UInt8 × Bool)) : (l.map rn).map (·.1) = l.map (·.1) := by simp [rn, Function.comp_def]
theorem nrm_encode (l : List (UInt8 × Bool)) (h : ∀ p ∈ l, p.2 = false → plainB p.1 = true) : nrm l = encode (l.map (·.1)) := by
  induction l with
  | nil => rfl
  | cons p l ih =>
    have ih := ih (fun q hq => h q (List.mem_cons_of_mem _ hq))
    have hp := h p (List.mem_cons_self ..)
    simp only [nrm, encode, List.map_cons, List.flatMap_cons] at *
    rw [ih]
    congr 1
    obtain ⟨c, pc⟩ := p
    cases pc with
    | false => simp [byNorm, enc1, hp rfl]
    | true => by_cases hpl : plainB c = true <;> simp [byNorm, enc1, hpl]
/-- Normal is one way of writing -/
theorem normal_law {s a : List UInt8} (h : normal s = some a) : ∃ x, normal a = some a ∧ decode false s = some x ∧ decode false a = some x ∧ (s.all (fun d => d == 37 || plainB d) = true → a = encode x) := by
  rw [normal_tokens] at h
  obtain ⟨l, hl, rfl⟩ := Option.map_eq_some_iff.1 h
  have hg := tokens_good _ s l (Nat.le_refl _) hl
  refine ⟨l.map (·.1), ?_, ?_, ?_, fun ho => ?_⟩
  · rw [normal_tokens, tokens_nrm l hg, Option.map_some, nrm_rn]
  · rw [decode_tokens, hl]; rfl
  · rw [decode_tokens, tokens_nrm l hg, Option.map_some, fst_rn]
  · exact nrm_encode l (tokens_only _ s l (Nat.le_refl _) hl ho)
end Go.Pct
/-
  The plain laws of forms: what is written is read; forms side by side. No program stands here.
-/
namespace Go.Pct
open Go.Txt

theorem each_length {by1 : UInt8 → Bool → List UInt8} (h1 : ∀ c, (by1 c false).length ≤ 1) (h2 : ∀ c, (by1 c true).length ≤ 3) : ∀ (n : Nat) (s t : List UInt8), s.length ≤ n → each by1 s = some t → t.length ≤ s.length
  | _, [], t, _, h => by simp [each] at h; subst h; simp
  | 0, c :: r, t, hn, _ => by simp at hn
  | n + 1, c :: r, t, hn, h => by
    rw [each_cons] at h
    split at h
    · cases ht : told r with
      | none => rw [ht] at h; cases h
      | some x =>
        obtain ⟨d, r'⟩ := x
        rw [ht] at h
        simp only at h
        have hr : r'.length + 2 = r.length := by
          match r, ht with
          | a :: b :: r, ht => simp only [told, Option.map_eq_some_iff, Prod.mk.injEq] at ht; obtain ⟨_, _, _, rfl⟩ := ht; simp
        obtain ⟨u, hu, rfl⟩ := Option.map_eq_some_iff.1 h
        have := each_length h1 h2 n r' u (by simp at hn; omega) hu
        have := h2 d
        simp; omega
    · obtain ⟨u, hu, rfl⟩ := Option.map_eq_some_iff.1 h
      have := each_length h1 h2 n r u (by simpa using hn) hu
      have := h1 c
      simp; omega
theorem normal_length {s t : List UInt8} (h : normal s = some t) : t.length ≤ s.length := each_length (by1 := byNorm) (fun c => by simp [byNorm]) (fun c => byNorm_length c true) _ s t (Nat.le_refl _) h
theorem gaps : ∀ j, j < 10 → ([38, 38, 38, 38, 38, 38, 38, 38, 38, 38] : List UInt8).take (1 + j) = List.replicate (j + 1) 38 := by decide
theorem not_mem_of_all {d : UInt8} {s : List UInt8} (h : s.all (fun c => c == 37 || plainB c) = true) (hd : d = 38 ∨ d = 61) : d ∉ s := by
  intro hm
  have := List.all_eq_true.1 h d hm
  rcases hd with rfl | rfl <;> revert this <;> decide +kernel
theorem w1_amp (p : Pr) : (38 : UInt8) ∉ w1 p := by
  have h1 := not_mem_of_all (d := 38) (enc_bytes p.1) (.inl rfl)
  have h2 := not_mem_of_all (d := 38) (enc_bytes p.2) (.inl rfl)
  simp only [w1, List.mem_append, List.mem_cons, not_or]
  exact ⟨h1, by decide, h2⟩
theorem pieces_write : ∀ (l : List Pr) (p : Pr), pieces 38 (w1 p ++ l.flatMap (fun q => 38 :: w1 q)) = (p :: l).map w1
  | [], p => by simp [pieces_no (w1_amp p)]
  | q :: l, p => by
    rw [List.flatMap_cons, List.cons_append, pieces_hit (w1_amp p), pieces_write l q]; rfl
theorem pairOf_w1 (p : Pr) : pairOf (w1 p) = some p := by
  have h1 := not_mem_of_all (d := 61) (enc_bytes p.1) (.inr rfl)
  have hi : idx 61 (w1 p) = (encode p.1).length := idx_append h1
  have e1 : (w1 p).take (encode p.1).length = encode p.1 := by simp [w1]
  have e2 : (w1 p).drop ((encode p.1).length + 1) = encode p.2 := by simp [w1]
  unfold pairOf
  rw [hi, e1, e2, decode_encode, decode_encode]
theorem w1_ne (p : Pr) : w1 p ≠ [] := by simp [w1]
theorem formGo_w1 : ∀ (l out : List Pr), out.length ≤ 32 → formGo (l.map w1) out = if out.length + l.length ≤ 32 then (out ++ l, 0) else ([], 5)
  | [], out, h => by simp [formGo, h]
  | p :: l, out, h => by
    simp only [List.map_cons, formGo]
    rw [if_neg (w1_ne p), pairOf_w1]
    by_cases h2 : 32 ≤ out.length
    · rw [if_pos h2, if_neg (by simp; omega)]
    · rw [if_neg h2]
      simp only
      rw [formGo_w1 l (out ++ [p]) (by simp; omega)]
      simp only [List.length_append, List.length_cons, List.length_nil, List.append_assoc, List.singleton_append]
      by_cases h3 : out.length + (l.length + 1) ≤ 32
      · rw [if_pos (by omega), if_pos h3]
      · rw [if_neg (by omega), if_neg h3]
/-- what is written as a form is read -/
theorem form_write (l : List Pr) : form (writeP l) = if l.length ≤ 32 then (l, 0) else ([], 5) := by
  cases l with
  | nil => rfl
  | cons p l =>
    unfold form writeP
    rw [pieces_write, formGo_w1 _ [] (by simp)]
    simp only [List.length_nil, Nat.zero_add, List.nil_append]

/-! ### side by side -/
theorem formGo_append : ∀ (l1 l2 : List (List UInt8)) (out r : List Pr), formGo l1 out = (r, 0) → formGo (l1 ++ l2) out = formGo l2 r
  | [], l2, out, r, h => by simp only [formGo, Prod.mk.injEq, and_true] at h; subst h; rfl
  | x :: l1, l2, out, r, h => by
    simp only [List.cons_append, formGo] at *
    split at h
    · rename_i hx; rw [if_pos hx]; exact formGo_append l1 l2 out r h
    · rename_i hx; rw [if_neg hx]
      split at h
      · cases h
      · rename_i hf; rw [if_neg hf]
        split at h
        · cases h
        · exact formGo_append l1 l2 _ r h
theorem formGo_from : ∀ (l : List (List UInt8)) (out r : List Pr), formGo l out = (r, 0) → ∃ b, r = out ++ b ∧ ∀ out' : List Pr, out'.length ≤ 32 → formGo l out' = if out'.length + b.length ≤ 32 then (out' ++ b, 0) else ([], 5)
  | [], out, r, h => by
    simp only [formGo, Prod.mk.injEq, and_true] at h; subst h
    exact ⟨[], by simp, fun out' h => by simp [formGo, h]⟩
  | x :: l, out, r, h => by
    simp only [formGo] at h
    split at h
    · rename_i hx
      obtain ⟨b, hb, hall⟩ := formGo_from l out r h
      exact ⟨b, hb, fun out' h' => by rw [formGo, if_pos hx]; exact hall out' h'⟩
    · rename_i hx
      split at h
      · cases h
      · split at h
        · cases h
        · rename_i p hp
          obtain ⟨b, hb, hall⟩ := formGo_from l _ r h
          refine ⟨p :: b, by rw [hb]; simp, fun out' h' => ?_⟩
          rw [formGo, if_neg hx]
          by_cases h2 : 32 ≤ out'.length
          · rw [if_pos h2, if_neg (by simp; omega)]
          · rw [if_neg h2, hp]
            simp only
            rw [hall (out' ++ [p]) (by simp; omega)]
            simp only [List.length_append, List.length_cons, List.length_nil, List.append_assoc, List.singleton_append]
            by_cases h3 : out'.length + (b.length + 1) ≤ 32
            · rw [if_pos (by omega), if_pos h3]
            · rw [if_neg (by omega), if_neg h3]
theorem formGo_gap (n : Nat) (l : List (List UInt8)) (out : List Pr) : formGo (List.replicate n [] ++ l) out = formGo l out := by
  induction n with
  | zero => rfl
  | succ n ih => rw [List.replicate_succ, List.cons_append, formGo, if_pos rfl, ih]
theorem pieces_gap (n : Nat) (t : List UInt8) : pieces 38 (List.replicate n 38 ++ t) = List.replicate n [] ++ pieces 38 t := by
  induction n with
  | zero => rfl
  | succ n ih => simp only [List.replicate_succ, List.cons_append, pieces]; rw [if_pos trivial, ih]
/-- forms side by side are their pairs side by side -/
theorem form_joins {s t : List UInt8} {a b : List Pr} (n : Nat) (ha : form s = (a, 0)) (hb : form t = (b, 0)) : form (s ++ List.replicate (n + 1) 38 ++ t) = if a.length + b.length ≤ 32 then (a ++ b, 0) else ([], 5) := by
  unfold form at *
  have e : s ++ List.replicate (n + 1) 38 ++ t = s ++ 38 :: (List.replicate n 38 ++ t) := by simp [List.replicate_succ]
  have hal : a.length ≤ 32 := by have := form_short s; unfold form at this; rw [ha] at this; exact this
  rw [e, pieces_append, formGo_append _ _ _ _ ha, pieces_gap, formGo_gap]
  obtain ⟨b', hb', hall⟩ := formGo_from _ _ _ hb
  simp only [List.nil_append] at hb'
  subst hb'
  exact hall a hal
end Go.Pct
/-
  The walks of the statements of layer 3: what each Go function of them answers is true.
-/
namespace Go.Proofs.YtjdmnanicaghkaaDoor
open Go.Eng Go.Pct Go.Rsp Go.Txt
set_option maxRecDepth 10000
set_option linter.unusedSimpArgs false
set_option linter.unusedVariables false

variable {M : Ghost} {w0 w : World} {bs : List Nat} {H : List (Nat × Obj)}

instance reqDec : DecidableEq Req := fun a b => decidable_of_iff (a.meth = b.meth ∧ a.targ = b.targ ∧ a.headers = b.headers ∧ a.body = b.body) ⟨fun h => by cases a; cases b; simp only at h; obtain ⟨rfl, rfl, rfl, rfl⟩ := h; rfl, fun h => by subst h; exact ⟨rfl, rfl, rfl, rfl⟩⟩
def exA : List UInt8 := [71, 69, 84, 32, 47, 108, 111, 103, 105, 110, 63, 97, 61, 49, 32, 72, 84, 84, 80, 47, 49, 46, 49, 13, 10, 72, 111, 115, 116, 58, 32, 120, 13, 10, 13, 10]
def exB : List UInt8 := [80, 85, 84, 32, 47, 32, 72, 84, 84, 80, 47, 49, 46, 49, 13, 10, 13, 10]
def exC : List UInt8 := [80, 79, 83, 84, 32, 47, 32, 72, 84, 84, 80, 47, 49, 46, 49, 13, 10, 99, 111, 110, 116, 101, 110, 116, 45, 108, 101, 110, 103, 116, 104, 58, 32, 51, 13, 10, 13, 10, 97, 61, 49]
def exT : List UInt8 := [47, 108, 111, 103, 105, 110, 63, 97, 61, 49]
theorem ex_a : parseQ exA = (⟨sGet, exT, [([72, 111, 115, 116], [120])], []⟩, 0) := by decide +kernel
theorem ex_b : parseQ exB = (.none, 16) := by decide +kernel
theorem ex_c : parseQ exC = (⟨sPost, [47], [(sCLen, [51])], [97, 61, 49]⟩, 0) := by decide +kernel
theorem ex_g : argsQ sGet exT [] = ([([97], [49])], 0) := by decide +kernel
theorem ex_p : pathQ exT = [47, 108, 111, 103, 105, 110] := by decide +kernel
theorem awake_ok (hG : Glob M) (hM : Laid M w) : Calls Tryd.prog 9 #[] w (RetE w (.bool true)) := by
  refine calls_st (l := []) hM Tryd.func9 rfl rfl rfl (E0 := []) (params_nil _) ?_
  repeat' (first | (first | refine wc_seq ?_ | refine wc_region ?_ | refine wl_nil ?_ | refine wn_seq ?_ | refine wn_blk ?_ | refine wc_skip ?_ | refine wc_block ?_ | refine wc_exit rfl ?_ | (show WL _ _ (_ :: _) _ _ _ _; first | refine wl_v rfl rfl rfl (by first | (show OpV _ _ _ _ (Oper.mk _ (Op.move _) _ _ _ _) _ _; exact xo_move rfl) | (show OpV _ _ _ _ (Oper.mk _ (Op.assign _) _ _ _ _) _ _; exact xo_assign rfl) | (show OpV _ _ _ _ (Oper.mk _ (Op.pick _ _ _) _ _ _ _) _ _; first | exact xo_and rfl rfl | exact xo_or rfl rfl) | (show OpV _ _ _ _ (Oper.mk _ (Op.extract _ _) _ _ _ _) _ _; exact xo_extract rfl) | (show OpV _ _ _ _ (Oper.mk _ (Op.binOp BinOp.eql _ _ _ _) _ _ _ _) _ _; first | exact xo_eql rfl rfl | exact xo_seql rfl rfl | exact xo_beql rfl rfl | exact xo_aeql rfl rfl) | (show OpV _ _ _ _ (Oper.mk _ (Op.fieldAddr _ _ _) _ _ _ _) _ _; exact xo_fieldAddr rfl) | (show OpV _ _ _ _ (Oper.mk _ (Op.load _ _) _ _ _ _) _ _; first | exact xo_load1 rfl | exact xo_loadS rfl) | (show OpV _ _ _ _ (Oper.mk _ (Op.build _ _) _ _ _ _) _ _; exact xo_build rfl)) ?_ | refine wl_v rfl rfl rfl (by first  | fail) ?_ | refine xl_alloc (fun _ => ?_) | refine xl_store rfl rfl ?_ | refine xl_buildSlice rfl (fun _ => ?_)) | refine wc_ret rfl ?_) | (show WC _ (Code.cond _ _ _) _ _ _ _; (refine wc_cond rfl (fun hc => ?_) (fun hc => ?_) <;> (try (simp only [decide_eq_true_eq, decide_eq_false_iff_not, Bool.and_eq_true, Bool.or_eq_true, Bool.and_eq_false_iff, Bool.or_eq_false_iff, Bool.not_eq_true', Bool.not_eq_false', Int.not_lt, Int.not_le] at hc)) <;> (try (exfalso; first | omega | contradiction)))))
  refine wl_callS rfl Tryd.call10 rfl rfl rfl rfl (fun w hw => qparse_ok hG hw.laid exA (by decide)) ?_
  rintro v1 H1 M1 hm1 hnew1 ⟨rfl, hp1⟩
  rw [ex_a] at hp1
  obtain ⟨hv1, rfl, hk1⟩ := hp1
  have hG1 := hG.mono hm1
  dsimp only at hk1
  obtain ⟨a1, c1, _, _, _, _, _, rfl, _⟩ := hk1.open
  repeat' (first | (first | refine wc_seq ?_ | refine wc_region ?_ | refine wl_nil ?_ | refine wn_seq ?_ | refine wn_blk ?_ | refine wc_skip ?_ | refine wc_block ?_ | refine wc_exit rfl ?_ | (show WL _ _ (_ :: _) _ _ _ _; first | refine wl_v rfl rfl rfl (by first | (show OpV _ _ _ _ (Oper.mk _ (Op.move _) _ _ _ _) _ _; exact xo_move rfl) | (show OpV _ _ _ _ (Oper.mk _ (Op.assign _) _ _ _ _) _ _; exact xo_assign rfl) | (show OpV _ _ _ _ (Oper.mk _ (Op.pick _ _ _) _ _ _ _) _ _; first | exact xo_and rfl rfl | exact xo_or rfl rfl) | (show OpV _ _ _ _ (Oper.mk _ (Op.extract _ _) _ _ _ _) _ _; exact xo_extract rfl) | (show OpV _ _ _ _ (Oper.mk _ (Op.binOp BinOp.eql _ _ _ _) _ _ _ _) _ _; first | exact xo_eql rfl rfl | exact xo_seql rfl rfl | exact xo_beql rfl rfl | exact xo_aeql rfl rfl) | (show OpV _ _ _ _ (Oper.mk _ (Op.fieldAddr _ _ _) _ _ _ _) _ _; exact xo_fieldAddr rfl) | (show OpV _ _ _ _ (Oper.mk _ (Op.load _ _) _ _ _ _) _ _; first | exact xo_load1 rfl | exact xo_loadS rfl) | (show OpV _ _ _ _ (Oper.mk _ (Op.build _ _) _ _ _ _) _ _; exact xo_build rfl)) ?_ | refine wl_v rfl rfl rfl (by first  | fail) ?_ | refine xl_alloc (fun _ => ?_) | refine xl_store rfl rfl ?_ | refine xl_buildSlice rfl (fun _ => ?_)) | refine wc_ret rfl ?_) | (show WC _ (Code.cond _ _ _) _ _ _ _; (refine wc_cond rfl (fun hc => ?_) (fun hc => ?_) <;> (try (simp only [decide_eq_true_eq, decide_eq_false_iff_not, Bool.and_eq_true, Bool.or_eq_true, Bool.and_eq_false_iff, Bool.or_eq_false_iff, Bool.not_eq_true', Bool.not_eq_false', Int.not_lt, Int.not_le] at hc)) <;> (try (exfalso; first | omega | contradiction)))))
  refine wl_callS rfl Tryd.call10 rfl rfl rfl rfl (fun w hw => qparse_ok hG1 hw.laid exB (by decide)) ?_
  rintro v2 H2 M2 hm2 hnew2 ⟨rfl, hp2⟩
  rw [ex_b] at hp2
  obtain ⟨hv2, rfl, hk2⟩ := hp2
  have hG2 := hG1.mono hm2
  obtain ⟨a2, c2, _, _, _, _, _, rfl, _⟩ := hk2.open
  repeat' (first | (first | refine wc_seq ?_ | refine wc_region ?_ | refine wl_nil ?_ | refine wn_seq ?_ | refine wn_blk ?_ | refine wc_skip ?_ | refine wc_block ?_ | refine wc_exit rfl ?_ | (show WL _ _ (_ :: _) _ _ _ _; first | refine wl_v rfl rfl rfl (by first | (show OpV _ _ _ _ (Oper.mk _ (Op.move _) _ _ _ _) _ _; exact xo_move rfl) | (show OpV _ _ _ _ (Oper.mk _ (Op.assign _) _ _ _ _) _ _; exact xo_assign rfl) | (show OpV _ _ _ _ (Oper.mk _ (Op.pick _ _ _) _ _ _ _) _ _; first | exact xo_and rfl rfl | exact xo_or rfl rfl) | (show OpV _ _ _ _ (Oper.mk _ (Op.extract _ _) _ _ _ _) _ _; exact xo_extract rfl) | (show OpV _ _ _ _ (Oper.mk _ (Op.binOp BinOp.eql _ _ _ _) _ _ _ _) _ _; first | exact xo_eql rfl rfl | exact xo_seql rfl rfl | exact xo_beql rfl rfl | exact xo_aeql rfl rfl) | (show OpV _ _ _ _ (Oper.mk _ (Op.fieldAddr _ _ _) _ _ _ _) _ _; exact xo_fieldAddr rfl) | (show OpV _ _ _ _ (Oper.mk _ (Op.load _ _) _ _ _ _) _ _; first | exact xo_load1 rfl | exact xo_loadS rfl) | (show OpV _ _ _ _ (Oper.mk _ (Op.build _ _) _ _ _ _) _ _; exact xo_build rfl)) ?_ | refine wl_v rfl rfl rfl (by first  | fail) ?_ | refine xl_alloc (fun _ => ?_) | refine xl_store rfl rfl ?_ | refine xl_buildSlice rfl (fun _ => ?_)) | refine wc_ret rfl ?_) | (show WC _ (Code.cond _ _ _) _ _ _ _; (refine wc_cond rfl (fun hc => ?_) (fun hc => ?_) <;> (try (simp only [decide_eq_true_eq, decide_eq_false_iff_not, Bool.and_eq_true, Bool.or_eq_true, Bool.and_eq_false_iff, Bool.or_eq_false_iff, Bool.not_eq_true', Bool.not_eq_false', Int.not_lt, Int.not_le] at hc)) <;> (try (exfalso; first | omega | contradiction)))))
  refine wl_callS rfl Tryd.call10 rfl rfl rfl rfl (fun w hw => qparse_ok hG2 hw.laid exC (by decide)) ?_
  rintro v3 H3 M3 hm3 hnew3 ⟨rfl, hp3⟩
  rw [ex_c] at hp3
  obtain ⟨hv3, rfl, hk3⟩ := hp3
  have hG3 := hG2.mono hm3
  dsimp only at hk3
  obtain ⟨a3, c3, _, _, _, _, _, rfl, _⟩ := hk3.open
  have hk1' := (hk1.mono hm2 (fun _ _ _ h => h)).mono hm3 (fun _ _ _ h => h)
  repeat' (first | (first | refine wc_seq ?_ | refine wc_region ?_ | refine wl_nil ?_ | refine wn_seq ?_ | refine wn_blk ?_ | refine wc_skip ?_ | refine wc_block ?_ | refine wc_exit rfl ?_ | (show WL _ _ (_ :: _) _ _ _ _; first | refine wl_v rfl rfl rfl (by first | (show OpV _ _ _ _ (Oper.mk _ (Op.move _) _ _ _ _) _ _; exact xo_move rfl) | (show OpV _ _ _ _ (Oper.mk _ (Op.assign _) _ _ _ _) _ _; exact xo_assign rfl) | (show OpV _ _ _ _ (Oper.mk _ (Op.pick _ _ _) _ _ _ _) _ _; first | exact xo_and rfl rfl | exact xo_or rfl rfl) | (show OpV _ _ _ _ (Oper.mk _ (Op.extract _ _) _ _ _ _) _ _; exact xo_extract rfl) | (show OpV _ _ _ _ (Oper.mk _ (Op.binOp BinOp.eql _ _ _ _) _ _ _ _) _ _; first | exact xo_eql rfl rfl | exact xo_seql rfl rfl | exact xo_beql rfl rfl | exact xo_aeql rfl rfl) | (show OpV _ _ _ _ (Oper.mk _ (Op.fieldAddr _ _ _) _ _ _ _) _ _; exact xo_fieldAddr rfl) | (show OpV _ _ _ _ (Oper.mk _ (Op.load _ _) _ _ _ _) _ _; first | exact xo_load1 rfl | exact xo_loadS rfl) | (show OpV _ _ _ _ (Oper.mk _ (Op.build _ _) _ _ _ _) _ _; exact xo_build rfl)) ?_ | refine wl_v rfl rfl rfl (by first  | fail) ?_ | refine xl_alloc (fun _ => ?_) | refine xl_store rfl rfl ?_ | refine xl_buildSlice rfl (fun _ => ?_)) | refine wc_ret rfl ?_) | (show WC _ (Code.cond _ _ _) _ _ _ _; (refine wc_cond rfl (fun hc => ?_) (fun hc => ?_) <;> (try (simp only [decide_eq_true_eq, decide_eq_false_iff_not, Bool.and_eq_true, Bool.or_eq_true, Bool.and_eq_false_iff, Bool.or_eq_false_iff, Bool.not_eq_true', Bool.not_eq_false', Int.not_lt, Int.not_le] at hc)) <;> (try (exfalso; first | omega | contradiction)))))
  refine wl_callS rfl Tryd.call15 rfl rfl rfl rfl (fun w hw => qargs_ok hG3 hw.laid hk1' sGet exT [] (by decide) (by decide)) ?_
  rintro v4 H4 M4 hm4 hnew4 ⟨rfl, hp4⟩
  rw [ex_g] at hp4
  obtain ⟨sv4, rfl, hk4⟩ := hp4
  have hG4 := hG3.mono hm4
  dsimp only at hk4
  have hpath : ∀ {w : World}, Laid M4 w → Calls Tryd.prog 17 #[.agg #[str sGet, str exT, .slice a1 1 c1, str []]] w (RetE w (str [47, 108, 111, 103, 105, 110])) := fun h => by
    have := qpath_ok hG4 h (hk1'.mono hm4 (fun _ _ _ h => h)) sGet exT [] (by decide)
    rw [ex_p] at this
    exact this
  repeat' (first | (first | refine wc_seq ?_ | refine wc_region ?_ | refine wl_nil ?_ | refine wn_seq ?_ | refine wn_blk ?_ | refine wc_skip ?_ | refine wc_block ?_ | refine wc_exit rfl ?_ | (show WL _ _ (_ :: _) _ _ _ _; first | refine wl_v rfl rfl rfl (by first | (show OpV _ _ _ _ (Oper.mk _ (Op.move _) _ _ _ _) _ _; exact xo_move rfl) | (show OpV _ _ _ _ (Oper.mk _ (Op.assign _) _ _ _ _) _ _; exact xo_assign rfl) | (show OpV _ _ _ _ (Oper.mk _ (Op.pick _ _ _) _ _ _ _) _ _; first | exact xo_and rfl rfl | exact xo_or rfl rfl) | (show OpV _ _ _ _ (Oper.mk _ (Op.extract _ _) _ _ _ _) _ _; exact xo_extract rfl) | (show OpV _ _ _ _ (Oper.mk _ (Op.binOp BinOp.eql _ _ _ _) _ _ _ _) _ _; first | exact xo_eql rfl rfl | exact xo_seql rfl rfl | exact xo_beql rfl rfl | exact xo_aeql rfl rfl) | (show OpV _ _ _ _ (Oper.mk _ (Op.fieldAddr _ _ _) _ _ _ _) _ _; exact xo_fieldAddr rfl) | (show OpV _ _ _ _ (Oper.mk _ (Op.load _ _) _ _ _ _) _ _; first | exact xo_load1 rfl | exact xo_loadS rfl) | (show OpV _ _ _ _ (Oper.mk _ (Op.build _ _) _ _ _ _) _ _; exact xo_build rfl)) ?_ | refine wl_v rfl rfl rfl (by first | ((show OpV _ _ _ _ (Oper.mk _ (Op.call ⟨.value (.func 17), _, _⟩) _ _ _ _) _ _; exact ov_call Tryd.call17 rfl (by intro himp; first | rfl | (simp_all; done)) (by rfl) (fun _ _ h k => h.ext k) (fun hcg w hw => hpath hw.laid))) | fail) ?_ | refine xl_alloc (fun _ => ?_) | refine xl_store rfl rfl ?_ | refine xl_buildSlice rfl (fun _ => ?_)) | refine wc_ret rfl ?_) | (show WC _ (Code.cond _ _ _) _ _ _ _; (refine wc_cond rfl (fun hc => ?_) (fun hc => ?_) <;> (try (simp only [decide_eq_true_eq, decide_eq_false_iff_not, Bool.and_eq_true, Bool.or_eq_true, Bool.and_eq_false_iff, Bool.or_eq_false_iff, Bool.not_eq_true', Bool.not_eq_false', Int.not_lt, Int.not_le] at hc)) <;> (try (exfalso; first | omega | contradiction)))))
  rename_i b
  have hl : SlP (With M4 [(b, .cells (cellsP [([97], [49])]).toArray tPr (0, 0))]) (.slice (some ⟨b, 0, none⟩) 1 1) [([97], [49])] := (OwnS.lit (e := tPr) (m := 2) (l := cellsP [([97], [49])]) rfl (by decide)).slP (fun p hp => .inr hp) (by decide)
  have hsv2 : SlP (With M4 [(b, .cells (cellsP [([97], [49])]).toArray tPr (0, 0))]) sv4 [([97], [49])] := hk4.mono (fun _ _ => .inl) (fun _ _ _ h => h)
  refine wl_publish (H1 := [(b, .cells (cellsP [([97], [49])]).toArray tPr (0, 0))]) fun _ => ?_
  repeat' (first | (first | refine wc_seq ?_ | refine wc_region ?_ | refine wl_nil ?_ | refine wn_seq ?_ | refine wn_blk ?_ | refine wc_skip ?_ | refine wc_block ?_ | refine wc_exit rfl ?_ | (show WL _ _ (_ :: _) _ _ _ _; first | refine wl_v rfl rfl rfl (by first | (show OpV _ _ _ _ (Oper.mk _ (Op.move _) _ _ _ _) _ _; exact xo_move rfl) | (show OpV _ _ _ _ (Oper.mk _ (Op.assign _) _ _ _ _) _ _; exact xo_assign rfl) | (show OpV _ _ _ _ (Oper.mk _ (Op.pick _ _ _) _ _ _ _) _ _; first | exact xo_and rfl rfl | exact xo_or rfl rfl) | (show OpV _ _ _ _ (Oper.mk _ (Op.extract _ _) _ _ _ _) _ _; exact xo_extract rfl) | (show OpV _ _ _ _ (Oper.mk _ (Op.binOp BinOp.eql _ _ _ _) _ _ _ _) _ _; first | exact xo_eql rfl rfl | exact xo_seql rfl rfl | exact xo_beql rfl rfl | exact xo_aeql rfl rfl) | (show OpV _ _ _ _ (Oper.mk _ (Op.fieldAddr _ _ _) _ _ _ _) _ _; exact xo_fieldAddr rfl) | (show OpV _ _ _ _ (Oper.mk _ (Op.load _ _) _ _ _ _) _ _; first | exact xo_load1 rfl | exact xo_loadS rfl) | (show OpV _ _ _ _ (Oper.mk _ (Op.build _ _) _ _ _ _) _ _; exact xo_build rfl)) ?_ | refine wl_v rfl rfl rfl (by first | ((show OpV _ _ _ _ (Oper.mk _ (Op.call ⟨.value (.func 16), _, _⟩) _ _ _ _) _ _; exact ov_call Tryd.call16 rfl (by intro himp; first | rfl | (simp_all; done)) (by rfl) (fun _ _ h k => h.ext k) (fun hcg w hw => pairs_ok hw.laid hsv2 hl))) | fail) ?_ | refine xl_alloc (fun _ => ?_) | refine xl_store rfl rfl ?_ | refine xl_buildSlice rfl (fun _ => ?_)) | refine wc_ret rfl ?_) | (show WC _ (Code.cond _ _ _) _ _ _ _; (refine wc_cond rfl (fun hc => ?_) (fun hc => ?_) <;> (try (simp only [decide_eq_true_eq, decide_eq_false_iff_not, Bool.and_eq_true, Bool.or_eq_true, Bool.and_eq_false_iff, Bool.or_eq_false_iff, Bool.not_eq_true', Bool.not_eq_false', Int.not_lt, Int.not_le] at hc)) <;> (try (exfalso; first | omega | contradiction)))))
  exact wr_tmp rfl rfl (congrArg Value.bool (by decide +kernel))
theorem same_self (hM : Laid M w) {u v : Value} {l : List Pr} (hu : SlP M u l) (hv : SlP M v l) (m t b : List UInt8) : Calls Tryd.prog 12 #[.agg #[str m, str t, u, str b], .agg #[str m, str t, v, str b]] w (RetE w (.bool true)) := by
  have := rsame_ok hM hu hv m t b m t b
  have e : (decide (m = m) && decide (t = t) && decide (b = b) && decide (l = l)) = true := by simp
  rw [e] at this; exact this
theorem reqReads_ok (hG : Glob M) (hM : Laid M w) (s : List UInt8) (hs : s.length ≤ 9223372036854775807) : Calls Tryd.prog 3 #[str s] w (RetE w (.bool true)) := by
  refine calls_st (l := [str s]) hM Tryd.func3 rfl rfl rfl (E0 := [(0, true, str s)]) (params_cons rfl (params_nil _)) ?_
  repeat' (first | (first | refine wc_seq ?_ | refine wc_region ?_ | refine wl_nil ?_ | refine wn_seq ?_ | refine wn_blk ?_ | refine wc_skip ?_ | refine wc_block ?_ | refine wc_exit rfl ?_ | (show WL _ _ (_ :: _) _ _ _ _; first | refine wl_v rfl rfl rfl (by first | (show OpV _ _ _ _ (Oper.mk _ (Op.move _) _ _ _ _) _ _; exact xo_move rfl) | (show OpV _ _ _ _ (Oper.mk _ (Op.assign _) _ _ _ _) _ _; exact xo_assign rfl) | (show OpV _ _ _ _ (Oper.mk _ (Op.pick _ _ _) _ _ _ _) _ _; first | exact xo_and rfl rfl | exact xo_or rfl rfl) | (show OpV _ _ _ _ (Oper.mk _ (Op.extract _ _) _ _ _ _) _ _; exact xo_extract rfl) | (show OpV _ _ _ _ (Oper.mk _ (Op.call ⟨.builtin .len, _, _⟩) _ _ _ _) _ _; first | exact xo_slen rfl | exact xo_len rfl) | (show OpV _ _ _ _ (Oper.mk _ (Op.binOp BinOp.eql _ _ _ _) _ _ _ _) _ _; first | exact xo_eql rfl rfl | exact xo_seql rfl rfl | exact xo_beql rfl rfl | exact xo_aeql rfl rfl) | (show OpV _ _ _ _ (Oper.mk _ (Op.binOp BinOp.leq _ _ _ _) _ _ _ _) _ _; exact xo_leq rfl rfl) | (show OpV _ _ _ _ (Oper.mk _ (Op.binOp BinOp.gtr _ _ _ _) _ _ _ _) _ _; exact xo_gtr rfl rfl) | (show OpV _ _ _ _ (Oper.mk _ (Op.load _ _) _ _ _ _) _ _; first | exact xo_load1 rfl | exact xo_loadS rfl)) ?_ | refine wl_v rfl rfl rfl (by first | ((show OpV _ _ _ _ (Oper.mk _ (Op.call ⟨.value (.func 9), _, _⟩) _ _ _ _) _ _; exact ov_call Tryd.call9 rfl (by intro himp; first | rfl | (simp_all; done)) (by rfl) (fun _ _ h k => h.ext k) (fun hcg w hw => awake_ok hG hw.laid))) | fail) ?_ | refine xl_alloc (fun _ => ?_) | refine xl_store rfl rfl ?_) | refine wc_ret rfl ?_) | (show WC _ (Code.cond _ _ _) _ _ _ _; (refine wc_cond rfl (fun hc => ?_) (fun hc => ?_) <;> (try (simp only [decide_eq_true_eq, decide_eq_false_iff_not, Bool.and_eq_true, Bool.or_eq_true, Bool.and_eq_false_iff, Bool.or_eq_false_iff, Bool.not_eq_true', Bool.not_eq_false', Int.not_lt, Int.not_le] at hc)) <;> (try (exfalso; first | omega | contradiction)))))
  · exact wr_tmp rfl rfl rfl
  refine wl_callS rfl Tryd.call10 rfl rfl rfl rfl (fun w hw => qparse_ok hG hw.laid s hs) ?_
  rintro v1 H1 M1 hm1 hnew1 ⟨rfl, hp1⟩
  generalize hq : parseQ s = q at *
  obtain ⟨⟨m, t, l, b⟩, e⟩ := q
  obtain ⟨hv1, rfl, hk1⟩ := hp1
  dsimp only at hk1
  obtain ⟨a1, c1, _, _, _, _, _, rfl, _⟩ := hk1.open
  repeat' (first | (first | refine wc_seq ?_ | refine wc_region ?_ | refine wl_nil ?_ | refine wn_seq ?_ | refine wn_blk ?_ | refine wc_skip ?_ | refine wc_block ?_ | refine wc_exit rfl ?_ | (show WL _ _ (_ :: _) _ _ _ _; first | refine wl_v rfl rfl rfl (by first | (show OpV _ _ _ _ (Oper.mk _ (Op.move _) _ _ _ _) _ _; exact xo_move rfl) | (show OpV _ _ _ _ (Oper.mk _ (Op.assign _) _ _ _ _) _ _; exact xo_assign rfl) | (show OpV _ _ _ _ (Oper.mk _ (Op.pick _ _ _) _ _ _ _) _ _; first | exact xo_and rfl rfl | exact xo_or rfl rfl) | (show OpV _ _ _ _ (Oper.mk _ (Op.extract _ _) _ _ _ _) _ _; exact xo_extract rfl) | (show OpV _ _ _ _ (Oper.mk _ (Op.call ⟨.builtin .len, _, _⟩) _ _ _ _) _ _; first | exact xo_slen rfl | exact xo_len rfl) | (show OpV _ _ _ _ (Oper.mk _ (Op.binOp BinOp.eql _ _ _ _) _ _ _ _) _ _; first | exact xo_eql rfl rfl | exact xo_seql rfl rfl | exact xo_beql rfl rfl | exact xo_aeql rfl rfl) | (show OpV _ _ _ _ (Oper.mk _ (Op.binOp BinOp.leq _ _ _ _) _ _ _ _) _ _; exact xo_leq rfl rfl) | (show OpV _ _ _ _ (Oper.mk _ (Op.binOp BinOp.gtr _ _ _ _) _ _ _ _) _ _; exact xo_gtr rfl rfl) | (show OpV _ _ _ _ (Oper.mk _ (Op.load _ _) _ _ _ _) _ _; first | exact xo_load1 rfl | exact xo_loadS rfl)) ?_ | refine wl_v rfl rfl rfl (by first  | fail) ?_ | refine xl_alloc (fun _ => ?_) | refine xl_store rfl rfl ?_) | refine wc_ret rfl ?_) | (show WC _ (Code.cond _ _ _) _ _ _ _; (refine wc_cond rfl (fun hc => ?_) (fun hc => ?_) <;> (try (simp only [decide_eq_true_eq, decide_eq_false_iff_not, Bool.and_eq_true, Bool.or_eq_true, Bool.and_eq_false_iff, Bool.or_eq_false_iff, Bool.not_eq_true', Bool.not_eq_false', Int.not_lt, Int.not_le] at hc)) <;> (try (exfalso; first | omega | contradiction)))))
  refine wl_callS rfl Tryd.call11 rfl rfl rfl rfl (fun w hw => rparse_ok hw.laid s hs) ?_
  rintro v2 H2 M2 hm2 hnew2 ⟨rfl, hp2⟩
  rw [hq] at hp2
  obtain ⟨hv2, rfl, hk2⟩ := hp2
  dsimp only at hk2
  obtain ⟨a2, c2, _, _, _, _, _, rfl, _⟩ := hk2.open
  have hk1' := hk1.mono hm2 (fun _ _ _ h => h)
  repeat' (first | (first | refine wc_seq ?_ | refine wc_region ?_ | refine wl_nil ?_ | refine wn_seq ?_ | refine wn_blk ?_ | refine wc_skip ?_ | refine wc_block ?_ | refine wc_exit rfl ?_ | (show WL _ _ (_ :: _) _ _ _ _; first | refine wl_v rfl rfl rfl (by first | (show OpV _ _ _ _ (Oper.mk _ (Op.move _) _ _ _ _) _ _; exact xo_move rfl) | (show OpV _ _ _ _ (Oper.mk _ (Op.assign _) _ _ _ _) _ _; exact xo_assign rfl) | (show OpV _ _ _ _ (Oper.mk _ (Op.pick _ _ _) _ _ _ _) _ _; first | exact xo_and rfl rfl | exact xo_or rfl rfl) | (show OpV _ _ _ _ (Oper.mk _ (Op.extract _ _) _ _ _ _) _ _; exact xo_extract rfl) | (show OpV _ _ _ _ (Oper.mk _ (Op.call ⟨.builtin .len, _, _⟩) _ _ _ _) _ _; first | exact xo_slen rfl | exact xo_len rfl) | (show OpV _ _ _ _ (Oper.mk _ (Op.binOp BinOp.eql _ _ _ _) _ _ _ _) _ _; first | exact xo_eql rfl rfl | exact xo_seql rfl rfl | exact xo_beql rfl rfl | exact xo_aeql rfl rfl) | (show OpV _ _ _ _ (Oper.mk _ (Op.binOp BinOp.leq _ _ _ _) _ _ _ _) _ _; exact xo_leq rfl rfl) | (show OpV _ _ _ _ (Oper.mk _ (Op.binOp BinOp.gtr _ _ _ _) _ _ _ _) _ _; exact xo_gtr rfl rfl) | (show OpV _ _ _ _ (Oper.mk _ (Op.load _ _) _ _ _ _) _ _; first | exact xo_load1 rfl | exact xo_loadS rfl)) ?_ | refine wl_v rfl rfl rfl (by first | ((show OpV _ _ _ _ (Oper.mk _ (Op.call ⟨.value (.func 12), _, _⟩) _ _ _ _) _ _; exact ov_call Tryd.call12 rfl (by intro himp; first | rfl | (simp_all; done)) (by rfl) (fun _ _ h k => h.ext k) (fun hcg w hw => same_self hw.laid hk1' hk2 _ _ _))) | fail) ?_ | refine xl_alloc (fun _ => ?_) | refine xl_store rfl rfl ?_) | refine wc_ret rfl ?_) | (show WC _ (Code.cond _ _ _) _ _ _ _; (refine wc_cond rfl (fun hc => ?_) (fun hc => ?_) <;> (try (simp only [decide_eq_true_eq, decide_eq_false_iff_not, Bool.and_eq_true, Bool.or_eq_true, Bool.and_eq_false_iff, Bool.or_eq_false_iff, Bool.not_eq_true', Bool.not_eq_false', Int.not_lt, Int.not_le] at hc)) <;> (try (exfalso; first | omega | contradiction)))))
  exact wr_tmp rfl rfl rfl
theorem reqCuts_ok (hG : Glob M) (hM : Laid M w) (s : List UInt8) (z : Int) (more : List UInt8) (hs : s.length ≤ 9223372036854775807) (hs2 : more.length ≤ 9223372036854775807) : Calls Tryd.prog 4 #[str s, i64 z, str more] w (RetE w (.bool true)) := by
  refine calls_st (l := [str s, i64 z, str more]) hM Tryd.func4 rfl rfl rfl (E0 := [(0, true, str s), (1, true, i64 z), (2, true, str more)]) (params_cons rfl (params_cons rfl (params_cons rfl (params_nil _)))) ?_
  repeat' (first | (first | refine wc_seq ?_ | refine wc_region ?_ | refine wl_nil ?_ | refine wn_seq ?_ | refine wn_blk ?_ | refine wc_skip ?_ | refine wc_block ?_ | refine wc_exit rfl ?_ | (show WL _ _ (_ :: _) _ _ _ _; first | refine wl_v rfl rfl rfl (by first | (show OpV _ _ _ _ (Oper.mk _ (Op.move _) _ _ _ _) _ _; exact xo_move rfl) | (show OpV _ _ _ _ (Oper.mk _ (Op.assign _) _ _ _ _) _ _; exact xo_assign rfl) | (show OpV _ _ _ _ (Oper.mk _ (Op.pick _ _ _) _ _ _ _) _ _; first | exact xo_and rfl rfl | exact xo_or rfl rfl) | (show OpV _ _ _ _ (Oper.mk _ (Op.extract _ _) _ _ _ _) _ _; exact xo_extract rfl) | (show OpV _ _ _ _ (Oper.mk _ (Op.call ⟨.builtin .len, _, _⟩) _ _ _ _) _ _; first | exact xo_slen rfl | exact xo_len rfl) | (show OpV _ _ _ _ (Oper.mk _ (Op.binOp BinOp.eql _ _ _ _) _ _ _ _) _ _; first | exact xo_eql rfl rfl | exact xo_seql rfl rfl | exact xo_beql rfl rfl | exact xo_aeql rfl rfl) | (show OpV _ _ _ _ (Oper.mk _ (Op.binOp BinOp.neq _ _ _ _) _ _ _ _) _ _; first | exact xo_neq rfl rfl | exact xo_sneq rfl rfl | exact xo_bneq rfl rfl | exact xo_aneq rfl rfl) | (show OpV _ _ _ _ (Oper.mk _ (Op.binOp BinOp.lss _ _ _ _) _ _ _ _) _ _; exact xo_lss rfl rfl) | (show OpV _ _ _ _ (Oper.mk _ (Op.binOp BinOp.gtr _ _ _ _) _ _ _ _) _ _; exact xo_gtr rfl rfl) | (show OpV _ _ _ _ (Oper.mk _ (Op.binOp BinOp.geq _ _ _ _) _ _ _ _) _ _; exact xo_geq rfl rfl) | (show OpV _ _ _ _ (Oper.mk _ (Op.binOp BinOp.add _ _ _ _) _ _ _ _) _ _; first | exact xo_add rfl rfl | exact ov_sadd rfl rfl (by first | with_reducible exact fun _ => rfl | with_reducible exact fun h => h | exact fun _ => rfl | exact fun h => h | (intro himp; simp_all; done)) (by first | with_reducible exact fun _ => rfl | with_reducible exact fun h => h | exact fun _ => rfl | exact fun h => h | (intro himp; simp_all; done)) (by intro hcg; first | omega | (simp only [List.length_append, List.length_take, List.length_drop, List.length_cons, List.length_nil, List.length_nil]; omega))) | (show OpV _ _ _ _ (Oper.mk _ (Op.slice _ _ (some _) (some _) none) _ _ _ _) _ _; first | exact xo_slice rfl rfl rfl | exact xo_slcB rfl rfl rfl) | (show OpV _ _ _ _ (Oper.mk _ (Op.slice _ _ (some _) none none) _ _ _ _) _ _; first | exact xo_from rfl rfl | exact xo_slcFrom rfl rfl) | (show OpV _ _ _ _ (Oper.mk _ (Op.slice _ _ none (some _) none) _ _ _ _) _ _; first | exact xo_to rfl rfl | exact xo_slcTo rfl rfl) | (show OpV _ _ _ _ (Oper.mk _ (Op.slice _ _ none (some _) (some _)) _ _ _ _) _ _; exact xo_slc3 rfl rfl rfl)) ?_ | refine wl_v rfl rfl rfl (by first | ((show OpV _ _ _ _ (Oper.mk _ (Op.call ⟨.value (.func 9), _, _⟩) _ _ _ _) _ _; exact ov_call Tryd.call9 rfl (by intro himp; first | rfl | (simp_all; done)) (by rfl) (fun _ _ h k => h.ext k) (fun hcg w hw => awake_ok hG hw.laid))) | fail) ?_ | refine xl_alloc (fun _ => ?_) | refine xl_store rfl rfl ?_) | refine wc_ret rfl ?_) | (show WC _ (Code.cond _ _ _) _ _ _ _; (refine wc_cond rfl (fun hc => ?_) (fun hc => ?_) <;> (try (simp only [decide_eq_true_eq, decide_eq_false_iff_not, Bool.and_eq_true, Bool.or_eq_true, Bool.and_eq_false_iff, Bool.or_eq_false_iff, Bool.not_eq_true', Bool.not_eq_false', Int.not_lt, Int.not_le] at hc)) <;> (try (exfalso; first | omega | contradiction)))))
  refine wl_callS rfl Tryd.call10 rfl rfl rfl rfl (fun w hw => qparse_ok hG hw.laid s hs) ?_
  rintro v1 H1 M1 hm1 hnew1 ⟨rfl, hp1⟩
  have hG1 := hG.mono hm1
  generalize hq : parseQ s = q at *
  obtain ⟨⟨m, t, l, b⟩, e⟩ := q
  obtain ⟨hv1, rfl, hk1⟩ := hp1
  dsimp only at hk1
  obtain ⟨a1, c1, _, _, _, _, _, rfl, _⟩ := hk1.open
  repeat' (first | (first | refine wc_seq ?_ | refine wc_region ?_ | refine wl_nil ?_ | refine wn_seq ?_ | refine wn_blk ?_ | refine wc_skip ?_ | refine wc_block ?_ | refine wc_exit rfl ?_ | (show WL _ _ (_ :: _) _ _ _ _; first | refine wl_v rfl rfl rfl (by first | (show OpV _ _ _ _ (Oper.mk _ (Op.move _) _ _ _ _) _ _; exact xo_move rfl) | (show OpV _ _ _ _ (Oper.mk _ (Op.assign _) _ _ _ _) _ _; exact xo_assign rfl) | (show OpV _ _ _ _ (Oper.mk _ (Op.pick _ _ _) _ _ _ _) _ _; first | exact xo_and rfl rfl | exact xo_or rfl rfl) | (show OpV _ _ _ _ (Oper.mk _ (Op.extract _ _) _ _ _ _) _ _; exact xo_extract rfl) | (show OpV _ _ _ _ (Oper.mk _ (Op.call ⟨.builtin .len, _, _⟩) _ _ _ _) _ _; first | exact xo_slen rfl | exact xo_len rfl) | (show OpV _ _ _ _ (Oper.mk _ (Op.binOp BinOp.eql _ _ _ _) _ _ _ _) _ _; first | exact xo_eql rfl rfl | exact xo_seql rfl rfl | exact xo_beql rfl rfl | exact xo_aeql rfl rfl) | (show OpV _ _ _ _ (Oper.mk _ (Op.binOp BinOp.neq _ _ _ _) _ _ _ _) _ _; first | exact xo_neq rfl rfl | exact xo_sneq rfl rfl | exact xo_bneq rfl rfl | exact xo_aneq rfl rfl) | (show OpV _ _ _ _ (Oper.mk _ (Op.binOp BinOp.lss _ _ _ _) _ _ _ _) _ _; exact xo_lss rfl rfl) | (show OpV _ _ _ _ (Oper.mk _ (Op.binOp BinOp.gtr _ _ _ _) _ _ _ _) _ _; exact xo_gtr rfl rfl) | (show OpV _ _ _ _ (Oper.mk _ (Op.binOp BinOp.geq _ _ _ _) _ _ _ _) _ _; exact xo_geq rfl rfl) | (show OpV _ _ _ _ (Oper.mk _ (Op.binOp BinOp.add _ _ _ _) _ _ _ _) _ _; first | exact xo_add rfl rfl | exact ov_sadd rfl rfl (by first | with_reducible exact fun _ => rfl | with_reducible exact fun h => h | exact fun _ => rfl | exact fun h => h | (intro himp; simp_all; done)) (by first | with_reducible exact fun _ => rfl | with_reducible exact fun h => h | exact fun _ => rfl | exact fun h => h | (intro himp; simp_all; done)) (by intro hcg; first | omega | (simp only [List.length_append, List.length_take, List.length_drop, List.length_cons, List.length_nil, List.length_nil]; omega))) | (show OpV _ _ _ _ (Oper.mk _ (Op.slice _ _ (some _) (some _) none) _ _ _ _) _ _; first | exact xo_slice rfl rfl rfl | exact xo_slcB rfl rfl rfl) | (show OpV _ _ _ _ (Oper.mk _ (Op.slice _ _ (some _) none none) _ _ _ _) _ _; first | exact xo_from rfl rfl | exact xo_slcFrom rfl rfl) | (show OpV _ _ _ _ (Oper.mk _ (Op.slice _ _ none (some _) none) _ _ _ _) _ _; first | exact xo_to rfl rfl | exact xo_slcTo rfl rfl) | (show OpV _ _ _ _ (Oper.mk _ (Op.slice _ _ none (some _) (some _)) _ _ _ _) _ _; exact xo_slc3 rfl rfl rfl)) ?_ | refine wl_v rfl rfl rfl (by first  | fail) ?_ | refine xl_alloc (fun _ => ?_) | refine xl_store rfl rfl ?_) | refine wc_ret rfl ?_) | (show WC _ (Code.cond _ _ _) _ _ _ _; (refine wc_cond rfl (fun hc => ?_) (fun hc => ?_) <;> (try (simp only [decide_eq_true_eq, decide_eq_false_iff_not, Bool.and_eq_true, Bool.or_eq_true, Bool.and_eq_false_iff, Bool.or_eq_false_iff, Bool.not_eq_true', Bool.not_eq_false', Int.not_lt, Int.not_le] at hc)) <;> (try (exfalso; first | omega | contradiction)))))
  · exact wr_tmp rfl rfl rfl
  · obtain rfl : e = 0 := by omega
    have htk := fun h => parse_take (k := z.toNat) hq h
    have hlt : (s.take z.toNat).length ≤ s.length := by rw [List.length_take]; omega
    have hz0 : z = ((z.toNat : Nat) : Int) := by omega
    generalize z.toNat = k at *
    subst hz0
    replace htk := htk (by omega)
    repeat' (first | (first | refine wc_seq ?_ | refine wc_region ?_ | refine wl_nil ?_ | refine wn_seq ?_ | refine wn_blk ?_ | refine wc_skip ?_ | refine wc_block ?_ | refine wc_exit rfl ?_ | (show WL _ _ (_ :: _) _ _ _ _; first | refine wl_v rfl rfl rfl (by first | (show OpV _ _ _ _ (Oper.mk _ (Op.move _) _ _ _ _) _ _; exact xo_move rfl) | (show OpV _ _ _ _ (Oper.mk _ (Op.assign _) _ _ _ _) _ _; exact xo_assign rfl) | (show OpV _ _ _ _ (Oper.mk _ (Op.pick _ _ _) _ _ _ _) _ _; first | exact xo_and rfl rfl | exact xo_or rfl rfl) | (show OpV _ _ _ _ (Oper.mk _ (Op.extract _ _) _ _ _ _) _ _; exact xo_extract rfl) | (show OpV _ _ _ _ (Oper.mk _ (Op.call ⟨.builtin .len, _, _⟩) _ _ _ _) _ _; first | exact xo_slen rfl | exact xo_len rfl) | (show OpV _ _ _ _ (Oper.mk _ (Op.binOp BinOp.eql _ _ _ _) _ _ _ _) _ _; first | exact xo_eql rfl rfl | exact xo_seql rfl rfl | exact xo_beql rfl rfl | exact xo_aeql rfl rfl) | (show OpV _ _ _ _ (Oper.mk _ (Op.binOp BinOp.neq _ _ _ _) _ _ _ _) _ _; first | exact xo_neq rfl rfl | exact xo_sneq rfl rfl | exact xo_bneq rfl rfl | exact xo_aneq rfl rfl) | (show OpV _ _ _ _ (Oper.mk _ (Op.binOp BinOp.lss _ _ _ _) _ _ _ _) _ _; exact xo_lss rfl rfl) | (show OpV _ _ _ _ (Oper.mk _ (Op.binOp BinOp.gtr _ _ _ _) _ _ _ _) _ _; exact xo_gtr rfl rfl) | (show OpV _ _ _ _ (Oper.mk _ (Op.binOp BinOp.geq _ _ _ _) _ _ _ _) _ _; exact xo_geq rfl rfl) | (show OpV _ _ _ _ (Oper.mk _ (Op.binOp BinOp.add _ _ _ _) _ _ _ _) _ _; first | exact xo_add rfl rfl | exact ov_sadd rfl rfl (by first | with_reducible exact fun _ => rfl | with_reducible exact fun h => h | exact fun _ => rfl | exact fun h => h | (intro himp; simp_all; done)) (by first | with_reducible exact fun _ => rfl | with_reducible exact fun h => h | exact fun _ => rfl | exact fun h => h | (intro himp; simp_all; done)) (by intro hcg; first | omega | (simp only [List.length_append, List.length_take, List.length_drop, List.length_cons, List.length_nil, List.length_nil]; omega))) | (show OpV _ _ _ _ (Oper.mk _ (Op.slice _ _ (some _) (some _) none) _ _ _ _) _ _; first | exact xo_slice rfl rfl rfl | exact xo_slcB rfl rfl rfl) | (show OpV _ _ _ _ (Oper.mk _ (Op.slice _ _ (some _) none none) _ _ _ _) _ _; first | exact xo_from rfl rfl | exact xo_slcFrom rfl rfl) | (show OpV _ _ _ _ (Oper.mk _ (Op.slice _ _ none (some _) none) _ _ _ _) _ _; first | exact xo_to rfl rfl | exact xo_slcTo rfl rfl) | (show OpV _ _ _ _ (Oper.mk _ (Op.slice _ _ none (some _) (some _)) _ _ _ _) _ _; exact xo_slc3 rfl rfl rfl)) ?_ | refine wl_v rfl rfl rfl (by first  | fail) ?_ | refine xl_alloc (fun _ => ?_) | refine xl_store rfl rfl ?_) | refine wc_ret rfl ?_) | (show WC _ (Code.cond _ _ _) _ _ _ _; (refine wc_cond rfl (fun hc => ?_) (fun hc => ?_) <;> (try (simp only [decide_eq_true_eq, decide_eq_false_iff_not, Bool.and_eq_true, Bool.or_eq_true, Bool.and_eq_false_iff, Bool.or_eq_false_iff, Bool.not_eq_true', Bool.not_eq_false', Int.not_lt, Int.not_le] at hc)) <;> (try (exfalso; first | omega | contradiction)))))
    refine wl_callS rfl Tryd.call10 rfl rfl rfl rfl (fun w hw => qparse_ok hG1 hw.laid (s.take k) (by omega)) ?_
    rintro v2 H2 M2 hm2 hnew2 ⟨rfl, hp2⟩
    have hG2 := hG1.mono hm2
    obtain ⟨hv2, rfl, hk2⟩ := hp2
    rw [htk]
    obtain ⟨a2, c2, _, _, _, _, _, rfl, _⟩ := hk2.open
    repeat' (first | (first | refine wc_seq ?_ | refine wc_region ?_ | refine wl_nil ?_ | refine wn_seq ?_ | refine wn_blk ?_ | refine wc_skip ?_ | refine wc_block ?_ | refine wc_exit rfl ?_ | (show WL _ _ (_ :: _) _ _ _ _; first | refine wl_v rfl rfl rfl (by first | (show OpV _ _ _ _ (Oper.mk _ (Op.move _) _ _ _ _) _ _; exact xo_move rfl) | (show OpV _ _ _ _ (Oper.mk _ (Op.assign _) _ _ _ _) _ _; exact xo_assign rfl) | (show OpV _ _ _ _ (Oper.mk _ (Op.pick _ _ _) _ _ _ _) _ _; first | exact xo_and rfl rfl | exact xo_or rfl rfl) | (show OpV _ _ _ _ (Oper.mk _ (Op.extract _ _) _ _ _ _) _ _; exact xo_extract rfl) | (show OpV _ _ _ _ (Oper.mk _ (Op.call ⟨.builtin .len, _, _⟩) _ _ _ _) _ _; first | exact xo_slen rfl | exact xo_len rfl) | (show OpV _ _ _ _ (Oper.mk _ (Op.binOp BinOp.eql _ _ _ _) _ _ _ _) _ _; first | exact xo_eql rfl rfl | exact xo_seql rfl rfl | exact xo_beql rfl rfl | exact xo_aeql rfl rfl) | (show OpV _ _ _ _ (Oper.mk _ (Op.binOp BinOp.neq _ _ _ _) _ _ _ _) _ _; first | exact xo_neq rfl rfl | exact xo_sneq rfl rfl | exact xo_bneq rfl rfl | exact xo_aneq rfl rfl) | (show OpV _ _ _ _ (Oper.mk _ (Op.binOp BinOp.lss _ _ _ _) _ _ _ _) _ _; exact xo_lss rfl rfl) | (show OpV _ _ _ _ (Oper.mk _ (Op.binOp BinOp.gtr _ _ _ _) _ _ _ _) _ _; exact xo_gtr rfl rfl) | (show OpV _ _ _ _ (Oper.mk _ (Op.binOp BinOp.geq _ _ _ _) _ _ _ _) _ _; exact xo_geq rfl rfl) | (show OpV _ _ _ _ (Oper.mk _ (Op.binOp BinOp.add _ _ _ _) _ _ _ _) _ _; first | exact xo_add rfl rfl | exact ov_sadd rfl rfl (by first | with_reducible exact fun _ => rfl | with_reducible exact fun h => h | exact fun _ => rfl | exact fun h => h | (intro himp; simp_all; done)) (by first | with_reducible exact fun _ => rfl | with_reducible exact fun h => h | exact fun _ => rfl | exact fun h => h | (intro himp; simp_all; done)) (by intro hcg; first | omega | (simp only [List.length_append, List.length_take, List.length_drop, List.length_cons, List.length_nil, List.length_nil]; omega))) | (show OpV _ _ _ _ (Oper.mk _ (Op.slice _ _ (some _) (some _) none) _ _ _ _) _ _; first | exact xo_slice rfl rfl rfl | exact xo_slcB rfl rfl rfl) | (show OpV _ _ _ _ (Oper.mk _ (Op.slice _ _ (some _) none none) _ _ _ _) _ _; first | exact xo_from rfl rfl | exact xo_slcFrom rfl rfl) | (show OpV _ _ _ _ (Oper.mk _ (Op.slice _ _ none (some _) none) _ _ _ _) _ _; first | exact xo_to rfl rfl | exact xo_slcTo rfl rfl) | (show OpV _ _ _ _ (Oper.mk _ (Op.slice _ _ none (some _) (some _)) _ _ _ _) _ _; exact xo_slc3 rfl rfl rfl)) ?_ | refine wl_v rfl rfl rfl (by first  | fail) ?_ | refine xl_alloc (fun _ => ?_) | refine xl_store rfl rfl ?_) | refine wc_ret rfl ?_) | (show WC _ (Code.cond _ _ _) _ _ _ _; (refine wc_cond rfl (fun hc => ?_) (fun hc => ?_) <;> (try (simp only [decide_eq_true_eq, decide_eq_false_iff_not, Bool.and_eq_true, Bool.or_eq_true, Bool.and_eq_false_iff, Bool.or_eq_false_iff, Bool.not_eq_true', Bool.not_eq_false', Int.not_lt, Int.not_le] at hc)) <;> (try (exfalso; first | omega | contradiction)))))
    · exact wr_tmp rfl rfl rfl
    have hpm := fun h => parse_more (more := more) hq h (by rw [List.length_append]; omega)
    refine wl_callS rfl Tryd.call10 rfl rfl rfl rfl (fun w hw => qparse_ok hG2 hw.laid (s ++ more) (by rw [List.length_append]; omega)) ?_
    rintro v3 H3 M3 hm3 hnew3 ⟨rfl, hp3⟩
    rw [hpm (by assumption)] at hp3
    obtain ⟨hv3, rfl, hk3⟩ := hp3
    obtain ⟨a3, c3, _, _, _, _, _, rfl, _⟩ := hk3.open
    repeat' (first | (first | refine wc_seq ?_ | refine wc_region ?_ | refine wl_nil ?_ | refine wn_seq ?_ | refine wn_blk ?_ | refine wc_skip ?_ | refine wc_block ?_ | refine wc_exit rfl ?_ | (show WL _ _ (_ :: _) _ _ _ _; first | refine wl_v rfl rfl rfl (by first | (show OpV _ _ _ _ (Oper.mk _ (Op.move _) _ _ _ _) _ _; exact xo_move rfl) | (show OpV _ _ _ _ (Oper.mk _ (Op.assign _) _ _ _ _) _ _; exact xo_assign rfl) | (show OpV _ _ _ _ (Oper.mk _ (Op.pick _ _ _) _ _ _ _) _ _; first | exact xo_and rfl rfl | exact xo_or rfl rfl) | (show OpV _ _ _ _ (Oper.mk _ (Op.extract _ _) _ _ _ _) _ _; exact xo_extract rfl) | (show OpV _ _ _ _ (Oper.mk _ (Op.call ⟨.builtin .len, _, _⟩) _ _ _ _) _ _; first | exact xo_slen rfl | exact xo_len rfl) | (show OpV _ _ _ _ (Oper.mk _ (Op.binOp BinOp.eql _ _ _ _) _ _ _ _) _ _; first | exact xo_eql rfl rfl | exact xo_seql rfl rfl | exact xo_beql rfl rfl | exact xo_aeql rfl rfl) | (show OpV _ _ _ _ (Oper.mk _ (Op.binOp BinOp.neq _ _ _ _) _ _ _ _) _ _; first | exact xo_neq rfl rfl | exact xo_sneq rfl rfl | exact xo_bneq rfl rfl | exact xo_aneq rfl rfl) | (show OpV _ _ _ _ (Oper.mk _ (Op.binOp BinOp.lss _ _ _ _) _ _ _ _) _ _; exact xo_lss rfl rfl) | (show OpV _ _ _ _ (Oper.mk _ (Op.binOp BinOp.gtr _ _ _ _) _ _ _ _) _ _; exact xo_gtr rfl rfl) | (show OpV _ _ _ _ (Oper.mk _ (Op.binOp BinOp.geq _ _ _ _) _ _ _ _) _ _; exact xo_geq rfl rfl) | (show OpV _ _ _ _ (Oper.mk _ (Op.binOp BinOp.add _ _ _ _) _ _ _ _) _ _; first | exact xo_add rfl rfl | exact ov_sadd rfl rfl (by first | with_reducible exact fun _ => rfl | with_reducible exact fun h => h | exact fun _ => rfl | exact fun h => h | (intro himp; simp_all; done)) (by first | with_reducible exact fun _ => rfl | with_reducible exact fun h => h | exact fun _ => rfl | exact fun h => h | (intro himp; simp_all; done)) (by intro hcg; first | omega | (simp only [List.length_append, List.length_take, List.length_drop, List.length_cons, List.length_nil, List.length_nil]; omega))) | (show OpV _ _ _ _ (Oper.mk _ (Op.slice _ _ (some _) (some _) none) _ _ _ _) _ _; first | exact xo_slice rfl rfl rfl | exact xo_slcB rfl rfl rfl) | (show OpV _ _ _ _ (Oper.mk _ (Op.slice _ _ (some _) none none) _ _ _ _) _ _; first | exact xo_from rfl rfl | exact xo_slcFrom rfl rfl) | (show OpV _ _ _ _ (Oper.mk _ (Op.slice _ _ none (some _) none) _ _ _ _) _ _; first | exact xo_to rfl rfl | exact xo_slcTo rfl rfl) | (show OpV _ _ _ _ (Oper.mk _ (Op.slice _ _ none (some _) (some _)) _ _ _ _) _ _; exact xo_slc3 rfl rfl rfl)) ?_ | refine wl_v rfl rfl rfl (by first  | fail) ?_ | refine xl_alloc (fun _ => ?_) | refine xl_store rfl rfl ?_) | refine wc_ret rfl ?_) | (show WC _ (Code.cond _ _ _) _ _ _ _; (refine wc_cond rfl (fun hc => ?_) (fun hc => ?_) <;> (try (simp only [decide_eq_true_eq, decide_eq_false_iff_not, Bool.and_eq_true, Bool.or_eq_true, Bool.and_eq_false_iff, Bool.or_eq_false_iff, Bool.not_eq_true', Bool.not_eq_false', Int.not_lt, Int.not_le] at hc)) <;> (try (exfalso; first | omega | contradiction)))))
    exact wr_tmp rfl rfl rfl
  · exact wr_tmp rfl rfl rfl
  · obtain rfl : e = 0 := by omega
    have hpm := fun h => parse_more (more := more) hq h (by rw [List.length_append]; omega)
    refine wl_callS rfl Tryd.call10 rfl rfl rfl rfl (fun w hw => qparse_ok hG1 hw.laid (s ++ more) (by rw [List.length_append]; omega)) ?_
    rintro v3 H3 M3 hm3 hnew3 ⟨rfl, hp3⟩
    rw [hpm (by assumption)] at hp3
    obtain ⟨hv3, rfl, hk3⟩ := hp3
    obtain ⟨a3, c3, _, _, _, _, _, rfl, _⟩ := hk3.open
    repeat' (first | (first | refine wc_seq ?_ | refine wc_region ?_ | refine wl_nil ?_ | refine wn_seq ?_ | refine wn_blk ?_ | refine wc_skip ?_ | refine wc_block ?_ | refine wc_exit rfl ?_ | (show WL _ _ (_ :: _) _ _ _ _; first | refine wl_v rfl rfl rfl (by first | (show OpV _ _ _ _ (Oper.mk _ (Op.move _) _ _ _ _) _ _; exact xo_move rfl) | (show OpV _ _ _ _ (Oper.mk _ (Op.assign _) _ _ _ _) _ _; exact xo_assign rfl) | (show OpV _ _ _ _ (Oper.mk _ (Op.pick _ _ _) _ _ _ _) _ _; first | exact xo_and rfl rfl | exact xo_or rfl rfl) | (show OpV _ _ _ _ (Oper.mk _ (Op.extract _ _) _ _ _ _) _ _; exact xo_extract rfl) | (show OpV _ _ _ _ (Oper.mk _ (Op.call ⟨.builtin .len, _, _⟩) _ _ _ _) _ _; first | exact xo_slen rfl | exact xo_len rfl) | (show OpV _ _ _ _ (Oper.mk _ (Op.binOp BinOp.eql _ _ _ _) _ _ _ _) _ _; first | exact xo_eql rfl rfl | exact xo_seql rfl rfl | exact xo_beql rfl rfl | exact xo_aeql rfl rfl) | (show OpV _ _ _ _ (Oper.mk _ (Op.binOp BinOp.neq _ _ _ _) _ _ _ _) _ _; first | exact xo_neq rfl rfl | exact xo_sneq rfl rfl | exact xo_bneq rfl rfl | exact xo_aneq rfl rfl) | (show OpV _ _ _ _ (Oper.mk _ (Op.binOp BinOp.lss _ _ _ _) _ _ _ _) _ _; exact xo_lss rfl rfl) | (show OpV _ _ _ _ (Oper.mk _ (Op.binOp BinOp.gtr _ _ _ _) _ _ _ _) _ _; exact xo_gtr rfl rfl) | (show OpV _ _ _ _ (Oper.mk _ (Op.binOp BinOp.geq _ _ _ _) _ _ _ _) _ _; exact xo_geq rfl rfl) | (show OpV _ _ _ _ (Oper.mk _ (Op.binOp BinOp.add _ _ _ _) _ _ _ _) _ _; first | exact xo_add rfl rfl | exact ov_sadd rfl rfl (by first | with_reducible exact fun _ => rfl | with_reducible exact fun h => h | exact fun _ => rfl | exact fun h => h | (intro himp; simp_all; done)) (by first | with_reducible exact fun _ => rfl | with_reducible exact fun h => h | exact fun _ => rfl | exact fun h => h | (intro himp; simp_all; done)) (by intro hcg; first | omega | (simp only [List.length_append, List.length_take, List.length_drop, List.length_cons, List.length_nil, List.length_nil]; omega))) | (show OpV _ _ _ _ (Oper.mk _ (Op.slice _ _ (some _) (some _) none) _ _ _ _) _ _; first | exact xo_slice rfl rfl rfl | exact xo_slcB rfl rfl rfl) | (show OpV _ _ _ _ (Oper.mk _ (Op.slice _ _ (some _) none none) _ _ _ _) _ _; first | exact xo_from rfl rfl | exact xo_slcFrom rfl rfl) | (show OpV _ _ _ _ (Oper.mk _ (Op.slice _ _ none (some _) none) _ _ _ _) _ _; first | exact xo_to rfl rfl | exact xo_slcTo rfl rfl) | (show OpV _ _ _ _ (Oper.mk _ (Op.slice _ _ none (some _) (some _)) _ _ _ _) _ _; exact xo_slc3 rfl rfl rfl)) ?_ | refine wl_v rfl rfl rfl (by first  | fail) ?_ | refine xl_alloc (fun _ => ?_) | refine xl_store rfl rfl ?_) | refine wc_ret rfl ?_) | (show WC _ (Code.cond _ _ _) _ _ _ _; (refine wc_cond rfl (fun hc => ?_) (fun hc => ?_) <;> (try (simp only [decide_eq_true_eq, decide_eq_false_iff_not, Bool.and_eq_true, Bool.or_eq_true, Bool.and_eq_false_iff, Bool.or_eq_false_iff, Bool.not_eq_true', Bool.not_eq_false', Int.not_lt, Int.not_le] at hc)) <;> (try (exfalso; first | omega | contradiction)))))
    exact wr_tmp rfl rfl rfl
end Go.Proofs.YtjdmnanicaghkaaDoor
