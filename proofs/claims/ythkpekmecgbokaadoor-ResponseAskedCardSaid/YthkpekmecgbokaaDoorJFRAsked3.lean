/-
  Texts of a proof, joined: RspC, RspD, RspE, TxtM, RspR, ReqA, Trm, Str, ReqB, EngJ, ReqC, ReqD.
-/
import Derived.Lib.AtoiAll
import Derived.Lib.SlTrimSet
import Derived.Lib.AtoiErrMem
import Derived.Shelf.Strings.SlTrimAscii
import Derived.Test.YthkpekmecgbokaaDoorJFRAsked1
import Derived.Test.YthkpekmecgbokaaDoorJFRAsked2
/-
  The contracts of Get on both sides, Page and Found.
-/
namespace Go.Proofs.YthkpekmecgbokaaDoor
open Go.Eng Go.Pct Go.Txt Go.Rsp
set_option maxRecDepth 10000
set_option linter.unusedSimpArgs false
set_option linter.unusedVariables false

variable {M : Ghost} {w : World}

structure GS (name : List UInt8) (l : List Pr) where
  i : Nat
  v : Value
  Hs : List (Nat × Obj)
  hi : i ≤ l.length
  own : OwnS 9 1 v Hs (cellsS (getR name (l.take i)))
def GS.start (name : List UInt8) (l : List Pr) : GS name l := ⟨0, .slice none 0 0, [], Nat.zero_le _, OwnS.nil⟩
theorem gs_yes {name : List UInt8} {l : List Pr} {i : Nat} (hi : i < l.length) (h : alikeB (l.getD i default).1 name = true) : cellsS (getR name (l.take (i + 1))) = cellsS (getR name (l.take i)) ++ [str (l.getD i default).2] := by
  have e : l.getD i default = l[i] := by simp [hi]
  rw [List.take_succ_eq_append_getElem hi, get_snoc, ← e, if_pos h, cellsS_snoc]
theorem gs_no {name : List UInt8} {l : List Pr} {i : Nat} (hi : i < l.length) (h : alikeB (l.getD i default).1 name = false) : getR name (l.take (i + 1)) = getR name (l.take i) := by
  have e : l.getD i default = l[i] := by simp [hi]
  rw [List.take_succ_eq_append_getElem hi, get_snoc, ← e, h]; simp

theorem rgetR_ok (hM : Laid M w) {hv : Value} {l : List Pr} (hh : SlP M hv l) (st : Int) (bd name : List UInt8) (hn : l.length ≤ 1000) (hb : Small 140737488355328 l) : Calls Tryd.prog 20 #[.agg #[i64 st, hv, str bd], str name] w (RetS M w (fun M' H v => H = [] ∧ SlS M' v (getR name l))) := by
  obtain ⟨a, cap, b, o, cs, T, fz, rfl, h1, h2, h3, h4⟩ := hh.open
  refine calls_st (l := [.agg #[i64 st, .slice a l.length cap, str bd], str name]) hM Tryd.func20 rfl rfl rfl (E0 := [(0, true, .agg #[i64 st, .slice a l.length cap, str bd]), (1, true, str name)]) (params_cons rfl (params_cons rfl (params_nil _))) ?_
  repeat' (first | (first | refine wc_seq ?_ | refine wc_region ?_ | refine wl_nil ?_ | refine wn_seq ?_ | refine wn_blk ?_ | refine wc_skip ?_ | refine wc_block ?_ | refine wc_exit rfl ?_ | (show WL _ _ (_ :: _) _ _ _ _; first | refine wl_v rfl rfl rfl (by first | (show OpV _ _ _ _ (Oper.mk _ (Op.move _) _ _ _ _) _ _; exact xo_move rfl) | (show OpV _ _ _ _ (Oper.mk _ (Op.assign _) _ _ _ _) _ _; exact xo_assign rfl) | (show OpV _ _ _ _ (Oper.mk _ (Op.call ⟨.builtin .len, _, _⟩) _ _ _ _) _ _; first | exact xo_slen rfl | exact xo_len rfl) | (show OpV _ _ _ _ (Oper.mk _ (Op.binOp BinOp.lss _ _ _ _) _ _ _ _) _ _; exact xo_lss rfl rfl) | (show OpV _ _ _ _ (Oper.mk _ (Op.binOp BinOp.add _ _ _ _) _ _ _ _) _ _; first | exact xo_add rfl rfl | exact ov_sadd rfl rfl (by first | with_reducible exact fun _ => rfl | with_reducible exact fun h => h | exact fun _ => rfl | exact fun h => h | (intro himp; simp_all; done)) (by first | with_reducible exact fun _ => rfl | with_reducible exact fun h => h | exact fun _ => rfl | exact fun h => h | (intro himp; simp_all; done)) (by intro hcg; first | omega | (simp only [List.length_append, List.length_take, List.length_drop, List.length_cons, List.length_nil, List.length_nil]; omega))) | (show OpV _ _ _ _ (Oper.mk _ (Op.fieldAddr _ _ _) _ _ _ _) _ _; exact xo_fieldAddr rfl) | (show OpV _ _ _ _ (Oper.mk _ (Op.load _ _) _ _ _ _) _ _; first | exact xo_load1 rfl | exact xo_loadS rfl)) ?_ | refine wl_v rfl rfl rfl (by first  | fail) ?_ | refine xl_box rfl (fun _ => ?_) | refine xl_buildSlice rfl (fun _ => ?_)) | refine wc_ret rfl ?_) | (show WC _ (Code.cond _ _ _) _ _ _ _; (refine wc_cond rfl (fun hc => ?_) (fun hc => ?_) <;> (try (simp only [decide_eq_true_eq, decide_eq_false_iff_not, Bool.and_eq_true, Bool.or_eq_true, Bool.and_eq_false_iff, Bool.or_eq_false_iff, Bool.not_eq_true', Bool.not_eq_false', Int.not_lt, Int.not_le] at hc)) <;> (try (exfalso; first | omega | contradiction)))))
  rename_i b1
  refine wc_loop (α := GS name l) (fun x => [(1, true, str name), (2, true, .pointer (some ⟨b1, 0, none⟩)), (5, true, x.v), (6, true, i64 (x.i : Int))]) (fun x => St w [] (x.Hs ++ [(b1, .cells [i64 st, .slice a l.length cap, str bd].toArray 24 (0, 0))]) M) (fun x => l.length - x.i) (GS.start name l) (by first | exact Sub.nil _ | (repeat (first | exact Sub.nil _ | refine Sub.cons (by first | rfl | (simp [look]; done)) ?_))) (fun _ h => h) ?_
  rintro ⟨i, v, Hs, hi, own⟩
  dsimp only
  rcases Nat.lt_or_ge i l.length with hlt | hge
  · have hbi : (l.getD i default).1.length ≤ 140737488355328 ∧ (l.getD i default).2.length ≤ 140737488355328 := by
      have : l.getD i default = l[i] := by simp [hlt]
      rw [this]; exact hb _ (List.getElem_mem _)
    have hlen : (cellsS (getR name (l.take i))).length = (getR name (l.take i)).length * 1 := cellsS_length _
    have hgl := get_length name (l.take i)
    have hlt2 : (l.take i).length ≤ i := List.length_take_le _ _
    repeat' (first | (first | refine wc_seq ?_ | refine wc_region ?_ | refine wl_nil ?_ | refine wn_seq ?_ | refine wn_blk ?_ | refine wc_skip ?_ | refine wc_block ?_ | refine wc_exit rfl ?_ | (show WL _ _ (_ :: _) _ _ _ _; first | refine wl_v rfl rfl rfl (by first | (show OpV _ _ _ _ (Oper.mk _ (Op.move _) _ _ _ _) _ _; exact xo_move rfl) | (show OpV _ _ _ _ (Oper.mk _ (Op.assign _) _ _ _ _) _ _; exact xo_assign rfl) | (show OpV _ _ _ _ (Oper.mk _ (Op.call ⟨.builtin .len, _, _⟩) _ _ _ _) _ _; first | exact xo_slen rfl | exact xo_len rfl) | (show OpV _ _ _ _ (Oper.mk _ (Op.binOp BinOp.lss _ _ _ _) _ _ _ _) _ _; exact xo_lss rfl rfl) | (show OpV _ _ _ _ (Oper.mk _ (Op.binOp BinOp.add _ _ _ _) _ _ _ _) _ _; first | exact xo_add rfl rfl | exact ov_sadd rfl rfl (by first | with_reducible exact fun _ => rfl | with_reducible exact fun h => h | exact fun _ => rfl | exact fun h => h | (intro himp; simp_all; done)) (by first | with_reducible exact fun _ => rfl | with_reducible exact fun h => h | exact fun _ => rfl | exact fun h => h | (intro himp; simp_all; done)) (by intro hcg; first | omega | (simp only [List.length_append, List.length_take, List.length_drop, List.length_cons, List.length_nil, List.length_nil]; omega))) | (show OpV _ _ _ _ (Oper.mk _ (Op.fieldAddr _ _ _) _ _ _ _) _ _; exact xo_fieldAddr rfl) | (show OpV _ _ _ _ (Oper.mk _ (Op.load _ _) _ _ _ _) _ _; first | exact xo_load1 rfl | exact xo_loadS rfl)) ?_ | refine wl_v rfl rfl rfl (by first | (show OpV _ _ _ _ (Oper.mk _ (Op.indexAddr _ _ _) _ _ _ _) _ _; exact ov_indexAddr rfl rfl (by (fail_if_success (with_reducible show (987654321 : Int) = _)); repeat' (first | with_reducible exact nc_cast | with_reducible exact nc_lit | apply nc_add | apply nc_div | apply nc_mod | apply nc_mul | refine nc_sub (m := _) (n := _) nc_cast nc_lit (by omega) | refine nc_sub (m := _) (n := _) nc_cast nc_cast (by omega))) (by first | with_reducible exact fun _ => rfl | with_reducible exact fun h => h | exact fun _ => rfl | exact fun h => h | (intro himp; simp_all; done)) (by first | with_reducible exact fun _ => rfl | with_reducible exact fun h => h | exact fun _ => rfl | exact fun h => h | (intro himp; simp_all; done)) rfl (by first | exact (rfl : _ = some 1) | exact (rfl : _ = some 2) | exact (rfl : _ = some 3) | exact (rfl : _ = some 4) | exact (rfl : _ = some 6) | exact rfl) (fun hcg => (h3 (by intro h; subst h; simp only [List.length_nil] at *; omega)).1) (by intro hcg; first | omega | (simp at hcg; omega))) | (show OpV _ _ _ _ (Oper.mk _ (Op.load _ _) _ _ _ _) _ _; exact ov_load1 rfl (by first | with_reducible exact fun _ => rfl | with_reducible exact fun h => h | exact fun _ => rfl | exact fun h => h | (intro himp; simp_all; done)) rfl rfl (List.mem_append_right _ (List.Mem.head _)) (by first | exact lk0 | exact lk1 | exact lk2 | exact lk3 | exact lk4 | exact lk5 | exact lk6 | exact lk7 | exact lk8 | exact lk9 | exact lk10 | exact lk11 | rfl)) | (show OpV _ _ _ _ (Oper.mk _ (Op.load _ _) _ _ _ _) _ _; first | exact ov_load1M rfl (by first | with_reducible exact fun _ => rfl | with_reducible exact fun h => h | exact fun _ => rfl | exact fun h => h | (intro himp; simp_all; done)) rfl rfl (fun hcg => (h3 (by intro h; subst h; simp only [List.length_nil] at *; omega)).2) (fun hcg => (h4 i (by first | omega | (simp at hcg; omega))).1) | exact ov_load1M rfl (by first | with_reducible exact fun _ => rfl | with_reducible exact fun h => h | exact fun _ => rfl | exact fun h => h | (intro himp; simp_all; done)) rfl rfl (fun hcg => (h3 (by intro h; subst h; simp only [List.length_nil] at *; omega)).2) (fun hcg => (h4 i (by first | omega | (simp at hcg; omega))).2)) | ((show OpV _ _ _ _ (Oper.mk _ (Op.call ⟨.value (.func 37), _, _⟩) _ _ _ _) _ _; exact ov_call Tryd.call37 rfl (by intro himp; first | rfl | (simp_all; done)) (by rfl) (fun _ _ h k => h.ext k) (fun hcg w hw => ralike_ok hw.laid _ _ (by omega)))) | fail) ?_ | refine xl_box rfl (fun _ => ?_) | refine xl_buildSlice rfl (fun _ => ?_)) | refine wc_ret rfl ?_) | (show WC _ (Code.cond _ _ _) _ _ _ _; (refine wc_cond rfl (fun hc => ?_) (fun hc => ?_) <;> (try (simp only [decide_eq_true_eq, decide_eq_false_iff_not, Bool.and_eq_true, Bool.or_eq_true, Bool.and_eq_false_iff, Bool.or_eq_false_iff, Bool.not_eq_true', Bool.not_eq_false', Int.not_lt, Int.not_le] at hc)) <;> (try (exfalso; first | omega | contradiction)))))
    · refine wl_append (H0 := [(b1, .cells [i64 st, .slice a l.length cap, str bd].toArray 24 (0, 0))]) rfl own rfl rfl rfl rfl rfl rfl rfl rfl rfl rfl (by first | exact List.Mem.head _ | exact List.Mem.tail _ (List.Mem.head _) | exact List.Mem.tail _ (List.Mem.tail _ (List.Mem.head _)) | exact List.Mem.tail _ (List.Mem.tail _ (List.Mem.tail _ (List.Mem.head _))) | exact List.Mem.tail _ (List.Mem.tail _ (List.Mem.tail _ (List.Mem.tail _ (List.Mem.head _)))) | exact List.mem_append_right _ (List.Mem.head _) | exact List.mem_append_right _ (List.Mem.tail _ (List.Mem.head _)) | exact List.mem_append_right _ (List.Mem.tail _ (List.Mem.tail _ (List.Mem.head _))) | exact List.mem_append_right _ (List.Mem.tail _ (List.Mem.tail _ (List.Mem.tail _ (List.Mem.head _)))) | exact List.Mem.tail _ (List.mem_append_right _ (List.Mem.head _)) | exact List.Mem.tail _ (List.mem_append_right _ (List.Mem.tail _ (List.Mem.head _))) | exact List.Mem.tail _ (List.mem_append_right _ (List.Mem.tail _ (List.Mem.tail _ (List.Mem.head _)))) | exact List.Mem.tail _ (List.mem_append_right _ (List.Mem.tail _ (List.Mem.tail _ (List.Mem.tail _ (List.Mem.head _))))) | exact List.Mem.tail _ (List.Mem.tail _ (List.mem_append_right _ (List.Mem.head _))) | exact List.Mem.tail _ (List.Mem.tail _ (List.mem_append_right _ (List.Mem.tail _ (List.Mem.head _)))) | exact List.Mem.tail _ (List.Mem.tail _ (List.mem_append_right _ (List.Mem.tail _ (List.Mem.tail _ (List.Mem.head _)))))) rfl rfl (by repeat (first | exact List.Sublist.refl _ | apply List.Sublist.cons)) (by rw [hlen]; omega) rfl ?_
      intro v' Hs' ho'
      rw [← gs_yes hlt hc] at ho'
      repeat' (first | (first | refine wc_seq ?_ | refine wc_region ?_ | refine wl_nil ?_ | refine wn_seq ?_ | refine wn_blk ?_ | refine wc_skip ?_ | refine wc_block ?_ | refine wc_exit rfl ?_ | (show WL _ _ (_ :: _) _ _ _ _; first | refine wl_v rfl rfl rfl (by first | (show OpV _ _ _ _ (Oper.mk _ (Op.move _) _ _ _ _) _ _; exact xo_move rfl) | (show OpV _ _ _ _ (Oper.mk _ (Op.assign _) _ _ _ _) _ _; exact xo_assign rfl) | (show OpV _ _ _ _ (Oper.mk _ (Op.call ⟨.builtin .len, _, _⟩) _ _ _ _) _ _; first | exact xo_slen rfl | exact xo_len rfl) | (show OpV _ _ _ _ (Oper.mk _ (Op.binOp BinOp.lss _ _ _ _) _ _ _ _) _ _; exact xo_lss rfl rfl) | (show OpV _ _ _ _ (Oper.mk _ (Op.binOp BinOp.add _ _ _ _) _ _ _ _) _ _; first | exact xo_add rfl rfl | exact ov_sadd rfl rfl (by first | with_reducible exact fun _ => rfl | with_reducible exact fun h => h | exact fun _ => rfl | exact fun h => h | (intro himp; simp_all; done)) (by first | with_reducible exact fun _ => rfl | with_reducible exact fun h => h | exact fun _ => rfl | exact fun h => h | (intro himp; simp_all; done)) (by intro hcg; first | omega | (simp only [List.length_append, List.length_take, List.length_drop, List.length_cons, List.length_nil, List.length_nil]; omega))) | (show OpV _ _ _ _ (Oper.mk _ (Op.fieldAddr _ _ _) _ _ _ _) _ _; exact xo_fieldAddr rfl) | (show OpV _ _ _ _ (Oper.mk _ (Op.load _ _) _ _ _ _) _ _; first | exact xo_load1 rfl | exact xo_loadS rfl)) ?_ | refine wl_v rfl rfl rfl (by first  | fail) ?_ | refine xl_box rfl (fun _ => ?_) | refine xl_buildSlice rfl (fun _ => ?_)) | refine wc_ret rfl ?_) | (show WC _ (Code.cond _ _ _) _ _ _ _; (refine wc_cond rfl (fun hc => ?_) (fun hc => ?_) <;> (try (simp only [decide_eq_true_eq, decide_eq_false_iff_not, Bool.and_eq_true, Bool.or_eq_true, Bool.and_eq_false_iff, Bool.or_eq_false_iff, Bool.not_eq_true', Bool.not_eq_false', Int.not_lt, Int.not_le] at hc)) <;> (try (exfalso; first | omega | contradiction)))))
      refine wn_cut ⟨i + 1, v', Hs', by omega, ho'⟩ (by show l.length - (i + 1) < l.length - i; omega) (by first | exact Sub.nil _ | (repeat (first | exact Sub.nil _ | refine Sub.cons (by first | rfl | (simp [look]; done)) ?_))) (fun _ h => h.drop (by repeat (first | exact List.Sublist.refl _ | apply List.Sublist.cons)))
    · refine wn_cut ⟨i + 1, v, Hs, by omega, by rw [gs_no hlt hc]; exact own⟩ (by show l.length - (i + 1) < l.length - i; omega) (by first | exact Sub.nil _ | (repeat (first | exact Sub.nil _ | refine Sub.cons (by first | rfl | (simp [look]; done)) ?_))) (fun _ h => h.drop (by repeat (first | exact List.Sublist.refl _ | apply List.Sublist.cons)))
  · repeat' (first | (first | refine wc_seq ?_ | refine wc_region ?_ | refine wl_nil ?_ | refine wn_seq ?_ | refine wn_blk ?_ | refine wc_skip ?_ | refine wc_block ?_ | refine wc_exit rfl ?_ | (show WL _ _ (_ :: _) _ _ _ _; first | refine wl_v rfl rfl rfl (by first | (show OpV _ _ _ _ (Oper.mk _ (Op.move _) _ _ _ _) _ _; exact xo_move rfl) | (show OpV _ _ _ _ (Oper.mk _ (Op.assign _) _ _ _ _) _ _; exact xo_assign rfl) | (show OpV _ _ _ _ (Oper.mk _ (Op.call ⟨.builtin .len, _, _⟩) _ _ _ _) _ _; first | exact xo_slen rfl | exact xo_len rfl) | (show OpV _ _ _ _ (Oper.mk _ (Op.binOp BinOp.lss _ _ _ _) _ _ _ _) _ _; exact xo_lss rfl rfl) | (show OpV _ _ _ _ (Oper.mk _ (Op.binOp BinOp.add _ _ _ _) _ _ _ _) _ _; first | exact xo_add rfl rfl | exact ov_sadd rfl rfl (by first | with_reducible exact fun _ => rfl | with_reducible exact fun h => h | exact fun _ => rfl | exact fun h => h | (intro himp; simp_all; done)) (by first | with_reducible exact fun _ => rfl | with_reducible exact fun h => h | exact fun _ => rfl | exact fun h => h | (intro himp; simp_all; done)) (by intro hcg; first | omega | (simp only [List.length_append, List.length_take, List.length_drop, List.length_cons, List.length_nil, List.length_nil]; omega))) | (show OpV _ _ _ _ (Oper.mk _ (Op.fieldAddr _ _ _) _ _ _ _) _ _; exact xo_fieldAddr rfl) | (show OpV _ _ _ _ (Oper.mk _ (Op.load _ _) _ _ _ _) _ _; first | exact xo_load1 rfl | exact xo_loadS rfl)) ?_ | refine wl_v rfl rfl rfl (by first | (show OpV _ _ _ _ (Oper.mk _ (Op.load _ _) _ _ _ _) _ _; exact ov_load1 rfl (by first | with_reducible exact fun _ => rfl | with_reducible exact fun h => h | exact fun _ => rfl | exact fun h => h | (intro himp; simp_all; done)) rfl rfl (List.mem_append_right _ (List.Mem.head _)) (by first | exact lk0 | exact lk1 | exact lk2 | exact lk3 | exact lk4 | exact lk5 | exact lk6 | exact lk7 | exact lk8 | exact lk9 | exact lk10 | exact lk11 | rfl)) | fail) ?_ | refine xl_box rfl (fun _ => ?_) | refine xl_buildSlice rfl (fun _ => ?_)) | refine wc_ret rfl ?_) | (show WC _ (Code.cond _ _ _) _ _ _ _; (refine wc_cond rfl (fun hc => ?_) (fun hc => ?_) <;> (try (simp only [decide_eq_true_eq, decide_eq_false_iff_not, Bool.and_eq_true, Bool.or_eq_true, Bool.and_eq_false_iff, Bool.or_eq_false_iff, Bool.not_eq_true', Bool.not_eq_false', Int.not_lt, Int.not_le] at hc)) <;> (try (exfalso; first | omega | contradiction)))))
    rw [List.take_of_length_le (by omega)] at own
    refine wr_lay (Hn := Hs) rfl rfl Since.refl (List.sublist_append_left _ _) ⟨rfl, own.slS (fun p hp => .inr hp) ?_⟩
    have := get_length name l
    omega

theorem getR_ok (hM : Laid M w) {hv : Value} {l : List Pr} (hh : SlP M hv l) (st : Int) (bd name : List UInt8) (hn : l.length ≤ 1000) (hb : Small 140737488355328 l) : Calls Tryd.prog 19 #[.agg #[i64 st, hv, str bd], str name] w (RetS M w (fun M' H v => H = [] ∧ SlS M' v (getR name l))) := by
  obtain ⟨a, cap, b, o, cs, T, fz, rfl, h1, h2, h3, h4⟩ := hh.open
  refine calls_st (l := [.agg #[i64 st, .slice a l.length cap, str bd], str name]) hM Tryd.func19 rfl rfl rfl (E0 := [(0, true, .agg #[i64 st, .slice a l.length cap, str bd]), (1, true, str name)]) (params_cons rfl (params_cons rfl (params_nil _))) ?_
  repeat' (first | (first | refine wc_seq ?_ | refine wc_region ?_ | refine wl_nil ?_ | refine wn_seq ?_ | refine wn_blk ?_ | refine wc_skip ?_ | refine wc_block ?_ | refine wc_exit rfl ?_ | (show WL _ _ (_ :: _) _ _ _ _; first | refine wl_v rfl rfl rfl (by first | (show OpV _ _ _ _ (Oper.mk _ (Op.move _) _ _ _ _) _ _; exact xo_move rfl) | (show OpV _ _ _ _ (Oper.mk _ (Op.assign _) _ _ _ _) _ _; exact xo_assign rfl) | (show OpV _ _ _ _ (Oper.mk _ (Op.call ⟨.builtin .len, _, _⟩) _ _ _ _) _ _; first | exact xo_slen rfl | exact xo_len rfl) | (show OpV _ _ _ _ (Oper.mk _ (Op.binOp BinOp.lss _ _ _ _) _ _ _ _) _ _; exact xo_lss rfl rfl) | (show OpV _ _ _ _ (Oper.mk _ (Op.binOp BinOp.add _ _ _ _) _ _ _ _) _ _; first | exact xo_add rfl rfl | exact ov_sadd rfl rfl (by first | with_reducible exact fun _ => rfl | with_reducible exact fun h => h | exact fun _ => rfl | exact fun h => h | (intro himp; simp_all; done)) (by first | with_reducible exact fun _ => rfl | with_reducible exact fun h => h | exact fun _ => rfl | exact fun h => h | (intro himp; simp_all; done)) (by intro hcg; first | omega | (simp only [List.length_append, List.length_take, List.length_drop, List.length_cons, List.length_nil, List.length_nil]; omega))) | (show OpV _ _ _ _ (Oper.mk _ (Op.fieldAddr _ _ _) _ _ _ _) _ _; exact xo_fieldAddr rfl) | (show OpV _ _ _ _ (Oper.mk _ (Op.load _ _) _ _ _ _) _ _; first | exact xo_load1 rfl | exact xo_loadS rfl)) ?_ | refine wl_v rfl rfl rfl (by first  | fail) ?_ | refine xl_alloc (fun _ => ?_) | refine xl_box rfl (fun _ => ?_) | refine xl_store rfl rfl ?_ | refine xl_buildSlice rfl (fun _ => ?_)) | refine wc_ret rfl ?_) | (show WC _ (Code.cond _ _ _) _ _ _ _; (refine wc_cond rfl (fun hc => ?_) (fun hc => ?_) <;> (try (simp only [decide_eq_true_eq, decide_eq_false_iff_not, Bool.and_eq_true, Bool.or_eq_true, Bool.and_eq_false_iff, Bool.or_eq_false_iff, Bool.not_eq_true', Bool.not_eq_false', Int.not_lt, Int.not_le] at hc)) <;> (try (exfalso; first | omega | contradiction)))))
  rename_i b1
  refine wc_loop (α := GS name l) (fun x => [(1, true, str name), (5, true, x.v), (9, true, .slice a l.length cap), (10, true, i64 (l.length : Int)), (11, true, i64 (x.i : Int))]) (fun x => St w [] (x.Hs ++ [(b1, .cells [i64 st, .slice a l.length cap, str bd].toArray 24 (0, 0))]) M) (fun x => l.length - x.i) (GS.start name l) (by first | exact Sub.nil _ | (repeat (first | exact Sub.nil _ | refine Sub.cons (by first | rfl | (simp [look]; done)) ?_))) (fun _ h => h) ?_
  rintro ⟨i, v, Hs, hi, own⟩
  dsimp only
  rcases Nat.lt_or_ge i l.length with hlt | hge
  · have hbi : (l.getD i default).1.length ≤ 140737488355328 ∧ (l.getD i default).2.length ≤ 140737488355328 := by
      have : l.getD i default = l[i] := by simp [hlt]
      rw [this]; exact hb _ (List.getElem_mem _)
    have hlen : (cellsS (getR name (l.take i))).length = (getR name (l.take i)).length * 1 := cellsS_length _
    have hgl := get_length name (l.take i)
    have hlt2 : (l.take i).length ≤ i := List.length_take_le _ _
    repeat' (first | (first | refine wc_seq ?_ | refine wc_region ?_ | refine wl_nil ?_ | refine wn_seq ?_ | refine wn_blk ?_ | refine wc_skip ?_ | refine wc_block ?_ | refine wc_exit rfl ?_ | (show WL _ _ (_ :: _) _ _ _ _; first | refine wl_v rfl rfl rfl (by first | (show OpV _ _ _ _ (Oper.mk _ (Op.move _) _ _ _ _) _ _; exact xo_move rfl) | (show OpV _ _ _ _ (Oper.mk _ (Op.assign _) _ _ _ _) _ _; exact xo_assign rfl) | (show OpV _ _ _ _ (Oper.mk _ (Op.call ⟨.builtin .len, _, _⟩) _ _ _ _) _ _; first | exact xo_slen rfl | exact xo_len rfl) | (show OpV _ _ _ _ (Oper.mk _ (Op.binOp BinOp.lss _ _ _ _) _ _ _ _) _ _; exact xo_lss rfl rfl) | (show OpV _ _ _ _ (Oper.mk _ (Op.binOp BinOp.add _ _ _ _) _ _ _ _) _ _; first | exact xo_add rfl rfl | exact ov_sadd rfl rfl (by first | with_reducible exact fun _ => rfl | with_reducible exact fun h => h | exact fun _ => rfl | exact fun h => h | (intro himp; simp_all; done)) (by first | with_reducible exact fun _ => rfl | with_reducible exact fun h => h | exact fun _ => rfl | exact fun h => h | (intro himp; simp_all; done)) (by intro hcg; first | omega | (simp only [List.length_append, List.length_take, List.length_drop, List.length_cons, List.length_nil, List.length_nil]; omega))) | (show OpV _ _ _ _ (Oper.mk _ (Op.fieldAddr _ _ _) _ _ _ _) _ _; exact xo_fieldAddr rfl) | (show OpV _ _ _ _ (Oper.mk _ (Op.load _ _) _ _ _ _) _ _; first | exact xo_load1 rfl | exact xo_loadS rfl)) ?_ | refine wl_v rfl rfl rfl (by first | (show OpV _ _ _ _ (Oper.mk _ (Op.indexAddr _ _ _) _ _ _ _) _ _; exact ov_indexAddr rfl rfl (by (fail_if_success (with_reducible show (987654321 : Int) = _)); repeat' (first | with_reducible exact nc_cast | with_reducible exact nc_lit | apply nc_add | apply nc_div | apply nc_mod | apply nc_mul | refine nc_sub (m := _) (n := _) nc_cast nc_lit (by omega) | refine nc_sub (m := _) (n := _) nc_cast nc_cast (by omega))) (by first | with_reducible exact fun _ => rfl | with_reducible exact fun h => h | exact fun _ => rfl | exact fun h => h | (intro himp; simp_all; done)) (by first | with_reducible exact fun _ => rfl | with_reducible exact fun h => h | exact fun _ => rfl | exact fun h => h | (intro himp; simp_all; done)) rfl (by first | exact (rfl : _ = some 1) | exact (rfl : _ = some 2) | exact (rfl : _ = some 3) | exact (rfl : _ = some 4) | exact (rfl : _ = some 6) | exact rfl) (fun hcg => (h3 (by intro h; subst h; simp only [List.length_nil] at *; omega)).1) (by intro hcg; first | omega | (simp at hcg; omega))) | (show OpV _ _ _ _ (Oper.mk _ (Op.load _ _) _ _ _ _) _ _; exact ov_loadSM rfl (by first | with_reducible exact fun _ => rfl | with_reducible exact fun h => h | exact fun _ => rfl | exact fun h => h | (intro himp; simp_all; done)) rfl (by first | exact (rfl : _ = some 1) | exact (rfl : _ = some 2) | exact (rfl : _ = some 3) | exact (rfl : _ = some 4) | exact (rfl : _ = some 6) | exact rfl) (fun hcg => (h3 (by intro h; subst h; simp only [List.length_nil] at *; omega)).2) (fun hcg => pcell (h4 i (by omega)))) | ((show OpV _ _ _ _ (Oper.mk _ (Op.call ⟨.value (.func 34), _, _⟩) _ _ _ _) _ _; exact ov_call Tryd.call34 rfl (by intro himp; first | rfl | (simp_all; done)) (by rfl) (fun _ _ h k => h.ext k) (fun hcg w hw => alike_ok hw.laid _ _ (by omega)))) | fail) ?_ | refine xl_alloc (fun _ => ?_) | refine xl_box rfl (fun _ => ?_) | refine xl_store rfl rfl ?_ | refine xl_buildSlice rfl (fun _ => ?_)) | refine wc_ret rfl ?_) | (show WC _ (Code.cond _ _ _) _ _ _ _; (refine wc_cond rfl (fun hc => ?_) (fun hc => ?_) <;> (try (simp only [decide_eq_true_eq, decide_eq_false_iff_not, Bool.and_eq_true, Bool.or_eq_true, Bool.and_eq_false_iff, Bool.or_eq_false_iff, Bool.not_eq_true', Bool.not_eq_false', Int.not_lt, Int.not_le] at hc)) <;> (try (exfalso; first | omega | contradiction)))))
    · refine wl_append (H0 := [(b1, .cells [i64 st, .slice a l.length cap, str bd].toArray 24 (0, 0))]) rfl own rfl rfl rfl rfl rfl rfl rfl rfl rfl rfl (by first | exact List.Mem.head _ | exact List.Mem.tail _ (List.Mem.head _) | exact List.Mem.tail _ (List.Mem.tail _ (List.Mem.head _)) | exact List.Mem.tail _ (List.Mem.tail _ (List.Mem.tail _ (List.Mem.head _))) | exact List.Mem.tail _ (List.Mem.tail _ (List.Mem.tail _ (List.Mem.tail _ (List.Mem.head _)))) | exact List.mem_append_right _ (List.Mem.head _) | exact List.mem_append_right _ (List.Mem.tail _ (List.Mem.head _)) | exact List.mem_append_right _ (List.Mem.tail _ (List.Mem.tail _ (List.Mem.head _))) | exact List.mem_append_right _ (List.Mem.tail _ (List.Mem.tail _ (List.Mem.tail _ (List.Mem.head _)))) | exact List.Mem.tail _ (List.mem_append_right _ (List.Mem.head _)) | exact List.Mem.tail _ (List.mem_append_right _ (List.Mem.tail _ (List.Mem.head _))) | exact List.Mem.tail _ (List.mem_append_right _ (List.Mem.tail _ (List.Mem.tail _ (List.Mem.head _)))) | exact List.Mem.tail _ (List.mem_append_right _ (List.Mem.tail _ (List.Mem.tail _ (List.Mem.tail _ (List.Mem.head _))))) | exact List.Mem.tail _ (List.Mem.tail _ (List.mem_append_right _ (List.Mem.head _))) | exact List.Mem.tail _ (List.Mem.tail _ (List.mem_append_right _ (List.Mem.tail _ (List.Mem.head _)))) | exact List.Mem.tail _ (List.Mem.tail _ (List.mem_append_right _ (List.Mem.tail _ (List.Mem.tail _ (List.Mem.head _)))))) rfl rfl (by repeat (first | exact List.Sublist.refl _ | apply List.Sublist.cons)) (by rw [hlen]; omega) rfl ?_
      intro v' Hs' ho'
      rw [← gs_yes hlt hc] at ho'
      repeat' (first | (first | refine wc_seq ?_ | refine wc_region ?_ | refine wl_nil ?_ | refine wn_seq ?_ | refine wn_blk ?_ | refine wc_skip ?_ | refine wc_block ?_ | refine wc_exit rfl ?_ | (show WL _ _ (_ :: _) _ _ _ _; first | refine wl_v rfl rfl rfl (by first | (show OpV _ _ _ _ (Oper.mk _ (Op.move _) _ _ _ _) _ _; exact xo_move rfl) | (show OpV _ _ _ _ (Oper.mk _ (Op.assign _) _ _ _ _) _ _; exact xo_assign rfl) | (show OpV _ _ _ _ (Oper.mk _ (Op.call ⟨.builtin .len, _, _⟩) _ _ _ _) _ _; first | exact xo_slen rfl | exact xo_len rfl) | (show OpV _ _ _ _ (Oper.mk _ (Op.binOp BinOp.lss _ _ _ _) _ _ _ _) _ _; exact xo_lss rfl rfl) | (show OpV _ _ _ _ (Oper.mk _ (Op.binOp BinOp.add _ _ _ _) _ _ _ _) _ _; first | exact xo_add rfl rfl | exact ov_sadd rfl rfl (by first | with_reducible exact fun _ => rfl | with_reducible exact fun h => h | exact fun _ => rfl | exact fun h => h | (intro himp; simp_all; done)) (by first | with_reducible exact fun _ => rfl | with_reducible exact fun h => h | exact fun _ => rfl | exact fun h => h | (intro himp; simp_all; done)) (by intro hcg; first | omega | (simp only [List.length_append, List.length_take, List.length_drop, List.length_cons, List.length_nil, List.length_nil]; omega))) | (show OpV _ _ _ _ (Oper.mk _ (Op.fieldAddr _ _ _) _ _ _ _) _ _; exact xo_fieldAddr rfl) | (show OpV _ _ _ _ (Oper.mk _ (Op.load _ _) _ _ _ _) _ _; first | exact xo_load1 rfl | exact xo_loadS rfl)) ?_ | refine wl_v rfl rfl rfl (by first  | fail) ?_ | refine xl_alloc (fun _ => ?_) | refine xl_box rfl (fun _ => ?_) | refine xl_store rfl rfl ?_ | refine xl_buildSlice rfl (fun _ => ?_)) | refine wc_ret rfl ?_) | (show WC _ (Code.cond _ _ _) _ _ _ _; (refine wc_cond rfl (fun hc => ?_) (fun hc => ?_) <;> (try (simp only [decide_eq_true_eq, decide_eq_false_iff_not, Bool.and_eq_true, Bool.or_eq_true, Bool.and_eq_false_iff, Bool.or_eq_false_iff, Bool.not_eq_true', Bool.not_eq_false', Int.not_lt, Int.not_le] at hc)) <;> (try (exfalso; first | omega | contradiction)))))
      refine wn_cut ⟨i + 1, v', Hs', by omega, ho'⟩ (by show l.length - (i + 1) < l.length - i; omega) (by first | exact Sub.nil _ | (repeat (first | exact Sub.nil _ | refine Sub.cons (by first | rfl | (simp [look]; done)) ?_))) (fun _ h => h.drop (by repeat (first | exact List.Sublist.refl _ | apply List.Sublist.cons)))
    · refine wn_cut ⟨i + 1, v, Hs, by omega, by rw [gs_no hlt hc]; exact own⟩ (by show l.length - (i + 1) < l.length - i; omega) (by first | exact Sub.nil _ | (repeat (first | exact Sub.nil _ | refine Sub.cons (by first | rfl | (simp [look]; done)) ?_))) (fun _ h => h.drop (by repeat (first | exact List.Sublist.refl _ | apply List.Sublist.cons)))
  · repeat' (first | (first | refine wc_seq ?_ | refine wc_region ?_ | refine wl_nil ?_ | refine wn_seq ?_ | refine wn_blk ?_ | refine wc_skip ?_ | refine wc_block ?_ | refine wc_exit rfl ?_ | (show WL _ _ (_ :: _) _ _ _ _; first | refine wl_v rfl rfl rfl (by first | (show OpV _ _ _ _ (Oper.mk _ (Op.move _) _ _ _ _) _ _; exact xo_move rfl) | (show OpV _ _ _ _ (Oper.mk _ (Op.assign _) _ _ _ _) _ _; exact xo_assign rfl) | (show OpV _ _ _ _ (Oper.mk _ (Op.call ⟨.builtin .len, _, _⟩) _ _ _ _) _ _; first | exact xo_slen rfl | exact xo_len rfl) | (show OpV _ _ _ _ (Oper.mk _ (Op.binOp BinOp.lss _ _ _ _) _ _ _ _) _ _; exact xo_lss rfl rfl) | (show OpV _ _ _ _ (Oper.mk _ (Op.binOp BinOp.add _ _ _ _) _ _ _ _) _ _; first | exact xo_add rfl rfl | exact ov_sadd rfl rfl (by first | with_reducible exact fun _ => rfl | with_reducible exact fun h => h | exact fun _ => rfl | exact fun h => h | (intro himp; simp_all; done)) (by first | with_reducible exact fun _ => rfl | with_reducible exact fun h => h | exact fun _ => rfl | exact fun h => h | (intro himp; simp_all; done)) (by intro hcg; first | omega | (simp only [List.length_append, List.length_take, List.length_drop, List.length_cons, List.length_nil, List.length_nil]; omega))) | (show OpV _ _ _ _ (Oper.mk _ (Op.fieldAddr _ _ _) _ _ _ _) _ _; exact xo_fieldAddr rfl) | (show OpV _ _ _ _ (Oper.mk _ (Op.load _ _) _ _ _ _) _ _; first | exact xo_load1 rfl | exact xo_loadS rfl)) ?_ | refine wl_v rfl rfl rfl (by first | (show OpV _ _ _ _ (Oper.mk _ (Op.load _ _) _ _ _ _) _ _; exact ov_load1 rfl (by first | with_reducible exact fun _ => rfl | with_reducible exact fun h => h | exact fun _ => rfl | exact fun h => h | (intro himp; simp_all; done)) rfl rfl (List.mem_append_right _ (List.Mem.head _)) (by first | exact lk0 | exact lk1 | exact lk2 | exact lk3 | exact lk4 | exact lk5 | exact lk6 | exact lk7 | exact lk8 | exact lk9 | exact lk10 | exact lk11 | rfl)) | fail) ?_ | refine xl_alloc (fun _ => ?_) | refine xl_box rfl (fun _ => ?_) | refine xl_store rfl rfl ?_ | refine xl_buildSlice rfl (fun _ => ?_)) | refine wc_ret rfl ?_) | (show WC _ (Code.cond _ _ _) _ _ _ _; (refine wc_cond rfl (fun hc => ?_) (fun hc => ?_) <;> (try (simp only [decide_eq_true_eq, decide_eq_false_iff_not, Bool.and_eq_true, Bool.or_eq_true, Bool.and_eq_false_iff, Bool.or_eq_false_iff, Bool.not_eq_true', Bool.not_eq_false', Int.not_lt, Int.not_le] at hc)) <;> (try (exfalso; first | omega | contradiction)))))
    rw [List.take_of_length_le (by omega)] at own
    refine wr_lay (Hn := Hs) rfl rfl Since.refl (List.sublist_append_left _ _) ⟨rfl, own.slS (fun p hp => .inr hp) ?_⟩
    have := get_length name l
    omega

theorem page_ok (hM : Laid M w) (st : Int) (kind bd : List UInt8) : Calls Tryd.prog 21 #[i64 st, str kind, str bd] w (RetS M w (fun M' H v => H = [] ∧ ∃ hv, v = .agg #[i64 st, hv, str bd] ∧ SlP M' hv [(sCT, kind)])) := by
  refine calls_st (l := [i64 st, str kind, str bd]) hM Tryd.func21 rfl rfl rfl (E0 := [(0, true, i64 st), (1, true, str kind), (2, true, str bd)]) (params_cons rfl (params_cons rfl (params_cons rfl (params_nil _)))) ?_
  repeat' (first | (first | refine wc_seq ?_ | refine wc_region ?_ | refine wl_nil ?_ | refine wn_seq ?_ | refine wn_blk ?_ | refine wc_skip ?_ | refine wc_block ?_ | refine wc_exit rfl ?_ | (show WL _ _ (_ :: _) _ _ _ _; first | refine wl_v rfl rfl rfl (by first | (show OpV _ _ _ _ (Oper.mk _ (Op.move _) _ _ _ _) _ _; exact xo_move rfl) | (show OpV _ _ _ _ (Oper.mk _ (Op.assign _) _ _ _ _) _ _; exact xo_assign rfl) | (show OpV _ _ _ _ (Oper.mk _ (Op.build _ _) _ _ _ _) _ _; exact xo_build rfl)) ?_ | refine wl_v rfl rfl rfl (by first  | fail) ?_ | refine xl_alloc (fun _ => ?_) | refine xl_store rfl rfl ?_ | refine xl_buildSlice rfl (fun _ => ?_)) | refine wc_ret rfl ?_) | (show WC _ (Code.cond _ _ _) _ _ _ _; (refine wc_cond rfl (fun hc => ?_) (fun hc => ?_) <;> (try (simp only [decide_eq_true_eq, decide_eq_false_iff_not, Bool.and_eq_true, Bool.or_eq_true, Bool.and_eq_false_iff, Bool.or_eq_false_iff, Bool.not_eq_true', Bool.not_eq_false', Int.not_lt, Int.not_le] at hc)) <;> (try (exfalso; first | omega | contradiction)))))
  rename_i b1 b2
  exact wr_layC (Hn := [(b2, .cells (cellsP [(sCT, kind)]).toArray 40 (0, 0))]) rfl rfl rfl (List.Mem.tail _ (List.Mem.head _)) rfl Since.refl (List.Sublist.cons_cons _ (List.nil_sublist _)) ⟨rfl, _, rfl, (OwnS.lit (e := 40) (m := 2) (l := cellsP [(sCT, kind)]) rfl (by decide)).slP (fun p hp => .inr hp) (by simp)⟩

structure FS (tgt : List UInt8) (cookies : List (List UInt8)) where
  i : Nat
  v : Value
  Hs : List (Nat × Obj)
  hi : i ≤ cookies.length
  own : OwnS 40 2 v Hs (cellsP (foundH tgt (cookies.take i)))
theorem found_snoc {tgt : List UInt8} {cookies : List (List UInt8)} {i : Nat} (hi : i < cookies.length) : cellsP (foundH tgt (cookies.take (i + 1))) = cellsP (foundH tgt (cookies.take i)) ++ [str sSet, str (cookies.getD i default)] := by
  have e : cookies.getD i default = cookies[i] := by simp [hi]
  rw [List.take_succ_eq_append_getElem hi, foundH, List.map_append, List.map_cons, List.map_nil, ← List.cons_append, cellsP_snoc, ← e]; rfl
theorem found_length (tgt : List UInt8) (cookies : List (List UInt8)) : (foundH tgt cookies).length = cookies.length + 1 := by simp [foundH]
theorem found_ok (hM : Laid M w) (tgt : List UInt8) {cv : Value} {cookies : List (List UInt8)} (hc : SlS M cv cookies) (hn : cookies.length ≤ 1000) : Calls Tryd.prog 22 #[str tgt, cv] w (RetS M w (fun M' H v => H = [] ∧ ∃ hv, v = .agg #[i64 302, hv, str []] ∧ SlP M' hv (foundH tgt cookies))) := by
  obtain ⟨a, cap, b, o, cs, T, fz, rfl, h1, h2, h3, h4⟩ := hc.open
  refine calls_st (l := [str tgt, .slice a cookies.length cap]) hM Tryd.func22 rfl rfl rfl (E0 := [(0, true, str tgt), (1, true, .slice a cookies.length cap)]) (params_cons rfl (params_cons rfl (params_nil _))) ?_
  repeat' (first | (first | refine wc_seq ?_ | refine wc_region ?_ | refine wl_nil ?_ | refine wn_seq ?_ | refine wn_blk ?_ | refine wc_skip ?_ | refine wc_block ?_ | refine wc_exit rfl ?_ | (show WL _ _ (_ :: _) _ _ _ _; first | refine wl_v rfl rfl rfl (by first | (show OpV _ _ _ _ (Oper.mk _ (Op.move _) _ _ _ _) _ _; exact xo_move rfl) | (show OpV _ _ _ _ (Oper.mk _ (Op.assign _) _ _ _ _) _ _; exact xo_assign rfl) | (show OpV _ _ _ _ (Oper.mk _ (Op.call ⟨.builtin .len, _, _⟩) _ _ _ _) _ _; first | exact xo_slen rfl | exact xo_len rfl) | (show OpV _ _ _ _ (Oper.mk _ (Op.binOp BinOp.lss _ _ _ _) _ _ _ _) _ _; exact xo_lss rfl rfl) | (show OpV _ _ _ _ (Oper.mk _ (Op.binOp BinOp.add _ _ _ _) _ _ _ _) _ _; first | exact xo_add rfl rfl | exact ov_sadd rfl rfl (by first | with_reducible exact fun _ => rfl | with_reducible exact fun h => h | exact fun _ => rfl | exact fun h => h | (intro himp; simp_all; done)) (by first | with_reducible exact fun _ => rfl | with_reducible exact fun h => h | exact fun _ => rfl | exact fun h => h | (intro himp; simp_all; done)) (by intro hcg; first | omega | (simp only [List.length_append, List.length_take, List.length_drop, List.length_cons, List.length_nil, List.length_nil]; omega))) | (show OpV _ _ _ _ (Oper.mk _ (Op.fieldAddr _ _ _) _ _ _ _) _ _; exact xo_fieldAddr rfl) | (show OpV _ _ _ _ (Oper.mk _ (Op.load _ _) _ _ _ _) _ _; first | exact xo_load1 rfl | exact xo_loadS rfl) | (show OpV _ _ _ _ (Oper.mk _ (Op.build _ _) _ _ _ _) _ _; exact xo_build rfl)) ?_ | refine wl_v rfl rfl rfl (by first  | fail) ?_ | refine xl_alloc (fun _ => ?_) | refine xl_store rfl rfl ?_ | refine xl_buildSlice rfl (fun _ => ?_)) | refine wc_ret rfl ?_) | (show WC _ (Code.cond _ _ _) _ _ _ _; (refine wc_cond rfl (fun hc => ?_) (fun hc => ?_) <;> (try (simp only [decide_eq_true_eq, decide_eq_false_iff_not, Bool.and_eq_true, Bool.or_eq_true, Bool.and_eq_false_iff, Bool.or_eq_false_iff, Bool.not_eq_true', Bool.not_eq_false', Int.not_lt, Int.not_le] at hc)) <;> (try (exfalso; first | omega | contradiction)))))
  rename_i b4 b10 b5
  refine wc_loop (α := FS tgt cookies) (fun x => [(4, true, .pointer (some ⟨b4, 0, none⟩)), (5, true, .pointer (some ⟨b5, 0, none⟩)), (12, true, .slice a cookies.length cap), (13, true, i64 (cookies.length : Int)), (14, true, i64 (x.i : Int))]) (fun x => St w [] (x.Hs ++ [(b5, .cells [i64 302, x.v, str []].toArray 24 (0, 0)), (b4, .cells [i64 0, .slice none 0 0, str []].toArray 24 (0, 0))]) M) (fun x => cookies.length - x.i) ⟨0, .slice (some ⟨b10, 0, none⟩) 1 1, [(b10, .cells (cellsP [(sLoc, tgt)]).toArray 40 (0, 0))], Nat.zero_le _, OwnS.lit rfl (by decide)⟩ (by first | exact Sub.nil _ | (repeat (first | exact Sub.nil _ | refine Sub.cons (by first | rfl | (simp [look]; done)) ?_))) (fun _ h => h.perm (List.Perm.swap _ _ _)) ?_
  rintro ⟨i, v, Hs, hi, own⟩
  dsimp only
  rcases Nat.lt_or_ge i cookies.length with hlt | hge
  · have hlen : (cellsP (foundH tgt (cookies.take i))).length = (foundH tgt (cookies.take i)).length * 2 := cellsP_length _
    have hfl := found_length tgt (cookies.take i)
    have hlt2 : (cookies.take i).length ≤ i := List.length_take_le _ _
    repeat' (first | (first | refine wc_seq ?_ | refine wc_region ?_ | refine wl_nil ?_ | refine wn_seq ?_ | refine wn_blk ?_ | refine wc_skip ?_ | refine wc_block ?_ | refine wc_exit rfl ?_ | (show WL _ _ (_ :: _) _ _ _ _; first | refine wl_v rfl rfl rfl (by first | (show OpV _ _ _ _ (Oper.mk _ (Op.move _) _ _ _ _) _ _; exact xo_move rfl) | (show OpV _ _ _ _ (Oper.mk _ (Op.assign _) _ _ _ _) _ _; exact xo_assign rfl) | (show OpV _ _ _ _ (Oper.mk _ (Op.call ⟨.builtin .len, _, _⟩) _ _ _ _) _ _; first | exact xo_slen rfl | exact xo_len rfl) | (show OpV _ _ _ _ (Oper.mk _ (Op.binOp BinOp.lss _ _ _ _) _ _ _ _) _ _; exact xo_lss rfl rfl) | (show OpV _ _ _ _ (Oper.mk _ (Op.binOp BinOp.add _ _ _ _) _ _ _ _) _ _; first | exact xo_add rfl rfl | exact ov_sadd rfl rfl (by first | with_reducible exact fun _ => rfl | with_reducible exact fun h => h | exact fun _ => rfl | exact fun h => h | (intro himp; simp_all; done)) (by first | with_reducible exact fun _ => rfl | with_reducible exact fun h => h | exact fun _ => rfl | exact fun h => h | (intro himp; simp_all; done)) (by intro hcg; first | omega | (simp only [List.length_append, List.length_take, List.length_drop, List.length_cons, List.length_nil, List.length_nil]; omega))) | (show OpV _ _ _ _ (Oper.mk _ (Op.fieldAddr _ _ _) _ _ _ _) _ _; exact xo_fieldAddr rfl) | (show OpV _ _ _ _ (Oper.mk _ (Op.load _ _) _ _ _ _) _ _; first | exact xo_load1 rfl | exact xo_loadS rfl) | (show OpV _ _ _ _ (Oper.mk _ (Op.build _ _) _ _ _ _) _ _; exact xo_build rfl)) ?_ | refine wl_v rfl rfl rfl (by first | (show OpV _ _ _ _ (Oper.mk _ (Op.indexAddr _ _ _) _ _ _ _) _ _; exact ov_indexAddr rfl rfl (by (fail_if_success (with_reducible show (987654321 : Int) = _)); repeat' (first | with_reducible exact nc_cast | with_reducible exact nc_lit | apply nc_add | apply nc_div | apply nc_mod | apply nc_mul | refine nc_sub (m := _) (n := _) nc_cast nc_lit (by omega) | refine nc_sub (m := _) (n := _) nc_cast nc_cast (by omega))) (by first | with_reducible exact fun _ => rfl | with_reducible exact fun h => h | exact fun _ => rfl | exact fun h => h | (intro himp; simp_all; done)) (by first | with_reducible exact fun _ => rfl | with_reducible exact fun h => h | exact fun _ => rfl | exact fun h => h | (intro himp; simp_all; done)) rfl (by first | exact (rfl : _ = some 1) | exact (rfl : _ = some 2) | exact (rfl : _ = some 3) | exact (rfl : _ = some 4) | exact (rfl : _ = some 6) | exact rfl) (fun hcg => (h3 (by intro h; subst h; simp only [List.length_nil] at *; omega)).1) (by intro hcg; first | omega | (simp at hcg; omega))) | (show OpV _ _ _ _ (Oper.mk _ (Op.load _ _) _ _ _ _) _ _; exact ov_load1M rfl (by first | with_reducible exact fun _ => rfl | with_reducible exact fun h => h | exact fun _ => rfl | exact fun h => h | (intro himp; simp_all; done)) rfl rfl (fun hcg => (h3 (by intro h; subst h; simp only [List.length_nil] at *; omega)).2) (fun hcg => h4 i (by omega))) | (show OpV _ _ _ _ (Oper.mk _ (Op.load _ _) _ _ _ _) _ _; exact ov_load1 rfl (by first | with_reducible exact fun _ => rfl | with_reducible exact fun h => h | exact fun _ => rfl | exact fun h => h | (intro himp; simp_all; done)) rfl rfl (List.mem_append_right _ (List.Mem.head _)) (by first | exact lk0 | exact lk1 | exact lk2 | exact lk3 | exact lk4 | exact lk5 | exact lk6 | exact lk7 | exact lk8 | exact lk9 | exact lk10 | exact lk11 | rfl)) | fail) ?_ | refine xl_alloc (fun _ => ?_) | refine xl_store rfl rfl ?_ | refine xl_buildSlice rfl (fun _ => ?_)) | refine wc_ret rfl ?_) | (show WC _ (Code.cond _ _ _) _ _ _ _; (refine wc_cond rfl (fun hc => ?_) (fun hc => ?_) <;> (try (simp only [decide_eq_true_eq, decide_eq_false_iff_not, Bool.and_eq_true, Bool.or_eq_true, Bool.and_eq_false_iff, Bool.or_eq_false_iff, Bool.not_eq_true', Bool.not_eq_false', Int.not_lt, Int.not_le] at hc)) <;> (try (exfalso; first | omega | contradiction)))))
    refine wl_append (news := [str sSet, str (cookies.getD i default)]) (H0 := [(b5, .cells [i64 302, v, str []].toArray 24 (0, 0)), (b4, .cells [i64 0, .slice none 0 0, str []].toArray 24 (0, 0))]) rfl own rfl rfl rfl rfl rfl rfl rfl rfl rfl rfl (by first | exact List.Mem.head _ | exact List.Mem.tail _ (List.Mem.head _) | exact List.Mem.tail _ (List.Mem.tail _ (List.Mem.head _)) | exact List.Mem.tail _ (List.Mem.tail _ (List.Mem.tail _ (List.Mem.head _))) | exact List.Mem.tail _ (List.Mem.tail _ (List.Mem.tail _ (List.Mem.tail _ (List.Mem.head _)))) | exact List.mem_append_right _ (List.Mem.head _) | exact List.mem_append_right _ (List.Mem.tail _ (List.Mem.head _)) | exact List.mem_append_right _ (List.Mem.tail _ (List.Mem.tail _ (List.Mem.head _))) | exact List.mem_append_right _ (List.Mem.tail _ (List.Mem.tail _ (List.Mem.tail _ (List.Mem.head _)))) | exact List.Mem.tail _ (List.mem_append_right _ (List.Mem.head _)) | exact List.Mem.tail _ (List.mem_append_right _ (List.Mem.tail _ (List.Mem.head _))) | exact List.Mem.tail _ (List.mem_append_right _ (List.Mem.tail _ (List.Mem.tail _ (List.Mem.head _)))) | exact List.Mem.tail _ (List.mem_append_right _ (List.Mem.tail _ (List.Mem.tail _ (List.Mem.tail _ (List.Mem.head _))))) | exact List.Mem.tail _ (List.Mem.tail _ (List.mem_append_right _ (List.Mem.head _))) | exact List.Mem.tail _ (List.Mem.tail _ (List.mem_append_right _ (List.Mem.tail _ (List.Mem.head _)))) | exact List.Mem.tail _ (List.Mem.tail _ (List.mem_append_right _ (List.Mem.tail _ (List.Mem.tail _ (List.Mem.head _)))))) rfl rfl (by repeat (first | exact List.Sublist.refl _ | apply List.Sublist.cons)) (by rw [hlen]; omega) rfl ?_
    intro v' Hs' ho'
    rw [← found_snoc hlt] at ho'
    obtain ⟨bb, cc, cur, rfl, rfl, _⟩ := ho'.block (q := i + 2) (by decide) (by rw [cellsP_length, found_length, List.length_take]; omega) (by omega)
    repeat' (first | (first | refine wc_seq ?_ | refine wc_region ?_ | refine wl_nil ?_ | refine wn_seq ?_ | refine wn_blk ?_ | refine wc_skip ?_ | refine wc_block ?_ | refine wc_exit rfl ?_ | (show WL _ _ (_ :: _) _ _ _ _; first | refine wl_v rfl rfl rfl (by first | (show OpV _ _ _ _ (Oper.mk _ (Op.move _) _ _ _ _) _ _; exact xo_move rfl) | (show OpV _ _ _ _ (Oper.mk _ (Op.assign _) _ _ _ _) _ _; exact xo_assign rfl) | (show OpV _ _ _ _ (Oper.mk _ (Op.call ⟨.builtin .len, _, _⟩) _ _ _ _) _ _; first | exact xo_slen rfl | exact xo_len rfl) | (show OpV _ _ _ _ (Oper.mk _ (Op.binOp BinOp.lss _ _ _ _) _ _ _ _) _ _; exact xo_lss rfl rfl) | (show OpV _ _ _ _ (Oper.mk _ (Op.binOp BinOp.add _ _ _ _) _ _ _ _) _ _; first | exact xo_add rfl rfl | exact ov_sadd rfl rfl (by first | with_reducible exact fun _ => rfl | with_reducible exact fun h => h | exact fun _ => rfl | exact fun h => h | (intro himp; simp_all; done)) (by first | with_reducible exact fun _ => rfl | with_reducible exact fun h => h | exact fun _ => rfl | exact fun h => h | (intro himp; simp_all; done)) (by intro hcg; first | omega | (simp only [List.length_append, List.length_take, List.length_drop, List.length_cons, List.length_nil, List.length_nil]; omega))) | (show OpV _ _ _ _ (Oper.mk _ (Op.fieldAddr _ _ _) _ _ _ _) _ _; exact xo_fieldAddr rfl) | (show OpV _ _ _ _ (Oper.mk _ (Op.load _ _) _ _ _ _) _ _; first | exact xo_load1 rfl | exact xo_loadS rfl) | (show OpV _ _ _ _ (Oper.mk _ (Op.build _ _) _ _ _ _) _ _; exact xo_build rfl)) ?_ | refine wl_v rfl rfl rfl (by first  | fail) ?_ | refine xl_alloc (fun _ => ?_) | refine xl_store rfl rfl ?_ | refine xl_buildSlice rfl (fun _ => ?_)) | refine wc_ret rfl ?_) | (show WC _ (Code.cond _ _ _) _ _ _ _; (refine wc_cond rfl (fun hc => ?_) (fun hc => ?_) <;> (try (simp only [decide_eq_true_eq, decide_eq_false_iff_not, Bool.and_eq_true, Bool.or_eq_true, Bool.and_eq_false_iff, Bool.or_eq_false_iff, Bool.not_eq_true', Bool.not_eq_false', Int.not_lt, Int.not_le] at hc)) <;> (try (exfalso; first | omega | contradiction)))))
    refine wn_cut ⟨i + 1, _, _, by omega, ho'⟩ (by show cookies.length - (i + 1) < cookies.length - i; omega) (by first | exact Sub.nil _ | (repeat (first | exact Sub.nil _ | refine Sub.cons (by first | rfl | (simp [look]; done)) ?_))) (fun _ h => h.drop (by repeat (first | exact List.Sublist.refl _ | apply List.Sublist.cons)))
  · rw [List.take_of_length_le (by omega)] at own
    obtain ⟨bb, cc, cur, rfl, rfl, _⟩ := own.block (q := cookies.length + 1) (by decide) (by rw [cellsP_length, found_length]) (by omega)
    repeat' (first | (first | refine wc_seq ?_ | refine wc_region ?_ | refine wl_nil ?_ | refine wn_seq ?_ | refine wn_blk ?_ | refine wc_skip ?_ | refine wc_block ?_ | refine wc_exit rfl ?_ | (show WL _ _ (_ :: _) _ _ _ _; first | refine wl_v rfl rfl rfl (by first | (show OpV _ _ _ _ (Oper.mk _ (Op.move _) _ _ _ _) _ _; exact xo_move rfl) | (show OpV _ _ _ _ (Oper.mk _ (Op.assign _) _ _ _ _) _ _; exact xo_assign rfl) | (show OpV _ _ _ _ (Oper.mk _ (Op.call ⟨.builtin .len, _, _⟩) _ _ _ _) _ _; first | exact xo_slen rfl | exact xo_len rfl) | (show OpV _ _ _ _ (Oper.mk _ (Op.binOp BinOp.lss _ _ _ _) _ _ _ _) _ _; exact xo_lss rfl rfl) | (show OpV _ _ _ _ (Oper.mk _ (Op.binOp BinOp.add _ _ _ _) _ _ _ _) _ _; first | exact xo_add rfl rfl | exact ov_sadd rfl rfl (by first | with_reducible exact fun _ => rfl | with_reducible exact fun h => h | exact fun _ => rfl | exact fun h => h | (intro himp; simp_all; done)) (by first | with_reducible exact fun _ => rfl | with_reducible exact fun h => h | exact fun _ => rfl | exact fun h => h | (intro himp; simp_all; done)) (by intro hcg; first | omega | (simp only [List.length_append, List.length_take, List.length_drop, List.length_cons, List.length_nil, List.length_nil]; omega))) | (show OpV _ _ _ _ (Oper.mk _ (Op.fieldAddr _ _ _) _ _ _ _) _ _; exact xo_fieldAddr rfl) | (show OpV _ _ _ _ (Oper.mk _ (Op.load _ _) _ _ _ _) _ _; first | exact xo_load1 rfl | exact xo_loadS rfl) | (show OpV _ _ _ _ (Oper.mk _ (Op.build _ _) _ _ _ _) _ _; exact xo_build rfl)) ?_ | refine wl_v rfl rfl rfl (by first  | fail) ?_ | refine xl_alloc (fun _ => ?_) | refine xl_store rfl rfl ?_ | refine xl_buildSlice rfl (fun _ => ?_)) | refine wc_ret rfl ?_) | (show WC _ (Code.cond _ _ _) _ _ _ _; (refine wc_cond rfl (fun hc => ?_) (fun hc => ?_) <;> (try (simp only [decide_eq_true_eq, decide_eq_false_iff_not, Bool.and_eq_true, Bool.or_eq_true, Bool.and_eq_false_iff, Bool.or_eq_false_iff, Bool.not_eq_true', Bool.not_eq_false', Int.not_lt, Int.not_le] at hc)) <;> (try (exfalso; first | omega | contradiction)))))
    refine wr_layC (Hn := [(bb, .cells cur 40 (0, 0))]) rfl rfl rfl (List.Mem.tail _ (List.Mem.tail _ (List.Mem.head _))) rfl Since.refl (List.Sublist.cons_cons _ (List.nil_sublist _)) ⟨rfl, _, rfl, own.slP (fun p hp => .inr hp) (by rw [found_length]; omega)⟩
end Go.Proofs.YthkpekmecgbokaaDoor
/-
  The contracts of the program's functions on responses: reasons, Reason, text, Right, Write.
-/
namespace Go.Proofs.YthkpekmecgbokaaDoor
open Go.Eng Go.Pct Go.Txt Go.Rsp
set_option maxRecDepth 10000
set_option linter.unusedSimpArgs false
set_option linter.unusedVariables false

variable {M : Ghost} {w : World}

def reasonEs : List MapEntry := [⟨i64 200, str (reasonS 200), 0⟩, ⟨i64 302, str (reasonS 302), 1⟩, ⟨i64 400, str (reasonS 400), 2⟩, ⟨i64 403, str (reasonS 403), 3⟩, ⟨i64 404, str (reasonS 404), 4⟩, ⟨i64 405, str (reasonS 405), 5⟩, ⟨i64 503, str (reasonS 503), 6⟩]
theorem reasons_ok (hM : Laid M w) : Calls Tryd.prog 38 #[] w (RetS M w (fun M' H v => ∃ b, v = .map (some b) ∧ H = [(b, .map reasonEs.toArray 7)])) := by
  refine calls_st (l := []) hM Tryd.func38 rfl rfl rfl (E0 := []) (params_nil _) ?_
  repeat' (first | (first | refine wc_seq ?_ | refine wc_region ?_ | refine wl_nil ?_ | refine wn_seq ?_ | refine wn_blk ?_ | refine wc_skip ?_ | refine wc_block ?_ | refine wc_exit rfl ?_ | (show WL _ _ (_ :: _) _ _ _ _; first | refine wl_v rfl rfl rfl (by first | (show OpV _ _ _ _ (Oper.mk _ (Op.move _) _ _ _ _) _ _; exact xo_move rfl) | (show OpV _ _ _ _ (Oper.mk _ (Op.assign _) _ _ _ _) _ _; exact xo_assign rfl)) ?_ | refine wl_v rfl rfl rfl (by first  | fail) ?_ | refine wl_makeMap rfl rfl (fun _ => ?_) | refine wl_insert rfl rfl rfl rfl rfl rfl (by first | exact rfl | exact trivial) (by first | exact Upd.here | exact Upd.there Upd.here | exact Upd.there (Upd.there Upd.here) | exact Upd.there (Upd.there (Upd.there Upd.here)) | exact Upd.there (Upd.there (Upd.there (Upd.there Upd.here))) | exact Upd.app _ (Upd.here) | exact Upd.app _ (Upd.there Upd.here) | exact Upd.app _ (Upd.there (Upd.there Upd.here)) | exact Upd.app _ (Upd.there (Upd.there (Upd.there Upd.here))) | exact Upd.there (Upd.app _ (Upd.here)) | exact Upd.there (Upd.app _ (Upd.there Upd.here)) | exact Upd.there (Upd.app _ (Upd.there (Upd.there Upd.here))) | exact Upd.there (Upd.app _ (Upd.there (Upd.there (Upd.there Upd.here)))) | exact Upd.there (Upd.there (Upd.app _ (Upd.here))) | exact Upd.there (Upd.there (Upd.app _ (Upd.there Upd.here))) | exact Upd.there (Upd.there (Upd.app _ (Upd.there (Upd.there Upd.here))))) (by rfl) ?_) | refine wc_ret rfl ?_) | (show WC _ (Code.cond _ _ _) _ _ _ _; (refine wc_cond rfl (fun hc => ?_) (fun hc => ?_) <;> (try (simp only [decide_eq_true_eq, decide_eq_false_iff_not, Bool.and_eq_true, Bool.or_eq_true, Bool.and_eq_false_iff, Bool.or_eq_false_iff, Bool.not_eq_true', Bool.not_eq_false', Int.not_lt, Int.not_le] at hc)) <;> (try (exfalso; first | omega | contradiction)))))
  exact wr_S (Hn := [(_, .map reasonEs.toArray 7)]) rfl rfl Since.refl (List.Sublist.refl _) ⟨_, rfl, rfl⟩
theorem find_reason (z : Int) : ∃ r, Instr.findNow (.int .i64) (i64 z) reasonEs 0 = some r ∧ foundV (str []) r = str (reasonS z) := by
  have step : ∀ (z m : Int) (v : Value) (n i : Nat) (l : List MapEntry), Instr.findNow (.int .i64) (i64 z) (⟨i64 m, v, n⟩ :: l) i = if z = m then some (some (i, v)) else Instr.findNow (.int .i64) (i64 z) l (i + 1) := by
    intro z m v n i l
    by_cases h : z = m
    · simp [Instr.findNow, Instr.sameNow, h]
    · have h' : (z == m) = false := by simpa using h
      simp [Instr.findNow, Instr.sameNow, h, h']
  unfold reasonEs
  simp only [step]
  repeat' split
  all_goals first
    | (subst_vars; exact ⟨_, rfl, rfl⟩)
    | (refine ⟨_, rfl, ?_⟩; unfold reasonS; simp [foundV, *])
theorem reason_ok (hM : Laid M w) (z : Int) : Calls Tryd.prog 16 #[i64 z] w (RetE w (str (reasonS z))) := by
  obtain ⟨r, hr1, hr2⟩ := find_reason z
  refine calls_st (l := [i64 z]) hM Tryd.func16 rfl rfl rfl (E0 := [(0, true, i64 z)]) (params_cons rfl (params_nil _)) ?_
  repeat' (first | (first | refine wc_seq ?_ | refine wc_region ?_ | refine wl_nil ?_ | refine wn_seq ?_ | refine wn_blk ?_ | refine wc_skip ?_ | refine wc_block ?_ | refine wc_exit rfl ?_ | (show WL _ _ (_ :: _) _ _ _ _; first | refine wl_v rfl rfl rfl (by first | (show OpV _ _ _ _ (Oper.mk _ (Op.move _) _ _ _ _) _ _; exact xo_move rfl) | (show OpV _ _ _ _ (Oper.mk _ (Op.assign _) _ _ _ _) _ _; exact xo_assign rfl)) ?_ | refine wl_v rfl rfl rfl (by first  | fail) ?_) | refine wc_ret rfl ?_) | (show WC _ (Code.cond _ _ _) _ _ _ _; (refine wc_cond rfl (fun hc => ?_) (fun hc => ?_) <;> (try (simp only [decide_eq_true_eq, decide_eq_false_iff_not, Bool.and_eq_true, Bool.or_eq_true, Bool.and_eq_false_iff, Bool.or_eq_false_iff, Bool.not_eq_true', Bool.not_eq_false', Int.not_lt, Int.not_le] at hc)) <;> (try (exfalso; first | omega | contradiction)))))
  refine wl_callS rfl Tryd.call38 rfl rfl rfl rfl (fun w hw => reasons_ok hw.laid) ?_
  rintro v Hn M' hm hnew ⟨b, rfl, rfl⟩
  repeat' (first | (first | refine wc_seq ?_ | refine wc_region ?_ | refine wl_nil ?_ | refine wn_seq ?_ | refine wn_blk ?_ | refine wc_skip ?_ | refine wc_block ?_ | refine wc_exit rfl ?_ | (show WL _ _ (_ :: _) _ _ _ _; first | refine wl_v rfl rfl rfl (by first | (show OpV _ _ _ _ (Oper.mk _ (Op.move _) _ _ _ _) _ _; exact xo_move rfl) | (show OpV _ _ _ _ (Oper.mk _ (Op.assign _) _ _ _ _) _ _; exact xo_assign rfl)) ?_ | refine wl_v rfl rfl rfl (by first | (show OpV _ _ _ _ (Oper.mk _ (Op.lookup _ _ _ _) _ _ _ _) _ _; exact ov_lookup rfl rfl (by first | with_reducible exact fun _ => rfl | with_reducible exact fun h => h | exact fun _ => rfl | exact fun h => h | (intro himp; simp_all; done)) (by first | with_reducible exact fun _ => rfl | with_reducible exact fun h => h | exact fun _ => rfl | exact fun h => h | (intro himp; simp_all; done)) rfl rfl (by exact rfl) (by first | exact List.Mem.head _ | exact List.Mem.tail _ (List.Mem.head _) | exact List.Mem.tail _ (List.Mem.tail _ (List.Mem.head _)) | exact List.Mem.tail _ (List.Mem.tail _ (List.Mem.tail _ (List.Mem.head _))) | exact List.Mem.tail _ (List.Mem.tail _ (List.Mem.tail _ (List.Mem.tail _ (List.Mem.head _)))) | exact List.mem_append_right _ (List.Mem.head _) | exact List.mem_append_right _ (List.Mem.tail _ (List.Mem.head _)) | exact List.mem_append_right _ (List.Mem.tail _ (List.Mem.tail _ (List.Mem.head _))) | exact List.mem_append_right _ (List.Mem.tail _ (List.Mem.tail _ (List.Mem.tail _ (List.Mem.head _)))) | exact List.Mem.tail _ (List.mem_append_right _ (List.Mem.head _)) | exact List.Mem.tail _ (List.mem_append_right _ (List.Mem.tail _ (List.Mem.head _))) | exact List.Mem.tail _ (List.mem_append_right _ (List.Mem.tail _ (List.Mem.tail _ (List.Mem.head _)))) | exact List.Mem.tail _ (List.mem_append_right _ (List.Mem.tail _ (List.Mem.tail _ (List.Mem.tail _ (List.Mem.head _))))) | exact List.Mem.tail _ (List.Mem.tail _ (List.mem_append_right _ (List.Mem.head _))) | exact List.Mem.tail _ (List.Mem.tail _ (List.mem_append_right _ (List.Mem.tail _ (List.Mem.head _)))) | exact List.Mem.tail _ (List.Mem.tail _ (List.mem_append_right _ (List.Mem.tail _ (List.Mem.tail _ (List.Mem.head _)))))) (fun _ => rfl) hr1 hr2) | fail) ?_) | refine wc_ret rfl ?_) | (show WC _ (Code.cond _ _ _) _ _ _ _; (refine wc_cond rfl (fun hc => ?_) (fun hc => ?_) <;> (try (simp only [decide_eq_true_eq, decide_eq_false_iff_not, Bool.and_eq_true, Bool.or_eq_true, Bool.and_eq_false_iff, Bool.or_eq_false_iff, Bool.not_eq_true', Bool.not_eq_false', Int.not_lt, Int.not_le] at hc)) <;> (try (exfalso; first | omega | contradiction)))))
  exact wr_tmp rfl rfl rfl

theorem trim_ok (hM : Laid M w) (s : List UInt8) (hs : s.length ≤ 9223372036854775807) : Calls Tryd.prog 47 #[str s, str [32]] w (RetE w (str (Lib.trimB s 32))) := by
  refine (Tryd.strings_Trim_one ⟨s.toArray⟩ 32 (by decide) w (by rw [baSize]; exact hs)).mono ?_
  rintro e w' ⟨rfl, h⟩
  refine ⟨rfl, ?_⟩
  rcases h with rfl | rfl
  · exact Keep.refl _ _
  · exact Ext.drew w 1
theorem text_ok (hM : Laid M w) (s : List UInt8) (hs : s.length ≤ 9223372036854775807) : Calls Tryd.prog 33 #[str s] w (RetE w (.bool (textB s))) := by
  refine calls_st (l := [str s]) hM Tryd.func33 rfl rfl rfl (E0 := [(0, true, str s)]) (params_cons rfl (params_nil _)) ?_
  repeat' (first | (first | refine wc_seq ?_ | refine wc_region ?_ | refine wl_nil ?_ | refine wn_seq ?_ | refine wn_blk ?_ | refine wc_skip ?_ | refine wc_block ?_ | refine wc_exit rfl ?_ | (show WL _ _ (_ :: _) _ _ _ _; first | refine wl_v rfl rfl rfl (by first | (show OpV _ _ _ _ (Oper.mk _ (Op.move _) _ _ _ _) _ _; exact xo_move rfl) | (show OpV _ _ _ _ (Oper.mk _ (Op.assign _) _ _ _ _) _ _; exact xo_assign rfl) | (show OpV _ _ _ _ (Oper.mk _ (Op.pick _ _ _) _ _ _ _) _ _; first | exact xo_and rfl rfl | exact xo_or rfl rfl) | (show OpV _ _ _ _ (Oper.mk _ (Op.call ⟨.builtin .len, _, _⟩) _ _ _ _) _ _; first | exact xo_slen rfl | exact xo_len rfl) | (show OpV _ _ _ _ (Oper.mk _ (Op.binOp BinOp.eql _ _ _ _) _ _ _ _) _ _; first | exact xo_eql rfl rfl | exact xo_seql rfl rfl | exact xo_beql rfl rfl | exact xo_aeql rfl rfl) | (show OpV _ _ _ _ (Oper.mk _ (Op.binOp BinOp.lss _ _ _ _) _ _ _ _) _ _; exact xo_lss rfl rfl) | (show OpV _ _ _ _ (Oper.mk _ (Op.binOp BinOp.gtr _ _ _ _) _ _ _ _) _ _; exact xo_gtr rfl rfl) | (show OpV _ _ _ _ (Oper.mk _ (Op.binOp BinOp.add _ _ _ _) _ _ _ _) _ _; first | exact xo_add rfl rfl | exact ov_sadd rfl rfl (by first | with_reducible exact fun _ => rfl | with_reducible exact fun h => h | exact fun _ => rfl | exact fun h => h | (intro himp; simp_all; done)) (by first | with_reducible exact fun _ => rfl | with_reducible exact fun h => h | exact fun _ => rfl | exact fun h => h | (intro himp; simp_all; done)) (by intro hcg; first | omega | (simp only [List.length_append, List.length_take, List.length_drop, List.length_cons, List.length_nil, List.length_nil]; omega))) | (show OpV _ _ _ _ (Oper.mk _ (Op.index _ _ _) _ _ _ _) _ _; exact xo_sindex rfl rfl)) ?_ | refine wl_v rfl rfl rfl (by first  | fail) ?_) | refine wc_ret rfl ?_) | (show WC _ (Code.cond _ _ _) _ _ _ _; (refine wc_cond rfl (fun hc => ?_) (fun hc => ?_) <;> (try (simp only [decide_eq_true_eq, decide_eq_false_iff_not, Bool.and_eq_true, Bool.or_eq_true, Bool.and_eq_false_iff, Bool.or_eq_false_iff, Bool.not_eq_true', Bool.not_eq_false', Int.not_lt, Int.not_le] at hc)) <;> (try (exfalso; first | omega | contradiction)))))
  refine wc_loop (α := { i : Nat // i ≤ s.length ∧ ∀ j, j < i → (decide ((32 : UInt8).toNat ≤ (s.getD j 0).toNat) && decide ((s.getD j 0).toNat ≤ 126)) = true }) (fun x => [(0, true, str s), (5, true, i64 (s.length : Int)), (6, true, i64 (x.1 : Int))]) (fun _ => St w [] [] M) (fun x => s.length - x.1) ⟨0, by omega, by intro j hj; omega⟩ (by first | exact Sub.nil _ | (repeat (first | exact Sub.nil _ | refine Sub.cons (by first | rfl | (simp [look]; done)) ?_))) (fun _ h => h) ?_
  rintro ⟨i, hi, hall⟩
  dsimp only
  have h32 : (32 : UInt8).toNat = 32 := rfl
  repeat' (first | (first | refine wc_seq ?_ | refine wc_region ?_ | refine wl_nil ?_ | refine wn_seq ?_ | refine wn_blk ?_ | refine wc_skip ?_ | refine wc_block ?_ | refine wc_exit rfl ?_ | (show WL _ _ (_ :: _) _ _ _ _; first | refine wl_v rfl rfl rfl (by first | (show OpV _ _ _ _ (Oper.mk _ (Op.move _) _ _ _ _) _ _; exact xo_move rfl) | (show OpV _ _ _ _ (Oper.mk _ (Op.assign _) _ _ _ _) _ _; exact xo_assign rfl) | (show OpV _ _ _ _ (Oper.mk _ (Op.pick _ _ _) _ _ _ _) _ _; first | exact xo_and rfl rfl | exact xo_or rfl rfl) | (show OpV _ _ _ _ (Oper.mk _ (Op.call ⟨.builtin .len, _, _⟩) _ _ _ _) _ _; first | exact xo_slen rfl | exact xo_len rfl) | (show OpV _ _ _ _ (Oper.mk _ (Op.binOp BinOp.eql _ _ _ _) _ _ _ _) _ _; first | exact xo_eql rfl rfl | exact xo_seql rfl rfl | exact xo_beql rfl rfl | exact xo_aeql rfl rfl) | (show OpV _ _ _ _ (Oper.mk _ (Op.binOp BinOp.lss _ _ _ _) _ _ _ _) _ _; exact xo_lss rfl rfl) | (show OpV _ _ _ _ (Oper.mk _ (Op.binOp BinOp.gtr _ _ _ _) _ _ _ _) _ _; exact xo_gtr rfl rfl) | (show OpV _ _ _ _ (Oper.mk _ (Op.binOp BinOp.add _ _ _ _) _ _ _ _) _ _; first | exact xo_add rfl rfl | exact ov_sadd rfl rfl (by first | with_reducible exact fun _ => rfl | with_reducible exact fun h => h | exact fun _ => rfl | exact fun h => h | (intro himp; simp_all; done)) (by first | with_reducible exact fun _ => rfl | with_reducible exact fun h => h | exact fun _ => rfl | exact fun h => h | (intro himp; simp_all; done)) (by intro hcg; first | omega | (simp only [List.length_append, List.length_take, List.length_drop, List.length_cons, List.length_nil, List.length_nil]; omega))) | (show OpV _ _ _ _ (Oper.mk _ (Op.index _ _ _) _ _ _ _) _ _; exact xo_sindex rfl rfl)) ?_ | refine wl_v rfl rfl rfl (by first | ((show OpV _ _ _ _ (Oper.mk _ (Op.call ⟨.value (.func 47), _, _⟩) _ _ _ _) _ _; exact ov_call Tryd.call47 rfl (by intro himp; first | rfl | (simp_all; done)) (by rfl) (fun _ _ h k => h.ext k) (fun hcg w hw => trim_ok hw.laid _ (by omega)))) | fail) ?_) | refine wc_ret rfl ?_) | (show WC _ (Code.cond _ _ _) _ _ _ _; (refine wc_cond rfl (fun hc => ?_) (fun hc => ?_) <;> (try (simp only [decide_eq_true_eq, decide_eq_false_iff_not, Bool.and_eq_true, Bool.or_eq_true, Bool.and_eq_false_iff, Bool.or_eq_false_iff, Bool.not_eq_true', Bool.not_eq_false', Int.not_lt, Int.not_le] at hc)) <;> (try (exfalso; first | omega | contradiction)))))
  · refine wr_tmp rfl rfl (congrArg Value.bool ?_)
    unfold textB shownB
    rw [all_no (i := i) (by omega) ?_, Bool.false_and]
    simp only [Bool.and_eq_false_iff, decide_eq_false_iff_not]; omega
  · refine wn_cut ⟨i + 1, by omega, ?_⟩ (by show s.length - (i + 1) < s.length - i; omega) (by first | exact Sub.nil _ | (repeat (first | exact Sub.nil _ | refine Sub.cons (by first | rfl | (simp [look]; done)) ?_))) (fun _ h => h)
    intro j hj
    by_cases h : j = i
    · subst h; simp only [Bool.and_eq_true, decide_eq_true_eq]; omega
    · exact hall j (by omega)
  · refine wr_tmp rfl rfl (congrArg Value.bool ?_)
    unfold textB shownB
    rw [all_yes (fun j hj => hall j (by omega)), Bool.true_and]
    exact trim_eq s

theorem right_ok (hM : Laid M w) {hv : Value} {l : List Pr} (hh : SlP M hv l) (st : Int) (bd : List UInt8) (hb : Small 140737488355328 l) : Calls Tryd.prog 14 #[.agg #[i64 st, hv, str bd]] w (RetE w (.bool (rightR ⟨st, l, bd⟩))) := by
  obtain ⟨a, cap, b, o, cs, T, fz, rfl, h1, h2, h3, h4⟩ := hh.open
  refine calls_st (l := [.agg #[i64 st, .slice a l.length cap, str bd]]) hM Tryd.func14 rfl rfl rfl (E0 := [(0, true, .agg #[i64 st, .slice a l.length cap, str bd])]) (params_cons rfl (params_nil _)) ?_
  repeat' (first | (first | refine wc_seq ?_ | refine wc_region ?_ | refine wl_nil ?_ | refine wn_seq ?_ | refine wn_blk ?_ | refine wc_skip ?_ | refine wc_block ?_ | refine wc_exit rfl ?_ | (show WL _ _ (_ :: _) _ _ _ _; first | refine wl_v rfl rfl rfl (by first | (show OpV _ _ _ _ (Oper.mk _ (Op.move _) _ _ _ _) _ _; exact xo_move rfl) | (show OpV _ _ _ _ (Oper.mk _ (Op.assign _) _ _ _ _) _ _; exact xo_assign rfl) | (show OpV _ _ _ _ (Oper.mk _ (Op.pick _ _ _) _ _ _ _) _ _; first | exact xo_and rfl rfl | exact xo_or rfl rfl) | (show OpV _ _ _ _ (Oper.mk _ (Op.call ⟨.builtin .len, _, _⟩) _ _ _ _) _ _; first | exact xo_slen rfl | exact xo_len rfl) | (show OpV _ _ _ _ (Oper.mk _ (Op.unOp _ _ _) _ _ _ _) _ _; exact xo_not rfl) | (show OpV _ _ _ _ (Oper.mk _ (Op.binOp BinOp.eql _ _ _ _) _ _ _ _) _ _; first | exact xo_eql rfl rfl | exact xo_seql rfl rfl | exact xo_beql rfl rfl | exact xo_aeql rfl rfl) | (show OpV _ _ _ _ (Oper.mk _ (Op.binOp BinOp.lss _ _ _ _) _ _ _ _) _ _; exact xo_lss rfl rfl) | (show OpV _ _ _ _ (Oper.mk _ (Op.binOp BinOp.gtr _ _ _ _) _ _ _ _) _ _; exact xo_gtr rfl rfl) | (show OpV _ _ _ _ (Oper.mk _ (Op.binOp BinOp.add _ _ _ _) _ _ _ _) _ _; first | exact xo_add rfl rfl | exact ov_sadd rfl rfl (by first | with_reducible exact fun _ => rfl | with_reducible exact fun h => h | exact fun _ => rfl | exact fun h => h | (intro himp; simp_all; done)) (by first | with_reducible exact fun _ => rfl | with_reducible exact fun h => h | exact fun _ => rfl | exact fun h => h | (intro himp; simp_all; done)) (by intro hcg; first | omega | (simp only [List.length_append, List.length_take, List.length_drop, List.length_cons, List.length_nil, List.length_nil]; omega))) | (show OpV _ _ _ _ (Oper.mk _ (Op.fieldAddr _ _ _) _ _ _ _) _ _; exact xo_fieldAddr rfl) | (show OpV _ _ _ _ (Oper.mk _ (Op.load _ _) _ _ _ _) _ _; first | exact xo_load1 rfl | exact xo_loadS rfl)) ?_ | refine wl_v rfl rfl rfl (by first | ((show OpV _ _ _ _ (Oper.mk _ (Op.call ⟨.value (.func 16), _, _⟩) _ _ _ _) _ _; exact ov_call Tryd.call16 rfl (by intro himp; first | rfl | (simp_all; done)) (by rfl) (fun _ _ h k => h.ext k) (fun hcg w hw => reason_ok hw.laid _))) | fail) ?_ | refine xl_alloc (fun _ => ?_) | refine xl_box rfl (fun _ => ?_) | refine xl_store rfl rfl ?_) | refine wc_ret rfl ?_) | (show WC _ (Code.cond _ _ _) _ _ _ _; (refine wc_cond rfl (fun hc => ?_) (fun hc => ?_) <;> (try (simp only [decide_eq_true_eq, decide_eq_false_iff_not, Bool.and_eq_true, Bool.or_eq_true, Bool.and_eq_false_iff, Bool.or_eq_false_iff, Bool.not_eq_true', Bool.not_eq_false', Int.not_lt, Int.not_le] at hc)) <;> (try (exfalso; first | omega | contradiction)))))
  · refine wr_tmp rfl rfl (congrArg Value.bool ?_)
    symm
    rw [Bool.eq_false_iff]
    intro h
    obtain ⟨p1, p2, p3, _⟩ := right_parts h
    simp only at p1 p2 p3
    rcases hc with (h | h) | h
    · rw [h] at p1; cases p1
    · omega
    · omega
  rename_i b1
  refine wc_loop (α := { i : Nat // i ≤ l.length ∧ ∀ j, j < i → hdrB (l.getD j default) = true }) (fun x => [(22, true, .slice a l.length cap), (23, true, i64 (l.length : Int)), (24, true, i64 (x.1 : Int))]) (fun x => St w [] [] M) (fun x => l.length - x.1) ⟨0, by omega, by intro j hj; omega⟩ (by first | exact Sub.nil _ | (repeat (first | exact Sub.nil _ | refine Sub.cons (by first | rfl | (simp [look]; done)) ?_))) (fun _ h => h.drop (by repeat (first | exact List.Sublist.refl _ | apply List.Sublist.cons))) ?_
  rintro ⟨i, hi, hall⟩
  dsimp only
  have hmem : ∀ j, j < l.length → l.getD j default ∈ l := fun j hj => by
    have : l.getD j default = l[j] := by simp [hj]
    rw [this]; exact List.getElem_mem _
  rcases Nat.lt_or_ge i l.length with hlt | hge
  · have hbi := hb _ (hmem i hlt)
    repeat' (first | (first | refine wc_seq ?_ | refine wc_region ?_ | refine wl_nil ?_ | refine wn_seq ?_ | refine wn_blk ?_ | refine wc_skip ?_ | refine wc_block ?_ | refine wc_exit rfl ?_ | (show WL _ _ (_ :: _) _ _ _ _; first | refine wl_v rfl rfl rfl (by first | (show OpV _ _ _ _ (Oper.mk _ (Op.move _) _ _ _ _) _ _; exact xo_move rfl) | (show OpV _ _ _ _ (Oper.mk _ (Op.assign _) _ _ _ _) _ _; exact xo_assign rfl) | (show OpV _ _ _ _ (Oper.mk _ (Op.pick _ _ _) _ _ _ _) _ _; first | exact xo_and rfl rfl | exact xo_or rfl rfl) | (show OpV _ _ _ _ (Oper.mk _ (Op.call ⟨.builtin .len, _, _⟩) _ _ _ _) _ _; first | exact xo_slen rfl | exact xo_len rfl) | (show OpV _ _ _ _ (Oper.mk _ (Op.unOp _ _ _) _ _ _ _) _ _; exact xo_not rfl) | (show OpV _ _ _ _ (Oper.mk _ (Op.binOp BinOp.eql _ _ _ _) _ _ _ _) _ _; first | exact xo_eql rfl rfl | exact xo_seql rfl rfl | exact xo_beql rfl rfl | exact xo_aeql rfl rfl) | (show OpV _ _ _ _ (Oper.mk _ (Op.binOp BinOp.lss _ _ _ _) _ _ _ _) _ _; exact xo_lss rfl rfl) | (show OpV _ _ _ _ (Oper.mk _ (Op.binOp BinOp.gtr _ _ _ _) _ _ _ _) _ _; exact xo_gtr rfl rfl) | (show OpV _ _ _ _ (Oper.mk _ (Op.binOp BinOp.add _ _ _ _) _ _ _ _) _ _; first | exact xo_add rfl rfl | exact ov_sadd rfl rfl (by first | with_reducible exact fun _ => rfl | with_reducible exact fun h => h | exact fun _ => rfl | exact fun h => h | (intro himp; simp_all; done)) (by first | with_reducible exact fun _ => rfl | with_reducible exact fun h => h | exact fun _ => rfl | exact fun h => h | (intro himp; simp_all; done)) (by intro hcg; first | omega | (simp only [List.length_append, List.length_take, List.length_drop, List.length_cons, List.length_nil, List.length_nil]; omega))) | (show OpV _ _ _ _ (Oper.mk _ (Op.fieldAddr _ _ _) _ _ _ _) _ _; exact xo_fieldAddr rfl) | (show OpV _ _ _ _ (Oper.mk _ (Op.load _ _) _ _ _ _) _ _; first | exact xo_load1 rfl | exact xo_loadS rfl)) ?_ | refine wl_v rfl rfl rfl (by first | (show OpV _ _ _ _ (Oper.mk _ (Op.indexAddr _ _ _) _ _ _ _) _ _; exact ov_indexAddr rfl rfl (by (fail_if_success (with_reducible show (987654321 : Int) = _)); repeat' (first | with_reducible exact nc_cast | with_reducible exact nc_lit | apply nc_add | apply nc_div | apply nc_mod | apply nc_mul | refine nc_sub (m := _) (n := _) nc_cast nc_lit (by omega) | refine nc_sub (m := _) (n := _) nc_cast nc_cast (by omega))) (by first | with_reducible exact fun _ => rfl | with_reducible exact fun h => h | exact fun _ => rfl | exact fun h => h | (intro himp; simp_all; done)) (by first | with_reducible exact fun _ => rfl | with_reducible exact fun h => h | exact fun _ => rfl | exact fun h => h | (intro himp; simp_all; done)) rfl (by first | exact (rfl : _ = some 1) | exact (rfl : _ = some 2) | exact (rfl : _ = some 3) | exact (rfl : _ = some 4) | exact (rfl : _ = some 6) | exact rfl) (fun hcg => (h3 (by intro h; subst h; simp only [List.length_nil] at *; omega)).1) (by intro hcg; first | omega | (simp at hcg; omega))) | (show OpV _ _ _ _ (Oper.mk _ (Op.load _ _) _ _ _ _) _ _; exact ov_loadSM rfl (by first | with_reducible exact fun _ => rfl | with_reducible exact fun h => h | exact fun _ => rfl | exact fun h => h | (intro himp; simp_all; done)) rfl (by first | exact (rfl : _ = some 1) | exact (rfl : _ = some 2) | exact (rfl : _ = some 3) | exact (rfl : _ = some 4) | exact (rfl : _ = some 6) | exact rfl) (fun hcg => (h3 (by intro h; subst h; simp only [List.length_nil] at *; omega)).2) (fun hcg => pcell (h4 i (by omega)))) | ((show OpV _ _ _ _ (Oper.mk _ (Op.call ⟨.value (.func 32), _, _⟩) _ _ _ _) _ _; exact ov_call Tryd.call32 rfl (by intro himp; first | rfl | (simp_all; done)) (by rfl) (fun _ _ h k => h.ext k) (fun hcg w hw => token_ok hw.laid _ (by omega)))) | ((show OpV _ _ _ _ (Oper.mk _ (Op.call ⟨.value (.func 33), _, _⟩) _ _ _ _) _ _; exact ov_call Tryd.call33 rfl (by intro himp; first | rfl | (simp_all; done)) (by rfl) (fun _ _ h k => h.ext k) (fun hcg w hw => text_ok hw.laid _ (by omega)))) | ((show OpV _ _ _ _ (Oper.mk _ (Op.call ⟨.value (.func 34), _, _⟩) _ _ _ _) _ _; exact ov_call Tryd.call34 rfl (by intro himp; first | rfl | (simp_all; done)) (by rfl) (fun _ _ h k => h.ext k) (fun hcg w hw => alike_ok hw.laid _ _ (by omega)))) | fail) ?_ | refine xl_alloc (fun _ => ?_) | refine xl_box rfl (fun _ => ?_) | refine xl_store rfl rfl ?_) | refine wc_ret rfl ?_) | (show WC _ (Code.cond _ _ _) _ _ _ _; (refine wc_cond rfl (fun hc => ?_) (fun hc => ?_) <;> (try (simp only [decide_eq_true_eq, decide_eq_false_iff_not, Bool.and_eq_true, Bool.or_eq_true, Bool.and_eq_false_iff, Bool.or_eq_false_iff, Bool.not_eq_true', Bool.not_eq_false', Int.not_lt, Int.not_le] at hc)) <;> (try (exfalso; first | omega | contradiction)))))
    · refine wr_tmp rfl rfl (congrArg Value.bool ?_)
      symm
      rw [Bool.eq_false_iff]
      intro h
      have h2 := List.all_eq_true.1 (right_parts h).2.2.2 _ (hmem i hlt)
      unfold hdrB at h2
      simp only [Bool.and_eq_true, Bool.not_eq_true'] at h2
      rcases hc with (hc | hc) | hc
      · rw [hc] at h2; exact absurd h2.1.1 (by decide)
      · rw [hc] at h2; exact absurd h2.1.2 (by decide)
      · have hc : alikeB (l.getD i default).1 sCL = true := hc
        rw [hc] at h2; exact absurd h2.2 (by decide)
    · refine wn_cut ⟨i + 1, by omega, ?_⟩ (by show l.length - (i + 1) < l.length - i; omega) (by first | exact Sub.nil _ | (repeat (first | exact Sub.nil _ | refine Sub.cons (by first | rfl | (simp [look]; done)) ?_))) (fun _ h => h.drop (by repeat (first | exact List.Sublist.refl _ | apply List.Sublist.cons)))
      intro j hj
      by_cases h : j = i
      · subst h
        obtain ⟨⟨c1, c2⟩, c3⟩ := hc
        have c3 : alikeB (l.getD j default).1 sCL = false := c3
        unfold hdrB; rw [c1, c2, c3]; rfl
      · exact hall j (by omega)
  · repeat' (first | (first | refine wc_seq ?_ | refine wc_region ?_ | refine wl_nil ?_ | refine wn_seq ?_ | refine wn_blk ?_ | refine wc_skip ?_ | refine wc_block ?_ | refine wc_exit rfl ?_ | (show WL _ _ (_ :: _) _ _ _ _; first | refine wl_v rfl rfl rfl (by first | (show OpV _ _ _ _ (Oper.mk _ (Op.move _) _ _ _ _) _ _; exact xo_move rfl) | (show OpV _ _ _ _ (Oper.mk _ (Op.assign _) _ _ _ _) _ _; exact xo_assign rfl) | (show OpV _ _ _ _ (Oper.mk _ (Op.pick _ _ _) _ _ _ _) _ _; first | exact xo_and rfl rfl | exact xo_or rfl rfl) | (show OpV _ _ _ _ (Oper.mk _ (Op.call ⟨.builtin .len, _, _⟩) _ _ _ _) _ _; first | exact xo_slen rfl | exact xo_len rfl) | (show OpV _ _ _ _ (Oper.mk _ (Op.unOp _ _ _) _ _ _ _) _ _; exact xo_not rfl) | (show OpV _ _ _ _ (Oper.mk _ (Op.binOp BinOp.eql _ _ _ _) _ _ _ _) _ _; first | exact xo_eql rfl rfl | exact xo_seql rfl rfl | exact xo_beql rfl rfl | exact xo_aeql rfl rfl) | (show OpV _ _ _ _ (Oper.mk _ (Op.binOp BinOp.lss _ _ _ _) _ _ _ _) _ _; exact xo_lss rfl rfl) | (show OpV _ _ _ _ (Oper.mk _ (Op.binOp BinOp.gtr _ _ _ _) _ _ _ _) _ _; exact xo_gtr rfl rfl) | (show OpV _ _ _ _ (Oper.mk _ (Op.binOp BinOp.add _ _ _ _) _ _ _ _) _ _; first | exact xo_add rfl rfl | exact ov_sadd rfl rfl (by first | with_reducible exact fun _ => rfl | with_reducible exact fun h => h | exact fun _ => rfl | exact fun h => h | (intro himp; simp_all; done)) (by first | with_reducible exact fun _ => rfl | with_reducible exact fun h => h | exact fun _ => rfl | exact fun h => h | (intro himp; simp_all; done)) (by intro hcg; first | omega | (simp only [List.length_append, List.length_take, List.length_drop, List.length_cons, List.length_nil, List.length_nil]; omega))) | (show OpV _ _ _ _ (Oper.mk _ (Op.fieldAddr _ _ _) _ _ _ _) _ _; exact xo_fieldAddr rfl) | (show OpV _ _ _ _ (Oper.mk _ (Op.load _ _) _ _ _ _) _ _; first | exact xo_load1 rfl | exact xo_loadS rfl)) ?_ | refine wl_v rfl rfl rfl (by first  | fail) ?_ | refine xl_alloc (fun _ => ?_) | refine xl_box rfl (fun _ => ?_) | refine xl_store rfl rfl ?_) | refine wc_ret rfl ?_) | (show WC _ (Code.cond _ _ _) _ _ _ _; (refine wc_cond rfl (fun hc => ?_) (fun hc => ?_) <;> (try (simp only [decide_eq_true_eq, decide_eq_false_iff_not, Bool.and_eq_true, Bool.or_eq_true, Bool.and_eq_false_iff, Bool.or_eq_false_iff, Bool.not_eq_true', Bool.not_eq_false', Int.not_lt, Int.not_le] at hc)) <;> (try (exfalso; first | omega | contradiction)))))
    refine wr_tmp rfl rfl (congrArg Value.bool ?_)
    have h5 : l.all hdrB = true := by
      rw [List.all_eq_true]
      intro p hp
      obtain ⟨j, hj, rfl⟩ := List.mem_iff_getElem.1 hp
      have := hall j (by omega)
      simpa [hj] using this
    unfold rightR
    rw [h5]
    obtain ⟨⟨c1, c2⟩, c3⟩ := ‹(¬ reasonS st = [] ∧ _) ∧ _›
    have h6 : (reasonS st).isEmpty = false := by simpa using c1
    simp only [h6]
    simp; omega

theorem writeR_eq2 (st : Int) (l : List Pr) (bd : List UInt8) : writeR ⟨st, l, bd⟩ = headS st ++ (l ++ [(sCL, Lib.itoa (bd.length : Int))]).flatMap hline ++ [13, 10] ++ bd := by
  simp [writeR]
set_option maxHeartbeats 4000000 in
theorem write_ok (hG : Glob M) (hM : Laid M w) {hv : Value} {l : List Pr} (hh : SlP M hv l) (st : Int) (bd : List UInt8) (hb : Small 140737488355328 l) : Calls Tryd.prog 11 #[.agg #[i64 st, hv, str bd]] w (RetE w (resW ⟨st, l, bd⟩)) := by
  have hh2 := hh
  obtain ⟨a, cap, b, o, cs, T, fz, rfl, h1, h2, h3, h4⟩ := hh.open
  refine calls_st (l := [.agg #[i64 st, .slice a l.length cap, str bd]]) hM Tryd.func11 rfl rfl rfl (E0 := [(0, true, .agg #[i64 st, .slice a l.length cap, str bd])]) (params_cons rfl (params_nil _)) ?_
  repeat' (first | (first | refine wc_seq ?_ | refine wc_region ?_ | refine wl_nil ?_ | refine wn_seq ?_ | refine wn_blk ?_ | refine wc_skip ?_ | refine wc_block ?_ | refine wc_exit rfl ?_ | (show WL _ _ (_ :: _) _ _ _ _; first | refine wl_v rfl rfl rfl (by first | (show OpV _ _ _ _ (Oper.mk _ (Op.move _) _ _ _ _) _ _; exact xo_move rfl) | (show OpV _ _ _ _ (Oper.mk _ (Op.assign _) _ _ _ _) _ _; exact xo_assign rfl) | (show OpV _ _ _ _ (Oper.mk _ (Op.call ⟨.builtin .len, _, _⟩) _ _ _ _) _ _; first | exact xo_slen rfl | exact xo_len rfl) | (show OpV _ _ _ _ (Oper.mk _ (Op.unOp _ _ _) _ _ _ _) _ _; exact xo_not rfl) | (show OpV _ _ _ _ (Oper.mk _ (Op.binOp BinOp.lss _ _ _ _) _ _ _ _) _ _; exact xo_lss rfl rfl) | (show OpV _ _ _ _ (Oper.mk _ (Op.binOp BinOp.add _ _ _ _) _ _ _ _) _ _; first | exact xo_add rfl rfl | exact ov_sadd rfl rfl (by first | with_reducible exact fun _ => rfl | with_reducible exact fun h => h | exact fun _ => rfl | exact fun h => h | (intro himp; simp_all; done)) (by first | with_reducible exact fun _ => rfl | with_reducible exact fun h => h | exact fun _ => rfl | exact fun h => h | (intro himp; simp_all; done)) (by intro hcg; first | omega | (simp only [List.length_append, List.length_take, List.length_drop, List.length_cons, List.length_nil, List.length_nil]; omega))) | (show OpV _ _ _ _ (Oper.mk _ (Op.slice _ _ (some _) (some _) none) _ _ _ _) _ _; first | exact xo_slice rfl rfl rfl | exact xo_slcB rfl rfl rfl) | (show OpV _ _ _ _ (Oper.mk _ (Op.slice _ _ (some _) none none) _ _ _ _) _ _; first | exact xo_from rfl rfl | exact xo_slcFrom rfl rfl) | (show OpV _ _ _ _ (Oper.mk _ (Op.slice _ _ none (some _) none) _ _ _ _) _ _; first | exact xo_to rfl rfl | exact xo_slcTo rfl rfl) | (show OpV _ _ _ _ (Oper.mk _ (Op.slice _ _ none (some _) (some _)) _ _ _ _) _ _; exact xo_slc3 rfl rfl rfl) | (show OpV _ _ _ _ (Oper.mk _ (Op.fieldAddr _ _ _) _ _ _ _) _ _; exact xo_fieldAddr rfl) | (show OpV _ _ _ _ (Oper.mk _ (Op.load _ _) _ _ _ _) _ _; first | exact xo_load1 rfl | exact xo_loadS rfl) | (show OpV _ _ _ _ (Oper.mk _ (Op.build _ _) _ _ _ _) _ _; exact xo_build rfl)) ?_ | refine wl_v rfl rfl rfl (by first | ((show OpV _ _ _ _ (Oper.mk _ (Op.call ⟨.value (.func 14), _, _⟩) _ _ _ _) _ _; exact ov_call Tryd.call14 rfl (by intro himp; first | rfl | (simp_all; done)) (by rfl) (fun _ _ h k => h.ext k) (fun hcg w hw => right_ok hw.laid hh2 _ _ hb))) | fail) ?_ | refine xl_alloc (fun _ => ?_) | refine xl_box rfl (fun _ => ?_) | refine xl_store rfl rfl ?_ | refine xl_buildSlice rfl (fun _ => ?_)) | refine wc_ret rfl ?_) | (show WC _ (Code.cond _ _ _) _ _ _ _; (refine wc_cond rfl (fun hc => ?_) (fun hc => ?_) <;> (try (simp only [decide_eq_true_eq, decide_eq_false_iff_not, Bool.and_eq_true, Bool.or_eq_true, Bool.and_eq_false_iff, Bool.or_eq_false_iff, Bool.not_eq_true', Bool.not_eq_false', Int.not_lt, Int.not_le] at hc)) <;> (try (exfalso; first | omega | contradiction)))))
  · refine wr_tmp2 rfl rfl rfl ?_ ?_ <;> simp [hc]
  have hR := hc
  obtain ⟨p1, p2, p3, p4⟩ := right_parts hc
  dsimp only at p1 p2 p3 p4
  obtain ⟨n, rfl, hn, hd3⟩ := status_nat p1
  have hrl := reason_length (n : Int)
  have hhl := headS_length hd3
  have hdl : (Lib.decDigits bd.length).length ≤ bd.length + 1 := dec_length _
  have hi3 : (Lib.itoa (n : Int)).length = 3 := by rw [itoa_nat]; exact hd3
  have hib : (Lib.itoa (bd.length : Int)).length ≤ bd.length + 1 := by rw [itoa_nat]; exact hdl
  rename_i b1
  refine wc_weak (E' := [(1, true, .pointer (some ⟨b1, 0, none⟩))]) (by first | exact Sub.nil _ | (repeat (first | exact Sub.nil _ | refine Sub.cons (by first | rfl | (simp [look]; done)) ?_))) (fun _ h => h) ?_
  refine wc_draw 10 (by kernel_rfl) rfl (by kernel_rfl) (fun _ _ h k => h.ext k) ?_
  repeat' (first | (show WD _ _ (_ :: _) _ _ _ _ _ _; first | refine wd_v rfl rfl rfl rfl rfl rfl (by first | (show OpV _ _ _ _ (Oper.mk _ (Op.move _) _ _ _ _) _ _; exact xo_move rfl) | (show OpV _ _ _ _ (Oper.mk _ (Op.assign _) _ _ _ _) _ _; exact xo_assign rfl) | (show OpV _ _ _ _ (Oper.mk _ (Op.call ⟨.builtin .len, _, _⟩) _ _ _ _) _ _; first | exact xo_slen rfl | exact xo_len rfl) | (show OpV _ _ _ _ (Oper.mk _ (Op.unOp _ _ _) _ _ _ _) _ _; exact xo_not rfl) | (show OpV _ _ _ _ (Oper.mk _ (Op.binOp BinOp.lss _ _ _ _) _ _ _ _) _ _; exact xo_lss rfl rfl) | (show OpV _ _ _ _ (Oper.mk _ (Op.binOp BinOp.add _ _ _ _) _ _ _ _) _ _; first | exact xo_add rfl rfl | exact ov_sadd rfl rfl (by first | with_reducible exact fun _ => rfl | with_reducible exact fun h => h | exact fun _ => rfl | exact fun h => h | (intro himp; simp_all; done)) (by first | with_reducible exact fun _ => rfl | with_reducible exact fun h => h | exact fun _ => rfl | exact fun h => h | (intro himp; simp_all; done)) (by intro hcg; first | omega | (simp only [List.length_append, List.length_take, List.length_drop, List.length_cons, List.length_nil, List.length_nil]; omega))) | (show OpV _ _ _ _ (Oper.mk _ (Op.slice _ _ (some _) (some _) none) _ _ _ _) _ _; first | exact xo_slice rfl rfl rfl | exact xo_slcB rfl rfl rfl) | (show OpV _ _ _ _ (Oper.mk _ (Op.slice _ _ (some _) none none) _ _ _ _) _ _; first | exact xo_from rfl rfl | exact xo_slcFrom rfl rfl) | (show OpV _ _ _ _ (Oper.mk _ (Op.slice _ _ none (some _) none) _ _ _ _) _ _; first | exact xo_to rfl rfl | exact xo_slcTo rfl rfl) | (show OpV _ _ _ _ (Oper.mk _ (Op.slice _ _ none (some _) (some _)) _ _ _ _) _ _; exact xo_slc3 rfl rfl rfl) | (show OpV _ _ _ _ (Oper.mk _ (Op.fieldAddr _ _ _) _ _ _ _) _ _; exact xo_fieldAddr rfl) | (show OpV _ _ _ _ (Oper.mk _ (Op.load _ _) _ _ _ _) _ _; first | exact xo_load1 rfl | exact xo_loadS rfl) | (show OpV _ _ _ _ (Oper.mk _ (Op.build _ _) _ _ _ _) _ _; exact xo_build rfl)) ?_ | refine wd_v rfl rfl rfl rfl rfl rfl (by first | ((show OpV _ _ _ _ (Oper.mk _ (Op.call ⟨.value (.func 31), _, _⟩) _ _ _ _) _ _; exact ov_call Tryd.call31 rfl (by intro himp; first | rfl | (simp_all; done)) (by rfl) (fun _ _ h k => h.ext k) (fun hcg w hw => itoa_ok hG hw.laid n (by omega)))) | ((show OpV _ _ _ _ (Oper.mk _ (Op.call ⟨.value (.func 16), _, _⟩) _ _ _ _) _ _; exact ov_call Tryd.call16 rfl (by intro himp; first | rfl | (simp_all; done)) (by rfl) (fun _ _ h k => h.ext k) (fun hcg w hw => reason_ok hw.laid _))) | fail) ?_ | refine wd_new rfl rfl rfl rfl rfl rfl steady_fresh (or_buildSlice rfl rfl (by first | exact (rfl : _ = some 1) | exact (rfl : _ = some 2) | exact (rfl : _ = some 3) | exact (rfl : _ = some 4) | exact (rfl : _ = some 6) | exact rfl) (fun _ => rfl) rfl rfl rfl (by simp only [cellsAll, Value.cells, List.size_toArray, List.length_cons, List.length_nil, Nat.zero_add, Nat.reduceAdd, and_self, if_true, true_and, Option.map_some, List.cons_append, List.nil_append]; first | done | rfl)) ?_ | refine wd_conv rfl rfl rfl rfl rfl rfl rfl rfl rfl rfl ?_) | (show WD _ _ _ _ _ _ _ _ _; first | refine wd_nil ?_ | refine wd_nilF ?_) | (first | refine wc_seq ?_ | refine wc_region ?_ | refine wl_nil ?_ | refine wn_seq ?_ | refine wn_blk ?_ | refine wc_skip ?_ | refine wc_block ?_ | refine wc_exit rfl ?_ | (show WL _ _ (_ :: _) _ _ _ _; first | refine wl_v rfl rfl rfl (by first | (show OpV _ _ _ _ (Oper.mk _ (Op.move _) _ _ _ _) _ _; exact xo_move rfl) | (show OpV _ _ _ _ (Oper.mk _ (Op.assign _) _ _ _ _) _ _; exact xo_assign rfl) | (show OpV _ _ _ _ (Oper.mk _ (Op.call ⟨.builtin .len, _, _⟩) _ _ _ _) _ _; first | exact xo_slen rfl | exact xo_len rfl) | (show OpV _ _ _ _ (Oper.mk _ (Op.unOp _ _ _) _ _ _ _) _ _; exact xo_not rfl) | (show OpV _ _ _ _ (Oper.mk _ (Op.binOp BinOp.lss _ _ _ _) _ _ _ _) _ _; exact xo_lss rfl rfl) | (show OpV _ _ _ _ (Oper.mk _ (Op.binOp BinOp.add _ _ _ _) _ _ _ _) _ _; first | exact xo_add rfl rfl | exact ov_sadd rfl rfl (by first | with_reducible exact fun _ => rfl | with_reducible exact fun h => h | exact fun _ => rfl | exact fun h => h | (intro himp; simp_all; done)) (by first | with_reducible exact fun _ => rfl | with_reducible exact fun h => h | exact fun _ => rfl | exact fun h => h | (intro himp; simp_all; done)) (by intro hcg; first | omega | (simp only [List.length_append, List.length_take, List.length_drop, List.length_cons, List.length_nil, List.length_nil]; omega))) | (show OpV _ _ _ _ (Oper.mk _ (Op.slice _ _ (some _) (some _) none) _ _ _ _) _ _; first | exact xo_slice rfl rfl rfl | exact xo_slcB rfl rfl rfl) | (show OpV _ _ _ _ (Oper.mk _ (Op.slice _ _ (some _) none none) _ _ _ _) _ _; first | exact xo_from rfl rfl | exact xo_slcFrom rfl rfl) | (show OpV _ _ _ _ (Oper.mk _ (Op.slice _ _ none (some _) none) _ _ _ _) _ _; first | exact xo_to rfl rfl | exact xo_slcTo rfl rfl) | (show OpV _ _ _ _ (Oper.mk _ (Op.slice _ _ none (some _) (some _)) _ _ _ _) _ _; exact xo_slc3 rfl rfl rfl) | (show OpV _ _ _ _ (Oper.mk _ (Op.fieldAddr _ _ _) _ _ _ _) _ _; exact xo_fieldAddr rfl) | (show OpV _ _ _ _ (Oper.mk _ (Op.load _ _) _ _ _ _) _ _; first | exact xo_load1 rfl | exact xo_loadS rfl) | (show OpV _ _ _ _ (Oper.mk _ (Op.build _ _) _ _ _ _) _ _; exact xo_build rfl)) ?_ | refine wl_v rfl rfl rfl (by first | ((show OpV _ _ _ _ (Oper.mk _ (Op.call ⟨.value (.func 31), _, _⟩) _ _ _ _) _ _; exact ov_call Tryd.call31 rfl (by intro himp; first | rfl | (simp_all; done)) (by rfl) (fun _ _ h k => h.ext k) (fun hcg w hw => itoa_ok hG hw.laid n (by omega)))) | ((show OpV _ _ _ _ (Oper.mk _ (Op.call ⟨.value (.func 16), _, _⟩) _ _ _ _) _ _; exact ov_call Tryd.call16 rfl (by intro himp; first | rfl | (simp_all; done)) (by rfl) (fun _ _ h k => h.ext k) (fun hcg w hw => reason_ok hw.laid _))) | fail) ?_ | refine xl_alloc (fun _ => ?_) | refine xl_box rfl (fun _ => ?_) | refine xl_store rfl rfl ?_ | refine xl_buildSlice rfl (fun _ => ?_)) | refine wc_ret rfl ?_))
  have he : [72, 84, 84, 80, 47, 49, 46, 49, 32] ++ Lib.itoa (n : Int) ++ [32] ++ reasonS (n : Int) ++ [13, 10] = headS (n : Int) := by unfold headS sHttp; rfl
  refine wc_weak (E' := [(1, true, .pointer (some ⟨b1, 0, none⟩)), (4, true, str (headS (n : Int)))]) (by first | exact Sub.nil _ | (repeat (first | exact Sub.nil _ | refine Sub.cons (by first | rfl | (simp [look]; done)) ?_))) (fun _ h => h) ?_
  refine wc_draw 18 (by kernel_rfl) rfl (by kernel_rfl) (fun _ _ h k => h.ext k) ?_
  repeat' (first | (show WD _ _ (_ :: _) _ _ _ _ _ _; first | refine wd_v rfl rfl rfl rfl rfl rfl (by first | (show OpV _ _ _ _ (Oper.mk _ (Op.move _) _ _ _ _) _ _; exact xo_move rfl) | (show OpV _ _ _ _ (Oper.mk _ (Op.assign _) _ _ _ _) _ _; exact xo_assign rfl) | (show OpV _ _ _ _ (Oper.mk _ (Op.call ⟨.builtin .len, _, _⟩) _ _ _ _) _ _; first | exact xo_slen rfl | exact xo_len rfl) | (show OpV _ _ _ _ (Oper.mk _ (Op.unOp _ _ _) _ _ _ _) _ _; exact xo_not rfl) | (show OpV _ _ _ _ (Oper.mk _ (Op.binOp BinOp.lss _ _ _ _) _ _ _ _) _ _; exact xo_lss rfl rfl) | (show OpV _ _ _ _ (Oper.mk _ (Op.binOp BinOp.add _ _ _ _) _ _ _ _) _ _; first | exact xo_add rfl rfl | exact ov_sadd rfl rfl (by first | with_reducible exact fun _ => rfl | with_reducible exact fun h => h | exact fun _ => rfl | exact fun h => h | (intro himp; simp_all; done)) (by first | with_reducible exact fun _ => rfl | with_reducible exact fun h => h | exact fun _ => rfl | exact fun h => h | (intro himp; simp_all; done)) (by intro hcg; first | omega | (simp only [List.length_append, List.length_take, List.length_drop, List.length_cons, List.length_nil, List.length_nil]; omega))) | (show OpV _ _ _ _ (Oper.mk _ (Op.slice _ _ (some _) (some _) none) _ _ _ _) _ _; first | exact xo_slice rfl rfl rfl | exact xo_slcB rfl rfl rfl) | (show OpV _ _ _ _ (Oper.mk _ (Op.slice _ _ (some _) none none) _ _ _ _) _ _; first | exact xo_from rfl rfl | exact xo_slcFrom rfl rfl) | (show OpV _ _ _ _ (Oper.mk _ (Op.slice _ _ none (some _) none) _ _ _ _) _ _; first | exact xo_to rfl rfl | exact xo_slcTo rfl rfl) | (show OpV _ _ _ _ (Oper.mk _ (Op.slice _ _ none (some _) (some _)) _ _ _ _) _ _; exact xo_slc3 rfl rfl rfl) | (show OpV _ _ _ _ (Oper.mk _ (Op.fieldAddr _ _ _) _ _ _ _) _ _; exact xo_fieldAddr rfl) | (show OpV _ _ _ _ (Oper.mk _ (Op.load _ _) _ _ _ _) _ _; first | exact xo_load1 rfl | exact xo_loadS rfl) | (show OpV _ _ _ _ (Oper.mk _ (Op.build _ _) _ _ _ _) _ _; exact xo_build rfl)) ?_ | refine wd_v rfl rfl rfl rfl rfl rfl (by first | ((show OpV _ _ _ _ (Oper.mk _ (Op.call ⟨.value (.func 31), _, _⟩) _ _ _ _) _ _; exact ov_call Tryd.call31 rfl (by intro himp; first | rfl | (simp_all; done)) (by rfl) (fun _ _ h k => h.ext k) (fun hcg w hw => itoa_ok hG hw.laid bd.length (by omega)))) | fail) ?_ | refine wd_new rfl rfl rfl rfl rfl rfl steady_fresh (or_buildSlice rfl rfl (by first | exact (rfl : _ = some 1) | exact (rfl : _ = some 2) | exact (rfl : _ = some 3) | exact (rfl : _ = some 4) | exact (rfl : _ = some 6) | exact rfl) (fun _ => rfl) rfl rfl rfl (by simp only [cellsAll, Value.cells, List.size_toArray, List.length_cons, List.length_nil, Nat.zero_add, Nat.reduceAdd, and_self, if_true, true_and, Option.map_some, List.cons_append, List.nil_append]; first | done | rfl)) ?_ | refine wd_conv rfl rfl rfl rfl rfl rfl rfl rfl rfl rfl ?_) | (show WD _ _ _ _ _ _ _ _ _; first | refine wd_nil ?_ | refine wd_nilF ?_) | (first | refine wc_seq ?_ | refine wc_region ?_ | refine wl_nil ?_ | refine wn_seq ?_ | refine wn_blk ?_ | refine wc_skip ?_ | refine wc_block ?_ | refine wc_exit rfl ?_ | (show WL _ _ (_ :: _) _ _ _ _; first | refine wl_v rfl rfl rfl (by first | (show OpV _ _ _ _ (Oper.mk _ (Op.move _) _ _ _ _) _ _; exact xo_move rfl) | (show OpV _ _ _ _ (Oper.mk _ (Op.assign _) _ _ _ _) _ _; exact xo_assign rfl) | (show OpV _ _ _ _ (Oper.mk _ (Op.call ⟨.builtin .len, _, _⟩) _ _ _ _) _ _; first | exact xo_slen rfl | exact xo_len rfl) | (show OpV _ _ _ _ (Oper.mk _ (Op.unOp _ _ _) _ _ _ _) _ _; exact xo_not rfl) | (show OpV _ _ _ _ (Oper.mk _ (Op.binOp BinOp.lss _ _ _ _) _ _ _ _) _ _; exact xo_lss rfl rfl) | (show OpV _ _ _ _ (Oper.mk _ (Op.binOp BinOp.add _ _ _ _) _ _ _ _) _ _; first | exact xo_add rfl rfl | exact ov_sadd rfl rfl (by first | with_reducible exact fun _ => rfl | with_reducible exact fun h => h | exact fun _ => rfl | exact fun h => h | (intro himp; simp_all; done)) (by first | with_reducible exact fun _ => rfl | with_reducible exact fun h => h | exact fun _ => rfl | exact fun h => h | (intro himp; simp_all; done)) (by intro hcg; first | omega | (simp only [List.length_append, List.length_take, List.length_drop, List.length_cons, List.length_nil, List.length_nil]; omega))) | (show OpV _ _ _ _ (Oper.mk _ (Op.slice _ _ (some _) (some _) none) _ _ _ _) _ _; first | exact xo_slice rfl rfl rfl | exact xo_slcB rfl rfl rfl) | (show OpV _ _ _ _ (Oper.mk _ (Op.slice _ _ (some _) none none) _ _ _ _) _ _; first | exact xo_from rfl rfl | exact xo_slcFrom rfl rfl) | (show OpV _ _ _ _ (Oper.mk _ (Op.slice _ _ none (some _) none) _ _ _ _) _ _; first | exact xo_to rfl rfl | exact xo_slcTo rfl rfl) | (show OpV _ _ _ _ (Oper.mk _ (Op.slice _ _ none (some _) (some _)) _ _ _ _) _ _; exact xo_slc3 rfl rfl rfl) | (show OpV _ _ _ _ (Oper.mk _ (Op.fieldAddr _ _ _) _ _ _ _) _ _; exact xo_fieldAddr rfl) | (show OpV _ _ _ _ (Oper.mk _ (Op.load _ _) _ _ _ _) _ _; first | exact xo_load1 rfl | exact xo_loadS rfl) | (show OpV _ _ _ _ (Oper.mk _ (Op.build _ _) _ _ _ _) _ _; exact xo_build rfl)) ?_ | refine wl_v rfl rfl rfl (by first | ((show OpV _ _ _ _ (Oper.mk _ (Op.call ⟨.value (.func 31), _, _⟩) _ _ _ _) _ _; exact ov_call Tryd.call31 rfl (by intro himp; first | rfl | (simp_all; done)) (by rfl) (fun _ _ h k => h.ext k) (fun hcg w hw => itoa_ok hG hw.laid bd.length (by omega)))) | fail) ?_ | refine xl_alloc (fun _ => ?_) | refine xl_box rfl (fun _ => ?_) | refine xl_store rfl rfl ?_ | refine xl_buildSlice rfl (fun _ => ?_)) | refine wc_ret rfl ?_))
  have hrow := row_at h3 h4
  refine wd_rel2 (s := 34) rfl rfl rfl rfl rfl rfl rfl rfl steady_grown (or_appendN (xs := cellsP l) (news := [str sCL, str (Lib.itoa (bd.length : Int))]) hrow (cellsP_length l) (fun _ => rfl) rfl rfl rfl rfl rfl rfl rfl rfl rfl (by omega) rfl) (looks_of rfl) ?_
  refine wd_rel (s := 35) rfl rfl rfl rfl rfl rfl rfl rfl (or_lenG (e := 40) (m := 2) (q := l.length + 1) rfl rfl (by rw [List.length_append, cellsP_length]; simp; omega)) (looks_of rfl) ?_
  refine wd_v rfl rfl rfl rfl rfl rfl (by first | (show OpV _ _ _ _ (Oper.mk _ (Op.move _) _ _ _ _) _ _; exact xo_move rfl) | (show OpV _ _ _ _ (Oper.mk _ (Op.assign _) _ _ _ _) _ _; exact xo_assign rfl) | (show OpV _ _ _ _ (Oper.mk _ (Op.call ⟨.builtin .len, _, _⟩) _ _ _ _) _ _; first | exact xo_slen rfl | exact xo_len rfl) | (show OpV _ _ _ _ (Oper.mk _ (Op.unOp _ _ _) _ _ _ _) _ _; exact xo_not rfl) | (show OpV _ _ _ _ (Oper.mk _ (Op.binOp BinOp.lss _ _ _ _) _ _ _ _) _ _; exact xo_lss rfl rfl) | (show OpV _ _ _ _ (Oper.mk _ (Op.binOp BinOp.add _ _ _ _) _ _ _ _) _ _; first | exact xo_add rfl rfl | exact ov_sadd rfl rfl (by first | with_reducible exact fun _ => rfl | with_reducible exact fun h => h | exact fun _ => rfl | exact fun h => h | (intro himp; simp_all; done)) (by first | with_reducible exact fun _ => rfl | with_reducible exact fun h => h | exact fun _ => rfl | exact fun h => h | (intro himp; simp_all; done)) (by intro hcg; first | omega | (simp only [List.length_append, List.length_take, List.length_drop, List.length_cons, List.length_nil, List.length_nil]; omega))) | (show OpV _ _ _ _ (Oper.mk _ (Op.slice _ _ (some _) (some _) none) _ _ _ _) _ _; first | exact xo_slice rfl rfl rfl | exact xo_slcB rfl rfl rfl) | (show OpV _ _ _ _ (Oper.mk _ (Op.slice _ _ (some _) none none) _ _ _ _) _ _; first | exact xo_from rfl rfl | exact xo_slcFrom rfl rfl) | (show OpV _ _ _ _ (Oper.mk _ (Op.slice _ _ none (some _) none) _ _ _ _) _ _; first | exact xo_to rfl rfl | exact xo_slcTo rfl rfl) | (show OpV _ _ _ _ (Oper.mk _ (Op.slice _ _ none (some _) (some _)) _ _ _ _) _ _; exact xo_slc3 rfl rfl rfl) | (show OpV _ _ _ _ (Oper.mk _ (Op.fieldAddr _ _ _) _ _ _ _) _ _; exact xo_fieldAddr rfl) | (show OpV _ _ _ _ (Oper.mk _ (Op.load _ _) _ _ _ _) _ _; first | exact xo_load1 rfl | exact xo_loadS rfl) | (show OpV _ _ _ _ (Oper.mk _ (Op.build _ _) _ _ _ _) _ _; exact xo_build rfl)) ?_
  refine wd_nilD (d := 35) rfl (wl_grown fun v Hs ho => ?_)
  refine wl_weak (E' := [(35, true, v), (36, true, i64 ((l.length + 1 : Nat) : Int)), (37, true, i64 0), (1, true, .pointer (some ⟨b1, 0, none⟩)), (4, true, str (headS (n : Int)))]) (by first | exact Sub.nil _ | (repeat (first | exact Sub.nil _ | refine Sub.cons (by first | rfl | (simp [look]; done)) ?_))) (fun _ h => St.publish (H1 := Hs) h) ?_
  generalize hL : l ++ [(sCL, Lib.itoa (bd.length : Int))] = L
  have hLl : L.length = l.length + 1 := by rw [← hL]; simp
  have hbL : Small 140737488355328 L := by
    intro p hp
    rw [← hL] at hp
    rcases List.mem_append.1 hp with hp | hp
    · exact hb p hp
    · rw [List.mem_singleton] at hp; subst hp; dsimp only; exact ⟨by decide, by omega⟩
  have hcl : cellsP l ++ [str sCL, str (Lib.itoa (bd.length : Int))] = cellsP L := by rw [← hL, cellsP_snoc]
  rw [hcl] at ho
  have hsl : SlP (With M Hs) v L := ho.slP (fun p hp => .inr hp) (by omega)
  rw [← hLl]
  clear hh hh2 h1 h2 h3 h4
  obtain ⟨a, cap, b, o, cs, T, fz, rfl, h1, h2, h3, h4⟩ := hsl.open
  repeat' (first | (first | refine wc_seq ?_ | refine wc_region ?_ | refine wl_nil ?_ | refine wn_seq ?_ | refine wn_blk ?_ | refine wc_skip ?_ | refine wc_block ?_ | refine wc_exit rfl ?_ | (show WL _ _ (_ :: _) _ _ _ _; first | refine wl_v rfl rfl rfl (by first | (show OpV _ _ _ _ (Oper.mk _ (Op.move _) _ _ _ _) _ _; exact xo_move rfl) | (show OpV _ _ _ _ (Oper.mk _ (Op.assign _) _ _ _ _) _ _; exact xo_assign rfl) | (show OpV _ _ _ _ (Oper.mk _ (Op.call ⟨.builtin .len, _, _⟩) _ _ _ _) _ _; first | exact xo_slen rfl | exact xo_len rfl) | (show OpV _ _ _ _ (Oper.mk _ (Op.unOp _ _ _) _ _ _ _) _ _; exact xo_not rfl) | (show OpV _ _ _ _ (Oper.mk _ (Op.binOp BinOp.lss _ _ _ _) _ _ _ _) _ _; exact xo_lss rfl rfl) | (show OpV _ _ _ _ (Oper.mk _ (Op.binOp BinOp.add _ _ _ _) _ _ _ _) _ _; first | exact xo_add rfl rfl | exact ov_sadd rfl rfl (by first | with_reducible exact fun _ => rfl | with_reducible exact fun h => h | exact fun _ => rfl | exact fun h => h | (intro himp; simp_all; done)) (by first | with_reducible exact fun _ => rfl | with_reducible exact fun h => h | exact fun _ => rfl | exact fun h => h | (intro himp; simp_all; done)) (by intro hcg; first | omega | (simp only [List.length_append, List.length_take, List.length_drop, List.length_cons, List.length_nil, List.length_nil]; omega))) | (show OpV _ _ _ _ (Oper.mk _ (Op.slice _ _ (some _) (some _) none) _ _ _ _) _ _; first | exact xo_slice rfl rfl rfl | exact xo_slcB rfl rfl rfl) | (show OpV _ _ _ _ (Oper.mk _ (Op.slice _ _ (some _) none none) _ _ _ _) _ _; first | exact xo_from rfl rfl | exact xo_slcFrom rfl rfl) | (show OpV _ _ _ _ (Oper.mk _ (Op.slice _ _ none (some _) none) _ _ _ _) _ _; first | exact xo_to rfl rfl | exact xo_slcTo rfl rfl) | (show OpV _ _ _ _ (Oper.mk _ (Op.slice _ _ none (some _) (some _)) _ _ _ _) _ _; exact xo_slc3 rfl rfl rfl) | (show OpV _ _ _ _ (Oper.mk _ (Op.fieldAddr _ _ _) _ _ _ _) _ _; exact xo_fieldAddr rfl) | (show OpV _ _ _ _ (Oper.mk _ (Op.load _ _) _ _ _ _) _ _; first | exact xo_load1 rfl | exact xo_loadS rfl) | (show OpV _ _ _ _ (Oper.mk _ (Op.build _ _) _ _ _ _) _ _; exact xo_build rfl)) ?_ | refine wl_v rfl rfl rfl (by first  | fail) ?_ | refine xl_alloc (fun _ => ?_) | refine xl_box rfl (fun _ => ?_) | refine xl_store rfl rfl ?_ | refine xl_buildSlice rfl (fun _ => ?_)) | refine wc_ret rfl ?_) | (show WC _ (Code.cond _ _ _) _ _ _ _; (refine wc_cond rfl (fun hc => ?_) (fun hc => ?_) <;> (try (simp only [decide_eq_true_eq, decide_eq_false_iff_not, Bool.and_eq_true, Bool.or_eq_true, Bool.and_eq_false_iff, Bool.or_eq_false_iff, Bool.not_eq_true', Bool.not_eq_false', Int.not_lt, Int.not_le] at hc)) <;> (try (exfalso; first | omega | contradiction)))))
  refine wc_loop (α := { i : Nat // i ≤ L.length }) (fun x => [(1, true, .pointer (some ⟨b1, 0, none⟩)), (4, true, str (headS (n : Int) ++ (L.take x.1).flatMap hline)), (35, true, .slice a L.length cap), (36, true, i64 (L.length : Int)), (37, true, i64 (x.1 : Int))]) (fun _ => St w [] [(b1, _)] (With M Hs)) (fun x => L.length - x.1) ⟨0, by omega⟩ (by rw [List.take_zero, List.flatMap_nil, List.append_nil]; exact (by first | exact Sub.nil _ | (repeat (first | exact Sub.nil _ | refine Sub.cons (by first | rfl | (simp [look]; done)) ?_)))) (fun _ h => h) ?_
  rintro ⟨i, hi⟩
  dsimp only
  have hfl := flat_length hbL i hi
  rcases Nat.lt_or_ge i L.length with hlt | hge
  · have hbi : (L.getD i default).1.length ≤ 140737488355328 ∧ (L.getD i default).2.length ≤ 140737488355328 := by
      have : L.getD i default = L[i] := by simp [hlt]
      rw [this]; exact hbL _ (List.getElem_mem _)
    have hstep : headS (n : Int) ++ (L.take (i + 1)).flatMap hline = headS (n : Int) ++ (L.take i).flatMap hline ++ ((L.getD i default).1 ++ [58, 32] ++ (L.getD i default).2 ++ [13, 10]) := by rw [flat_succ hlt, hline]; simp only [List.append_assoc]
    repeat' (first | (first | refine wc_seq ?_ | refine wc_region ?_ | refine wl_nil ?_ | refine wn_seq ?_ | refine wn_blk ?_ | refine wc_skip ?_ | refine wc_block ?_ | refine wc_exit rfl ?_ | (show WL _ _ (_ :: _) _ _ _ _; first | refine wl_v rfl rfl rfl (by first | (show OpV _ _ _ _ (Oper.mk _ (Op.move _) _ _ _ _) _ _; exact xo_move rfl) | (show OpV _ _ _ _ (Oper.mk _ (Op.assign _) _ _ _ _) _ _; exact xo_assign rfl) | (show OpV _ _ _ _ (Oper.mk _ (Op.call ⟨.builtin .len, _, _⟩) _ _ _ _) _ _; first | exact xo_slen rfl | exact xo_len rfl) | (show OpV _ _ _ _ (Oper.mk _ (Op.unOp _ _ _) _ _ _ _) _ _; exact xo_not rfl) | (show OpV _ _ _ _ (Oper.mk _ (Op.binOp BinOp.lss _ _ _ _) _ _ _ _) _ _; exact xo_lss rfl rfl) | (show OpV _ _ _ _ (Oper.mk _ (Op.binOp BinOp.add _ _ _ _) _ _ _ _) _ _; first | exact xo_add rfl rfl | exact ov_sadd rfl rfl (by first | with_reducible exact fun _ => rfl | with_reducible exact fun h => h | exact fun _ => rfl | exact fun h => h | (intro himp; simp_all; done)) (by first | with_reducible exact fun _ => rfl | with_reducible exact fun h => h | exact fun _ => rfl | exact fun h => h | (intro himp; simp_all; done)) (by intro hcg; first | omega | (simp only [List.length_append, List.length_take, List.length_drop, List.length_cons, List.length_nil, List.length_nil]; omega))) | (show OpV _ _ _ _ (Oper.mk _ (Op.slice _ _ (some _) (some _) none) _ _ _ _) _ _; first | exact xo_slice rfl rfl rfl | exact xo_slcB rfl rfl rfl) | (show OpV _ _ _ _ (Oper.mk _ (Op.slice _ _ (some _) none none) _ _ _ _) _ _; first | exact xo_from rfl rfl | exact xo_slcFrom rfl rfl) | (show OpV _ _ _ _ (Oper.mk _ (Op.slice _ _ none (some _) none) _ _ _ _) _ _; first | exact xo_to rfl rfl | exact xo_slcTo rfl rfl) | (show OpV _ _ _ _ (Oper.mk _ (Op.slice _ _ none (some _) (some _)) _ _ _ _) _ _; exact xo_slc3 rfl rfl rfl) | (show OpV _ _ _ _ (Oper.mk _ (Op.fieldAddr _ _ _) _ _ _ _) _ _; exact xo_fieldAddr rfl) | (show OpV _ _ _ _ (Oper.mk _ (Op.load _ _) _ _ _ _) _ _; first | exact xo_load1 rfl | exact xo_loadS rfl) | (show OpV _ _ _ _ (Oper.mk _ (Op.build _ _) _ _ _ _) _ _; exact xo_build rfl)) ?_ | refine wl_v rfl rfl rfl (by first | (show OpV _ _ _ _ (Oper.mk _ (Op.indexAddr _ _ _) _ _ _ _) _ _; exact ov_indexAddr rfl rfl (by (fail_if_success (with_reducible show (987654321 : Int) = _)); repeat' (first | with_reducible exact nc_cast | with_reducible exact nc_lit | apply nc_add | apply nc_div | apply nc_mod | apply nc_mul | refine nc_sub (m := _) (n := _) nc_cast nc_lit (by omega) | refine nc_sub (m := _) (n := _) nc_cast nc_cast (by omega))) (by first | with_reducible exact fun _ => rfl | with_reducible exact fun h => h | exact fun _ => rfl | exact fun h => h | (intro himp; simp_all; done)) (by first | with_reducible exact fun _ => rfl | with_reducible exact fun h => h | exact fun _ => rfl | exact fun h => h | (intro himp; simp_all; done)) rfl (by first | exact (rfl : _ = some 1) | exact (rfl : _ = some 2) | exact (rfl : _ = some 3) | exact (rfl : _ = some 4) | exact (rfl : _ = some 6) | exact rfl) (fun hcg => (h3 (by intro h; subst h; simp only [List.length_nil] at *; omega)).1) (by intro hcg; first | omega | (simp at hcg; omega))) | (show OpV _ _ _ _ (Oper.mk _ (Op.load _ _) _ _ _ _) _ _; exact ov_loadSM rfl (by first | with_reducible exact fun _ => rfl | with_reducible exact fun h => h | exact fun _ => rfl | exact fun h => h | (intro himp; simp_all; done)) rfl (by first | exact (rfl : _ = some 1) | exact (rfl : _ = some 2) | exact (rfl : _ = some 3) | exact (rfl : _ = some 4) | exact (rfl : _ = some 6) | exact rfl) (fun hcg => (h3 (by intro h; subst h; simp only [List.length_nil] at *; omega)).2) (fun hcg => pcell (h4 i (by omega)))) | fail) ?_ | refine xl_alloc (fun _ => ?_) | refine xl_box rfl (fun _ => ?_) | refine xl_store rfl rfl ?_ | refine xl_buildSlice rfl (fun _ => ?_)) | refine wc_ret rfl ?_) | (show WC _ (Code.cond _ _ _) _ _ _ _; (refine wc_cond rfl (fun hc => ?_) (fun hc => ?_) <;> (try (simp only [decide_eq_true_eq, decide_eq_false_iff_not, Bool.and_eq_true, Bool.or_eq_true, Bool.and_eq_false_iff, Bool.or_eq_false_iff, Bool.not_eq_true', Bool.not_eq_false', Int.not_lt, Int.not_le] at hc)) <;> (try (exfalso; first | omega | contradiction)))))
    refine wn_cut ⟨i + 1, by omega⟩ (by show L.length - (i + 1) < L.length - i; omega) (by repeat (first | exact Sub.nil _ | refine Sub.cons (by first | rfl | (simp only [look]; rw [hstep]; rfl) | (simp only [look]; rw [hstep]; simp; done)) ?_)) (fun _ h => h.drop (by repeat (first | exact List.Sublist.refl _ | apply List.Sublist.cons)))
  · rw [List.take_of_length_le (by omega)] at *
    repeat' (first | (first | refine wc_seq ?_ | refine wc_region ?_ | refine wl_nil ?_ | refine wn_seq ?_ | refine wn_blk ?_ | refine wc_skip ?_ | refine wc_block ?_ | refine wc_exit rfl ?_ | (show WL _ _ (_ :: _) _ _ _ _; first | refine wl_v rfl rfl rfl (by first | (show OpV _ _ _ _ (Oper.mk _ (Op.move _) _ _ _ _) _ _; exact xo_move rfl) | (show OpV _ _ _ _ (Oper.mk _ (Op.assign _) _ _ _ _) _ _; exact xo_assign rfl) | (show OpV _ _ _ _ (Oper.mk _ (Op.call ⟨.builtin .len, _, _⟩) _ _ _ _) _ _; first | exact xo_slen rfl | exact xo_len rfl) | (show OpV _ _ _ _ (Oper.mk _ (Op.unOp _ _ _) _ _ _ _) _ _; exact xo_not rfl) | (show OpV _ _ _ _ (Oper.mk _ (Op.binOp BinOp.lss _ _ _ _) _ _ _ _) _ _; exact xo_lss rfl rfl) | (show OpV _ _ _ _ (Oper.mk _ (Op.binOp BinOp.add _ _ _ _) _ _ _ _) _ _; first | exact xo_add rfl rfl | exact ov_sadd rfl rfl (by first | with_reducible exact fun _ => rfl | with_reducible exact fun h => h | exact fun _ => rfl | exact fun h => h | (intro himp; simp_all; done)) (by first | with_reducible exact fun _ => rfl | with_reducible exact fun h => h | exact fun _ => rfl | exact fun h => h | (intro himp; simp_all; done)) (by intro hcg; first | omega | (simp only [List.length_append, List.length_take, List.length_drop, List.length_cons, List.length_nil, List.length_nil]; omega))) | (show OpV _ _ _ _ (Oper.mk _ (Op.slice _ _ (some _) (some _) none) _ _ _ _) _ _; first | exact xo_slice rfl rfl rfl | exact xo_slcB rfl rfl rfl) | (show OpV _ _ _ _ (Oper.mk _ (Op.slice _ _ (some _) none none) _ _ _ _) _ _; first | exact xo_from rfl rfl | exact xo_slcFrom rfl rfl) | (show OpV _ _ _ _ (Oper.mk _ (Op.slice _ _ none (some _) none) _ _ _ _) _ _; first | exact xo_to rfl rfl | exact xo_slcTo rfl rfl) | (show OpV _ _ _ _ (Oper.mk _ (Op.slice _ _ none (some _) (some _)) _ _ _ _) _ _; exact xo_slc3 rfl rfl rfl) | (show OpV _ _ _ _ (Oper.mk _ (Op.fieldAddr _ _ _) _ _ _ _) _ _; exact xo_fieldAddr rfl) | (show OpV _ _ _ _ (Oper.mk _ (Op.load _ _) _ _ _ _) _ _; first | exact xo_load1 rfl | exact xo_loadS rfl) | (show OpV _ _ _ _ (Oper.mk _ (Op.build _ _) _ _ _ _) _ _; exact xo_build rfl)) ?_ | refine wl_v rfl rfl rfl (by first  | fail) ?_ | refine xl_alloc (fun _ => ?_) | refine xl_box rfl (fun _ => ?_) | refine xl_store rfl rfl ?_ | refine xl_buildSlice rfl (fun _ => ?_)) | refine wc_ret rfl ?_) | (show WC _ (Code.cond _ _ _) _ _ _ _; (refine wc_cond rfl (fun hc => ?_) (fun hc => ?_) <;> (try (simp only [decide_eq_true_eq, decide_eq_false_iff_not, Bool.and_eq_true, Bool.or_eq_true, Bool.and_eq_false_iff, Bool.or_eq_false_iff, Bool.not_eq_true', Bool.not_eq_false', Int.not_lt, Int.not_le] at hc)) <;> (try (exfalso; first | omega | contradiction)))))
    refine wr_tmp2 rfl rfl rfl ?_ ?_
    · rw [if_pos hR, writeR_eq2, hL]
    · rw [if_pos hR]
end Go.Proofs.YthkpekmecgbokaaDoor
/-
  The walks of the laws of chapter 5: the examples, ResponseUnlike, ResponseWrites, ResponseMakes.
-/
namespace Go.Proofs.YthkpekmecgbokaaDoor
open Go.Eng Go.Pct Go.Txt Go.Rsp
set_option maxRecDepth 10000
set_option linter.unusedSimpArgs false
set_option linter.unusedVariables false

variable {M : Ghost} {w : World}

def exA : List UInt8 := [72, 84, 84, 80, 47, 49, 46, 49, 32, 50, 48, 48, 32, 79, 75, 13, 10, 67, 111, 110, 116, 101, 110, 116, 45, 84, 121, 112, 101, 58, 32, 116, 101, 120, 116, 47, 112, 108, 97, 105, 110, 13, 10, 67, 111, 110, 116, 101, 110, 116, 45, 76, 101, 110, 103, 116, 104, 58, 32, 50, 13, 10, 13, 10, 110, 111]
def exB : List UInt8 := [72, 84, 84, 80, 47, 49, 46, 49, 32, 51, 48, 50, 32, 70, 111, 117, 110, 100, 13, 10, 76, 111, 99, 97, 116, 105, 111, 110, 58, 32, 104, 116, 116, 112, 58, 47, 47, 120, 47, 13, 10, 83, 101, 116, 45, 67, 111, 111, 107, 105, 101, 58, 32, 97, 61, 49, 13, 10, 67, 111, 110, 116, 101, 110, 116, 45, 76, 101, 110, 103, 116, 104, 58, 32, 48, 13, 10, 13, 10]
theorem exA_ok : resW ⟨200, [(sCT, [116, 101, 120, 116, 47, 112, 108, 97, 105, 110])], [110, 111]⟩ = .tuple #[str exA, i64 0] := by
  obtain ⟨i1, i2, i3, i4, i5, i6, i7⟩ := itoa3
  have hr : rightR ⟨200, [(sCT, [116, 101, 120, 116, 47, 112, 108, 97, 105, 110])], [110, 111]⟩ = true := by decide +kernel
  have h2 : Lib.itoa (([110, 111] : List UInt8).length : Int) = [50] := by rw [itoa_nat]; exact Lib.decDigits_one (by decide)
  unfold resW
  rw [if_pos hr, if_pos hr]
  have : writeR ⟨200, [(sCT, [116, 101, 120, 116, 47, 112, 108, 97, 105, 110])], [110, 111]⟩ = exA := by
    unfold writeR headS
    rw [i1, h2]
    decide +kernel
  rw [this]
theorem exB_ok : resW ⟨302, foundH [104, 116, 116, 112, 58, 47, 47, 120, 47] [[97, 61, 49]], []⟩ = .tuple #[str exB, i64 0] := by
  obtain ⟨i1, i2, i3, i4, i5, i6, i7⟩ := itoa3
  have hr : rightR ⟨302, foundH [104, 116, 116, 112, 58, 47, 47, 120, 47] [[97, 61, 49]], []⟩ = true := by decide +kernel
  have h2 : Lib.itoa (([] : List UInt8).length : Int) = [48] := by rw [itoa_nat]; exact Lib.decDigits_one (by decide)
  unfold resW
  rw [if_pos hr, if_pos hr]
  have : writeR ⟨302, foundH [104, 116, 116, 112, 58, 47, 47, 120, 47] [[97, 61, 49]], []⟩ = exB := by
    unfold writeR headS
    rw [i2, h2]
    decide +kernel
  rw [this]
theorem writeA_ok (hG : Glob M) (hM : Laid M w) {hv : Value} (hh : SlP M hv [(sCT, [116, 101, 120, 116, 47, 112, 108, 97, 105, 110])]) : Calls Tryd.prog 11 #[.agg #[i64 200, hv, str [110, 111]]] w (RetE w (.tuple #[str exA, i64 0])) := by
  rw [← exA_ok]
  exact write_ok hG hM hh 200 [110, 111] (by unfold Small; decide +kernel)
theorem writeB_ok (hG : Glob M) (hM : Laid M w) {hv : Value} (hh : SlP M hv (foundH [104, 116, 116, 112, 58, 47, 47, 120, 47] [[97, 61, 49]])) : Calls Tryd.prog 11 #[.agg #[i64 302, hv, str []]] w (RetE w (.tuple #[str exB, i64 0])) := by
  rw [← exB_ok]
  exact write_ok hG hM hh 302 [] (by unfold Small; decide +kernel)
theorem awake_ok (hG : Glob M) (hM : Laid M w) : Calls Tryd.prog 9 #[] w (RetE w (.bool true)) := by
  refine calls_st (l := []) hM Tryd.func9 rfl rfl rfl (E0 := []) (params_nil _) ?_
  repeat' (first | (first | refine wc_seq ?_ | refine wc_region ?_ | refine wl_nil ?_ | refine wn_seq ?_ | refine wn_blk ?_ | refine wc_skip ?_ | refine wc_block ?_ | refine wc_exit rfl ?_ | (show WL _ _ (_ :: _) _ _ _ _; first | refine wl_v rfl rfl rfl (by first | (show OpV _ _ _ _ (Oper.mk _ (Op.move _) _ _ _ _) _ _; exact xo_move rfl) | (show OpV _ _ _ _ (Oper.mk _ (Op.assign _) _ _ _ _) _ _; exact xo_assign rfl) | (show OpV _ _ _ _ (Oper.mk _ (Op.pick _ _ _) _ _ _ _) _ _; first | exact xo_and rfl rfl | exact xo_or rfl rfl) | (show OpV _ _ _ _ (Oper.mk _ (Op.extract _ _) _ _ _ _) _ _; exact xo_extract rfl) | (show OpV _ _ _ _ (Oper.mk _ (Op.binOp BinOp.eql _ _ _ _) _ _ _ _) _ _; first | exact xo_eql rfl rfl | exact xo_seql rfl rfl | exact xo_beql rfl rfl | exact xo_aeql rfl rfl)) ?_ | refine wl_v rfl rfl rfl (by first  | fail) ?_ | refine xl_buildSlice rfl (fun _ => ?_)) | refine wc_ret rfl ?_) | (show WC _ (Code.cond _ _ _) _ _ _ _; (refine wc_cond rfl (fun hc => ?_) (fun hc => ?_) <;> (try (simp only [decide_eq_true_eq, decide_eq_false_iff_not, Bool.and_eq_true, Bool.or_eq_true, Bool.and_eq_false_iff, Bool.or_eq_false_iff, Bool.not_eq_true', Bool.not_eq_false', Int.not_lt, Int.not_le] at hc)) <;> (try (exfalso; first | omega | contradiction)))))
  refine wl_callS rfl Tryd.call21 rfl rfl rfl rfl (fun w hw => page_ok hw.laid 200 [116, 101, 120, 116, 47, 112, 108, 97, 105, 110] [110, 111]) ?_
  rintro v Hn M1 hm1 hnew1 ⟨rfl, hv, rfl, hsv⟩
  have hG1 := hG.mono hm1
  repeat' (first | (first | refine wc_seq ?_ | refine wc_region ?_ | refine wl_nil ?_ | refine wn_seq ?_ | refine wn_blk ?_ | refine wc_skip ?_ | refine wc_block ?_ | refine wc_exit rfl ?_ | (show WL _ _ (_ :: _) _ _ _ _; first | refine wl_v rfl rfl rfl (by first | (show OpV _ _ _ _ (Oper.mk _ (Op.move _) _ _ _ _) _ _; exact xo_move rfl) | (show OpV _ _ _ _ (Oper.mk _ (Op.assign _) _ _ _ _) _ _; exact xo_assign rfl) | (show OpV _ _ _ _ (Oper.mk _ (Op.pick _ _ _) _ _ _ _) _ _; first | exact xo_and rfl rfl | exact xo_or rfl rfl) | (show OpV _ _ _ _ (Oper.mk _ (Op.extract _ _) _ _ _ _) _ _; exact xo_extract rfl) | (show OpV _ _ _ _ (Oper.mk _ (Op.binOp BinOp.eql _ _ _ _) _ _ _ _) _ _; first | exact xo_eql rfl rfl | exact xo_seql rfl rfl | exact xo_beql rfl rfl | exact xo_aeql rfl rfl)) ?_ | refine wl_v rfl rfl rfl (by first | ((show OpV _ _ _ _ (Oper.mk _ (Op.call ⟨.value (.func 11), _, _⟩) _ _ _ _) _ _; exact ov_call Tryd.call11 rfl (by intro himp; first | rfl | (simp_all; done)) (by rfl) (fun _ _ h k => h.ext k) (fun hcg w hw => writeA_ok hG1 hw.laid hsv))) | fail) ?_ | refine xl_buildSlice rfl (fun _ => ?_)) | refine wc_ret rfl ?_) | (show WC _ (Code.cond _ _ _) _ _ _ _; (refine wc_cond rfl (fun hc => ?_) (fun hc => ?_) <;> (try (simp only [decide_eq_true_eq, decide_eq_false_iff_not, Bool.and_eq_true, Bool.or_eq_true, Bool.and_eq_false_iff, Bool.or_eq_false_iff, Bool.not_eq_true', Bool.not_eq_false', Int.not_lt, Int.not_le] at hc)) <;> (try (exfalso; first | omega | contradiction)))))
  rename_i bb
  have hl : SlS (With M1 [(bb, .cells (cellsS [[97, 61, 49]]).toArray 9 (0, 0))]) (.slice (some ⟨bb, 0, none⟩) 1 1) [[97, 61, 49]] := (OwnS.lit (e := 9) (m := 1) (l := cellsS [[97, 61, 49]]) rfl (by decide)).slS (fun p hp => .inr hp) (by decide)
  refine wl_weak (Eng.Sub.refl _) (fun _ h => St.publish (H1 := [(bb, .cells (cellsS [[97, 61, 49]]).toArray 9 (0, 0))]) (H2 := []) h) ?_
  have hG2 : Glob (With M1 [(bb, .cells (cellsS [[97, 61, 49]]).toArray 9 (0, 0))]) := hG1.mono (fun _ _ => .inl)
  refine wl_callS rfl Tryd.call22 rfl rfl rfl rfl (fun w hw => found_ok hw.laid [104, 116, 116, 112, 58, 47, 47, 120, 47] hl (by decide)) ?_
  rintro v Hn M2 hm2 hnew2 ⟨rfl, hv2, rfl, hsv2⟩
  have hG3 := hG2.mono hm2
  repeat' (first | (first | refine wc_seq ?_ | refine wc_region ?_ | refine wl_nil ?_ | refine wn_seq ?_ | refine wn_blk ?_ | refine wc_skip ?_ | refine wc_block ?_ | refine wc_exit rfl ?_ | (show WL _ _ (_ :: _) _ _ _ _; first | refine wl_v rfl rfl rfl (by first | (show OpV _ _ _ _ (Oper.mk _ (Op.move _) _ _ _ _) _ _; exact xo_move rfl) | (show OpV _ _ _ _ (Oper.mk _ (Op.assign _) _ _ _ _) _ _; exact xo_assign rfl) | (show OpV _ _ _ _ (Oper.mk _ (Op.pick _ _ _) _ _ _ _) _ _; first | exact xo_and rfl rfl | exact xo_or rfl rfl) | (show OpV _ _ _ _ (Oper.mk _ (Op.extract _ _) _ _ _ _) _ _; exact xo_extract rfl) | (show OpV _ _ _ _ (Oper.mk _ (Op.binOp BinOp.eql _ _ _ _) _ _ _ _) _ _; first | exact xo_eql rfl rfl | exact xo_seql rfl rfl | exact xo_beql rfl rfl | exact xo_aeql rfl rfl)) ?_ | refine wl_v rfl rfl rfl (by first | ((show OpV _ _ _ _ (Oper.mk _ (Op.call ⟨.value (.func 11), _, _⟩) _ _ _ _) _ _; exact ov_call Tryd.call11 rfl (by intro himp; first | rfl | (simp_all; done)) (by rfl) (fun _ _ h k => h.ext k) (fun hcg w hw => writeB_ok hG3 hw.laid hsv2))) | fail) ?_ | refine xl_buildSlice rfl (fun _ => ?_)) | refine wc_ret rfl ?_) | (show WC _ (Code.cond _ _ _) _ _ _ _; (refine wc_cond rfl (fun hc => ?_) (fun hc => ?_) <;> (try (simp only [decide_eq_true_eq, decide_eq_false_iff_not, Bool.and_eq_true, Bool.or_eq_true, Bool.and_eq_false_iff, Bool.or_eq_false_iff, Bool.not_eq_true', Bool.not_eq_false', Int.not_lt, Int.not_le] at hc)) <;> (try (exfalso; first | omega | contradiction)))))
  exact wr_tmp rfl rfl (congrArg Value.bool (by decide +kernel))

theorem write_yes (hG : Glob M) (hM : Laid M w) {hv : Value} {l : List Pr} (hh : SlP M hv l) (st : Int) (bd : List UInt8) (hb : Small 140737488355328 l) (hr : rightR ⟨st, l, bd⟩ = true) : Calls Tryd.prog 11 #[.agg #[i64 st, hv, str bd]] w (RetE w (.tuple #[str (writeR ⟨st, l, bd⟩), i64 0])) := by
  have := write_ok hG hM hh st bd hb
  unfold resW at this
  rw [if_pos hr, if_pos hr] at this
  exact this
theorem write_no (hG : Glob M) (hM : Laid M w) {hv : Value} {l : List Pr} (hh : SlP M hv l) (st : Int) (bd : List UInt8) (hb : Small 140737488355328 l) (hr : ¬ rightR ⟨st, l, bd⟩ = true) : Calls Tryd.prog 11 #[.agg #[i64 st, hv, str bd]] w (RetE w (.tuple #[str [], i64 1])) := by
  have := write_ok hG hM hh st bd hb
  unfold resW at this
  rw [if_neg hr, if_neg hr] at this
  exact this

theorem unlike_ok (hG : Glob M) (hM : Laid M w) {ha hb : Value} {la lb : List Pr} (hha : SlP M ha la) (hhb : SlP M hb lb) (sa sb : Int) (ba bb : List UInt8) (ka : Small 140737488355328 la) (kb : Small 140737488355328 lb) : Calls Tryd.prog 3 #[.agg #[i64 sa, ha, str ba], .agg #[i64 sb, hb, str bb]] w (RetE w (.bool true)) := by
  refine calls_st (l := [.agg #[i64 sa, ha, str ba], .agg #[i64 sb, hb, str bb]]) hM Tryd.func3 rfl rfl rfl (E0 := [(0, true, .agg #[i64 sa, ha, str ba]), (1, true, .agg #[i64 sb, hb, str bb])]) (params_cons rfl (params_cons rfl (params_nil _))) ?_
  by_cases ra : rightR ⟨sa, la, ba⟩ = true
  · by_cases rb : rightR ⟨sb, lb, bb⟩ = true
    · have e1 := write_same ra rb
      have e2 := write_begins ra rb
      have wa : ∀ {w : World}, Laid M w → Calls Tryd.prog 11 #[.agg #[i64 sa, ha, str ba]] w (RetE w (.tuple #[str (writeR ⟨sa, la, ba⟩), i64 0])) := fun h => write_yes hG h hha _ _ ka ra
      have wb : ∀ {w : World}, Laid M w → Calls Tryd.prog 11 #[.agg #[i64 sb, hb, str bb]] w (RetE w (.tuple #[str (writeR ⟨sb, lb, bb⟩), i64 0])) := fun h => write_yes hG h hhb _ _ kb rb
      generalize writeR ⟨sa, la, ba⟩ = s at *
      generalize writeR ⟨sb, lb, bb⟩ = t at *
      repeat' (first | (first | refine wc_seq ?_ | refine wc_region ?_ | refine wl_nil ?_ | refine wn_seq ?_ | refine wn_blk ?_ | refine wc_skip ?_ | refine wc_block ?_ | refine wc_exit rfl ?_ | (show WL _ _ (_ :: _) _ _ _ _; first | refine wl_v rfl rfl rfl (by first | (show OpV _ _ _ _ (Oper.mk _ (Op.move _) _ _ _ _) _ _; exact xo_move rfl) | (show OpV _ _ _ _ (Oper.mk _ (Op.assign _) _ _ _ _) _ _; exact xo_assign rfl) | (show OpV _ _ _ _ (Oper.mk _ (Op.pick _ _ _) _ _ _ _) _ _; first | exact xo_and rfl rfl | exact xo_or rfl rfl) | (show OpV _ _ _ _ (Oper.mk _ (Op.extract _ _) _ _ _ _) _ _; exact xo_extract rfl) | (show OpV _ _ _ _ (Oper.mk _ (Op.call ⟨.builtin .len, _, _⟩) _ _ _ _) _ _; first | exact xo_slen rfl | exact xo_len rfl) | (show OpV _ _ _ _ (Oper.mk _ (Op.unOp _ _ _) _ _ _ _) _ _; exact xo_not rfl) | (show OpV _ _ _ _ (Oper.mk _ (Op.binOp BinOp.eql _ _ _ _) _ _ _ _) _ _; first | exact xo_eql rfl rfl | exact xo_seql rfl rfl | exact xo_beql rfl rfl | exact xo_aeql rfl rfl) | (show OpV _ _ _ _ (Oper.mk _ (Op.binOp BinOp.neq _ _ _ _) _ _ _ _) _ _; first | exact xo_neq rfl rfl | exact xo_sneq rfl rfl | exact xo_bneq rfl rfl | exact xo_aneq rfl rfl) | (show OpV _ _ _ _ (Oper.mk _ (Op.binOp BinOp.leq _ _ _ _) _ _ _ _) _ _; exact xo_leq rfl rfl) | (show OpV _ _ _ _ (Oper.mk _ (Op.slice _ _ (some _) (some _) none) _ _ _ _) _ _; first | exact xo_slice rfl rfl rfl | exact xo_slcB rfl rfl rfl) | (show OpV _ _ _ _ (Oper.mk _ (Op.slice _ _ (some _) none none) _ _ _ _) _ _; first | exact xo_from rfl rfl | exact xo_slcFrom rfl rfl) | (show OpV _ _ _ _ (Oper.mk _ (Op.slice _ _ none (some _) none) _ _ _ _) _ _; first | exact xo_to rfl rfl | exact xo_slcTo rfl rfl) | (show OpV _ _ _ _ (Oper.mk _ (Op.slice _ _ none (some _) (some _)) _ _ _ _) _ _; exact xo_slc3 rfl rfl rfl) | (show OpV _ _ _ _ (Oper.mk _ (Op.load _ _) _ _ _ _) _ _; first | exact xo_load1 rfl | exact xo_loadS rfl)) ?_ | refine wl_v rfl rfl rfl (by first | ((show OpV _ _ _ _ (Oper.mk _ (Op.call ⟨.value (.func 9), _, _⟩) _ _ _ _) _ _; exact ov_call Tryd.call9 rfl (by intro himp; first | rfl | (simp_all; done)) (by rfl) (fun _ _ h k => h.ext k) (fun hcg w hw => awake_ok hG hw.laid))) | ((show OpV _ _ _ _ (Oper.mk _ (Op.call ⟨.value (.func 10), _, _⟩) _ _ _ _) _ _; exact ov_call Tryd.call10 rfl (by intro himp; first | rfl | (simp_all; done)) (by rfl) (fun _ _ h k => h.ext k) (fun hcg w hw => rfew_ok hw.laid hha _ _))) | ((show OpV _ _ _ _ (Oper.mk _ (Op.call ⟨.value (.func 10), _, _⟩) _ _ _ _) _ _; exact ov_call Tryd.call10 rfl (by intro himp; first | rfl | (simp_all; done)) (by rfl) (fun _ _ h k => h.ext k) (fun hcg w hw => rfew_ok hw.laid hhb _ _))) | ((show OpV _ _ _ _ (Oper.mk _ (Op.call ⟨.value (.func 11), _, _⟩) _ _ _ _) _ _; exact ov_call Tryd.call11 rfl (by intro himp; first | rfl | (simp_all; done)) (by rfl) (fun _ _ h k => h.ext k) (fun hcg w hw => wa hw.laid))) | ((show OpV _ _ _ _ (Oper.mk _ (Op.call ⟨.value (.func 11), _, _⟩) _ _ _ _) _ _; exact ov_call Tryd.call11 rfl (by intro himp; first | rfl | (simp_all; done)) (by rfl) (fun _ _ h k => h.ext k) (fun hcg w hw => wb hw.laid))) | ((show OpV _ _ _ _ (Oper.mk _ (Op.call ⟨.value (.func 12), _, _⟩) _ _ _ _) _ _; exact ov_call Tryd.call12 rfl (by intro himp; first | rfl | (simp_all; done)) (by rfl) (fun _ _ h k => h.ext k) (fun hcg w hw => same_ok hw.laid hha hhb _ _ _ _))) | fail) ?_ | refine xl_box rfl (fun _ => ?_)) | refine wc_ret rfl ?_) | (show WC _ (Code.cond _ _ _) _ _ _ _; (refine wc_cond rfl (fun hc => ?_) (fun hc => ?_) <;> (try (simp only [decide_eq_true_eq, decide_eq_false_iff_not, Bool.and_eq_true, Bool.or_eq_true, Bool.and_eq_false_iff, Bool.or_eq_false_iff, Bool.not_eq_true', Bool.not_eq_false', Int.not_lt, Int.not_le] at hc)) <;> (try (exfalso; first | omega | contradiction)))))
      · exact wr_tmp rfl rfl rfl
      · refine wr_tmp rfl rfl (congrArg Value.bool ?_)
        by_cases h : (⟨sa, la, ba⟩ : Resp) = ⟨sb, lb, bb⟩
        · have h1 := e1.2 h
          have h2 := e2.2 h
          rw [decide_eq_true h, decide_eq_true h1]
          have h3 : decide ((s.length : Int) ≤ (t.length : Int)) = true := decide_eq_true (by omega)
          rw [h3, decide_eq_true h2.2]; rfl
        · have h1 : ¬ s = t := fun e => h (e1.1 e)
          rw [decide_eq_false h, decide_eq_false h1]
          have h3 : (decide ((s.length : Int) ≤ (t.length : Int)) && decide (t.take s.length = s)) = false := by
            rw [Bool.eq_false_iff]
            intro hh
            simp only [Bool.and_eq_true, decide_eq_true_eq] at hh
            exact h (e2.1 ⟨by omega, hh.2⟩)
          rw [h3]; rfl
    · repeat' (first | (first | refine wc_seq ?_ | refine wc_region ?_ | refine wl_nil ?_ | refine wn_seq ?_ | refine wn_blk ?_ | refine wc_skip ?_ | refine wc_block ?_ | refine wc_exit rfl ?_ | (show WL _ _ (_ :: _) _ _ _ _; first | refine wl_v rfl rfl rfl (by first | (show OpV _ _ _ _ (Oper.mk _ (Op.move _) _ _ _ _) _ _; exact xo_move rfl) | (show OpV _ _ _ _ (Oper.mk _ (Op.assign _) _ _ _ _) _ _; exact xo_assign rfl) | (show OpV _ _ _ _ (Oper.mk _ (Op.pick _ _ _) _ _ _ _) _ _; first | exact xo_and rfl rfl | exact xo_or rfl rfl) | (show OpV _ _ _ _ (Oper.mk _ (Op.extract _ _) _ _ _ _) _ _; exact xo_extract rfl) | (show OpV _ _ _ _ (Oper.mk _ (Op.call ⟨.builtin .len, _, _⟩) _ _ _ _) _ _; first | exact xo_slen rfl | exact xo_len rfl) | (show OpV _ _ _ _ (Oper.mk _ (Op.unOp _ _ _) _ _ _ _) _ _; exact xo_not rfl) | (show OpV _ _ _ _ (Oper.mk _ (Op.binOp BinOp.eql _ _ _ _) _ _ _ _) _ _; first | exact xo_eql rfl rfl | exact xo_seql rfl rfl | exact xo_beql rfl rfl | exact xo_aeql rfl rfl) | (show OpV _ _ _ _ (Oper.mk _ (Op.binOp BinOp.neq _ _ _ _) _ _ _ _) _ _; first | exact xo_neq rfl rfl | exact xo_sneq rfl rfl | exact xo_bneq rfl rfl | exact xo_aneq rfl rfl) | (show OpV _ _ _ _ (Oper.mk _ (Op.binOp BinOp.leq _ _ _ _) _ _ _ _) _ _; exact xo_leq rfl rfl) | (show OpV _ _ _ _ (Oper.mk _ (Op.slice _ _ (some _) (some _) none) _ _ _ _) _ _; first | exact xo_slice rfl rfl rfl | exact xo_slcB rfl rfl rfl) | (show OpV _ _ _ _ (Oper.mk _ (Op.slice _ _ (some _) none none) _ _ _ _) _ _; first | exact xo_from rfl rfl | exact xo_slcFrom rfl rfl) | (show OpV _ _ _ _ (Oper.mk _ (Op.slice _ _ none (some _) none) _ _ _ _) _ _; first | exact xo_to rfl rfl | exact xo_slcTo rfl rfl) | (show OpV _ _ _ _ (Oper.mk _ (Op.slice _ _ none (some _) (some _)) _ _ _ _) _ _; exact xo_slc3 rfl rfl rfl) | (show OpV _ _ _ _ (Oper.mk _ (Op.load _ _) _ _ _ _) _ _; first | exact xo_load1 rfl | exact xo_loadS rfl)) ?_ | refine wl_v rfl rfl rfl (by first | ((show OpV _ _ _ _ (Oper.mk _ (Op.call ⟨.value (.func 9), _, _⟩) _ _ _ _) _ _; exact ov_call Tryd.call9 rfl (by intro himp; first | rfl | (simp_all; done)) (by rfl) (fun _ _ h k => h.ext k) (fun hcg w hw => awake_ok hG hw.laid))) | ((show OpV _ _ _ _ (Oper.mk _ (Op.call ⟨.value (.func 10), _, _⟩) _ _ _ _) _ _; exact ov_call Tryd.call10 rfl (by intro himp; first | rfl | (simp_all; done)) (by rfl) (fun _ _ h k => h.ext k) (fun hcg w hw => rfew_ok hw.laid hha _ _))) | ((show OpV _ _ _ _ (Oper.mk _ (Op.call ⟨.value (.func 10), _, _⟩) _ _ _ _) _ _; exact ov_call Tryd.call10 rfl (by intro himp; first | rfl | (simp_all; done)) (by rfl) (fun _ _ h k => h.ext k) (fun hcg w hw => rfew_ok hw.laid hhb _ _))) | ((show OpV _ _ _ _ (Oper.mk _ (Op.call ⟨.value (.func 11), _, _⟩) _ _ _ _) _ _; exact ov_call Tryd.call11 rfl (by intro himp; first | rfl | (simp_all; done)) (by rfl) (fun _ _ h k => h.ext k) (fun hcg w hw => write_yes hG hw.laid hha _ _ ka ra))) | ((show OpV _ _ _ _ (Oper.mk _ (Op.call ⟨.value (.func 11), _, _⟩) _ _ _ _) _ _; exact ov_call Tryd.call11 rfl (by intro himp; first | rfl | (simp_all; done)) (by rfl) (fun _ _ h k => h.ext k) (fun hcg w hw => write_no hG hw.laid hhb _ _ kb rb))) | fail) ?_ | refine xl_box rfl (fun _ => ?_)) | refine wc_ret rfl ?_) | (show WC _ (Code.cond _ _ _) _ _ _ _; (refine wc_cond rfl (fun hc => ?_) (fun hc => ?_) <;> (try (simp only [decide_eq_true_eq, decide_eq_false_iff_not, Bool.and_eq_true, Bool.or_eq_true, Bool.and_eq_false_iff, Bool.or_eq_false_iff, Bool.not_eq_true', Bool.not_eq_false', Int.not_lt, Int.not_le] at hc)) <;> (try (exfalso; first | omega | contradiction)))))
      all_goals first | exact wr_tmp rfl rfl rfl | (exfalso; simp at hc)
  · by_cases rb : rightR ⟨sb, lb, bb⟩ = true
    · repeat' (first | (first | refine wc_seq ?_ | refine wc_region ?_ | refine wl_nil ?_ | refine wn_seq ?_ | refine wn_blk ?_ | refine wc_skip ?_ | refine wc_block ?_ | refine wc_exit rfl ?_ | (show WL _ _ (_ :: _) _ _ _ _; first | refine wl_v rfl rfl rfl (by first | (show OpV _ _ _ _ (Oper.mk _ (Op.move _) _ _ _ _) _ _; exact xo_move rfl) | (show OpV _ _ _ _ (Oper.mk _ (Op.assign _) _ _ _ _) _ _; exact xo_assign rfl) | (show OpV _ _ _ _ (Oper.mk _ (Op.pick _ _ _) _ _ _ _) _ _; first | exact xo_and rfl rfl | exact xo_or rfl rfl) | (show OpV _ _ _ _ (Oper.mk _ (Op.extract _ _) _ _ _ _) _ _; exact xo_extract rfl) | (show OpV _ _ _ _ (Oper.mk _ (Op.call ⟨.builtin .len, _, _⟩) _ _ _ _) _ _; first | exact xo_slen rfl | exact xo_len rfl) | (show OpV _ _ _ _ (Oper.mk _ (Op.unOp _ _ _) _ _ _ _) _ _; exact xo_not rfl) | (show OpV _ _ _ _ (Oper.mk _ (Op.binOp BinOp.eql _ _ _ _) _ _ _ _) _ _; first | exact xo_eql rfl rfl | exact xo_seql rfl rfl | exact xo_beql rfl rfl | exact xo_aeql rfl rfl) | (show OpV _ _ _ _ (Oper.mk _ (Op.binOp BinOp.neq _ _ _ _) _ _ _ _) _ _; first | exact xo_neq rfl rfl | exact xo_sneq rfl rfl | exact xo_bneq rfl rfl | exact xo_aneq rfl rfl) | (show OpV _ _ _ _ (Oper.mk _ (Op.binOp BinOp.leq _ _ _ _) _ _ _ _) _ _; exact xo_leq rfl rfl) | (show OpV _ _ _ _ (Oper.mk _ (Op.slice _ _ (some _) (some _) none) _ _ _ _) _ _; first | exact xo_slice rfl rfl rfl | exact xo_slcB rfl rfl rfl) | (show OpV _ _ _ _ (Oper.mk _ (Op.slice _ _ (some _) none none) _ _ _ _) _ _; first | exact xo_from rfl rfl | exact xo_slcFrom rfl rfl) | (show OpV _ _ _ _ (Oper.mk _ (Op.slice _ _ none (some _) none) _ _ _ _) _ _; first | exact xo_to rfl rfl | exact xo_slcTo rfl rfl) | (show OpV _ _ _ _ (Oper.mk _ (Op.slice _ _ none (some _) (some _)) _ _ _ _) _ _; exact xo_slc3 rfl rfl rfl) | (show OpV _ _ _ _ (Oper.mk _ (Op.load _ _) _ _ _ _) _ _; first | exact xo_load1 rfl | exact xo_loadS rfl)) ?_ | refine wl_v rfl rfl rfl (by first | ((show OpV _ _ _ _ (Oper.mk _ (Op.call ⟨.value (.func 9), _, _⟩) _ _ _ _) _ _; exact ov_call Tryd.call9 rfl (by intro himp; first | rfl | (simp_all; done)) (by rfl) (fun _ _ h k => h.ext k) (fun hcg w hw => awake_ok hG hw.laid))) | ((show OpV _ _ _ _ (Oper.mk _ (Op.call ⟨.value (.func 10), _, _⟩) _ _ _ _) _ _; exact ov_call Tryd.call10 rfl (by intro himp; first | rfl | (simp_all; done)) (by rfl) (fun _ _ h k => h.ext k) (fun hcg w hw => rfew_ok hw.laid hha _ _))) | ((show OpV _ _ _ _ (Oper.mk _ (Op.call ⟨.value (.func 10), _, _⟩) _ _ _ _) _ _; exact ov_call Tryd.call10 rfl (by intro himp; first | rfl | (simp_all; done)) (by rfl) (fun _ _ h k => h.ext k) (fun hcg w hw => rfew_ok hw.laid hhb _ _))) | ((show OpV _ _ _ _ (Oper.mk _ (Op.call ⟨.value (.func 11), _, _⟩) _ _ _ _) _ _; exact ov_call Tryd.call11 rfl (by intro himp; first | rfl | (simp_all; done)) (by rfl) (fun _ _ h k => h.ext k) (fun hcg w hw => write_no hG hw.laid hha _ _ ka ra))) | ((show OpV _ _ _ _ (Oper.mk _ (Op.call ⟨.value (.func 11), _, _⟩) _ _ _ _) _ _; exact ov_call Tryd.call11 rfl (by intro himp; first | rfl | (simp_all; done)) (by rfl) (fun _ _ h k => h.ext k) (fun hcg w hw => write_yes hG hw.laid hhb _ _ kb rb))) | fail) ?_ | refine xl_box rfl (fun _ => ?_)) | refine wc_ret rfl ?_) | (show WC _ (Code.cond _ _ _) _ _ _ _; (refine wc_cond rfl (fun hc => ?_) (fun hc => ?_) <;> (try (simp only [decide_eq_true_eq, decide_eq_false_iff_not, Bool.and_eq_true, Bool.or_eq_true, Bool.and_eq_false_iff, Bool.or_eq_false_iff, Bool.not_eq_true', Bool.not_eq_false', Int.not_lt, Int.not_le] at hc)) <;> (try (exfalso; first | omega | contradiction)))))
      all_goals first | exact wr_tmp rfl rfl rfl | (exfalso; simp at hc)
    · repeat' (first | (first | refine wc_seq ?_ | refine wc_region ?_ | refine wl_nil ?_ | refine wn_seq ?_ | refine wn_blk ?_ | refine wc_skip ?_ | refine wc_block ?_ | refine wc_exit rfl ?_ | (show WL _ _ (_ :: _) _ _ _ _; first | refine wl_v rfl rfl rfl (by first | (show OpV _ _ _ _ (Oper.mk _ (Op.move _) _ _ _ _) _ _; exact xo_move rfl) | (show OpV _ _ _ _ (Oper.mk _ (Op.assign _) _ _ _ _) _ _; exact xo_assign rfl) | (show OpV _ _ _ _ (Oper.mk _ (Op.pick _ _ _) _ _ _ _) _ _; first | exact xo_and rfl rfl | exact xo_or rfl rfl) | (show OpV _ _ _ _ (Oper.mk _ (Op.extract _ _) _ _ _ _) _ _; exact xo_extract rfl) | (show OpV _ _ _ _ (Oper.mk _ (Op.call ⟨.builtin .len, _, _⟩) _ _ _ _) _ _; first | exact xo_slen rfl | exact xo_len rfl) | (show OpV _ _ _ _ (Oper.mk _ (Op.unOp _ _ _) _ _ _ _) _ _; exact xo_not rfl) | (show OpV _ _ _ _ (Oper.mk _ (Op.binOp BinOp.eql _ _ _ _) _ _ _ _) _ _; first | exact xo_eql rfl rfl | exact xo_seql rfl rfl | exact xo_beql rfl rfl | exact xo_aeql rfl rfl) | (show OpV _ _ _ _ (Oper.mk _ (Op.binOp BinOp.neq _ _ _ _) _ _ _ _) _ _; first | exact xo_neq rfl rfl | exact xo_sneq rfl rfl | exact xo_bneq rfl rfl | exact xo_aneq rfl rfl) | (show OpV _ _ _ _ (Oper.mk _ (Op.binOp BinOp.leq _ _ _ _) _ _ _ _) _ _; exact xo_leq rfl rfl) | (show OpV _ _ _ _ (Oper.mk _ (Op.slice _ _ (some _) (some _) none) _ _ _ _) _ _; first | exact xo_slice rfl rfl rfl | exact xo_slcB rfl rfl rfl) | (show OpV _ _ _ _ (Oper.mk _ (Op.slice _ _ (some _) none none) _ _ _ _) _ _; first | exact xo_from rfl rfl | exact xo_slcFrom rfl rfl) | (show OpV _ _ _ _ (Oper.mk _ (Op.slice _ _ none (some _) none) _ _ _ _) _ _; first | exact xo_to rfl rfl | exact xo_slcTo rfl rfl) | (show OpV _ _ _ _ (Oper.mk _ (Op.slice _ _ none (some _) (some _)) _ _ _ _) _ _; exact xo_slc3 rfl rfl rfl) | (show OpV _ _ _ _ (Oper.mk _ (Op.load _ _) _ _ _ _) _ _; first | exact xo_load1 rfl | exact xo_loadS rfl)) ?_ | refine wl_v rfl rfl rfl (by first | ((show OpV _ _ _ _ (Oper.mk _ (Op.call ⟨.value (.func 9), _, _⟩) _ _ _ _) _ _; exact ov_call Tryd.call9 rfl (by intro himp; first | rfl | (simp_all; done)) (by rfl) (fun _ _ h k => h.ext k) (fun hcg w hw => awake_ok hG hw.laid))) | ((show OpV _ _ _ _ (Oper.mk _ (Op.call ⟨.value (.func 10), _, _⟩) _ _ _ _) _ _; exact ov_call Tryd.call10 rfl (by intro himp; first | rfl | (simp_all; done)) (by rfl) (fun _ _ h k => h.ext k) (fun hcg w hw => rfew_ok hw.laid hha _ _))) | ((show OpV _ _ _ _ (Oper.mk _ (Op.call ⟨.value (.func 10), _, _⟩) _ _ _ _) _ _; exact ov_call Tryd.call10 rfl (by intro himp; first | rfl | (simp_all; done)) (by rfl) (fun _ _ h k => h.ext k) (fun hcg w hw => rfew_ok hw.laid hhb _ _))) | ((show OpV _ _ _ _ (Oper.mk _ (Op.call ⟨.value (.func 11), _, _⟩) _ _ _ _) _ _; exact ov_call Tryd.call11 rfl (by intro himp; first | rfl | (simp_all; done)) (by rfl) (fun _ _ h k => h.ext k) (fun hcg w hw => write_no hG hw.laid hha _ _ ka ra))) | ((show OpV _ _ _ _ (Oper.mk _ (Op.call ⟨.value (.func 11), _, _⟩) _ _ _ _) _ _; exact ov_call Tryd.call11 rfl (by intro himp; first | rfl | (simp_all; done)) (by rfl) (fun _ _ h k => h.ext k) (fun hcg w hw => write_no hG hw.laid hhb _ _ kb rb))) | fail) ?_ | refine xl_box rfl (fun _ => ?_)) | refine wc_ret rfl ?_) | (show WC _ (Code.cond _ _ _) _ _ _ _; (refine wc_cond rfl (fun hc => ?_) (fun hc => ?_) <;> (try (simp only [decide_eq_true_eq, decide_eq_false_iff_not, Bool.and_eq_true, Bool.or_eq_true, Bool.and_eq_false_iff, Bool.or_eq_false_iff, Bool.not_eq_true', Bool.not_eq_false', Int.not_lt, Int.not_le] at hc)) <;> (try (exfalso; first | omega | contradiction)))))
      all_goals first | exact wr_tmp rfl rfl rfl | (exfalso; simp at hc)

theorem few_small {r : Resp} (h : fewR r = true) : Small 140737488355328 r.headers ∧ r.headers.length ≤ 50 := by
  unfold fewR at h
  simp only [Bool.and_eq_true] at h
  obtain ⟨h1, h2⟩ := fewB_small h.1
  exact ⟨fun p hp => ⟨Nat.le_trans (h1 p hp).1 (by decide), Nat.le_trans (h1 p hp).2 (by decide)⟩, h2⟩
theorem writes_ok (hG : Glob M) (hM : Laid M w) {hv : Value} {l : List Pr} (hh : SlP M hv l) (st z : Int) (bd name : List UInt8) : Calls Tryd.prog 4 #[.agg #[i64 st, hv, str bd], i64 z, str name] w (RetE w (.bool true)) := by
  refine calls_st (l := [.agg #[i64 st, hv, str bd], i64 z, str name]) hM Tryd.func4 rfl rfl rfl (E0 := [(0, true, .agg #[i64 st, hv, str bd]), (1, true, i64 z), (2, true, str name)]) (params_cons rfl (params_cons rfl (params_cons rfl (params_nil _)))) ?_
  repeat' (first | (first | refine wc_seq ?_ | refine wc_region ?_ | refine wl_nil ?_ | refine wn_seq ?_ | refine wn_blk ?_ | refine wc_skip ?_ | refine wc_block ?_ | refine wc_exit rfl ?_ | (show WL _ _ (_ :: _) _ _ _ _; first | refine wl_v rfl rfl rfl (by first | (show OpV _ _ _ _ (Oper.mk _ (Op.move _) _ _ _ _) _ _; exact xo_move rfl) | (show OpV _ _ _ _ (Oper.mk _ (Op.assign _) _ _ _ _) _ _; exact xo_assign rfl) | (show OpV _ _ _ _ (Oper.mk _ (Op.pick _ _ _) _ _ _ _) _ _; first | exact xo_and rfl rfl | exact xo_or rfl rfl) | (show OpV _ _ _ _ (Oper.mk _ (Op.extract _ _) _ _ _ _) _ _; exact xo_extract rfl) | (show OpV _ _ _ _ (Oper.mk _ (Op.call ⟨.builtin .len, _, _⟩) _ _ _ _) _ _; first | exact xo_slen rfl | exact xo_len rfl) | (show OpV _ _ _ _ (Oper.mk _ (Op.unOp _ _ _) _ _ _ _) _ _; exact xo_not rfl) | (show OpV _ _ _ _ (Oper.mk _ (Op.binOp BinOp.eql _ _ _ _) _ _ _ _) _ _; first | exact xo_eql rfl rfl | exact xo_seql rfl rfl | exact xo_beql rfl rfl | exact xo_aeql rfl rfl) | (show OpV _ _ _ _ (Oper.mk _ (Op.binOp BinOp.gtr _ _ _ _) _ _ _ _) _ _; exact xo_gtr rfl rfl) | (show OpV _ _ _ _ (Oper.mk _ (Op.load _ _) _ _ _ _) _ _; first | exact xo_load1 rfl | exact xo_loadS rfl)) ?_ | refine wl_v rfl rfl rfl (by first | ((show OpV _ _ _ _ (Oper.mk _ (Op.call ⟨.value (.func 9), _, _⟩) _ _ _ _) _ _; exact ov_call Tryd.call9 rfl (by intro himp; first | rfl | (simp_all; done)) (by rfl) (fun _ _ h k => h.ext k) (fun hcg w hw => awake_ok hG hw.laid))) | ((show OpV _ _ _ _ (Oper.mk _ (Op.call ⟨.value (.func 10), _, _⟩) _ _ _ _) _ _; exact ov_call Tryd.call10 rfl (by intro himp; first | rfl | (simp_all; done)) (by rfl) (fun _ _ h k => h.ext k) (fun hcg w hw => rfew_ok hw.laid hh _ _))) | fail) ?_ | refine xl_box rfl (fun _ => ?_)) | refine wc_ret rfl ?_) | (show WC _ (Code.cond _ _ _) _ _ _ _; (refine wc_cond rfl (fun hc => ?_) (fun hc => ?_) <;> (try (simp only [decide_eq_true_eq, decide_eq_false_iff_not, Bool.and_eq_true, Bool.or_eq_true, Bool.and_eq_false_iff, Bool.or_eq_false_iff, Bool.not_eq_true', Bool.not_eq_false', Int.not_lt, Int.not_le] at hc)) <;> (try (exfalso; first | omega | contradiction)))))
  · exact wr_tmp rfl rfl rfl
  obtain ⟨hsm, hn⟩ := few_small hc.1
  dsimp only at hsm hn
  repeat' (first | (first | refine wc_seq ?_ | refine wc_region ?_ | refine wl_nil ?_ | refine wn_seq ?_ | refine wn_blk ?_ | refine wc_skip ?_ | refine wc_block ?_ | refine wc_exit rfl ?_ | (show WL _ _ (_ :: _) _ _ _ _; first | refine wl_v rfl rfl rfl (by first | (show OpV _ _ _ _ (Oper.mk _ (Op.move _) _ _ _ _) _ _; exact xo_move rfl) | (show OpV _ _ _ _ (Oper.mk _ (Op.assign _) _ _ _ _) _ _; exact xo_assign rfl) | (show OpV _ _ _ _ (Oper.mk _ (Op.pick _ _ _) _ _ _ _) _ _; first | exact xo_and rfl rfl | exact xo_or rfl rfl) | (show OpV _ _ _ _ (Oper.mk _ (Op.extract _ _) _ _ _ _) _ _; exact xo_extract rfl) | (show OpV _ _ _ _ (Oper.mk _ (Op.call ⟨.builtin .len, _, _⟩) _ _ _ _) _ _; first | exact xo_slen rfl | exact xo_len rfl) | (show OpV _ _ _ _ (Oper.mk _ (Op.unOp _ _ _) _ _ _ _) _ _; exact xo_not rfl) | (show OpV _ _ _ _ (Oper.mk _ (Op.binOp BinOp.eql _ _ _ _) _ _ _ _) _ _; first | exact xo_eql rfl rfl | exact xo_seql rfl rfl | exact xo_beql rfl rfl | exact xo_aeql rfl rfl) | (show OpV _ _ _ _ (Oper.mk _ (Op.binOp BinOp.gtr _ _ _ _) _ _ _ _) _ _; exact xo_gtr rfl rfl) | (show OpV _ _ _ _ (Oper.mk _ (Op.load _ _) _ _ _ _) _ _; first | exact xo_load1 rfl | exact xo_loadS rfl)) ?_ | refine wl_v rfl rfl rfl (by first | ((show OpV _ _ _ _ (Oper.mk _ (Op.call ⟨.value (.func 11), _, _⟩) _ _ _ _) _ _; exact ov_call Tryd.call11 rfl (by intro himp; first | rfl | (simp_all; done)) (by rfl) (fun _ _ h k => h.ext k) (fun hcg w hw => write_ok hG hw.laid hh _ _ hsm))) | ((show OpV _ _ _ _ (Oper.mk _ (Op.call ⟨.value (.func 13), _, _⟩) _ _ _ _) _ _; exact ov_call Tryd.call13 rfl (by intro himp; first | rfl | (simp_all; done)) (by rfl) (fun _ _ h k => h.ext k) (fun hcg w hw => rwriteR_ok hw.laid hh _ _ hsm))) | fail) ?_ | refine xl_box rfl (fun _ => ?_)) | refine wc_ret rfl ?_) | (show WC _ (Code.cond _ _ _) _ _ _ _; (refine wc_cond rfl (fun hc => ?_) (fun hc => ?_) <;> (try (simp only [decide_eq_true_eq, decide_eq_false_iff_not, Bool.and_eq_true, Bool.or_eq_true, Bool.and_eq_false_iff, Bool.or_eq_false_iff, Bool.not_eq_true', Bool.not_eq_false', Int.not_lt, Int.not_le] at hc)) <;> (try (exfalso; first | omega | contradiction)))))
  rename_i b1
  generalize (if rightR ⟨st, l, bd⟩ = true then writeR ⟨st, l, bd⟩ else []) = S
  generalize (if rightR ⟨st, l, bd⟩ = true then (0 : Int) else 1) = e
  refine wc_weak (E' := [(1, true, i64 z), (2, true, str name), (3, true, .pointer (some ⟨b1, 0, none⟩)), (7, true, .bool true), (9, true, str S), (10, true, i64 e), (11, true, str S), (12, true, i64 e)]) (by first | exact Sub.nil _ | (repeat (first | exact Sub.nil _ | refine Sub.cons (by first | rfl | (simp [look]; done)) ?_))) (fun _ h => h) ?_
  refine wc_draw 32 (by kernel_rfl) rfl (by kernel_rfl) (fun _ _ h k => h.ext k) ?_
  repeat' (first | (show WD _ _ (_ :: _) _ _ _ _ _ _; first | refine wd_v rfl rfl rfl rfl rfl rfl (by first | (show OpV _ _ _ _ (Oper.mk _ (Op.move _) _ _ _ _) _ _; exact xo_move rfl) | (show OpV _ _ _ _ (Oper.mk _ (Op.assign _) _ _ _ _) _ _; exact xo_assign rfl) | (show OpV _ _ _ _ (Oper.mk _ (Op.pick _ _ _) _ _ _ _) _ _; first | exact xo_and rfl rfl | exact xo_or rfl rfl) | (show OpV _ _ _ _ (Oper.mk _ (Op.extract _ _) _ _ _ _) _ _; exact xo_extract rfl) | (show OpV _ _ _ _ (Oper.mk _ (Op.call ⟨.builtin .len, _, _⟩) _ _ _ _) _ _; first | exact xo_slen rfl | exact xo_len rfl) | (show OpV _ _ _ _ (Oper.mk _ (Op.unOp _ _ _) _ _ _ _) _ _; exact xo_not rfl) | (show OpV _ _ _ _ (Oper.mk _ (Op.binOp BinOp.eql _ _ _ _) _ _ _ _) _ _; first | exact xo_eql rfl rfl | exact xo_seql rfl rfl | exact xo_beql rfl rfl | exact xo_aeql rfl rfl) | (show OpV _ _ _ _ (Oper.mk _ (Op.binOp BinOp.gtr _ _ _ _) _ _ _ _) _ _; exact xo_gtr rfl rfl) | (show OpV _ _ _ _ (Oper.mk _ (Op.load _ _) _ _ _ _) _ _; first | exact xo_load1 rfl | exact xo_loadS rfl)) ?_ | refine wd_v rfl rfl rfl rfl rfl rfl (by first | ((show OpV _ _ _ _ (Oper.mk _ (Op.call ⟨.value (.func 14), _, _⟩) _ _ _ _) _ _; exact ov_call Tryd.call14 rfl (by intro himp; first | rfl | (simp_all; done)) (by rfl) (fun _ _ h k => h.ext k) (fun hcg w hw => right_ok hw.laid hh _ _ hsm))) | ((show OpV _ _ _ _ (Oper.mk _ (Op.call ⟨.value (.func 15), _, _⟩) _ _ _ _) _ _; exact ov_call Tryd.call15 rfl (by intro himp; first | rfl | (simp_all; done)) (by rfl) (fun _ _ h k => h.ext k) (fun hcg w hw => rright_ok hw.laid hh _ _ hsm))) | ((show OpV _ _ _ _ (Oper.mk _ (Op.call ⟨.value (.func 16), _, _⟩) _ _ _ _) _ _; exact ov_call Tryd.call16 rfl (by intro himp; first | rfl | (simp_all; done)) (by rfl) (fun _ _ h k => h.ext k) (fun hcg w hw => reason_ok hw.laid _))) | ((show OpV _ _ _ _ (Oper.mk _ (Op.call ⟨.value (.func 17), _, _⟩) _ _ _ _) _ _; exact ov_call Tryd.call17 rfl (by intro himp; first | rfl | (simp_all; done)) (by rfl) (fun _ _ h k => h.ext k) (fun hcg w hw => rreason_ok hw.laid _))) | fail) ?_ | refine wd_new rfl rfl rfl rfl rfl rfl steady_fresh (or_buildSlice rfl rfl (by first | exact (rfl : _ = some 1) | exact (rfl : _ = some 2) | exact (rfl : _ = some 3) | exact (rfl : _ = some 4) | exact (rfl : _ = some 6) | exact rfl) (fun _ => rfl) rfl rfl rfl (by simp only [cellsAll, Value.cells, List.size_toArray, List.length_cons, List.length_nil, Nat.zero_add, Nat.reduceAdd, and_self, if_true, true_and, Option.map_some, List.cons_append, List.nil_append]; first | done | rfl)) ?_ | refine wd_conv rfl rfl rfl rfl rfl rfl rfl rfl rfl rfl ?_) | (show WD _ _ _ _ _ _ _ _ _; first | refine wd_nil ?_ | refine wd_nilF ?_) | (first | refine wc_seq ?_ | refine wc_region ?_ | refine wl_nil ?_ | refine wn_seq ?_ | refine wn_blk ?_ | refine wc_skip ?_ | refine wc_block ?_ | refine wc_exit rfl ?_ | (show WL _ _ (_ :: _) _ _ _ _; first | refine wl_v rfl rfl rfl (by first | (show OpV _ _ _ _ (Oper.mk _ (Op.move _) _ _ _ _) _ _; exact xo_move rfl) | (show OpV _ _ _ _ (Oper.mk _ (Op.assign _) _ _ _ _) _ _; exact xo_assign rfl) | (show OpV _ _ _ _ (Oper.mk _ (Op.pick _ _ _) _ _ _ _) _ _; first | exact xo_and rfl rfl | exact xo_or rfl rfl) | (show OpV _ _ _ _ (Oper.mk _ (Op.extract _ _) _ _ _ _) _ _; exact xo_extract rfl) | (show OpV _ _ _ _ (Oper.mk _ (Op.call ⟨.builtin .len, _, _⟩) _ _ _ _) _ _; first | exact xo_slen rfl | exact xo_len rfl) | (show OpV _ _ _ _ (Oper.mk _ (Op.unOp _ _ _) _ _ _ _) _ _; exact xo_not rfl) | (show OpV _ _ _ _ (Oper.mk _ (Op.binOp BinOp.eql _ _ _ _) _ _ _ _) _ _; first | exact xo_eql rfl rfl | exact xo_seql rfl rfl | exact xo_beql rfl rfl | exact xo_aeql rfl rfl) | (show OpV _ _ _ _ (Oper.mk _ (Op.binOp BinOp.gtr _ _ _ _) _ _ _ _) _ _; exact xo_gtr rfl rfl) | (show OpV _ _ _ _ (Oper.mk _ (Op.load _ _) _ _ _ _) _ _; first | exact xo_load1 rfl | exact xo_loadS rfl)) ?_ | refine wl_v rfl rfl rfl (by first | ((show OpV _ _ _ _ (Oper.mk _ (Op.call ⟨.value (.func 14), _, _⟩) _ _ _ _) _ _; exact ov_call Tryd.call14 rfl (by intro himp; first | rfl | (simp_all; done)) (by rfl) (fun _ _ h k => h.ext k) (fun hcg w hw => right_ok hw.laid hh _ _ hsm))) | ((show OpV _ _ _ _ (Oper.mk _ (Op.call ⟨.value (.func 15), _, _⟩) _ _ _ _) _ _; exact ov_call Tryd.call15 rfl (by intro himp; first | rfl | (simp_all; done)) (by rfl) (fun _ _ h k => h.ext k) (fun hcg w hw => rright_ok hw.laid hh _ _ hsm))) | ((show OpV _ _ _ _ (Oper.mk _ (Op.call ⟨.value (.func 16), _, _⟩) _ _ _ _) _ _; exact ov_call Tryd.call16 rfl (by intro himp; first | rfl | (simp_all; done)) (by rfl) (fun _ _ h k => h.ext k) (fun hcg w hw => reason_ok hw.laid _))) | ((show OpV _ _ _ _ (Oper.mk _ (Op.call ⟨.value (.func 17), _, _⟩) _ _ _ _) _ _; exact ov_call Tryd.call17 rfl (by intro himp; first | rfl | (simp_all; done)) (by rfl) (fun _ _ h k => h.ext k) (fun hcg w hw => rreason_ok hw.laid _))) | fail) ?_ | refine xl_box rfl (fun _ => ?_)) | refine wc_ret rfl ?_))
  refine wd_newG rfl (by rfl) rfl rfl rfl rfl rfl steady_got (or_callS (args := #[.agg #[i64 st, hv, str bd], str name]) Tryd.call19 rfl rfl rfl (fun _ _ _ h => h.1) (fun w hw => getR_ok hw.laid hh st bd name (by omega) hsm)) ?_
  refine wd_v rfl rfl rfl rfl rfl rfl (by first | (show OpV _ _ _ _ (Oper.mk _ (Op.move _) _ _ _ _) _ _; exact xo_move rfl) | (show OpV _ _ _ _ (Oper.mk _ (Op.assign _) _ _ _ _) _ _; exact xo_assign rfl) | (show OpV _ _ _ _ (Oper.mk _ (Op.pick _ _ _) _ _ _ _) _ _; first | exact xo_and rfl rfl | exact xo_or rfl rfl) | (show OpV _ _ _ _ (Oper.mk _ (Op.extract _ _) _ _ _ _) _ _; exact xo_extract rfl) | (show OpV _ _ _ _ (Oper.mk _ (Op.call ⟨.builtin .len, _, _⟩) _ _ _ _) _ _; first | exact xo_slen rfl | exact xo_len rfl) | (show OpV _ _ _ _ (Oper.mk _ (Op.unOp _ _ _) _ _ _ _) _ _; exact xo_not rfl) | (show OpV _ _ _ _ (Oper.mk _ (Op.binOp BinOp.eql _ _ _ _) _ _ _ _) _ _; first | exact xo_eql rfl rfl | exact xo_seql rfl rfl | exact xo_beql rfl rfl | exact xo_aeql rfl rfl) | (show OpV _ _ _ _ (Oper.mk _ (Op.binOp BinOp.gtr _ _ _ _) _ _ _ _) _ _; exact xo_gtr rfl rfl) | (show OpV _ _ _ _ (Oper.mk _ (Op.load _ _) _ _ _ _) _ _; first | exact xo_load1 rfl | exact xo_loadS rfl)) ?_
  refine wd_v rfl rfl rfl rfl rfl rfl (by first | (show OpV _ _ _ _ (Oper.mk _ (Op.move _) _ _ _ _) _ _; exact xo_move rfl) | (show OpV _ _ _ _ (Oper.mk _ (Op.assign _) _ _ _ _) _ _; exact xo_assign rfl) | (show OpV _ _ _ _ (Oper.mk _ (Op.pick _ _ _) _ _ _ _) _ _; first | exact xo_and rfl rfl | exact xo_or rfl rfl) | (show OpV _ _ _ _ (Oper.mk _ (Op.extract _ _) _ _ _ _) _ _; exact xo_extract rfl) | (show OpV _ _ _ _ (Oper.mk _ (Op.call ⟨.builtin .len, _, _⟩) _ _ _ _) _ _; first | exact xo_slen rfl | exact xo_len rfl) | (show OpV _ _ _ _ (Oper.mk _ (Op.unOp _ _ _) _ _ _ _) _ _; exact xo_not rfl) | (show OpV _ _ _ _ (Oper.mk _ (Op.binOp BinOp.eql _ _ _ _) _ _ _ _) _ _; first | exact xo_eql rfl rfl | exact xo_seql rfl rfl | exact xo_beql rfl rfl | exact xo_aeql rfl rfl) | (show OpV _ _ _ _ (Oper.mk _ (Op.binOp BinOp.gtr _ _ _ _) _ _ _ _) _ _; exact xo_gtr rfl rfl) | (show OpV _ _ _ _ (Oper.mk _ (Op.load _ _) _ _ _ _) _ _; first | exact xo_load1 rfl | exact xo_loadS rfl)) ?_
  refine wd_newG rfl (by rfl) rfl rfl rfl rfl rfl steady_got (or_callS (args := #[.agg #[i64 st, hv, str bd], str name]) Tryd.call20 rfl rfl rfl (fun _ _ _ h => h.1) (fun w hw => rgetR_ok hw.laid hh st bd name (by omega) hsm)) ?_
  refine wd_nil2 (d := 62) (d' := 65) rfl rfl (wl_got2 fun v v' M1 M2 k1 k2 hnew hr1 hr2 => ?_)
  have h1 : SlS (Both M1 M2) v (getR name l) := hr1.2.mono (fun _ _ => .inl) (fun _ _ _ h => h)
  have h2 : SlS (Both M1 M2) v' (getR name l) := hr2.2.mono (fun _ _ => .inr) (fun _ _ _ h => h)
  repeat' (first | (first | refine wc_seq ?_ | refine wc_region ?_ | refine wl_nil ?_ | refine wn_seq ?_ | refine wn_blk ?_ | refine wc_skip ?_ | refine wc_block ?_ | refine wc_exit rfl ?_ | (show WL _ _ (_ :: _) _ _ _ _; first | refine wl_v rfl rfl rfl (by first | (show OpV _ _ _ _ (Oper.mk _ (Op.move _) _ _ _ _) _ _; exact xo_move rfl) | (show OpV _ _ _ _ (Oper.mk _ (Op.assign _) _ _ _ _) _ _; exact xo_assign rfl) | (show OpV _ _ _ _ (Oper.mk _ (Op.pick _ _ _) _ _ _ _) _ _; first | exact xo_and rfl rfl | exact xo_or rfl rfl) | (show OpV _ _ _ _ (Oper.mk _ (Op.extract _ _) _ _ _ _) _ _; exact xo_extract rfl) | (show OpV _ _ _ _ (Oper.mk _ (Op.call ⟨.builtin .len, _, _⟩) _ _ _ _) _ _; first | exact xo_slen rfl | exact xo_len rfl) | (show OpV _ _ _ _ (Oper.mk _ (Op.unOp _ _ _) _ _ _ _) _ _; exact xo_not rfl) | (show OpV _ _ _ _ (Oper.mk _ (Op.binOp BinOp.eql _ _ _ _) _ _ _ _) _ _; first | exact xo_eql rfl rfl | exact xo_seql rfl rfl | exact xo_beql rfl rfl | exact xo_aeql rfl rfl) | (show OpV _ _ _ _ (Oper.mk _ (Op.binOp BinOp.gtr _ _ _ _) _ _ _ _) _ _; exact xo_gtr rfl rfl) | (show OpV _ _ _ _ (Oper.mk _ (Op.load _ _) _ _ _ _) _ _; first | exact xo_load1 rfl | exact xo_loadS rfl)) ?_ | refine wl_v rfl rfl rfl (by first | ((show OpV _ _ _ _ (Oper.mk _ (Op.call ⟨.value (.func 18), _, _⟩) _ _ _ _) _ _; exact ov_call Tryd.call18 rfl (by intro himp; first | rfl | (simp_all; done)) (by rfl) (fun _ _ h k => h.ext k) (fun hcg w hw => texts_ok hw.laid h1 h2))) | fail) ?_ | refine xl_box rfl (fun _ => ?_)) | refine wc_ret rfl ?_) | (show WC _ (Code.cond _ _ _) _ _ _ _; (refine wc_cond rfl (fun hc => ?_) (fun hc => ?_) <;> (try (simp only [decide_eq_true_eq, decide_eq_false_iff_not, Bool.and_eq_true, Bool.or_eq_true, Bool.and_eq_false_iff, Bool.or_eq_false_iff, Bool.not_eq_true', Bool.not_eq_false', Int.not_lt, Int.not_le] at hc)) <;> (try (exfalso; first | omega | contradiction)))))
  exact wr_tmp rfl rfl (congrArg Value.bool (by simp))

end Go.Proofs.YthkpekmecgbokaaDoor
/-
  Texts cut at a separator of several bytes, plainly; what the library's words for it say in these words. No program stands here.
-/
namespace Go.Txt

/-- Where a separator first stands: what is ahead of it, what is behind it. -/
def cutS (sep : List UInt8) : List UInt8 → Option (List UInt8 × List UInt8)
  | [] => none
  | c :: r => if sep.isPrefixOf (c :: r) = true then some ([], (c :: r).drop sep.length) else (cutS sep r).map fun p => (c :: p.1, p.2)
theorem pre_split {a b : List UInt8} (h : a.isPrefixOf b = true) : b = a ++ b.drop a.length := by
  rw [List.isPrefixOf_iff_prefix] at h
  obtain ⟨t, rfl⟩ := h
  simp
theorem cutS_some {sep : List UInt8} : ∀ {s a b : List UInt8}, cutS sep s = some (a, b) → s = a ++ sep ++ b
  | [], _, _, h => by cases h
  | c :: r, a, b, h => by
    rw [cutS] at h
    split at h
    · rename_i hp
      simp only [Option.some.injEq, Prod.mk.injEq] at h
      obtain ⟨rfl, rfl⟩ := h
      exact pre_split hp
    · obtain ⟨p, hp, e⟩ := Option.map_eq_some_iff.1 h
      simp only [Prod.mk.injEq] at e
      obtain ⟨rfl, rfl⟩ := e
      rw [cutS_some (a := p.1) (b := p.2) hp]; rfl
theorem cutS_length {sep s a b : List UInt8} (h : cutS sep s = some (a, b)) : s.length = a.length + sep.length + b.length := by
  rw [cutS_some h]; simp; omega
theorem lib_index {sep : List UInt8} (hs : sep ≠ []) : ∀ s : List UInt8, Lib.index s sep = match cutS sep s with | some p => (p.1.length : Int) | none => -1
  | [] => by
    have : sep.isEmpty = false := by cases sep <;> simp_all
    simp [Lib.index, cutS, this]
  | c :: r => by
    rw [Lib.index, cutS, lib_index hs r]
    by_cases h : sep.isPrefixOf (c :: r) = true
    · rw [if_pos h, if_pos h]; rfl
    · rw [if_neg h, if_neg h]
      cases hc : cutS sep r with
      | none => simp
      | some p =>
        have hn : ¬ (((p.1.length : Int)) == -1) = true := by simp
        simp only [Option.map_some, List.length_cons]
        rw [if_neg hn]; simp
theorem lib_cut {sep : List UInt8} (hs : sep ≠ []) (s : List UInt8) : Lib.cut s sep = match cutS sep s with | some p => (p.1, p.2, true) | none => (s, [], false) := by
  unfold Lib.cut
  rw [lib_index hs s]
  cases hc : cutS sep s with
  | none => simp
  | some p =>
    obtain ⟨a, b⟩ := p
    have h0 : (0 : Int) ≤ (a.length : Int) := by omega
    have e := cutS_some hc
    simp only [h0, if_true, Int.toNat_natCast]
    rw [e]
    simp
theorem split_none {sep s : List UInt8} (hs : sep ≠ []) (h : cutS sep s = none) : Lib.split s sep = [s] := by
  have hi : Lib.index s sep = -1 := by rw [lib_index hs, h]
  unfold Lib.split
  rw [Lib.count_miss hi]; rfl
theorem split_some {sep s a b : List UInt8} (hs : sep ≠ []) (h : cutS sep s = some (a, b)) : Lib.split s sep = a :: Lib.split b sep := by
  have hi : Lib.index s sep = (a.length : Int) := by rw [lib_index hs, h]
  have e := cutS_some h
  unfold Lib.split
  rw [Lib.count_hit hs hi, Nat.add_comm 1, Lib.splitK, hi]
  have hn : ¬ (((a.length : Int)) == -1) = true := by simp
  rw [if_neg hn]
  simp only [Int.toNat_natCast, Nat.add_zero]
  have e1 : s.take a.length = a := by rw [e]; simp
  have e2 : s.drop (a.length + sep.length) = b := by rw [e]; simp
  rw [e1, e2]
theorem splitK_zero (sep s : List UInt8) : Lib.splitK sep 0 0 s = [s] := rfl
theorem splitK_none {sep s : List UInt8} (hs : sep ≠ []) (h : cutS sep s = none) (k : Nat) : Lib.splitK sep 0 k s = [s] := by
  cases k with
  | zero => rfl
  | succ k =>
    have hi : Lib.index s sep = -1 := by rw [lib_index hs, h]
    rw [Lib.splitK, hi]; rfl
theorem splitK_some {sep s a b : List UInt8} (hs : sep ≠ []) (h : cutS sep s = some (a, b)) (k : Nat) : Lib.splitK sep 0 (k + 1) s = a :: Lib.splitK sep 0 k b := by
  have hi : Lib.index s sep = (a.length : Int) := by rw [lib_index hs, h]
  have e := cutS_some h
  have hn : ¬ (((a.length : Int)) == -1) = true := by simp
  rw [Lib.splitK, hi, if_neg hn]
  simp only [Int.toNat_natCast, Nat.add_zero]
  have e1 : s.take a.length = a := by rw [e]; simp
  have e2 : s.drop (a.length + sep.length) = b := by rw [e]; simp
  rw [e1, e2]
/-- the first byte of the separator does not stand ahead -/
theorem cutS_mid {c : UInt8} {t : List UInt8} : ∀ {a : List UInt8} (b : List UInt8), c ∉ a → cutS (c :: t) (a ++ (c :: t) ++ b) = some (a, b)
  | [], b, _ => by
    rw [List.nil_append, List.cons_append, cutS, if_pos]
    · simp
    · rw [← List.cons_append]; exact List.isPrefixOf_iff_prefix.2 (List.prefix_append _ _)
  | x :: a, b, h => by
    simp only [List.mem_cons, not_or] at h
    have hx : ¬ (c :: t).isPrefixOf (x :: (a ++ (c :: t) ++ b)) = true := by
      simp [List.isPrefixOf, h.1]
    show cutS (c :: t) (x :: (a ++ (c :: t) ++ b)) = _
    rw [cutS, if_neg hx, cutS_mid b h.2]; rfl
theorem cutS_no {c : UInt8} {t : List UInt8} : ∀ {a : List UInt8}, c ∉ a → cutS (c :: t) a = none
  | [], _ => rfl
  | x :: a, h => by
    simp only [List.mem_cons, not_or] at h
    have hx : ¬ (c :: t).isPrefixOf (x :: a) = true := by simp [List.isPrefixOf, h.1]
    rw [cutS, if_neg hx, cutS_no h.2]; rfl
/-- one byte more ahead that does not begin the separator -/
theorem cutS_skip {c x : UInt8} {t r : List UInt8} (h : ¬ (c :: t).isPrefixOf (x :: r) = true) : cutS (c :: t) (x :: r) = (cutS (c :: t) r).map fun p => (x :: p.1, p.2) := by
  rw [cutS, if_neg h]
theorem cutS_ahead {c : UInt8} {t : List UInt8} : ∀ {a : List UInt8} (r : List UInt8), c ∉ a → cutS (c :: t) (a ++ r) = (cutS (c :: t) r).map fun p => (a ++ p.1, p.2)
  | [], r, _ => by simp
  | x :: a, r, h => by
    simp only [List.mem_cons, not_or] at h
    have hx : ¬ (c :: t).isPrefixOf (x :: (a ++ r)) = true := by simp [List.isPrefixOf, h.1]
    rw [List.cons_append, cutS_skip hx, cutS_ahead r h.2, Option.map_map]; rfl
/-! ### lines -/
/-- lines, one after the other, a line's end between them -/
def lines : List (List UInt8) → List UInt8
  | [] => []
  | [l] => l
  | l :: r => l ++ [13, 10] ++ lines r
theorem lines_cons (l : List UInt8) {r : List (List UInt8)} (h : r ≠ []) : lines (l :: r) = l ++ [13, 10] ++ lines r := by
  cases r with
  | nil => exact absurd rfl h
  | cons x r => rfl
theorem split_lines : ∀ {ls : List (List UInt8)}, ls ≠ [] → (∀ l ∈ ls, (13 : UInt8) ∉ l) → Lib.split (lines ls) [13, 10] = ls
  | [l], _, h => split_none (by simp) (cutS_no (h l List.mem_cons_self))
  | l :: l2 :: r, _, h => by
    rw [lines_cons l (by simp)]
    rw [split_some (a := l) (b := lines (l2 :: r)) (by simp) (cutS_mid (c := 13) (t := [10]) _ (h l List.mem_cons_self))]
    rw [split_lines (by simp) (fun x hx => h x (List.mem_cons_of_mem _ hx))]
theorem cut_lines : ∀ {ls : List (List UInt8)} (body : List UInt8), ls ≠ [] → (∀ l ∈ ls, (13 : UInt8) ∉ l ∧ l ≠ []) → cutS [13, 10, 13, 10] (lines ls ++ [13, 10, 13, 10] ++ body) = some (lines ls, body)
  | [l], body, _, h => cutS_mid (c := 13) (t := [10, 13, 10]) body (h l List.mem_cons_self).1
  | l :: l2 :: r, body, _, h => by
    have h2 := h l2 (List.mem_cons_of_mem _ List.mem_cons_self)
    have ih := cut_lines (ls := l2 :: r) body (by simp) (fun x hx => h x (List.mem_cons_of_mem _ hx))
    have e : lines (l :: l2 :: r) ++ [13, 10, 13, 10] ++ body = l ++ (13 :: 10 :: (lines (l2 :: r) ++ [13, 10, 13, 10] ++ body)) := by
      rw [lines_cons l (by simp)]; simp
    have hd : ∃ x y, lines (l2 :: r) = x :: y ∧ x ≠ 13 := by
      obtain ⟨x, y, rfl⟩ : ∃ x y, l2 = x :: y := by cases hl : l2 <;> simp_all
      have hx : x ≠ 13 := fun e => h2.1 (by rw [e]; exact List.mem_cons_self)
      cases r with
      | nil => exact ⟨x, y, rfl, hx⟩
      | cons z r => exact ⟨x, y ++ [13, 10] ++ lines (z :: r), by rw [lines_cons _ (by simp)]; simp, hx⟩
    obtain ⟨x, y, hxy, hx⟩ := hd
    rw [e, cutS_ahead _ (h l List.mem_cons_self).1]
    rw [cutS_skip (by rw [hxy]; simp [List.isPrefixOf]; intro e; exact absurd e.symm hx), cutS_skip (by simp [List.isPrefixOf]), ih]
    rw [lines_cons l (by simp)]; simp
/-! ### a separator of two bytes looked for, byte by byte -/
def Scan (c d : UInt8) (s : List UInt8) (at' i : Nat) : Prop := at' ≤ i ∧ i ≤ s.length ∧ cutS [c, d] (s.drop at') = (cutS [c, d] (s.drop i)).map fun p => ((s.drop at').take (i - at') ++ p.1, p.2)
theorem scan_start (c d : UInt8) {s : List UInt8} {i : Nat} (h : i ≤ s.length) : Scan c d s i i := ⟨Nat.le_refl _, h, by simp⟩
theorem take_more {s : List UInt8} {a i : Nat} (h1 : a ≤ i) (h2 : i < s.length) : (s.drop a).take (i + 1 - a) = (s.drop a).take (i - a) ++ [s.getD i 0] := by
  have e : i + 1 - a = (i - a) + 1 := by omega
  have hl : i - a < (s.drop a).length := by simp; omega
  rw [e, List.take_succ_eq_append_getElem hl]
  congr 2
  simp [List.getElem_drop, show a + (i - a) = i by omega, h2]
theorem scan_step {c d : UInt8} {s : List UInt8} {a i : Nat} (h : Scan c d s a i) (hi : i + 1 < s.length) (hn : ¬ (s.getD i 0 = c ∧ s.getD (i + 1) 0 = d)) : Scan c d s a (i + 1) := by
  obtain ⟨h1, h2, h3⟩ := h
  refine ⟨by omega, by omega, ?_⟩
  have e := drop_getD (s := s) (i := i) (by omega)
  have e2 := drop_getD (s := s) (i := i + 1) hi
  have hp : ¬ [c, d].isPrefixOf (s.getD i 0 :: s.drop (i + 1)) = true := by
    rw [e2]
    intro hh
    simp only [List.isPrefixOf, Bool.and_eq_true, beq_iff_eq] at hh
    exact hn ⟨hh.1.symm, hh.2.1.symm⟩
  rw [h3, e, cutS_skip hp, Option.map_map, take_more h1 (by omega)]
  congr 1
  funext p
  simp
theorem scan_hit {c d : UInt8} {s : List UInt8} {a i : Nat} (h : Scan c d s a i) (hi : i + 1 < s.length) (hc : s.getD i 0 = c) (hd : s.getD (i + 1) 0 = d) : cutS [c, d] (s.drop a) = some ((s.drop a).take (i - a), s.drop (i + 2)) := by
  obtain ⟨h1, h2, h3⟩ := h
  have e := drop_getD (s := s) (i := i) (by omega)
  have e2 := drop_getD (s := s) (i := i + 1) hi
  have hp : [c, d].isPrefixOf (s.getD i 0 :: s.drop (i + 1)) = true := by
    rw [e2, hc, hd]; simp [List.isPrefixOf]
  rw [h3, e, cutS, if_pos hp, e2]
  simp
theorem scan_end {c d : UInt8} {s : List UInt8} {a i : Nat} (h : Scan c d s a i) (hi : s.length ≤ i + 1) : cutS [c, d] (s.drop a) = none := by
  obtain ⟨h1, h2, h3⟩ := h
  rw [h3]
  by_cases e : i = s.length
  · rw [show s.drop i = [] from List.drop_eq_nil_of_le (by omega)]; rfl
  · have e1 := drop_getD (s := s) (i := i) (by omega)
    rw [e1, show s.drop (i + 1) = [] from List.drop_eq_nil_of_le (by omega)]
    rw [cutS, if_neg (by simp [List.isPrefixOf])]; rfl
/-- what Atoi yields -/
def atoiV (l : List UInt8) : Int := match Lib.atoiAll l with
  | .ok v => v
  | .range => Lib.atoiSat l
  | _ => 0
end Go.Txt
/-
  Responses read, plainly: what the program's way and the document's way of reading find: just the responses whose bytes they are. No program stands here.
-/
namespace Go.Rsp
open Go.Pct Go.Txt

def pairS (l : List UInt8) : Pr := match cutS [58, 32] l with
  | some p => p
  | none => (l, [])
/-- the program's first look -/
def headR (s : List UInt8) : Option Resp := match cutS [13, 10, 13, 10] s with
  | none => none
  | some (top, body) => if (Lib.splitN ((Lib.split top [13, 10]).getD 0 []) [32] 3).length < 3 ∨ (Lib.split top [13, 10]).length < 2 then none
    else some ⟨atoiV ((Lib.splitN ((Lib.split top [13, 10]).getD 0 []) [32] 3).getD 1 []), ((Lib.split top [13, 10]).drop 1).map pairS, body⟩
def lastOff (r : Resp) : Resp := ⟨r.status, r.headers.dropLast, r.body⟩
def readR (s : List UInt8) : Option Resp := match headR s with
  | none => none
  | some x => if rightR (lastOff x) = true ∧ writeR (lastOff x) = s then some (lastOff x) else none

def statL (z : Int) : List UInt8 := sHttp ++ Lib.itoa z ++ [32] ++ reasonS z
theorem headS_stat (z : Int) : headS z = statL z ++ [13, 10] := rfl
def hl0 (h : Pr) : List UInt8 := h.1 ++ [58, 32] ++ h.2
theorem hline_hl0 (h : Pr) : hline h = hl0 h ++ [13, 10] := rfl
theorem stat_no13 {z : Int} (h : (reasonS z).isEmpty = false) : (13 : UInt8) ∉ statL z ∧ statL z ≠ [] := by
  have key : ∀ p ∈ headTab, (13 : UInt8) ∉ p.2.dropLast.dropLast := by decide +kernel
  have h1 := key _ (head_tab h)
  have e : (headS z).dropLast.dropLast = statL z := by
    rw [headS_stat, List.dropLast_append_of_ne_nil (by simp)]
    show (statL z ++ [13]).dropLast = _
    rw [List.dropLast_append_of_ne_nil (by simp)]; simp
  rw [e] at h1
  exact ⟨h1, by unfold statL sHttp; simp⟩
theorem lines_flat (a : List UInt8) : ∀ (hs : List (List UInt8)), lines (a :: hs) ++ [13, 10] = a ++ [13, 10] ++ hs.flatMap (fun l => l ++ [13, 10])
  | [] => by simp [lines]
  | b :: r => by
    rw [lines_cons a (by simp), List.append_assoc, lines_flat b r]
    simp
theorem write_lines (r : Resp) : writeR r = lines (statL r.status :: (r.headers ++ [(sCL, Lib.itoa (r.body.length : Int))]).map hl0) ++ [13, 10, 13, 10] ++ r.body := by
  have h := lines_flat (statL r.status) ((r.headers ++ [(sCL, Lib.itoa (r.body.length : Int))]).map hl0)
  have e : lines (statL r.status :: (r.headers ++ [(sCL, Lib.itoa (r.body.length : Int))]).map hl0) ++ [13, 10, 13, 10] ++ r.body = (lines (statL r.status :: (r.headers ++ [(sCL, Lib.itoa (r.body.length : Int))]).map hl0) ++ [13, 10]) ++ ([13, 10] ++ r.body) := by simp
  rw [e, h]
  unfold writeR
  rw [headS_stat]
  have e2 : ((r.headers ++ [(sCL, Lib.itoa (r.body.length : Int))]).map hl0).flatMap (fun l => l ++ [13, 10]) = r.headers.flatMap hline ++ hline (sCL, Lib.itoa (r.body.length : Int)) := by
    rw [List.flatMap_map]
    show (r.headers ++ [(sCL, Lib.itoa (r.body.length : Int))]).flatMap hline = _
    simp
  rw [e2]; simp
theorem hl0_ok {h : Pr} (h1 : (13 : UInt8) ∉ h.1) (h2 : (13 : UInt8) ∉ h.2) : (13 : UInt8) ∉ hl0 h ∧ hl0 h ≠ [] := by
  unfold hl0; exact ⟨by simp [h1, h2], by simp⟩
theorem all_lines {r : Resp} (hr : rightR r = true) : ∀ l ∈ statL r.status :: (r.headers ++ [(sCL, Lib.itoa (r.body.length : Int))]).map hl0, (13 : UInt8) ∉ l ∧ l ≠ [] := by
  obtain ⟨p1, p2, p3, p4⟩ := right_parts hr
  intro l hl
  rcases List.mem_cons.1 hl with rfl | hl
  · exact stat_no13 p1
  · obtain ⟨h, hh, rfl⟩ := List.mem_map.1 hl
    rcases List.mem_append.1 hh with hh | hh
    · obtain ⟨q1, q2, q3, q4⟩ := hdr_parts (List.all_eq_true.1 p4 h hh)
      exact hl0_ok q2 q3
    · rw [List.mem_singleton] at hh
      subst hh
      exact hl0_ok cl13 (itoa_no (by decide) _)
theorem pair_hl0 {h : Pr} (hn : (58 : UInt8) ∉ h.1) : pairS (hl0 h) = h := by
  unfold pairS hl0
  rw [cutS_mid (c := 58) (t := [32]) h.2 hn]
theorem words_ok {z : Int} (h : (reasonS z).isEmpty = false) : (Lib.splitN (statL z) [32] 3).length = 3 ∧ atoiV ((Lib.splitN (statL z) [32] 3).getD 1 []) = z := by
  have key : ∀ p ∈ headTab, (Lib.splitN p.2.dropLast.dropLast [32] 3).length = 3 ∧ atoiV ((Lib.splitN p.2.dropLast.dropLast [32] 3).getD 1 []) = p.1 := by decide +kernel
  have h1 := key _ (head_tab h)
  have e : (headS z).dropLast.dropLast = statL z := by
    rw [headS_stat, List.dropLast_append_of_ne_nil (by simp)]
    show (statL z ++ [13]).dropLast = _
    rw [List.dropLast_append_of_ne_nil (by simp)]; simp
  rw [e] at h1
  exact h1
theorem head_write {r : Resp} (hr : rightR r = true) : headR (writeR r) = some ⟨r.status, r.headers ++ [(sCL, Lib.itoa (r.body.length : Int))], r.body⟩ := by
  obtain ⟨p1, p2, p3, p4⟩ := right_parts hr
  have ha := all_lines hr
  unfold headR
  rw [write_lines, cut_lines r.body (by simp) ha]
  simp only
  rw [split_lines (by simp) (fun l hl => (ha l hl).1)]
  have hw := words_ok p1
  simp only [List.getD_cons_zero, hw.1, hw.2, List.drop_succ_cons, List.drop_zero]
  rw [if_neg (by simp)]
  congr 2
  rw [List.map_map]
  conv => rhs; rw [← List.map_id (r.headers ++ [(sCL, Lib.itoa (r.body.length : Int))])]
  apply List.map_congr_left
  intro h hh
  rcases List.mem_append.1 hh with hh | hh
  · exact pair_hl0 (hdr_parts (List.all_eq_true.1 p4 h hh)).1
  · rw [List.mem_singleton] at hh
    subst hh
    exact pair_hl0 cl58
/-- what is read is what was written, and only that -/
theorem readR_iff {s : List UInt8} {r : Resp} : readR s = some r ↔ rightR r = true ∧ writeR r = s := by
  constructor
  · intro h
    unfold readR at h
    split at h
    · cases h
    · split at h
      · rename_i hc
        simp only [Option.some.injEq] at h
        subst h; exact hc
      · cases h
  · rintro ⟨hr, rfl⟩
    unfold readR
    rw [head_write hr]
    have e : lastOff ⟨r.status, r.headers ++ [(sCL, Lib.itoa (r.body.length : Int))], r.body⟩ = r := by simp [lastOff]
    simp only [e]
    rw [if_pos ⟨hr, trivial⟩]

/-! ### the document's way -/
/-- the headers' lines: how long the body is told to be, the headers, the body -/
def hdrsGo : Nat → List UInt8 → List UInt8 → List Pr → Option (List UInt8 × List Pr × List UInt8)
  | 0, _, _, _ => none
  | n + 1, rest, size, hs => match cutS [13, 10] rest with
    | none => none
    | some (l, more) => if l = [] then some (size, hs, more) else if size ≠ [] then none else match cutS [58, 32] l with
      | none => none
      | some (a, b) => if a = sCL then (if b = [] then none else hdrsGo n more b hs) else hdrsGo n more size (hs ++ [(a, b)])
def statOf (l : List UInt8) : Int := ([200, 302, 400, 403, 404, 405, 503] : List Int).foldl (fun st z => if l = statL z then z else st) 0
def rreadR (s : List UInt8) : Option Resp := match cutS [13, 10] s with
  | none => none
  | some (l, rest) => match hdrsGo (rest.length + 1) rest [] [] with
    | none => none
    | some (size, hs, body) => if rightR ⟨statOf l, hs, body⟩ = true ∧ size = Lib.itoa (body.length : Int) then some ⟨statOf l, hs, body⟩ else none
/-- what the lines were -/
theorem hdrs_sound : ∀ {n : Nat} {rest size hs size' hs' body}, hdrsGo n rest size hs = some (size', hs', body) →
    (size ≠ [] → rest = [13, 10] ++ body ∧ size' = size ∧ hs' = hs) ∧
    (size = [] → ∃ more, hs' = hs ++ more ∧ (size' = [] ∨ rest = more.flatMap hline ++ hline (sCL, size') ++ [13, 10] ++ body))
  | 0, _, _, _, _, _, _, h => by cases h
  | n + 1, rest, size, hs, size', hs', body, h => by
    rw [hdrsGo] at h
    split at h
    · cases h
    · rename_i l more hc
      have e := cutS_some hc
      split at h
      · rename_i hl
        subst hl
        simp only [Option.some.injEq, Prod.mk.injEq] at h
        obtain ⟨rfl, rfl, rfl⟩ := h
        exact ⟨fun _ => ⟨by simpa using e, rfl, rfl⟩, fun hs0 => ⟨[], by simp, .inl hs0⟩⟩
      · split at h
        · cases h
        · rename_i hsz
          have hsz : size = [] := by simpa using hsz
          subst hsz
          refine ⟨fun h => absurd rfl h, fun _ => ?_⟩
          split at h
          · cases h
          · rename_i a b hab
            have e2 := cutS_some hab
            split at h
            · rename_i ha
              subst ha
              split at h
              · cases h
              · rename_i hb
                have ih := (hdrs_sound h).1 hb
                obtain ⟨i1, i2, i3⟩ := ih
                refine ⟨[], by simp [i3], .inr ?_⟩
                rw [e, e2, i1, i2]; simp [hline]
            · obtain ⟨m, i1, i2⟩ := (hdrs_sound h).2 rfl
              refine ⟨(a, b) :: m, by rw [i1]; simp, i2.imp id (fun i2 => ?_)⟩
              rw [e, e2, i2]; simp [hline]
theorem hdrs_complete {size body : List UInt8} (hs1 : (13 : UInt8) ∉ size) (hs2 : size ≠ []) : ∀ {more : List Pr} {n : Nat} {hs : List Pr}, more.all hdrB = true → (more.flatMap hline ++ hline (sCL, size) ++ [13, 10] ++ body).length < n →
    hdrsGo n (more.flatMap hline ++ hline (sCL, size) ++ [13, 10] ++ body) [] hs = some (size, hs ++ more, body)
  | [], n, hs, _, hn => by
    match n, hn with
    | n + 1, hn =>
      have e : ([] : List Pr).flatMap hline ++ hline (sCL, size) ++ [13, 10] ++ body = hl0 (sCL, size) ++ [13, 10] ++ ([13, 10] ++ body) := by simp [hline_hl0]
      have ho := hl0_ok (h := (sCL, size)) cl13 hs1
      rw [e] at hn ⊢
      rw [hdrsGo, cutS_mid (c := 13) (t := [10]) _ ho.1]
      simp only
      rw [if_neg ho.2, if_neg (by simp)]
      unfold hl0
      rw [cutS_mid (c := 58) (t := [32]) _ cl58]
      simp only
      rw [if_pos trivial, if_neg hs2]
      match n, hn with
      | 0, hn => simp [hl0] at hn
      | n + 1, hn =>
        rw [hdrsGo, show [13, 10] ++ body = [] ++ (13 :: [10]) ++ body from rfl, cutS_mid (c := 13) (t := [10]) body (by simp)]
        simp
  | h :: more, n, hs, hall, hn => by
    simp only [List.all_cons, Bool.and_eq_true] at hall
    obtain ⟨q1, q2, q3, q4⟩ := hdr_parts hall.1
    have ho := hl0_ok q2 q3
    match n, hn with
    | n + 1, hn =>
      have e : (h :: more).flatMap hline ++ hline (sCL, size) ++ [13, 10] ++ body = hl0 h ++ [13, 10] ++ (more.flatMap hline ++ hline (sCL, size) ++ [13, 10] ++ body) := by simp [hline_hl0]
      rw [e] at hn ⊢
      rw [hdrsGo, cutS_mid (c := 13) (t := [10]) _ ho.1]
      simp only
      rw [if_neg ho.2, if_neg (by simp)]
      unfold hl0
      rw [cutS_mid (c := 58) (t := [32]) _ q1]
      simp only
      rw [if_neg q4, hdrs_complete hs1 hs2 hall.2 (by simp [hl0] at hn ⊢; omega)]
      simp
theorem stat_of {z : Int} (h : (reasonS z).isEmpty = false) : statOf (statL z) = z := by
  have key : ∀ p ∈ headTab, statOf p.2.dropLast.dropLast = p.1 := by
    obtain ⟨i1, i2, i3, i4, i5, i6, i7⟩ := itoa3
    unfold statOf statL
    simp only [List.foldl_cons, List.foldl_nil, i1, i2, i3, i4, i5, i6, i7]
    decide +kernel
  have h1 := key _ (head_tab h)
  have e : (headS z).dropLast.dropLast = statL z := by
    rw [headS_stat, List.dropLast_append_of_ne_nil (by simp)]
    show (statL z ++ [13]).dropLast = _
    rw [List.dropLast_append_of_ne_nil (by simp)]; simp
  rw [e] at h1
  exact h1
theorem stat_back {l : List UInt8} (h : (reasonS (statOf l)).isEmpty = false) : l = statL (statOf l) := by
  unfold statOf at h ⊢
  simp only [List.foldl_cons, List.foldl_nil] at h ⊢
  by_cases h7 : l = statL 503
  · rw [if_pos h7]; exact h7
  · rw [if_neg h7] at h ⊢
    by_cases h6 : l = statL 405
    · rw [if_pos h6]; exact h6
    · rw [if_neg h6] at h ⊢
      by_cases h5 : l = statL 404
      · rw [if_pos h5]; exact h5
      · rw [if_neg h5] at h ⊢
        by_cases h4 : l = statL 403
        · rw [if_pos h4]; exact h4
        · rw [if_neg h4] at h ⊢
          by_cases h3 : l = statL 400
          · rw [if_pos h3]; exact h3
          · rw [if_neg h3] at h ⊢
            by_cases h2 : l = statL 302
            · rw [if_pos h2]; exact h2
            · rw [if_neg h2] at h ⊢
              by_cases h1 : l = statL 200
              · rw [if_pos h1]; exact h1
              · rw [if_neg h1] at h; exact absurd h (by decide)
theorem itoa_ne (n : Nat) : Lib.itoa (n : Int) ≠ [] := by
  rw [itoa_nat]; intro h
  rw [Lib.decDigits] at h
  split at h <;> simp at h
theorem rreadR_iff {s : List UInt8} {r : Resp} : rreadR s = some r ↔ rightR r = true ∧ writeR r = s := by
  constructor
  · intro h
    unfold rreadR at h
    split at h
    · cases h
    · rename_i l rest hc
      split at h
      · cases h
      · rename_i size hs body hg
        split at h
        · rename_i hcond
          obtain ⟨hr, hz⟩ := hcond
          simp only [Option.some.injEq] at h
          subst h
          refine ⟨hr, ?_⟩
          obtain ⟨p1, _⟩ := right_parts hr
          obtain ⟨m, i1, i2⟩ := (hdrs_sound hg).2 rfl
          rw [List.nil_append] at i1
          subst i1
          have e := cutS_some hc
          rcases i2 with i2 | i2
          · rw [i2] at hz; exact absurd hz.symm (itoa_ne _)
          · rw [e, i2]
            have e2 := stat_back p1
            unfold writeR
            rw [headS_stat]
            dsimp only
            rw [← e2, ← hz]; simp
        · cases h
  · rintro ⟨hr, rfl⟩
    obtain ⟨p1, p2, p3, p4⟩ := right_parts hr
    have e : writeR r = statL r.status ++ [13, 10] ++ (r.headers.flatMap hline ++ hline (sCL, Lib.itoa (r.body.length : Int)) ++ [13, 10] ++ r.body) := by
      unfold writeR; rw [headS_stat]; simp
    unfold rreadR
    rw [e, cutS_mid (c := 13) (t := [10]) _ (stat_no13 p1).1]
    simp only
    rw [hdrs_complete (itoa_no (by decide) _) (itoa_ne _) p4 (Nat.lt_succ_self _)]
    simp only [List.nil_append]
    rw [stat_of p1, if_pos ⟨hr, trivial⟩]
theorem reads_same (s : List UInt8) : rreadR s = readR s := by
  cases h : readR s with
  | none =>
    cases h2 : rreadR s with
    | none => rfl
    | some r => rw [rreadR_iff, ← readR_iff, h] at h2; cases h2
  | some r => rw [rreadR_iff, ← readR_iff]; exact h
end Go.Rsp
/-
  The small functions of package request and matricularef03: texts of bytes between two, targets, digits, whether a body fits.
-/
namespace Go.Proofs.YthkpekmecgbokaaDoor
open Go.Eng Go.Pct Go.Rsp
set_option maxRecDepth 10000
set_option linter.unusedSimpArgs false
set_option linter.unusedVariables false

variable {M : Ghost} {w : World}

/-- all bytes lie between the two -/
def betw (f t : UInt8) (s : List UInt8) : Bool := s.all fun c => decide (f.toNat ≤ c.toNat) && decide (c.toNat ≤ t.toNat)
theorem betw_shown (f : UInt8) (s : List UInt8) : betw f 126 s = shownB f s := rfl
theorem all_ok (hM : Laid M w) (s : List UInt8) (f t : UInt8) (hs : s.length ≤ 9223372036854775807) : Calls Tryd.prog 51 #[str s, byt f, byt t] w (RetE w (.bool (betw f t s))) := by
  refine calls_st (l := [str s, byt f, byt t]) hM Tryd.func51 rfl rfl rfl (E0 := [(0, true, str s), (1, true, byt f), (2, true, byt t)]) (params_cons rfl (params_cons rfl (params_cons rfl (params_nil _)))) ?_
  repeat' (first | (first | refine wc_seq ?_ | refine wc_region ?_ | refine wl_nil ?_ | refine wn_seq ?_ | refine wn_blk ?_ | refine wc_skip ?_ | refine wc_block ?_ | refine wc_exit rfl ?_ | (show WL _ _ (_ :: _) _ _ _ _; first | refine wl_v rfl rfl rfl (by first | (show OpV _ _ _ _ (Oper.mk _ (Op.move _) _ _ _ _) _ _; exact xo_move rfl) | (show OpV _ _ _ _ (Oper.mk _ (Op.assign _) _ _ _ _) _ _; exact xo_assign rfl) | (show OpV _ _ _ _ (Oper.mk _ (Op.pick _ _ _) _ _ _ _) _ _; first | exact xo_and rfl rfl | exact xo_or rfl rfl) | (show OpV _ _ _ _ (Oper.mk _ (Op.call ⟨.builtin .len, _, _⟩) _ _ _ _) _ _; first | exact xo_slen rfl | exact xo_len rfl) | (show OpV _ _ _ _ (Oper.mk _ (Op.binOp BinOp.lss _ _ _ _) _ _ _ _) _ _; exact xo_lss rfl rfl) | (show OpV _ _ _ _ (Oper.mk _ (Op.binOp BinOp.gtr _ _ _ _) _ _ _ _) _ _; exact xo_gtr rfl rfl) | (show OpV _ _ _ _ (Oper.mk _ (Op.binOp BinOp.add _ _ _ _) _ _ _ _) _ _; first | exact xo_add rfl rfl | exact ov_sadd rfl rfl (by first | with_reducible exact fun _ => rfl | with_reducible exact fun h => h | exact fun _ => rfl | exact fun h => h | (intro himp; simp_all; done)) (by first | with_reducible exact fun _ => rfl | with_reducible exact fun h => h | exact fun _ => rfl | exact fun h => h | (intro himp; simp_all; done)) (by intro hcg; first | omega | (simp only [List.length_append, List.length_take, List.length_drop, List.length_cons, List.length_nil, List.length_nil]; omega))) | (show OpV _ _ _ _ (Oper.mk _ (Op.index _ _ _) _ _ _ _) _ _; exact xo_sindex rfl rfl)) ?_ | refine wl_v rfl rfl rfl (by first  | fail) ?_) | refine wc_ret rfl ?_) | (show WC _ (Code.cond _ _ _) _ _ _ _; (refine wc_cond rfl (fun hc => ?_) (fun hc => ?_) <;> (try (simp only [decide_eq_true_eq, decide_eq_false_iff_not, Bool.and_eq_true, Bool.or_eq_true, Bool.and_eq_false_iff, Bool.or_eq_false_iff, Bool.not_eq_true', Bool.not_eq_false', Int.not_lt, Int.not_le] at hc)) <;> (try (exfalso; first | omega | contradiction)))))
  refine wc_loop (α := { i : Nat // i ≤ s.length ∧ ∀ j, j < i → (decide (f.toNat ≤ (s.getD j 0).toNat) && decide ((s.getD j 0).toNat ≤ t.toNat)) = true }) (fun x => [(0, true, str s), (1, true, byt f), (2, true, byt t), (9, true, i64 (s.length : Int)), (10, true, i64 (x.1 : Int))]) (fun _ => St w [] [] M) (fun x => s.length - x.1) ⟨0, by omega, by intro j hj; omega⟩ (by first | exact Sub.nil _ | (repeat (first | exact Sub.nil _ | refine Sub.cons (by first | rfl | (simp [look]; done)) ?_))) (fun _ h => h) ?_
  rintro ⟨i, hi, hall⟩
  dsimp only
  repeat' (first | (first | refine wc_seq ?_ | refine wc_region ?_ | refine wl_nil ?_ | refine wn_seq ?_ | refine wn_blk ?_ | refine wc_skip ?_ | refine wc_block ?_ | refine wc_exit rfl ?_ | (show WL _ _ (_ :: _) _ _ _ _; first | refine wl_v rfl rfl rfl (by first | (show OpV _ _ _ _ (Oper.mk _ (Op.move _) _ _ _ _) _ _; exact xo_move rfl) | (show OpV _ _ _ _ (Oper.mk _ (Op.assign _) _ _ _ _) _ _; exact xo_assign rfl) | (show OpV _ _ _ _ (Oper.mk _ (Op.pick _ _ _) _ _ _ _) _ _; first | exact xo_and rfl rfl | exact xo_or rfl rfl) | (show OpV _ _ _ _ (Oper.mk _ (Op.call ⟨.builtin .len, _, _⟩) _ _ _ _) _ _; first | exact xo_slen rfl | exact xo_len rfl) | (show OpV _ _ _ _ (Oper.mk _ (Op.binOp BinOp.lss _ _ _ _) _ _ _ _) _ _; exact xo_lss rfl rfl) | (show OpV _ _ _ _ (Oper.mk _ (Op.binOp BinOp.gtr _ _ _ _) _ _ _ _) _ _; exact xo_gtr rfl rfl) | (show OpV _ _ _ _ (Oper.mk _ (Op.binOp BinOp.add _ _ _ _) _ _ _ _) _ _; first | exact xo_add rfl rfl | exact ov_sadd rfl rfl (by first | with_reducible exact fun _ => rfl | with_reducible exact fun h => h | exact fun _ => rfl | exact fun h => h | (intro himp; simp_all; done)) (by first | with_reducible exact fun _ => rfl | with_reducible exact fun h => h | exact fun _ => rfl | exact fun h => h | (intro himp; simp_all; done)) (by intro hcg; first | omega | (simp only [List.length_append, List.length_take, List.length_drop, List.length_cons, List.length_nil, List.length_nil]; omega))) | (show OpV _ _ _ _ (Oper.mk _ (Op.index _ _ _) _ _ _ _) _ _; exact xo_sindex rfl rfl)) ?_ | refine wl_v rfl rfl rfl (by first  | fail) ?_) | refine wc_ret rfl ?_) | (show WC _ (Code.cond _ _ _) _ _ _ _; (refine wc_cond rfl (fun hc => ?_) (fun hc => ?_) <;> (try (simp only [decide_eq_true_eq, decide_eq_false_iff_not, Bool.and_eq_true, Bool.or_eq_true, Bool.and_eq_false_iff, Bool.or_eq_false_iff, Bool.not_eq_true', Bool.not_eq_false', Int.not_lt, Int.not_le] at hc)) <;> (try (exfalso; first | omega | contradiction)))))
  · refine wr_tmp rfl rfl (congrArg Value.bool ?_)
    refine (all_no (i := i) (by omega) ?_).symm
    simp only [Bool.and_eq_false_iff, decide_eq_false_iff_not]; omega
  · refine wn_cut ⟨i + 1, by omega, ?_⟩ (by show s.length - (i + 1) < s.length - i; omega) (by first | exact Sub.nil _ | (repeat (first | exact Sub.nil _ | refine Sub.cons (by first | rfl | (simp [look]; done)) ?_))) (fun _ h => h)
    intro j hj
    by_cases h : j = i
    · subst h; simp only [Bool.and_eq_true, decide_eq_true_eq]; omega
    · exact hall j (by omega)
  · exact wr_tmp rfl rfl (congrArg Value.bool (all_yes (fun j hj => hall j (by omega))).symm)
/-- what is wrong with a body's length -/
def fitsE (n want : Int) : Int := if n < want then 3 else if n > want then 9 else 0
theorem fits_ok (hM : Laid M w) (b : List UInt8) (want : Int) : Calls Tryd.prog 43 #[str b, i64 want] w (RetE w (i64 (fitsE (b.length : Int) want))) := by
  refine calls_st (l := [str b, i64 want]) hM Tryd.func43 rfl rfl rfl (E0 := [(0, true, str b), (1, true, i64 want)]) (params_cons rfl (params_cons rfl (params_nil _))) ?_
  repeat' (first | (first | refine wc_seq ?_ | refine wc_region ?_ | refine wl_nil ?_ | refine wn_seq ?_ | refine wn_blk ?_ | refine wc_skip ?_ | refine wc_block ?_ | refine wc_exit rfl ?_ | (show WL _ _ (_ :: _) _ _ _ _; first | refine wl_v rfl rfl rfl (by first | (show OpV _ _ _ _ (Oper.mk _ (Op.move _) _ _ _ _) _ _; exact xo_move rfl) | (show OpV _ _ _ _ (Oper.mk _ (Op.assign _) _ _ _ _) _ _; exact xo_assign rfl) | (show OpV _ _ _ _ (Oper.mk _ (Op.call ⟨.builtin .len, _, _⟩) _ _ _ _) _ _; first | exact xo_slen rfl | exact xo_len rfl) | (show OpV _ _ _ _ (Oper.mk _ (Op.binOp BinOp.lss _ _ _ _) _ _ _ _) _ _; exact xo_lss rfl rfl) | (show OpV _ _ _ _ (Oper.mk _ (Op.binOp BinOp.gtr _ _ _ _) _ _ _ _) _ _; exact xo_gtr rfl rfl)) ?_ | refine wl_v rfl rfl rfl (by first  | fail) ?_) | refine wc_ret rfl ?_) | (show WC _ (Code.cond _ _ _) _ _ _ _; (refine wc_cond rfl (fun hc => ?_) (fun hc => ?_) <;> (try (simp only [decide_eq_true_eq, decide_eq_false_iff_not, Bool.and_eq_true, Bool.or_eq_true, Bool.and_eq_false_iff, Bool.or_eq_false_iff, Bool.not_eq_true', Bool.not_eq_false', Int.not_lt, Int.not_le] at hc)) <;> (try (exfalso; first | omega | contradiction)))))
  · exact wr_tmp rfl rfl (by unfold fitsE; rw [if_pos hc])
  · exact wr_tmp rfl rfl (by unfold fitsE; rw [if_neg (by omega), if_pos (by omega)])
  · exact wr_tmp rfl rfl (by unfold fitsE; rw [if_neg (by omega), if_neg (by omega)])
/-- the number that up to four digits spell; other bytes count as they do in eight bits -/
def digV (s : List UInt8) : Int := s.foldl (fun n c => 10 * n + ((c.toNat : Int) - 48) % 256) 0
theorem digV_succ {s : List UInt8} {i : Nat} (h : i < s.length) : digV (s.take (i + 1)) = 10 * digV (s.take i) + (((s.getD i 0).toNat : Int) - 48) % 256 := by
  unfold digV
  rw [take_getD h, List.foldl_append]; rfl
theorem digV_bound : ∀ (s : List UInt8), 0 ≤ digV s ∧ digV s ≤ 30 * 10 ^ s.length - 30 := by
  intro s
  suffices h : ∀ (s : List UInt8) (n : Int), 0 ≤ n → 0 ≤ s.foldl (fun n c => 10 * n + ((c.toNat : Int) - 48) % 256) n ∧ s.foldl (fun n c => 10 * n + ((c.toNat : Int) - 48) % 256) n ≤ (n + 30) * 10 ^ s.length - 30 by
    have := h s 0 (by omega)
    unfold digV
    omega
  intro s
  induction s with
  | nil => intro n hn; simp; omega
  | cons c r ih =>
    intro n hn
    have := ih (10 * n + ((c.toNat : Int) - 48) % 256) (by omega)
    rw [List.foldl_cons, List.length_cons, Int.pow_succ]
    refine ⟨this.1, Int.le_trans this.2 ?_⟩
    have hp : (0 : Int) < 10 ^ r.length := Int.pow_pos (by decide)
    have h1 : (10 * n + ((c.toNat : Int) - 48) % 256 + 30) ≤ (n + 30) * 10 := by omega
    have h2 := Int.mul_le_mul_of_nonneg_right h1 (Int.le_of_lt hp)
    have e : (n + 30) * (10 ^ r.length * 10) = (n + 30) * 10 * 10 ^ r.length := by rw [Int.mul_assoc, Int.mul_comm 10]
    rw [e]; omega
section
variable {P : Program} {n : Nat} {E : Env} {C : World → Prop} {cg : Bool} {dst : Option Tmp} {ty : TypeId} {pos : String} {af : Array Edge} {g : Option (Nat × Bool)} {x y : Operand} {cx cy : Bool} {tx tyy : TypeId} {kd : IntKind} {u z : Int}
/-- sums that may not fit -/
theorem ov_addW (hx : ev E x = some (cx, .int kd u)) (hy : ev E y = some (cy, .int kd z)) (h1 : Imp cg cx) (h2 : Imp cg cy) :
    OpV P n E C ⟨dst, .binOp .add tx x y tyy, ty, pos, af, g⟩ cg (.int kd (kd.wrap (u + z))) :=
  ov_int hx hy h1 h2 fun h w => by simp [binOp, Op.intArith]
theorem ov_mulW (hx : ev E x = some (cx, .int kd u)) (hy : ev E y = some (cy, .int kd z)) (h1 : Imp cg cx) (h2 : Imp cg cy) :
    OpV P n E C ⟨dst, .binOp .mul tx x y tyy, ty, pos, af, g⟩ cg (.int kd (kd.wrap (u * z))) :=
  ov_int hx hy h1 h2 fun h w => by simp [binOp, Op.intArith]
theorem ov_subB (hx : ev E x = some (cx, .int .u8 u)) (hy : ev E y = some (cy, .int .u8 z)) (h1 : Imp cg cx) (h2 : Imp cg cy) :
    OpV P n E C ⟨dst, .binOp .sub tx x y tyy, ty, pos, af, g⟩ cg (.int .u8 ((u - z) % 256)) :=
  ov_int hx hy h1 h2 fun h w => by simp [binOp, Op.intArith, IntKind.wrap, IntKind.signed, IntKind.bits]
end
def numOk (s : List UInt8) : Bool := !decide (s = []) && decide ((s.length : Int) ≤ 4) && betw 48 57 s
/-- the same in 64 bits, whatever the text -/
def digW (s : List UInt8) : Int := s.foldl (fun n c => IntKind.i64.wrap (IntKind.i64.wrap (10 * n) + ((c.toNat : Int) - 48) % 256)) 0
theorem digW_succ {s : List UInt8} {i : Nat} (h : i < s.length) : digW (s.take (i + 1)) = IntKind.i64.wrap (IntKind.i64.wrap (10 * digW (s.take i)) + (((s.getD i 0).toNat : Int) - 48) % 256) := by
  unfold digW
  rw [take_getD h, List.foldl_append]; rfl
theorem digW_short {s : List UInt8} (h : s.length ≤ 4) : digW s = digV s := by
  have key : ∀ i, i ≤ s.length → digW (s.take i) = digV (s.take i) := by
    intro i
    induction i with
    | zero => intro _; rfl
    | succ i ih =>
      intro hi
      have hb := digV_bound (s.take i)
      have hl : (s.take i).length ≤ 3 := by rw [List.length_take]; omega
      have hp : (10 : Int) ^ (s.take i).length ≤ 1000 := by
        generalize (s.take i).length = k at hl
        have : k = 0 ∨ k = 1 ∨ k = 2 ∨ k = 3 := by omega
        rcases this with rfl | rfl | rfl | rfl <;> decide
      rw [digW_succ (by omega), digV_succ (by omega), ih (by omega), wrap_fits (z := 10 * digV (s.take i)) (fits_i64 (by omega) (by omega)), wrap_fits (fits_i64 (by omega) (by omega))]
  have := key s.length (Nat.le_refl _)
  rwa [List.take_length] at this
theorem qdigits_ok (hM : Laid M w) (s : List UInt8) (hs : s.length ≤ 9223372036854775807) : Calls Tryd.prog 55 #[str s] w (RetE w (.tuple #[i64 (digW s), .bool (numOk s)])) := by
  refine calls_st (l := [str s]) hM Tryd.func55 rfl rfl rfl (E0 := [(0, true, str s)]) (params_cons rfl (params_nil _)) ?_
  repeat' (first | (first | refine wc_seq ?_ | refine wc_region ?_ | refine wl_nil ?_ | refine wn_seq ?_ | refine wn_blk ?_ | refine wc_skip ?_ | refine wc_block ?_ | refine wc_exit rfl ?_ | (show WL _ _ (_ :: _) _ _ _ _; first | refine wl_v rfl rfl rfl (by first | (show OpV _ _ _ _ (Oper.mk _ (Op.move _) _ _ _ _) _ _; exact xo_move rfl) | (show OpV _ _ _ _ (Oper.mk _ (Op.assign _) _ _ _ _) _ _; exact xo_assign rfl) | (show OpV _ _ _ _ (Oper.mk _ (Op.pick _ _ _) _ _ _ _) _ _; first | exact xo_and rfl rfl | exact xo_or rfl rfl) | (show OpV _ _ _ _ (Oper.mk _ (Op.call ⟨.builtin .len, _, _⟩) _ _ _ _) _ _; first | exact xo_slen rfl | exact xo_len rfl) | (show OpV _ _ _ _ (Oper.mk _ (Op.binOp BinOp.neq _ _ _ _) _ _ _ _) _ _; first | exact xo_neq rfl rfl | exact xo_sneq rfl rfl | exact xo_bneq rfl rfl | exact xo_aneq rfl rfl) | (show OpV _ _ _ _ (Oper.mk _ (Op.binOp BinOp.lss _ _ _ _) _ _ _ _) _ _; exact xo_lss rfl rfl) | (show OpV _ _ _ _ (Oper.mk _ (Op.binOp BinOp.leq _ _ _ _) _ _ _ _) _ _; exact xo_leq rfl rfl) | (show OpV _ _ _ _ (Oper.mk _ (Op.binOp BinOp.add _ _ _ _) _ _ _ _) _ _; first | exact xo_add rfl rfl | exact ov_sadd rfl rfl (by first | with_reducible exact fun _ => rfl | with_reducible exact fun h => h | exact fun _ => rfl | exact fun h => h | (intro himp; simp_all; done)) (by first | with_reducible exact fun _ => rfl | with_reducible exact fun h => h | exact fun _ => rfl | exact fun h => h | (intro himp; simp_all; done)) (by intro hcg; first | omega | (simp only [List.length_append, List.length_take, List.length_drop, List.length_cons, List.length_nil, List.length_nil]; omega))) | (show OpV _ _ _ _ (Oper.mk _ (Op.binOp BinOp.sub _ _ _ _) _ _ _ _) _ _; exact xo_sub rfl rfl) | (show OpV _ _ _ _ (Oper.mk _ (Op.binOp BinOp.mul _ _ _ _) _ _ _ _) _ _; exact xo_mul rfl rfl) | (show OpV _ _ _ _ (Oper.mk _ (Op.index _ _ _) _ _ _ _) _ _; exact xo_sindex rfl rfl) | (show OpV _ _ _ _ (Oper.mk _ (Op.convert _ _ _) _ _ _ _) _ _; first | exact xo_conv rfl | exact xo_convBytes rfl)) ?_ | refine wl_v rfl rfl rfl (by first  | fail) ?_) | refine wc_ret rfl ?_) | (show WC _ (Code.cond _ _ _) _ _ _ _; (refine wc_cond rfl (fun hc => ?_) (fun hc => ?_) <;> (try (simp only [decide_eq_true_eq, decide_eq_false_iff_not, Bool.and_eq_true, Bool.or_eq_true, Bool.and_eq_false_iff, Bool.or_eq_false_iff, Bool.not_eq_true', Bool.not_eq_false', Int.not_lt, Int.not_le] at hc)) <;> (try (exfalso; first | omega | contradiction)))))
  refine wc_loop (α := { i : Nat // i ≤ s.length }) (fun x => [(0, true, str s), (4, true, i64 (digW (s.take x.1))), (7, true, i64 (s.length : Int)), (8, true, i64 (x.1 : Int))]) (fun _ => St w [] [] M) (fun x => s.length - x.1) ⟨0, by omega⟩ (by first | exact Sub.nil _ | (repeat (first | exact Sub.nil _ | refine Sub.cons (by first | rfl | (simp [look]; done)) ?_))) (fun _ h => h) ?_
  rintro ⟨i, hi⟩
  dsimp only
  repeat' (first | (first | refine wc_seq ?_ | refine wc_region ?_ | refine wl_nil ?_ | refine wn_seq ?_ | refine wn_blk ?_ | refine wc_skip ?_ | refine wc_block ?_ | refine wc_exit rfl ?_ | (show WL _ _ (_ :: _) _ _ _ _; first | refine wl_v rfl rfl rfl (by first | (show OpV _ _ _ _ (Oper.mk _ (Op.move _) _ _ _ _) _ _; exact xo_move rfl) | (show OpV _ _ _ _ (Oper.mk _ (Op.assign _) _ _ _ _) _ _; exact xo_assign rfl) | (show OpV _ _ _ _ (Oper.mk _ (Op.pick _ _ _) _ _ _ _) _ _; first | exact xo_and rfl rfl | exact xo_or rfl rfl) | (show OpV _ _ _ _ (Oper.mk _ (Op.call ⟨.builtin .len, _, _⟩) _ _ _ _) _ _; first | exact xo_slen rfl | exact xo_len rfl) | (show OpV _ _ _ _ (Oper.mk _ (Op.binOp BinOp.neq _ _ _ _) _ _ _ _) _ _; first | exact xo_neq rfl rfl | exact xo_sneq rfl rfl | exact xo_bneq rfl rfl | exact xo_aneq rfl rfl) | (show OpV _ _ _ _ (Oper.mk _ (Op.binOp BinOp.lss _ _ _ _) _ _ _ _) _ _; exact xo_lss rfl rfl) | (show OpV _ _ _ _ (Oper.mk _ (Op.binOp BinOp.leq _ _ _ _) _ _ _ _) _ _; exact xo_leq rfl rfl) | (show OpV _ _ _ _ (Oper.mk _ (Op.binOp BinOp.add _ _ _ _) _ _ _ _) _ _; first | exact xo_add rfl rfl | exact ov_sadd rfl rfl (by first | with_reducible exact fun _ => rfl | with_reducible exact fun h => h | exact fun _ => rfl | exact fun h => h | (intro himp; simp_all; done)) (by first | with_reducible exact fun _ => rfl | with_reducible exact fun h => h | exact fun _ => rfl | exact fun h => h | (intro himp; simp_all; done)) (by intro hcg; first | omega | (simp only [List.length_append, List.length_take, List.length_drop, List.length_cons, List.length_nil, List.length_nil]; omega))) | (show OpV _ _ _ _ (Oper.mk _ (Op.binOp BinOp.sub _ _ _ _) _ _ _ _) _ _; exact xo_sub rfl rfl) | (show OpV _ _ _ _ (Oper.mk _ (Op.binOp BinOp.mul _ _ _ _) _ _ _ _) _ _; exact xo_mul rfl rfl) | (show OpV _ _ _ _ (Oper.mk _ (Op.index _ _ _) _ _ _ _) _ _; exact xo_sindex rfl rfl) | (show OpV _ _ _ _ (Oper.mk _ (Op.convert _ _ _) _ _ _ _) _ _; first | exact xo_conv rfl | exact xo_convBytes rfl)) ?_ | refine wl_v rfl rfl rfl (by first | (show OpV _ _ _ _ (Oper.mk _ (Op.binOp BinOp.mul _ _ _ _) _ _ _ _) _ _; exact ov_mulW rfl rfl (by first | with_reducible exact fun _ => rfl | with_reducible exact fun h => h | exact fun _ => rfl | exact fun h => h | (intro himp; simp_all; done)) (by first | with_reducible exact fun _ => rfl | with_reducible exact fun h => h | exact fun _ => rfl | exact fun h => h | (intro himp; simp_all; done))) | (show OpV _ _ _ _ (Oper.mk _ (Op.binOp BinOp.sub _ _ _ _) _ _ _ _) _ _; exact ov_subB rfl rfl (by first | with_reducible exact fun _ => rfl | with_reducible exact fun h => h | exact fun _ => rfl | exact fun h => h | (intro himp; simp_all; done)) (by first | with_reducible exact fun _ => rfl | with_reducible exact fun h => h | exact fun _ => rfl | exact fun h => h | (intro himp; simp_all; done))) | (show OpV _ _ _ _ (Oper.mk _ (Op.binOp BinOp.add _ _ _ _) _ _ _ _) _ _; exact ov_addW rfl rfl (by first | with_reducible exact fun _ => rfl | with_reducible exact fun h => h | exact fun _ => rfl | exact fun h => h | (intro himp; simp_all; done)) (by first | with_reducible exact fun _ => rfl | with_reducible exact fun h => h | exact fun _ => rfl | exact fun h => h | (intro himp; simp_all; done))) | ((show OpV _ _ _ _ (Oper.mk _ (Op.call ⟨.value (.func 51), _, _⟩) _ _ _ _) _ _; exact ov_call Tryd.call51 rfl (by intro himp; first | rfl | (simp_all; done)) (by rfl) (fun _ _ h k => h.ext k) (fun hcg w hw => all_ok hw.laid s 48 57 hs))) | fail) ?_) | refine wc_ret rfl ?_) | (show WC _ (Code.cond _ _ _) _ _ _ _; (refine wc_cond rfl (fun hc => ?_) (fun hc => ?_) <;> (try (simp only [decide_eq_true_eq, decide_eq_false_iff_not, Bool.and_eq_true, Bool.or_eq_true, Bool.and_eq_false_iff, Bool.or_eq_false_iff, Bool.not_eq_true', Bool.not_eq_false', Int.not_lt, Int.not_le] at hc)) <;> (try (exfalso; first | omega | contradiction)))))
  · refine wn_cut ⟨i + 1, by omega⟩ (by show s.length - (i + 1) < s.length - i; omega) (by rw [digW_succ (by omega)]; exact (by first | exact Sub.nil _ | (repeat (first | exact Sub.nil _ | refine Sub.cons (by first | rfl | (simp [look]; done)) ?_)))) (fun _ h => h)
  · rw [List.take_of_length_le (by omega)]
    exact wr_tmp2 rfl rfl rfl rfl (by unfold numOk; rfl)
/-! ### the same thing said by the reference's text -/
end Go.Proofs.YthkpekmecgbokaaDoor
/-
  Texts without the blanks at both ends: matricularef03.Trim.
-/
namespace Go.Proofs.YthkpekmecgbokaaDoor
open Go.Eng Go.Pct Go.Rsp
set_option maxRecDepth 10000
set_option linter.unusedSimpArgs false
set_option linter.unusedVariables false

variable {M : Ghost} {w : World}

def blank (c : UInt8) : Bool := ([32, 9] : List UInt8).contains c
theorem blank_iff (c : UInt8) : blank c = true ↔ (c.toNat : Int) = 32 ∨ (c.toNat : Int) = 9 := by revert c; apply all_bytes; decide +kernel
def lft (s : List UInt8) : List UInt8 := s.dropWhile blank
def rgt (s : List UInt8) : List UInt8 := (s.reverse.dropWhile blank).reverse
def trimB (s : List UInt8) : List UInt8 := rgt (lft s)
theorem rgt_nil : rgt [] = [] := rfl
theorem rgt_snoc (s : List UInt8) (c : UInt8) : rgt (s ++ [c]) = if blank c = true then rgt s else s ++ [c] := by
  unfold rgt
  rw [List.reverse_append, List.reverse_singleton, List.singleton_append, List.dropWhile_cons]
  split <;> simp
theorem lft_cons (s : List UInt8) (c : UInt8) : lft (c :: s) = if blank c = true then lft s else c :: s := by
  unfold lft; rw [List.dropWhile_cons]
theorem rgt_cons (s : List UInt8) (c : UInt8) : rgt (c :: s) = if blank c = true ∧ rgt s = [] then [] else c :: rgt s := by
  unfold rgt
  rw [List.reverse_cons, List.dropWhile_append]
  split
  · rename_i h
    have h0 : s.reverse.dropWhile blank = [] := by simpa using h
    rw [h0, List.dropWhile_cons]
    by_cases hb : blank c = true
    · rw [if_pos hb, if_pos ⟨hb, rfl⟩]; rfl
    · rw [if_neg hb, if_neg (fun h => hb h.1)]; rfl
  · rename_i h
    have h0 : ¬ s.reverse.dropWhile blank = [] := by simpa using h
    rw [if_neg (fun hh => h0 (by simpa using hh.2))]; simp
theorem trim_comm (s : List UInt8) : lft (rgt s) = rgt (lft s) := by
  induction s with
  | nil => rfl
  | cons c r ih =>
    rw [rgt_cons, lft_cons]
    by_cases hb : blank c = true
    · rw [if_pos hb, ← ih]
      by_cases h0 : rgt r = []
      · rw [if_pos ⟨hb, h0⟩, h0]
      · rw [if_neg (fun h => h0 h.2), lft_cons, if_pos hb]
    · rw [if_neg hb, if_neg (fun h => hb h.1), lft_cons, if_neg hb, rgt_cons, if_neg (fun h => hb h.1)]
theorem lft_step {t : List UInt8} (h : 0 < t.length) (hb : blank (t.getD 0 0) = true) : lft (t.drop 1) = lft t := by
  cases t with
  | nil => simp at h
  | cons c r => rw [lft_cons, if_pos (by simpa using hb)]; rfl
theorem lft_stop {t : List UInt8} (h : t = [] ∨ blank (t.getD 0 0) = false) : lft t = t := by
  cases t with
  | nil => rfl
  | cons c r =>
    rw [lft_cons, if_neg]
    rcases h with h | h
    · cases h
    · rw [show c = (c :: r).getD 0 0 from rfl, h]; decide
theorem rgt_step {t : List UInt8} (h : 0 < t.length) (hb : blank (t.getD (t.length - 1) 0) = true) : rgt (t.take (t.length - 1)) = rgt t := by
  have e : t = t.take (t.length - 1) ++ [t.getD (t.length - 1) 0] := by
    rw [← take_getD (by omega), Nat.sub_add_cancel h, List.take_length]
  conv => rhs; rw [e]
  rw [rgt_snoc, if_pos hb]
theorem rgt_stop {t : List UInt8} (h : t = [] ∨ blank (t.getD (t.length - 1) 0) = false) : rgt t = t := by
  rcases h with rfl | h
  · rfl
  · cases ht : t with
    | nil => rfl
    | cons a r =>
      rw [← ht]
      have hp : 0 < t.length := by rw [ht]; simp
      have e : t = t.take (t.length - 1) ++ [t.getD (t.length - 1) 0] := by
        rw [← take_getD (by omega), Nat.sub_add_cancel hp, List.take_length]
      rw [e, rgt_snoc, if_neg]
      rw [h]; decide
theorem trimB_lib (s : List UInt8) : Lib.trimS s [32, 9] = trimB s := trim_comm s
end Go.Proofs.YthkpekmecgbokaaDoor
/-
  The library's Cut, Split, SplitN and Atoi as the walks use them.
-/
namespace Go.Proofs.YthkpekmecgbokaaDoor
open Go.Eng Go.Pct Go.Txt
set_option maxRecDepth 10000
set_option linter.unusedVariables false

variable {M : Ghost} {w : World}
/-- what Cut yields -/
def cutV (sep s : List UInt8) : Value := match cutS sep s with
  | some p => .tuple #[str p.1, str p.2, .bool true]
  | none => .tuple #[str s, str [], .bool false]
theorem cutM_ok (hG : Glob M) (hM : Laid M w) (s sep : List UInt8) (h0 : sep ≠ []) (hs : s.length ≤ 1000000000) : Calls Tryd.prog 49 #[str s, str sep] w (RetE w (cutV sep s)) := by
  obtain ⟨m, hm⟩ := maxLen_at hG hM
  refine (Tryd.strings_Cut ⟨s.toArray⟩ ⟨sep.toArray⟩ m w (by rw [baSize]; omega) hm).mono ?_
  rintro e w' ⟨rfl, n, rfl⟩
  refine ⟨?_, Ext.drew w n⟩
  have e1 : (⟨s.toArray⟩ : ByteArray).data.toList = s := rfl
  have e2 : (⟨sep.toArray⟩ : ByteArray).data.toList = sep := rfl
  rw [e1, e2, lib_cut h0]
  unfold cutV
  cases cutS sep s <;> rfl
theorem cut_yes (hG : Glob M) (hM : Laid M w) {s sep a b : List UInt8} (h0 : sep ≠ []) (hs : s.length ≤ 1000000000) (h : cutS sep s = some (a, b)) : Calls Tryd.prog 49 #[str s, str sep] w (RetE w (.tuple #[str a, str b, .bool true])) := by
  have := cutM_ok hG hM s sep h0 hs
  unfold cutV at this
  rw [h] at this; exact this
theorem cut_no (hG : Glob M) (hM : Laid M w) {s sep : List UInt8} (h0 : sep ≠ []) (hs : s.length ≤ 1000000000) (h : cutS sep s = none) : Calls Tryd.prog 49 #[str s, str sep] w (RetE w (.tuple #[str s, str [], .bool false])) := by
  have := cutM_ok hG hM s sep h0 hs
  unfold cutV at this
  rw [h] at this; exact this
theorem mapStr (l : List ByteArray) : l.map Value.string = (l.map (·.data.toList)).map str := by
  rw [List.map_map]
  apply List.map_congr_left
  intro x _
  exact congrArg Value.string (strMk x).symm
/-- a fresh row of texts -/
theorem slS_fresh {l : List (List UInt8)} {cs : Array Value} {b cap : Nat} {T : TypeId} (hcs : ∀ i, i < l.length → cs[i]? = some (str (l.getD i default))) (hcap : l.length ≤ cap) (hl : l.length ≤ 9223372036854775807) (hM : M b (.cells cs T (0, 0))) : SlS M (.slice (some ⟨b, 0, none⟩) l.length cap) l :=
  ⟨_, _, rfl, hcap, hl, fun _ => ⟨b, 0, cs, T, (0, 0), rfl, hM, fun i hi => ⟨[str (l[i])], rfl, rfl, fun j hj => by
    obtain rfl : j = 0 := by omega
    have := hcs i hi
    simp [hi] at this
    simpa using this⟩⟩⟩
theorem retS_fresh {l : List (List UInt8)} {cs : Array Value} {cap : Nat} {T : TypeId} (hM : Laid M w) (hcs : ∀ i, i < l.length → cs[i]? = some (str (l.getD i default))) (hcap : l.length ≤ cap) (hl : l.length ≤ 9223372036854775807) :
    RetS M w (fun M' H v => H = [] ∧ SlS M' v l) (.returned (.slice (some ⟨w.heap.size, 0, none⟩) l.length cap)) (w.alloc (.cells cs T)) := by
  have hst := (St.start hM).alloc (.cells cs T (0, 0))
  refine ⟨_, [], With M [(w.heap.size, _)], rfl, fun _ _ => .inl, fun b o h => h.imp id (fun h => ?_), St.publish (H1 := [(w.heap.size, _)]) (H2 := []) hst, rfl, slS_fresh hcs hcap hl (.inr (List.Mem.head _))⟩
  simp only [List.mem_singleton, Prod.mk.injEq] at h; omega
theorem splitB_list (sep s : List UInt8) (k : Nat) : (Lib.splitB ⟨sep.toArray⟩ 0 k ⟨s.toArray⟩).map (·.data.toList) = Lib.splitK sep 0 k s := Lib.splitB_data _ 0 k _
theorem split_len_le {sep : List UInt8} (h0 : sep ≠ []) : ∀ (n : Nat) (s : List UInt8), s.length ≤ n → (Lib.split s sep).length ≤ s.length + 1
  | 0, s, h => by
    have : s = [] := List.eq_nil_of_length_eq_zero (by omega)
    subst this
    rw [split_none h0 rfl]; simp
  | n + 1, s, h => by
    cases hc : cutS sep s with
    | none => rw [split_none h0 hc]; simp
    | some p =>
      have hl := cutS_length (a := p.1) (b := p.2) hc
      have hp := List.length_pos_iff.2 h0
      have := split_len_le h0 n p.2 (by omega)
      rw [split_some (a := p.1) (b := p.2) h0 hc]
      simp; omega
theorem splitM_ok (hG : Glob M) (hM : Laid M w) (s sep : List UInt8) (h0 : sep ≠ []) (hs : s.length ≤ 1000000000) : Calls Tryd.prog 50 #[str s, str sep] w (RetS M w (fun M' H v => H = [] ∧ SlS M' v (Lib.split s sep))) := by
  obtain ⟨m, hm⟩ := maxLen_at hG hM
  have hpos := List.length_pos_iff.2 h0
  refine (Tryd.strings_Split ⟨s.toArray⟩ ⟨sep.toArray⟩ m w (by rw [baSize]; omega) hm (by rw [baSize]; omega)).mono ?_
  rintro e w' ⟨rfl, rfl⟩
  have hl := Lib.splitB_all ⟨sep.toArray⟩ (by rw [baSize]; omega) 0 _ ⟨s.toArray⟩ rfl
  have hmap := splitB_list sep s (Lib.countB ⟨s.toArray⟩ ⟨sep.toArray⟩)
  have hk : Lib.splitK sep 0 (Lib.countB ⟨s.toArray⟩ ⟨sep.toArray⟩) s = Lib.split s sep := rfl
  have hlen : (Lib.split s sep).length = Lib.countB ⟨s.toArray⟩ ⟨sep.toArray⟩ + 1 := by rw [← hk, ← hmap, List.length_map, hl]
  have hle := split_len_le h0 s.length s (Nat.le_refl _)
  rw [mapStr, hmap, hk, ← hlen]
  exact retS_fresh hM (fun i hi => by simp [hi]) (Nat.le_refl _) (by omega)
theorem splitN_ok (hG : Glob M) (hM : Laid M w) (s sep : List UInt8) (n : Nat) (h0 : sep ≠ []) (hn : 1 ≤ n) (hn2 : n ≤ 1000) (hs : s.length ≤ 1000000000) : Calls Tryd.prog 56 #[str s, str sep, i64 (n : Int)] w (RetS M w (fun M' H v => H = [] ∧ SlS M' v (Lib.splitN s sep n))) := by
  obtain ⟨m, hm⟩ := maxLen_at hG hM
  have hpos := List.length_pos_iff.2 h0
  refine (Tryd.strings_SplitN ⟨s.toArray⟩ ⟨sep.toArray⟩ n m w (by rw [baSize]; omega) hm (by rw [baSize]; omega) hn (by omega)).mono ?_
  rintro e w' ⟨rfl, rfl⟩
  have hsz : (⟨s.toArray⟩ : ByteArray).size = s.length := baSize s
  rw [hsz]
  have hmap := splitB_list sep s (min n (s.length + 1) - 1)
  have hk : Lib.splitK sep 0 (min n (s.length + 1) - 1) s = Lib.splitN s sep n := rfl
  have hle := Lib.splitB_length_le ⟨sep.toArray⟩ 0 (min n (s.length + 1) - 1) ⟨s.toArray⟩
  have hlen : (Lib.splitB ⟨sep.toArray⟩ 0 (min n (s.length + 1) - 1) ⟨s.toArray⟩).length = (Lib.splitN s sep n).length := by rw [← hk, ← hmap, List.length_map]
  generalize hB : Lib.splitB ⟨sep.toArray⟩ 0 (min n (s.length + 1) - 1) ⟨s.toArray⟩ = B at *
  rw [hlen] at hle ⊢
  refine retS_fresh hM (fun i hi => ?_) (by omega) (by omega)
  have e : Lib.splitN s sep n = B.map (·.data.toList) := by rw [← hk, ← hmap]
  have hi' : i < B.length := by omega
  unfold Lib.cellsOf
  simp only [e]
  simp [hi', List.getElem?_append]
/-- the errors' variables -/
structure GlobE (M : Ghost) : Prop where
  glob : Glob M
  syn : ∃ T fz tp p, M 2 (.cells #[.iface tp p] T fz)
  ran : ∃ T fz tp p, M 3 (.cells #[.iface tp p] T fz)
theorem GlobE.mono {M M' : Ghost} (h : GlobE M) (hm : ∀ b o, M b o → M' b o) : GlobE M' := by
  obtain ⟨g, ⟨a, b, c, d, h1⟩, ⟨a', b', c', d', h2⟩⟩ := h
  exact ⟨g.mono hm, ⟨a, b, c, d, hm _ _ h1⟩, ⟨a', b', c', d', hm _ _ h2⟩⟩
theorem gSyn : Tryd.prog.globalNamed "strconv.ErrSyntax" = some 2 := by kernel_rfl
theorem gRan : Tryd.prog.globalNamed "strconv.ErrRange" = some 3 := by kernel_rfl
theorem atoi_ok (hE : GlobE M) (hM : Laid M w) (s : List UInt8) (hs : s.length ≤ 1000000000) : Calls Tryd.prog 57 #[str s] w (RetS M w (fun M' H v => H = [] ∧ ∃ er, v = .tuple #[i64 (atoiV s), er])) := by
  have e1 : (⟨s.toArray⟩ : ByteArray).data.toList = s := rfl
  have hsz : (⟨s.toArray⟩ : ByteArray).size = s.length := baSize s
  have fin : ∀ (w' : World) (x : Value), Ext w w' → RetS M w (fun M' H v => H = [] ∧ ∃ er, v = .tuple #[i64 (atoiV s), er]) (.returned (.tuple #[i64 (atoiV s), x])) w' := fun w' x hx =>
    ⟨_, [], M, rfl, fun _ _ h => h, fun _ _ h => .inl h, (St.start hM).ext hx, rfl, x, rfl⟩
  unfold atoiV at *
  cases h : Lib.atoiAll s with
  | ok v =>
    refine (Tryd.strconv_Atoi_ok ⟨s.toArray⟩ (by rw [hsz]; omega) v (by rw [e1]; exact h) w).mono ?_
    rintro e w' ⟨rfl, hw⟩
    rw [h] at fin
    refine fin _ _ ?_
    rcases hw with rfl | ⟨t, rfl⟩
    · exact Keep.refl _ _
    · exact Ext.of_below (Lib.bytesWorld_below w _ t)
  | range =>
    obtain ⟨T, fz, tp, p, h1⟩ := hE.ran
    have hv : w.var? Tryd.prog "strconv.ErrRange" = some #[.iface tp p] := by unfold World.var?; rw [gRan, Option.bind_some, hM _ _ h1]
    refine (Any.strconv_Atoi_range_var Tryd.laysC172 ⟨s.toArray⟩ (by rw [hsz]; omega) (by rw [e1]; exact h) tp p w hv).mono ?_
    rintro e w' ⟨N, rfl, _, _, hb⟩
    rw [h] at fin
    exact fin _ _ (Ext.of_below hb)
  | _ =>
    obtain ⟨T, fz, tp, p, h1⟩ := hE.syn
    have hv : w.var? Tryd.prog "strconv.ErrSyntax" = some #[.iface tp p] := by unfold World.var?; rw [gSyn, Option.bind_some, hM _ _ h1]
    refine (Any.strconv_Atoi_syntax_var Tryd.laysC172 ⟨s.toArray⟩ (by rw [hsz]; omega) (by rw [e1]; exact h) tp p w hv).mono ?_
    rintro e w' ⟨N, rfl, _, _, hb⟩
    rw [h] at fin
    exact fin _ _ (Ext.of_below hb)
theorem split_ne {sep : List UInt8} (h0 : sep ≠ []) (s : List UInt8) : 0 < (Lib.split s sep).length := by
  cases hc : cutS sep s with
  | none => rw [split_none h0 hc]; simp
  | some p => rw [split_some (a := p.1) (b := p.2) h0 hc]; simp
theorem splitK_mem {sep : List UInt8} (h0 : sep ≠ []) : ∀ (k : Nat) (s x : List UInt8), x ∈ Lib.splitK sep 0 k s → x.length ≤ s.length
  | 0, s, x, h => by rw [splitK_zero, List.mem_singleton] at h; subst h; omega
  | k + 1, s, x, h => by
    cases hc : cutS sep s with
    | none => rw [splitK_none h0 hc, List.mem_singleton] at h; subst h; omega
    | some p =>
      have hl := cutS_length (a := p.1) (b := p.2) hc
      rw [splitK_some (a := p.1) (b := p.2) h0 hc] at h
      rcases List.mem_cons.1 h with rfl | h
      · omega
      · have := splitK_mem h0 k p.2 x h; omega
theorem split_mem {sep : List UInt8} (h0 : sep ≠ []) {s x : List UInt8} (h : x ∈ Lib.split s sep) : x.length ≤ s.length := splitK_mem h0 _ s x h
theorem getD_mem {α : Type} [Inhabited α] {l : List α} {i : Nat} (h : i < l.length) : l.getD i default ∈ l := by
  have : l.getD i default = l[i] := by simp [h]
  rw [this]; exact List.getElem_mem _
end Go.Proofs.YthkpekmecgbokaaDoor
/-
  The library's Trim at the two blanks and HasPrefix; request.target, request.header, text.line.
-/
namespace Go.Proofs.YthkpekmecgbokaaDoor
open Go.Eng Go.Pct Go.Rsp Go.Txt
set_option maxRecDepth 10000
set_option linter.unusedSimpArgs false
set_option linter.unusedVariables false

variable {M : Ghost} {w : World}

theorem qtrim_ok (hM : Laid M w) (s : List UInt8) (hs : s.length ≤ 9223372036854775807) : Calls Tryd.prog 47 #[str s, str [32, 9]] w (RetE w (str (trimB s))) := by
  refine (Any.strings_Trim_laid Tryd.lays160 (by kernel_rfl) ⟨s.toArray⟩ ⟨[(32 : UInt8), 9].toArray⟩ w (by rw [baSize]; exact hs) (by rw [baSize]; decide) (ascii_of_all (by decide))).mono ?_
  rintro e w' ⟨rfl, hb⟩
  refine ⟨?_, Ext.of_below hb⟩
  rw [← trimB_lib]
theorem prefix_ok (hM : Laid M w) (s p : List UInt8) : Calls Tryd.prog 68 #[str s, str p] w (RetE w (.bool (Lib.hasPrefix s p))) := by
  refine (Tryd.strings_HasPrefix ⟨s.toArray⟩ ⟨p.toArray⟩ w).mono ?_
  rintro e w' ⟨rfl, rfl⟩
  exact ⟨rfl, rfl, rfl, rfl, Nat.le_refl _, fun _ _ _ => rfl⟩
end Go.Proofs.YthkpekmecgbokaaDoor
/-
  The engine at a call that is lent blocks of its caller's: told by a class of worlds ahead and behind. Nothing of the program stands here.
-/
namespace Go.Eng
open Go.RowKit
set_option linter.unusedVariables false

section
variable {P : Program} {n : Nat} {E : Env} {k : Kont} {ops : Array Oper} {rest : List Oper} {C C' : World → Prop}
variable {dst : Option Tmp} {ty : TypeId} {pos : String} {af : Array Edge} {g : Option (Nat × Bool)}
/-- what a lent call ends in -/
def RetC (C' : World → Prop) (v : Value) : Ending → World → Prop := fun e w' => e = .returned v ∧ C' w'
/-- A call that leads from one class of worlds to another. -/
theorem wl_callL {f : FuncId} {l : List Operand} {ats : Array TypeId} {vs : List (Bool × Value)} {args : Array Value} {d : Nat} {v : Value}
    (hg : gd ops E g = some true) (hf : ∀ args w, (callFunc f args).run P w = .ok (.enter f args) w) (hl : evg true E l = some vs) (hp : vs.all (·.1) = true) (hargs : vs.map (·.2) = args.toList) (hd : Nat.blt d n = true)
    (hc : ∀ w, C w → Calls P f args w (RetC C' v))
    (h : WL P ops rest n ((d, true, v) :: E) C' k) :
    WL P ops (⟨some d, .call ⟨.value (.func f), l.toArray, ats⟩, ty, pos, af, g⟩ :: rest) n E C k := by
  have hd : d < n := by simpa [Nat.blt_eq] using hd
  refine wl_op hg fun a w ha hw => ?_
  unfold Oper.wp
  rw [run_callf hf (args := args) (by rw [evg_eval ha hl (by simpa using hp), hargs]), Oper.upon_enter]
  refine (hc w hw).mono ?_
  rintro e w' ⟨rfl, hC⟩
  exact h.run _ w' (ha.put hd rfl) hC
/-- A lent call is its body's walk. -/
theorem calls_lent {fn : Func} {f : FuncId} {c : Code} {l : List Value} {w : World} {R : Ending → World → Prop} (hC : C w) (hf : P.funcs[f]? = some fn) (hb : fn.body = some c) {m : Nat} (hm : fn.ntmps = m) (hl : Nat.ble l.length m = true) {E0 : Env}
    (hE : ∀ i cc v, look E0 i = some (cc, v) → cc = true ∧ l[i]? = some v) (h : WC P c m E0 C (.fin (bodyPost P fn R))) : Calls P f l.toArray w R :=
  calls_ex hf hb hm (Nat.le_of_ble_eq_true hl) hE ⟨fun a w' ha hw => by subst hw; exact h.run a w' ha hC⟩
theorem wrl_tmp2 {fn : Func} {t u : Nat} {v v' r r' : Value} (hr : fn.results = #[.tmp t, .tmp u]) (ht : look E t = some (true, v')) (hu : look E u = some (true, r')) (hv : v' = v) (hv2 : r' = r) (hC : ∀ w, C w → C' w) : WR n E C (bodyPost P fn (RetC C' (.tuple #[v, r]))) := ⟨fun a w ha hw => by
  refine bodyPost_ret (v := .tuple #[v, r]) ?_ ha.defers ⟨rfl, hC _ hw⟩
  have h1 := ha.reads t true v' ht
  have h2 := ha.reads u true r' hu
  rw [results_tmp2 hr]
  simp [h1, h2, hv, hv2]⟩
/-- what a lent call ends in that lays something for good: blocks that are new since w0 -/
def RetCS (w0 : World) (bs : List Nat) (H : List (Nat × Obj)) (M : Ghost) (R : Ghost → Value → Prop) : Ending → World → Prop := fun e w' => ∃ v M', e = .returned v ∧ (∀ b o, M b o → M' b o) ∧ (∀ b o, M' b o → M b o ∨ w0.heap.size ≤ b) ∧ St w0 bs H M' w' ∧ R M' v
theorem wl_callLS {w0 : World} {bs : List Nat} {H : List (Nat × Obj)} {M : Ghost} {R : Ghost → Value → Prop} {f : FuncId} {l : List Operand} {ats : Array TypeId} {vs : List (Bool × Value)} {args : Array Value} {d : Nat}
    (hg : gd ops E g = some true) (hf : ∀ args w, (callFunc f args).run P w = .ok (.enter f args) w) (hl : evg true E l = some vs) (hp : vs.all (·.1) = true) (hargs : vs.map (·.2) = args.toList) (hd : Nat.blt d n = true)
    (hc : ∀ w, C w → Calls P f args w (RetCS w0 bs H M R))
    (h : ∀ v M', (∀ b o, M b o → M' b o) → (∀ b o, M' b o → M b o ∨ w0.heap.size ≤ b) → R M' v → WL P ops rest n ((d, true, v) :: E) (St w0 bs H M') k) :
    WL P ops (⟨some d, .call ⟨.value (.func f), l.toArray, ats⟩, ty, pos, af, g⟩ :: rest) n E C k := by
  have hd : d < n := by simpa [Nat.blt_eq] using hd
  refine wl_op hg fun a w ha hw => ?_
  unfold Oper.wp
  rw [run_callf hf (args := args) (by rw [evg_eval ha hl (by simpa using hp), hargs]), Oper.upon_enter]
  refine (hc w hw).mono ?_
  rintro e w' ⟨v, M', rfl, h1, h2, h3, h4⟩
  exact (h v M' h1 h2 h4).run _ w' (ha.put hd rfl) h3
/-- the return of such a call: what is laid -/
theorem wrl_lay2 {w0 : World} {H H' Hn : List (Nat × Obj)} {M M0 : Ghost} {R : Ghost → Value → Prop} {fn : Func} {t u : Nat} {v' r' : Value} (hr : fn.results = #[.tmp t, .tmp u]) (ht : look E t = some (true, v')) (hu : look E u = some (true, r'))
    (hs : Since w0 M0 M) (hH : (Hn ++ H').Sublist H) (hR : R (With M Hn) (.tuple #[v', r'])) : WR n E (St w0 [] H M) (bodyPost P fn (RetCS w0 [] H' M0 R)) := ⟨fun a w ha hw => by
  have h1 := ha.reads t true v' ht
  have h2 := ha.reads u true r' hu
  have hw2 := hw.drop hH
  refine bodyPost_ret (v := .tuple #[v', r']) ?_ ha.defers ⟨_, With M Hn, rfl, fun b o h => .inl (hs.1 b o h), fun b o h => ?_, hw2.publish, hR⟩
  · rw [results_tmp2 hr]
    simp [h1, h2]
  · rcases h with h | h
    · exact hs.2 b o h
    · rcases hw2.new (b, o) (List.mem_append_left _ h) with h3 | h3
      · exact .inr h3
      · cases h3⟩
end
end Go.Eng
/-
  text.line: the next line of a text that is lent.
-/
namespace Go.Proofs.YthkpekmecgbokaaDoor
open Go.Eng Go.Pct Go.Rsp Go.Txt
set_option maxRecDepth 10000
set_option linter.unusedSimpArgs false
set_option linter.unusedVariables false

variable {M : Ghost} {w0 w : World} {bs : List Nat} {H : List (Nat × Obj)}

/-- the text's own block -/
def txtO (t : List UInt8) : Obj := .cells [str t].toArray 60 (0, 0)
/-- the line's text, what is wrong, what is left -/
def lineT (t : List UInt8) : List UInt8 × Int × List UInt8 := match cutS [13, 10] t with
  | some (l, r) => (l, 0, r)
  | none => ([], 3, t)
theorem qline_ok (hG : Glob M) {t : List UInt8} {b : Nat} (hs : t.length ≤ 1000000000) (hw : St w0 bs ((b, txtO t) :: H) M w) : Calls Tryd.prog 39 #[.pointer (some ⟨b, 0, none⟩)] w (RetC (St w0 bs ((b, txtO (lineT t).2.2) :: H) M) (.tuple #[str (lineT t).1, i64 (lineT t).2.1])) := by
  refine calls_lent (C := St w0 bs ((b, txtO t) :: H) M) (l := [.pointer (some ⟨b, 0, none⟩)]) hw Tryd.func39 rfl rfl rfl (E0 := [(0, true, .pointer (some ⟨b, 0, none⟩))]) (params_cons rfl (params_nil _)) ?_
  clear hw
  unfold lineT txtO
  cases hc : cutS [13, 10] t with
  | none =>
    repeat' (first | (first | refine wc_seq ?_ | refine wc_region ?_ | refine wl_nil ?_ | refine wn_seq ?_ | refine wn_blk ?_ | refine wc_skip ?_ | refine wc_scope ?_ | refine wc_label ?_ | refine wn_noGoto ?_ | refine wc_block ?_ | refine wc_exit rfl ?_ | (show WL _ _ (_ :: _) _ _ _ _; first | refine wl_v rfl rfl rfl (by first | (show OpV _ _ _ _ (Oper.mk _ (Op.move _) _ _ _ _) _ _; exact xo_move rfl) | (show OpV _ _ _ _ (Oper.mk _ (Op.assign _) _ _ _ _) _ _; exact xo_assign rfl) | (show OpV _ _ _ _ (Oper.mk _ (Op.pick _ _ _) _ _ _ _) _ _; first | exact xo_and rfl rfl | exact xo_or rfl rfl) | (show OpV _ _ _ _ (Oper.mk _ (Op.extract _ _) _ _ _ _) _ _; exact xo_extract rfl) | (show OpV _ _ _ _ (Oper.mk _ (Op.call ⟨.builtin .len, _, _⟩) _ _ _ _) _ _; first | exact xo_slen rfl | exact xo_len rfl) | (show OpV _ _ _ _ (Oper.mk _ (Op.unOp _ _ _) _ _ _ _) _ _; exact xo_not rfl) | (show OpV _ _ _ _ (Oper.mk _ (Op.binOp BinOp.eql _ _ _ _) _ _ _ _) _ _; first | exact xo_eql rfl rfl | exact xo_seql rfl rfl | exact xo_beql rfl rfl | exact xo_aeql rfl rfl) | (show OpV _ _ _ _ (Oper.mk _ (Op.binOp BinOp.neq _ _ _ _) _ _ _ _) _ _; first | exact xo_neq rfl rfl | exact xo_sneq rfl rfl | exact xo_bneq rfl rfl | exact xo_aneq rfl rfl) | (show OpV _ _ _ _ (Oper.mk _ (Op.binOp BinOp.lss _ _ _ _) _ _ _ _) _ _; exact xo_lss rfl rfl) | (show OpV _ _ _ _ (Oper.mk _ (Op.binOp BinOp.leq _ _ _ _) _ _ _ _) _ _; exact xo_leq rfl rfl) | (show OpV _ _ _ _ (Oper.mk _ (Op.binOp BinOp.gtr _ _ _ _) _ _ _ _) _ _; exact xo_gtr rfl rfl) | (show OpV _ _ _ _ (Oper.mk _ (Op.binOp BinOp.geq _ _ _ _) _ _ _ _) _ _; exact xo_geq rfl rfl) | (show OpV _ _ _ _ (Oper.mk _ (Op.binOp BinOp.add _ _ _ _) _ _ _ _) _ _; first | exact xo_add rfl rfl | exact ov_sadd rfl rfl (by first | with_reducible exact fun _ => rfl | with_reducible exact fun h => h | exact fun _ => rfl | exact fun h => h | (intro himp; simp_all; done)) (by first | with_reducible exact fun _ => rfl | with_reducible exact fun h => h | exact fun _ => rfl | exact fun h => h | (intro himp; simp_all; done)) (by intro hcg; first | omega | (simp only [List.length_append, List.length_take, List.length_drop, List.length_cons, List.length_nil, List.length_nil]; omega))) | (show OpV _ _ _ _ (Oper.mk _ (Op.binOp BinOp.sub _ _ _ _) _ _ _ _) _ _; exact xo_sub rfl rfl) | (show OpV _ _ _ _ (Oper.mk _ (Op.binOp BinOp.mul _ _ _ _) _ _ _ _) _ _; exact xo_mul rfl rfl) | (show OpV _ _ _ _ (Oper.mk _ (Op.binOp BinOp.quo _ _ _ _) _ _ _ _) _ _; exact xo_quo rfl rfl) | (show OpV _ _ _ _ (Oper.mk _ (Op.binOp BinOp.rem _ _ _ _) _ _ _ _) _ _; exact xo_rem rfl rfl) | (show OpV _ _ _ _ (Oper.mk _ (Op.index _ _ _) _ _ _ _) _ _; exact xo_sindex rfl rfl) | (show OpV _ _ _ _ (Oper.mk _ (Op.slice _ _ (some _) (some _) none) _ _ _ _) _ _; first | exact xo_slice rfl rfl rfl | exact xo_slcB rfl rfl rfl) | (show OpV _ _ _ _ (Oper.mk _ (Op.slice _ _ (some _) none none) _ _ _ _) _ _; first | exact xo_from rfl rfl | exact xo_slcFrom rfl rfl) | (show OpV _ _ _ _ (Oper.mk _ (Op.slice _ _ none (some _) none) _ _ _ _) _ _; first | exact xo_to rfl rfl | exact xo_slcTo rfl rfl) | (show OpV _ _ _ _ (Oper.mk _ (Op.slice _ _ none (some _) (some _)) _ _ _ _) _ _; exact xo_slc3 rfl rfl rfl) | (show OpV _ _ _ _ (Oper.mk _ (Op.convert _ _ _) _ _ _ _) _ _; first | exact xo_conv rfl | exact xo_convBytes rfl) | (show OpV _ _ _ _ (Oper.mk _ (Op.fieldAddr _ _ _) _ _ _ _) _ _; exact xo_fieldAddr rfl) | (show OpV _ _ _ _ (Oper.mk _ (Op.load _ _) _ _ _ _) _ _; first | exact xo_load1 rfl | exact xo_loadS rfl) | (show OpV _ _ _ _ (Oper.mk _ (Op.field _ _ _) _ _ _ _) _ _; exact xo_field rfl) | (show OpV _ _ _ _ (Oper.mk _ (Op.build _ _) _ _ _ _) _ _; exact xo_build rfl) | (show OpV _ _ _ _ (Oper.mk _ (Op.makeFunc _ _ _) _ _ _ _) _ _; exact ov_makeFunc rfl rfl) | (show OpV _ _ _ _ (Oper.mk _ (Op.nilCheck _) _ _ _ _) _ _; exact xo_nilCheck rfl)) ?_ | refine wl_v rfl rfl rfl (by first | ((show OpV _ _ _ _ (Oper.mk _ (Op.call ⟨.value (.func 49), _, _⟩) _ _ _ _) _ _; exact ov_call Tryd.call49 rfl (by intro himp; first | rfl | (simp_all; done)) (by rfl) (fun _ _ h k => h.ext k) (fun hcg w hw => cut_no hG hw.laid (by simp) hs hc))) | fail) ?_ | refine xl_alloc (fun _ => ?_) | refine xl_box rfl (fun _ => ?_) | refine xl_store rfl rfl ?_ | refine xl_buildSlice rfl (fun _ => ?_) | refine wl_makeMap rfl rfl (fun _ => ?_) | refine wl_insert rfl rfl rfl rfl rfl rfl (by first | exact rfl | exact trivial) (by first | exact Upd.here | exact Upd.there Upd.here | exact Upd.there (Upd.there Upd.here) | exact Upd.there (Upd.there (Upd.there Upd.here)) | exact Upd.there (Upd.there (Upd.there (Upd.there Upd.here))) | exact Upd.app _ (Upd.here) | exact Upd.app _ (Upd.there Upd.here) | exact Upd.app _ (Upd.there (Upd.there Upd.here)) | exact Upd.app _ (Upd.there (Upd.there (Upd.there Upd.here))) | exact Upd.there (Upd.app _ (Upd.here)) | exact Upd.there (Upd.app _ (Upd.there Upd.here)) | exact Upd.there (Upd.app _ (Upd.there (Upd.there Upd.here))) | exact Upd.there (Upd.app _ (Upd.there (Upd.there (Upd.there Upd.here)))) | exact Upd.there (Upd.there (Upd.app _ (Upd.here))) | exact Upd.there (Upd.there (Upd.app _ (Upd.there Upd.here))) | exact Upd.there (Upd.there (Upd.app _ (Upd.there (Upd.there Upd.here))))) (by rfl) ?_) | refine wc_ret rfl ?_) | (show WC _ (Code.cond _ _ _) _ _ _ _; (refine wc_cond rfl (fun hc => ?_) (fun hc => ?_) <;> (try (simp only [decide_eq_true_eq, decide_eq_false_iff_not, Bool.and_eq_true, Bool.or_eq_true, Bool.and_eq_false_iff, Bool.or_eq_false_iff, Bool.not_eq_true', Bool.not_eq_false', Int.not_lt, Int.not_le] at hc)) <;> (try (exfalso; first | omega | contradiction)))))
    exact wrl_tmp2 rfl rfl rfl rfl rfl (fun _ h => h)
  | some p =>
    repeat' (first | (first | refine wc_seq ?_ | refine wc_region ?_ | refine wl_nil ?_ | refine wn_seq ?_ | refine wn_blk ?_ | refine wc_skip ?_ | refine wc_scope ?_ | refine wc_label ?_ | refine wn_noGoto ?_ | refine wc_block ?_ | refine wc_exit rfl ?_ | (show WL _ _ (_ :: _) _ _ _ _; first | refine wl_v rfl rfl rfl (by first | (show OpV _ _ _ _ (Oper.mk _ (Op.move _) _ _ _ _) _ _; exact xo_move rfl) | (show OpV _ _ _ _ (Oper.mk _ (Op.assign _) _ _ _ _) _ _; exact xo_assign rfl) | (show OpV _ _ _ _ (Oper.mk _ (Op.pick _ _ _) _ _ _ _) _ _; first | exact xo_and rfl rfl | exact xo_or rfl rfl) | (show OpV _ _ _ _ (Oper.mk _ (Op.extract _ _) _ _ _ _) _ _; exact xo_extract rfl) | (show OpV _ _ _ _ (Oper.mk _ (Op.call ⟨.builtin .len, _, _⟩) _ _ _ _) _ _; first | exact xo_slen rfl | exact xo_len rfl) | (show OpV _ _ _ _ (Oper.mk _ (Op.unOp _ _ _) _ _ _ _) _ _; exact xo_not rfl) | (show OpV _ _ _ _ (Oper.mk _ (Op.binOp BinOp.eql _ _ _ _) _ _ _ _) _ _; first | exact xo_eql rfl rfl | exact xo_seql rfl rfl | exact xo_beql rfl rfl | exact xo_aeql rfl rfl) | (show OpV _ _ _ _ (Oper.mk _ (Op.binOp BinOp.neq _ _ _ _) _ _ _ _) _ _; first | exact xo_neq rfl rfl | exact xo_sneq rfl rfl | exact xo_bneq rfl rfl | exact xo_aneq rfl rfl) | (show OpV _ _ _ _ (Oper.mk _ (Op.binOp BinOp.lss _ _ _ _) _ _ _ _) _ _; exact xo_lss rfl rfl) | (show OpV _ _ _ _ (Oper.mk _ (Op.binOp BinOp.leq _ _ _ _) _ _ _ _) _ _; exact xo_leq rfl rfl) | (show OpV _ _ _ _ (Oper.mk _ (Op.binOp BinOp.gtr _ _ _ _) _ _ _ _) _ _; exact xo_gtr rfl rfl) | (show OpV _ _ _ _ (Oper.mk _ (Op.binOp BinOp.geq _ _ _ _) _ _ _ _) _ _; exact xo_geq rfl rfl) | (show OpV _ _ _ _ (Oper.mk _ (Op.binOp BinOp.add _ _ _ _) _ _ _ _) _ _; first | exact xo_add rfl rfl | exact ov_sadd rfl rfl (by first | with_reducible exact fun _ => rfl | with_reducible exact fun h => h | exact fun _ => rfl | exact fun h => h | (intro himp; simp_all; done)) (by first | with_reducible exact fun _ => rfl | with_reducible exact fun h => h | exact fun _ => rfl | exact fun h => h | (intro himp; simp_all; done)) (by intro hcg; first | omega | (simp only [List.length_append, List.length_take, List.length_drop, List.length_cons, List.length_nil, List.length_nil]; omega))) | (show OpV _ _ _ _ (Oper.mk _ (Op.binOp BinOp.sub _ _ _ _) _ _ _ _) _ _; exact xo_sub rfl rfl) | (show OpV _ _ _ _ (Oper.mk _ (Op.binOp BinOp.mul _ _ _ _) _ _ _ _) _ _; exact xo_mul rfl rfl) | (show OpV _ _ _ _ (Oper.mk _ (Op.binOp BinOp.quo _ _ _ _) _ _ _ _) _ _; exact xo_quo rfl rfl) | (show OpV _ _ _ _ (Oper.mk _ (Op.binOp BinOp.rem _ _ _ _) _ _ _ _) _ _; exact xo_rem rfl rfl) | (show OpV _ _ _ _ (Oper.mk _ (Op.index _ _ _) _ _ _ _) _ _; exact xo_sindex rfl rfl) | (show OpV _ _ _ _ (Oper.mk _ (Op.slice _ _ (some _) (some _) none) _ _ _ _) _ _; first | exact xo_slice rfl rfl rfl | exact xo_slcB rfl rfl rfl) | (show OpV _ _ _ _ (Oper.mk _ (Op.slice _ _ (some _) none none) _ _ _ _) _ _; first | exact xo_from rfl rfl | exact xo_slcFrom rfl rfl) | (show OpV _ _ _ _ (Oper.mk _ (Op.slice _ _ none (some _) none) _ _ _ _) _ _; first | exact xo_to rfl rfl | exact xo_slcTo rfl rfl) | (show OpV _ _ _ _ (Oper.mk _ (Op.slice _ _ none (some _) (some _)) _ _ _ _) _ _; exact xo_slc3 rfl rfl rfl) | (show OpV _ _ _ _ (Oper.mk _ (Op.convert _ _ _) _ _ _ _) _ _; first | exact xo_conv rfl | exact xo_convBytes rfl) | (show OpV _ _ _ _ (Oper.mk _ (Op.fieldAddr _ _ _) _ _ _ _) _ _; exact xo_fieldAddr rfl) | (show OpV _ _ _ _ (Oper.mk _ (Op.load _ _) _ _ _ _) _ _; first | exact xo_load1 rfl | exact xo_loadS rfl) | (show OpV _ _ _ _ (Oper.mk _ (Op.field _ _ _) _ _ _ _) _ _; exact xo_field rfl) | (show OpV _ _ _ _ (Oper.mk _ (Op.build _ _) _ _ _ _) _ _; exact xo_build rfl) | (show OpV _ _ _ _ (Oper.mk _ (Op.makeFunc _ _ _) _ _ _ _) _ _; exact ov_makeFunc rfl rfl) | (show OpV _ _ _ _ (Oper.mk _ (Op.nilCheck _) _ _ _ _) _ _; exact xo_nilCheck rfl)) ?_ | refine wl_v rfl rfl rfl (by first | ((show OpV _ _ _ _ (Oper.mk _ (Op.call ⟨.value (.func 49), _, _⟩) _ _ _ _) _ _; exact ov_call Tryd.call49 rfl (by intro himp; first | rfl | (simp_all; done)) (by rfl) (fun _ _ h k => h.ext k) (fun hcg w hw => cut_yes hG hw.laid (a := p.1) (b := p.2) (by simp) hs hc))) | fail) ?_ | refine xl_alloc (fun _ => ?_) | refine xl_box rfl (fun _ => ?_) | refine xl_store rfl rfl ?_ | refine xl_buildSlice rfl (fun _ => ?_) | refine wl_makeMap rfl rfl (fun _ => ?_) | refine wl_insert rfl rfl rfl rfl rfl rfl (by first | exact rfl | exact trivial) (by first | exact Upd.here | exact Upd.there Upd.here | exact Upd.there (Upd.there Upd.here) | exact Upd.there (Upd.there (Upd.there Upd.here)) | exact Upd.there (Upd.there (Upd.there (Upd.there Upd.here))) | exact Upd.app _ (Upd.here) | exact Upd.app _ (Upd.there Upd.here) | exact Upd.app _ (Upd.there (Upd.there Upd.here)) | exact Upd.app _ (Upd.there (Upd.there (Upd.there Upd.here))) | exact Upd.there (Upd.app _ (Upd.here)) | exact Upd.there (Upd.app _ (Upd.there Upd.here)) | exact Upd.there (Upd.app _ (Upd.there (Upd.there Upd.here))) | exact Upd.there (Upd.app _ (Upd.there (Upd.there (Upd.there Upd.here)))) | exact Upd.there (Upd.there (Upd.app _ (Upd.here))) | exact Upd.there (Upd.there (Upd.app _ (Upd.there Upd.here))) | exact Upd.there (Upd.there (Upd.app _ (Upd.there (Upd.there Upd.here))))) (by rfl) ?_) | refine wc_ret rfl ?_) | (show WC _ (Code.cond _ _ _) _ _ _ _; (refine wc_cond rfl (fun hc => ?_) (fun hc => ?_) <;> (try (simp only [decide_eq_true_eq, decide_eq_false_iff_not, Bool.and_eq_true, Bool.or_eq_true, Bool.and_eq_false_iff, Bool.or_eq_false_iff, Bool.not_eq_true', Bool.not_eq_false', Int.not_lt, Int.not_le] at hc)) <;> (try (exfalso; first | omega | contradiction)))))
    exact wrl_tmp2 rfl rfl rfl rfl rfl (fun _ h => h)
/-- a header's line: the pair, what is wrong -/
def hdrP (l : List UInt8) : Pr × Int := match cutS [58] l with
  | none => (([], []), 18)
  | some (a, b) => if tokenB a = true ∧ shownB 32 (trimB b) = true then ((a, trimB b), 0) else (([], []), 18)
theorem trimB_length (s : List UInt8) : (trimB s).length ≤ s.length := by
  unfold trimB rgt lft
  rw [List.length_reverse]
  refine Nat.le_trans (List.dropWhile_sublist _).length_le ?_
  rw [List.length_reverse]
  exact (List.dropWhile_sublist _).length_le
theorem hall_ok (hM : Laid M w) (s : List UInt8) (hs : s.length ≤ 9223372036854775807) : Calls Tryd.prog 51 #[str s, .int .u8 32, .int .u8 126] w (RetE w (.bool (shownB 32 s))) := all_ok hM s 32 126 hs
theorem header_ok (hG : Glob M) (hM : Laid M w) (l : List UInt8) (hs : l.length ≤ 1000000000) : Calls Tryd.prog 53 #[str l] w (RetE w (.tuple #[.agg #[str (hdrP l).1.1, str (hdrP l).1.2], i64 (hdrP l).2])) := by
  have htr := trimB_length
  refine calls_st (l := [str l]) hM Tryd.func53 rfl rfl rfl (E0 := [(0, true, str l)]) (params_cons rfl (params_nil _)) ?_
  unfold hdrP
  cases hc0 : cutS [58] l with
  | none =>
    repeat' (first | (first | refine wc_seq ?_ | refine wc_region ?_ | refine wl_nil ?_ | refine wn_seq ?_ | refine wn_blk ?_ | refine wc_skip ?_ | refine wc_block ?_ | refine wc_exit rfl ?_ | (show WL _ _ (_ :: _) _ _ _ _; first | refine wl_v rfl rfl rfl (by first | (show OpV _ _ _ _ (Oper.mk _ (Op.move _) _ _ _ _) _ _; exact xo_move rfl) | (show OpV _ _ _ _ (Oper.mk _ (Op.assign _) _ _ _ _) _ _; exact xo_assign rfl) | (show OpV _ _ _ _ (Oper.mk _ (Op.pick _ _ _) _ _ _ _) _ _; first | exact xo_and rfl rfl | exact xo_or rfl rfl) | (show OpV _ _ _ _ (Oper.mk _ (Op.extract _ _) _ _ _ _) _ _; exact xo_extract rfl) | (show OpV _ _ _ _ (Oper.mk _ (Op.unOp _ _ _) _ _ _ _) _ _; exact xo_not rfl) | (show OpV _ _ _ _ (Oper.mk _ (Op.build _ _) _ _ _ _) _ _; exact xo_build rfl)) ?_ | refine wl_v rfl rfl rfl (by first | ((show OpV _ _ _ _ (Oper.mk _ (Op.call ⟨.value (.func 49), _, _⟩) _ _ _ _) _ _; exact ov_call Tryd.call49 rfl (by intro himp; first | rfl | (simp_all; done)) (by rfl) (fun _ _ h k => h.ext k) (fun hcg w hw => cut_no hG hw.laid (by simp) hs hc0))) | ((show OpV _ _ _ _ (Oper.mk _ (Op.call ⟨.value (.func 47), _, _⟩) _ _ _ _) _ _; exact ov_call Tryd.call47 rfl (by intro himp; first | rfl | (simp_all; done)) (by rfl) (fun _ _ h k => h.ext k) (fun hcg w hw => qtrim_ok hw.laid _ (by simp)))) | ((show OpV _ _ _ _ (Oper.mk _ (Op.call ⟨.value (.func 69), _, _⟩) _ _ _ _) _ _; exact ov_call Tryd.call69 rfl (by intro himp; first | rfl | (simp_all; done)) (by rfl) (fun _ _ h k => h.ext k) (fun hcg w hw => qtoken_ok hw.laid _ (by omega)))) | ((show OpV _ _ _ _ (Oper.mk _ (Op.call ⟨.value (.func 51), _, _⟩) _ _ _ _) _ _; exact ov_call Tryd.call51 rfl (by intro himp; first | rfl | (simp_all; done)) (by rfl) (fun _ _ h k => h.ext k) (fun hcg w hw => hall_ok hw.laid _ (by simp [trimB, rgt, lft])))) | fail) ?_ | refine xl_alloc (fun _ => ?_) | refine xl_store rfl rfl ?_) | refine wc_ret rfl ?_) | (show WC _ (Code.cond _ _ _) _ _ _ _; (refine wc_cond rfl (fun hc => ?_) (fun hc => ?_) <;> (try (simp only [decide_eq_true_eq, decide_eq_false_iff_not, Bool.and_eq_true, Bool.or_eq_true, Bool.and_eq_false_iff, Bool.or_eq_false_iff, Bool.not_eq_true', Bool.not_eq_false', Int.not_lt, Int.not_le] at hc)) <;> (try (exfalso; first | omega | contradiction)))))
    all_goals exact wr_cellS rfl rfl rfl rfl (by first | exact List.Mem.head _ | exact List.Mem.tail _ (List.Mem.head _) | exact List.Mem.tail _ (List.Mem.tail _ (List.Mem.head _)) | exact List.Mem.tail _ (List.Mem.tail _ (List.Mem.tail _ (List.Mem.head _))) | exact List.Mem.tail _ (List.Mem.tail _ (List.Mem.tail _ (List.Mem.tail _ (List.Mem.head _)))) | exact List.mem_append_right _ (List.Mem.head _) | exact List.mem_append_right _ (List.Mem.tail _ (List.Mem.head _)) | exact List.mem_append_right _ (List.Mem.tail _ (List.Mem.tail _ (List.Mem.head _))) | exact List.mem_append_right _ (List.Mem.tail _ (List.Mem.tail _ (List.Mem.tail _ (List.Mem.head _)))) | exact List.Mem.tail _ (List.mem_append_right _ (List.Mem.head _)) | exact List.Mem.tail _ (List.mem_append_right _ (List.Mem.tail _ (List.Mem.head _))) | exact List.Mem.tail _ (List.mem_append_right _ (List.Mem.tail _ (List.Mem.tail _ (List.Mem.head _)))) | exact List.Mem.tail _ (List.mem_append_right _ (List.Mem.tail _ (List.Mem.tail _ (List.Mem.tail _ (List.Mem.head _))))) | exact List.Mem.tail _ (List.Mem.tail _ (List.mem_append_right _ (List.Mem.head _))) | exact List.Mem.tail _ (List.Mem.tail _ (List.mem_append_right _ (List.Mem.tail _ (List.Mem.head _)))) | exact List.Mem.tail _ (List.Mem.tail _ (List.mem_append_right _ (List.Mem.tail _ (List.Mem.tail _ (List.Mem.head _)))))) (by first | exact (rfl : _ = some 1) | exact (rfl : _ = some 2) | exact (rfl : _ = some 3) | exact (rfl : _ = some 4) | exact (rfl : _ = some 6) | exact rfl) rfl rfl
  | some p =>
    obtain ⟨a, b⟩ := p
    have hl := cutS_length hc0
    have h2 := htr b
    simp only
    repeat' (first | (first | refine wc_seq ?_ | refine wc_region ?_ | refine wl_nil ?_ | refine wn_seq ?_ | refine wn_blk ?_ | refine wc_skip ?_ | refine wc_block ?_ | refine wc_exit rfl ?_ | (show WL _ _ (_ :: _) _ _ _ _; first | refine wl_v rfl rfl rfl (by first | (show OpV _ _ _ _ (Oper.mk _ (Op.move _) _ _ _ _) _ _; exact xo_move rfl) | (show OpV _ _ _ _ (Oper.mk _ (Op.assign _) _ _ _ _) _ _; exact xo_assign rfl) | (show OpV _ _ _ _ (Oper.mk _ (Op.pick _ _ _) _ _ _ _) _ _; first | exact xo_and rfl rfl | exact xo_or rfl rfl) | (show OpV _ _ _ _ (Oper.mk _ (Op.extract _ _) _ _ _ _) _ _; exact xo_extract rfl) | (show OpV _ _ _ _ (Oper.mk _ (Op.unOp _ _ _) _ _ _ _) _ _; exact xo_not rfl) | (show OpV _ _ _ _ (Oper.mk _ (Op.build _ _) _ _ _ _) _ _; exact xo_build rfl)) ?_ | refine wl_v rfl rfl rfl (by first | ((show OpV _ _ _ _ (Oper.mk _ (Op.call ⟨.value (.func 49), _, _⟩) _ _ _ _) _ _; exact ov_call Tryd.call49 rfl (by intro himp; first | rfl | (simp_all; done)) (by rfl) (fun _ _ h k => h.ext k) (fun hcg w hw => cut_yes hG hw.laid (by simp) hs hc0))) | ((show OpV _ _ _ _ (Oper.mk _ (Op.call ⟨.value (.func 47), _, _⟩) _ _ _ _) _ _; exact ov_call Tryd.call47 rfl (by intro himp; first | rfl | (simp_all; done)) (by rfl) (fun _ _ h k => h.ext k) (fun hcg w hw => qtrim_ok hw.laid b (by omega)))) | ((show OpV _ _ _ _ (Oper.mk _ (Op.call ⟨.value (.func 69), _, _⟩) _ _ _ _) _ _; exact ov_call Tryd.call69 rfl (by intro himp; first | rfl | (simp_all; done)) (by rfl) (fun _ _ h k => h.ext k) (fun hcg w hw => qtoken_ok hw.laid _ (by omega)))) | ((show OpV _ _ _ _ (Oper.mk _ (Op.call ⟨.value (.func 51), _, _⟩) _ _ _ _) _ _; exact ov_call Tryd.call51 rfl (by intro himp; first | rfl | (simp_all; done)) (by rfl) (fun _ _ h k => h.ext k) (fun hcg w hw => hall_ok hw.laid _ (by omega)))) | fail) ?_ | refine xl_alloc (fun _ => ?_) | refine xl_store rfl rfl ?_) | refine wc_ret rfl ?_) | (show WC _ (Code.cond _ _ _) _ _ _ _; (refine wc_cond rfl (fun hc => ?_) (fun hc => ?_) <;> (try (simp only [decide_eq_true_eq, decide_eq_false_iff_not, Bool.and_eq_true, Bool.or_eq_true, Bool.and_eq_false_iff, Bool.or_eq_false_iff, Bool.not_eq_true', Bool.not_eq_false', Int.not_lt, Int.not_le] at hc)) <;> (try (exfalso; first | omega | contradiction)))))
    · rw [if_neg (by rcases hc with h | h <;> simp [h])]
      exact wr_cellS rfl rfl rfl rfl (by first | exact List.Mem.head _ | exact List.Mem.tail _ (List.Mem.head _) | exact List.Mem.tail _ (List.Mem.tail _ (List.Mem.head _)) | exact List.Mem.tail _ (List.Mem.tail _ (List.Mem.tail _ (List.Mem.head _))) | exact List.Mem.tail _ (List.Mem.tail _ (List.Mem.tail _ (List.Mem.tail _ (List.Mem.head _)))) | exact List.mem_append_right _ (List.Mem.head _) | exact List.mem_append_right _ (List.Mem.tail _ (List.Mem.head _)) | exact List.mem_append_right _ (List.Mem.tail _ (List.Mem.tail _ (List.Mem.head _))) | exact List.mem_append_right _ (List.Mem.tail _ (List.Mem.tail _ (List.Mem.tail _ (List.Mem.head _)))) | exact List.Mem.tail _ (List.mem_append_right _ (List.Mem.head _)) | exact List.Mem.tail _ (List.mem_append_right _ (List.Mem.tail _ (List.Mem.head _))) | exact List.Mem.tail _ (List.mem_append_right _ (List.Mem.tail _ (List.Mem.tail _ (List.Mem.head _)))) | exact List.Mem.tail _ (List.mem_append_right _ (List.Mem.tail _ (List.Mem.tail _ (List.Mem.tail _ (List.Mem.head _))))) | exact List.Mem.tail _ (List.Mem.tail _ (List.mem_append_right _ (List.Mem.head _))) | exact List.Mem.tail _ (List.Mem.tail _ (List.mem_append_right _ (List.Mem.tail _ (List.Mem.head _)))) | exact List.Mem.tail _ (List.Mem.tail _ (List.mem_append_right _ (List.Mem.tail _ (List.Mem.tail _ (List.Mem.head _)))))) (by first | exact (rfl : _ = some 1) | exact (rfl : _ = some 2) | exact (rfl : _ = some 3) | exact (rfl : _ = some 4) | exact (rfl : _ = some 6) | exact rfl) rfl rfl
    · rw [if_pos hc]
      exact wr_cellS rfl rfl rfl rfl (by first | exact List.Mem.head _ | exact List.Mem.tail _ (List.Mem.head _) | exact List.Mem.tail _ (List.Mem.tail _ (List.Mem.head _)) | exact List.Mem.tail _ (List.Mem.tail _ (List.Mem.tail _ (List.Mem.head _))) | exact List.Mem.tail _ (List.Mem.tail _ (List.Mem.tail _ (List.Mem.tail _ (List.Mem.head _)))) | exact List.mem_append_right _ (List.Mem.head _) | exact List.mem_append_right _ (List.Mem.tail _ (List.Mem.head _)) | exact List.mem_append_right _ (List.Mem.tail _ (List.Mem.tail _ (List.Mem.head _))) | exact List.mem_append_right _ (List.Mem.tail _ (List.Mem.tail _ (List.Mem.tail _ (List.Mem.head _)))) | exact List.Mem.tail _ (List.mem_append_right _ (List.Mem.head _)) | exact List.Mem.tail _ (List.mem_append_right _ (List.Mem.tail _ (List.Mem.head _))) | exact List.Mem.tail _ (List.mem_append_right _ (List.Mem.tail _ (List.Mem.tail _ (List.Mem.head _)))) | exact List.Mem.tail _ (List.mem_append_right _ (List.Mem.tail _ (List.Mem.tail _ (List.Mem.tail _ (List.Mem.head _))))) | exact List.Mem.tail _ (List.Mem.tail _ (List.mem_append_right _ (List.Mem.head _))) | exact List.Mem.tail _ (List.Mem.tail _ (List.mem_append_right _ (List.Mem.tail _ (List.Mem.head _)))) | exact List.Mem.tail _ (List.Mem.tail _ (List.mem_append_right _ (List.Mem.tail _ (List.Mem.tail _ (List.Mem.head _)))))) (by first | exact (rfl : _ = some 1) | exact (rfl : _ = some 2) | exact (rfl : _ = some 3) | exact (rfl : _ = some 4) | exact (rfl : _ = some 6) | exact rfl) rfl rfl
end Go.Proofs.YthkpekmecgbokaaDoor
/-
  The first line of a request: request.first.
-/
namespace Go.Proofs.YthkpekmecgbokaaDoor
open Go.Eng Go.Pct Go.Rsp Go.Txt
set_option maxRecDepth 10000
set_option linter.unusedSimpArgs false
set_option linter.unusedVariables false

variable {M : Ghost} {w : World}

def sGet : List UInt8 := [71, 69, 84]
def sPost : List UInt8 := [80, 79, 83, 84]
def sVer : List UInt8 := [72, 84, 84, 80, 47, 49, 46, 49]
def targetB (s : List UInt8) : Bool := Lib.hasPrefix s [47] && shownB 33 s
theorem target_ok (hM : Laid M w) (s : List UInt8) (hs : s.length ≤ 9223372036854775807) : Calls Tryd.prog 52 #[str s] w (RetE w (.bool (targetB s))) := by
  have h : ∀ {w : World}, Laid M w → Calls Tryd.prog 51 #[str s, .int .u8 33, .int .u8 126] w (RetE w (.bool (shownB 33 s))) := fun h => all_ok h s 33 126 hs
  refine calls_st (l := [str s]) hM Tryd.func52 rfl rfl rfl (E0 := [(0, true, str s)]) (params_cons rfl (params_nil _)) ?_
  repeat' (first | (first | refine wc_seq ?_ | refine wc_region ?_ | refine wl_nil ?_ | refine wn_seq ?_ | refine wn_blk ?_ | refine wc_skip ?_ | refine wc_block ?_ | refine wc_exit rfl ?_ | (show WL _ _ (_ :: _) _ _ _ _; first | refine wl_v rfl rfl rfl (by first | (show OpV _ _ _ _ (Oper.mk _ (Op.move _) _ _ _ _) _ _; exact xo_move rfl) | (show OpV _ _ _ _ (Oper.mk _ (Op.assign _) _ _ _ _) _ _; exact xo_assign rfl) | (show OpV _ _ _ _ (Oper.mk _ (Op.pick _ _ _) _ _ _ _) _ _; first | exact xo_and rfl rfl | exact xo_or rfl rfl)) ?_ | refine wl_v rfl rfl rfl (by first | ((show OpV _ _ _ _ (Oper.mk _ (Op.call ⟨.value (.func 68), _, _⟩) _ _ _ _) _ _; exact ov_call Tryd.call68 rfl (by intro himp; first | rfl | (simp_all; done)) (by rfl) (fun _ _ h k => h.ext k) (fun hcg w hw => prefix_ok hw.laid s [47]))) | ((show OpV _ _ _ _ (Oper.mk _ (Op.call ⟨.value (.func 51), _, _⟩) _ _ _ _) _ _; exact ov_call Tryd.call51 rfl (by intro himp; first | rfl | (simp_all; done)) (by rfl) (fun _ _ h k => h.ext k) (fun hcg w hw => h hw.laid))) | fail) ?_) | refine wc_ret rfl ?_) | (show WC _ (Code.cond _ _ _) _ _ _ _; (refine wc_cond rfl (fun hc => ?_) (fun hc => ?_) <;> (try (simp only [decide_eq_true_eq, decide_eq_false_iff_not, Bool.and_eq_true, Bool.or_eq_true, Bool.and_eq_false_iff, Bool.or_eq_false_iff, Bool.not_eq_true', Bool.not_eq_false', Int.not_lt, Int.not_le] at hc)) <;> (try (exfalso; first | omega | contradiction)))))
  exact wr_tmp rfl rfl rfl
/-- what the first line says: method, target, what is wrong -/
def firstP (l : List UInt8) : List UInt8 × List UInt8 × Int := match Lib.split l [32] with
  | [m, t, v] => if (m = [] ∨ betw 65 90 m = false ∨ targetB t = false) ∨ v ≠ sVer then ([], [], 17) else if m ≠ sGet ∧ m ≠ sPost then ([], [], 16) else (m, t, 0)
  | _ => ([], [], 17)
theorem upper_ok (hM : Laid M w) (s : List UInt8) (hs : s.length ≤ 9223372036854775807) : Calls Tryd.prog 51 #[str s, .int .u8 65, .int .u8 90] w (RetE w (.bool (betw 65 90 s))) := all_ok hM s 65 90 hs
theorem first_ok (hG : Glob M) (hM : Laid M w) (l : List UInt8) (hs : l.length ≤ 1000000000) : Calls Tryd.prog 40 #[str l] w (RetE w (.tuple #[.agg #[str (firstP l).1, str (firstP l).2.1, .slice none 0 0, str []], i64 (firstP l).2.2])) := by
  refine calls_st (l := [str l]) hM Tryd.func40 rfl rfl rfl (E0 := [(0, true, str l)]) (params_cons rfl (params_nil _)) ?_
  repeat' (first | (first | refine wc_seq ?_ | refine wc_region ?_ | refine wl_nil ?_ | refine wn_seq ?_ | refine wn_blk ?_ | refine wc_skip ?_ | refine wc_block ?_ | refine wc_exit rfl ?_ | (show WL _ _ (_ :: _) _ _ _ _; first | refine wl_v rfl rfl rfl (by first | (show OpV _ _ _ _ (Oper.mk _ (Op.move _) _ _ _ _) _ _; exact xo_move rfl) | (show OpV _ _ _ _ (Oper.mk _ (Op.assign _) _ _ _ _) _ _; exact xo_assign rfl) | (show OpV _ _ _ _ (Oper.mk _ (Op.pick _ _ _) _ _ _ _) _ _; first | exact xo_and rfl rfl | exact xo_or rfl rfl) | (show OpV _ _ _ _ (Oper.mk _ (Op.call ⟨.builtin .len, _, _⟩) _ _ _ _) _ _; first | exact xo_slen rfl | exact xo_len rfl) | (show OpV _ _ _ _ (Oper.mk _ (Op.unOp _ _ _) _ _ _ _) _ _; exact xo_not rfl) | (show OpV _ _ _ _ (Oper.mk _ (Op.binOp BinOp.eql _ _ _ _) _ _ _ _) _ _; first | exact xo_eql rfl rfl | exact xo_seql rfl rfl | exact xo_beql rfl rfl | exact xo_aeql rfl rfl) | (show OpV _ _ _ _ (Oper.mk _ (Op.binOp BinOp.neq _ _ _ _) _ _ _ _) _ _; first | exact xo_neq rfl rfl | exact xo_sneq rfl rfl | exact xo_bneq rfl rfl | exact xo_aneq rfl rfl) | (show OpV _ _ _ _ (Oper.mk _ (Op.load _ _) _ _ _ _) _ _; first | exact xo_load1 rfl | exact xo_loadS rfl) | (show OpV _ _ _ _ (Oper.mk _ (Op.build _ _) _ _ _ _) _ _; exact xo_build rfl)) ?_ | refine wl_v rfl rfl rfl (by first  | fail) ?_ | refine xl_alloc (fun _ => ?_) | refine xl_store rfl rfl ?_) | refine wc_ret rfl ?_) | (show WC _ (Code.cond _ _ _) _ _ _ _; (refine wc_cond rfl (fun hc => ?_) (fun hc => ?_) <;> (try (simp only [decide_eq_true_eq, decide_eq_false_iff_not, Bool.and_eq_true, Bool.or_eq_true, Bool.and_eq_false_iff, Bool.or_eq_false_iff, Bool.not_eq_true', Bool.not_eq_false', Int.not_lt, Int.not_le] at hc)) <;> (try (exfalso; first | omega | contradiction)))))
  refine wl_callS rfl Tryd.call50 rfl rfl rfl rfl (fun w hw => splitM_ok hG hw.laid l [32] (by simp) (by omega)) ?_
  rintro v1 Hn M1 hm1 hnew1 ⟨rfl, hls⟩
  have hmem : ∀ x ∈ Lib.split l [32], x.length ≤ l.length := fun x hx => split_mem (by simp) hx
  have hlpos := split_ne (sep := [32]) (by simp) l
  unfold firstP
  generalize Lib.split l [32] = ls at *
  obtain ⟨a, cap, b, o, cs, T, fz, rfl, h1, h2, h3, h4⟩ := hls.open
  have hne : ls ≠ [] := by intro h; subst h; simp at hlpos
  by_cases hlen : ls.length = 3
  · match ls, hlen with
    | [m, t, v], _ =>
      have hm : m.length ≤ l.length := hmem m (by simp)
      have ht : t.length ≤ l.length := hmem t (by simp)
      have g0 := h4 0 (by simp)
      have g1 := h4 1 (by simp)
      have g2 := h4 2 (by simp)
      have k0 : [m, t, v].getD 0 default = m := rfl
      have k1 : [m, t, v].getD 1 default = t := rfl
      have k2 : [m, t, v].getD 2 default = v := rfl
      rw [k0] at g0
      rw [k1] at g1
      rw [k2] at g2
      clear k0 k1 k2
      simp only
      repeat' (first | (first | refine wc_seq ?_ | refine wc_region ?_ | refine wl_nil ?_ | refine wn_seq ?_ | refine wn_blk ?_ | refine wc_skip ?_ | refine wc_block ?_ | refine wc_exit rfl ?_ | (show WL _ _ (_ :: _) _ _ _ _; first | refine wl_v rfl rfl rfl (by first | (show OpV _ _ _ _ (Oper.mk _ (Op.move _) _ _ _ _) _ _; exact xo_move rfl) | (show OpV _ _ _ _ (Oper.mk _ (Op.assign _) _ _ _ _) _ _; exact xo_assign rfl) | (show OpV _ _ _ _ (Oper.mk _ (Op.pick _ _ _) _ _ _ _) _ _; first | exact xo_and rfl rfl | exact xo_or rfl rfl) | (show OpV _ _ _ _ (Oper.mk _ (Op.call ⟨.builtin .len, _, _⟩) _ _ _ _) _ _; first | exact xo_slen rfl | exact xo_len rfl) | (show OpV _ _ _ _ (Oper.mk _ (Op.unOp _ _ _) _ _ _ _) _ _; exact xo_not rfl) | (show OpV _ _ _ _ (Oper.mk _ (Op.binOp BinOp.eql _ _ _ _) _ _ _ _) _ _; first | exact xo_eql rfl rfl | exact xo_seql rfl rfl | exact xo_beql rfl rfl | exact xo_aeql rfl rfl) | (show OpV _ _ _ _ (Oper.mk _ (Op.binOp BinOp.neq _ _ _ _) _ _ _ _) _ _; first | exact xo_neq rfl rfl | exact xo_sneq rfl rfl | exact xo_bneq rfl rfl | exact xo_aneq rfl rfl) | (show OpV _ _ _ _ (Oper.mk _ (Op.load _ _) _ _ _ _) _ _; first | exact xo_load1 rfl | exact xo_loadS rfl) | (show OpV _ _ _ _ (Oper.mk _ (Op.build _ _) _ _ _ _) _ _; exact xo_build rfl)) ?_ | refine wl_v rfl rfl rfl (by first | (show OpV _ _ _ _ (Oper.mk _ (Op.indexAddr _ _ _) _ _ _ _) _ _; first | exact ov_indexAddr (i := 0) rfl rfl rfl (by first | with_reducible exact fun _ => rfl | with_reducible exact fun h => h | exact fun _ => rfl | exact fun h => h | (intro himp; simp_all; done)) (by first | with_reducible exact fun _ => rfl | with_reducible exact fun h => h | exact fun _ => rfl | exact fun h => h | (intro himp; simp_all; done)) rfl (by first | exact (rfl : _ = some 1) | exact (rfl : _ = some 2) | exact (rfl : _ = some 3) | exact (rfl : _ = some 4) | exact (rfl : _ = some 6) | exact rfl) (fun hcg => (h3 hne).1) (by intro hcg; first | omega | (simp at hcg; omega)) | exact ov_indexAddr (i := 1) rfl rfl rfl (by first | with_reducible exact fun _ => rfl | with_reducible exact fun h => h | exact fun _ => rfl | exact fun h => h | (intro himp; simp_all; done)) (by first | with_reducible exact fun _ => rfl | with_reducible exact fun h => h | exact fun _ => rfl | exact fun h => h | (intro himp; simp_all; done)) rfl (by first | exact (rfl : _ = some 1) | exact (rfl : _ = some 2) | exact (rfl : _ = some 3) | exact (rfl : _ = some 4) | exact (rfl : _ = some 6) | exact rfl) (fun hcg => (h3 hne).1) (by intro hcg; first | omega | (simp at hcg; omega)) | exact ov_indexAddr (i := 2) rfl rfl rfl (by first | with_reducible exact fun _ => rfl | with_reducible exact fun h => h | exact fun _ => rfl | exact fun h => h | (intro himp; simp_all; done)) (by first | with_reducible exact fun _ => rfl | with_reducible exact fun h => h | exact fun _ => rfl | exact fun h => h | (intro himp; simp_all; done)) rfl (by first | exact (rfl : _ = some 1) | exact (rfl : _ = some 2) | exact (rfl : _ = some 3) | exact (rfl : _ = some 4) | exact (rfl : _ = some 6) | exact rfl) (fun hcg => (h3 hne).1) (by intro hcg; first | omega | (simp at hcg; omega))) | (show OpV _ _ _ _ (Oper.mk _ (Op.load _ _) _ _ _ _) _ _; first | exact ov_load1M rfl (by first | with_reducible exact fun _ => rfl | with_reducible exact fun h => h | exact fun _ => rfl | exact fun h => h | (intro himp; simp_all; done)) rfl rfl (fun hcg => (h3 hne).2) (fun hcg => g0) | exact ov_load1M rfl (by first | with_reducible exact fun _ => rfl | with_reducible exact fun h => h | exact fun _ => rfl | exact fun h => h | (intro himp; simp_all; done)) rfl rfl (fun hcg => (h3 hne).2) (fun hcg => g1) | exact ov_load1M rfl (by first | with_reducible exact fun _ => rfl | with_reducible exact fun h => h | exact fun _ => rfl | exact fun h => h | (intro himp; simp_all; done)) rfl rfl (fun hcg => (h3 hne).2) (fun hcg => g2)) | ((show OpV _ _ _ _ (Oper.mk _ (Op.call ⟨.value (.func 51), _, _⟩) _ _ _ _) _ _; exact ov_call Tryd.call51 rfl (by intro himp; first | rfl | (simp_all; done)) (by rfl) (fun _ _ h k => h.ext k) (fun hcg w hw => upper_ok hw.laid _ (by omega)))) | ((show OpV _ _ _ _ (Oper.mk _ (Op.call ⟨.value (.func 52), _, _⟩) _ _ _ _) _ _; exact ov_call Tryd.call52 rfl (by intro himp; first | rfl | (simp_all; done)) (by rfl) (fun _ _ h k => h.ext k) (fun hcg w hw => target_ok hw.laid _ (by omega)))) | fail) ?_ | refine xl_alloc (fun _ => ?_) | refine xl_store rfl rfl ?_) | refine wc_ret rfl ?_) | (show WC _ (Code.cond _ _ _) _ _ _ _; (refine wc_cond rfl (fun hc => ?_) (fun hc => ?_) <;> (try (simp only [decide_eq_true_eq, decide_eq_false_iff_not, Bool.and_eq_true, Bool.or_eq_true, Bool.and_eq_false_iff, Bool.or_eq_false_iff, Bool.not_eq_true', Bool.not_eq_false', Int.not_lt, Int.not_le] at hc)) <;> (try (exfalso; first | omega | contradiction)))))
      · have hif : (m = [] ∨ betw 65 90 m = false ∨ targetB t = false) ∨ v ≠ sVer := by
          rcases hc with (((h | h) | h) | h) | h
          · exact absurd rfl h
          · exact .inl (.inl h)
          · exact .inl (.inr (.inl h))
          · exact .inl (.inr (.inr h))
          · exact .inr h
        rw [if_pos hif]
        exact wr_cellS rfl rfl rfl rfl (by first | exact List.Mem.head _ | exact List.Mem.tail _ (List.Mem.head _) | exact List.Mem.tail _ (List.Mem.tail _ (List.Mem.head _)) | exact List.Mem.tail _ (List.Mem.tail _ (List.Mem.tail _ (List.Mem.head _))) | exact List.Mem.tail _ (List.Mem.tail _ (List.Mem.tail _ (List.Mem.tail _ (List.Mem.head _)))) | exact List.mem_append_right _ (List.Mem.head _) | exact List.mem_append_right _ (List.Mem.tail _ (List.Mem.head _)) | exact List.mem_append_right _ (List.Mem.tail _ (List.Mem.tail _ (List.Mem.head _))) | exact List.mem_append_right _ (List.Mem.tail _ (List.Mem.tail _ (List.Mem.tail _ (List.Mem.head _)))) | exact List.Mem.tail _ (List.mem_append_right _ (List.Mem.head _)) | exact List.Mem.tail _ (List.mem_append_right _ (List.Mem.tail _ (List.Mem.head _))) | exact List.Mem.tail _ (List.mem_append_right _ (List.Mem.tail _ (List.Mem.tail _ (List.Mem.head _)))) | exact List.Mem.tail _ (List.mem_append_right _ (List.Mem.tail _ (List.Mem.tail _ (List.Mem.tail _ (List.Mem.head _))))) | exact List.Mem.tail _ (List.Mem.tail _ (List.mem_append_right _ (List.Mem.head _))) | exact List.Mem.tail _ (List.Mem.tail _ (List.mem_append_right _ (List.Mem.tail _ (List.Mem.head _)))) | exact List.Mem.tail _ (List.Mem.tail _ (List.mem_append_right _ (List.Mem.tail _ (List.Mem.tail _ (List.Mem.head _)))))) (by first | exact (rfl : _ = some 1) | exact (rfl : _ = some 2) | exact (rfl : _ = some 3) | exact (rfl : _ = some 4) | exact (rfl : _ = some 6) | exact rfl) rfl rfl
      all_goals
        rename_i hc1 hc2
        have hif : ¬ ((m = [] ∨ betw 65 90 m = false ∨ targetB t = false) ∨ v ≠ sVer) := by
          obtain ⟨⟨⟨⟨_, q1⟩, q2⟩, q3⟩, q4⟩ := ‹(((_ ∧ ¬ m = []) ∧ betw 65 90 m = true) ∧ targetB t = true) ∧ v = _›
          rintro ((h | h | h) | h)
          · exact q1 h
          · rw [q2] at h; cases h
          · rw [q3] at h; cases h
          · exact h q4
        rw [if_neg hif]
      · rw [if_pos (show m ≠ sGet ∧ m ≠ sPost from hc)]
        exact wr_cellS rfl rfl rfl rfl (by first | exact List.Mem.head _ | exact List.Mem.tail _ (List.Mem.head _) | exact List.Mem.tail _ (List.Mem.tail _ (List.Mem.head _)) | exact List.Mem.tail _ (List.Mem.tail _ (List.Mem.tail _ (List.Mem.head _))) | exact List.Mem.tail _ (List.Mem.tail _ (List.Mem.tail _ (List.Mem.tail _ (List.Mem.head _)))) | exact List.mem_append_right _ (List.Mem.head _) | exact List.mem_append_right _ (List.Mem.tail _ (List.Mem.head _)) | exact List.mem_append_right _ (List.Mem.tail _ (List.Mem.tail _ (List.Mem.head _))) | exact List.mem_append_right _ (List.Mem.tail _ (List.Mem.tail _ (List.Mem.tail _ (List.Mem.head _)))) | exact List.Mem.tail _ (List.mem_append_right _ (List.Mem.head _)) | exact List.Mem.tail _ (List.mem_append_right _ (List.Mem.tail _ (List.Mem.head _))) | exact List.Mem.tail _ (List.mem_append_right _ (List.Mem.tail _ (List.Mem.tail _ (List.Mem.head _)))) | exact List.Mem.tail _ (List.mem_append_right _ (List.Mem.tail _ (List.Mem.tail _ (List.Mem.tail _ (List.Mem.head _))))) | exact List.Mem.tail _ (List.Mem.tail _ (List.mem_append_right _ (List.Mem.head _))) | exact List.Mem.tail _ (List.Mem.tail _ (List.mem_append_right _ (List.Mem.tail _ (List.Mem.head _)))) | exact List.Mem.tail _ (List.Mem.tail _ (List.mem_append_right _ (List.Mem.tail _ (List.Mem.tail _ (List.Mem.head _)))))) (by first | exact (rfl : _ = some 1) | exact (rfl : _ = some 2) | exact (rfl : _ = some 3) | exact (rfl : _ = some 4) | exact (rfl : _ = some 6) | exact rfl) rfl rfl
      · rw [if_neg (show ¬ (m ≠ sGet ∧ m ≠ sPost) from by
          rintro ⟨q1, q2⟩
          rcases hc with h | h
          · exact q1 h
          · exact q2 h)]
        refine wc_draw 7 (by kernel_rfl) rfl (by kernel_rfl) (fun _ _ h k => h.ext k) ?_
        repeat' (first | (show WD _ _ (_ :: _) _ _ _ _ _ _; first | refine wd_v rfl rfl rfl rfl rfl rfl (by first | (show OpV _ _ _ _ (Oper.mk _ (Op.move _) _ _ _ _) _ _; exact xo_move rfl) | (show OpV _ _ _ _ (Oper.mk _ (Op.assign _) _ _ _ _) _ _; exact xo_assign rfl) | (show OpV _ _ _ _ (Oper.mk _ (Op.pick _ _ _) _ _ _ _) _ _; first | exact xo_and rfl rfl | exact xo_or rfl rfl) | (show OpV _ _ _ _ (Oper.mk _ (Op.call ⟨.builtin .len, _, _⟩) _ _ _ _) _ _; first | exact xo_slen rfl | exact xo_len rfl) | (show OpV _ _ _ _ (Oper.mk _ (Op.unOp _ _ _) _ _ _ _) _ _; exact xo_not rfl) | (show OpV _ _ _ _ (Oper.mk _ (Op.binOp BinOp.eql _ _ _ _) _ _ _ _) _ _; first | exact xo_eql rfl rfl | exact xo_seql rfl rfl | exact xo_beql rfl rfl | exact xo_aeql rfl rfl) | (show OpV _ _ _ _ (Oper.mk _ (Op.binOp BinOp.neq _ _ _ _) _ _ _ _) _ _; first | exact xo_neq rfl rfl | exact xo_sneq rfl rfl | exact xo_bneq rfl rfl | exact xo_aneq rfl rfl) | (show OpV _ _ _ _ (Oper.mk _ (Op.load _ _) _ _ _ _) _ _; first | exact xo_load1 rfl | exact xo_loadS rfl) | (show OpV _ _ _ _ (Oper.mk _ (Op.build _ _) _ _ _ _) _ _; exact xo_build rfl)) ?_ | refine wd_v rfl rfl rfl rfl rfl rfl (by first | (show OpV _ _ _ _ (Oper.mk _ (Op.indexAddr _ _ _) _ _ _ _) _ _; first | exact ov_indexAddr (i := 0) rfl rfl rfl (by first | with_reducible exact fun _ => rfl | with_reducible exact fun h => h | exact fun _ => rfl | exact fun h => h | (intro himp; simp_all; done)) (by first | with_reducible exact fun _ => rfl | with_reducible exact fun h => h | exact fun _ => rfl | exact fun h => h | (intro himp; simp_all; done)) rfl (by first | exact (rfl : _ = some 1) | exact (rfl : _ = some 2) | exact (rfl : _ = some 3) | exact (rfl : _ = some 4) | exact (rfl : _ = some 6) | exact rfl) (fun hcg => (h3 hne).1) (by intro hcg; first | omega | (simp at hcg; omega)) | exact ov_indexAddr (i := 1) rfl rfl rfl (by first | with_reducible exact fun _ => rfl | with_reducible exact fun h => h | exact fun _ => rfl | exact fun h => h | (intro himp; simp_all; done)) (by first | with_reducible exact fun _ => rfl | with_reducible exact fun h => h | exact fun _ => rfl | exact fun h => h | (intro himp; simp_all; done)) rfl (by first | exact (rfl : _ = some 1) | exact (rfl : _ = some 2) | exact (rfl : _ = some 3) | exact (rfl : _ = some 4) | exact (rfl : _ = some 6) | exact rfl) (fun hcg => (h3 hne).1) (by intro hcg; first | omega | (simp at hcg; omega)) | exact ov_indexAddr (i := 2) rfl rfl rfl (by first | with_reducible exact fun _ => rfl | with_reducible exact fun h => h | exact fun _ => rfl | exact fun h => h | (intro himp; simp_all; done)) (by first | with_reducible exact fun _ => rfl | with_reducible exact fun h => h | exact fun _ => rfl | exact fun h => h | (intro himp; simp_all; done)) rfl (by first | exact (rfl : _ = some 1) | exact (rfl : _ = some 2) | exact (rfl : _ = some 3) | exact (rfl : _ = some 4) | exact (rfl : _ = some 6) | exact rfl) (fun hcg => (h3 hne).1) (by intro hcg; first | omega | (simp at hcg; omega))) | (show OpV _ _ _ _ (Oper.mk _ (Op.load _ _) _ _ _ _) _ _; first | exact ov_load1M rfl (by first | with_reducible exact fun _ => rfl | with_reducible exact fun h => h | exact fun _ => rfl | exact fun h => h | (intro himp; simp_all; done)) rfl rfl (fun hcg => (h3 hne).2) (fun hcg => g0) | exact ov_load1M rfl (by first | with_reducible exact fun _ => rfl | with_reducible exact fun h => h | exact fun _ => rfl | exact fun h => h | (intro himp; simp_all; done)) rfl rfl (fun hcg => (h3 hne).2) (fun hcg => g1)) | fail) ?_ | refine wd_new rfl rfl rfl rfl rfl rfl steady_fresh (or_buildSlice rfl rfl (by first | exact (rfl : _ = some 1) | exact (rfl : _ = some 2) | exact (rfl : _ = some 3) | exact (rfl : _ = some 4) | exact (rfl : _ = some 6) | exact rfl) (fun _ => rfl) rfl rfl rfl (by simp only [cellsAll, Value.cells, List.size_toArray, List.length_cons, List.length_nil, Nat.zero_add, Nat.reduceAdd, and_self, if_true, true_and, Option.map_some, List.cons_append, List.nil_append]; first | done | rfl)) ?_ | refine wd_conv rfl rfl rfl rfl rfl rfl rfl rfl rfl rfl ?_) | (show WD _ _ _ _ _ _ _ _ _; first | refine wd_nil ?_ | refine wd_nilF ?_) | (first | refine wc_seq ?_ | refine wc_region ?_ | refine wl_nil ?_ | refine wn_seq ?_ | refine wn_blk ?_ | refine wc_skip ?_ | refine wc_block ?_ | refine wc_exit rfl ?_ | (show WL _ _ (_ :: _) _ _ _ _; first | refine wl_v rfl rfl rfl (by first | (show OpV _ _ _ _ (Oper.mk _ (Op.move _) _ _ _ _) _ _; exact xo_move rfl) | (show OpV _ _ _ _ (Oper.mk _ (Op.assign _) _ _ _ _) _ _; exact xo_assign rfl) | (show OpV _ _ _ _ (Oper.mk _ (Op.pick _ _ _) _ _ _ _) _ _; first | exact xo_and rfl rfl | exact xo_or rfl rfl) | (show OpV _ _ _ _ (Oper.mk _ (Op.call ⟨.builtin .len, _, _⟩) _ _ _ _) _ _; first | exact xo_slen rfl | exact xo_len rfl) | (show OpV _ _ _ _ (Oper.mk _ (Op.unOp _ _ _) _ _ _ _) _ _; exact xo_not rfl) | (show OpV _ _ _ _ (Oper.mk _ (Op.binOp BinOp.eql _ _ _ _) _ _ _ _) _ _; first | exact xo_eql rfl rfl | exact xo_seql rfl rfl | exact xo_beql rfl rfl | exact xo_aeql rfl rfl) | (show OpV _ _ _ _ (Oper.mk _ (Op.binOp BinOp.neq _ _ _ _) _ _ _ _) _ _; first | exact xo_neq rfl rfl | exact xo_sneq rfl rfl | exact xo_bneq rfl rfl | exact xo_aneq rfl rfl) | (show OpV _ _ _ _ (Oper.mk _ (Op.load _ _) _ _ _ _) _ _; first | exact xo_load1 rfl | exact xo_loadS rfl) | (show OpV _ _ _ _ (Oper.mk _ (Op.build _ _) _ _ _ _) _ _; exact xo_build rfl)) ?_ | refine wl_v rfl rfl rfl (by first | (show OpV _ _ _ _ (Oper.mk _ (Op.indexAddr _ _ _) _ _ _ _) _ _; first | exact ov_indexAddr (i := 0) rfl rfl rfl (by first | with_reducible exact fun _ => rfl | with_reducible exact fun h => h | exact fun _ => rfl | exact fun h => h | (intro himp; simp_all; done)) (by first | with_reducible exact fun _ => rfl | with_reducible exact fun h => h | exact fun _ => rfl | exact fun h => h | (intro himp; simp_all; done)) rfl (by first | exact (rfl : _ = some 1) | exact (rfl : _ = some 2) | exact (rfl : _ = some 3) | exact (rfl : _ = some 4) | exact (rfl : _ = some 6) | exact rfl) (fun hcg => (h3 hne).1) (by intro hcg; first | omega | (simp at hcg; omega)) | exact ov_indexAddr (i := 1) rfl rfl rfl (by first | with_reducible exact fun _ => rfl | with_reducible exact fun h => h | exact fun _ => rfl | exact fun h => h | (intro himp; simp_all; done)) (by first | with_reducible exact fun _ => rfl | with_reducible exact fun h => h | exact fun _ => rfl | exact fun h => h | (intro himp; simp_all; done)) rfl (by first | exact (rfl : _ = some 1) | exact (rfl : _ = some 2) | exact (rfl : _ = some 3) | exact (rfl : _ = some 4) | exact (rfl : _ = some 6) | exact rfl) (fun hcg => (h3 hne).1) (by intro hcg; first | omega | (simp at hcg; omega)) | exact ov_indexAddr (i := 2) rfl rfl rfl (by first | with_reducible exact fun _ => rfl | with_reducible exact fun h => h | exact fun _ => rfl | exact fun h => h | (intro himp; simp_all; done)) (by first | with_reducible exact fun _ => rfl | with_reducible exact fun h => h | exact fun _ => rfl | exact fun h => h | (intro himp; simp_all; done)) rfl (by first | exact (rfl : _ = some 1) | exact (rfl : _ = some 2) | exact (rfl : _ = some 3) | exact (rfl : _ = some 4) | exact (rfl : _ = some 6) | exact rfl) (fun hcg => (h3 hne).1) (by intro hcg; first | omega | (simp at hcg; omega))) | (show OpV _ _ _ _ (Oper.mk _ (Op.load _ _) _ _ _ _) _ _; first | exact ov_load1M rfl (by first | with_reducible exact fun _ => rfl | with_reducible exact fun h => h | exact fun _ => rfl | exact fun h => h | (intro himp; simp_all; done)) rfl rfl (fun hcg => (h3 hne).2) (fun hcg => g0) | exact ov_load1M rfl (by first | with_reducible exact fun _ => rfl | with_reducible exact fun h => h | exact fun _ => rfl | exact fun h => h | (intro himp; simp_all; done)) rfl rfl (fun hcg => (h3 hne).2) (fun hcg => g1)) | fail) ?_ | refine xl_alloc (fun _ => ?_) | refine xl_store rfl rfl ?_) | refine wc_ret rfl ?_))
        repeat' (first | (first | refine wc_seq ?_ | refine wc_region ?_ | refine wl_nil ?_ | refine wn_seq ?_ | refine wn_blk ?_ | refine wc_skip ?_ | refine wc_block ?_ | refine wc_exit rfl ?_ | (show WL _ _ (_ :: _) _ _ _ _; first | refine wl_v rfl rfl rfl (by first | (show OpV _ _ _ _ (Oper.mk _ (Op.move _) _ _ _ _) _ _; exact xo_move rfl) | (show OpV _ _ _ _ (Oper.mk _ (Op.assign _) _ _ _ _) _ _; exact xo_assign rfl) | (show OpV _ _ _ _ (Oper.mk _ (Op.pick _ _ _) _ _ _ _) _ _; first | exact xo_and rfl rfl | exact xo_or rfl rfl) | (show OpV _ _ _ _ (Oper.mk _ (Op.call ⟨.builtin .len, _, _⟩) _ _ _ _) _ _; first | exact xo_slen rfl | exact xo_len rfl) | (show OpV _ _ _ _ (Oper.mk _ (Op.unOp _ _ _) _ _ _ _) _ _; exact xo_not rfl) | (show OpV _ _ _ _ (Oper.mk _ (Op.binOp BinOp.eql _ _ _ _) _ _ _ _) _ _; first | exact xo_eql rfl rfl | exact xo_seql rfl rfl | exact xo_beql rfl rfl | exact xo_aeql rfl rfl) | (show OpV _ _ _ _ (Oper.mk _ (Op.binOp BinOp.neq _ _ _ _) _ _ _ _) _ _; first | exact xo_neq rfl rfl | exact xo_sneq rfl rfl | exact xo_bneq rfl rfl | exact xo_aneq rfl rfl) | (show OpV _ _ _ _ (Oper.mk _ (Op.load _ _) _ _ _ _) _ _; first | exact xo_load1 rfl | exact xo_loadS rfl) | (show OpV _ _ _ _ (Oper.mk _ (Op.build _ _) _ _ _ _) _ _; exact xo_build rfl)) ?_ | refine wl_v rfl rfl rfl (by first  | fail) ?_ | refine xl_alloc (fun _ => ?_) | refine xl_store rfl rfl ?_) | refine wc_ret rfl ?_) | (show WC _ (Code.cond _ _ _) _ _ _ _; (refine wc_cond rfl (fun hc => ?_) (fun hc => ?_) <;> (try (simp only [decide_eq_true_eq, decide_eq_false_iff_not, Bool.and_eq_true, Bool.or_eq_true, Bool.and_eq_false_iff, Bool.or_eq_false_iff, Bool.not_eq_true', Bool.not_eq_false', Int.not_lt, Int.not_le] at hc)) <;> (try (exfalso; first | omega | contradiction)))))
        exact wr_cellS rfl rfl rfl rfl (by first | exact List.Mem.head _ | exact List.Mem.tail _ (List.Mem.head _) | exact List.Mem.tail _ (List.Mem.tail _ (List.Mem.head _)) | exact List.Mem.tail _ (List.Mem.tail _ (List.Mem.tail _ (List.Mem.head _))) | exact List.Mem.tail _ (List.Mem.tail _ (List.Mem.tail _ (List.Mem.tail _ (List.Mem.head _)))) | exact List.mem_append_right _ (List.Mem.head _) | exact List.mem_append_right _ (List.Mem.tail _ (List.Mem.head _)) | exact List.mem_append_right _ (List.Mem.tail _ (List.Mem.tail _ (List.Mem.head _))) | exact List.mem_append_right _ (List.Mem.tail _ (List.Mem.tail _ (List.Mem.tail _ (List.Mem.head _)))) | exact List.Mem.tail _ (List.mem_append_right _ (List.Mem.head _)) | exact List.Mem.tail _ (List.mem_append_right _ (List.Mem.tail _ (List.Mem.head _))) | exact List.Mem.tail _ (List.mem_append_right _ (List.Mem.tail _ (List.Mem.tail _ (List.Mem.head _)))) | exact List.Mem.tail _ (List.mem_append_right _ (List.Mem.tail _ (List.Mem.tail _ (List.Mem.tail _ (List.Mem.head _))))) | exact List.Mem.tail _ (List.Mem.tail _ (List.mem_append_right _ (List.Mem.head _))) | exact List.Mem.tail _ (List.Mem.tail _ (List.mem_append_right _ (List.Mem.tail _ (List.Mem.head _)))) | exact List.Mem.tail _ (List.Mem.tail _ (List.mem_append_right _ (List.Mem.tail _ (List.Mem.tail _ (List.Mem.head _)))))) (by first | exact (rfl : _ = some 1) | exact (rfl : _ = some 2) | exact (rfl : _ = some 3) | exact (rfl : _ = some 4) | exact (rfl : _ = some 6) | exact rfl) rfl rfl
  · split
    · exact absurd rfl hlen
    have hd : decide ((ls.length : Int) = 3) = false := decide_eq_false (by omega)
    repeat' (first | (first | refine wc_seq ?_ | refine wc_region ?_ | refine wl_nil ?_ | refine wn_seq ?_ | refine wn_blk ?_ | refine wc_skip ?_ | refine wc_block ?_ | refine wc_exit rfl ?_ | (show WL _ _ (_ :: _) _ _ _ _; first | refine wl_v rfl rfl rfl (by first | (show OpV _ _ _ _ (Oper.mk _ (Op.move _) _ _ _ _) _ _; exact xo_move rfl) | (show OpV _ _ _ _ (Oper.mk _ (Op.assign _) _ _ _ _) _ _; exact xo_assign rfl) | (show OpV _ _ _ _ (Oper.mk _ (Op.pick _ _ _) _ _ _ _) _ _; first | exact xo_and rfl rfl | exact xo_or rfl rfl) | (show OpV _ _ _ _ (Oper.mk _ (Op.call ⟨.builtin .len, _, _⟩) _ _ _ _) _ _; first | exact xo_slen rfl | exact xo_len rfl) | (show OpV _ _ _ _ (Oper.mk _ (Op.unOp _ _ _) _ _ _ _) _ _; exact xo_not rfl) | (show OpV _ _ _ _ (Oper.mk _ (Op.binOp BinOp.eql _ _ _ _) _ _ _ _) _ _; first | exact xo_eql rfl rfl | exact xo_seql rfl rfl | exact xo_beql rfl rfl | exact xo_aeql rfl rfl) | (show OpV _ _ _ _ (Oper.mk _ (Op.binOp BinOp.neq _ _ _ _) _ _ _ _) _ _; first | exact xo_neq rfl rfl | exact xo_sneq rfl rfl | exact xo_bneq rfl rfl | exact xo_aneq rfl rfl) | (show OpV _ _ _ _ (Oper.mk _ (Op.load _ _) _ _ _ _) _ _; first | exact xo_load1 rfl | exact xo_loadS rfl) | (show OpV _ _ _ _ (Oper.mk _ (Op.build _ _) _ _ _ _) _ _; exact xo_build rfl)) ?_ | refine wl_v rfl rfl rfl (by first | (show OpV _ _ _ _ (Oper.mk _ (Op.indexAddr _ _ _) _ _ _ _) _ _; exact ov_off (v := .pointer (some ⟨b, o, none⟩)) (by rw [hd]; rfl)) | (show OpV _ _ _ _ (Oper.mk _ (Op.load _ _) _ _ _ _) _ _; exact ov_off (v := str []) (by rw [hd]; rfl)) | (show OpV _ _ _ _ (Oper.mk _ (Op.call _) _ _ _ _) _ _; exact ov_off (v := .bool false) (by rw [hd]; rfl)) | fail) ?_ | refine xl_alloc (fun _ => ?_) | refine xl_store rfl rfl ?_) | refine wc_ret rfl ?_) | (show WC _ (Code.cond _ _ _) _ _ _ _; (refine wc_cond rfl (fun hc => ?_) (fun hc => ?_) <;> (try (simp only [decide_eq_true_eq, decide_eq_false_iff_not, Bool.and_eq_true, Bool.or_eq_true, Bool.and_eq_false_iff, Bool.or_eq_false_iff, Bool.not_eq_true', Bool.not_eq_false', Int.not_lt, Int.not_le] at hc)) <;> (try (exfalso; first | omega | contradiction)))))
    · exact wr_cellS rfl rfl rfl rfl (by first | exact List.Mem.head _ | exact List.Mem.tail _ (List.Mem.head _) | exact List.Mem.tail _ (List.Mem.tail _ (List.Mem.head _)) | exact List.Mem.tail _ (List.Mem.tail _ (List.Mem.tail _ (List.Mem.head _))) | exact List.Mem.tail _ (List.Mem.tail _ (List.Mem.tail _ (List.Mem.tail _ (List.Mem.head _)))) | exact List.mem_append_right _ (List.Mem.head _) | exact List.mem_append_right _ (List.Mem.tail _ (List.Mem.head _)) | exact List.mem_append_right _ (List.Mem.tail _ (List.Mem.tail _ (List.Mem.head _))) | exact List.mem_append_right _ (List.Mem.tail _ (List.Mem.tail _ (List.Mem.tail _ (List.Mem.head _)))) | exact List.Mem.tail _ (List.mem_append_right _ (List.Mem.head _)) | exact List.Mem.tail _ (List.mem_append_right _ (List.Mem.tail _ (List.Mem.head _))) | exact List.Mem.tail _ (List.mem_append_right _ (List.Mem.tail _ (List.Mem.tail _ (List.Mem.head _)))) | exact List.Mem.tail _ (List.mem_append_right _ (List.Mem.tail _ (List.Mem.tail _ (List.Mem.tail _ (List.Mem.head _))))) | exact List.Mem.tail _ (List.Mem.tail _ (List.mem_append_right _ (List.Mem.head _))) | exact List.Mem.tail _ (List.Mem.tail _ (List.mem_append_right _ (List.Mem.tail _ (List.Mem.head _)))) | exact List.Mem.tail _ (List.Mem.tail _ (List.mem_append_right _ (List.Mem.tail _ (List.Mem.tail _ (List.Mem.head _)))))) (by first | exact (rfl : _ = some 1) | exact (rfl : _ = some 2) | exact (rfl : _ = some 3) | exact (rfl : _ = some 4) | exact (rfl : _ = some 6) | exact rfl) rfl rfl
    all_goals (exfalso; omega)
end Go.Proofs.YthkpekmecgbokaaDoor
