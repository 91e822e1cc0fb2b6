/-
  The walks of ResponseReads and ResponseBack.
-/
import Derived.Test.YthkpekmecgbokaaDoorRspH
namespace Go.Proofs.YthkpekmecgbokaaDoor
open Go.Eng Go.Pct Go.Txt Go.Rsp
set_option maxRecDepth 10000
set_option linter.unusedSimpArgs false
set_option linter.unusedVariables false

variable {M : Ghost} {w : World}

/-- what was read, as a value whose slice lies open -/
theorem readIs_open {o : Option Resp} {M' : Ghost} {v : Value} (h : ReadIs o M' v) : ∃ (r : Resp) (e : Int) (a : Option Addr) (c : Nat), v = .tuple #[.agg #[i64 r.status, .slice a r.headers.length c, str r.body], i64 e] ∧ SlP M' (.slice a r.headers.length c) r.headers ∧ r = o.getD ⟨0, [], []⟩ ∧ e = (if o.isSome then 0 else 10) := by
  unfold ReadIs at h
  cases o with
  | none => exact ⟨⟨0, [], []⟩, 10, none, 0, h, sl_nil, rfl, rfl⟩
  | some r =>
    obtain ⟨hv, rfl, hs⟩ := h
    obtain ⟨a, cap, b, o, cs, T, fz, rfl, h1, h2, h3, h4⟩ := hs.open
    exact ⟨r, 0, _, _, rfl, hs, rfl, rfl⟩

theorem reads_ok (hE : GlobE M) (hM : Laid M w) (s : List UInt8) : Calls Tryd.prog 7 #[str s] w (RetE w (.bool true)) := by
  have hG := hE.glob
  refine calls_st (l := [str s]) hM Tryd.func7 rfl rfl rfl (E0 := [(0, true, str s)]) (params_cons rfl (params_nil _)) ?_
  repeat' (first | (first | refine wc_seq ?_ | refine wc_region ?_ | refine wl_nil ?_ | refine wn_seq ?_ | refine wn_blk ?_ | refine wc_skip ?_ | refine wc_block ?_ | refine wc_exit rfl ?_ | (show WL _ _ (_ :: _) _ _ _ _; first | refine wl_v rfl rfl rfl (by first | (show OpV _ _ _ _ (Oper.mk _ (Op.move _) _ _ _ _) _ _; exact xo_move rfl) | (show OpV _ _ _ _ (Oper.mk _ (Op.assign _) _ _ _ _) _ _; exact xo_assign rfl) | (show OpV _ _ _ _ (Oper.mk _ (Op.pick _ _ _) _ _ _ _) _ _; first | exact xo_and rfl rfl | exact xo_or rfl rfl) | (show OpV _ _ _ _ (Oper.mk _ (Op.extract _ _) _ _ _ _) _ _; exact xo_extract rfl) | (show OpV _ _ _ _ (Oper.mk _ (Op.call ⟨.builtin .len, _, _⟩) _ _ _ _) _ _; first | exact xo_slen rfl | exact xo_len rfl) | (show OpV _ _ _ _ (Oper.mk _ (Op.binOp BinOp.eql _ _ _ _) _ _ _ _) _ _; first | exact xo_eql rfl rfl | exact xo_seql rfl rfl | exact xo_beql rfl rfl | exact xo_aeql rfl rfl) | (show OpV _ _ _ _ (Oper.mk _ (Op.binOp BinOp.gtr _ _ _ _) _ _ _ _) _ _; exact xo_gtr rfl rfl) | (show OpV _ _ _ _ (Oper.mk _ (Op.load _ _) _ _ _ _) _ _; first | exact xo_load1 rfl | exact xo_loadS rfl)) ?_ | refine wl_v rfl rfl rfl (by first | ((show OpV _ _ _ _ (Oper.mk _ (Op.call ⟨.value (.func 9), _, _⟩) _ _ _ _) _ _; exact ov_call Tryd.call9 rfl (by intro himp; first | rfl | (simp_all; done)) (by rfl) (fun _ _ h k => h.ext k) (fun hcg w hw => awake_ok hG hw.laid))) | fail) ?_ | refine xl_alloc (fun _ => ?_) | refine xl_store rfl rfl ?_) | refine wc_ret rfl ?_) | (show WC _ (Code.cond _ _ _) _ _ _ _; (refine wc_cond rfl (fun hc => ?_) (fun hc => ?_) <;> (try (simp only [decide_eq_true_eq, decide_eq_false_iff_not, Bool.and_eq_true, Bool.or_eq_true, Bool.and_eq_false_iff, Bool.or_eq_false_iff, Bool.not_eq_true', Bool.not_eq_false', Int.not_lt, Int.not_le] at hc)) <;> (try (exfalso; first | omega | contradiction)))))
  · exact wr_tmp rfl rfl rfl
  refine wl_callS rfl Tryd.call28 rfl rfl rfl rfl (fun w hw => read_ok hE hw.laid s (by omega)) ?_
  rintro v1 Hn M1 hm1 hnew1 ⟨rfl, hr⟩
  obtain ⟨r, e, a, c, rfl, hl, rfl, rfl⟩ := readIs_open hr
  repeat' (first | (first | refine wc_seq ?_ | refine wc_region ?_ | refine wl_nil ?_ | refine wn_seq ?_ | refine wn_blk ?_ | refine wc_skip ?_ | refine wc_block ?_ | refine wc_exit rfl ?_ | (show WL _ _ (_ :: _) _ _ _ _; first | refine wl_v rfl rfl rfl (by first | (show OpV _ _ _ _ (Oper.mk _ (Op.move _) _ _ _ _) _ _; exact xo_move rfl) | (show OpV _ _ _ _ (Oper.mk _ (Op.assign _) _ _ _ _) _ _; exact xo_assign rfl) | (show OpV _ _ _ _ (Oper.mk _ (Op.pick _ _ _) _ _ _ _) _ _; first | exact xo_and rfl rfl | exact xo_or rfl rfl) | (show OpV _ _ _ _ (Oper.mk _ (Op.extract _ _) _ _ _ _) _ _; exact xo_extract rfl) | (show OpV _ _ _ _ (Oper.mk _ (Op.call ⟨.builtin .len, _, _⟩) _ _ _ _) _ _; first | exact xo_slen rfl | exact xo_len rfl) | (show OpV _ _ _ _ (Oper.mk _ (Op.binOp BinOp.eql _ _ _ _) _ _ _ _) _ _; first | exact xo_eql rfl rfl | exact xo_seql rfl rfl | exact xo_beql rfl rfl | exact xo_aeql rfl rfl) | (show OpV _ _ _ _ (Oper.mk _ (Op.binOp BinOp.gtr _ _ _ _) _ _ _ _) _ _; exact xo_gtr rfl rfl) | (show OpV _ _ _ _ (Oper.mk _ (Op.load _ _) _ _ _ _) _ _; first | exact xo_load1 rfl | exact xo_loadS rfl)) ?_ | refine wl_v rfl rfl rfl (by first  | fail) ?_ | refine xl_alloc (fun _ => ?_) | refine xl_store rfl rfl ?_) | refine wc_ret rfl ?_) | (show WC _ (Code.cond _ _ _) _ _ _ _; (refine wc_cond rfl (fun hc => ?_) (fun hc => ?_) <;> (try (simp only [decide_eq_true_eq, decide_eq_false_iff_not, Bool.and_eq_true, Bool.or_eq_true, Bool.and_eq_false_iff, Bool.or_eq_false_iff, Bool.not_eq_true', Bool.not_eq_false', Int.not_lt, Int.not_le] at hc)) <;> (try (exfalso; first | omega | contradiction)))))
  refine wl_callS rfl Tryd.call29 rfl rfl rfl rfl (fun w hw => rread_ok hw.laid s (by omega)) ?_
  rintro v2 Hn M2 hm2 hnew2 ⟨rfl, hr2⟩
  have hl2 := hl.mono hm2 (fun _ _ _ h => h)
  rw [reads_same] at hr2
  obtain ⟨r2, e2, a2, c2, rfl, hk, rfl, rfl⟩ := readIs_open hr2
  generalize (readR s).getD ⟨0, [], []⟩ = x at *
  generalize (if (readR s).isSome then (0 : Int) else 10) = z at *
  obtain ⟨st, hd, bd⟩ := x
  dsimp only at *
  have hsame : ∀ {w : World}, Laid M2 w → Calls Tryd.prog 12 #[.agg #[i64 st, .slice a hd.length c, str bd], .agg #[i64 st, .slice a2 hd.length c2, str bd]] w (RetE w (.bool true)) := fun h => by
    have := same_ok h hl2 hk st st bd bd
    rw [decide_eq_true rfl] at this
    exact this
  repeat' (first | (first | refine wc_seq ?_ | refine wc_region ?_ | refine wl_nil ?_ | refine wn_seq ?_ | refine wn_blk ?_ | refine wc_skip ?_ | refine wc_block ?_ | refine wc_exit rfl ?_ | (show WL _ _ (_ :: _) _ _ _ _; first | refine wl_v rfl rfl rfl (by first | (show OpV _ _ _ _ (Oper.mk _ (Op.move _) _ _ _ _) _ _; exact xo_move rfl) | (show OpV _ _ _ _ (Oper.mk _ (Op.assign _) _ _ _ _) _ _; exact xo_assign rfl) | (show OpV _ _ _ _ (Oper.mk _ (Op.pick _ _ _) _ _ _ _) _ _; first | exact xo_and rfl rfl | exact xo_or rfl rfl) | (show OpV _ _ _ _ (Oper.mk _ (Op.extract _ _) _ _ _ _) _ _; exact xo_extract rfl) | (show OpV _ _ _ _ (Oper.mk _ (Op.call ⟨.builtin .len, _, _⟩) _ _ _ _) _ _; first | exact xo_slen rfl | exact xo_len rfl) | (show OpV _ _ _ _ (Oper.mk _ (Op.binOp BinOp.eql _ _ _ _) _ _ _ _) _ _; first | exact xo_eql rfl rfl | exact xo_seql rfl rfl | exact xo_beql rfl rfl | exact xo_aeql rfl rfl) | (show OpV _ _ _ _ (Oper.mk _ (Op.binOp BinOp.gtr _ _ _ _) _ _ _ _) _ _; exact xo_gtr rfl rfl) | (show OpV _ _ _ _ (Oper.mk _ (Op.load _ _) _ _ _ _) _ _; first | exact xo_load1 rfl | exact xo_loadS rfl)) ?_ | refine wl_v rfl rfl rfl (by first | ((show OpV _ _ _ _ (Oper.mk _ (Op.call ⟨.value (.func 12), _, _⟩) _ _ _ _) _ _; exact ov_call Tryd.call12 rfl (by intro himp; first | rfl | (simp_all; done)) (by rfl) (fun _ _ h k => h.ext k) (fun hcg w hw => hsame hw.laid))) | fail) ?_ | refine xl_alloc (fun _ => ?_) | refine xl_store rfl rfl ?_) | refine wc_ret rfl ?_) | (show WC _ (Code.cond _ _ _) _ _ _ _; (refine wc_cond rfl (fun hc => ?_) (fun hc => ?_) <;> (try (simp only [decide_eq_true_eq, decide_eq_false_iff_not, Bool.and_eq_true, Bool.or_eq_true, Bool.and_eq_false_iff, Bool.or_eq_false_iff, Bool.not_eq_true', Bool.not_eq_false', Int.not_lt, Int.not_le] at hc)) <;> (try (exfalso; first | omega | contradiction)))))
  exact wr_tmp rfl rfl rfl

theorem right_small {r : Resp} {n : Nat} (hr : (writeR r).length ≤ n) (hn : n ≤ 140737488355328) : Small 140737488355328 r.headers := by
  intro p hp
  have h : (r.headers.flatMap hline).length ≤ (writeR r).length := by
    unfold writeR; simp only [List.length_append]; omega
  have h2 : (hline p).length ≤ (r.headers.flatMap hline).length := by
    exact (List.infix_of_mem_flatten (List.mem_map_of_mem (f := hline) hp)).length_le
  have h3 : p.1.length + p.2.length ≤ (hline p).length := by
    unfold hline; simp only [List.length_append]; omega
  omega

theorem flat_le {l : List Pr} (h : Small 60 l) : (l.flatMap hline).length ≤ l.length * 124 := by
  induction l with
  | nil => simp
  | cons a r ih =>
    have h1 := ih (fun p hp => h p (List.mem_cons_of_mem _ hp))
    have h2 := h a (List.mem_cons_self ..)
    have h3 : (hline a).length = a.1.length + 2 + a.2.length + 2 := by unfold hline; simp; omega
    rw [List.flatMap_cons, List.length_append, List.length_cons]
    omega
theorem write_short {r : Resp} (hf : fewR r = true) (hr : rightR r = true) : (writeR r).length ≤ 100000 := by
  obtain ⟨p1, p2, p3, p4⟩ := right_parts hr
  unfold fewR at hf
  simp only [Bool.and_eq_true] at hf
  obtain ⟨h1, h2⟩ := fewB_small hf.1
  have h3 := flat_le h1
  have key : ∀ p ∈ headTab, p.2.length ≤ 60 := by decide +kernel
  have h4 := key _ (head_tab p1)
  dsimp only at h4
  have h5 : (Lib.itoa (r.body.length : Int)).length ≤ r.body.length + 1 := by
    rw [itoa_nat]; exact dec_length _
  have h6 : (hline (sCL, Lib.itoa (r.body.length : Int))).length = sCL.length + 2 + (Lib.itoa (r.body.length : Int)).length + 2 := by unfold hline; simp; omega
  have h7 : sCL.length = 14 := rfl
  unfold writeR
  simp only [List.length_append, List.length_cons, List.length_nil]
  omega

theorem back_ok (hE : GlobE M) (hM : Laid M w) {hv : Value} {l : List Pr} (hh : SlP M hv l) (st : Int) (bd s : List UInt8) : Calls Tryd.prog 8 #[.agg #[i64 st, hv, str bd], str s] w (RetE w (.bool true)) := by
  have hG := hE.glob
  obtain ⟨a0, cap0, b0, o0, cs0, T0, fz0, rfl, h1, h2, h3, h4⟩ := hh.open
  refine calls_st (l := [.agg #[i64 st, .slice a0 l.length cap0, str bd], str s]) hM Tryd.func8 rfl rfl rfl (E0 := [(0, true, .agg #[i64 st, .slice a0 l.length cap0, str bd]), (1, true, str s)]) (params_cons rfl (params_cons rfl (params_nil _))) ?_
  repeat' (first | (first | refine wc_seq ?_ | refine wc_region ?_ | refine wl_nil ?_ | refine wn_seq ?_ | refine wn_blk ?_ | refine wc_skip ?_ | refine wc_block ?_ | refine wc_exit rfl ?_ | (show WL _ _ (_ :: _) _ _ _ _; first | refine wl_v rfl rfl rfl (by first | (show OpV _ _ _ _ (Oper.mk _ (Op.move _) _ _ _ _) _ _; exact xo_move rfl) | (show OpV _ _ _ _ (Oper.mk _ (Op.assign _) _ _ _ _) _ _; exact xo_assign rfl) | (show OpV _ _ _ _ (Oper.mk _ (Op.pick _ _ _) _ _ _ _) _ _; first | exact xo_and rfl rfl | exact xo_or rfl rfl) | (show OpV _ _ _ _ (Oper.mk _ (Op.extract _ _) _ _ _ _) _ _; exact xo_extract rfl) | (show OpV _ _ _ _ (Oper.mk _ (Op.call ⟨.builtin .len, _, _⟩) _ _ _ _) _ _; first | exact xo_slen rfl | exact xo_len rfl) | (show OpV _ _ _ _ (Oper.mk _ (Op.unOp _ _ _) _ _ _ _) _ _; exact xo_not rfl) | (show OpV _ _ _ _ (Oper.mk _ (Op.binOp BinOp.eql _ _ _ _) _ _ _ _) _ _; first | exact xo_eql rfl rfl | exact xo_seql rfl rfl | exact xo_beql rfl rfl | exact xo_aeql rfl rfl) | (show OpV _ _ _ _ (Oper.mk _ (Op.binOp BinOp.neq _ _ _ _) _ _ _ _) _ _; first | exact xo_neq rfl rfl | exact xo_sneq rfl rfl | exact xo_bneq rfl rfl | exact xo_aneq rfl rfl) | (show OpV _ _ _ _ (Oper.mk _ (Op.binOp BinOp.gtr _ _ _ _) _ _ _ _) _ _; exact xo_gtr rfl rfl) | (show OpV _ _ _ _ (Oper.mk _ (Op.load _ _) _ _ _ _) _ _; first | exact xo_load1 rfl | exact xo_loadS rfl) | (show OpV _ _ _ _ (Oper.mk _ (Op.build _ _) _ _ _ _) _ _; exact xo_build rfl)) ?_ | refine wl_v rfl rfl rfl (by first | ((show OpV _ _ _ _ (Oper.mk _ (Op.call ⟨.value (.func 9), _, _⟩) _ _ _ _) _ _; exact ov_call Tryd.call9 rfl (by intro himp; first | rfl | (simp_all; done)) (by rfl) (fun _ _ h k => h.ext k) (fun hcg w hw => awake_ok hG hw.laid))) | ((show OpV _ _ _ _ (Oper.mk _ (Op.call ⟨.value (.func 10), _, _⟩) _ _ _ _) _ _; exact ov_call Tryd.call10 rfl (by intro himp; first | rfl | (simp_all; done)) (by rfl) (fun _ _ h k => h.ext k) (fun hcg w hw => rfew_ok hw.laid hh _ _))) | fail) ?_ | refine xl_alloc (fun _ => ?_) | refine xl_box rfl (fun _ => ?_) | refine xl_store rfl rfl ?_) | refine wc_ret rfl ?_) | (show WC _ (Code.cond _ _ _) _ _ _ _; (refine wc_cond rfl (fun hc => ?_) (fun hc => ?_) <;> (try (simp only [decide_eq_true_eq, decide_eq_false_iff_not, Bool.and_eq_true, Bool.or_eq_true, Bool.and_eq_false_iff, Bool.or_eq_false_iff, Bool.not_eq_true', Bool.not_eq_false', Int.not_lt, Int.not_le] at hc)) <;> (try (exfalso; first | omega | contradiction)))))
  · exact wr_tmp rfl rfl rfl
  obtain ⟨hf, hs⟩ := hc
  obtain ⟨hsm, hn⟩ := few_small hf
  dsimp only at hsm hn
  have hwr : ∃ t e, (∀ {w : World}, Laid M w → Calls Tryd.prog 11 #[.agg #[i64 st, .slice a0 l.length cap0, str bd]] w (RetE w (.tuple #[str t, i64 e]))) ∧ (rightR ⟨st, l, bd⟩ = true → t = writeR ⟨st, l, bd⟩ ∧ e = 0) ∧ (rightR ⟨st, l, bd⟩ = false → t = [] ∧ e = 1) := by
    by_cases hr : rightR ⟨st, l, bd⟩ = true
    · exact ⟨_, _, fun h => write_yes hG h hh st bd hsm hr, fun _ => ⟨rfl, rfl⟩, fun h => by rw [hr] at h; cases h⟩
    · exact ⟨_, _, fun h => write_no hG h hh st bd hsm hr, fun h => absurd h hr, fun _ => ⟨rfl, rfl⟩⟩
  obtain ⟨t, e, hw1, hy, hno⟩ := hwr
  have hrt := fun {w : World} (h : Laid M w) => right_ok h hh st bd hsm
  have hws := write_short hf
  -- what follows once both have been read
  cases hR : rightR ⟨st, l, bd⟩ with
  | false =>
    obtain ⟨rfl, rfl⟩ := hno hR
    rw [hR] at hrt
    repeat' (first | (first | refine wc_seq ?_ | refine wc_region ?_ | refine wl_nil ?_ | refine wn_seq ?_ | refine wn_blk ?_ | refine wc_skip ?_ | refine wc_block ?_ | refine wc_exit rfl ?_ | (show WL _ _ (_ :: _) _ _ _ _; first | refine wl_v rfl rfl rfl (by first | (show OpV _ _ _ _ (Oper.mk _ (Op.move _) _ _ _ _) _ _; exact xo_move rfl) | (show OpV _ _ _ _ (Oper.mk _ (Op.assign _) _ _ _ _) _ _; exact xo_assign rfl) | (show OpV _ _ _ _ (Oper.mk _ (Op.pick _ _ _) _ _ _ _) _ _; first | exact xo_and rfl rfl | exact xo_or rfl rfl) | (show OpV _ _ _ _ (Oper.mk _ (Op.extract _ _) _ _ _ _) _ _; exact xo_extract rfl) | (show OpV _ _ _ _ (Oper.mk _ (Op.call ⟨.builtin .len, _, _⟩) _ _ _ _) _ _; first | exact xo_slen rfl | exact xo_len rfl) | (show OpV _ _ _ _ (Oper.mk _ (Op.unOp _ _ _) _ _ _ _) _ _; exact xo_not rfl) | (show OpV _ _ _ _ (Oper.mk _ (Op.binOp BinOp.eql _ _ _ _) _ _ _ _) _ _; first | exact xo_eql rfl rfl | exact xo_seql rfl rfl | exact xo_beql rfl rfl | exact xo_aeql rfl rfl) | (show OpV _ _ _ _ (Oper.mk _ (Op.binOp BinOp.neq _ _ _ _) _ _ _ _) _ _; first | exact xo_neq rfl rfl | exact xo_sneq rfl rfl | exact xo_bneq rfl rfl | exact xo_aneq rfl rfl) | (show OpV _ _ _ _ (Oper.mk _ (Op.binOp BinOp.gtr _ _ _ _) _ _ _ _) _ _; exact xo_gtr rfl rfl) | (show OpV _ _ _ _ (Oper.mk _ (Op.load _ _) _ _ _ _) _ _; first | exact xo_load1 rfl | exact xo_loadS rfl) | (show OpV _ _ _ _ (Oper.mk _ (Op.build _ _) _ _ _ _) _ _; exact xo_build rfl)) ?_ | refine wl_v rfl rfl rfl (by first | ((show OpV _ _ _ _ (Oper.mk _ (Op.call ⟨.value (.func 11), _, _⟩) _ _ _ _) _ _; exact ov_call Tryd.call11 rfl (by intro himp; first | rfl | (simp_all; done)) (by rfl) (fun _ _ h k => h.ext k) (fun hcg w hw => hw1 hw.laid))) | ((show OpV _ _ _ _ (Oper.mk _ (Op.call ⟨.value (.func 14), _, _⟩) _ _ _ _) _ _; exact ov_call Tryd.call14 rfl (by intro himp; first | rfl | (simp_all; done)) (by rfl) (fun _ _ h k => h.ext k) (fun hcg w hw => hrt hw.laid))) | fail) ?_ | refine xl_alloc (fun _ => ?_) | refine xl_box rfl (fun _ => ?_) | refine xl_store rfl rfl ?_) | refine wc_ret rfl ?_) | (show WC _ (Code.cond _ _ _) _ _ _ _; (refine wc_cond rfl (fun hc => ?_) (fun hc => ?_) <;> (try (simp only [decide_eq_true_eq, decide_eq_false_iff_not, Bool.and_eq_true, Bool.or_eq_true, Bool.and_eq_false_iff, Bool.or_eq_false_iff, Bool.not_eq_true', Bool.not_eq_false', Int.not_lt, Int.not_le] at hc)) <;> (try (exfalso; first | omega | contradiction)))))
    refine wl_callS rfl Tryd.call28 rfl rfl rfl rfl (fun w hw => read_ok hE hw.laid s (by omega)) ?_
    rintro v3 Hn3 M3 hm3 hnew3 ⟨rfl, hr3⟩
    have hE3 := hE.mono hm3
    cases hq : readR s with
    | none =>
      rw [hq] at hr3
      unfold ReadIs at hr3
      subst hr3
      have hz : ∀ {w : World}, Laid M3 w → Calls Tryd.prog 12 #[.agg #[i64 0, .slice none 0 0, str []], .agg #[i64 0, .slice none 0 0, str []]] w (RetE w (.bool true)) := fun h => by
        have := same_ok h (u := .slice none 0 0) (v := .slice none 0 0) (l := []) (m := []) sl_nil sl_nil 0 0 [] []
        rw [decide_eq_true rfl] at this
        exact this
      repeat' (first | (first | refine wc_seq ?_ | refine wc_region ?_ | refine wl_nil ?_ | refine wn_seq ?_ | refine wn_blk ?_ | refine wc_skip ?_ | refine wc_block ?_ | refine wc_exit rfl ?_ | (show WL _ _ (_ :: _) _ _ _ _; first | refine wl_v rfl rfl rfl (by first | (show OpV _ _ _ _ (Oper.mk _ (Op.move _) _ _ _ _) _ _; exact xo_move rfl) | (show OpV _ _ _ _ (Oper.mk _ (Op.assign _) _ _ _ _) _ _; exact xo_assign rfl) | (show OpV _ _ _ _ (Oper.mk _ (Op.pick _ _ _) _ _ _ _) _ _; first | exact xo_and rfl rfl | exact xo_or rfl rfl) | (show OpV _ _ _ _ (Oper.mk _ (Op.extract _ _) _ _ _ _) _ _; exact xo_extract rfl) | (show OpV _ _ _ _ (Oper.mk _ (Op.call ⟨.builtin .len, _, _⟩) _ _ _ _) _ _; first | exact xo_slen rfl | exact xo_len rfl) | (show OpV _ _ _ _ (Oper.mk _ (Op.unOp _ _ _) _ _ _ _) _ _; exact xo_not rfl) | (show OpV _ _ _ _ (Oper.mk _ (Op.binOp BinOp.eql _ _ _ _) _ _ _ _) _ _; first | exact xo_eql rfl rfl | exact xo_seql rfl rfl | exact xo_beql rfl rfl | exact xo_aeql rfl rfl) | (show OpV _ _ _ _ (Oper.mk _ (Op.binOp BinOp.neq _ _ _ _) _ _ _ _) _ _; first | exact xo_neq rfl rfl | exact xo_sneq rfl rfl | exact xo_bneq rfl rfl | exact xo_aneq rfl rfl) | (show OpV _ _ _ _ (Oper.mk _ (Op.binOp BinOp.gtr _ _ _ _) _ _ _ _) _ _; exact xo_gtr rfl rfl) | (show OpV _ _ _ _ (Oper.mk _ (Op.load _ _) _ _ _ _) _ _; first | exact xo_load1 rfl | exact xo_loadS rfl) | (show OpV _ _ _ _ (Oper.mk _ (Op.build _ _) _ _ _ _) _ _; exact xo_build rfl)) ?_ | refine wl_v rfl rfl rfl (by first | ((show OpV _ _ _ _ (Oper.mk _ (Op.call ⟨.value (.func 12), _, _⟩) _ _ _ _) _ _; exact ov_call Tryd.call12 rfl (by intro himp; first | rfl | (simp_all; done)) (by rfl) (fun _ _ h k => h.ext k) (fun hcg w hw => hz hw.laid))) | fail) ?_ | refine xl_alloc (fun _ => ?_) | refine xl_box rfl (fun _ => ?_) | refine xl_store rfl rfl ?_) | refine wc_ret rfl ?_) | (show WC _ (Code.cond _ _ _) _ _ _ _; (refine wc_cond rfl (fun hc => ?_) (fun hc => ?_) <;> (try (simp only [decide_eq_true_eq, decide_eq_false_iff_not, Bool.and_eq_true, Bool.or_eq_true, Bool.and_eq_false_iff, Bool.or_eq_false_iff, Bool.not_eq_true', Bool.not_eq_false', Int.not_lt, Int.not_le] at hc)) <;> (try (exfalso; first | omega | contradiction)))))
      exact wr_tmp rfl rfl rfl
    | some x =>
      rw [hq] at hr3
      obtain ⟨hv3, rfl, hx⟩ := hr3
      obtain ⟨hxR, hxW⟩ := readR_iff.1 hq
      have hxs := right_small (n := 700) (by rw [hxW]; omega) (by decide)
      obtain ⟨a3, cap3, b3, o3, cs3, T3, fz3, rfl, q1, q2, q3, q4⟩ := hx.open
      have hw3 : ∀ {w : World}, Laid M3 w → Calls Tryd.prog 11 #[.agg #[i64 x.status, .slice a3 x.headers.length cap3, str x.body]] w (RetE w (.tuple #[str s, i64 0])) := fun h => by
        have := write_yes hE3.glob h hx x.status x.body hxs hxR
        rw [← hxW]; exact this
      repeat' (first | (first | refine wc_seq ?_ | refine wc_region ?_ | refine wl_nil ?_ | refine wn_seq ?_ | refine wn_blk ?_ | refine wc_skip ?_ | refine wc_block ?_ | refine wc_exit rfl ?_ | (show WL _ _ (_ :: _) _ _ _ _; first | refine wl_v rfl rfl rfl (by first | (show OpV _ _ _ _ (Oper.mk _ (Op.move _) _ _ _ _) _ _; exact xo_move rfl) | (show OpV _ _ _ _ (Oper.mk _ (Op.assign _) _ _ _ _) _ _; exact xo_assign rfl) | (show OpV _ _ _ _ (Oper.mk _ (Op.pick _ _ _) _ _ _ _) _ _; first | exact xo_and rfl rfl | exact xo_or rfl rfl) | (show OpV _ _ _ _ (Oper.mk _ (Op.extract _ _) _ _ _ _) _ _; exact xo_extract rfl) | (show OpV _ _ _ _ (Oper.mk _ (Op.call ⟨.builtin .len, _, _⟩) _ _ _ _) _ _; first | exact xo_slen rfl | exact xo_len rfl) | (show OpV _ _ _ _ (Oper.mk _ (Op.unOp _ _ _) _ _ _ _) _ _; exact xo_not rfl) | (show OpV _ _ _ _ (Oper.mk _ (Op.binOp BinOp.eql _ _ _ _) _ _ _ _) _ _; first | exact xo_eql rfl rfl | exact xo_seql rfl rfl | exact xo_beql rfl rfl | exact xo_aeql rfl rfl) | (show OpV _ _ _ _ (Oper.mk _ (Op.binOp BinOp.neq _ _ _ _) _ _ _ _) _ _; first | exact xo_neq rfl rfl | exact xo_sneq rfl rfl | exact xo_bneq rfl rfl | exact xo_aneq rfl rfl) | (show OpV _ _ _ _ (Oper.mk _ (Op.binOp BinOp.gtr _ _ _ _) _ _ _ _) _ _; exact xo_gtr rfl rfl) | (show OpV _ _ _ _ (Oper.mk _ (Op.load _ _) _ _ _ _) _ _; first | exact xo_load1 rfl | exact xo_loadS rfl) | (show OpV _ _ _ _ (Oper.mk _ (Op.build _ _) _ _ _ _) _ _; exact xo_build rfl)) ?_ | refine wl_v rfl rfl rfl (by first | ((show OpV _ _ _ _ (Oper.mk _ (Op.call ⟨.value (.func 11), _, _⟩) _ _ _ _) _ _; exact ov_call Tryd.call11 rfl (by intro himp; first | rfl | (simp_all; done)) (by rfl) (fun _ _ h k => h.ext k) (fun hcg w hw => hw3 hw.laid))) | fail) ?_ | refine xl_alloc (fun _ => ?_) | refine xl_box rfl (fun _ => ?_) | refine xl_store rfl rfl ?_) | refine wc_ret rfl ?_) | (show WC _ (Code.cond _ _ _) _ _ _ _; (refine wc_cond rfl (fun hc => ?_) (fun hc => ?_) <;> (try (simp only [decide_eq_true_eq, decide_eq_false_iff_not, Bool.and_eq_true, Bool.or_eq_true, Bool.and_eq_false_iff, Bool.or_eq_false_iff, Bool.not_eq_true', Bool.not_eq_false', Int.not_lt, Int.not_le] at hc)) <;> (try (exfalso; first | omega | contradiction)))))
      exact wr_tmp rfl rfl rfl
  | true =>
    obtain ⟨rfl, rfl⟩ := hy hR
    rw [hR] at hrt
    replace hws := hws hR
    have hback : readR (writeR ⟨st, l, bd⟩) = some ⟨st, l, bd⟩ := readR_iff.2 ⟨hR, rfl⟩
    generalize writeR ⟨st, l, bd⟩ = t at *
    repeat' (first | (first | refine wc_seq ?_ | refine wc_region ?_ | refine wl_nil ?_ | refine wn_seq ?_ | refine wn_blk ?_ | refine wc_skip ?_ | refine wc_block ?_ | refine wc_exit rfl ?_ | (show WL _ _ (_ :: _) _ _ _ _; first | refine wl_v rfl rfl rfl (by first | (show OpV _ _ _ _ (Oper.mk _ (Op.move _) _ _ _ _) _ _; exact xo_move rfl) | (show OpV _ _ _ _ (Oper.mk _ (Op.assign _) _ _ _ _) _ _; exact xo_assign rfl) | (show OpV _ _ _ _ (Oper.mk _ (Op.pick _ _ _) _ _ _ _) _ _; first | exact xo_and rfl rfl | exact xo_or rfl rfl) | (show OpV _ _ _ _ (Oper.mk _ (Op.extract _ _) _ _ _ _) _ _; exact xo_extract rfl) | (show OpV _ _ _ _ (Oper.mk _ (Op.call ⟨.builtin .len, _, _⟩) _ _ _ _) _ _; first | exact xo_slen rfl | exact xo_len rfl) | (show OpV _ _ _ _ (Oper.mk _ (Op.unOp _ _ _) _ _ _ _) _ _; exact xo_not rfl) | (show OpV _ _ _ _ (Oper.mk _ (Op.binOp BinOp.eql _ _ _ _) _ _ _ _) _ _; first | exact xo_eql rfl rfl | exact xo_seql rfl rfl | exact xo_beql rfl rfl | exact xo_aeql rfl rfl) | (show OpV _ _ _ _ (Oper.mk _ (Op.binOp BinOp.neq _ _ _ _) _ _ _ _) _ _; first | exact xo_neq rfl rfl | exact xo_sneq rfl rfl | exact xo_bneq rfl rfl | exact xo_aneq rfl rfl) | (show OpV _ _ _ _ (Oper.mk _ (Op.binOp BinOp.gtr _ _ _ _) _ _ _ _) _ _; exact xo_gtr rfl rfl) | (show OpV _ _ _ _ (Oper.mk _ (Op.load _ _) _ _ _ _) _ _; first | exact xo_load1 rfl | exact xo_loadS rfl) | (show OpV _ _ _ _ (Oper.mk _ (Op.build _ _) _ _ _ _) _ _; exact xo_build rfl)) ?_ | refine wl_v rfl rfl rfl (by first | ((show OpV _ _ _ _ (Oper.mk _ (Op.call ⟨.value (.func 11), _, _⟩) _ _ _ _) _ _; exact ov_call Tryd.call11 rfl (by intro himp; first | rfl | (simp_all; done)) (by rfl) (fun _ _ h k => h.ext k) (fun hcg w hw => hw1 hw.laid))) | ((show OpV _ _ _ _ (Oper.mk _ (Op.call ⟨.value (.func 14), _, _⟩) _ _ _ _) _ _; exact ov_call Tryd.call14 rfl (by intro himp; first | rfl | (simp_all; done)) (by rfl) (fun _ _ h k => h.ext k) (fun hcg w hw => hrt hw.laid))) | fail) ?_ | refine xl_alloc (fun _ => ?_) | refine xl_box rfl (fun _ => ?_) | refine xl_store rfl rfl ?_) | refine wc_ret rfl ?_) | (show WC _ (Code.cond _ _ _) _ _ _ _; (refine wc_cond rfl (fun hc => ?_) (fun hc => ?_) <;> (try (simp only [decide_eq_true_eq, decide_eq_false_iff_not, Bool.and_eq_true, Bool.or_eq_true, Bool.and_eq_false_iff, Bool.or_eq_false_iff, Bool.not_eq_true', Bool.not_eq_false', Int.not_lt, Int.not_le] at hc)) <;> (try (exfalso; first | omega | contradiction)))))
    refine wl_callS rfl Tryd.call28 rfl rfl rfl rfl (fun w hw => read_ok hE hw.laid t hws) ?_
    rintro v2 Hn M2 hm2 hnew2 ⟨rfl, hr2⟩
    have hE2 := hE.mono hm2
    rw [hback] at hr2
    obtain ⟨hv2, rfl, hk⟩ := hr2
    dsimp only at hk
    have hk0 := hk
    obtain ⟨a2, cap2, b2, o2, cs2, T2, fz2, rfl, k1, k2, k3, k4⟩ := hk.open
    have hl2 := hh.mono hm2 (fun _ _ _ h => h)
    have hsame : ∀ {w : World}, Laid M2 w → Calls Tryd.prog 12 #[.agg #[i64 st, .slice a2 l.length cap2, str bd], .agg #[i64 st, .slice a0 l.length cap0, str bd]] w (RetE w (.bool true)) := fun h => by
      have := same_ok h hk0 hl2 st st bd bd
      rw [decide_eq_true rfl] at this
      exact this
    repeat' (first | (first | refine wc_seq ?_ | refine wc_region ?_ | refine wl_nil ?_ | refine wn_seq ?_ | refine wn_blk ?_ | refine wc_skip ?_ | refine wc_block ?_ | refine wc_exit rfl ?_ | (show WL _ _ (_ :: _) _ _ _ _; first | refine wl_v rfl rfl rfl (by first | (show OpV _ _ _ _ (Oper.mk _ (Op.move _) _ _ _ _) _ _; exact xo_move rfl) | (show OpV _ _ _ _ (Oper.mk _ (Op.assign _) _ _ _ _) _ _; exact xo_assign rfl) | (show OpV _ _ _ _ (Oper.mk _ (Op.pick _ _ _) _ _ _ _) _ _; first | exact xo_and rfl rfl | exact xo_or rfl rfl) | (show OpV _ _ _ _ (Oper.mk _ (Op.extract _ _) _ _ _ _) _ _; exact xo_extract rfl) | (show OpV _ _ _ _ (Oper.mk _ (Op.call ⟨.builtin .len, _, _⟩) _ _ _ _) _ _; first | exact xo_slen rfl | exact xo_len rfl) | (show OpV _ _ _ _ (Oper.mk _ (Op.unOp _ _ _) _ _ _ _) _ _; exact xo_not rfl) | (show OpV _ _ _ _ (Oper.mk _ (Op.binOp BinOp.eql _ _ _ _) _ _ _ _) _ _; first | exact xo_eql rfl rfl | exact xo_seql rfl rfl | exact xo_beql rfl rfl | exact xo_aeql rfl rfl) | (show OpV _ _ _ _ (Oper.mk _ (Op.binOp BinOp.neq _ _ _ _) _ _ _ _) _ _; first | exact xo_neq rfl rfl | exact xo_sneq rfl rfl | exact xo_bneq rfl rfl | exact xo_aneq rfl rfl) | (show OpV _ _ _ _ (Oper.mk _ (Op.binOp BinOp.gtr _ _ _ _) _ _ _ _) _ _; exact xo_gtr rfl rfl) | (show OpV _ _ _ _ (Oper.mk _ (Op.load _ _) _ _ _ _) _ _; first | exact xo_load1 rfl | exact xo_loadS rfl) | (show OpV _ _ _ _ (Oper.mk _ (Op.build _ _) _ _ _ _) _ _; exact xo_build rfl)) ?_ | refine wl_v rfl rfl rfl (by first | ((show OpV _ _ _ _ (Oper.mk _ (Op.call ⟨.value (.func 12), _, _⟩) _ _ _ _) _ _; exact ov_call Tryd.call12 rfl (by intro himp; first | rfl | (simp_all; done)) (by rfl) (fun _ _ h k => h.ext k) (fun hcg w hw => hsame hw.laid))) | fail) ?_ | refine xl_alloc (fun _ => ?_) | refine xl_box rfl (fun _ => ?_) | refine xl_store rfl rfl ?_) | refine wc_ret rfl ?_) | (show WC _ (Code.cond _ _ _) _ _ _ _; (refine wc_cond rfl (fun hc => ?_) (fun hc => ?_) <;> (try (simp only [decide_eq_true_eq, decide_eq_false_iff_not, Bool.and_eq_true, Bool.or_eq_true, Bool.and_eq_false_iff, Bool.or_eq_false_iff, Bool.not_eq_true', Bool.not_eq_false', Int.not_lt, Int.not_le] at hc)) <;> (try (exfalso; first | omega | contradiction)))))
    refine wl_callS rfl Tryd.call28 rfl rfl rfl rfl (fun w hw => read_ok hE2 hw.laid s (by omega)) ?_
    rintro v3 Hn3 M3 hm3 hnew3 ⟨rfl, hr3⟩
    have hE3 := hE2.mono hm3
    cases hq : readR s with
    | none =>
      rw [hq] at hr3
      unfold ReadIs at hr3
      subst hr3
      have hz : ∀ {w : World}, Laid M3 w → Calls Tryd.prog 12 #[.agg #[i64 0, .slice none 0 0, str []], .agg #[i64 0, .slice none 0 0, str []]] w (RetE w (.bool true)) := fun h => by
        have := same_ok h (u := .slice none 0 0) (v := .slice none 0 0) (l := []) (m := []) sl_nil sl_nil 0 0 [] []
        rw [decide_eq_true rfl] at this
        exact this
      repeat' (first | (first | refine wc_seq ?_ | refine wc_region ?_ | refine wl_nil ?_ | refine wn_seq ?_ | refine wn_blk ?_ | refine wc_skip ?_ | refine wc_block ?_ | refine wc_exit rfl ?_ | (show WL _ _ (_ :: _) _ _ _ _; first | refine wl_v rfl rfl rfl (by first | (show OpV _ _ _ _ (Oper.mk _ (Op.move _) _ _ _ _) _ _; exact xo_move rfl) | (show OpV _ _ _ _ (Oper.mk _ (Op.assign _) _ _ _ _) _ _; exact xo_assign rfl) | (show OpV _ _ _ _ (Oper.mk _ (Op.pick _ _ _) _ _ _ _) _ _; first | exact xo_and rfl rfl | exact xo_or rfl rfl) | (show OpV _ _ _ _ (Oper.mk _ (Op.extract _ _) _ _ _ _) _ _; exact xo_extract rfl) | (show OpV _ _ _ _ (Oper.mk _ (Op.call ⟨.builtin .len, _, _⟩) _ _ _ _) _ _; first | exact xo_slen rfl | exact xo_len rfl) | (show OpV _ _ _ _ (Oper.mk _ (Op.unOp _ _ _) _ _ _ _) _ _; exact xo_not rfl) | (show OpV _ _ _ _ (Oper.mk _ (Op.binOp BinOp.eql _ _ _ _) _ _ _ _) _ _; first | exact xo_eql rfl rfl | exact xo_seql rfl rfl | exact xo_beql rfl rfl | exact xo_aeql rfl rfl) | (show OpV _ _ _ _ (Oper.mk _ (Op.binOp BinOp.neq _ _ _ _) _ _ _ _) _ _; first | exact xo_neq rfl rfl | exact xo_sneq rfl rfl | exact xo_bneq rfl rfl | exact xo_aneq rfl rfl) | (show OpV _ _ _ _ (Oper.mk _ (Op.binOp BinOp.gtr _ _ _ _) _ _ _ _) _ _; exact xo_gtr rfl rfl) | (show OpV _ _ _ _ (Oper.mk _ (Op.load _ _) _ _ _ _) _ _; first | exact xo_load1 rfl | exact xo_loadS rfl) | (show OpV _ _ _ _ (Oper.mk _ (Op.build _ _) _ _ _ _) _ _; exact xo_build rfl)) ?_ | refine wl_v rfl rfl rfl (by first | ((show OpV _ _ _ _ (Oper.mk _ (Op.call ⟨.value (.func 12), _, _⟩) _ _ _ _) _ _; exact ov_call Tryd.call12 rfl (by intro himp; first | rfl | (simp_all; done)) (by rfl) (fun _ _ h k => h.ext k) (fun hcg w hw => hz hw.laid))) | fail) ?_ | refine xl_alloc (fun _ => ?_) | refine xl_box rfl (fun _ => ?_) | refine xl_store rfl rfl ?_) | refine wc_ret rfl ?_) | (show WC _ (Code.cond _ _ _) _ _ _ _; (refine wc_cond rfl (fun hc => ?_) (fun hc => ?_) <;> (try (simp only [decide_eq_true_eq, decide_eq_false_iff_not, Bool.and_eq_true, Bool.or_eq_true, Bool.and_eq_false_iff, Bool.or_eq_false_iff, Bool.not_eq_true', Bool.not_eq_false', Int.not_lt, Int.not_le] at hc)) <;> (try (exfalso; first | omega | contradiction)))))
      exact wr_tmp rfl rfl rfl
    | some x =>
      rw [hq] at hr3
      obtain ⟨hv3, rfl, hx⟩ := hr3
      obtain ⟨hxR, hxW⟩ := readR_iff.1 hq
      have hxs := right_small (n := 700) (by rw [hxW]; omega) (by decide)
      obtain ⟨a3, cap3, b3, o3, cs3, T3, fz3, rfl, q1, q2, q3, q4⟩ := hx.open
      have hw3 : ∀ {w : World}, Laid M3 w → Calls Tryd.prog 11 #[.agg #[i64 x.status, .slice a3 x.headers.length cap3, str x.body]] w (RetE w (.tuple #[str s, i64 0])) := fun h => by
        have := write_yes hE3.glob h hx x.status x.body hxs hxR
        rw [← hxW]; exact this
      repeat' (first | (first | refine wc_seq ?_ | refine wc_region ?_ | refine wl_nil ?_ | refine wn_seq ?_ | refine wn_blk ?_ | refine wc_skip ?_ | refine wc_block ?_ | refine wc_exit rfl ?_ | (show WL _ _ (_ :: _) _ _ _ _; first | refine wl_v rfl rfl rfl (by first | (show OpV _ _ _ _ (Oper.mk _ (Op.move _) _ _ _ _) _ _; exact xo_move rfl) | (show OpV _ _ _ _ (Oper.mk _ (Op.assign _) _ _ _ _) _ _; exact xo_assign rfl) | (show OpV _ _ _ _ (Oper.mk _ (Op.pick _ _ _) _ _ _ _) _ _; first | exact xo_and rfl rfl | exact xo_or rfl rfl) | (show OpV _ _ _ _ (Oper.mk _ (Op.extract _ _) _ _ _ _) _ _; exact xo_extract rfl) | (show OpV _ _ _ _ (Oper.mk _ (Op.call ⟨.builtin .len, _, _⟩) _ _ _ _) _ _; first | exact xo_slen rfl | exact xo_len rfl) | (show OpV _ _ _ _ (Oper.mk _ (Op.unOp _ _ _) _ _ _ _) _ _; exact xo_not rfl) | (show OpV _ _ _ _ (Oper.mk _ (Op.binOp BinOp.eql _ _ _ _) _ _ _ _) _ _; first | exact xo_eql rfl rfl | exact xo_seql rfl rfl | exact xo_beql rfl rfl | exact xo_aeql rfl rfl) | (show OpV _ _ _ _ (Oper.mk _ (Op.binOp BinOp.neq _ _ _ _) _ _ _ _) _ _; first | exact xo_neq rfl rfl | exact xo_sneq rfl rfl | exact xo_bneq rfl rfl | exact xo_aneq rfl rfl) | (show OpV _ _ _ _ (Oper.mk _ (Op.binOp BinOp.gtr _ _ _ _) _ _ _ _) _ _; exact xo_gtr rfl rfl) | (show OpV _ _ _ _ (Oper.mk _ (Op.load _ _) _ _ _ _) _ _; first | exact xo_load1 rfl | exact xo_loadS rfl) | (show OpV _ _ _ _ (Oper.mk _ (Op.build _ _) _ _ _ _) _ _; exact xo_build rfl)) ?_ | refine wl_v rfl rfl rfl (by first | ((show OpV _ _ _ _ (Oper.mk _ (Op.call ⟨.value (.func 11), _, _⟩) _ _ _ _) _ _; exact ov_call Tryd.call11 rfl (by intro himp; first | rfl | (simp_all; done)) (by rfl) (fun _ _ h k => h.ext k) (fun hcg w hw => hw3 hw.laid))) | fail) ?_ | refine xl_alloc (fun _ => ?_) | refine xl_box rfl (fun _ => ?_) | refine xl_store rfl rfl ?_) | refine wc_ret rfl ?_) | (show WC _ (Code.cond _ _ _) _ _ _ _; (refine wc_cond rfl (fun hc => ?_) (fun hc => ?_) <;> (try (simp only [decide_eq_true_eq, decide_eq_false_iff_not, Bool.and_eq_true, Bool.or_eq_true, Bool.and_eq_false_iff, Bool.or_eq_false_iff, Bool.not_eq_true', Bool.not_eq_false', Int.not_lt, Int.not_le] at hc)) <;> (try (exfalso; first | omega | contradiction)))))
      exact wr_tmp rfl rfl rfl
end Go.Proofs.YthkpekmecgbokaaDoor
