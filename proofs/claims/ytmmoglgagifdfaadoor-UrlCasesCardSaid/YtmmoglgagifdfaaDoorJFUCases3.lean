/-
  Texts of a proof, joined: QctD, QctE, Str, QctF, QctG, QctH, QctI, QctJ, UrlA, UrlB, UrlC, UrlD, PctP, PctQ, UrlE, UrlF, UrlT.
-/
import Derived.Lib.AtoiErrMem
import Derived.Test.YtmmoglgagifdfaaDoorJFUCases1
import Derived.Test.YtmmoglgagifdfaaDoorJFUCases2
/-
  The contracts of package pct's Encode, each, Decode and Normal.
-/
namespace Go.Proofs.YtmmoglgagifdfaaDoor
open Go.Eng Go.Pct
set_option maxRecDepth 10000
set_option linter.unusedSimpArgs false
set_option linter.unusedVariables false

variable {M : Ghost} {w : World}

theorem laid_lt (hM : Laid M w) : ∀ k o, M k o → k < w.heap.size := fun k o h => lt_of_get (hM k o h)

theorem encode_ok (hG : Glob M) (hM : Laid M w) (s : List UInt8) (hs : s.length ≤ 1000000000) : Calls Tryd.prog 52 #[str s] w (RetE w (str (encode s))) := by
  refine calls_st (l := [str s]) hM Tryd.func52 rfl rfl rfl (E0 := [(0, true, str s)]) (params_cons rfl (params_nil _)) ?_
  repeat' (first | (first | refine wc_seq ?_ | refine wc_region ?_ | refine wl_nil ?_ | refine wn_seq ?_ | refine wn_blk ?_ | refine wc_skip ?_ | refine wc_block ?_ | refine wc_exit rfl ?_ | (show WL _ _ (_ :: _) _ _ _ _; first | refine yl_v rfl rfl rfl ?_ | refine wl_v rfl rfl rfl (by first  | (show OpV _ _ _ _ (Oper.mk _ (Op.binOp BinOp.add _ _ _ _) _ _ _ _) _ _; exact ov_sadd rfl rfl (by first | with_reducible exact fun _ => rfl | with_reducible exact fun h => h | exact fun _ => rfl | exact fun h => h | (intro himp; simp_all; done)) (by first | with_reducible exact fun _ => rfl | with_reducible exact fun h => h | exact fun _ => rfl | exact fun h => h | (intro himp; simp_all; done)) (by intro hcg; first | omega | (simp only [List.length_append, List.length_take, List.length_drop, List.length_cons, List.length_nil, pctOf_length]; omega)))) ?_ | refine xl_alloc (fun _ => ?_)) | refine wc_ret rfl ?_) | (show WC _ (Code.cond _ _ _) _ _ _ _; (refine wc_cond rfl (fun hc => ?_) (fun hc => ?_) <;> (try (simp only [decide_eq_true_eq, decide_eq_false_iff_not, Bool.and_eq_true, Bool.or_eq_true, Bool.and_eq_false_iff, Bool.or_eq_false_iff, Bool.not_eq_true', Bool.not_eq_false', Int.not_lt, Int.not_le] at hc)) <;> (try (exfalso; first | omega | contradiction)))))
  rename_i b
  refine wc_loop (α := { i : Nat // i ≤ s.length }) (fun x => [(0, true, str s), (3, true, .pointer (some ⟨b, 0, none⟩)), (7, true, i64 (s.length : Int)), (8, true, i64 (x.1 : Int))]) (fun x => SB w [] M b (encode (s.take x.1))) (fun x => s.length - x.1) ⟨0, by omega⟩ (by first | exact Sub.nil _ | (repeat (first | exact Sub.nil _ | refine Sub.cons (by first | rfl | (simp [look]; done)) ?_))) (fun _ h => SB.start (hw := laid_lt hM) h (by simp)) ?_
  rintro ⟨i, hi⟩
  dsimp only
  have hle := (encode_length (s.take i)).2
  have hlt : (s.take i).length ≤ i := List.length_take_le _ _
  repeat' (first | (first | (show WL _ _ (Oper.mk _ (Op.call ⟨.value (.func 72), _, _⟩) _ _ _ _ :: _) _ _ _ _; refine wl_callC rfl Tryd.call72 rfl rfl rfl rfl (fun w hw => bwString hw _ (by first | omega | (simp only [List.length_append, List.length_take, List.length_drop, List.length_cons, List.length_nil, pctOf_length]; omega)) (by first | omega | (simp only [List.length_append, List.length_take, List.length_drop, List.length_cons, List.length_nil, pctOf_length]; omega))) ?_) | (show WL _ _ (Oper.mk _ (Op.call ⟨.value (.func 73), _, _⟩) _ _ _ _ :: _) _ _ _ _; refine wl_callC rfl Tryd.call73 rfl rfl rfl rfl (fun w hw => bsString hw) ?_) | (show WL _ _ (Oper.mk _ (Op.call ⟨.value (.func 71), _, _⟩) _ _ _ _ :: _) _ _ _ _; refine wl_callC rfl Tryd.call71 rfl rfl rfl rfl (fun w hw => bwByte hw _ (by first | omega | (simp only [List.length_append, List.length_take, List.length_drop, List.length_cons, List.length_nil, pctOf_length]; omega))) ?_)) | (first | refine wc_seq ?_ | refine wc_region ?_ | refine wl_nil ?_ | refine wn_seq ?_ | refine wn_blk ?_ | refine wc_skip ?_ | refine wc_block ?_ | refine wc_exit rfl ?_ | (show WL _ _ (_ :: _) _ _ _ _; first | refine yl_v rfl rfl rfl ?_ | refine wl_v rfl rfl rfl (by first | ((show OpV _ _ _ _ (Oper.mk _ (Op.call ⟨.value (.func 44), _, _⟩) _ _ _ _) _ _; exact ov_call Tryd.call44 rfl (by intro himp; first | rfl | (simp_all; done)) (by rfl) (fun _ _ h k => h.ext k) (fun hcg w hw => plain_ok hw.st.laid _))) | ((show OpV _ _ _ _ (Oper.mk _ (Op.call ⟨.value (.func 65), _, _⟩) _ _ _ _) _ _; exact ov_call Tryd.call65 rfl (by intro himp; first | rfl | (simp_all; done)) (by rfl) (fun _ _ h k => h.ext k) (fun hcg w hw => percent_ok hG hw.st.laid _))) | (show OpV _ _ _ _ (Oper.mk _ (Op.binOp BinOp.add _ _ _ _) _ _ _ _) _ _; exact ov_sadd rfl rfl (by first | with_reducible exact fun _ => rfl | with_reducible exact fun h => h | exact fun _ => rfl | exact fun h => h | (intro himp; simp_all; done)) (by first | with_reducible exact fun _ => rfl | with_reducible exact fun h => h | exact fun _ => rfl | exact fun h => h | (intro himp; simp_all; done)) (by intro hcg; first | omega | (simp only [List.length_append, List.length_take, List.length_drop, List.length_cons, List.length_nil, pctOf_length]; omega)))) ?_ | refine xl_alloc (fun _ => ?_)) | refine wc_ret rfl ?_) | (show WC _ (Code.cond _ _ _) _ _ _ _; (refine wc_cond rfl (fun hc => ?_) (fun hc => ?_) <;> (try (simp only [decide_eq_true_eq, decide_eq_false_iff_not, Bool.and_eq_true, Bool.or_eq_true, Bool.and_eq_false_iff, Bool.or_eq_false_iff, Bool.not_eq_true', Bool.not_eq_false', Int.not_lt, Int.not_le] at hc)) <;> (try (exfalso; first | omega | contradiction)))))
  · refine wn_cut ⟨i + 1, by omega⟩ (by show s.length - (i + 1) < s.length - i; omega) (by first | exact Sub.nil _ | (repeat (first | exact Sub.nil _ | refine Sub.cons (by first | rfl | (simp [look]; done)) ?_))) (fun w h => ?_)
    show SB _ _ _ _ (encode (s.take (i + 1))) _
    rw [encode_succ (by omega), enc1, if_pos hc]; exact h
  · refine wn_cut ⟨i + 1, by omega⟩ (by show s.length - (i + 1) < s.length - i; omega) (by first | exact Sub.nil _ | (repeat (first | exact Sub.nil _ | refine Sub.cons (by first | rfl | (simp [look]; done)) ?_))) (fun w h => ?_)
    show SB _ _ _ _ (encode (s.take (i + 1))) _
    rw [encode_succ (by omega), enc1, if_neg (by rw [hc]; exact Bool.false_ne_true)]; exact h
  · refine wr_weak (fun _ h => h.st) (wr_tmp rfl rfl ?_)
    rw [List.take_of_length_le (by omega)]
theorem each_ok (hG : Glob M) (hM : Laid M w) (s : List UInt8) (hs : s.length ≤ 1000000000) (by1 : UInt8 → Bool → List UInt8) (h1 : ∀ c, (by1 c false).length ≤ 1) (h2 : ∀ c, (by1 c true).length ≤ 3) (f : FuncId) (first captured : List Value) (hf : ∀ args w, (callFunc f args).run Tryd.prog w = .ok (.enter f args) w)
    (hby : ∀ c pc w, Laid M w → Calls Tryd.prog f (first ++ [byt c, .bool pc] ++ captured).toArray w (RetE w (str (by1 c pc)))) : Calls Tryd.prog 63 #[str s, .func (.func f) first.toArray captured.toArray] w (RetE w (resP (each by1 s))) := by
  refine calls_st (l := [str s, .func (.func f) first.toArray captured.toArray]) hM Tryd.func63 rfl rfl rfl (E0 := [(0, true, str s), (1, true, .func (.func f) first.toArray captured.toArray)]) (params_cons rfl (params_cons rfl (params_nil _))) ?_
  repeat' (first | (first | refine wc_seq ?_ | refine wc_region ?_ | refine wl_nil ?_ | refine wn_seq ?_ | refine wn_blk ?_ | refine wc_skip ?_ | refine wc_block ?_ | refine wc_exit rfl ?_ | (show WL _ _ (_ :: _) _ _ _ _; first | refine yl_v rfl rfl rfl ?_ | refine wl_v rfl rfl rfl (by first  | (show OpV _ _ _ _ (Oper.mk _ (Op.binOp BinOp.add _ _ _ _) _ _ _ _) _ _; exact ov_sadd rfl rfl (by first | with_reducible exact fun _ => rfl | with_reducible exact fun h => h | exact fun _ => rfl | exact fun h => h | (intro himp; simp_all; done)) (by first | with_reducible exact fun _ => rfl | with_reducible exact fun h => h | exact fun _ => rfl | exact fun h => h | (intro himp; simp_all; done)) (by intro hcg; first | omega | (simp only [List.length_append, List.length_take, List.length_drop, List.length_cons, List.length_nil, pctOf_length]; omega)))) ?_ | refine xl_alloc (fun _ => ?_)) | refine wc_ret rfl ?_) | (show WC _ (Code.cond _ _ _) _ _ _ _; (refine wc_cond rfl (fun hc => ?_) (fun hc => ?_) <;> (try (simp only [decide_eq_true_eq, decide_eq_false_iff_not, Bool.and_eq_true, Bool.or_eq_true, Bool.and_eq_false_iff, Bool.or_eq_false_iff, Bool.not_eq_true', Bool.not_eq_false', Int.not_lt, Int.not_le] at hc)) <;> (try (exfalso; first | omega | contradiction)))))
  rename_i b
  refine wc_loop (α := { x : Nat × List UInt8 // EachAt by1 s x.1 x.2 }) (fun x => [(0, true, str s), (1, true, .func (.func f) first.toArray captured.toArray), (6, true, .pointer (some ⟨b, 0, none⟩)), (7, true, i64 (x.1.1 : Int))]) (fun x => SB w [] M b x.1.2) (fun x => s.length - x.1.1) ⟨(0, []), eachAt_start _ _⟩ (by first | exact Sub.nil _ | (repeat (first | exact Sub.nil _ | refine Sub.cons (by first | rfl | (simp [look]; done)) ?_))) (fun _ h => SB.start (hw := laid_lt hM) h (by simp)) ?_
  rintro ⟨⟨i, out⟩, hx⟩
  dsimp only at hx ⊢
  have hi := hx.1
  have ho := hx.2.2
  have hb := toldI_bound s i
  have g1 := h1 (s.getD i 0)
  have g2 := h2 (toldB s i)
  repeat' (first | (first | (show WL _ _ (Oper.mk _ (Op.call ⟨.value (.func 72), _, _⟩) _ _ _ _ :: _) _ _ _ _; refine wl_callC rfl Tryd.call72 rfl rfl rfl rfl (fun w hw => bwString hw _ (by first | omega | (simp only [List.length_append, List.length_take, List.length_drop, List.length_cons, List.length_nil, pctOf_length]; omega)) (by first | omega | (simp only [List.length_append, List.length_take, List.length_drop, List.length_cons, List.length_nil, pctOf_length]; omega))) ?_) | (show WL _ _ (Oper.mk _ (Op.call ⟨.value (.func 73), _, _⟩) _ _ _ _ :: _) _ _ _ _; refine wl_callC rfl Tryd.call73 rfl rfl rfl rfl (fun w hw => bsString hw) ?_) | (show WL _ _ (Oper.mk _ (Op.call ⟨.value (.func 71), _, _⟩) _ _ _ _ :: _) _ _ _ _; refine wl_callC rfl Tryd.call71 rfl rfl rfl rfl (fun w hw => bwByte hw _ (by first | omega | (simp only [List.length_append, List.length_take, List.length_drop, List.length_cons, List.length_nil, pctOf_length]; omega))) ?_)) | (first | refine wc_seq ?_ | refine wc_region ?_ | refine wl_nil ?_ | refine wn_seq ?_ | refine wn_blk ?_ | refine wc_skip ?_ | refine wc_block ?_ | refine wc_exit rfl ?_ | (show WL _ _ (_ :: _) _ _ _ _; first | refine yl_v rfl rfl rfl ?_ | refine wl_v rfl rfl rfl (by first | ((show OpV _ _ _ _ (Oper.mk _ (Op.call ⟨.value (.func 81), _, _⟩) _ _ _ _) _ _; exact ov_call Tryd.call81 rfl (by intro himp; first | rfl | (simp_all; done)) (by rfl) (fun _ _ h k => h.ext k) (fun hcg w hw => told_ok hG hw.st.laid _ _ hs (by omega)))) | (show OpV _ _ _ _ (Oper.mk _ (Op.call ⟨.value (.tmp _), _, _⟩) _ _ _ _) _ _; exact ov_callV (first := first) (captured := captured) rfl hf rfl (by intro himp; first | rfl | (simp_all; done)) (by rfl) (fun _ _ h k => h.ext k) (fun hcg w hw => hby _ _ w hw.st.laid)) | (show OpV _ _ _ _ (Oper.mk _ (Op.binOp BinOp.add _ _ _ _) _ _ _ _) _ _; exact ov_sadd rfl rfl (by first | with_reducible exact fun _ => rfl | with_reducible exact fun h => h | exact fun _ => rfl | exact fun h => h | (intro himp; simp_all; done)) (by first | with_reducible exact fun _ => rfl | with_reducible exact fun h => h | exact fun _ => rfl | exact fun h => h | (intro himp; simp_all; done)) (by intro hcg; first | omega | (simp only [List.length_append, List.length_take, List.length_drop, List.length_cons, List.length_nil, pctOf_length]; omega)))) ?_ | refine xl_alloc (fun _ => ?_)) | refine wc_ret rfl ?_) | (show WC _ (Code.cond _ _ _) _ _ _ _; (refine wc_cond rfl (fun hc => ?_) (fun hc => ?_) <;> (try (simp only [decide_eq_true_eq, decide_eq_false_iff_not, Bool.and_eq_true, Bool.or_eq_true, Bool.and_eq_false_iff, Bool.or_eq_false_iff, Bool.not_eq_true', Bool.not_eq_false', Int.not_lt, Int.not_le] at hc)) <;> (try (exfalso; first | omega | contradiction)))))
  · have h3 := eachAt_plain hx (by omega) (fun h => absurd (c37.2 h) ‹_›) (h1 _)
    refine wn_cut ⟨(i + 1, _), h3⟩ (by show s.length - (i + 1) < s.length - i; omega) (by first | exact Sub.nil _ | (repeat (first | exact Sub.nil _ | refine Sub.cons (by first | rfl | (simp [look]; done)) ?_))) (fun _ h => h)
  · refine wr_weak (fun _ h => h.st) (wr_tmp2 rfl rfl rfl ?_ ?_) <;> rw [eachAt_bad hx (by omega) (c37.1 ‹_›) hc] <;> rfl
  · have h3 := eachAt_told hx (by omega) (c37.1 ‹_›) hc h2
    rw [← toldB_pos hc] at h3
    refine wn_cut ⟨(i + 3, _), h3⟩ (by show s.length - (i + 3) < s.length - i; omega) (by first | exact Sub.nil _ | (repeat (first | exact Sub.nil _ | refine Sub.cons (by first | rfl | (simp [look]; done)) ?_))) (fun _ h => h)
  · refine wr_weak (fun _ h => h.st) (wr_tmp2 rfl rfl rfl ?_ ?_) <;> rw [eachAt_end hx (by omega)] <;> rfl
end Go.Proofs.YtmmoglgagifdfaaDoor
/-
  The contracts of package pct's Decode and Normal.
-/
namespace Go.Proofs.YtmmoglgagifdfaaDoor
open Go.Eng Go.Pct
set_option maxRecDepth 10000
set_option linter.unusedSimpArgs false
set_option linter.unusedVariables false

variable {M : Ghost} {w : World}

theorem decode_ok (hG : Glob M) (hM : Laid M w) (s : List UInt8) (plus : Bool) (hs : s.length ≤ 1000000000) : Calls Tryd.prog 75 #[str s, .bool plus] w (RetE w (resP (Pct.decode plus s))) := by
  refine calls_st (l := [str s, .bool plus]) hM Tryd.func75 rfl rfl rfl (E0 := [(0, true, str s), (1, true, .bool plus)]) (params_cons rfl (params_cons rfl (params_nil _))) ?_
  repeat' (first | refine wc_seq ?_ | refine wc_region ?_ | refine wl_nil ?_ | refine wn_seq ?_ | refine wn_blk ?_ | refine wc_skip ?_ | refine wc_block ?_ | refine wc_exit rfl ?_ | (show WL _ _ (_ :: _) _ _ _ _; first | refine yl_v rfl rfl rfl ?_ | refine wl_v rfl rfl rfl (by first  | (show OpV _ _ _ _ (Oper.mk _ (Op.binOp BinOp.add _ _ _ _) _ _ _ _) _ _; exact ov_sadd rfl rfl (by first | with_reducible exact fun _ => rfl | with_reducible exact fun h => h | exact fun _ => rfl | exact fun h => h | (intro himp; simp_all; done)) (by first | with_reducible exact fun _ => rfl | with_reducible exact fun h => h | exact fun _ => rfl | exact fun h => h | (intro himp; simp_all; done)) (by intro hcg; first | omega | (simp only [List.length_append, List.length_take, List.length_drop, List.length_cons, List.length_nil, pctOf_length]; omega)))) ?_ | refine xl_box rfl (fun _ => ?_)) | refine wc_ret rfl ?_)
  rename_i b
  refine wl_weak (Eng.Sub.refl _) (fun _ h => St.publish (H1 := [(b, _)]) (H2 := []) h) ?_
  have hG' := hG.mono (M' := With M [(b, .cells [.bool plus].toArray 4 (0, 0))]) (fun _ _ => .inl)
  repeat' (first | refine wc_seq ?_ | refine wc_region ?_ | refine wl_nil ?_ | refine wn_seq ?_ | refine wn_blk ?_ | refine wc_skip ?_ | refine wc_block ?_ | refine wc_exit rfl ?_ | (show WL _ _ (_ :: _) _ _ _ _; first | refine yl_v rfl rfl rfl ?_ | refine wl_v rfl rfl rfl (by first | ((show OpV _ _ _ _ (Oper.mk _ (Op.call ⟨.value (.func 63), _, _⟩) _ _ _ _) _ _; exact ov_call Tryd.call63 rfl (by intro himp; first | rfl | (simp_all; done)) (by rfl) (fun _ _ h k => h.ext k) (fun hcg w hw => each_ok hG' hw.laid s hs (byDec plus) (fun c => byDec_length plus c _) (fun c => by have := byDec_length plus c true; omega) 92 [] [.pointer (some ⟨b, 0, none⟩)] Tryd.call92 (fun c pc w hL => decFn_ok hL plus (.inr (List.Mem.head _)) c pc)))) | (show OpV _ _ _ _ (Oper.mk _ (Op.binOp BinOp.add _ _ _ _) _ _ _ _) _ _; exact ov_sadd rfl rfl (by first | with_reducible exact fun _ => rfl | with_reducible exact fun h => h | exact fun _ => rfl | exact fun h => h | (intro himp; simp_all; done)) (by first | with_reducible exact fun _ => rfl | with_reducible exact fun h => h | exact fun _ => rfl | exact fun h => h | (intro himp; simp_all; done)) (by intro hcg; first | omega | (simp only [List.length_append, List.length_take, List.length_drop, List.length_cons, List.length_nil, pctOf_length]; omega)))) ?_ | refine xl_box rfl (fun _ => ?_)) | refine wc_ret rfl ?_)
  exact wr_tmp2 rfl rfl rfl rfl rfl
theorem normal_ok (hG : Glob M) (hM : Laid M w) (s : List UInt8) (hs : s.length ≤ 1000000000) : Calls Tryd.prog 48 #[str s] w (RetE w (resP (Pct.normal s))) := by
  refine calls_st (l := [str s]) hM Tryd.func48 rfl rfl rfl (E0 := [(0, true, str s)]) (params_cons rfl (params_nil _)) ?_
  repeat' (first | refine wc_seq ?_ | refine wc_region ?_ | refine wl_nil ?_ | refine wn_seq ?_ | refine wn_blk ?_ | refine wc_skip ?_ | refine wc_block ?_ | refine wc_exit rfl ?_ | (show WL _ _ (_ :: _) _ _ _ _; first | refine yl_v rfl rfl rfl ?_ | refine wl_v rfl rfl rfl (by first | ((show OpV _ _ _ _ (Oper.mk _ (Op.call ⟨.value (.func 63), _, _⟩) _ _ _ _) _ _; exact ov_call Tryd.call63 rfl (by intro himp; first | rfl | (simp_all; done)) (by rfl) (fun _ _ h k => h.ext k) (fun hcg w hw => each_ok hG hw.laid s hs byNorm (fun c => by unfold byNorm; simp) (fun c => byNorm_length c true) 64 [] [] Tryd.call64 (fun c pc w hL => normFn_ok hG hL c pc)))) | (show OpV _ _ _ _ (Oper.mk _ (Op.binOp BinOp.add _ _ _ _) _ _ _ _) _ _; exact ov_sadd rfl rfl (by first | with_reducible exact fun _ => rfl | with_reducible exact fun h => h | exact fun _ => rfl | exact fun h => h | (intro himp; simp_all; done)) (by first | with_reducible exact fun _ => rfl | with_reducible exact fun h => h | exact fun _ => rfl | exact fun h => h | (intro himp; simp_all; done)) (by intro hcg; first | omega | (simp only [List.length_append, List.length_take, List.length_drop, List.length_cons, List.length_nil, pctOf_length]; omega)))) ?_) | refine wc_ret rfl ?_)
  exact wr_tmp2 rfl rfl rfl rfl rfl
end Go.Proofs.YtmmoglgagifdfaaDoor
/-
  The library's Cut, Split, SplitN and Atoi as the walks use them.
-/
namespace Go.Proofs.YtmmoglgagifdfaaDoor
open Go.Eng Go.Pct Go.Txt
set_option maxRecDepth 10000
set_option linter.unusedVariables false

variable {M : Ghost} {w : World}
/-- what Cut yields -/
def cutV (sep s : List UInt8) : Value := match cutS sep s with
  | some p => .tuple #[str p.1, str p.2, .bool true]
  | none => .tuple #[str s, str [], .bool false]
theorem cutM_ok (hG : Glob M) (hM : Laid M w) (s sep : List UInt8) (h0 : sep ≠ []) (hs : s.length ≤ 1000000000) : Calls Tryd.prog 25 #[str s, str sep] w (RetE w (cutV sep s)) := by
  obtain ⟨m, hm⟩ := maxLen_at hG hM
  refine (Tryd.strings_Cut ⟨s.toArray⟩ ⟨sep.toArray⟩ m w (by rw [baSize]; omega) hm).mono ?_
  rintro e w' ⟨rfl, n, rfl⟩
  refine ⟨?_, Ext.drew w n⟩
  have e1 : (⟨s.toArray⟩ : ByteArray).data.toList = s := rfl
  have e2 : (⟨sep.toArray⟩ : ByteArray).data.toList = sep := rfl
  rw [e1, e2, lib_cut h0]
  unfold cutV
  cases cutS sep s <;> rfl
theorem cut_yes (hG : Glob M) (hM : Laid M w) {s sep a b : List UInt8} (h0 : sep ≠ []) (hs : s.length ≤ 1000000000) (h : cutS sep s = some (a, b)) : Calls Tryd.prog 25 #[str s, str sep] w (RetE w (.tuple #[str a, str b, .bool true])) := by
  have := cutM_ok hG hM s sep h0 hs
  unfold cutV at this
  rw [h] at this; exact this
theorem cut_no (hG : Glob M) (hM : Laid M w) {s sep : List UInt8} (h0 : sep ≠ []) (hs : s.length ≤ 1000000000) (h : cutS sep s = none) : Calls Tryd.prog 25 #[str s, str sep] w (RetE w (.tuple #[str s, str [], .bool false])) := by
  have := cutM_ok hG hM s sep h0 hs
  unfold cutV at this
  rw [h] at this; exact this
theorem mapStr (l : List ByteArray) : l.map Value.string = (l.map (·.data.toList)).map str := by
  rw [List.map_map]
  apply List.map_congr_left
  intro x _
  exact congrArg Value.string (strMk x).symm
/-- a fresh row of texts -/
theorem slS_fresh {l : List (List UInt8)} {cs : Array Value} {b cap : Nat} {T : TypeId} (hcs : ∀ i, i < l.length → cs[i]? = some (str (l.getD i default))) (hcap : l.length ≤ cap) (hl : l.length ≤ 9223372036854775807) (hM : M b (.cells cs T (0, 0))) : SlS M (.slice (some ⟨b, 0, none⟩) l.length cap) l :=
  ⟨_, _, rfl, hcap, hl, fun _ => ⟨b, 0, cs, T, (0, 0), rfl, hM, fun i hi => ⟨[str (l[i])], rfl, rfl, fun j hj => by
    obtain rfl : j = 0 := by omega
    have := hcs i hi
    simp [hi] at this
    simpa using this⟩⟩⟩
theorem retS_fresh {l : List (List UInt8)} {cs : Array Value} {cap : Nat} {T : TypeId} (hM : Laid M w) (hcs : ∀ i, i < l.length → cs[i]? = some (str (l.getD i default))) (hcap : l.length ≤ cap) (hl : l.length ≤ 9223372036854775807) :
    RetS M w (fun M' H v => H = [] ∧ SlS M' v l) (.returned (.slice (some ⟨w.heap.size, 0, none⟩) l.length cap)) (w.alloc (.cells cs T)) := by
  have hst := (St.start hM).alloc (.cells cs T (0, 0))
  refine ⟨_, [], With M [(w.heap.size, _)], rfl, fun _ _ => .inl, fun b o h => h.imp id (fun h => ?_), St.publish (H1 := [(w.heap.size, _)]) (H2 := []) hst, rfl, slS_fresh hcs hcap hl (.inr (List.Mem.head _))⟩
  simp only [List.mem_singleton, Prod.mk.injEq] at h; omega
theorem splitB_list (sep s : List UInt8) (k : Nat) : (Lib.splitB ⟨sep.toArray⟩ 0 k ⟨s.toArray⟩).map (·.data.toList) = Lib.splitK sep 0 k s := Lib.splitB_data _ 0 k _
theorem split_len_le {sep : List UInt8} (h0 : sep ≠ []) : ∀ (n : Nat) (s : List UInt8), s.length ≤ n → (Lib.split s sep).length ≤ s.length + 1
  | 0, s, h => by
    have : s = [] := List.eq_nil_of_length_eq_zero (by omega)
    subst this
    rw [split_none h0 rfl]; simp
  | n + 1, s, h => by
    cases hc : cutS sep s with
    | none => rw [split_none h0 hc]; simp
    | some p =>
      have hl := cutS_length (a := p.1) (b := p.2) hc
      have hp := List.length_pos_iff.2 h0
      have := split_len_le h0 n p.2 (by omega)
      rw [split_some (a := p.1) (b := p.2) h0 hc]
      simp; omega
theorem splitM_ok (hG : Glob M) (hM : Laid M w) (s sep : List UInt8) (h0 : sep ≠ []) (hs : s.length ≤ 1000000000) : Calls Tryd.prog 35 #[str s, str sep] w (RetS M w (fun M' H v => H = [] ∧ SlS M' v (Lib.split s sep))) := by
  obtain ⟨m, hm⟩ := maxLen_at hG hM
  have hpos := List.length_pos_iff.2 h0
  refine (Tryd.strings_Split ⟨s.toArray⟩ ⟨sep.toArray⟩ m w (by rw [baSize]; omega) hm (by rw [baSize]; omega)).mono ?_
  rintro e w' ⟨rfl, rfl⟩
  have hl := Lib.splitB_all ⟨sep.toArray⟩ (by rw [baSize]; omega) 0 _ ⟨s.toArray⟩ rfl
  have hmap := splitB_list sep s (Lib.countB ⟨s.toArray⟩ ⟨sep.toArray⟩)
  have hk : Lib.splitK sep 0 (Lib.countB ⟨s.toArray⟩ ⟨sep.toArray⟩) s = Lib.split s sep := rfl
  have hlen : (Lib.split s sep).length = Lib.countB ⟨s.toArray⟩ ⟨sep.toArray⟩ + 1 := by rw [← hk, ← hmap, List.length_map, hl]
  have hle := split_len_le h0 s.length s (Nat.le_refl _)
  rw [mapStr, hmap, hk, ← hlen]
  exact retS_fresh hM (fun i hi => by simp [hi]) (Nat.le_refl _) (by omega)
theorem split_ne {sep : List UInt8} (h0 : sep ≠ []) (s : List UInt8) : 0 < (Lib.split s sep).length := by
  cases hc : cutS sep s with
  | none => rw [split_none h0 hc]; simp
  | some p => rw [split_some (a := p.1) (b := p.2) h0 hc]; simp
theorem splitK_mem {sep : List UInt8} (h0 : sep ≠ []) : ∀ (k : Nat) (s x : List UInt8), x ∈ Lib.splitK sep 0 k s → x.length ≤ s.length
  | 0, s, x, h => by rw [splitK_zero, List.mem_singleton] at h; subst h; omega
  | k + 1, s, x, h => by
    cases hc : cutS sep s with
    | none => rw [splitK_none h0 hc, List.mem_singleton] at h; subst h; omega
    | some p =>
      have hl := cutS_length (a := p.1) (b := p.2) hc
      rw [splitK_some (a := p.1) (b := p.2) h0 hc] at h
      rcases List.mem_cons.1 h with rfl | h
      · omega
      · have := splitK_mem h0 k p.2 x h; omega
theorem split_mem {sep : List UInt8} (h0 : sep ≠ []) {s x : List UInt8} (h : x ∈ Lib.split s sep) : x.length ≤ s.length := splitK_mem h0 _ s x h
theorem getD_mem {α : Type} [Inhabited α] {l : List α} {i : Nat} (h : i < l.length) : l.getD i default ∈ l := by
  have : l.getD i default = l[i] := by simp [h]
  rw [this]; exact List.getElem_mem _
end Go.Proofs.YtmmoglgagifdfaaDoor
/-
  What the library's Split, Cut and Join do, and the contract of package matricularef01's Cut.
-/
namespace Go.Proofs.YtmmoglgagifdfaaDoor
open Go.Eng Go.Pct Go.Txt
set_option maxRecDepth 10000
set_option linter.unusedSimpArgs false
set_option linter.unusedVariables false

variable {M : Ghost} {w : World}

theorem split_ok (hG : Glob M) (hM : Laid M w) (s : List UInt8) (c : UInt8) (hs : s.length ≤ 1000000000) : Calls Tryd.prog 35 #[str s, str [c]] w (RetS M w (fun M' H v => H = [] ∧ SlS M' v (pieces c s))) := by
  obtain ⟨m, hm⟩ := maxLen_at hG hM
  refine (Tryd.strings_Split ⟨s.toArray⟩ ⟨#[c]⟩ m w (by rw [baSize]; omega) hm (Nat.le_refl 1)).mono ?_
  rintro e w' ⟨rfl, rfl⟩
  rw [split_cells, split_count]
  have hst := (St.start hM).alloc (.cells ((pieces c s).map fun p => Value.string ⟨p.toArray⟩).toArray 9 (0, 0))
  refine ⟨_, [], With M [(w.heap.size, _)], rfl, fun _ _ => .inl, fun b o h => h.imp id (fun h => ?_), St.publish (H1 := [(w.heap.size, _)]) (H2 := []) hst, rfl, ?_⟩
  · simp only [List.mem_singleton, Prod.mk.injEq] at h; omega
  · refine ⟨_, _, rfl, Nat.le_refl _, by have := pieces_length c s; omega, fun _ => ⟨_, 0, _, _, _, rfl, .inr (List.Mem.head _), fun i hi => ⟨[str ((pieces c s)[i])], rfl, rfl, fun j hj => ?_⟩⟩⟩
    obtain rfl : j = 0 := by omega
    simp [hi]
theorem cut_ok (hG : Glob M) (hM : Laid M w) (s : List UInt8) (c : UInt8) (hs : s.length ≤ 1000000000) : Calls Tryd.prog 25 #[str s, str [c]] w (RetE w (.tuple #[str (s.take (idx c s)), str (s.drop (idx c s + 1)), .bool (decide (idx c s < s.length))])) := by
  obtain ⟨m, hm⟩ := maxLen_at hG hM
  refine (Tryd.strings_Cut ⟨s.toArray⟩ ⟨#[c]⟩ m w (by rw [baSize]; omega) hm).mono ?_
  rintro e w' ⟨rfl, n, rfl⟩
  refine ⟨?_, Ext.drew w n⟩
  have h := cut_idx s c
  have e1 : (⟨s.toArray⟩ : ByteArray).data.toList = s := rfl
  have e2 : (⟨#[c]⟩ : ByteArray).data.toList = [c] := rfl
  rw [e1, e2, h]
theorem join_ok (hM : Laid M w) {v : Value} {l : List (List UInt8)} (hl : SlS M v l) (sep : List UInt8) (hn : l.length ≤ 140737488355328) (hlen : (Lib.join l sep).length ≤ 100000000000000) : Calls Tryd.prog 53 #[v, str sep] w (RetE w (str (Lib.join l sep))) := by
  obtain ⟨a, cap, b, o, cs, T, fz, rfl, h1, h2, h3, h4⟩ := hl.open
  cases l with
  | nil =>
    refine (Tryd.strings_Join_none a cap ⟨sep.toArray⟩ w).mono ?_
    rintro e w' ⟨rfl, rfl⟩
    exact ⟨rfl, Keep.refl _ _⟩
  | cons x r =>
    obtain ⟨rfl, h5⟩ := h3 (by simp)
    have e1 : (((x :: r).map fun p => (⟨p.toArray⟩ : ByteArray)).map (·.data.toList)) = x :: r := by simp [List.map_map, Function.comp_def]
    have hj := Tryd.strings_Join b o cap ((x :: r).map fun p => ⟨p.toArray⟩) ⟨sep.toArray⟩ w (fun j y hy => by
      rw [List.getElem?_map] at hy
      obtain ⟨p, hp, rfl⟩ := Option.map_eq_some_iff.1 hy
      obtain ⟨hj, rfl⟩ := List.getElem?_eq_some_iff.1 hp
      rw [cell_of (hM _ _ h5)]
      have := h4 j hj
      rw [Nat.mul_one] at this
      rw [this, List.getD_eq_getElem?_getD, List.getElem?_eq_getElem hj]; rfl) (lt_of_get (hM _ _ h5)) (by simpa using hn) (by simpa using h1) (by rw [e1]; exact Nat.le_trans hlen (by decide))
    rw [e1, List.length_map] at hj
    refine hj.mono ?_
    rintro e w' ⟨rfl, hb⟩
    exact ⟨rfl, Ext.of_below hb⟩
end Go.Proofs.YtmmoglgagifdfaaDoor
/-
  The contracts of package pct's pair and Form.
-/
namespace Go.Proofs.YtmmoglgagifdfaaDoor
open Go.Eng Go.Pct Go.Txt
set_option maxRecDepth 10000
set_option linter.unusedSimpArgs false
set_option linter.unusedVariables false

variable {M : Ghost} {w : World}
abbrev tPr : TypeId := 44
abbrev tSt : TypeId := 9

/-- what comes back of a piece -/
def nmOf (x : List UInt8) : Option (List UInt8) := Pct.decode true (x.take (idx 61 x))
def vlOf (x : List UInt8) : Option (List UInt8) := Pct.decode true (x.drop (idx 61 x + 1))
def pairA (x : List UInt8) : Pr := if (nmOf x).isSome then ((nmOf x).getD [], (vlOf x).getD []) else ([], [])
abbrev pairV (x : List UInt8) : Value := .agg #[str (pairA x).1, str (pairA x).2]
def pairN (x : List UInt8) : Int := if (nmOf x).isSome then (if (vlOf x).isSome then 0 else 11) else 11
theorem pair_some {x : List UInt8} {p : Pr} (h : pairOf x = some p) : pairA x = p ∧ pairN x = 0 := by
  unfold pairOf at h
  unfold pairA pairN nmOf vlOf
  split at h
  · rename_i n v e1 e2; cases h; simp [e1, e2]
  · cases h
theorem pair_none {x : List UInt8} (h : pairOf x = none) : pairN x = 11 := by
  unfold pairOf at h
  unfold pairN nmOf vlOf
  cases h1 : Pct.decode true (x.take (idx 61 x)) with
  | none => simp
  | some n =>
    cases h2 : Pct.decode true (x.drop (idx 61 x + 1)) with
    | none => simp
    | some v => rw [h1, h2] at h; cases h

theorem pair_ok (hG : Glob M) (hM : Laid M w) (x : List UInt8) (hs : x.length ≤ 1000000000) : Calls Tryd.prog 56 #[str x] w (RetE w (.tuple #[pairV x, i64 (pairN x)])) := by
  refine calls_st (l := [str x]) hM Tryd.func56 rfl rfl rfl (E0 := [(0, true, str x)]) (params_cons rfl (params_nil _)) ?_
  repeat' (first | (first | refine wc_seq ?_ | refine wc_region ?_ | refine wl_nil ?_ | refine wn_seq ?_ | refine wn_blk ?_ | refine wc_skip ?_ | refine wc_block ?_ | refine wc_exit rfl ?_ | (show WL _ _ (_ :: _) _ _ _ _; first | refine yl_v rfl rfl rfl ?_ | refine wl_v rfl rfl rfl (by first | ((show OpV _ _ _ _ (Oper.mk _ (Op.call ⟨.value (.func 25), _, _⟩) _ _ _ _) _ _; exact ov_call Tryd.call25 rfl (by intro himp; first | rfl | (simp_all; done)) (by rfl) (fun _ _ h k => h.ext k) (fun hcg w hw => cut_ok hG hw.laid x 61 hs))) | ((show OpV _ _ _ _ (Oper.mk _ (Op.call ⟨.value (.func 75), _, _⟩) _ _ _ _) _ _; exact ov_call Tryd.call75 rfl (by intro himp; first | rfl | (simp_all; done)) (by rfl) (fun _ _ h k => h.ext k) (fun hcg w hw => decode_ok hG hw.laid _ true (by simp only [List.length_take, List.length_drop]; omega)))) | (show OpV _ _ _ _ (Oper.mk _ (Op.binOp BinOp.add _ _ _ _) _ _ _ _) _ _; exact ov_sadd rfl rfl (by first | with_reducible exact fun _ => rfl | with_reducible exact fun h => h | exact fun _ => rfl | exact fun h => h | (intro himp; simp_all; done)) (by first | with_reducible exact fun _ => rfl | with_reducible exact fun h => h | exact fun _ => rfl | exact fun h => h | (intro himp; simp_all; done)) (by intro hcg; first | omega | (simp only [List.length_append, List.length_take, List.length_drop, List.length_cons, List.length_nil, pctOf_length]; omega)))) ?_ | refine xl_alloc (fun _ => ?_) | refine xl_store rfl rfl ?_) | refine wc_ret rfl ?_) | (show WC _ (Code.cond _ _ _) _ _ _ _; (refine wc_cond rfl (fun hc => ?_) (fun hc => ?_) <;> (try (simp only [decide_eq_true_eq, decide_eq_false_iff_not, Bool.and_eq_true, Bool.or_eq_true, Bool.and_eq_false_iff, Bool.or_eq_false_iff, Bool.not_eq_true', Bool.not_eq_false', Int.not_lt, Int.not_le] at hc)) <;> (try (exfalso; first | omega | contradiction)))))
  · have hn : ¬ (nmOf x).isSome = true := by intro h; unfold nmOf at h; rw [if_pos h] at hc; exact hc rfl
    refine wr_cellS rfl rfl rfl rfl (by first | exact List.Mem.head _ | exact List.Mem.tail _ (List.Mem.head _) | exact List.Mem.tail _ (List.Mem.tail _ (List.Mem.head _)) | exact List.Mem.tail _ (List.Mem.tail _ (List.Mem.tail _ (List.Mem.head _))) | exact List.Mem.tail _ (List.Mem.tail _ (List.Mem.tail _ (List.Mem.tail _ (List.Mem.head _)))) | exact List.mem_append_right _ (List.Mem.head _) | exact List.mem_append_right _ (List.Mem.tail _ (List.Mem.head _)) | exact List.mem_append_right _ (List.Mem.tail _ (List.Mem.tail _ (List.Mem.head _))) | exact List.mem_append_right _ (List.Mem.tail _ (List.Mem.tail _ (List.Mem.tail _ (List.Mem.head _)))) | exact List.Mem.tail _ (List.mem_append_right _ (List.Mem.head _)) | exact List.Mem.tail _ (List.mem_append_right _ (List.Mem.tail _ (List.Mem.head _))) | exact List.Mem.tail _ (List.mem_append_right _ (List.Mem.tail _ (List.Mem.tail _ (List.Mem.head _)))) | exact List.Mem.tail _ (List.mem_append_right _ (List.Mem.tail _ (List.Mem.tail _ (List.Mem.tail _ (List.Mem.head _))))) | exact List.Mem.tail _ (List.Mem.tail _ (List.mem_append_right _ (List.Mem.head _))) | exact List.Mem.tail _ (List.Mem.tail _ (List.mem_append_right _ (List.Mem.tail _ (List.Mem.head _)))) | exact List.Mem.tail _ (List.Mem.tail _ (List.mem_append_right _ (List.Mem.tail _ (List.Mem.tail _ (List.Mem.head _)))))) (by first | exact (rfl : _ = some 1) | exact (rfl : _ = some 2) | exact (rfl : _ = some 3) | exact (rfl : _ = some 4) | exact (rfl : _ = some 6) | exact rfl) ?_ ?_
    · rw [pairV, pairA, if_neg hn]
    · rw [pairN, if_neg hn]; unfold nmOf at hn; rw [if_neg hn]
  · have hn : (nmOf x).isSome = true := by
      apply Classical.byContradiction; intro h; unfold nmOf at h; rw [if_neg h] at hc; exact absurd hc (by decide)
    refine wr_cellS rfl rfl rfl rfl (by first | exact List.Mem.head _ | exact List.Mem.tail _ (List.Mem.head _) | exact List.Mem.tail _ (List.Mem.tail _ (List.Mem.head _)) | exact List.Mem.tail _ (List.Mem.tail _ (List.Mem.tail _ (List.Mem.head _))) | exact List.Mem.tail _ (List.Mem.tail _ (List.Mem.tail _ (List.Mem.tail _ (List.Mem.head _)))) | exact List.mem_append_right _ (List.Mem.head _) | exact List.mem_append_right _ (List.Mem.tail _ (List.Mem.head _)) | exact List.mem_append_right _ (List.Mem.tail _ (List.Mem.tail _ (List.Mem.head _))) | exact List.mem_append_right _ (List.Mem.tail _ (List.Mem.tail _ (List.Mem.tail _ (List.Mem.head _)))) | exact List.Mem.tail _ (List.mem_append_right _ (List.Mem.head _)) | exact List.Mem.tail _ (List.mem_append_right _ (List.Mem.tail _ (List.Mem.head _))) | exact List.Mem.tail _ (List.mem_append_right _ (List.Mem.tail _ (List.Mem.tail _ (List.Mem.head _)))) | exact List.Mem.tail _ (List.mem_append_right _ (List.Mem.tail _ (List.Mem.tail _ (List.Mem.tail _ (List.Mem.head _))))) | exact List.Mem.tail _ (List.Mem.tail _ (List.mem_append_right _ (List.Mem.head _))) | exact List.Mem.tail _ (List.Mem.tail _ (List.mem_append_right _ (List.Mem.tail _ (List.Mem.head _)))) | exact List.Mem.tail _ (List.Mem.tail _ (List.mem_append_right _ (List.Mem.tail _ (List.Mem.tail _ (List.Mem.head _)))))) (by first | exact (rfl : _ = some 1) | exact (rfl : _ = some 2) | exact (rfl : _ = some 3) | exact (rfl : _ = some 4) | exact (rfl : _ = some 6) | exact rfl) ?_ ?_
    · rw [pairV, pairA, if_pos hn]; rfl
    · rw [pairN, if_pos hn]; rfl
structure FS (l : List (List UInt8)) where
  i : Nat
  out : List Pr
  a : Option Addr
  cap : Nat
  Hs : List (Nat × Obj)
  inv : FormAt l i out
  own : OwnS tPr 2 (.slice a out.length cap) Hs (cellsP out)
theorem pieces_small {c : UInt8} {s : List UInt8} {i : Nat} (h : i < (pieces c s).length) : ((pieces c s).getD i default).length ≤ s.length := by
  have e : (pieces c s).getD i default = (pieces c s)[i] := by simp [h]
  rw [e]; exact pieces_total c s _ (List.getElem_mem h)
theorem str_nil {x : List UInt8} : str x = str [] ↔ x = [] := by
  constructor
  · intro h; injection h with h; injection h with h; simpa using h
  · rintro rfl; rfl

theorem form_own_ok (hG : Glob M) (hM : Laid M w) (s : List UInt8) (hs : s.length ≤ 1000000000) : Calls Tryd.prog 41 #[str s] w (RetS M w (fun M' H v => ∃ sv, v = .tuple #[sv, i64 ((form s).2 : Int)] ∧ OwnS tPr 2 sv H (cellsP (form s).1))) := by
  refine calls_st (l := [str s]) hM Tryd.func41 rfl rfl rfl (E0 := [(0, true, str s)]) (params_cons rfl (params_nil _)) ?_
  repeat' (first | (first | refine wc_seq ?_ | refine wc_region ?_ | refine wl_nil ?_ | refine wn_seq ?_ | refine wn_blk ?_ | refine wc_skip ?_ | refine wc_scope ?_ | refine wc_label ?_ | refine wn_noGoto ?_ | refine wc_block ?_ | refine wc_exit rfl ?_ | (show WL _ _ (_ :: _) _ _ _ _; first | refine yl_v rfl rfl rfl ?_ | refine wl_v rfl rfl rfl (by first  | (show OpV _ _ _ _ (Oper.mk _ (Op.binOp BinOp.add _ _ _ _) _ _ _ _) _ _; exact ov_sadd rfl rfl (by first | with_reducible exact fun _ => rfl | with_reducible exact fun h => h | exact fun _ => rfl | exact fun h => h | (intro himp; simp_all; done)) (by first | with_reducible exact fun _ => rfl | with_reducible exact fun h => h | exact fun _ => rfl | exact fun h => h | (intro himp; simp_all; done)) (by intro hcg; first | omega | (simp only [List.length_append, List.length_take, List.length_drop, List.length_cons, List.length_nil, pctOf_length]; omega)))) ?_ | refine xl_alloc (fun _ => ?_) | refine xl_store rfl rfl ?_ | refine xl_buildSlice rfl (fun _ => ?_)) | refine wc_ret rfl ?_) | (show WC _ (Code.cond _ _ _) _ _ _ _; (refine wc_cond rfl (fun hc => ?_) (fun hc => ?_) <;> (try (simp only [decide_eq_true_eq, decide_eq_false_iff_not, Bool.and_eq_true, Bool.or_eq_true, Bool.and_eq_false_iff, Bool.or_eq_false_iff, Bool.not_eq_true', Bool.not_eq_false', Int.not_lt, Int.not_le] at hc)) <;> (try (exfalso; first | omega | contradiction)))))
  refine wl_callS rfl Tryd.call35 rfl rfl rfl rfl (fun w hw => split_ok hG hw.laid s 38 hs) ?_
  rintro v Hn M' hm hnew ⟨rfl, hv⟩
  obtain ⟨a, cap, b, o, cs, T, fz, rfl, h1, h2, h3, h4⟩ := hv.open
  have hG' := hG.mono hm
  repeat' (first | (first | refine wc_seq ?_ | refine wc_region ?_ | refine wl_nil ?_ | refine wn_seq ?_ | refine wn_blk ?_ | refine wc_skip ?_ | refine wc_scope ?_ | refine wc_label ?_ | refine wn_noGoto ?_ | refine wc_block ?_ | refine wc_exit rfl ?_ | (show WL _ _ (_ :: _) _ _ _ _; first | refine yl_v rfl rfl rfl ?_ | refine wl_v rfl rfl rfl (by first  | (show OpV _ _ _ _ (Oper.mk _ (Op.binOp BinOp.add _ _ _ _) _ _ _ _) _ _; exact ov_sadd rfl rfl (by first | with_reducible exact fun _ => rfl | with_reducible exact fun h => h | exact fun _ => rfl | exact fun h => h | (intro himp; simp_all; done)) (by first | with_reducible exact fun _ => rfl | with_reducible exact fun h => h | exact fun _ => rfl | exact fun h => h | (intro himp; simp_all; done)) (by intro hcg; first | omega | (simp only [List.length_append, List.length_take, List.length_drop, List.length_cons, List.length_nil, pctOf_length]; omega)))) ?_ | refine xl_alloc (fun _ => ?_) | refine xl_store rfl rfl ?_ | refine xl_buildSlice rfl (fun _ => ?_)) | refine wc_ret rfl ?_) | (show WC _ (Code.cond _ _ _) _ _ _ _; (refine wc_cond rfl (fun hc => ?_) (fun hc => ?_) <;> (try (simp only [decide_eq_true_eq, decide_eq_false_iff_not, Bool.and_eq_true, Bool.or_eq_true, Bool.and_eq_false_iff, Bool.or_eq_false_iff, Bool.not_eq_true', Bool.not_eq_false', Int.not_lt, Int.not_le] at hc)) <;> (try (exfalso; first | omega | contradiction)))))
  refine wc_loop (α := FS (pieces 38 s)) (fun x => [(0, true, str s), (4, true, .slice x.a x.out.length x.cap), (5, true, i64 0), (11, true, .slice a (pieces 38 s).length cap), (12, true, i64 ((pieces 38 s).length : Int)), (13, true, i64 (x.i : Int))]) (fun x => St w [] x.Hs M') (fun x => (pieces 38 s).length - x.i) ⟨0, [], none, 0, [], formAt_start _, OwnS.nil⟩ (by first | exact Sub.nil _ | (repeat (first | exact Sub.nil _ | refine Sub.cons (by first | rfl | (simp [look]; done)) ?_))) (fun _ h => h) ?_
  rintro ⟨i, out, a1, cap1, Hs, inv, own⟩
  dsimp only
  have hil := inv.1
  have hol := inv.2.2
  repeat' (first | (first | refine wc_seq ?_ | refine wc_region ?_ | refine wl_nil ?_ | refine wn_seq ?_ | refine wn_blk ?_ | refine wc_skip ?_ | refine wc_scope ?_ | refine wc_label ?_ | refine wn_noGoto ?_ | refine wc_block ?_ | refine wc_exit rfl ?_ | (show WL _ _ (_ :: _) _ _ _ _; first | refine yl_v rfl rfl rfl ?_ | refine wl_v rfl rfl rfl (by first | (show OpV _ _ _ _ (Oper.mk _ (Op.indexAddr _ _ _) _ _ _ _) _ _; exact ov_indexAddr rfl rfl (by (fail_if_success (with_reducible show (987654321 : Int) = _)); repeat' (first | with_reducible exact nc_cast | with_reducible exact nc_lit | apply nc_add | apply nc_div | apply nc_mod | apply nc_mul | refine nc_sub (m := _) (n := _) nc_cast nc_lit (by omega) | refine nc_sub (m := _) (n := _) nc_cast nc_cast (by omega))) (by first | with_reducible exact fun _ => rfl | with_reducible exact fun h => h | exact fun _ => rfl | exact fun h => h | (intro himp; simp_all; done)) (by first | with_reducible exact fun _ => rfl | with_reducible exact fun h => h | exact fun _ => rfl | exact fun h => h | (intro himp; simp_all; done)) rfl (by first | exact (rfl : _ = some 1) | exact (rfl : _ = some 2) | exact (rfl : _ = some 3) | exact (rfl : _ = some 4) | exact (rfl : _ = some 6) | exact rfl) (fun _ => (h3 (by intro h; rw [h] at hc; simp at hc; omega)).1) (by intro hcg; first | omega | (simp at hcg; omega))) | (show OpV _ _ _ _ (Oper.mk _ (Op.load _ _) _ _ _ _) _ _; exact ov_load1M rfl (by first | with_reducible exact fun _ => rfl | with_reducible exact fun h => h | exact fun _ => rfl | exact fun h => h | (intro himp; simp_all; done)) rfl rfl (fun _ => (h3 (by intro h; rw [h] at hc; simp at hc; omega)).2) (fun _ => h4 i (by omega))) | ((show OpV _ _ _ _ (Oper.mk _ (Op.call ⟨.value (.func 56), _, _⟩) _ _ _ _) _ _; exact ov_call Tryd.call56 rfl (by intro himp; first | rfl | (simp_all; done)) (by rfl) (fun _ _ h k => h.ext k) (fun hcg w hw => pair_ok hG' hw.laid _ (by have := pieces_small (c := 38) (s := s) (i := i) (by omega); omega)))) | (show OpV _ _ _ _ (Oper.mk _ (Op.binOp BinOp.add _ _ _ _) _ _ _ _) _ _; exact ov_sadd rfl rfl (by first | with_reducible exact fun _ => rfl | with_reducible exact fun h => h | exact fun _ => rfl | exact fun h => h | (intro himp; simp_all; done)) (by first | with_reducible exact fun _ => rfl | with_reducible exact fun h => h | exact fun _ => rfl | exact fun h => h | (intro himp; simp_all; done)) (by intro hcg; first | omega | (simp only [List.length_append, List.length_take, List.length_drop, List.length_cons, List.length_nil, pctOf_length]; omega)))) ?_ | refine xl_alloc (fun _ => ?_) | refine xl_store rfl rfl ?_ | refine xl_buildSlice rfl (fun _ => ?_)) | refine wc_ret rfl ?_) | (show WC _ (Code.cond _ _ _) _ _ _ _; (refine wc_cond rfl (fun hc => ?_) (fun hc => ?_) <;> (try (simp only [decide_eq_true_eq, decide_eq_false_iff_not, Bool.and_eq_true, Bool.or_eq_true, Bool.and_eq_false_iff, Bool.or_eq_false_iff, Bool.not_eq_true', Bool.not_eq_false', Int.not_lt, Int.not_le] at hc)) <;> (try (exfalso; first | omega | contradiction)))))
  · refine wn_cut ⟨i + 1, out, a1, cap1, Hs, formAt_skip inv (by omega) hc, own⟩ (by show (pieces 38 s).length - (i + 1) < (pieces 38 s).length - i; omega) (by first | exact Sub.nil _ | (repeat (first | exact Sub.nil _ | refine Sub.cons (by first | rfl | (simp [look]; done)) ?_))) (fun _ h => h.drop (by repeat (first | exact List.Sublist.refl _ | apply List.Sublist.cons)))
  · have hf : form s = ([], 5) := formAt_full inv (by omega) ‹_› (by omega)
    refine wr_own2 (Hn := []) rfl rfl rfl ⟨hm, hnew⟩ (List.nil_sublist _) ?_
    rw [hf]; exact ⟨_, rfl, OwnS.nil⟩
  · have hp : pairOf ((pieces 38 s).getD i default) = none := by
      cases h : pairOf ((pieces 38 s).getD i default) with
      | none => rfl
      | some p => exact absurd (pair_some h).2 hc
    have hf : form s = ([], 11) := formAt_bad inv (by omega) ‹_› (by omega) hp
    refine wr_own2 (Hn := []) rfl rfl rfl ⟨hm, hnew⟩ (List.nil_sublist _) ?_
    rw [hf, pair_none hp]; exact ⟨_, rfl, OwnS.nil⟩
  · refine wl_append (H0 := []) rfl own rfl rfl rfl rfl rfl rfl rfl rfl rfl rfl (by first | exact List.Mem.head _ | exact List.Mem.tail _ (List.Mem.head _) | exact List.Mem.tail _ (List.Mem.tail _ (List.Mem.head _)) | exact List.Mem.tail _ (List.Mem.tail _ (List.Mem.tail _ (List.Mem.head _))) | exact List.Mem.tail _ (List.Mem.tail _ (List.Mem.tail _ (List.Mem.tail _ (List.Mem.head _)))) | exact List.mem_append_right _ (List.Mem.head _) | exact List.mem_append_right _ (List.Mem.tail _ (List.Mem.head _)) | exact List.mem_append_right _ (List.Mem.tail _ (List.Mem.tail _ (List.Mem.head _))) | exact List.mem_append_right _ (List.Mem.tail _ (List.Mem.tail _ (List.Mem.tail _ (List.Mem.head _)))) | exact List.Mem.tail _ (List.mem_append_right _ (List.Mem.head _)) | exact List.Mem.tail _ (List.mem_append_right _ (List.Mem.tail _ (List.Mem.head _))) | exact List.Mem.tail _ (List.mem_append_right _ (List.Mem.tail _ (List.Mem.tail _ (List.Mem.head _)))) | exact List.Mem.tail _ (List.mem_append_right _ (List.Mem.tail _ (List.Mem.tail _ (List.Mem.tail _ (List.Mem.head _))))) | exact List.Mem.tail _ (List.Mem.tail _ (List.mem_append_right _ (List.Mem.head _))) | exact List.Mem.tail _ (List.Mem.tail _ (List.mem_append_right _ (List.Mem.tail _ (List.Mem.head _)))) | exact List.Mem.tail _ (List.Mem.tail _ (List.mem_append_right _ (List.Mem.tail _ (List.Mem.tail _ (List.Mem.head _)))))) rfl rfl (by simp only [List.append_nil]; exact (by repeat (first | exact List.Sublist.refl _ | apply List.Sublist.cons))) (by rw [cellsP_length]; omega) rfl ?_
    intro v' Hs' ho'
    have ho2 : OwnS tPr 2 v' Hs' (cellsP (out ++ [pairA ((pieces 38 s).getD i default)])) := by rw [cellsP_snoc]; exact ho'
    obtain ⟨a2, cap2, rfl⟩ := ho2.slice (k := (out ++ [pairA ((pieces 38 s).getD i default)]).length) (by decide) (cellsP_length _)
    repeat' (first | (first | refine wc_seq ?_ | refine wc_region ?_ | refine wl_nil ?_ | refine wn_seq ?_ | refine wn_blk ?_ | refine wc_skip ?_ | refine wc_scope ?_ | refine wc_label ?_ | refine wn_noGoto ?_ | refine wc_block ?_ | refine wc_exit rfl ?_ | (show WL _ _ (_ :: _) _ _ _ _; first | refine yl_v rfl rfl rfl ?_ | refine wl_v rfl rfl rfl (by first  | (show OpV _ _ _ _ (Oper.mk _ (Op.binOp BinOp.add _ _ _ _) _ _ _ _) _ _; exact ov_sadd rfl rfl (by first | with_reducible exact fun _ => rfl | with_reducible exact fun h => h | exact fun _ => rfl | exact fun h => h | (intro himp; simp_all; done)) (by first | with_reducible exact fun _ => rfl | with_reducible exact fun h => h | exact fun _ => rfl | exact fun h => h | (intro himp; simp_all; done)) (by intro hcg; first | omega | (simp only [List.length_append, List.length_take, List.length_drop, List.length_cons, List.length_nil, pctOf_length]; omega)))) ?_ | refine xl_alloc (fun _ => ?_) | refine xl_store rfl rfl ?_ | refine xl_buildSlice rfl (fun _ => ?_)) | refine wc_ret rfl ?_) | (show WC _ (Code.cond _ _ _) _ _ _ _; (refine wc_cond rfl (fun hc => ?_) (fun hc => ?_) <;> (try (simp only [decide_eq_true_eq, decide_eq_false_iff_not, Bool.and_eq_true, Bool.or_eq_true, Bool.and_eq_false_iff, Bool.or_eq_false_iff, Bool.not_eq_true', Bool.not_eq_false', Int.not_lt, Int.not_le] at hc)) <;> (try (exfalso; first | omega | contradiction)))))
    have hp : pairOf ((pieces 38 s).getD i default) = some (pairA ((pieces 38 s).getD i default)) := by
      cases h : pairOf ((pieces 38 s).getD i default) with
      | none => rw [pair_none h] at hc; cases hc
      | some p => rw [(pair_some h).1]
    refine wn_cut ⟨i + 1, _, a2, cap2, Hs', formAt_pair inv (by omega) ‹_› (by omega) hp, ho2⟩ (by show (pieces 38 s).length - (i + 1) < (pieces 38 s).length - i; omega) (by first | exact Sub.nil _ | (repeat (first | exact Sub.nil _ | refine Sub.cons (by first | rfl | (simp [look]; done)) ?_))) (fun _ h => by simpa using h)
  · have hf : form s = (out, 0) := formAt_end inv (by omega)
    refine wr_own2 (Hn := Hs) rfl rfl rfl ⟨hm, hnew⟩ (List.Sublist.refl _) ?_
    rw [hf]
    exact ⟨_, rfl, own⟩
theorem form_ok (hG : Glob M) (hM : Laid M w) (s : List UInt8) (hs : s.length ≤ 1000000000) : Calls Tryd.prog 41 #[str s] w (RetS M w (fun M' H v => H = [] ∧ ∃ sv, v = .tuple #[sv, i64 ((form s).2 : Int)] ∧ SlP M' sv (form s).1)) := (form_own_ok hG hM s hs).mono fun _ _ => RetS.lay fun M' H v h => by
  obtain ⟨sv, rfl, own⟩ := h
  have := form_short s
  exact ⟨rfl, sv, rfl, own.slP (fun p hp => .inr hp) (by omega)⟩
end Go.Proofs.YtmmoglgagifdfaaDoor
/-
  The contracts of package pct's Get and Write, and of package matricularef01's Cut, Get, Write, Pairs and Few.
-/
namespace Go.Proofs.YtmmoglgagifdfaaDoor
open Go.Eng Go.Pct Go.Txt
set_option maxRecDepth 10000
set_option linter.unusedSimpArgs false
set_option linter.unusedVariables false

variable {M : Ghost} {w : World}
/-- ref.Cut -/
structure CS (s : List UInt8) (c : UInt8) where
  out : List (List UInt8)
  f : Nat
  i : Nat
  v : Value
  Hs : List (Nat × Obj)
  hi : f ≤ i ∧ i ≤ s.length ∧ out.length ≤ f
  inv : pieces c s = out ++ pieces c (s.drop f) ∧ c ∉ (s.drop f).take (i - f)
  own : OwnS tSt 1 v Hs (cellsS out)
def CS.start (s : List UInt8) (c : UInt8) : CS s c := ⟨[], 0, 0, .slice none 0 0, [], ⟨Nat.le_refl _, Nat.zero_le _, Nat.le_refl _⟩, ⟨by simp, by simp⟩, OwnS.nil⟩
theorem cut_step {s : List UInt8} {c : UInt8} {f i : Nat} (hf : f ≤ i) (hi : i < s.length) (h : c ∉ (s.drop f).take (i - f)) (hc : s.getD i 0 = c) : pieces c (s.drop f) = (s.drop f).take (i - f) :: pieces c (s.drop (i + 1)) := by
  conv => lhs; rw [← List.take_append_drop (i - f) (s.drop f), List.drop_drop, show f + (i - f) = i from by omega, Txt.drop_getD hi, hc]
  exact pieces_hit h
theorem cut_past {s : List UInt8} {c : UInt8} {f i : Nat} (hf : f ≤ i) (hi : i < s.length) (h : c ∉ (s.drop f).take (i - f)) (hc : s.getD i 0 ≠ c) : c ∉ (s.drop f).take (i + 1 - f) := by
  rw [show i + 1 - f = (i - f) + 1 from by omega, List.take_succ_eq_append_getElem (by simp; omega)]
  simp only [List.mem_append, List.mem_singleton, not_or]
  refine ⟨h, fun e => hc ?_⟩
  rw [e, List.getElem_drop]
  simp [show f + (i - f) = i from by omega, hi]

theorem rcut_ok (hM : Laid M w) (s : List UInt8) (c : UInt8) (hs : s.length ≤ 1000000) : Calls Tryd.prog 36 #[str s, byt c] w (RetS M w (fun M' H v => H = [] ∧ SlS M' v (pieces c s))) := by
  refine calls_st (l := [str s, byt c]) hM Tryd.func36 rfl rfl rfl (E0 := [(0, true, str s), (1, true, byt c)]) (params_cons rfl (params_cons rfl (params_nil _))) ?_
  repeat' (first | (first | refine wc_seq ?_ | refine wc_region ?_ | refine wl_nil ?_ | refine wn_seq ?_ | refine wn_blk ?_ | refine wc_skip ?_ | refine wc_block ?_ | refine wc_exit rfl ?_ | (show WL _ _ (_ :: _) _ _ _ _; first | refine yl_v rfl rfl rfl ?_ | refine wl_v rfl rfl rfl (by first  | (show OpV _ _ _ _ (Oper.mk _ (Op.binOp BinOp.add _ _ _ _) _ _ _ _) _ _; exact ov_sadd rfl rfl (by first | with_reducible exact fun _ => rfl | with_reducible exact fun h => h | exact fun _ => rfl | exact fun h => h | (intro himp; simp_all; done)) (by first | with_reducible exact fun _ => rfl | with_reducible exact fun h => h | exact fun _ => rfl | exact fun h => h | (intro himp; simp_all; done)) (by intro hcg; first | omega | (simp only [List.length_append, List.length_take, List.length_drop, List.length_cons, List.length_nil, pctOf_length]; omega)))) ?_ | refine xl_buildSlice rfl (fun _ => ?_)) | refine wc_ret rfl ?_) | (show WC _ (Code.cond _ _ _) _ _ _ _; (refine wc_cond rfl (fun hc => ?_) (fun hc => ?_) <;> (try (simp only [decide_eq_true_eq, decide_eq_false_iff_not, Bool.and_eq_true, Bool.or_eq_true, Bool.and_eq_false_iff, Bool.or_eq_false_iff, Bool.not_eq_true', Bool.not_eq_false', Int.not_lt, Int.not_le] at hc)) <;> (try (exfalso; first | omega | contradiction)))))
  refine wc_loop (α := CS s c) (fun x => [(0, true, str s), (1, true, byt c), (5, true, x.v), (6, true, i64 (x.f : Int)), (7, true, i64 (x.i : Int))]) (fun x => St w [] x.Hs M) (fun x => s.length - x.i) (CS.start s c) (by first | exact Sub.nil _ | (repeat (first | exact Sub.nil _ | refine Sub.cons (by first | rfl | (simp [look]; done)) ?_))) (fun _ h => h) ?_
  rintro ⟨out, f, i, v, Hs, ⟨hf, hi, ho⟩, ⟨hp, hn⟩, own⟩
  dsimp only
  repeat' (first | (first | refine wc_seq ?_ | refine wc_region ?_ | refine wl_nil ?_ | refine wn_seq ?_ | refine wn_blk ?_ | refine wc_skip ?_ | refine wc_block ?_ | refine wc_exit rfl ?_ | (show WL _ _ (_ :: _) _ _ _ _; first | refine yl_v rfl rfl rfl ?_ | refine wl_v rfl rfl rfl (by first  | (show OpV _ _ _ _ (Oper.mk _ (Op.binOp BinOp.add _ _ _ _) _ _ _ _) _ _; exact ov_sadd rfl rfl (by first | with_reducible exact fun _ => rfl | with_reducible exact fun h => h | exact fun _ => rfl | exact fun h => h | (intro himp; simp_all; done)) (by first | with_reducible exact fun _ => rfl | with_reducible exact fun h => h | exact fun _ => rfl | exact fun h => h | (intro himp; simp_all; done)) (by intro hcg; first | omega | (simp only [List.length_append, List.length_take, List.length_drop, List.length_cons, List.length_nil, pctOf_length]; omega)))) ?_ | refine xl_buildSlice rfl (fun _ => ?_)) | refine wc_ret rfl ?_) | (show WC _ (Code.cond _ _ _) _ _ _ _; (refine wc_cond rfl (fun hc => ?_) (fun hc => ?_) <;> (try (simp only [decide_eq_true_eq, decide_eq_false_iff_not, Bool.and_eq_true, Bool.or_eq_true, Bool.and_eq_false_iff, Bool.or_eq_false_iff, Bool.not_eq_true', Bool.not_eq_false', Int.not_lt, Int.not_le] at hc)) <;> (try (exfalso; first | omega | contradiction)))))
  · have hcc : s.getD i 0 = c := (getD_cast _ _).1 hc
    have hlen : (cellsS out).length = out.length * 1 := cellsS_length out
    refine wl_append (H0 := []) rfl own rfl rfl rfl rfl rfl rfl rfl rfl rfl rfl (by first | exact List.Mem.head _ | exact List.Mem.tail _ (List.Mem.head _) | exact List.Mem.tail _ (List.Mem.tail _ (List.Mem.head _)) | exact List.Mem.tail _ (List.Mem.tail _ (List.Mem.tail _ (List.Mem.head _))) | exact List.Mem.tail _ (List.Mem.tail _ (List.Mem.tail _ (List.Mem.tail _ (List.Mem.head _)))) | exact List.mem_append_right _ (List.Mem.head _) | exact List.mem_append_right _ (List.Mem.tail _ (List.Mem.head _)) | exact List.mem_append_right _ (List.Mem.tail _ (List.Mem.tail _ (List.Mem.head _))) | exact List.mem_append_right _ (List.Mem.tail _ (List.Mem.tail _ (List.Mem.tail _ (List.Mem.head _)))) | exact List.Mem.tail _ (List.mem_append_right _ (List.Mem.head _)) | exact List.Mem.tail _ (List.mem_append_right _ (List.Mem.tail _ (List.Mem.head _))) | exact List.Mem.tail _ (List.mem_append_right _ (List.Mem.tail _ (List.Mem.tail _ (List.Mem.head _)))) | exact List.Mem.tail _ (List.mem_append_right _ (List.Mem.tail _ (List.Mem.tail _ (List.Mem.tail _ (List.Mem.head _))))) | exact List.Mem.tail _ (List.Mem.tail _ (List.mem_append_right _ (List.Mem.head _))) | exact List.Mem.tail _ (List.Mem.tail _ (List.mem_append_right _ (List.Mem.tail _ (List.Mem.head _)))) | exact List.Mem.tail _ (List.Mem.tail _ (List.mem_append_right _ (List.Mem.tail _ (List.Mem.tail _ (List.Mem.head _)))))) rfl rfl (by simp only [List.append_nil]; exact (by repeat (first | exact List.Sublist.refl _ | apply List.Sublist.cons))) (by rw [hlen]; omega) rfl ?_
    intro v' Hs' ho'
    have ho2 : OwnS tSt 1 v' Hs' (cellsS (out ++ [(s.drop f).take (i - f)])) := by rw [cellsS_snoc]; exact ho'
    repeat' (first | (first | refine wc_seq ?_ | refine wc_region ?_ | refine wl_nil ?_ | refine wn_seq ?_ | refine wn_blk ?_ | refine wc_skip ?_ | refine wc_block ?_ | refine wc_exit rfl ?_ | (show WL _ _ (_ :: _) _ _ _ _; first | refine yl_v rfl rfl rfl ?_ | refine wl_v rfl rfl rfl (by first  | (show OpV _ _ _ _ (Oper.mk _ (Op.binOp BinOp.add _ _ _ _) _ _ _ _) _ _; exact ov_sadd rfl rfl (by first | with_reducible exact fun _ => rfl | with_reducible exact fun h => h | exact fun _ => rfl | exact fun h => h | (intro himp; simp_all; done)) (by first | with_reducible exact fun _ => rfl | with_reducible exact fun h => h | exact fun _ => rfl | exact fun h => h | (intro himp; simp_all; done)) (by intro hcg; first | omega | (simp only [List.length_append, List.length_take, List.length_drop, List.length_cons, List.length_nil, pctOf_length]; omega)))) ?_ | refine xl_buildSlice rfl (fun _ => ?_)) | refine wc_ret rfl ?_) | (show WC _ (Code.cond _ _ _) _ _ _ _; (refine wc_cond rfl (fun hc => ?_) (fun hc => ?_) <;> (try (simp only [decide_eq_true_eq, decide_eq_false_iff_not, Bool.and_eq_true, Bool.or_eq_true, Bool.and_eq_false_iff, Bool.or_eq_false_iff, Bool.not_eq_true', Bool.not_eq_false', Int.not_lt, Int.not_le] at hc)) <;> (try (exfalso; first | omega | contradiction)))))
    refine wn_cut ⟨_, i + 1, i + 1, v', Hs', ⟨Nat.le_refl _, by omega, by simp; omega⟩, ⟨?_, by simp⟩, ho2⟩ (by show s.length - (i + 1) < s.length - i; omega) (by first | exact Sub.nil _ | (repeat (first | exact Sub.nil _ | refine Sub.cons (by first | rfl | (simp [look]; done)) ?_))) (fun _ h => by simpa using h)
    rw [hp, cut_step hf (by omega) hn hcc]; simp
  · have hcc : s.getD i 0 ≠ c := fun h => hc ((getD_cast _ _).2 h)
    refine wn_cut ⟨out, f, i + 1, v, Hs, ⟨by omega, by omega, ho⟩, ⟨hp, cut_past hf (by omega) hn hcc⟩, own⟩ (by show s.length - (i + 1) < s.length - i; omega) (by first | exact Sub.nil _ | (repeat (first | exact Sub.nil _ | refine Sub.cons (by first | rfl | (simp [look]; done)) ?_))) (fun _ h => h)
  · have hlen : (cellsS out).length = out.length * 1 := cellsS_length out
    refine wl_append (H0 := []) rfl own rfl rfl rfl rfl rfl rfl rfl rfl rfl rfl (by first | exact List.Mem.head _ | exact List.Mem.tail _ (List.Mem.head _) | exact List.Mem.tail _ (List.Mem.tail _ (List.Mem.head _)) | exact List.Mem.tail _ (List.Mem.tail _ (List.Mem.tail _ (List.Mem.head _))) | exact List.Mem.tail _ (List.Mem.tail _ (List.Mem.tail _ (List.Mem.tail _ (List.Mem.head _)))) | exact List.mem_append_right _ (List.Mem.head _) | exact List.mem_append_right _ (List.Mem.tail _ (List.Mem.head _)) | exact List.mem_append_right _ (List.Mem.tail _ (List.Mem.tail _ (List.Mem.head _))) | exact List.mem_append_right _ (List.Mem.tail _ (List.Mem.tail _ (List.Mem.tail _ (List.Mem.head _)))) | exact List.Mem.tail _ (List.mem_append_right _ (List.Mem.head _)) | exact List.Mem.tail _ (List.mem_append_right _ (List.Mem.tail _ (List.Mem.head _))) | exact List.Mem.tail _ (List.mem_append_right _ (List.Mem.tail _ (List.Mem.tail _ (List.Mem.head _)))) | exact List.Mem.tail _ (List.mem_append_right _ (List.Mem.tail _ (List.Mem.tail _ (List.Mem.tail _ (List.Mem.head _))))) | exact List.Mem.tail _ (List.Mem.tail _ (List.mem_append_right _ (List.Mem.head _))) | exact List.Mem.tail _ (List.Mem.tail _ (List.mem_append_right _ (List.Mem.tail _ (List.Mem.head _)))) | exact List.Mem.tail _ (List.Mem.tail _ (List.mem_append_right _ (List.Mem.tail _ (List.Mem.tail _ (List.Mem.head _)))))) rfl rfl (by simp only [List.append_nil]; exact (by repeat (first | exact List.Sublist.refl _ | apply List.Sublist.cons))) (by rw [hlen]; omega) rfl ?_
    intro v' Hs' ho'
    have ho2 : OwnS tSt 1 v' Hs' (cellsS (out ++ [s.drop f])) := by rw [cellsS_snoc]; exact ho'
    repeat' (first | (first | refine wc_seq ?_ | refine wc_region ?_ | refine wl_nil ?_ | refine wn_seq ?_ | refine wn_blk ?_ | refine wc_skip ?_ | refine wc_block ?_ | refine wc_exit rfl ?_ | (show WL _ _ (_ :: _) _ _ _ _; first | refine yl_v rfl rfl rfl ?_ | refine wl_v rfl rfl rfl (by first  | (show OpV _ _ _ _ (Oper.mk _ (Op.binOp BinOp.add _ _ _ _) _ _ _ _) _ _; exact ov_sadd rfl rfl (by first | with_reducible exact fun _ => rfl | with_reducible exact fun h => h | exact fun _ => rfl | exact fun h => h | (intro himp; simp_all; done)) (by first | with_reducible exact fun _ => rfl | with_reducible exact fun h => h | exact fun _ => rfl | exact fun h => h | (intro himp; simp_all; done)) (by intro hcg; first | omega | (simp only [List.length_append, List.length_take, List.length_drop, List.length_cons, List.length_nil, pctOf_length]; omega)))) ?_ | refine xl_buildSlice rfl (fun _ => ?_)) | refine wc_ret rfl ?_) | (show WC _ (Code.cond _ _ _) _ _ _ _; (refine wc_cond rfl (fun hc => ?_) (fun hc => ?_) <;> (try (simp only [decide_eq_true_eq, decide_eq_false_iff_not, Bool.and_eq_true, Bool.or_eq_true, Bool.and_eq_false_iff, Bool.or_eq_false_iff, Bool.not_eq_true', Bool.not_eq_false', Int.not_lt, Int.not_le] at hc)) <;> (try (exfalso; first | omega | contradiction)))))
    have hpp : pieces c s = out ++ [s.drop f] := by
      rw [hp]
      rw [List.take_of_length_le (by simp; omega)] at hn
      rw [pieces_no hn]
    refine wr_lay (Hn := Hs') rfl rfl Since.refl (by simp) ⟨rfl, ?_⟩
    rw [hpp]
    exact ho2.slS (fun p hp => .inr hp) (by simp; omega)
theorem c61 {c : UInt8} : ((c.toNat : Int) = 61) ↔ c = 61 := u8_eq c 61 (by decide)
theorem zero_some {r : Option (List UInt8)} : ((if r.isSome = true then (0 : Int) else 11) = 0) ↔ r.isSome = true := by cases r <;> simp
theorem pairOf_none {x : List UInt8} {k : Nat} (hk : idx 61 x = k) (h : ¬ (Pct.decode true (x.take k)).isSome = true ∨ ¬ (Pct.decode true (x.drop (k + 1))).isSome = true) : pairOf x = none := by
  subst hk
  unfold pairOf
  cases h1 : Pct.decode true (x.take (idx 61 x)) with
  | none => rfl
  | some n =>
    cases h2 : Pct.decode true (x.drop (idx 61 x + 1)) with
    | none => rfl
    | some v => rw [h1, h2] at h; simp at h
theorem pairOf_some {x : List UInt8} {k : Nat} (hk : idx 61 x = k) (h1 : (Pct.decode true (x.take k)).isSome = true) (h2 : (Pct.decode true (x.drop (k + 1))).isSome = true) : pairOf x = some ((Pct.decode true (x.take k)).getD [], (Pct.decode true (x.drop (k + 1))).getD []) := by
  subst hk
  unfold pairOf
  obtain ⟨n, h1⟩ := Option.isSome_iff_exists.1 h1
  obtain ⟨v, h2⟩ := Option.isSome_iff_exists.1 h2
  rw [h1, h2]; rfl
theorem decode_nil (plus : Bool) : Pct.decode plus [] = some [] := by simp [Pct.decode, Pct.each]
def KS (x : List UInt8) := { k : Nat // k ≤ x.length ∧ ∀ j, j < k → x.getD j 0 ≠ 61 }

end Go.Proofs.YtmmoglgagifdfaaDoor
/-
  The contracts of package pct's Get and of package matricularef01's Get, Pairs and Few.
-/
namespace Go.Proofs.YtmmoglgagifdfaaDoor
open Go.Eng Go.Pct Go.Txt
set_option maxRecDepth 10000
set_option linter.unusedSimpArgs false
set_option linter.unusedVariables false

variable {M : Ghost} {w : World}

end Go.Proofs.YtmmoglgagifdfaaDoor
/-
  The contracts of package pct's Write and of package matricularef01's Write.
-/
namespace Go.Proofs.YtmmoglgagifdfaaDoor
open Go.Eng Go.Pct Go.Txt
set_option maxRecDepth 10000
set_option linter.unusedSimpArgs false
set_option linter.unusedVariables false

variable {M : Ghost} {w : World}

structure WS (l : List Pr) where
  i : Nat
  v : Value
  Hs : List (Nat × Obj)
  hi : i ≤ l.length
  own : OwnS tSt 1 v Hs (cellsS ((l.take i).map w1))
def WS.start (l : List Pr) : WS l := ⟨0, .slice none 0 0, [], Nat.zero_le _, OwnS.nil⟩
theorem write_ok (hG : Glob M) (hM : Laid M w) {v : Value} {l : List Pr} (hv : SlP M v l) (hsm : Small 1000000 l) (hn : l.length ≤ 50) : Calls Tryd.prog 39 #[v] w (RetE w (str (writeP l))) := by
  obtain ⟨a, cap, b, o, cs, T, fz, rfl, h1, h2, h3, h4⟩ := hv.open
  refine calls_st (l := [.slice a l.length cap]) hM Tryd.func39 rfl rfl rfl (E0 := [(0, true, .slice a l.length cap)]) (params_cons rfl (params_nil _)) ?_
  repeat' (first | (first | refine wc_seq ?_ | refine wc_region ?_ | refine wl_nil ?_ | refine wn_seq ?_ | refine wn_blk ?_ | refine wc_skip ?_ | refine wc_block ?_ | refine wc_exit rfl ?_ | (show WL _ _ (_ :: _) _ _ _ _; first | refine yl_v rfl rfl rfl ?_ | refine wl_v rfl rfl rfl (by first  | (show OpV _ _ _ _ (Oper.mk _ (Op.binOp BinOp.add _ _ _ _) _ _ _ _) _ _; exact ov_sadd rfl rfl (by first | with_reducible exact fun _ => rfl | with_reducible exact fun h => h | exact fun _ => rfl | exact fun h => h | (intro himp; simp_all; done)) (by first | with_reducible exact fun _ => rfl | with_reducible exact fun h => h | exact fun _ => rfl | exact fun h => h | (intro himp; simp_all; done)) (by intro hcg; first | omega | (simp only [List.length_append, List.length_take, List.length_drop, List.length_cons, List.length_nil, pctOf_length]; omega)))) ?_ | refine xl_alloc (fun _ => ?_) | refine xl_store rfl rfl ?_ | refine xl_buildSlice rfl (fun _ => ?_)) | refine wc_ret rfl ?_) | (show WC _ (Code.cond _ _ _) _ _ _ _; (refine wc_cond rfl (fun hc => ?_) (fun hc => ?_) <;> (try (simp only [decide_eq_true_eq, decide_eq_false_iff_not, Bool.and_eq_true, Bool.or_eq_true, Bool.and_eq_false_iff, Bool.or_eq_false_iff, Bool.not_eq_true', Bool.not_eq_false', Int.not_lt, Int.not_le] at hc)) <;> (try (exfalso; first | omega | contradiction)))))
  refine wc_loop (α := WS l) (fun x => [(3, true, x.v), (6, true, .slice a l.length cap), (7, true, i64 (l.length : Int)), (8, true, i64 (x.i : Int))]) (fun x => St w [] x.Hs M) (fun x => l.length - x.i) (WS.start l) (by first | exact Sub.nil _ | (repeat (first | exact Sub.nil _ | refine Sub.cons (by first | rfl | (simp [look]; done)) ?_))) (fun _ h => h) ?_
  rintro ⟨i, v, Hs, hi, own⟩
  dsimp only
  have hmem : ∀ j, j < l.length → (l.getD j default).1.length ≤ 1000000 ∧ (l.getD j default).2.length ≤ 1000000 := fun j hj => by
    have : l.getD j default = l[j] := by simp [hj]
    rw [this]; exact hsm _ (List.getElem_mem _)
  have hel : ∀ j, j < l.length → (encode (l.getD j default).1).length ≤ 3000000 ∧ (encode (l.getD j default).2).length ≤ 3000000 := fun j hj => by
    have h1 := (encode_length (l.getD j default).1).2
    have h2 := (encode_length (l.getD j default).2).2
    have : (l.getD j default).1.length ≤ 1000000 ∧ (l.getD j default).2.length ≤ 1000000 := by
      have : l.getD j default = l[j] := by simp [hj]
      rw [this]; exact hsm _ (List.getElem_mem _)
    omega
  repeat' (first | (first | refine wc_seq ?_ | refine wc_region ?_ | refine wl_nil ?_ | refine wn_seq ?_ | refine wn_blk ?_ | refine wc_skip ?_ | refine wc_block ?_ | refine wc_exit rfl ?_ | (show WL _ _ (_ :: _) _ _ _ _; first | refine yl_v rfl rfl rfl ?_ | refine wl_v rfl rfl rfl (by first | (show OpV _ _ _ _ (Oper.mk _ (Op.indexAddr _ _ _) _ _ _ _) _ _; exact ov_indexAddr rfl rfl (by (fail_if_success (with_reducible show (987654321 : Int) = _)); repeat' (first | with_reducible exact nc_cast | with_reducible exact nc_lit | apply nc_add | apply nc_div | apply nc_mod | apply nc_mul | refine nc_sub (m := _) (n := _) nc_cast nc_lit (by omega) | refine nc_sub (m := _) (n := _) nc_cast nc_cast (by omega))) (by first | with_reducible exact fun _ => rfl | with_reducible exact fun h => h | exact fun _ => rfl | exact fun h => h | (intro himp; simp_all; done)) (by first | with_reducible exact fun _ => rfl | with_reducible exact fun h => h | exact fun _ => rfl | exact fun h => h | (intro himp; simp_all; done)) rfl (by first | exact (rfl : _ = some 1) | exact (rfl : _ = some 2) | exact (rfl : _ = some 3) | exact (rfl : _ = some 4) | exact (rfl : _ = some 6) | exact rfl) (fun hcg => (h3 (by intro h; subst h; simp only [List.length_nil] at *; omega)).1) (by intro hcg; first | omega | (simp at hcg; omega))) | (show OpV _ _ _ _ (Oper.mk _ (Op.load _ _) _ _ _ _) _ _; exact ov_loadSM rfl (by first | with_reducible exact fun _ => rfl | with_reducible exact fun h => h | exact fun _ => rfl | exact fun h => h | (intro himp; simp_all; done)) rfl (by first | exact (rfl : _ = some 1) | exact (rfl : _ = some 2) | exact (rfl : _ = some 3) | exact (rfl : _ = some 4) | exact (rfl : _ = some 6) | exact rfl) (fun hcg => (h3 (by intro h; subst h; simp only [List.length_nil] at *; omega)).2) (fun hcg => pcell (h4 i (by omega)))) | (show OpV _ _ _ _ (Oper.mk _ (Op.binOp BinOp.add _ _ _ _) _ _ _ _) _ _; exact ov_sadd rfl rfl (by first | with_reducible exact fun _ => rfl | with_reducible exact fun h => h | exact fun _ => rfl | exact fun h => h | (intro himp; simp_all; done)) (by first | with_reducible exact fun _ => rfl | with_reducible exact fun h => h | exact fun _ => rfl | exact fun h => h | (intro himp; simp_all; done)) (by intro hcg; first | omega | (simp only [List.length_append, List.length_take, List.length_drop, List.length_cons, List.length_nil, pctOf_length]; omega)))) ?_ | refine xl_alloc (fun _ => ?_) | refine xl_store rfl rfl ?_ | refine xl_buildSlice rfl (fun _ => ?_)) | refine wc_ret rfl ?_) | (show WC _ (Code.cond _ _ _) _ _ _ _; (refine wc_cond rfl (fun hc => ?_) (fun hc => ?_) <;> (try (simp only [decide_eq_true_eq, decide_eq_false_iff_not, Bool.and_eq_true, Bool.or_eq_true, Bool.and_eq_false_iff, Bool.or_eq_false_iff, Bool.not_eq_true', Bool.not_eq_false', Int.not_lt, Int.not_le] at hc)) <;> (try (exfalso; first | omega | contradiction)))))
  · rename_i b1
    have hel := hel i (by omega)
    have hmem := hmem i (by omega)
    refine wc_weak (E' := [(3, true, v), (5, true, .pointer (some ⟨b1, 0, none⟩)), (6, true, .slice a l.length cap), (7, true, i64 (l.length : Int)), (8, true, i64 (i : Int))]) (by first | exact Sub.nil _ | (repeat (first | exact Sub.nil _ | refine Sub.cons (by first | rfl | (simp [look]; done)) ?_))) (fun _ h => h) ?_
    refine wc_draw 10 (by kernel_rfl) rfl (by kernel_rfl) (fun _ _ h k => h.ext k) ?_
    repeat' (first | (show WD _ _ (_ :: _) _ _ _ _ _ _; first | refine yd_v rfl rfl rfl rfl rfl rfl ?_ | refine wd_v rfl rfl rfl rfl rfl rfl (by first | ((show OpV _ _ _ _ (Oper.mk _ (Op.call ⟨.value (.func 52), _, _⟩) _ _ _ _) _ _; exact ov_call Tryd.call52 rfl (by intro himp; first | rfl | (simp_all; done)) (by rfl) (fun _ _ h k => h.ext k) (fun hcg w hw => encode_ok hG hw.laid _ (by omega)))) | (show OpV _ _ _ _ (Oper.mk _ (Op.binOp BinOp.add _ _ _ _) _ _ _ _) _ _; exact ov_sadd rfl rfl (by first | with_reducible exact fun _ => rfl | with_reducible exact fun h => h | exact fun _ => rfl | exact fun h => h | (intro himp; simp_all; done)) (by first | with_reducible exact fun _ => rfl | with_reducible exact fun h => h | exact fun _ => rfl | exact fun h => h | (intro himp; simp_all; done)) (by intro hcg; first | omega | (simp only [List.length_append, List.length_take, List.length_drop, List.length_cons, List.length_nil, pctOf_length]; omega)))) ?_ | refine yd_new rfl rfl rfl rfl rfl rfl ?_ | refine wd_conv rfl rfl rfl rfl rfl rfl rfl rfl rfl rfl ?_) | (show WD _ _ _ _ _ _ _ _ _; first | refine wd_nil ?_ | refine wd_nil1 (wl_fresh (fun _ => ?_))) | (first | refine wc_seq ?_ | refine wc_region ?_ | refine wl_nil ?_ | refine wn_seq ?_ | refine wn_blk ?_ | refine wc_skip ?_ | refine wc_block ?_ | refine wc_exit rfl ?_ | (show WL _ _ (_ :: _) _ _ _ _; first | refine yl_v rfl rfl rfl ?_ | refine wl_v rfl rfl rfl (by first | ((show OpV _ _ _ _ (Oper.mk _ (Op.call ⟨.value (.func 52), _, _⟩) _ _ _ _) _ _; exact ov_call Tryd.call52 rfl (by intro himp; first | rfl | (simp_all; done)) (by rfl) (fun _ _ h k => h.ext k) (fun hcg w hw => encode_ok hG hw.laid _ (by omega)))) | (show OpV _ _ _ _ (Oper.mk _ (Op.binOp BinOp.add _ _ _ _) _ _ _ _) _ _; exact ov_sadd rfl rfl (by first | with_reducible exact fun _ => rfl | with_reducible exact fun h => h | exact fun _ => rfl | exact fun h => h | (intro himp; simp_all; done)) (by first | with_reducible exact fun _ => rfl | with_reducible exact fun h => h | exact fun _ => rfl | exact fun h => h | (intro himp; simp_all; done)) (by intro hcg; first | omega | (simp only [List.length_append, List.length_take, List.length_drop, List.length_cons, List.length_nil, pctOf_length]; omega)))) ?_ | refine xl_alloc (fun _ => ?_) | refine xl_store rfl rfl ?_ | refine xl_buildSlice rfl (fun _ => ?_)) | refine wc_ret rfl ?_))
    have hlen : (cellsS ((l.take i).map w1)).length = ((l.take i).map w1).length * 1 := cellsS_length _
    have hlt : (l.take i).length ≤ i := List.length_take_le _ _
    rw [List.length_map] at hlen
    refine wl_append (H0 := []) rfl own rfl rfl rfl rfl rfl rfl rfl rfl rfl rfl (by first | exact List.Mem.head _ | exact List.Mem.tail _ (List.Mem.head _) | exact List.Mem.tail _ (List.Mem.tail _ (List.Mem.head _)) | exact List.Mem.tail _ (List.Mem.tail _ (List.Mem.tail _ (List.Mem.head _))) | exact List.Mem.tail _ (List.Mem.tail _ (List.Mem.tail _ (List.Mem.tail _ (List.Mem.head _)))) | exact List.mem_append_right _ (List.Mem.head _) | exact List.mem_append_right _ (List.Mem.tail _ (List.Mem.head _)) | exact List.mem_append_right _ (List.Mem.tail _ (List.Mem.tail _ (List.Mem.head _))) | exact List.mem_append_right _ (List.Mem.tail _ (List.Mem.tail _ (List.Mem.tail _ (List.Mem.head _)))) | exact List.Mem.tail _ (List.mem_append_right _ (List.Mem.head _)) | exact List.Mem.tail _ (List.mem_append_right _ (List.Mem.tail _ (List.Mem.head _))) | exact List.Mem.tail _ (List.mem_append_right _ (List.Mem.tail _ (List.Mem.tail _ (List.Mem.head _)))) | exact List.Mem.tail _ (List.mem_append_right _ (List.Mem.tail _ (List.Mem.tail _ (List.Mem.tail _ (List.Mem.head _))))) | exact List.Mem.tail _ (List.Mem.tail _ (List.mem_append_right _ (List.Mem.head _))) | exact List.Mem.tail _ (List.Mem.tail _ (List.mem_append_right _ (List.Mem.tail _ (List.Mem.head _)))) | exact List.Mem.tail _ (List.Mem.tail _ (List.mem_append_right _ (List.Mem.tail _ (List.Mem.tail _ (List.Mem.head _)))))) rfl rfl (by simp only [List.append_nil]; exact (by repeat (first | exact List.Sublist.refl _ | apply List.Sublist.cons))) (by rw [hlen]; omega) rfl ?_
    intro v' Hs' ho'
    have ho2 : OwnS tSt 1 v' Hs' (cellsS ((l.take (i + 1)).map w1)) := by
      rw [List.take_succ_eq_append_getElem (by omega), List.map_append, List.map_cons, List.map_nil, cellsS_snoc]
      have e : l.getD i default = l[i] := by simp [show i < l.length by omega]
      rw [← e]
      have e2 : w1 (l.getD i default) = encode (l.getD i default).1 ++ [61] ++ encode (l.getD i default).2 := by simp [w1]
      rw [e2]; exact ho'
    repeat' (first | (first | refine wc_seq ?_ | refine wc_region ?_ | refine wl_nil ?_ | refine wn_seq ?_ | refine wn_blk ?_ | refine wc_skip ?_ | refine wc_block ?_ | refine wc_exit rfl ?_ | (show WL _ _ (_ :: _) _ _ _ _; first | refine yl_v rfl rfl rfl ?_ | refine wl_v rfl rfl rfl (by first  | (show OpV _ _ _ _ (Oper.mk _ (Op.binOp BinOp.add _ _ _ _) _ _ _ _) _ _; exact ov_sadd rfl rfl (by first | with_reducible exact fun _ => rfl | with_reducible exact fun h => h | exact fun _ => rfl | exact fun h => h | (intro himp; simp_all; done)) (by first | with_reducible exact fun _ => rfl | with_reducible exact fun h => h | exact fun _ => rfl | exact fun h => h | (intro himp; simp_all; done)) (by intro hcg; first | omega | (simp only [List.length_append, List.length_take, List.length_drop, List.length_cons, List.length_nil, pctOf_length]; omega)))) ?_ | refine xl_alloc (fun _ => ?_) | refine xl_store rfl rfl ?_ | refine xl_buildSlice rfl (fun _ => ?_)) | refine wc_ret rfl ?_) | (show WC _ (Code.cond _ _ _) _ _ _ _; (refine wc_cond rfl (fun hc => ?_) (fun hc => ?_) <;> (try (simp only [decide_eq_true_eq, decide_eq_false_iff_not, Bool.and_eq_true, Bool.or_eq_true, Bool.and_eq_false_iff, Bool.or_eq_false_iff, Bool.not_eq_true', Bool.not_eq_false', Int.not_lt, Int.not_le] at hc)) <;> (try (exfalso; first | omega | contradiction)))))
    refine wn_cut ⟨i + 1, v', Hs', by omega, ho2⟩ (by show l.length - (i + 1) < l.length - i; omega) (by first | exact Sub.nil _ | (repeat (first | exact Sub.nil _ | refine Sub.cons (by first | rfl | (simp [look]; done)) ?_))) (fun _ h => by simpa using h)
  · have e : (l.take i).map w1 = l.map w1 := by rw [List.take_of_length_le (by omega)]
    rw [e] at own
    have hw := writeP_join l
    have hwl := writeP_length hsm l.length (Nat.le_refl _)
    rw [List.take_length] at hwl
    have hmul : l.length * (6 * 1000000 + 2) ≤ 50 * 6000002 := Nat.mul_le_mul (by omega) (by omega)
    refine wl_weak (Eng.Sub.refl _) (fun _ h => St.publish (H1 := Hs) (H2 := []) (by simpa using h)) ?_
    have hsl : SlS (With M Hs) v (l.map w1) := own.slS (fun p hp => .inr hp) (by rw [List.length_map]; omega)
    repeat' (first | (first | refine wc_seq ?_ | refine wc_region ?_ | refine wl_nil ?_ | refine wn_seq ?_ | refine wn_blk ?_ | refine wc_skip ?_ | refine wc_block ?_ | refine wc_exit rfl ?_ | (show WL _ _ (_ :: _) _ _ _ _; first | refine yl_v rfl rfl rfl ?_ | refine wl_v rfl rfl rfl (by first | ((show OpV _ _ _ _ (Oper.mk _ (Op.call ⟨.value (.func 53), _, _⟩) _ _ _ _) _ _; exact ov_call Tryd.call53 rfl (by intro himp; first | rfl | (simp_all; done)) (by rfl) (fun _ _ h k => h.ext k) (fun hcg w hw => join_ok hw.laid hsl [38] (by rw [List.length_map]; omega) (by rw [writeP_join]; omega)))) | (show OpV _ _ _ _ (Oper.mk _ (Op.binOp BinOp.add _ _ _ _) _ _ _ _) _ _; exact ov_sadd rfl rfl (by first | with_reducible exact fun _ => rfl | with_reducible exact fun h => h | exact fun _ => rfl | exact fun h => h | (intro himp; simp_all; done)) (by first | with_reducible exact fun _ => rfl | with_reducible exact fun h => h | exact fun _ => rfl | exact fun h => h | (intro himp; simp_all; done)) (by intro hcg; first | omega | (simp only [List.length_append, List.length_take, List.length_drop, List.length_cons, List.length_nil, pctOf_length]; omega)))) ?_ | refine xl_alloc (fun _ => ?_) | refine xl_store rfl rfl ?_ | refine xl_buildSlice rfl (fun _ => ?_)) | refine wc_ret rfl ?_) | (show WC _ (Code.cond _ _ _) _ _ _ _; (refine wc_cond rfl (fun hc => ?_) (fun hc => ?_) <;> (try (simp only [decide_eq_true_eq, decide_eq_false_iff_not, Bool.and_eq_true, Bool.or_eq_true, Bool.and_eq_false_iff, Bool.or_eq_false_iff, Bool.not_eq_true', Bool.not_eq_false', Int.not_lt, Int.not_le] at hc)) <;> (try (exfalso; first | omega | contradiction)))))
    refine wr_tmp rfl rfl ?_
    rw [writeP_join]
end Go.Proofs.YtmmoglgagifdfaaDoor
/-
  The small functions of package url and matricularef02.
-/
namespace Go.Proofs.YtmmoglgagifdfaaDoor
open Go.Eng Go.Pct Go.Txt Go.Url
set_option maxRecDepth 10000
set_option linter.unusedSimpArgs false
set_option linter.unusedVariables false

variable {M : Ghost} {w : World}
/-! ### small letters -/
def lowAt (s : List UInt8) (i : Nat) : List UInt8 := low (s.take i) ++ s.drop i
theorem lowAt_length (s : List UInt8) (i : Nat) (h : i ≤ s.length) : (lowAt s i).length = s.length := by
  unfold lowAt low; simp; omega
theorem lowAt_cur {s : List UInt8} {i : Nat} (h : i < s.length) : lowAt s i = low (s.take i) ++ s.getD i 0 :: s.drop (i + 1) := by
  unfold lowAt; rw [Txt.drop_getD h]
theorem lowAt_next {s : List UInt8} {i : Nat} (h : i < s.length) : lowAt s (i + 1) = low (s.take i) ++ lowC (s.getD i 0) :: s.drop (i + 1) := by
  unfold lowAt low; rw [Txt.take_getD h]; simp
theorem low_take_length {s : List UInt8} {i : Nat} (h : i ≤ s.length) : (low (s.take i)).length = i := by
  rw [low_length, List.length_take]; omega
theorem lowAt_get {s : List UInt8} {i : Nat} (h : i < s.length) : (lowAt s i).getD i 0 = s.getD i 0 := by
  have hl := low_take_length (s := s) (i := i) (by omega)
  rw [lowAt_cur h, List.getD_eq_getElem?_getD, List.getElem?_append_right (by omega), hl]
  simp
theorem lowAt_set {s : List UInt8} {i : Nat} (h : i < s.length) : (lowAt s i).set i (lowC (s.getD i 0)) = lowAt s (i + 1) := by
  have hl := low_take_length (s := s) (i := i) (by omega)
  rw [lowAt_cur h, lowAt_next h, List.set_append_right _ _ (by omega), hl]
  simp
theorem lowAt_same {s : List UInt8} {i : Nat} (h : i < s.length) (hc : lowC (s.getD i 0) = s.getD i 0) : lowAt s i = lowAt s (i + 1) := by
  rw [lowAt_cur h, lowAt_next h, hc]
theorem lowAt_end (s : List UInt8) : lowAt s s.length = low s := by
  unfold lowAt; simp
theorem low_up (c : UInt8) : (65 : Int) ≤ (c.toNat : Int) → (c.toNat : Int) ≤ 90 → (c.toNat : Int) + 97 - 65 = ((lowC c).toNat : Int) := by revert c; apply all_bytes; decide +kernel
theorem low_up2 (c : UInt8) : (65 : Int) ≤ (c.toNat : Int) → (c.toNat : Int) ≤ 90 → UInt8.ofNat ((c.toNat : Int) + 32).toNat = lowC c := by revert c; apply all_bytes; decide +kernel
theorem low_no (c : UInt8) : ((c.toNat : Int) < 65 ∨ 90 < (c.toNat : Int)) → lowC c = c := by revert c; apply all_bytes; decide +kernel
theorem low_succ {s : List UInt8} {i : Nat} (h : i < s.length) : low (s.take (i + 1)) = low (s.take i) ++ [lowC (s.getD i 0)] := by
  unfold low; rw [Txt.take_getD h]; simp
theorem ulower_ok (hM : Laid M w) (s : List UInt8) (hs : s.length ≤ 1000000000) : Calls Tryd.prog 26 #[str s] w (RetE w (str (low s))) := by
  refine calls_st (l := [str s]) hM Tryd.func26 rfl rfl rfl (E0 := [(0, true, str s)]) (params_cons rfl (params_nil _)) ?_
  repeat' (first | (first | refine wc_seq ?_ | refine wc_region ?_ | refine wl_nil ?_ | refine wn_seq ?_ | refine wn_blk ?_ | refine wc_skip ?_ | refine wc_block ?_ | refine wc_exit rfl ?_ | (show WL _ _ (_ :: _) _ _ _ _; first | refine yl_v rfl rfl rfl ?_ | refine wl_v rfl rfl rfl (by first  | fail) ?_ | refine xl_store rfl rfl ?_) | refine wc_ret rfl ?_) | (show WC _ (Code.cond _ _ _) _ _ _ _; (refine wc_cond rfl (fun hc => ?_) (fun hc => ?_) <;> (try (simp only [decide_eq_true_eq, decide_eq_false_iff_not, Bool.and_eq_true, Bool.or_eq_true, Bool.and_eq_false_iff, Bool.or_eq_false_iff, Bool.not_eq_true', Bool.not_eq_false', Int.not_lt, Int.not_le] at hc)) <;> (try (exfalso; first | omega | contradiction)))))
  refine wl_bytesOf rfl rfl rfl rfl rfl rfl (fun b cap pad hcap => ?_)
  repeat' (first | (first | refine wc_seq ?_ | refine wc_region ?_ | refine wl_nil ?_ | refine wn_seq ?_ | refine wn_blk ?_ | refine wc_skip ?_ | refine wc_block ?_ | refine wc_exit rfl ?_ | (show WL _ _ (_ :: _) _ _ _ _; first | refine yl_v rfl rfl rfl ?_ | refine wl_v rfl rfl rfl (by first  | fail) ?_ | refine xl_store rfl rfl ?_) | refine wc_ret rfl ?_) | (show WC _ (Code.cond _ _ _) _ _ _ _; (refine wc_cond rfl (fun hc => ?_) (fun hc => ?_) <;> (try (simp only [decide_eq_true_eq, decide_eq_false_iff_not, Bool.and_eq_true, Bool.or_eq_true, Bool.and_eq_false_iff, Bool.or_eq_false_iff, Bool.not_eq_true', Bool.not_eq_false', Int.not_lt, Int.not_le] at hc)) <;> (try (exfalso; first | omega | contradiction)))))
  refine wc_loop (α := { i : Nat // i ≤ s.length }) (fun x => [(3, true, .slice (some ⟨b, 0, none⟩) s.length cap), (8, true, .slice (some ⟨b, 0, none⟩) s.length cap), (9, true, i64 (s.length : Int)), (10, true, i64 (x.1 : Int))]) (fun x => St w [] [(b, .cells (rowB (lowAt s x.1) pad).toArray 5 ((lowAt s x.1).length + pad, (lowAt s x.1).length + pad + 1))] M) (fun x => s.length - x.1) ⟨0, by omega⟩ (by first | exact Sub.nil _ | (repeat (first | exact Sub.nil _ | refine Sub.cons (by first | rfl | (simp [look]; done)) ?_))) (fun _ h => h) ?_
  rintro ⟨i, hi⟩
  dsimp only
  have hll := lowAt_length s i hi
  by_cases hlt : i < s.length
  · have hu := u8_lt (s.getD i 0)
    have hcell : (rowB (lowAt s i) pad).toArray[0 + i * 1]? = some (byt (s.getD i 0)) := by
      rw [Nat.zero_add, Nat.mul_one, List.getElem?_toArray, rowB_at (by omega), lowAt_get hlt]
    repeat' (first | (first | refine wc_seq ?_ | refine wc_region ?_ | refine wl_nil ?_ | refine wn_seq ?_ | refine wn_blk ?_ | refine wc_skip ?_ | refine wc_block ?_ | refine wc_exit rfl ?_ | (show WL _ _ (_ :: _) _ _ _ _; first | refine yl_v rfl rfl rfl ?_ | refine wl_v rfl rfl rfl (by first | (show OpV _ _ _ _ (Oper.mk _ (Op.indexAddr _ _ _) _ _ _ _) _ _; exact ov_indexAddr (i := i) (b := b) (o := 0) rfl rfl rfl (by first | with_reducible exact fun _ => rfl | with_reducible exact fun h => h | exact fun _ => rfl | exact fun h => h | (intro himp; simp_all; done)) (by first | with_reducible exact fun _ => rfl | with_reducible exact fun h => h | exact fun _ => rfl | exact fun h => h | (intro himp; simp_all; done)) rfl (by first | exact (rfl : _ = some 1) | exact (rfl : _ = some 2) | exact (rfl : _ = some 3) | exact (rfl : _ = some 4) | exact (rfl : _ = some 6) | exact rfl) (fun _ => rfl) (by intro hcg; first | omega | (simp at hcg; omega))) | (show OpV _ _ _ _ (Oper.mk _ (Op.load _ _) _ _ _ _) _ _; exact ov_load1 rfl (by first | with_reducible exact fun _ => rfl | with_reducible exact fun h => h | exact fun _ => rfl | exact fun h => h | (intro himp; simp_all; done)) rfl rfl (List.Mem.head _) hcell) | fail) ?_ | refine xl_store rfl rfl ?_) | refine wc_ret rfl ?_) | (show WC _ (Code.cond _ _ _) _ _ _ _; (refine wc_cond rfl (fun hc => ?_) (fun hc => ?_) <;> (try (simp only [decide_eq_true_eq, decide_eq_false_iff_not, Bool.and_eq_true, Bool.or_eq_true, Bool.and_eq_false_iff, Bool.or_eq_false_iff, Bool.not_eq_true', Bool.not_eq_false', Int.not_lt, Int.not_le] at hc)) <;> (try (exfalso; first | omega | contradiction)))))
    · refine wl_storeB (c := lowC (s.getD i 0)) (i := i) (l := lowAt s i) rfl (by show some (true, Value.pointer (some ⟨b, 0 + i * 1, none⟩)) = _; rw [Nat.zero_add, Nat.mul_one]) rfl (low_up _ hc.1 hc.2) (by omega) rfl Upd.here ?_
      rw [lowAt_set hlt]
      repeat' (first | (first | refine wc_seq ?_ | refine wc_region ?_ | refine wl_nil ?_ | refine wn_seq ?_ | refine wn_blk ?_ | refine wc_skip ?_ | refine wc_block ?_ | refine wc_exit rfl ?_ | (show WL _ _ (_ :: _) _ _ _ _; first | refine yl_v rfl rfl rfl ?_ | refine wl_v rfl rfl rfl (by first  | fail) ?_ | refine xl_store rfl rfl ?_) | refine wc_ret rfl ?_) | (show WC _ (Code.cond _ _ _) _ _ _ _; (refine wc_cond rfl (fun hc => ?_) (fun hc => ?_) <;> (try (simp only [decide_eq_true_eq, decide_eq_false_iff_not, Bool.and_eq_true, Bool.or_eq_true, Bool.and_eq_false_iff, Bool.or_eq_false_iff, Bool.not_eq_true', Bool.not_eq_false', Int.not_lt, Int.not_le] at hc)) <;> (try (exfalso; first | omega | contradiction)))))
      exact wn_cut ⟨i + 1, by omega⟩ (by show s.length - (i + 1) < s.length - i; omega) (by first | exact Sub.nil _ | (repeat (first | exact Sub.nil _ | refine Sub.cons (by first | rfl | (simp [look]; done)) ?_))) (fun _ h => by dsimp only; rw [lowAt_length s (i + 1) (by omega), ← hll]; exact h)
    · have hsm := lowAt_same hlt (low_no _ (by omega))
      exact wn_cut ⟨i + 1, by omega⟩ (by show s.length - (i + 1) < s.length - i; omega) (by first | exact Sub.nil _ | (repeat (first | exact Sub.nil _ | refine Sub.cons (by first | rfl | (simp [look]; done)) ?_))) (fun _ h => by dsimp only; rw [← hsm]; exact h)
  · obtain rfl : i = s.length := by omega
    rw [lowAt_end]
    repeat' (first | (first | refine wc_seq ?_ | refine wc_region ?_ | refine wl_nil ?_ | refine wn_seq ?_ | refine wn_blk ?_ | refine wc_skip ?_ | refine wc_block ?_ | refine wc_exit rfl ?_ | (show WL _ _ (_ :: _) _ _ _ _; first | refine yl_v rfl rfl rfl ?_ | refine wl_v rfl rfl rfl (by first | (show OpV _ _ _ _ (Oper.mk _ (Op.convert _ _ _) _ _ _ _) _ _; exact ov_rowStr (pad := pad) rfl (low_length s).symm (by first | with_reducible exact fun _ => rfl | with_reducible exact fun h => h | exact fun _ => rfl | exact fun h => h | (intro himp; simp_all; done)) rfl rfl rfl (List.Mem.head _)) | fail) ?_ | refine xl_store rfl rfl ?_) | refine wc_ret rfl ?_) | (show WC _ (Code.cond _ _ _) _ _ _ _; (refine wc_cond rfl (fun hc => ?_) (fun hc => ?_) <;> (try (simp only [decide_eq_true_eq, decide_eq_false_iff_not, Bool.and_eq_true, Bool.or_eq_true, Bool.and_eq_false_iff, Bool.or_eq_false_iff, Bool.not_eq_true', Bool.not_eq_false', Int.not_lt, Int.not_le] at hc)) <;> (try (exfalso; first | omega | contradiction)))))
    exact wr_weak (fun _ h => h.drop (List.nil_sublist _)) (wr_tmp rfl rfl rfl)
theorem rsmall_ok (hM : Laid M w) (s : List UInt8) (hs : s.length ≤ 1000000000) : Calls Tryd.prog 32 #[str s] w (RetE w (str (low s))) := by
  refine calls_st (l := [str s]) hM Tryd.func32 rfl rfl rfl (E0 := [(0, true, str s)]) (params_cons rfl (params_nil _)) ?_
  repeat' (first | (first | refine wc_seq ?_ | refine wc_region ?_ | refine wl_nil ?_ | refine wn_seq ?_ | refine wn_blk ?_ | refine wc_skip ?_ | refine wc_block ?_ | refine wc_exit rfl ?_ | (show WL _ _ (_ :: _) _ _ _ _; first | refine yl_v rfl rfl rfl ?_ | refine wl_v rfl rfl rfl (by first  | fail) ?_ | refine xl_buildSlice rfl (fun _ => ?_)) | refine wc_ret rfl ?_) | (show WC _ (Code.cond _ _ _) _ _ _ _; (refine wc_cond rfl (fun hc => ?_) (fun hc => ?_) <;> (try (simp only [decide_eq_true_eq, decide_eq_false_iff_not, Bool.and_eq_true, Bool.or_eq_true, Bool.and_eq_false_iff, Bool.or_eq_false_iff, Bool.not_eq_true', Bool.not_eq_false', Int.not_lt, Int.not_le] at hc)) <;> (try (exfalso; first | omega | contradiction)))))
  refine wc_loop (α := { i : Nat // i ≤ s.length }) (fun x => [(0, true, str s), (3, true, str (low (s.take x.1))), (4, true, i64 (x.1 : Int))]) (fun _ => St w [] [] M) (fun x => s.length - x.1) ⟨0, by omega⟩ (by first | exact Sub.nil _ | (repeat (first | exact Sub.nil _ | refine Sub.cons (by first | rfl | (simp [look]; done)) ?_))) (fun _ h => h) ?_
  rintro ⟨i, hi⟩
  dsimp only
  have hll := low_take_length hi
  have hu := u8_lt (s.getD i 0)
  repeat' (first | (first | refine wc_seq ?_ | refine wc_region ?_ | refine wl_nil ?_ | refine wn_seq ?_ | refine wn_blk ?_ | refine wc_skip ?_ | refine wc_block ?_ | refine wc_exit rfl ?_ | (show WL _ _ (_ :: _) _ _ _ _; first | refine yl_v rfl rfl rfl ?_ | refine wl_v rfl rfl rfl (by first  | fail) ?_ | refine xl_buildSlice rfl (fun _ => ?_)) | refine wc_ret rfl ?_) | (show WC _ (Code.cond _ _ _) _ _ _ _; (refine wc_cond rfl (fun hc => ?_) (fun hc => ?_) <;> (try (simp only [decide_eq_true_eq, decide_eq_false_iff_not, Bool.and_eq_true, Bool.or_eq_true, Bool.and_eq_false_iff, Bool.or_eq_false_iff, Bool.not_eq_true', Bool.not_eq_false', Int.not_lt, Int.not_le] at hc)) <;> (try (exfalso; first | omega | contradiction)))))
  · refine wn_cut ⟨i + 1, by omega⟩ (by show s.length - (i + 1) < s.length - i; omega) (Eng.Sub.cons rfl (Eng.Sub.cons ?_ (Eng.Sub.cons rfl (Eng.Sub.nil _)))) (fun _ h => h.drop (List.nil_sublist _))
    simp only [look]
    rw [low_succ (by omega), ← low_up2 _ hc.1 hc.2]; rfl
  · refine wn_cut ⟨i + 1, by omega⟩ (by show s.length - (i + 1) < s.length - i; omega) (Eng.Sub.cons rfl (Eng.Sub.cons ?_ (Eng.Sub.cons rfl (Eng.Sub.nil _)))) (fun _ h => h.drop (List.nil_sublist _))
    simp only [look]
    rw [low_succ (by omega), low_no _ (by omega)]
    have e : UInt8.ofNat ((s.getD i 0).toNat : Int).toNat = s.getD i 0 := by simp
    show some (true, str (low (s.take i) ++ [UInt8.ofNat ((s.getD i 0).toNat : Int).toNat])) = _
    rw [e]
  · refine wr_tmp rfl rfl ?_
    rw [List.take_of_length_le (by omega)]
end Go.Proofs.YtmmoglgagifdfaaDoor
/-
  More small functions of package url and matricularef02: cut, host, own, port, stands, normal; find, part, Digits.
-/
namespace Go.Proofs.YtmmoglgagifdfaaDoor
open Go.Eng Go.Pct Go.Txt Go.Url
set_option maxRecDepth 10000
set_option linter.unusedSimpArgs false
set_option linter.unusedVariables false

variable {M : Ghost} {w : World}
theorem idxAny_wd (chars : List UInt8) (p : UInt8 → Bool) (hp : ∀ c, chars.contains c = p c) : ∀ s : List UInt8, (Lib.indexAny s chars = -1 ∧ wd p s = s ∧ rs p s = []) ∨ ∃ i : Nat, Lib.indexAny s chars = (i : Int) ∧ i ≤ s.length ∧ s.take i = wd p s ∧ s.drop i = rs p s
  | [] => .inl ⟨rfl, rfl, rfl⟩
  | c :: r => by
    unfold wd rs
    by_cases h : p c = true
    · refine .inr ⟨0, ?_, by omega, by simp [h], by simp [h]⟩
      simp only [Lib.indexAny]; rw [if_pos (by rw [hp]; exact h)]; rfl
    · have h' : p c = false := by simpa using h
      rcases idxAny_wd chars p hp r with ⟨h1, h2, h3⟩ | ⟨i, h1, h2, h3, h4⟩
      · refine .inl ⟨?_, ?_, ?_⟩
        · simp only [Lib.indexAny]; rw [if_neg (by rw [hp]; exact h), h1]; rfl
        · unfold wd at h2; simp [h', h2]
        · unfold rs at h3; simp [h', h3]
      · refine .inr ⟨i + 1, ?_, by simpa using h2, ?_, ?_⟩
        · simp only [Lib.indexAny]; rw [if_neg (by rw [hp]; exact h), h1]
          have : ¬ ((i : Int) == -1) = true := by simp
          rw [if_neg this]; rfl
        · unfold wd at h3; simp [h', h3]
        · unfold rs at h4; simp [h', h4]
theorem ucut_ok (hM : Laid M w) (s chars : List UInt8) (p : UInt8 → Bool) (hp : ∀ c, chars.contains c = p c) (hs : s.length ≤ 1000000000) (hca : ∀ c ∈ chars, c.toNat < 128) (h0 : chars ≠ []) (hl : chars.length ≤ 100) : Calls Tryd.prog 27 #[str s, str chars] w (RetE w (.tuple #[str (wd p s), str (rs p s)])) := by
  have hia := fun {w : World} (hw : Laid M w) => iany_ok hw s chars (by omega) hca h0 hl
  refine calls_st (l := [str s, str chars]) hM Tryd.func27 rfl rfl rfl (E0 := [(0, true, str s), (1, true, str chars)]) (params_cons rfl (params_cons rfl (params_nil _))) ?_
  rcases idxAny_wd chars p hp s with ⟨h1, h2, h3⟩ | ⟨i, h1, h2, h3, h4⟩
  · rw [h1] at hia
    rw [h2, h3]
    repeat' (first | (first | refine wc_seq ?_ | refine wc_region ?_ | refine wl_nil ?_ | refine wn_seq ?_ | refine wn_blk ?_ | refine wc_skip ?_ | refine wc_block ?_ | refine wc_exit rfl ?_ | (show WL _ _ (_ :: _) _ _ _ _; first | refine yl_v rfl rfl rfl ?_ | refine wl_v rfl rfl rfl (by first | ((show OpV _ _ _ _ (Oper.mk _ (Op.call ⟨.value (.func 43), _, _⟩) _ _ _ _) _ _; exact ov_call Tryd.call43 rfl (by intro himp; first | rfl | (simp_all; done)) (by rfl) (fun _ _ h k => h.ext k) (fun hcg w hw => hia hw.laid))) | fail) ?_) | refine wc_ret rfl ?_) | (show WC _ (Code.cond _ _ _) _ _ _ _; (refine wc_cond rfl (fun hc => ?_) (fun hc => ?_) <;> (try (simp only [decide_eq_true_eq, decide_eq_false_iff_not, Bool.and_eq_true, Bool.or_eq_true, Bool.and_eq_false_iff, Bool.or_eq_false_iff, Bool.not_eq_true', Bool.not_eq_false', Int.not_lt, Int.not_le] at hc)) <;> (try (exfalso; first | omega | contradiction)))))
    exact wr_tmp2 rfl rfl rfl rfl rfl
  · rw [h1] at hia
    rw [← h3, ← h4]
    repeat' (first | (first | refine wc_seq ?_ | refine wc_region ?_ | refine wl_nil ?_ | refine wn_seq ?_ | refine wn_blk ?_ | refine wc_skip ?_ | refine wc_block ?_ | refine wc_exit rfl ?_ | (show WL _ _ (_ :: _) _ _ _ _; first | refine yl_v rfl rfl rfl ?_ | refine wl_v rfl rfl rfl (by first | ((show OpV _ _ _ _ (Oper.mk _ (Op.call ⟨.value (.func 43), _, _⟩) _ _ _ _) _ _; exact ov_call Tryd.call43 rfl (by intro himp; first | rfl | (simp_all; done)) (by rfl) (fun _ _ h k => h.ext k) (fun hcg w hw => hia hw.laid))) | fail) ?_) | refine wc_ret rfl ?_) | (show WC _ (Code.cond _ _ _) _ _ _ _; (refine wc_cond rfl (fun hc => ?_) (fun hc => ?_) <;> (try (simp only [decide_eq_true_eq, decide_eq_false_iff_not, Bool.and_eq_true, Bool.or_eq_true, Bool.and_eq_false_iff, Bool.or_eq_false_iff, Bool.not_eq_true', Bool.not_eq_false', Int.not_lt, Int.not_le] at hc)) <;> (try (exfalso; first | omega | contradiction)))))
    refine wc_draw 8 (by kernel_rfl) rfl (by kernel_rfl) (fun _ _ h k => h.ext k) ?_
    repeat' (first | (show WD _ _ (_ :: _) _ _ _ _ _ _; first | refine yd_v rfl rfl rfl rfl rfl rfl ?_ | refine wd_v rfl rfl rfl rfl rfl rfl (by first  | fail) ?_ | refine yd_new rfl rfl rfl rfl rfl rfl ?_ | refine wd_conv rfl rfl rfl rfl rfl rfl rfl rfl rfl rfl ?_) | (show WD _ _ _ _ _ _ _ _ _; first | refine wd_nil ?_ | refine wd_nilF ?_) | (first | refine wc_seq ?_ | refine wc_region ?_ | refine wl_nil ?_ | refine wn_seq ?_ | refine wn_blk ?_ | refine wc_skip ?_ | refine wc_block ?_ | refine wc_exit rfl ?_ | (show WL _ _ (_ :: _) _ _ _ _; first | refine yl_v rfl rfl rfl ?_ | refine wl_v rfl rfl rfl (by first  | fail) ?_) | refine wc_ret rfl ?_))
    repeat' (first | (first | refine wc_seq ?_ | refine wc_region ?_ | refine wl_nil ?_ | refine wn_seq ?_ | refine wn_blk ?_ | refine wc_skip ?_ | refine wc_block ?_ | refine wc_exit rfl ?_ | (show WL _ _ (_ :: _) _ _ _ _; first | refine yl_v rfl rfl rfl ?_ | refine wl_v rfl rfl rfl (by first  | fail) ?_) | refine wc_ret rfl ?_) | (show WC _ (Code.cond _ _ _) _ _ _ _; (refine wc_cond rfl (fun hc => ?_) (fun hc => ?_) <;> (try (simp only [decide_eq_true_eq, decide_eq_false_iff_not, Bool.and_eq_true, Bool.or_eq_true, Bool.and_eq_false_iff, Bool.or_eq_false_iff, Bool.not_eq_true', Bool.not_eq_false', Int.not_lt, Int.not_le] at hc)) <;> (try (exfalso; first | omega | contradiction)))))
    exact wr_tmp2 rfl rfl rfl rfl rfl
/-! ### hosts -/
def hostK (c : UInt8) : Bool := plainB c && !decide (c.toNat = 95) && !decide (c.toNat = 126)
def hostA (s : List UInt8) : Bool := decide (s ≠ []) && decide (s.length ≤ 64) && s.all hostK
theorem host_low (c : UInt8) : hostK (lowC c) = hostC (lowC c) := by revert c; apply all_bytes; decide +kernel
theorem hostA_low (s : List UInt8) : hostA (low s) = hostB (low s) := by
  unfold hostA hostB
  congr 1
  unfold low
  rw [List.all_map, List.all_map]
  congr 1
  funext c
  exact host_low c
theorem hostK_no (c : UInt8) : ((plainB c = false ∨ (c.toNat : Int) = 95) ∨ (c.toNat : Int) = 126) → hostK c = false := by revert c; apply all_bytes; decide +kernel
theorem hostK_yes (c : UInt8) : ((plainB c = true ∧ ¬ (c.toNat : Int) = 95) ∧ ¬ (c.toNat : Int) = 126) → hostK c = true := by revert c; apply all_bytes; decide +kernel
theorem all_getD {p : UInt8 → Bool} {s : List UInt8} (h : ∀ i, i < s.length → p (s.getD i 0) = true) : s.all p = true := by
  rw [List.all_eq_true]
  intro x hx
  obtain ⟨i, hi, rfl⟩ := List.mem_iff_getElem.1 hx
  have := h i hi
  simpa [hi] using this
theorem all_no {p : UInt8 → Bool} {s : List UInt8} {i : Nat} (hi : i < s.length) (h : p (s.getD i 0) = false) : s.all p = false := by
  rw [Bool.eq_false_iff]
  intro h2
  rw [List.all_eq_true] at h2
  have := h2 (s.getD i 0) (by have e : s.getD i 0 = s[i] := by simp [hi]
                              rw [e]; exact List.getElem_mem _)
  rw [h] at this; cases this
theorem uhost_ok (hM : Laid M w) (s : List UInt8) (hs : s.length ≤ 1000000000) : Calls Tryd.prog 28 #[str s] w (RetE w (.bool (hostA s))) := by
  have hpl := fun {w : World} (hw : Laid M w) (c : UInt8) => plain_ok hw c
  refine calls_st (l := [str s]) hM Tryd.func28 rfl rfl rfl (E0 := [(0, true, str s)]) (params_cons rfl (params_nil _)) ?_
  repeat' (first | (first | refine wc_seq ?_ | refine wc_region ?_ | refine wl_nil ?_ | refine wn_seq ?_ | refine wn_blk ?_ | refine wc_skip ?_ | refine wc_block ?_ | refine wc_exit rfl ?_ | (show WL _ _ (_ :: _) _ _ _ _; first | refine yl_v rfl rfl rfl ?_ | refine wl_v rfl rfl rfl (by first  | fail) ?_) | refine wc_ret rfl ?_) | (show WC _ (Code.cond _ _ _) _ _ _ _; (refine wc_cond rfl (fun hc => ?_) (fun hc => ?_) <;> (try (simp only [decide_eq_true_eq, decide_eq_false_iff_not, Bool.and_eq_true, Bool.or_eq_true, Bool.and_eq_false_iff, Bool.or_eq_false_iff, Bool.not_eq_true', Bool.not_eq_false', Int.not_lt, Int.not_le] at hc)) <;> (try (exfalso; first | omega | contradiction)))))
  · refine wr_tmp rfl rfl (congrArg Value.bool ?_)
    unfold hostA
    rcases hc with rfl | hc
    · rfl
    · have : ¬ s.length ≤ 64 := by omega
      simp [this]
  have hne := hc.1
  have h64 := hc.2
  clear hc
  refine wc_loop (α := { i : Nat // i ≤ s.length ∧ ∀ j, j < i → hostK (s.getD j 0) = true }) (fun x => [(0, true, str s), (13, true, i64 (s.length : Int)), (14, true, i64 (x.1 : Int))]) (fun _ => St w [] [] M) (fun x => s.length - x.1) ⟨0, by omega, fun j hj => absurd hj (by omega)⟩ (by first | exact Sub.nil _ | (repeat (first | exact Sub.nil _ | refine Sub.cons (by first | rfl | (simp [look]; done)) ?_))) (fun _ h => h) ?_
  rintro ⟨i, hi, hall⟩
  dsimp only
  repeat' (first | (first | refine wc_seq ?_ | refine wc_region ?_ | refine wl_nil ?_ | refine wn_seq ?_ | refine wn_blk ?_ | refine wc_skip ?_ | refine wc_block ?_ | refine wc_exit rfl ?_ | (show WL _ _ (_ :: _) _ _ _ _; first | refine yl_v rfl rfl rfl ?_ | refine wl_v rfl rfl rfl (by first | ((show OpV _ _ _ _ (Oper.mk _ (Op.call ⟨.value (.func 44), _, _⟩) _ _ _ _) _ _; exact ov_call Tryd.call44 rfl (by intro himp; first | rfl | (simp_all; done)) (by rfl) (fun _ _ h k => h.ext k) (fun hcg w hw => hpl hw.laid _))) | fail) ?_) | refine wc_ret rfl ?_) | (show WC _ (Code.cond _ _ _) _ _ _ _; (refine wc_cond rfl (fun hc => ?_) (fun hc => ?_) <;> (try (simp only [decide_eq_true_eq, decide_eq_false_iff_not, Bool.and_eq_true, Bool.or_eq_true, Bool.and_eq_false_iff, Bool.or_eq_false_iff, Bool.not_eq_true', Bool.not_eq_false', Int.not_lt, Int.not_le] at hc)) <;> (try (exfalso; first | omega | contradiction)))))
  · refine wr_tmp rfl rfl (congrArg Value.bool ?_)
    unfold hostA
    rw [all_no (p := hostK) (i := i) (by omega)]
    · simp
    · exact hostK_no _ hc
  · refine wn_cut ⟨i + 1, by omega, fun j hj => ?_⟩ (by show s.length - (i + 1) < s.length - i; omega) (by first | exact Sub.nil _ | (repeat (first | exact Sub.nil _ | refine Sub.cons (by first | rfl | (simp [look]; done)) ?_))) (fun _ h => h.drop (by repeat (first | exact List.Sublist.refl _ | apply List.Sublist.cons)))
    by_cases e : j = i
    · subst e; exact hostK_yes _ hc
    · exact hall j (by omega)
  · refine wr_tmp rfl rfl (congrArg Value.bool ?_)
    unfold hostA
    rw [all_getD (p := hostK) (s := s) (fun j hj => hall j (by omega))]
    have e1 : s ≠ [] := hne
    have e2 : s.length ≤ 64 := by omega
    simp [e1, e2]
theorem stand_no (c : UInt8) : ((((c.toNat : Int) < 33 ∨ 126 < (c.toNat : Int)) ∨ ([34, 60, 62, 35, 92, 94, 123, 124, 125, 96] : List UInt8).contains c = true)) → standC c = false := by revert c; apply all_bytes; decide +kernel
theorem stand_yes (c : UInt8) : ((¬ (c.toNat : Int) < 33 ∧ ¬ 126 < (c.toNat : Int)) ∧ ([34, 60, 62, 35, 92, 94, 123, 124, 125, 96] : List UInt8).contains c = false) → standC c = true := by revert c; apply all_bytes; decide +kernel
theorem uown_ok (hM : Laid M w) (s : List UInt8) : Calls Tryd.prog 46 #[str s] w (RetE w (i64 (ownP s : Int))) := by
  refine calls_st (l := [str s]) hM Tryd.func46 rfl rfl rfl (E0 := [(0, true, str s)]) (params_cons rfl (params_nil _)) ?_
  unfold ownP
  repeat' (first | (first | refine wc_seq ?_ | refine wc_region ?_ | refine wl_nil ?_ | refine wn_seq ?_ | refine wn_blk ?_ | refine wc_skip ?_ | refine wc_block ?_ | refine wc_exit rfl ?_ | (show WL _ _ (_ :: _) _ _ _ _; first | refine yl_v rfl rfl rfl ?_ | refine wl_v rfl rfl rfl (by first  | fail) ?_) | refine wc_ret rfl ?_) | (show WC _ (Code.cond _ _ _) _ _ _ _; (refine wc_cond rfl (fun hc => ?_) (fun hc => ?_) <;> (try (simp only [decide_eq_true_eq, decide_eq_false_iff_not, Bool.and_eq_true, Bool.or_eq_true, Bool.and_eq_false_iff, Bool.or_eq_false_iff, Bool.not_eq_true', Bool.not_eq_false', Int.not_lt, Int.not_le] at hc)) <;> (try (exfalso; first | omega | contradiction)))))
  · subst hc; exact wr_tmp rfl rfl rfl
  · have : ¬ s = sHttps := hc
    rw [if_neg this]; exact wr_tmp rfl rfl rfl
theorem ustands_ok (hM : Laid M w) (s : List UInt8) (hs : s.length ≤ 1000000000) : Calls Tryd.prog 47 #[str s] w (RetE w (.bool (s.all standC))) := by
  refine calls_st (l := [str s]) hM Tryd.func47 rfl rfl rfl (E0 := [(0, true, str s)]) (params_cons rfl (params_nil _)) ?_
  repeat' (first | (first | refine wc_seq ?_ | refine wc_region ?_ | refine wl_nil ?_ | refine wn_seq ?_ | refine wn_blk ?_ | refine wc_skip ?_ | refine wc_block ?_ | refine wc_exit rfl ?_ | (show WL _ _ (_ :: _) _ _ _ _; first | refine yl_v rfl rfl rfl ?_ | refine wl_v rfl rfl rfl (by first  | fail) ?_) | refine wc_ret rfl ?_) | (show WC _ (Code.cond _ _ _) _ _ _ _; (refine wc_cond rfl (fun hc => ?_) (fun hc => ?_) <;> (try (simp only [decide_eq_true_eq, decide_eq_false_iff_not, Bool.and_eq_true, Bool.or_eq_true, Bool.and_eq_false_iff, Bool.or_eq_false_iff, Bool.not_eq_true', Bool.not_eq_false', Int.not_lt, Int.not_le] at hc)) <;> (try (exfalso; first | omega | contradiction)))))
  refine wc_loop (α := { i : Nat // i ≤ s.length ∧ ∀ j, j < i → standC (s.getD j 0) = true }) (fun x => [(0, true, str s), (6, true, i64 (s.length : Int)), (7, true, i64 (x.1 : Int))]) (fun _ => St w [] [] M) (fun x => s.length - x.1) ⟨0, by omega, fun j hj => absurd hj (by omega)⟩ (by first | exact Sub.nil _ | (repeat (first | exact Sub.nil _ | refine Sub.cons (by first | rfl | (simp [look]; done)) ?_))) (fun _ h => h) ?_
  rintro ⟨i, hi, hall⟩
  dsimp only
  have hib := fun {w : World} => ibyte_ok (w := w) [34, 60, 62, 35, 92, 94, 123, 124, 125, 96] (s.getD i 0)
  have hcon := Lib.contains_iff_indexByte [34, 60, 62, 35, 92, 94, 123, 124, 125, 96] (s.getD i 0)
  repeat' (first | (first | refine wc_seq ?_ | refine wc_region ?_ | refine wl_nil ?_ | refine wn_seq ?_ | refine wn_blk ?_ | refine wc_skip ?_ | refine wc_block ?_ | refine wc_exit rfl ?_ | (show WL _ _ (_ :: _) _ _ _ _; first | refine yl_v rfl rfl rfl ?_ | refine wl_v rfl rfl rfl (by first | ((show OpV _ _ _ _ (Oper.mk _ (Op.call ⟨.value (.func 62), _, _⟩) _ _ _ _) _ _; exact ov_call Tryd.call62 rfl (by intro himp; first | rfl | (simp_all; done)) (by rfl) (fun _ _ h k => h.ext k) (fun hcg w hw => hib))) | fail) ?_) | refine wc_ret rfl ?_) | (show WC _ (Code.cond _ _ _) _ _ _ _; (refine wc_cond rfl (fun hc => ?_) (fun hc => ?_) <;> (try (simp only [decide_eq_true_eq, decide_eq_false_iff_not, Bool.and_eq_true, Bool.or_eq_true, Bool.and_eq_false_iff, Bool.or_eq_false_iff, Bool.not_eq_true', Bool.not_eq_false', Int.not_lt, Int.not_le] at hc)) <;> (try (exfalso; first | omega | contradiction)))))
  · refine wr_tmp rfl rfl (congrArg Value.bool ?_)
    rw [all_no (p := standC) (i := i) (by omega)]
    refine stand_no _ (hc.imp id fun h => ?_)
    rw [hcon]; exact decide_eq_true h
  · refine wn_cut ⟨i + 1, by omega, fun j hj => ?_⟩ (by show s.length - (i + 1) < s.length - i; omega) (by first | exact Sub.nil _ | (repeat (first | exact Sub.nil _ | refine Sub.cons (by first | rfl | (simp [look]; done)) ?_))) (fun _ h => h.drop (by repeat (first | exact List.Sublist.refl _ | apply List.Sublist.cons)))
    by_cases e : j = i
    · subst e
      refine stand_yes _ ⟨⟨by omega, by omega⟩, ?_⟩
      rw [hcon]; exact decide_eq_false (by omega)
    · exact hall j (by omega)
  · refine wr_tmp rfl rfl (congrArg Value.bool ?_)
    rw [all_getD (p := standC) (s := s) (fun j hj => hall j (by omega))]
/-- what a part yields -/
def resPart (r : Option (List UInt8)) : Value := .tuple #[str (r.getD []), i64 (if r.isSome then 0 else 15)]
theorem unormal_ok (hG : Glob M) (hM : Laid M w) (s : List UInt8) (hs : s.length ≤ 1000000000) : Calls Tryd.prog 31 #[str s] w (RetE w (resPart (partP s))) := by
  have hst := fun {w : World} (hw : Laid M w) => ustands_ok hw s hs
  have hno := fun {w : World} (hw : Laid M w) => normal_ok hG hw s hs
  unfold resP at hno
  unfold partP resPart
  generalize s.all standC = a at *
  generalize Pct.normal s = q at *
  refine calls_st (l := [str s]) hM Tryd.func31 rfl rfl rfl (E0 := [(0, true, str s)]) (params_cons rfl (params_nil _)) ?_
  cases a with
  | false =>
    repeat' (first | (first | refine wc_seq ?_ | refine wc_region ?_ | refine wl_nil ?_ | refine wn_seq ?_ | refine wn_blk ?_ | refine wc_skip ?_ | refine wc_block ?_ | refine wc_exit rfl ?_ | (show WL _ _ (_ :: _) _ _ _ _; first | refine yl_v rfl rfl rfl ?_ | refine wl_v rfl rfl rfl (by first | ((show OpV _ _ _ _ (Oper.mk _ (Op.call ⟨.value (.func 47), _, _⟩) _ _ _ _) _ _; exact ov_call Tryd.call47 rfl (by intro himp; first | rfl | (simp_all; done)) (by rfl) (fun _ _ h k => h.ext k) (fun hcg w hw => hst hw.laid))) | fail) ?_) | refine wc_ret rfl ?_) | (show WC _ (Code.cond _ _ _) _ _ _ _; (refine wc_cond rfl (fun hc => ?_) (fun hc => ?_) <;> (try (simp only [decide_eq_true_eq, decide_eq_false_iff_not, Bool.and_eq_true, Bool.or_eq_true, Bool.and_eq_false_iff, Bool.or_eq_false_iff, Bool.not_eq_true', Bool.not_eq_false', Int.not_lt, Int.not_le] at hc)) <;> (try (exfalso; first | omega | contradiction)))))
    exact wr_tmp2 rfl rfl rfl rfl rfl
  | true =>
    cases q with
    | none =>
      have hno : ∀ {w : World}, Laid M w → Calls Tryd.prog 48 #[str s] w (RetE w (.tuple #[str [], i64 11])) := hno
      repeat' (first | (first | refine wc_seq ?_ | refine wc_region ?_ | refine wl_nil ?_ | refine wn_seq ?_ | refine wn_blk ?_ | refine wc_skip ?_ | refine wc_block ?_ | refine wc_exit rfl ?_ | (show WL _ _ (_ :: _) _ _ _ _; first | refine yl_v rfl rfl rfl ?_ | refine wl_v rfl rfl rfl (by first | ((show OpV _ _ _ _ (Oper.mk _ (Op.call ⟨.value (.func 47), _, _⟩) _ _ _ _) _ _; exact ov_call Tryd.call47 rfl (by intro himp; first | rfl | (simp_all; done)) (by rfl) (fun _ _ h k => h.ext k) (fun hcg w hw => hst hw.laid))) | ((show OpV _ _ _ _ (Oper.mk _ (Op.call ⟨.value (.func 48), _, _⟩) _ _ _ _) _ _; exact ov_call Tryd.call48 rfl (by intro himp; first | rfl | (simp_all; done)) (by rfl) (fun _ _ h k => h.ext k) (fun hcg w hw => hno hw.laid))) | fail) ?_) | refine wc_ret rfl ?_) | (show WC _ (Code.cond _ _ _) _ _ _ _; (refine wc_cond rfl (fun hc => ?_) (fun hc => ?_) <;> (try (simp only [decide_eq_true_eq, decide_eq_false_iff_not, Bool.and_eq_true, Bool.or_eq_true, Bool.and_eq_false_iff, Bool.or_eq_false_iff, Bool.not_eq_true', Bool.not_eq_false', Int.not_lt, Int.not_le] at hc)) <;> (try (exfalso; first | omega | contradiction)))))
      exact wr_tmp2 rfl rfl rfl rfl rfl
    | some t =>
      have hno : ∀ {w : World}, Laid M w → Calls Tryd.prog 48 #[str s] w (RetE w (.tuple #[str t, i64 0])) := hno
      repeat' (first | (first | refine wc_seq ?_ | refine wc_region ?_ | refine wl_nil ?_ | refine wn_seq ?_ | refine wn_blk ?_ | refine wc_skip ?_ | refine wc_block ?_ | refine wc_exit rfl ?_ | (show WL _ _ (_ :: _) _ _ _ _; first | refine yl_v rfl rfl rfl ?_ | refine wl_v rfl rfl rfl (by first | ((show OpV _ _ _ _ (Oper.mk _ (Op.call ⟨.value (.func 47), _, _⟩) _ _ _ _) _ _; exact ov_call Tryd.call47 rfl (by intro himp; first | rfl | (simp_all; done)) (by rfl) (fun _ _ h k => h.ext k) (fun hcg w hw => hst hw.laid))) | ((show OpV _ _ _ _ (Oper.mk _ (Op.call ⟨.value (.func 48), _, _⟩) _ _ _ _) _ _; exact ov_call Tryd.call48 rfl (by intro himp; first | rfl | (simp_all; done)) (by rfl) (fun _ _ h k => h.ext k) (fun hcg w hw => hno hw.laid))) | fail) ?_) | refine wc_ret rfl ?_) | (show WC _ (Code.cond _ _ _) _ _ _ _; (refine wc_cond rfl (fun hc => ?_) (fun hc => ?_) <;> (try (simp only [decide_eq_true_eq, decide_eq_false_iff_not, Bool.and_eq_true, Bool.or_eq_true, Bool.and_eq_false_iff, Bool.or_eq_false_iff, Bool.not_eq_true', Bool.not_eq_false', Int.not_lt, Int.not_le] at hc)) <;> (try (exfalso; first | omega | contradiction)))))
      exact wr_tmp2 rfl rfl rfl rfl rfl
theorem stand_r (c : UInt8) : ((((((((((((c.toNat : Int) < 33 ∨ 126 < (c.toNat : Int)) ∨ (c.toNat : Int) = 34) ∨ (c.toNat : Int) = 60) ∨ (c.toNat : Int) = 62) ∨ (c.toNat : Int) = 35) ∨ (c.toNat : Int) = 92) ∨ (c.toNat : Int) = 94) ∨ (c.toNat : Int) = 123) ∨ (c.toNat : Int) = 124) ∨ (c.toNat : Int) = 125) ∨ (c.toNat : Int) = 96) ↔ standC c = false := by revert c; apply all_bytes; decide +kernel
theorem rpart_ok (hM : Laid M w) (s : List UInt8) (hs : s.length ≤ 1000000000) : Calls Tryd.prog 34 #[str s] w (RetE w (.tuple #[str ((partP s).getD []), .bool (partP s).isSome])) := by
  have hno := fun {w : World} (hw : Laid M w) => rnormal_ok hw s hs
  unfold resP at hno
  refine calls_st (l := [str s]) hM Tryd.func34 rfl rfl rfl (E0 := [(0, true, str s)]) (params_cons rfl (params_nil _)) ?_
  repeat' (first | (first | refine wc_seq ?_ | refine wc_region ?_ | refine wl_nil ?_ | refine wn_seq ?_ | refine wn_blk ?_ | refine wc_skip ?_ | refine wc_block ?_ | refine wc_exit rfl ?_ | (show WL _ _ (_ :: _) _ _ _ _; first | refine yl_v rfl rfl rfl ?_ | refine wl_v rfl rfl rfl (by first  | fail) ?_) | refine wc_ret rfl ?_) | (show WC _ (Code.cond _ _ _) _ _ _ _; (refine wc_cond rfl (fun hc => ?_) (fun hc => ?_) <;> (try (simp only [decide_eq_true_eq, decide_eq_false_iff_not, Bool.and_eq_true, Bool.or_eq_true, Bool.and_eq_false_iff, Bool.or_eq_false_iff, Bool.not_eq_true', Bool.not_eq_false', Int.not_lt, Int.not_le] at hc)) <;> (try (exfalso; first | omega | contradiction)))))
  refine wc_loop (α := { i : Nat // i ≤ s.length ∧ ∀ j, j < i → standC (s.getD j 0) = true }) (fun x => [(0, true, str s), (4, true, i64 (x.1 : Int))]) (fun _ => St w [] [] M) (fun x => s.length - x.1) ⟨0, by omega, fun j hj => absurd hj (by omega)⟩ (by first | exact Sub.nil _ | (repeat (first | exact Sub.nil _ | refine Sub.cons (by first | rfl | (simp [look]; done)) ?_))) (fun _ h => h) ?_
  rintro ⟨i, hi, hall⟩
  dsimp only
  by_cases hlt : i < s.length
  · have hsr := stand_r (s.getD i 0)
    repeat' (first | refine wc_seq ?_ | refine wc_region ?_ | refine wl_nil ?_ | refine wn_seq ?_ | refine wn_blk ?_ | refine wc_skip ?_ | refine wc_block ?_ | refine wc_exit rfl ?_ | (show WL _ _ (_ :: _) _ _ _ _; first | refine yl_v rfl rfl rfl ?_ | refine wl_v rfl rfl rfl (by first  | fail) ?_) | refine wc_ret rfl ?_)
    refine wc_cond rfl (fun hc => ?_) (fun hc => ?_)
    · repeat' (first | refine wc_seq ?_ | refine wc_region ?_ | refine wl_nil ?_ | refine wn_seq ?_ | refine wn_blk ?_ | refine wc_skip ?_ | refine wc_block ?_ | refine wc_exit rfl ?_ | (show WL _ _ (_ :: _) _ _ _ _; first | refine yl_v rfl rfl rfl ?_ | refine wl_v rfl rfl rfl (by first  | fail) ?_) | refine wc_ret rfl ?_)
      refine wc_cond rfl (fun hc => ?_) (fun hc => ?_)
      · (simp only [decide_eq_true_eq, decide_eq_false_iff_not, Bool.and_eq_true, Bool.or_eq_true, Bool.and_eq_false_iff, Bool.or_eq_false_iff, Bool.not_eq_true', Bool.not_eq_false', Int.not_lt, Int.not_le] at hc)
        have hall : partP s = none := by
          unfold partP; rw [all_no (p := standC) hlt (hsr.1 hc)]; rfl
        rw [hall]
        repeat' (first | (first | refine wc_seq ?_ | refine wc_region ?_ | refine wl_nil ?_ | refine wn_seq ?_ | refine wn_blk ?_ | refine wc_skip ?_ | refine wc_block ?_ | refine wc_exit rfl ?_ | (show WL _ _ (_ :: _) _ _ _ _; first | refine yl_v rfl rfl rfl ?_ | refine wl_v rfl rfl rfl (by first  | fail) ?_) | refine wc_ret rfl ?_) | (show WC _ (Code.cond _ _ _) _ _ _ _; (refine wc_cond rfl (fun hc => ?_) (fun hc => ?_) <;> (try (simp only [decide_eq_true_eq, decide_eq_false_iff_not, Bool.and_eq_true, Bool.or_eq_true, Bool.and_eq_false_iff, Bool.or_eq_false_iff, Bool.not_eq_true', Bool.not_eq_false', Int.not_lt, Int.not_le] at hc)) <;> (try (exfalso; first | omega | contradiction)))))
        exact wr_tmp2 rfl rfl rfl rfl rfl
      · have hy : standC (s.getD i 0) = true := by
          cases hq : standC (s.getD i 0) with
          | true => rfl
          | false =>
            exfalso
            have h3 := hsr.2 hq
            (simp only [decide_eq_true_eq, decide_eq_false_iff_not, Bool.and_eq_true, Bool.or_eq_true, Bool.and_eq_false_iff, Bool.or_eq_false_iff, Bool.not_eq_true', Bool.not_eq_false', Int.not_lt, Int.not_le] at hc)
            omega
        repeat' (first | refine wc_seq ?_ | refine wc_region ?_ | refine wl_nil ?_ | refine wn_seq ?_ | refine wn_blk ?_ | refine wc_skip ?_ | refine wc_block ?_ | refine wc_exit rfl ?_ | (show WL _ _ (_ :: _) _ _ _ _; first | refine yl_v rfl rfl rfl ?_ | refine wl_v rfl rfl rfl (by first  | fail) ?_) | refine wc_ret rfl ?_)
        refine wn_cut ⟨i + 1, by omega, fun j hj => ?_⟩ (by show s.length - (i + 1) < s.length - i; omega) (by first | exact Sub.nil _ | (repeat (first | exact Sub.nil _ | refine Sub.cons (by first | rfl | (simp [look]; done)) ?_))) (fun _ h => h.drop (by repeat (first | exact List.Sublist.refl _ | apply List.Sublist.cons)))
        by_cases e : j = i
        · subst e; exact hy
        · exact hall j (by omega)
    · exfalso; simp at hc; omega
  · have hst : s.all standC = true := all_getD (p := standC) (s := s) (fun j hj => hall j (by omega))
    have hp : partP s = Pct.normal s := by unfold partP; rw [if_pos hst]
    rw [hp]
    generalize Pct.normal s = q at *
    cases q with
    | none =>
      have hno : ∀ {w : World}, Laid M w → Calls Tryd.prog 49 #[str s] w (RetE w (.tuple #[str [], i64 11])) := hno
      repeat' (first | (first | refine wc_seq ?_ | refine wc_region ?_ | refine wl_nil ?_ | refine wn_seq ?_ | refine wn_blk ?_ | refine wc_skip ?_ | refine wc_block ?_ | refine wc_exit rfl ?_ | (show WL _ _ (_ :: _) _ _ _ _; first | refine yl_v rfl rfl rfl ?_ | refine wl_v rfl rfl rfl (by first | ((show OpV _ _ _ _ (Oper.mk _ (Op.call ⟨.value (.func 49), _, _⟩) _ _ _ _) _ _; exact ov_call Tryd.call49 rfl (by intro himp; first | rfl | (simp_all; done)) (by rfl) (fun _ _ h k => h.ext k) (fun hcg w hw => hno hw.laid))) | fail) ?_) | refine wc_ret rfl ?_) | (show WC _ (Code.cond _ _ _) _ _ _ _; (refine wc_cond rfl (fun hc => ?_) (fun hc => ?_) <;> (try (simp only [decide_eq_true_eq, decide_eq_false_iff_not, Bool.and_eq_true, Bool.or_eq_true, Bool.and_eq_false_iff, Bool.or_eq_false_iff, Bool.not_eq_true', Bool.not_eq_false', Int.not_lt, Int.not_le] at hc)) <;> (try (exfalso; first | omega | contradiction)))))
      exact wr_tmp2 rfl rfl rfl rfl rfl
    | some t =>
      have hno : ∀ {w : World}, Laid M w → Calls Tryd.prog 49 #[str s] w (RetE w (.tuple #[str t, i64 0])) := hno
      repeat' (first | (first | refine wc_seq ?_ | refine wc_region ?_ | refine wl_nil ?_ | refine wn_seq ?_ | refine wn_blk ?_ | refine wc_skip ?_ | refine wc_block ?_ | refine wc_exit rfl ?_ | (show WL _ _ (_ :: _) _ _ _ _; first | refine yl_v rfl rfl rfl ?_ | refine wl_v rfl rfl rfl (by first | ((show OpV _ _ _ _ (Oper.mk _ (Op.call ⟨.value (.func 49), _, _⟩) _ _ _ _) _ _; exact ov_call Tryd.call49 rfl (by intro himp; first | rfl | (simp_all; done)) (by rfl) (fun _ _ h k => h.ext k) (fun hcg w hw => hno hw.laid))) | fail) ?_) | refine wc_ret rfl ?_) | (show WC _ (Code.cond _ _ _) _ _ _ _; (refine wc_cond rfl (fun hc => ?_) (fun hc => ?_) <;> (try (simp only [decide_eq_true_eq, decide_eq_false_iff_not, Bool.and_eq_true, Bool.or_eq_true, Bool.and_eq_false_iff, Bool.or_eq_false_iff, Bool.not_eq_true', Bool.not_eq_false', Int.not_lt, Int.not_le] at hc)) <;> (try (exfalso; first | omega | contradiction)))))
      exact wr_tmp2 rfl rfl rfl rfl rfl
theorem rfind_ok (hM : Laid M w) (s chars : List UInt8) (i0 : Nat) (p : UInt8 → Bool) (hp : ∀ c, chars.contains c = p c) (hs : s.length ≤ 1000000000) (hi0 : i0 ≤ s.length) (hl : chars.length ≤ 100) : Calls Tryd.prog 33 #[str s, i64 (i0 : Int), str chars] w (RetE w (i64 ((i0 + (wd p (s.drop i0)).length : Nat) : Int))) := by
  have hbd := rs_length p (s.drop i0)
  rw [List.length_drop] at hbd
  refine calls_st (l := [str s, i64 (i0 : Int), str chars]) hM Tryd.func33 rfl rfl rfl (E0 := [(0, true, str s), (1, true, i64 (i0 : Int)), (2, true, str chars)]) (params_cons rfl (params_cons rfl (params_cons rfl (params_nil _)))) ?_
  repeat' (first | (first | refine wc_seq ?_ | refine wc_region ?_ | refine wl_nil ?_ | refine wn_seq ?_ | refine wn_blk ?_ | refine wc_skip ?_ | refine wc_block ?_ | refine wc_exit rfl ?_ | (show WL _ _ (_ :: _) _ _ _ _; first | refine yl_v rfl rfl rfl ?_ | refine wl_v rfl rfl rfl (by first  | fail) ?_) | refine wc_ret rfl ?_) | (show WC _ (Code.cond _ _ _) _ _ _ _; (refine wc_cond rfl (fun hc => ?_) (fun hc => ?_) <;> (try (simp only [decide_eq_true_eq, decide_eq_false_iff_not, Bool.and_eq_true, Bool.or_eq_true, Bool.and_eq_false_iff, Bool.or_eq_false_iff, Bool.not_eq_true', Bool.not_eq_false', Int.not_lt, Int.not_le] at hc)) <;> (try (exfalso; first | omega | contradiction)))))
  refine wc_loop (α := { e : Nat // i0 ≤ e ∧ e ≤ i0 + (wd p (s.drop i0)).length }) (fun x => [(0, true, str s), (2, true, str chars), (7, true, i64 (x.1 : Int))]) (fun _ => St w [] [] M) (fun x => s.length - x.1) ⟨i0, by omega, by omega⟩ (by first | exact Sub.nil _ | (repeat (first | exact Sub.nil _ | refine Sub.cons (by first | rfl | (simp [look]; done)) ?_))) (fun _ h => h) ?_
  rintro ⟨e, h1, h2⟩
  dsimp only
  have hg := wd_go (p := p) (s := s) h1 h2
  by_cases hlt : e < s.length
  · repeat' (first | (first | refine wc_seq ?_ | refine wc_region ?_ | refine wl_nil ?_ | refine wn_seq ?_ | refine wn_blk ?_ | refine wc_skip ?_ | refine wc_block ?_ | refine wc_exit rfl ?_ | (show WL _ _ (_ :: _) _ _ _ _; first | refine yl_v rfl rfl rfl ?_ | refine wl_v rfl rfl rfl (by first  | fail) ?_) | refine wc_ret rfl ?_) | (show WC _ (Code.cond _ _ _) _ _ _ _; (refine wc_cond rfl (fun hc => ?_) (fun hc => ?_) <;> (try (simp only [decide_eq_true_eq, decide_eq_false_iff_not, Bool.and_eq_true, Bool.or_eq_true, Bool.and_eq_false_iff, Bool.or_eq_false_iff, Bool.not_eq_true', Bool.not_eq_false', Int.not_lt, Int.not_le] at hc)) <;> (try (exfalso; first | omega | contradiction)))))
    refine wc_loop (α := { k : Nat // k ≤ chars.length ∧ ∀ j, j < k → chars.getD j 0 ≠ s.getD e 0 }) (fun x => [(0, true, str s), (2, true, str chars), (7, true, i64 (e : Int)), (8, true, i64 (x.1 : Int))]) (fun _ => St w [] [] M) (fun x => chars.length - x.1) ⟨0, by omega, fun j hj => absurd hj (by omega)⟩ (by first | exact Sub.nil _ | (repeat (first | exact Sub.nil _ | refine Sub.cons (by first | rfl | (simp [look]; done)) ?_))) (fun _ h => h) ?_
    rintro ⟨k, hk, hno⟩
    dsimp only
    by_cases hk2 : k < chars.length
    · repeat' (first | (first | refine wc_seq ?_ | refine wc_region ?_ | refine wl_nil ?_ | refine wn_seq ?_ | refine wn_blk ?_ | refine wc_skip ?_ | refine wc_block ?_ | refine wc_exit rfl ?_ | (show WL _ _ (_ :: _) _ _ _ _; first | refine yl_v rfl rfl rfl ?_ | refine wl_v rfl rfl rfl (by first  | fail) ?_) | refine wc_ret rfl ?_) | (show WC _ (Code.cond _ _ _) _ _ _ _; (refine wc_cond rfl (fun hc => ?_) (fun hc => ?_) <;> (try (simp only [decide_eq_true_eq, decide_eq_false_iff_not, Bool.and_eq_true, Bool.or_eq_true, Bool.and_eq_false_iff, Bool.or_eq_false_iff, Bool.not_eq_true', Bool.not_eq_false', Int.not_lt, Int.not_le] at hc)) <;> (try (exfalso; first | omega | contradiction)))))
      refine wc_draw 6 (by kernel_rfl) rfl (by kernel_rfl) (fun _ _ h k => h.ext k) ?_
      repeat' (first | (show WD _ _ (_ :: _) _ _ _ _ _ _; first | refine yd_v rfl rfl rfl rfl rfl rfl ?_ | refine wd_v rfl rfl rfl rfl rfl rfl (by first  | fail) ?_ | refine yd_new rfl rfl rfl rfl rfl rfl ?_ | refine wd_conv rfl rfl rfl rfl rfl rfl rfl rfl rfl rfl ?_) | (show WD _ _ _ _ _ _ _ _ _; first | refine wd_nil ?_ | refine wd_nilF ?_) | (first | refine wc_seq ?_ | refine wc_region ?_ | refine wl_nil ?_ | refine wn_seq ?_ | refine wn_blk ?_ | refine wc_skip ?_ | refine wc_block ?_ | refine wc_exit rfl ?_ | (show WL _ _ (_ :: _) _ _ _ _; first | refine yl_v rfl rfl rfl ?_ | refine wl_v rfl rfl rfl (by first  | fail) ?_) | refine wc_ret rfl ?_))
      repeat' (first | (first | refine wc_seq ?_ | refine wc_region ?_ | refine wl_nil ?_ | refine wn_seq ?_ | refine wn_blk ?_ | refine wc_skip ?_ | refine wc_block ?_ | refine wc_exit rfl ?_ | (show WL _ _ (_ :: _) _ _ _ _; first | refine yl_v rfl rfl rfl ?_ | refine wl_v rfl rfl rfl (by first  | fail) ?_) | refine wc_ret rfl ?_) | (show WC _ (Code.cond _ _ _) _ _ _ _; (refine wc_cond rfl (fun hc => ?_) (fun hc => ?_) <;> (try (simp only [decide_eq_true_eq, decide_eq_false_iff_not, Bool.and_eq_true, Bool.or_eq_true, Bool.and_eq_false_iff, Bool.or_eq_false_iff, Bool.not_eq_true', Bool.not_eq_false', Int.not_lt, Int.not_le] at hc)) <;> (try (exfalso; first | omega | contradiction)))))
      · have hc2 := (getD_cast _ _).1 hc
        have hpt : p (s.getD e 0) = true := by
          rw [← hp, List.contains_iff_mem, hc2]
          have : chars.getD k 0 = chars[k] := by simp [hk2]
          rw [this]; exact List.getElem_mem _
        have hee : e = i0 + (wd p (s.drop i0)).length := by
          rcases Nat.lt_or_ge e (i0 + (wd p (s.drop i0)).length) with h | h
          · have := (hg.2 h).2; rw [hpt] at this; cases this
          · omega
        exact wr_tmp rfl rfl (by rw [← hee])
      · refine wn_cut ⟨k + 1, by omega, fun j hj => ?_⟩ (by show chars.length - (k + 1) < chars.length - k; omega) (by first | exact Sub.nil _ | (repeat (first | exact Sub.nil _ | refine Sub.cons (by first | rfl | (simp [look]; done)) ?_))) (fun _ h => h.drop (by repeat (first | exact List.Sublist.refl _ | apply List.Sublist.cons)))
        by_cases hj2 : j = k
        · subst hj2
          intro h; exact hc ((getD_cast _ _).2 h.symm)
        · exact hno j (by omega)
    · repeat' (first | (first | refine wc_seq ?_ | refine wc_region ?_ | refine wl_nil ?_ | refine wn_seq ?_ | refine wn_blk ?_ | refine wc_skip ?_ | refine wc_block ?_ | refine wc_exit rfl ?_ | (show WL _ _ (_ :: _) _ _ _ _; first | refine yl_v rfl rfl rfl ?_ | refine wl_v rfl rfl rfl (by first  | fail) ?_) | refine wc_ret rfl ?_) | (show WC _ (Code.cond _ _ _) _ _ _ _; (refine wc_cond rfl (fun hc => ?_) (fun hc => ?_) <;> (try (simp only [decide_eq_true_eq, decide_eq_false_iff_not, Bool.and_eq_true, Bool.or_eq_true, Bool.and_eq_false_iff, Bool.or_eq_false_iff, Bool.not_eq_true', Bool.not_eq_false', Int.not_lt, Int.not_le] at hc)) <;> (try (exfalso; first | omega | contradiction)))))
      have hpf : p (s.getD e 0) = false := by
        rw [← hp, Bool.eq_false_iff]
        intro h
        rw [List.contains_iff_mem] at h
        obtain ⟨j, hj, hje⟩ := List.mem_iff_getElem.1 h
        refine hno j (by omega) ?_
        rw [← hje]; simp [hj]
      have := hg.1 ⟨hlt, hpf⟩
      exact wn_cut ⟨e + 1, by omega, by omega⟩ (by show s.length - (e + 1) < s.length - e; omega) (by first | exact Sub.nil _ | (repeat (first | exact Sub.nil _ | refine Sub.cons (by first | rfl | (simp [look]; done)) ?_))) (fun _ h => h.drop (by repeat (first | exact List.Sublist.refl _ | apply List.Sublist.cons)))
  · have hee : s.length = i0 + (wd p (s.drop i0)).length := by omega
    repeat' (first | (first | refine wc_seq ?_ | refine wc_region ?_ | refine wl_nil ?_ | refine wn_seq ?_ | refine wn_blk ?_ | refine wc_skip ?_ | refine wc_block ?_ | refine wc_exit rfl ?_ | (show WL _ _ (_ :: _) _ _ _ _; first | refine yl_v rfl rfl rfl ?_ | refine wl_v rfl rfl rfl (by first  | fail) ?_) | refine wc_ret rfl ?_) | (show WC _ (Code.cond _ _ _) _ _ _ _; (refine wc_cond rfl (fun hc => ?_) (fun hc => ?_) <;> (try (simp only [decide_eq_true_eq, decide_eq_false_iff_not, Bool.and_eq_true, Bool.or_eq_true, Bool.and_eq_false_iff, Bool.or_eq_false_iff, Bool.not_eq_true', Bool.not_eq_false', Int.not_lt, Int.not_le] at hc)) <;> (try (exfalso; first | omega | contradiction)))))
    exact wr_tmp rfl rfl (by rw [← hee])
theorem dig_cv (n : Nat) : 48 + (n : Int) % 10 = ((48 + n % 10 : Nat) : Int) := by omega
theorem digits_ok (hM : Laid M w) (n : Nat) (hn : n ≤ 9223372036854775807) : Calls Tryd.prog 38 #[i64 (n : Int)] w (RetE w (str (Lib.decDigits n))) := by
  refine calls_st (l := [i64 (n : Int)]) hM Tryd.func38 rfl rfl rfl (E0 := [(0, true, i64 (n : Int))]) (params_cons rfl (params_nil _)) ?_
  repeat' (first | (first | refine wc_seq ?_ | refine wc_region ?_ | refine wl_nil ?_ | refine wn_seq ?_ | refine wn_blk ?_ | refine wc_skip ?_ | refine wc_block ?_ | refine wc_exit rfl ?_ | (show WL _ _ (_ :: _) _ _ _ _; first | refine yl_v rfl rfl rfl ?_ | refine wl_v rfl rfl rfl (by first  | fail) ?_ | refine xl_buildSlice rfl (fun _ => ?_)) | refine wc_ret rfl ?_) | (show WC _ (Code.cond _ _ _) _ _ _ _; (refine wc_cond rfl (fun hc => ?_) (fun hc => ?_) <;> (try (simp only [decide_eq_true_eq, decide_eq_false_iff_not, Bool.and_eq_true, Bool.or_eq_true, Bool.and_eq_false_iff, Bool.or_eq_false_iff, Bool.not_eq_true', Bool.not_eq_false', Int.not_lt, Int.not_le] at hc)) <;> (try (exfalso; first | omega | contradiction)))))
  refine wc_loop (α := { x : Nat × List UInt8 // Lib.decDigits n = Lib.decDigits x.1 ++ x.2 ∧ x.1 * 10 ^ x.2.length ≤ n ∧ (x.2 = [] ∨ 1 ≤ x.1) }) (fun x => [(0, true, i64 (x.1.1 : Int)), (3, true, str x.1.2)]) (fun _ => St w [] [] M) (fun x => x.1.1) ⟨(n, []), by simp, by simp, .inl rfl⟩ (by first | exact Sub.nil _ | (repeat (first | exact Sub.nil _ | refine Sub.cons (by first | rfl | (simp [look]; done)) ?_))) (fun _ h => h) ?_
  rintro ⟨⟨m, s⟩, h1, h2, h3⟩
  dsimp only at h1 h2 h3 ⊢
  have hmn : m ≤ n := Nat.le_trans (Nat.le_mul_of_pos_right m (Nat.pow_pos (by decide))) h2
  have hsl : s.length ≤ 20 := by
    rcases h3 with rfl | h3
    · simp
    · rcases Nat.lt_or_ge 20 s.length with h | h
      · exfalso
        have h4 : 10 ^ 21 ≤ 10 ^ s.length := Nat.pow_le_pow_right (by decide) h
        have h5 : 1 * 10 ^ s.length ≤ m * 10 ^ s.length := Nat.mul_le_mul_right _ h3
        have h6 : (10 : Nat) ^ 21 = 1000000000000000000000 := by decide
        omega
      · exact h
  repeat' (first | (first | refine wc_seq ?_ | refine wc_region ?_ | refine wl_nil ?_ | refine wn_seq ?_ | refine wn_blk ?_ | refine wc_skip ?_ | refine wc_block ?_ | refine wc_exit rfl ?_ | (show WL _ _ (_ :: _) _ _ _ _; first | refine yl_v rfl rfl rfl ?_ | refine wl_v rfl rfl rfl (by first  | fail) ?_ | refine xl_buildSlice rfl (fun _ => ?_)) | refine wc_ret rfl ?_) | (show WC _ (Code.cond _ _ _) _ _ _ _; (refine wc_cond rfl (fun hc => ?_) (fun hc => ?_) <;> (try (simp only [decide_eq_true_eq, decide_eq_false_iff_not, Bool.and_eq_true, Bool.or_eq_true, Bool.and_eq_false_iff, Bool.or_eq_false_iff, Bool.not_eq_true', Bool.not_eq_false', Int.not_lt, Int.not_le] at hc)) <;> (try (exfalso; first | omega | contradiction)))))
  · refine wn_cut ⟨(m / 10, UInt8.ofNat (48 + m % 10) :: s), ?_, ?_, .inr (by show 1 ≤ m / 10; omega)⟩ (by show m / 10 < m; omega) (Eng.Sub.cons ?_ (Eng.Sub.cons ?_ (Eng.Sub.nil _))) (fun _ h => h.drop (by repeat (first | exact List.Sublist.refl _ | apply List.Sublist.cons)))
    · rw [h1, Lib.decDigits, dif_neg (by omega)]; simp
    · show m / 10 * 10 ^ (s.length + 1) ≤ n
      rw [Nat.pow_succ, Nat.mul_comm (10 ^ s.length) 10, ← Nat.mul_assoc]
      exact Nat.le_trans (Nat.mul_le_mul_right _ (Nat.div_mul_le_self m 10)) h2
    · simp only [look]; rfl
    · simp only [look]
      have e : UInt8.ofNat (48 + (m : Int) % 10).toNat = UInt8.ofNat (48 + m % 10) := by congr 1
      rw [e]; rfl
  · refine wr_tmp rfl rfl ?_
    rw [h1, Lib.decDigits, dif_pos (by omega)]
    have e : UInt8.ofNat (48 + (m : Int)).toNat = UInt8.ofNat (48 + m) := by congr 1
    rw [e]
end Go.Proofs.YtmmoglgagifdfaaDoor
/-
  The walk of Dots: the package's, the document's.
-/
namespace Go.Proofs.YtmmoglgagifdfaaDoor
open Go.Eng Go.Pct Go.Txt Go.Url
set_option maxRecDepth 10000
set_option linter.unusedSimpArgs false
set_option linter.unusedVariables false

variable {M : Ghost} {w : World}
theorem hpre_ok (hM : Laid M w) (s p : List UInt8) : Calls Tryd.prog 29 #[str s, str p] w (RetE w (.bool (Lib.hasPrefix s p))) := by
  refine (Tryd.strings_HasPrefix ⟨s.toArray⟩ ⟨p.toArray⟩ w).mono ?_
  rintro e w' ⟨rfl, rfl⟩
  exact ⟨rfl, Keep.refl _ _⟩
theorem pre1 {d : UInt8} {s : List UInt8} : (Lib.hasPrefix s [d] = true ∧ ∃ r, s = d :: r) ∨ (Lib.hasPrefix s [d] = false ∧ ∀ r, s ≠ d :: r) := by
  unfold Lib.hasPrefix
  match s with
  | [] => exact .inr ⟨rfl, fun r h => by cases h⟩
  | c :: r =>
    by_cases h : d = c
    · subst h; exact .inl ⟨by simp [List.isPrefixOf], r, rfl⟩
    · refine .inr ⟨by simp [List.isPrefixOf, h], fun q e => ?_⟩
      injection e with e _; exact h e.symm
theorem OwnS.less {e : TypeId} {m len cap q : Nat} {a : Option Addr} {Hs : List (Nat × Obj)} {xs : List Value} (h : OwnS e m (.slice a len cap) Hs xs) (hq : q ≤ len) : OwnS e m (.slice a q cap) Hs (xs.take (q * m)) := by
  rcases h with ⟨h, h2, h3⟩ | ⟨b', len', cap', cur, h1, h2, h3, h4, h5, h6, h7⟩
  · cases h
    obtain rfl : q = 0 := by omega
    subst h2 h3
    rw [List.take_nil]
    exact OwnS.nil
  · cases h1
    exact OwnS.shrink (.inr ⟨b', _, _, cur, rfl, h2, h3, h4, h5, h6, h7⟩) hq
theorem OwnS.le {e : TypeId} {m len cap : Nat} {a : Option Addr} {Hs : List (Nat × Obj)} {xs : List Value} (h : OwnS e m (.slice a len cap) Hs xs) : len ≤ cap := by
  rcases h with ⟨h, _⟩ | ⟨b', len', cap', cur, h1, h2, h3, h4, _⟩
  · cases h; exact Nat.le_refl _
  · cases h1; exact h4
theorem cellsS_take (l : List (List UInt8)) (q : Nat) : (cellsS l).take (q * 1) = cellsS (l.take q) := by
  rw [Nat.mul_one]; simp [cellsS, List.map_take]
theorem dotGo_succ {l : List (List UInt8)} {i : Nat} (h : i < l.length) : dotGo (l.take (i + 1)) = dotStep (dotGo (l.take i)) (l.getD i default) := by
  unfold dotGo
  rw [List.take_succ_eq_append_getElem h, List.foldl_append]
  simp [h]
theorem dotStep_len (k : List (List UInt8) × Bool) (x : List UInt8) : (dotStep k x).1.length ≤ k.1.length + 1 := by
  unfold dotStep
  split
  · simp
  · split
    · simp; omega
    · simp
theorem dotGo_len {l : List (List UInt8)} : ∀ {i : Nat}, i ≤ l.length → (dotGo (l.take i)).1.length ≤ i
  | 0, _ => by simp [dotGo]
  | i + 1, h => by
    have h1 := dotGo_len (l := l) (i := i) (by omega)
    rw [dotGo_succ (by omega)]
    have := dotStep_len (dotGo (l.take i)) (l.getD i default)
    omega
theorem dotStep_mem {P : List UInt8 → Prop} {k : List (List UInt8) × Bool} {x : List UInt8} (hk : ∀ y ∈ k.1, P y) (hx : P x) : ∀ y ∈ (dotStep k x).1, P y := by
  unfold dotStep
  split
  · exact hk
  · split
    · exact fun y hy => hk y (List.dropLast_subset _ hy)
    · intro y hy
      rcases List.mem_append.1 hy with h | h
      · exact hk y h
      · rw [List.mem_singleton] at h; subst h; exact hx
theorem dotGo_mem {P : List UInt8 → Prop} {l : List (List UInt8)} (h : ∀ y ∈ l, P y) : ∀ y ∈ (dotGo l).1, P y := by
  unfold dotGo
  suffices key : ∀ (l : List (List UInt8)) (k : List (List UInt8) × Bool), (∀ y ∈ k.1, P y) → (∀ y ∈ l, P y) → ∀ y ∈ (l.foldl dotStep k).1, P y from key l _ (fun y hy => by cases hy) h
  intro l
  induction l with
  | nil => intro k hk _; exact hk
  | cons x l ih => intro k hk hl; exact ih _ (dotStep_mem hk (hl x List.mem_cons_self)) (fun y hy => hl y (List.mem_cons_of_mem _ hy))
theorem slashed_succ {l : List (List UInt8)} {i : Nat} (h : i < l.length) : slashed (l.take (i + 1)) = slashed (l.take i) ++ (47 :: l.getD i default) := by
  unfold slashed
  rw [List.take_succ_eq_append_getElem h, List.flatMap_append]
  simp [h]
theorem slashed_len {l : List (List UInt8)} {m : Nat} (h : ∀ y ∈ l, y.length ≤ m) : ∀ i, i ≤ l.length → (slashed (l.take i)).length ≤ i * (m + 1)
  | 0, _ => by simp [slashed]
  | i + 1, hi => by
    have h1 := slashed_len h i (by omega)
    have h2 := h (l.getD i default) (by have e : l.getD i default = l[i] := by simp [show i < l.length by omega]
                                        rw [e]; exact List.getElem_mem _)
    rw [slashed_succ (by omega), List.length_append, List.length_cons, Nat.succ_mul]
    omega
/-- as far as the segments have been read -/
structure DQ (l : List (List UInt8)) where
  i : Nat
  v : Value
  Hs : List (Nat × Obj)
  le : i ≤ l.length
  own : OwnS 9 1 v Hs (cellsS (dotGo (l.take i)).1)
set_option maxHeartbeats 1000000 in
theorem udots_ok (hG : Glob M) (hM : Laid M w) (s : List UInt8) (hs : s.length ≤ 1000000) : Calls Tryd.prog 14 #[str s] w (RetE w (str (dots s))) := by
  have hpx := fun {w : World} (hw : Laid M w) => hpre_ok hw s [47]
  refine calls_st (l := [str s]) hM Tryd.func14 rfl rfl rfl (E0 := [(0, true, str s)]) (params_cons rfl (params_nil _)) ?_
  rcases pre1 (d := 47) (s := s) with ⟨hp, r, rfl⟩ | ⟨hp, hno⟩
  · rw [hp] at hpx
    simp only [List.length_cons] at hs
    repeat' (first | (first | refine wc_seq ?_ | refine wc_region ?_ | refine wl_nil ?_ | refine wn_seq ?_ | refine wn_blk ?_ | refine wc_skip ?_ | refine wc_scope ?_ | refine wc_label ?_ | refine wn_noGoto ?_ | refine wc_block ?_ | refine wc_exit rfl ?_ | (show WL _ _ (_ :: _) _ _ _ _; first | refine yl_v rfl rfl rfl ?_ | refine wl_v rfl rfl rfl (by first | ((show OpV _ _ _ _ (Oper.mk _ (Op.call ⟨.value (.func 29), _, _⟩) _ _ _ _) _ _; exact ov_call Tryd.call29 rfl (by intro himp; first | rfl | (simp_all; done)) (by rfl) (fun _ _ h k => h.ext k) (fun hcg w hw => hpx hw.laid))) | (show OpV _ _ _ _ (Oper.mk _ (Op.slice _ _ (some _) none none) _ _ _ _) _ _; exact ov_from (i := 1) rfl rfl rfl (by first | with_reducible exact fun _ => rfl | with_reducible exact fun h => h | exact fun _ => rfl | exact fun h => h | (intro himp; simp_all; done)) (by first | with_reducible exact fun _ => rfl | with_reducible exact fun h => h | exact fun _ => rfl | exact fun h => h | (intro himp; simp_all; done)) rfl (fun _ => by simp)) | fail) ?_ | refine xl_buildSlice rfl (fun _ => ?_)) | refine wc_ret rfl ?_) | (show WC _ (Code.cond _ _ _) _ _ _ _; (refine wc_cond rfl (fun hc => ?_) (fun hc => ?_) <;> (try (simp only [decide_eq_true_eq, decide_eq_false_iff_not, Bool.and_eq_true, Bool.or_eq_true, Bool.and_eq_false_iff, Bool.or_eq_false_iff, Bool.not_eq_true', Bool.not_eq_false', Int.not_lt, Int.not_le] at hc)) <;> (try (exfalso; first | omega | contradiction)))))
    refine wl_callS rfl Tryd.call35 rfl rfl rfl rfl (fun w hw => split_ok hG hw.laid r 47 (by omega)) ?_
    rintro v1 H1 M1 hm1 hn1 ⟨rfl, hS⟩
    have hpl := pieces_length 47 r
    have hpt := pieces_total 47 r
    show WL _ _ _ _ _ _ _
    have hd : dots (47 :: r) = slashed (dotGo (pieces 47 r)).1 ++ (if (dotGo (pieces 47 r)).2 = true ∨ (dotGo (pieces 47 r)).1 = [] then [47] else []) := rfl
    rw [hd]
    generalize pieces 47 r = l at *
    obtain ⟨a, cap, b, o, cs, T, fz, rfl, h1, h2, h3, h4⟩ := hS.open
    repeat' (first | (first | refine wc_seq ?_ | refine wc_region ?_ | refine wl_nil ?_ | refine wn_seq ?_ | refine wn_blk ?_ | refine wc_skip ?_ | refine wc_scope ?_ | refine wc_label ?_ | refine wn_noGoto ?_ | refine wc_block ?_ | refine wc_exit rfl ?_ | (show WL _ _ (_ :: _) _ _ _ _; first | refine yl_v rfl rfl rfl ?_ | refine wl_v rfl rfl rfl (by first  | fail) ?_ | refine xl_buildSlice rfl (fun _ => ?_)) | refine wc_ret rfl ?_) | (show WC _ (Code.cond _ _ _) _ _ _ _; (refine wc_cond rfl (fun hc => ?_) (fun hc => ?_) <;> (try (simp only [decide_eq_true_eq, decide_eq_false_iff_not, Bool.and_eq_true, Bool.or_eq_true, Bool.and_eq_false_iff, Bool.or_eq_false_iff, Bool.not_eq_true', Bool.not_eq_false', Int.not_lt, Int.not_le] at hc)) <;> (try (exfalso; first | omega | contradiction)))))
    refine wc_loop (α := DQ l) (fun x => [(3, true, x.v), (4, true, .bool (dotGo (l.take x.i)).2), (16, true, .slice a l.length cap), (17, true, i64 (l.length : Int)), (18, true, i64 (x.i : Int))]) (fun x => St w [] x.Hs M1) (fun x => l.length - x.i) ⟨0, .slice none 0 0, [], Nat.zero_le _, OwnS.nil⟩ (by first | exact Sub.nil _ | (repeat (first | exact Sub.nil _ | refine Sub.cons (by first | rfl | (simp [look]; done)) ?_))) (fun _ h => h) ?_
    rintro ⟨i, v, Hs, hi, own⟩
    dsimp only
    by_cases hlt : i < l.length
    · have hdl := dotGo_len (l := l) hi
      have hne : l ≠ [] := by rintro rfl; simp at hlt
      obtain ⟨rfl, hMb⟩ := h3 hne
      have hcell := h4 i hlt
      have hds := dotGo_succ hlt
      obtain ⟨va, vcap, rfl⟩ := own.slice (k := (dotGo (l.take i)).1.length) (by decide) (cellsS_length _)
      have hcap := OwnS.le own
      generalize l.getD i default = x at *
      generalize dotGo (l.take i) = K at *
      obtain ⟨K1, K2⟩ := K
      dsimp only at *
      by_cases hx1 : x = [46]
      · subst hx1
        have hn : dotGo (l.take (i + 1)) = (K1, true) := by rw [hds]; rfl
        repeat' (first | (first | refine wc_seq ?_ | refine wc_region ?_ | refine wl_nil ?_ | refine wn_seq ?_ | refine wn_blk ?_ | refine wc_skip ?_ | refine wc_scope ?_ | refine wc_label ?_ | refine wn_noGoto ?_ | refine wc_block ?_ | refine wc_exit rfl ?_ | (show WL _ _ (_ :: _) _ _ _ _; first | refine yl_v rfl rfl rfl ?_ | refine wl_v rfl rfl rfl (by first | (show OpV _ _ _ _ (Oper.mk _ (Op.indexAddr _ _ _) _ _ _ _) _ _; exact ov_indexAddr (i := i) (b := b) (o := o) rfl rfl rfl (by first | with_reducible exact fun _ => rfl | with_reducible exact fun h => h | exact fun _ => rfl | exact fun h => h | (intro himp; simp_all; done)) (by first | with_reducible exact fun _ => rfl | with_reducible exact fun h => h | exact fun _ => rfl | exact fun h => h | (intro himp; simp_all; done)) rfl (by first | exact (rfl : _ = some 1) | exact (rfl : _ = some 2) | exact (rfl : _ = some 3) | exact (rfl : _ = some 4) | exact (rfl : _ = some 6) | exact rfl) (fun _ => rfl) (by intro hcg; first | omega | (simp at hcg; omega))) | (show OpV _ _ _ _ (Oper.mk _ (Op.load _ _) _ _ _ _) _ _; exact ov_load1M rfl (by first | with_reducible exact fun _ => rfl | with_reducible exact fun h => h | exact fun _ => rfl | exact fun h => h | (intro himp; simp_all; done)) rfl rfl (fun _ => hMb) (fun _ => hcell)) | fail) ?_ | refine xl_buildSlice rfl (fun _ => ?_)) | refine wc_ret rfl ?_) | (show WC _ (Code.cond _ _ _) _ _ _ _; (refine wc_cond rfl (fun hc => ?_) (fun hc => ?_) <;> (try (simp only [decide_eq_true_eq, decide_eq_false_iff_not, Bool.and_eq_true, Bool.or_eq_true, Bool.and_eq_false_iff, Bool.or_eq_false_iff, Bool.not_eq_true', Bool.not_eq_false', Int.not_lt, Int.not_le] at hc)) <;> (try (exfalso; first | omega | contradiction)))))
        exact wn_cut ⟨i + 1, .slice va K1.length vcap, Hs, by omega, by rw [hn]; exact own⟩ (by show l.length - (i + 1) < l.length - i; omega) (Eng.Sub.cons rfl (Eng.Sub.cons (by show some (true, Value.bool true) = some (true, Value.bool (dotGo (l.take (i + 1))).2); rw [hn]) (by first | exact Sub.nil _ | (repeat (first | exact Sub.nil _ | refine Sub.cons (by first | rfl | (simp [look]; done)) ?_))))) (fun _ h => h)
      by_cases hx2 : x = [46, 46]
      · subst hx2
        have hn : dotGo (l.take (i + 1)) = (K1.dropLast, true) := by rw [hds]; rfl
        repeat' (first | (first | refine wc_seq ?_ | refine wc_region ?_ | refine wl_nil ?_ | refine wn_seq ?_ | refine wn_blk ?_ | refine wc_skip ?_ | refine wc_scope ?_ | refine wc_label ?_ | refine wn_noGoto ?_ | refine wc_block ?_ | refine wc_exit rfl ?_ | (show WL _ _ (_ :: _) _ _ _ _; first | refine yl_v rfl rfl rfl ?_ | refine wl_v rfl rfl rfl (by first | (show OpV _ _ _ _ (Oper.mk _ (Op.indexAddr _ _ _) _ _ _ _) _ _; exact ov_indexAddr (i := i) (b := b) (o := o) rfl rfl rfl (by first | with_reducible exact fun _ => rfl | with_reducible exact fun h => h | exact fun _ => rfl | exact fun h => h | (intro himp; simp_all; done)) (by first | with_reducible exact fun _ => rfl | with_reducible exact fun h => h | exact fun _ => rfl | exact fun h => h | (intro himp; simp_all; done)) rfl (by first | exact (rfl : _ = some 1) | exact (rfl : _ = some 2) | exact (rfl : _ = some 3) | exact (rfl : _ = some 4) | exact (rfl : _ = some 6) | exact rfl) (fun _ => rfl) (by intro hcg; first | omega | (simp at hcg; omega))) | (show OpV _ _ _ _ (Oper.mk _ (Op.load _ _) _ _ _ _) _ _; exact ov_load1M rfl (by first | with_reducible exact fun _ => rfl | with_reducible exact fun h => h | exact fun _ => rfl | exact fun h => h | (intro himp; simp_all; done)) rfl rfl (fun _ => hMb) (fun _ => hcell)) | (show OpV _ _ _ _ (Oper.mk _ (Op.call ⟨.builtin .max, _, _⟩) _ _ _ _) _ _; exact ov_max (r := ((K1.length - 1 : Nat) : Int)) rfl rfl (by first | with_reducible exact fun _ => rfl | with_reducible exact fun h => h | exact fun _ => rfl | exact fun h => h | (intro himp; simp_all; done)) (by first | with_reducible exact fun _ => rfl | with_reducible exact fun h => h | exact fun _ => rfl | exact fun h => h | (intro himp; simp_all; done)) (by split <;> omega)) | fail) ?_ | refine xl_buildSlice rfl (fun _ => ?_)) | refine wc_ret rfl ?_) | (show WC _ (Code.cond _ _ _) _ _ _ _; (refine wc_cond rfl (fun hc => ?_) (fun hc => ?_) <;> (try (simp only [decide_eq_true_eq, decide_eq_false_iff_not, Bool.and_eq_true, Bool.or_eq_true, Bool.and_eq_false_iff, Bool.or_eq_false_iff, Bool.not_eq_true', Bool.not_eq_false', Int.not_lt, Int.not_le] at hc)) <;> (try (exfalso; first | omega | contradiction)))))
        have own2 := OwnS.less own (q := K1.length - 1) (by omega)
        rw [cellsS_take, ← List.dropLast_eq_take] at own2
        exact wn_cut ⟨i + 1, .slice va (K1.length - 1) vcap, Hs, by omega, by rw [hn]; exact own2⟩ (by show l.length - (i + 1) < l.length - i; omega) (Eng.Sub.cons rfl (Eng.Sub.cons (by show some (true, Value.bool true) = some (true, Value.bool (dotGo (l.take (i + 1))).2); rw [hn]) (by first | exact Sub.nil _ | (repeat (first | exact Sub.nil _ | refine Sub.cons (by first | rfl | (simp [look]; done)) ?_))))) (fun _ h => h)
      · have hn : dotGo (l.take (i + 1)) = (K1 ++ [x], false) := by rw [hds]; unfold dotStep; rw [if_neg hx1, if_neg hx2]
        repeat' (first | (first | refine wc_seq ?_ | refine wc_region ?_ | refine wl_nil ?_ | refine wn_seq ?_ | refine wn_blk ?_ | refine wc_skip ?_ | refine wc_scope ?_ | refine wc_label ?_ | refine wn_noGoto ?_ | refine wc_block ?_ | refine wc_exit rfl ?_ | (show WL _ _ (_ :: _) _ _ _ _; first | refine yl_v rfl rfl rfl ?_ | refine wl_v rfl rfl rfl (by first | (show OpV _ _ _ _ (Oper.mk _ (Op.indexAddr _ _ _) _ _ _ _) _ _; exact ov_indexAddr (i := i) (b := b) (o := o) rfl rfl rfl (by first | with_reducible exact fun _ => rfl | with_reducible exact fun h => h | exact fun _ => rfl | exact fun h => h | (intro himp; simp_all; done)) (by first | with_reducible exact fun _ => rfl | with_reducible exact fun h => h | exact fun _ => rfl | exact fun h => h | (intro himp; simp_all; done)) rfl (by first | exact (rfl : _ = some 1) | exact (rfl : _ = some 2) | exact (rfl : _ = some 3) | exact (rfl : _ = some 4) | exact (rfl : _ = some 6) | exact rfl) (fun _ => rfl) (by intro hcg; first | omega | (simp at hcg; omega))) | (show OpV _ _ _ _ (Oper.mk _ (Op.load _ _) _ _ _ _) _ _; exact ov_load1M rfl (by first | with_reducible exact fun _ => rfl | with_reducible exact fun h => h | exact fun _ => rfl | exact fun h => h | (intro himp; simp_all; done)) rfl rfl (fun _ => hMb) (fun _ => hcell)) | fail) ?_ | refine xl_buildSlice rfl (fun _ => ?_)) | refine wc_ret rfl ?_) | (show WC _ (Code.cond _ _ _) _ _ _ _; (refine wc_cond rfl (fun hc => ?_) (fun hc => ?_) <;> (try (simp only [decide_eq_true_eq, decide_eq_false_iff_not, Bool.and_eq_true, Bool.or_eq_true, Bool.and_eq_false_iff, Bool.or_eq_false_iff, Bool.not_eq_true', Bool.not_eq_false', Int.not_lt, Int.not_le] at hc)) <;> (try (exfalso; first | omega | contradiction)))))
        rename_i b35
        refine wl_append (news := [str x]) (H0 := []) rfl own rfl rfl rfl rfl rfl rfl rfl rfl rfl rfl (List.Mem.head _) rfl rfl (by simp only [List.append_nil]; exact (by repeat (first | exact List.Sublist.refl _ | apply List.Sublist.cons))) (by rw [cellsS_length]; omega) rfl ?_
        intro v' Hs' ho'
        rw [← cellsS_snoc K1 x] at ho'
        repeat' (first | (first | refine wc_seq ?_ | refine wc_region ?_ | refine wl_nil ?_ | refine wn_seq ?_ | refine wn_blk ?_ | refine wc_skip ?_ | refine wc_scope ?_ | refine wc_label ?_ | refine wn_noGoto ?_ | refine wc_block ?_ | refine wc_exit rfl ?_ | (show WL _ _ (_ :: _) _ _ _ _; first | refine yl_v rfl rfl rfl ?_ | refine wl_v rfl rfl rfl (by first  | fail) ?_ | refine xl_buildSlice rfl (fun _ => ?_)) | refine wc_ret rfl ?_) | (show WC _ (Code.cond _ _ _) _ _ _ _; (refine wc_cond rfl (fun hc => ?_) (fun hc => ?_) <;> (try (simp only [decide_eq_true_eq, decide_eq_false_iff_not, Bool.and_eq_true, Bool.or_eq_true, Bool.and_eq_false_iff, Bool.or_eq_false_iff, Bool.not_eq_true', Bool.not_eq_false', Int.not_lt, Int.not_le] at hc)) <;> (try (exfalso; first | omega | contradiction)))))
        exact wn_cut ⟨i + 1, v', Hs', by omega, by rw [hn]; exact ho'⟩ (by show l.length - (i + 1) < l.length - i; omega) (Eng.Sub.cons rfl (Eng.Sub.cons (by show some (true, Value.bool false) = some (true, Value.bool (dotGo (l.take (i + 1))).2); rw [hn]) (by first | exact Sub.nil _ | (repeat (first | exact Sub.nil _ | refine Sub.cons (by first | rfl | (simp [look]; done)) ?_))))) (fun _ h => by simpa using h)
    obtain rfl : i = l.length := by omega
    have hdl := dotGo_len (l := l) (Nat.le_refl _)
    rw [List.take_length] at own hdl ⊢
    have hmem := dotGo_mem (P := fun y => y.length ≤ r.length) hpt
    have hsl := slashed_len hmem
    obtain ⟨va, vcap, rfl⟩ := own.slice (k := (dotGo l).1.length) (by decide) (cellsS_length _)
    generalize dotGo l = K at *
    obtain ⟨K1, K2⟩ := K
    dsimp only at *
    refine wc_weak (C' := St w [] (Hs ++ []) M1) (Eng.Sub.refl _) (fun _ h => by simpa using h) ?_
    refine wc_publish (fun hnew => ?_)
    have hks : SlS (With M1 Hs) (.slice va K1.length vcap) K1 := own.slS (fun p hp => .inr hp) (by omega)
    clear own hnew
    generalize With M1 Hs = M2 at *
    obtain ⟨a', cap', b', o', cs', T', fz', hv', k1, k2, k3, k4⟩ := hks.open
    cases hv'
    repeat' (first | (first | refine wc_seq ?_ | refine wc_region ?_ | refine wl_nil ?_ | refine wn_seq ?_ | refine wn_blk ?_ | refine wc_skip ?_ | refine wc_scope ?_ | refine wc_label ?_ | refine wn_noGoto ?_ | refine wc_block ?_ | refine wc_exit rfl ?_ | (show WL _ _ (_ :: _) _ _ _ _; first | refine yl_v rfl rfl rfl ?_ | refine wl_v rfl rfl rfl (by first  | fail) ?_ | refine xl_buildSlice rfl (fun _ => ?_)) | refine wc_ret rfl ?_) | (show WC _ (Code.cond _ _ _) _ _ _ _; (refine wc_cond rfl (fun hc => ?_) (fun hc => ?_) <;> (try (simp only [decide_eq_true_eq, decide_eq_false_iff_not, Bool.and_eq_true, Bool.or_eq_true, Bool.and_eq_false_iff, Bool.or_eq_false_iff, Bool.not_eq_true', Bool.not_eq_false', Int.not_lt, Int.not_le] at hc)) <;> (try (exfalso; first | omega | contradiction)))))
    refine wc_loop (α := { j : Nat // j ≤ K1.length }) (fun x => [(3, true, .slice va K1.length vcap), (4, true, .bool K2), (7, true, str (slashed (K1.take x.1))), (38, true, .slice va K1.length vcap), (39, true, i64 (K1.length : Int)), (40, true, i64 (x.1 : Int))]) (fun _ => St w [] [] M2) (fun x => K1.length - x.1) ⟨0, by omega⟩ (by first | exact Sub.nil _ | (repeat (first | exact Sub.nil _ | refine Sub.cons (by first | rfl | (simp [look]; done)) ?_))) (fun _ h => h) ?_
    rintro ⟨j, hj⟩
    dsimp only
    have hslj := hsl j hj
    have hbig : j * (r.length + 1) ≤ 2000000 * 2000000 := Nat.mul_le_mul (by omega) (by omega)
    by_cases hlt : j < K1.length
    · have hne : K1 ≠ [] := by rintro rfl; simp at hlt
      obtain ⟨rfl, hMb⟩ := k3 hne
      have hcell := k4 j hlt
      have hxl := hmem (K1.getD j default) (by have e : K1.getD j default = K1[j] := by simp [hlt]
                                               rw [e]; exact List.getElem_mem _)
      repeat' (first | (first | refine wc_seq ?_ | refine wc_region ?_ | refine wl_nil ?_ | refine wn_seq ?_ | refine wn_blk ?_ | refine wc_skip ?_ | refine wc_scope ?_ | refine wc_label ?_ | refine wn_noGoto ?_ | refine wc_block ?_ | refine wc_exit rfl ?_ | (show WL _ _ (_ :: _) _ _ _ _; first | refine yl_v rfl rfl rfl ?_ | refine wl_v rfl rfl rfl (by first | (show OpV _ _ _ _ (Oper.mk _ (Op.indexAddr _ _ _) _ _ _ _) _ _; exact ov_indexAddr (i := j) (b := b') (o := o') rfl rfl rfl (by first | with_reducible exact fun _ => rfl | with_reducible exact fun h => h | exact fun _ => rfl | exact fun h => h | (intro himp; simp_all; done)) (by first | with_reducible exact fun _ => rfl | with_reducible exact fun h => h | exact fun _ => rfl | exact fun h => h | (intro himp; simp_all; done)) rfl (by first | exact (rfl : _ = some 1) | exact (rfl : _ = some 2) | exact (rfl : _ = some 3) | exact (rfl : _ = some 4) | exact (rfl : _ = some 6) | exact rfl) (fun _ => rfl) (by intro hcg; first | omega | (simp at hcg; omega))) | (show OpV _ _ _ _ (Oper.mk _ (Op.load _ _) _ _ _ _) _ _; exact ov_load1M rfl (by first | with_reducible exact fun _ => rfl | with_reducible exact fun h => h | exact fun _ => rfl | exact fun h => h | (intro himp; simp_all; done)) rfl rfl (fun _ => hMb) (fun _ => hcell)) | fail) ?_ | refine xl_buildSlice rfl (fun _ => ?_)) | refine wc_ret rfl ?_) | (show WC _ (Code.cond _ _ _) _ _ _ _; (refine wc_cond rfl (fun hc => ?_) (fun hc => ?_) <;> (try (simp only [decide_eq_true_eq, decide_eq_false_iff_not, Bool.and_eq_true, Bool.or_eq_true, Bool.and_eq_false_iff, Bool.or_eq_false_iff, Bool.not_eq_true', Bool.not_eq_false', Int.not_lt, Int.not_le] at hc)) <;> (try (exfalso; first | omega | contradiction)))))
      exact wn_cut ⟨j + 1, by omega⟩ (by show K1.length - (j + 1) < K1.length - j; omega) (Eng.Sub.cons rfl (Eng.Sub.cons rfl (Eng.Sub.cons (by show some (true, str (slashed (K1.take j) ++ ([47] ++ K1.getD j default))) = some (true, str (slashed (K1.take (j + 1)))); rw [slashed_succ hlt]; rfl) (by first | exact Sub.nil _ | (repeat (first | exact Sub.nil _ | refine Sub.cons (by first | rfl | (simp [look]; done)) ?_)))))) (fun _ h => h)
    obtain rfl : j = K1.length := by omega
    rw [List.take_length] at hslj ⊢
    have hcase : (K2 = true ∨ K1 = []) ↔ (K2 = true ∨ (K1.length : Int) = 0) := by
      constructor
      · rintro (h | h)
        · exact .inl h
        · subst h; exact .inr rfl
      · rintro (h | h)
        · exact .inl h
        · exact .inr (List.eq_nil_of_length_eq_zero (by omega))
    repeat' (first | (first | refine wc_seq ?_ | refine wc_region ?_ | refine wl_nil ?_ | refine wn_seq ?_ | refine wn_blk ?_ | refine wc_skip ?_ | refine wc_scope ?_ | refine wc_label ?_ | refine wn_noGoto ?_ | refine wc_block ?_ | refine wc_exit rfl ?_ | (show WL _ _ (_ :: _) _ _ _ _; first | refine yl_v rfl rfl rfl ?_ | refine wl_v rfl rfl rfl (by first  | fail) ?_ | refine xl_buildSlice rfl (fun _ => ?_)) | refine wc_ret rfl ?_) | (show WC _ (Code.cond _ _ _) _ _ _ _; (refine wc_cond rfl (fun hc => ?_) (fun hc => ?_) <;> (try (simp only [decide_eq_true_eq, decide_eq_false_iff_not, Bool.and_eq_true, Bool.or_eq_true, Bool.and_eq_false_iff, Bool.or_eq_false_iff, Bool.not_eq_true', Bool.not_eq_false', Int.not_lt, Int.not_le] at hc)) <;> (try (exfalso; first | omega | contradiction)))))
    · rw [if_pos (hcase.2 hc)]
      exact wr_tmp rfl rfl rfl
    · rw [if_neg (by rw [hcase]; rintro (h | h); · rw [hc.1] at h; cases h
                     · exact hc.2 h), List.append_nil]
      exact wr_tmp rfl rfl rfl
  · have hd : dots s = s := by
      unfold dots
      split
      · rename_i r; exact absurd rfl (hno r)
      · rfl
    rw [hp] at hpx
    rw [hd]
    repeat' (first | (first | refine wc_seq ?_ | refine wc_region ?_ | refine wl_nil ?_ | refine wn_seq ?_ | refine wn_blk ?_ | refine wc_skip ?_ | refine wc_scope ?_ | refine wc_label ?_ | refine wn_noGoto ?_ | refine wc_block ?_ | refine wc_exit rfl ?_ | (show WL _ _ (_ :: _) _ _ _ _; first | refine yl_v rfl rfl rfl ?_ | refine wl_v rfl rfl rfl (by first | ((show OpV _ _ _ _ (Oper.mk _ (Op.call ⟨.value (.func 29), _, _⟩) _ _ _ _) _ _; exact ov_call Tryd.call29 rfl (by intro himp; first | rfl | (simp_all; done)) (by rfl) (fun _ _ h k => h.ext k) (fun hcg w hw => hpx hw.laid))) | fail) ?_ | refine xl_buildSlice rfl (fun _ => ?_)) | refine wc_ret rfl ?_) | (show WC _ (Code.cond _ _ _) _ _ _ _; (refine wc_cond rfl (fun hc => ?_) (fun hc => ?_) <;> (try (simp only [decide_eq_true_eq, decide_eq_false_iff_not, Bool.and_eq_true, Bool.or_eq_true, Bool.and_eq_false_iff, Bool.or_eq_false_iff, Bool.not_eq_true', Bool.not_eq_false', Int.not_lt, Int.not_le] at hc)) <;> (try (exfalso; first | omega | contradiction)))))
    exact wr_tmp rfl rfl rfl
theorem dotGo_flag {l : List (List UInt8)} (h : 0 < l.length) : (dotGo l).2 = (decide (l.getD (l.length - 1) default = [46]) || decide (l.getD (l.length - 1) default = [46, 46])) := by
  have h1 := dotGo_succ (l := l) (i := l.length - 1) (by omega)
  rw [Nat.sub_add_cancel h, List.take_length] at h1
  rw [h1]
  unfold dotStep
  split
  · rename_i e; rw [e]; rfl
  · rename_i e
    split
    · rename_i e2; rw [e2]; rfl
    · rename_i e2
      rw [decide_eq_false e, decide_eq_false e2]; rfl
set_option maxHeartbeats 1000000 in
theorem rdots_ok (hM : Laid M w) (s : List UInt8) (hs : s.length ≤ 1000000) : Calls Tryd.prog 22 #[str s] w (RetE w (str (dots s))) := by
  refine calls_st (l := [str s]) hM Tryd.func22 rfl rfl rfl (E0 := [(0, true, str s)]) (params_cons rfl (params_nil _)) ?_
  by_cases hp : ∃ r, s = 47 :: r
  · obtain ⟨r, rfl⟩ := hp
    simp only [List.length_cons] at hs
    repeat' (first | (first | refine wc_seq ?_ | refine wc_region ?_ | refine wl_nil ?_ | refine wn_seq ?_ | refine wn_blk ?_ | refine wc_skip ?_ | refine wc_block ?_ | refine wc_exit rfl ?_ | (show WL _ _ (_ :: _) _ _ _ _; first | refine yl_v rfl rfl rfl ?_ | refine wl_v rfl rfl rfl (by first | (show OpV _ _ _ _ (Oper.mk _ (Op.index _ _ _) _ _ _ _) _ _; exact ov_sindex (s := 47 :: r) (i := 0) rfl rfl rfl (by first | with_reducible exact fun _ => rfl | with_reducible exact fun h => h | exact fun _ => rfl | exact fun h => h | (intro himp; simp_all; done)) (by first | with_reducible exact fun _ => rfl | with_reducible exact fun h => h | exact fun _ => rfl | exact fun h => h | (intro himp; simp_all; done)) rfl (fun _ => by simp)) | (show OpV _ _ _ _ (Oper.mk _ (Op.slice _ _ (some _) none none) _ _ _ _) _ _; exact ov_from (i := 1) rfl rfl rfl (by first | with_reducible exact fun _ => rfl | with_reducible exact fun h => h | exact fun _ => rfl | exact fun h => h | (intro himp; simp_all; done)) (by first | with_reducible exact fun _ => rfl | with_reducible exact fun h => h | exact fun _ => rfl | exact fun h => h | (intro himp; simp_all; done)) rfl (fun _ => by simp)) | fail) ?_ | refine xl_buildSlice rfl (fun _ => ?_)) | refine wc_ret rfl ?_) | (show WC _ (Code.cond _ _ _) _ _ _ _; (refine wc_cond rfl (fun hc => ?_) (fun hc => ?_) <;> (try (simp only [decide_eq_true_eq, decide_eq_false_iff_not, Bool.and_eq_true, Bool.or_eq_true, Bool.and_eq_false_iff, Bool.or_eq_false_iff, Bool.not_eq_true', Bool.not_eq_false', Int.not_lt, Int.not_le] at hc)) <;> (try (exfalso; first | omega | contradiction)))))
    · exfalso
      rcases hc with hc | hc
      · cases hc
      · exact hc rfl
    refine wl_callS rfl Tryd.call36 rfl rfl rfl rfl (fun w hw => rcut_ok hw.laid r 47 (by omega)) ?_
    rintro v1 H1 M1 hm1 hn1 ⟨rfl, hS⟩
    have hpl := pieces_length 47 r
    have hpt := pieces_total 47 r
    have hpn := pieces_ne 47 r
    have hd : dots (47 :: r) = slashed (dotGo (pieces 47 r)).1 ++ (if (dotGo (pieces 47 r)).2 = true ∨ (dotGo (pieces 47 r)).1 = [] then [47] else []) := rfl
    rw [hd]
    generalize pieces 47 r = l at *
    have hpos : 0 < l.length := List.length_pos_iff.2 hpn
    obtain ⟨a, cap, b, o, cs, T, fz, rfl, h1, h2, h3, h4⟩ := hS.open
    obtain ⟨rfl, hMb⟩ := h3 hpn
    repeat' (first | (first | refine wc_seq ?_ | refine wc_region ?_ | refine wl_nil ?_ | refine wn_seq ?_ | refine wn_blk ?_ | refine wc_skip ?_ | refine wc_block ?_ | refine wc_exit rfl ?_ | (show WL _ _ (_ :: _) _ _ _ _; first | refine yl_v rfl rfl rfl ?_ | refine wl_v rfl rfl rfl (by first  | fail) ?_ | refine xl_buildSlice rfl (fun _ => ?_)) | refine wc_ret rfl ?_) | (show WC _ (Code.cond _ _ _) _ _ _ _; (refine wc_cond rfl (fun hc => ?_) (fun hc => ?_) <;> (try (simp only [decide_eq_true_eq, decide_eq_false_iff_not, Bool.and_eq_true, Bool.or_eq_true, Bool.and_eq_false_iff, Bool.or_eq_false_iff, Bool.not_eq_true', Bool.not_eq_false', Int.not_lt, Int.not_le] at hc)) <;> (try (exfalso; first | omega | contradiction)))))
    refine wc_loop (α := DQ l) (fun x => [(3, true, .slice (some ⟨b, o, none⟩) l.length cap), (4, true, x.v), (5, true, i64 (x.i : Int))]) (fun x => St w [] x.Hs M1) (fun x => l.length - x.i) ⟨0, .slice none 0 0, [], Nat.zero_le _, OwnS.nil⟩ (by first | exact Sub.nil _ | (repeat (first | exact Sub.nil _ | refine Sub.cons (by first | rfl | (simp [look]; done)) ?_))) (fun _ h => h) ?_
    rintro ⟨i, v, Hs, hi, own⟩
    dsimp only
    by_cases hlt : i < l.length
    · have hdl := dotGo_len (l := l) hi
      have hcell := h4 i hlt
      have hds := dotGo_succ hlt
      obtain ⟨va, vcap, rfl⟩ := own.slice (k := (dotGo (l.take i)).1.length) (by decide) (cellsS_length _)
      have hcap := OwnS.le own
      generalize l.getD i default = x at *
      generalize dotGo (l.take i) = K at *
      obtain ⟨K1, K2⟩ := K
      dsimp only at *
      by_cases hx1 : x = [46]
      · subst hx1
        have hn : dotGo (l.take (i + 1)) = (K1, true) := by rw [hds]; rfl
        repeat' (first | (first | refine wc_seq ?_ | refine wc_region ?_ | refine wl_nil ?_ | refine wn_seq ?_ | refine wn_blk ?_ | refine wc_skip ?_ | refine wc_block ?_ | refine wc_exit rfl ?_ | (show WL _ _ (_ :: _) _ _ _ _; first | refine yl_v rfl rfl rfl ?_ | refine wl_v rfl rfl rfl (by first | (show OpV _ _ _ _ (Oper.mk _ (Op.indexAddr _ _ _) _ _ _ _) _ _; exact ov_indexAddr (i := i) (b := b) (o := o) rfl rfl rfl (by first | with_reducible exact fun _ => rfl | with_reducible exact fun h => h | exact fun _ => rfl | exact fun h => h | (intro himp; simp_all; done)) (by first | with_reducible exact fun _ => rfl | with_reducible exact fun h => h | exact fun _ => rfl | exact fun h => h | (intro himp; simp_all; done)) rfl (by first | exact (rfl : _ = some 1) | exact (rfl : _ = some 2) | exact (rfl : _ = some 3) | exact (rfl : _ = some 4) | exact (rfl : _ = some 6) | exact rfl) (fun _ => rfl) (by intro hcg; first | omega | (simp at hcg; omega))) | (show OpV _ _ _ _ (Oper.mk _ (Op.load _ _) _ _ _ _) _ _; exact ov_load1M rfl (by first | with_reducible exact fun _ => rfl | with_reducible exact fun h => h | exact fun _ => rfl | exact fun h => h | (intro himp; simp_all; done)) rfl rfl (fun _ => hMb) (fun _ => hcell)) | fail) ?_ | refine xl_buildSlice rfl (fun _ => ?_)) | refine wc_ret rfl ?_) | (show WC _ (Code.cond _ _ _) _ _ _ _; (refine wc_cond rfl (fun hc => ?_) (fun hc => ?_) <;> (try (simp only [decide_eq_true_eq, decide_eq_false_iff_not, Bool.and_eq_true, Bool.or_eq_true, Bool.and_eq_false_iff, Bool.or_eq_false_iff, Bool.not_eq_true', Bool.not_eq_false', Int.not_lt, Int.not_le] at hc)) <;> (try (exfalso; first | omega | contradiction)))))
        · exact absurd hc.1 (by decide)
        exact wn_cut ⟨i + 1, .slice va K1.length vcap, Hs, by omega, by rw [hn]; exact own⟩ (by show l.length - (i + 1) < l.length - i; omega) (by first | exact Sub.nil _ | (repeat (first | exact Sub.nil _ | refine Sub.cons (by first | rfl | (simp [look]; done)) ?_))) (fun _ h => h)
      by_cases hx2 : x = [46, 46]
      · subst hx2
        have hn : dotGo (l.take (i + 1)) = (K1.dropLast, true) := by rw [hds]; rfl
        by_cases hk0 : 0 < K1.length
        · obtain ⟨bk, ck, cur, hv, hHs, g1, g2, g3, g4⟩ := own.block (q := K1.length) (by decide) (cellsS_length _) hk0
          cases hv
          subst hHs
          repeat' (first | (first | refine wc_seq ?_ | refine wc_region ?_ | refine wl_nil ?_ | refine wn_seq ?_ | refine wn_blk ?_ | refine wc_skip ?_ | refine wc_block ?_ | refine wc_exit rfl ?_ | (show WL _ _ (_ :: _) _ _ _ _; first | refine yl_v rfl rfl rfl ?_ | refine wl_v rfl rfl rfl (by first | (show OpV _ _ _ _ (Oper.mk _ (Op.indexAddr _ _ _) _ _ _ _) _ _; exact ov_indexAddr (i := i) (b := b) (o := o) rfl rfl rfl (by first | with_reducible exact fun _ => rfl | with_reducible exact fun h => h | exact fun _ => rfl | exact fun h => h | (intro himp; simp_all; done)) (by first | with_reducible exact fun _ => rfl | with_reducible exact fun h => h | exact fun _ => rfl | exact fun h => h | (intro himp; simp_all; done)) rfl (by first | exact (rfl : _ = some 1) | exact (rfl : _ = some 2) | exact (rfl : _ = some 3) | exact (rfl : _ = some 4) | exact (rfl : _ = some 6) | exact rfl) (fun _ => rfl) (by intro hcg; first | omega | (simp at hcg; omega))) | (show OpV _ _ _ _ (Oper.mk _ (Op.load _ _) _ _ _ _) _ _; exact ov_load1M rfl (by first | with_reducible exact fun _ => rfl | with_reducible exact fun h => h | exact fun _ => rfl | exact fun h => h | (intro himp; simp_all; done)) rfl rfl (fun _ => hMb) (fun _ => hcell)) | fail) ?_ | refine xl_buildSlice rfl (fun _ => ?_)) | refine wc_ret rfl ?_) | (show WC _ (Code.cond _ _ _) _ _ _ _; (refine wc_cond rfl (fun hc => ?_) (fun hc => ?_) <;> (try (simp only [decide_eq_true_eq, decide_eq_false_iff_not, Bool.and_eq_true, Bool.or_eq_true, Bool.and_eq_false_iff, Bool.or_eq_false_iff, Bool.not_eq_true', Bool.not_eq_false', Int.not_lt, Int.not_le] at hc)) <;> (try (exfalso; first | omega | contradiction)))))
          rename_i b36
          refine wl_appendO (b := bk) (cs := cur) (news := cellsS (K1.take (K1.length - 1))) (H0 := []) rfl (OwnS.lit (e := 9) (m := 1) (b := b36) (len := 0) (l := []) rfl (by decide)) rfl rfl rfl rfl rfl rfl rfl rfl rfl rfl (List.Mem.tail _ (List.Mem.head _)) (fun j u hj => ?_) (by rw [cellsS_length, List.length_take]; omega) (by rw [List.all_eq_true]; intro u hu; simp only [cellsS, List.mem_map] at hu; obtain ⟨y, _, rfl⟩ := hu; rfl) (List.Sublist.cons_cons _ (List.nil_sublist _)) (by simp; omega) rfl ?_
          · rw [← cellsS_take, List.getElem?_take] at hj
            split at hj
            · rw [← g4, List.getElem?_take] at hj
              split at hj
              · simpa using hj
              · cases hj
            · cases hj
          intro v' Hs' ho'
          rw [List.nil_append, ← List.dropLast_eq_take] at ho'
          repeat' (first | (first | refine wc_seq ?_ | refine wc_region ?_ | refine wl_nil ?_ | refine wn_seq ?_ | refine wn_blk ?_ | refine wc_skip ?_ | refine wc_block ?_ | refine wc_exit rfl ?_ | (show WL _ _ (_ :: _) _ _ _ _; first | refine yl_v rfl rfl rfl ?_ | refine wl_v rfl rfl rfl (by first | (show OpV _ _ _ _ (Oper.mk _ (Op.indexAddr _ _ _) _ _ _ _) _ _; exact ov_indexAddr (i := i) (b := b) (o := o) rfl rfl rfl (by first | with_reducible exact fun _ => rfl | with_reducible exact fun h => h | exact fun _ => rfl | exact fun h => h | (intro himp; simp_all; done)) (by first | with_reducible exact fun _ => rfl | with_reducible exact fun h => h | exact fun _ => rfl | exact fun h => h | (intro himp; simp_all; done)) rfl (by first | exact (rfl : _ = some 1) | exact (rfl : _ = some 2) | exact (rfl : _ = some 3) | exact (rfl : _ = some 4) | exact (rfl : _ = some 6) | exact rfl) (fun _ => rfl) (by intro hcg; first | omega | (simp at hcg; omega))) | (show OpV _ _ _ _ (Oper.mk _ (Op.load _ _) _ _ _ _) _ _; exact ov_load1M rfl (by first | with_reducible exact fun _ => rfl | with_reducible exact fun h => h | exact fun _ => rfl | exact fun h => h | (intro himp; simp_all; done)) rfl rfl (fun _ => hMb) (fun _ => hcell)) | fail) ?_ | refine xl_buildSlice rfl (fun _ => ?_)) | refine wc_ret rfl ?_) | (show WC _ (Code.cond _ _ _) _ _ _ _; (refine wc_cond rfl (fun hc => ?_) (fun hc => ?_) <;> (try (simp only [decide_eq_true_eq, decide_eq_false_iff_not, Bool.and_eq_true, Bool.or_eq_true, Bool.and_eq_false_iff, Bool.or_eq_false_iff, Bool.not_eq_true', Bool.not_eq_false', Int.not_lt, Int.not_le] at hc)) <;> (try (exfalso; first | omega | contradiction)))))
          exact wn_cut ⟨i + 1, v', Hs', by omega, by rw [hn]; exact ho'⟩ (by show l.length - (i + 1) < l.length - i; omega) (by first | exact Sub.nil _ | (repeat (first | exact Sub.nil _ | refine Sub.cons (by first | rfl | (simp [look]; done)) ?_))) (fun _ h => by simpa using h)
        · have hk1 : K1 = [] := List.eq_nil_of_length_eq_zero (by omega)
          subst hk1
          repeat' (first | (first | refine wc_seq ?_ | refine wc_region ?_ | refine wl_nil ?_ | refine wn_seq ?_ | refine wn_blk ?_ | refine wc_skip ?_ | refine wc_block ?_ | refine wc_exit rfl ?_ | (show WL _ _ (_ :: _) _ _ _ _; first | refine yl_v rfl rfl rfl ?_ | refine wl_v rfl rfl rfl (by first | (show OpV _ _ _ _ (Oper.mk _ (Op.indexAddr _ _ _) _ _ _ _) _ _; exact ov_indexAddr (i := i) (b := b) (o := o) rfl rfl rfl (by first | with_reducible exact fun _ => rfl | with_reducible exact fun h => h | exact fun _ => rfl | exact fun h => h | (intro himp; simp_all; done)) (by first | with_reducible exact fun _ => rfl | with_reducible exact fun h => h | exact fun _ => rfl | exact fun h => h | (intro himp; simp_all; done)) rfl (by first | exact (rfl : _ = some 1) | exact (rfl : _ = some 2) | exact (rfl : _ = some 3) | exact (rfl : _ = some 4) | exact (rfl : _ = some 6) | exact rfl) (fun _ => rfl) (by intro hcg; first | omega | (simp at hcg; omega))) | (show OpV _ _ _ _ (Oper.mk _ (Op.load _ _) _ _ _ _) _ _; exact ov_load1M rfl (by first | with_reducible exact fun _ => rfl | with_reducible exact fun h => h | exact fun _ => rfl | exact fun h => h | (intro himp; simp_all; done)) rfl rfl (fun _ => hMb) (fun _ => hcell)) | fail) ?_ | refine xl_buildSlice rfl (fun _ => ?_)) | refine wc_ret rfl ?_) | (show WC _ (Code.cond _ _ _) _ _ _ _; (refine wc_cond rfl (fun hc => ?_) (fun hc => ?_) <;> (try (simp only [decide_eq_true_eq, decide_eq_false_iff_not, Bool.and_eq_true, Bool.or_eq_true, Bool.and_eq_false_iff, Bool.or_eq_false_iff, Bool.not_eq_true', Bool.not_eq_false', Int.not_lt, Int.not_le] at hc)) <;> (try (exfalso; first | omega | contradiction)))))
          exact wn_cut ⟨i + 1, .slice va [].length vcap, Hs, by omega, by rw [hn]; exact own⟩ (by show l.length - (i + 1) < l.length - i; omega) (by first | exact Sub.nil _ | (repeat (first | exact Sub.nil _ | refine Sub.cons (by first | rfl | (simp [look]; done)) ?_))) (fun _ h => h)
      · have hn : dotGo (l.take (i + 1)) = (K1 ++ [x], false) := by rw [hds]; unfold dotStep; rw [if_neg hx1, if_neg hx2]
        repeat' (first | (first | refine wc_seq ?_ | refine wc_region ?_ | refine wl_nil ?_ | refine wn_seq ?_ | refine wn_blk ?_ | refine wc_skip ?_ | refine wc_block ?_ | refine wc_exit rfl ?_ | (show WL _ _ (_ :: _) _ _ _ _; first | refine yl_v rfl rfl rfl ?_ | refine wl_v rfl rfl rfl (by first | (show OpV _ _ _ _ (Oper.mk _ (Op.indexAddr _ _ _) _ _ _ _) _ _; exact ov_indexAddr (i := i) (b := b) (o := o) rfl rfl rfl (by first | with_reducible exact fun _ => rfl | with_reducible exact fun h => h | exact fun _ => rfl | exact fun h => h | (intro himp; simp_all; done)) (by first | with_reducible exact fun _ => rfl | with_reducible exact fun h => h | exact fun _ => rfl | exact fun h => h | (intro himp; simp_all; done)) rfl (by first | exact (rfl : _ = some 1) | exact (rfl : _ = some 2) | exact (rfl : _ = some 3) | exact (rfl : _ = some 4) | exact (rfl : _ = some 6) | exact rfl) (fun _ => rfl) (by intro hcg; first | omega | (simp at hcg; omega))) | (show OpV _ _ _ _ (Oper.mk _ (Op.load _ _) _ _ _ _) _ _; exact ov_load1M rfl (by first | with_reducible exact fun _ => rfl | with_reducible exact fun h => h | exact fun _ => rfl | exact fun h => h | (intro himp; simp_all; done)) rfl rfl (fun _ => hMb) (fun _ => hcell)) | fail) ?_ | refine xl_buildSlice rfl (fun _ => ?_)) | refine wc_ret rfl ?_) | (show WC _ (Code.cond _ _ _) _ _ _ _; (refine wc_cond rfl (fun hc => ?_) (fun hc => ?_) <;> (try (simp only [decide_eq_true_eq, decide_eq_false_iff_not, Bool.and_eq_true, Bool.or_eq_true, Bool.and_eq_false_iff, Bool.or_eq_false_iff, Bool.not_eq_true', Bool.not_eq_false', Int.not_lt, Int.not_le] at hc)) <;> (try (exfalso; first | omega | contradiction)))))
        · exact absurd hc.1 hx2
        · rename_i b60
          refine wl_append (news := [str x]) (H0 := []) rfl own rfl rfl rfl rfl rfl rfl rfl rfl rfl rfl (List.Mem.head _) rfl rfl (by simp only [List.append_nil]; exact (by repeat (first | exact List.Sublist.refl _ | apply List.Sublist.cons))) (by rw [cellsS_length]; omega) rfl ?_
          intro v' Hs' ho'
          rw [← cellsS_snoc K1 x] at ho'
          repeat' (first | (first | refine wc_seq ?_ | refine wc_region ?_ | refine wl_nil ?_ | refine wn_seq ?_ | refine wn_blk ?_ | refine wc_skip ?_ | refine wc_block ?_ | refine wc_exit rfl ?_ | (show WL _ _ (_ :: _) _ _ _ _; first | refine yl_v rfl rfl rfl ?_ | refine wl_v rfl rfl rfl (by first  | fail) ?_ | refine xl_buildSlice rfl (fun _ => ?_)) | refine wc_ret rfl ?_) | (show WC _ (Code.cond _ _ _) _ _ _ _; (refine wc_cond rfl (fun hc => ?_) (fun hc => ?_) <;> (try (simp only [decide_eq_true_eq, decide_eq_false_iff_not, Bool.and_eq_true, Bool.or_eq_true, Bool.and_eq_false_iff, Bool.or_eq_false_iff, Bool.not_eq_true', Bool.not_eq_false', Int.not_lt, Int.not_le] at hc)) <;> (try (exfalso; first | omega | contradiction)))))
          exact wn_cut ⟨i + 1, v', Hs', by omega, by rw [hn]; exact ho'⟩ (by show l.length - (i + 1) < l.length - i; omega) (by first | exact Sub.nil _ | (repeat (first | exact Sub.nil _ | refine Sub.cons (by first | rfl | (simp [look]; done)) ?_))) (fun _ h => by simpa using h)
        · exfalso
          rcases hc with h | h
          · exact hx1 h
          · exact hx2 h
    obtain rfl : i = l.length := by omega
    have hdl := dotGo_len (l := l) (Nat.le_refl _)
    have hflag := dotGo_flag hpos
    rw [List.take_length] at own hdl
    have hmem := dotGo_mem (P := fun y => y.length ≤ r.length) hpt
    have hsl := slashed_len hmem
    obtain ⟨va, vcap, rfl⟩ := own.slice (k := (dotGo l).1.length) (by decide) (cellsS_length _)
    generalize dotGo l = K at *
    obtain ⟨K1, K2⟩ := K
    dsimp only at *
    refine wc_weak (C' := St w [] (Hs ++ []) M1) (Eng.Sub.refl _) (fun _ h => by simpa using h) ?_
    refine wc_publish (fun hnew => ?_)
    have hks : SlS (With M1 Hs) (.slice va K1.length vcap) K1 := own.slS (fun p hp => .inr hp) (by omega)
    have hMb2 : With M1 Hs b (.cells cs T fz) := .inl hMb
    clear own hnew
    generalize With M1 Hs = M2 at *
    obtain ⟨a', cap', b', o', cs', T', fz', hv', k1, k2, k3, k4⟩ := hks.open
    cases hv'
    repeat' (first | (first | refine wc_seq ?_ | refine wc_region ?_ | refine wl_nil ?_ | refine wn_seq ?_ | refine wn_blk ?_ | refine wc_skip ?_ | refine wc_block ?_ | refine wc_exit rfl ?_ | (show WL _ _ (_ :: _) _ _ _ _; first | refine yl_v rfl rfl rfl ?_ | refine wl_v rfl rfl rfl (by first  | fail) ?_ | refine xl_buildSlice rfl (fun _ => ?_)) | refine wc_ret rfl ?_) | (show WC _ (Code.cond _ _ _) _ _ _ _; (refine wc_cond rfl (fun hc => ?_) (fun hc => ?_) <;> (try (simp only [decide_eq_true_eq, decide_eq_false_iff_not, Bool.and_eq_true, Bool.or_eq_true, Bool.and_eq_false_iff, Bool.or_eq_false_iff, Bool.not_eq_true', Bool.not_eq_false', Int.not_lt, Int.not_le] at hc)) <;> (try (exfalso; first | omega | contradiction)))))
    refine wc_loop (α := { j : Nat // j ≤ K1.length }) (fun x => [(3, true, .slice (some ⟨b, o, none⟩) l.length cap), (4, true, .slice va K1.length vcap), (6, true, str (slashed (K1.take x.1))), (7, true, i64 (x.1 : Int))]) (fun _ => St w [] [] M2) (fun x => K1.length - x.1) ⟨0, by omega⟩ (by first | exact Sub.nil _ | (repeat (first | exact Sub.nil _ | refine Sub.cons (by first | rfl | (simp [look]; done)) ?_))) (fun _ h => h) ?_
    rintro ⟨j, hj⟩
    dsimp only
    have hslj := hsl j hj
    have hbig : j * (r.length + 1) ≤ 2000000 * 2000000 := Nat.mul_le_mul (by omega) (by omega)
    by_cases hlt : j < K1.length
    · have hne : K1 ≠ [] := by rintro rfl; simp at hlt
      obtain ⟨rfl, hMb3⟩ := k3 hne
      have hcell := k4 j hlt
      have hxl := hmem (K1.getD j default) (by have e : K1.getD j default = K1[j] := by simp [hlt]
                                               rw [e]; exact List.getElem_mem _)
      repeat' (first | (first | refine wc_seq ?_ | refine wc_region ?_ | refine wl_nil ?_ | refine wn_seq ?_ | refine wn_blk ?_ | refine wc_skip ?_ | refine wc_block ?_ | refine wc_exit rfl ?_ | (show WL _ _ (_ :: _) _ _ _ _; first | refine yl_v rfl rfl rfl ?_ | refine wl_v rfl rfl rfl (by first | (show OpV _ _ _ _ (Oper.mk _ (Op.indexAddr _ _ _) _ _ _ _) _ _; exact ov_indexAddr (i := j) (b := b') (o := o') rfl rfl rfl (by first | with_reducible exact fun _ => rfl | with_reducible exact fun h => h | exact fun _ => rfl | exact fun h => h | (intro himp; simp_all; done)) (by first | with_reducible exact fun _ => rfl | with_reducible exact fun h => h | exact fun _ => rfl | exact fun h => h | (intro himp; simp_all; done)) rfl (by first | exact (rfl : _ = some 1) | exact (rfl : _ = some 2) | exact (rfl : _ = some 3) | exact (rfl : _ = some 4) | exact (rfl : _ = some 6) | exact rfl) (fun _ => rfl) (by intro hcg; first | omega | (simp at hcg; omega))) | (show OpV _ _ _ _ (Oper.mk _ (Op.load _ _) _ _ _ _) _ _; exact ov_load1M rfl (by first | with_reducible exact fun _ => rfl | with_reducible exact fun h => h | exact fun _ => rfl | exact fun h => h | (intro himp; simp_all; done)) rfl rfl (fun _ => hMb3) (fun _ => hcell)) | fail) ?_ | refine xl_buildSlice rfl (fun _ => ?_)) | refine wc_ret rfl ?_) | (show WC _ (Code.cond _ _ _) _ _ _ _; (refine wc_cond rfl (fun hc => ?_) (fun hc => ?_) <;> (try (simp only [decide_eq_true_eq, decide_eq_false_iff_not, Bool.and_eq_true, Bool.or_eq_true, Bool.and_eq_false_iff, Bool.or_eq_false_iff, Bool.not_eq_true', Bool.not_eq_false', Int.not_lt, Int.not_le] at hc)) <;> (try (exfalso; first | omega | contradiction)))))
      exact wn_cut ⟨j + 1, by omega⟩ (by show K1.length - (j + 1) < K1.length - j; omega) (Eng.Sub.cons rfl (Eng.Sub.cons rfl (Eng.Sub.cons (by show some (true, str (slashed (K1.take j) ++ [47] ++ K1.getD j default)) = some (true, str (slashed (K1.take (j + 1)))); rw [slashed_succ hlt, List.append_assoc]; rfl) (by first | exact Sub.nil _ | (repeat (first | exact Sub.nil _ | refine Sub.cons (by first | rfl | (simp [look]; done)) ?_)))))) (fun _ h => h)
    obtain rfl : j = K1.length := by omega
    rw [List.take_length] at hslj ⊢
    have hlast := h4 (l.length - 1) (by omega)
    generalize l.getD (l.length - 1) default = x at *
    have hcase : (K2 = true ∨ K1 = []) ↔ ((x = [46] ∨ x = [46, 46]) ∨ (K1.length : Int) = 0) := by
      rw [hflag]
      simp only [Bool.or_eq_true, decide_eq_true_eq]
      constructor
      · rintro (h | h)
        · exact .inl h
        · subst h; exact .inr rfl
      · rintro (h | h)
        · exact .inl h
        · exact .inr (List.eq_nil_of_length_eq_zero (by omega))
    repeat' (first | (first | refine wc_seq ?_ | refine wc_region ?_ | refine wl_nil ?_ | refine wn_seq ?_ | refine wn_blk ?_ | refine wc_skip ?_ | refine wc_block ?_ | refine wc_exit rfl ?_ | (show WL _ _ (_ :: _) _ _ _ _; first | refine yl_v rfl rfl rfl ?_ | refine wl_v rfl rfl rfl (by first | (show OpV _ _ _ _ (Oper.mk _ (Op.indexAddr _ _ _) _ _ _ _) _ _; exact ov_indexAddr (i := l.length - 1) (b := b) (o := o) rfl rfl (by omega) (by first | with_reducible exact fun _ => rfl | with_reducible exact fun h => h | exact fun _ => rfl | exact fun h => h | (intro himp; simp_all; done)) (by first | with_reducible exact fun _ => rfl | with_reducible exact fun h => h | exact fun _ => rfl | exact fun h => h | (intro himp; simp_all; done)) rfl (by first | exact (rfl : _ = some 1) | exact (rfl : _ = some 2) | exact (rfl : _ = some 3) | exact (rfl : _ = some 4) | exact (rfl : _ = some 6) | exact rfl) (fun _ => rfl) (by intro hcg; first | omega | (simp at hcg; omega))) | (show OpV _ _ _ _ (Oper.mk _ (Op.load _ _) _ _ _ _) _ _; exact ov_load1M rfl (by first | with_reducible exact fun _ => rfl | with_reducible exact fun h => h | exact fun _ => rfl | exact fun h => h | (intro himp; simp_all; done)) rfl rfl (fun _ => hMb2) (fun _ => hlast)) | fail) ?_ | refine xl_buildSlice rfl (fun _ => ?_)) | refine wc_ret rfl ?_) | (show WC _ (Code.cond _ _ _) _ _ _ _; (refine wc_cond rfl (fun hc => ?_) (fun hc => ?_) <;> (try (simp only [decide_eq_true_eq, decide_eq_false_iff_not, Bool.and_eq_true, Bool.or_eq_true, Bool.and_eq_false_iff, Bool.or_eq_false_iff, Bool.not_eq_true', Bool.not_eq_false', Int.not_lt, Int.not_le] at hc)) <;> (try (exfalso; first | omega | contradiction)))))
    · rw [if_pos (hcase.2 hc)]
      exact wr_tmp rfl rfl rfl
    · rw [if_neg (by rw [hcase]; rintro ((h | h) | h); · exact hc.1.1 h
                     · exact hc.1.2 h
                     · exact hc.2 h), List.append_nil]
      exact wr_tmp rfl rfl rfl
  · have hd : dots s = s := by
      unfold dots
      split
      · rename_i r; exact absurd ⟨r, rfl⟩ hp
      · rfl
    rw [hd]
    repeat' (first | refine wc_seq ?_ | refine wc_region ?_ | refine wl_nil ?_ | refine wn_seq ?_ | refine wn_blk ?_ | refine wc_skip ?_ | refine wc_block ?_ | refine wc_exit rfl ?_ | (show WL _ _ (_ :: _) _ _ _ _; first | refine yl_v rfl rfl rfl ?_ | refine wl_v rfl rfl rfl (by first | (show OpV _ _ _ _ (Oper.mk _ (Op.index _ _ _) _ _ _ _) _ _; exact ov_sindex (i := 0) rfl rfl rfl (by first | with_reducible exact fun _ => rfl | with_reducible exact fun h => h | exact fun _ => rfl | exact fun h => h | (intro himp; simp_all; done)) (by first | with_reducible exact fun _ => rfl | with_reducible exact fun h => h | exact fun _ => rfl | exact fun h => h | (intro himp; simp_all; done)) rfl (fun hcg => by simp at hcg; exact List.length_pos_iff.2 hcg)) | fail) ?_ | refine xl_buildSlice rfl (fun _ => ?_)) | refine wc_ret rfl ?_)
    refine wc_cond rfl (fun hc => ?_) (fun hc => ?_)
    · repeat' (first | (first | refine wc_seq ?_ | refine wc_region ?_ | refine wl_nil ?_ | refine wn_seq ?_ | refine wn_blk ?_ | refine wc_skip ?_ | refine wc_block ?_ | refine wc_exit rfl ?_ | (show WL _ _ (_ :: _) _ _ _ _; first | refine yl_v rfl rfl rfl ?_ | refine wl_v rfl rfl rfl (by first  | fail) ?_ | refine xl_buildSlice rfl (fun _ => ?_)) | refine wc_ret rfl ?_) | (show WC _ (Code.cond _ _ _) _ _ _ _; (refine wc_cond rfl (fun hc => ?_) (fun hc => ?_) <;> (try (simp only [decide_eq_true_eq, decide_eq_false_iff_not, Bool.and_eq_true, Bool.or_eq_true, Bool.and_eq_false_iff, Bool.or_eq_false_iff, Bool.not_eq_true', Bool.not_eq_false', Int.not_lt, Int.not_le] at hc)) <;> (try (exfalso; first | omega | contradiction)))))
      exact wr_tmp rfl rfl rfl
    · exfalso
      (simp only [decide_eq_true_eq, decide_eq_false_iff_not, Bool.and_eq_true, Bool.or_eq_true, Bool.and_eq_false_iff, Bool.or_eq_false_iff, Bool.not_eq_true', Bool.not_eq_false', Int.not_lt, Int.not_le] at hc)
      match s, hp with
      | [], _ => exact hc.1 rfl
      | c :: r, hp => exact hp ⟨r, by have := (getD_cast c 47).1 hc.2; rw [this]⟩
end Go.Proofs.YtmmoglgagifdfaaDoor
/-
  A port's number: the package's port.
-/
namespace Go.Proofs.YtmmoglgagifdfaaDoor
open Go.Eng Go.Pct Go.Txt Go.Url
set_option maxRecDepth 10000
set_option linter.unusedSimpArgs false
set_option linter.unusedVariables false

variable {M : Ghost} {w : World}
theorem valD_snoc (a : List UInt8) (c : UInt8) : valD (a ++ [c]) = 10 * valD a + (c.toNat - 48) := by
  unfold valD; rw [List.foldl_append]; rfl
theorem valD_take {s : List UInt8} {i : Nat} (h : i < s.length) : valD (s.take (i + 1)) = 10 * valD (s.take i) + ((s.getD i 0).toNat - 48) := by
  rw [Txt.take_getD h, valD_snoc]
theorem valD_from (s : List UInt8) : ∀ n, s.foldl (fun n c => 10 * n + (c.toNat - 48)) n = n * 10 ^ s.length + valD s := by
  induction s with
  | nil => intro n; simp [valD]
  | cons c s ih =>
    intro n
    unfold valD
    rw [List.foldl_cons, List.foldl_cons, ih, ih (10 * 0 + (c.toNat - 48)), List.length_cons, Nat.pow_succ]
    have e : (10 * n + (c.toNat - 48)) * 10 ^ s.length = n * (10 ^ s.length * 10) + (c.toNat - 48) * 10 ^ s.length := by
      rw [Nat.add_mul, Nat.mul_comm 10 n, Nat.mul_assoc, Nat.mul_comm 10 (10 ^ s.length)]
    rw [e, Nat.mul_zero, Nat.zero_add, Nat.add_assoc]
theorem valD_append (a b : List UInt8) : valD (a ++ b) = valD a * 10 ^ b.length + valD b := by
  unfold valD; rw [List.foldl_append]; exact valD_from b _
theorem valD_le (s : List UInt8) (i : Nat) : valD (s.take i) ≤ valD s := by
  have h := valD_append (s.take i) (s.drop i)
  rw [List.take_append_drop] at h
  rw [h]
  have : valD (s.take i) * 1 ≤ valD (s.take i) * 10 ^ (s.drop i).length := Nat.mul_le_mul_left _ (Nat.pow_pos (by decide))
  omega
theorem valD_big {s : List UInt8} (hl : 6 ≤ s.length) (hd : s.all digC = true) (h0 : s.head? ≠ some 48) : 65535 < valD s := by
  match s, hl, hd, h0 with
  | c :: r, hl, hd, h0 =>
    have hc : digC c = true := by rw [List.all_eq_true] at hd; exact hd c List.mem_cons_self
    have h1 := valD_append [c] r
    have h2 : valD [c] = c.toNat - 48 := by unfold valD; simp
    have hne : c.toNat ≠ 48 := fun e => h0 (by
      have : c = 48 := by rw [← UInt8.toNat_inj]; exact e
      rw [this]; rfl)
    unfold digC at hc
    simp only [Bool.and_eq_true, decide_eq_true_eq] at hc
    have h3 : 1 ≤ valD [c] := by omega
    have h4 : 10 ^ 5 ≤ 10 ^ r.length := Nat.pow_le_pow_right (by decide) (by simp only [List.length_cons] at hl; omega)
    have h5 : 1 * 10 ^ r.length ≤ valD [c] * 10 ^ r.length := Nat.mul_le_mul_right _ h3
    have h6 : (10 : Nat) ^ 5 = 100000 := by decide
    have e : c :: r = [c] ++ r := rfl
    rw [e, h1]
    omega
theorem dig_no (c : UInt8) : ((c.toNat : Int) < 48 ∨ 57 < (c.toNat : Int)) → digC c = false := by revert c; apply all_bytes; decide +kernel
theorem dig_yes (c : UInt8) : (¬ (c.toNat : Int) < 48 ∧ ¬ 57 < (c.toNat : Int)) → digC c = true := by revert c; apply all_bytes; decide +kernel
theorem head_getD {s : List UInt8} (h : 0 < s.length) : s.head? = some (s.getD 0 0) := by
  match s, h with
  | c :: r, _ => rfl
/-- what a port's reading yields -/
def resPort (s sch : List UInt8) : Value := .tuple #[i64 ((if portB s = true then (if valD s = ownP sch then 0 else valD s) else 0 : Nat) : Int), .bool (portB s)]
theorem port_no1 {s : List UInt8} {i : Nat} (hi : i < s.length) (h : digC (s.getD i 0) = false) : portB s = false := by
  unfold portB; rw [all_no (p := digC) hi h]; rfl
theorem port_no2 {s : List UInt8} (hi : 0 < s.length) (h : s.getD 0 0 = 48) : portB s = false := by
  unfold portB
  have : decide (s.head? ≠ some 48) = false := decide_eq_false (by rw [head_getD hi, h]; simp)
  rw [this]; simp
theorem port_no3 {s : List UInt8} (hi : 6 ≤ s.length) : portB s = false := by
  rw [Bool.eq_false_iff]
  intro h
  unfold portB at h
  simp only [Bool.and_eq_true, decide_eq_true_eq] at h
  have := valD_big hi h.1.1.1 h.1.1.2
  omega
theorem port_no4 {s : List UInt8} (h : valD s < 1 ∨ 65535 < valD s) : portB s = false := by
  rw [Bool.eq_false_iff]
  intro h2
  unfold portB at h2
  simp only [Bool.and_eq_true, decide_eq_true_eq] at h2
  omega
theorem port_yes {s : List UInt8} (h1 : ∀ j, j < s.length → digC (s.getD j 0) = true) (h2 : 0 < s.length → s.getD 0 0 ≠ 48) (h3 : 1 ≤ valD s) (h4 : valD s ≤ 65535) : portB s = true := by
  unfold portB
  rw [all_getD (p := digC) h1, decide_eq_true h3, decide_eq_true h4]
  have : s.head? ≠ some 48 := by
    cases s with
    | nil => simp
    | cons c r => rw [head_getD (by simp)]; intro e; exact h2 (by simp) (Option.some.inj e)
  rw [decide_eq_true this]; rfl
theorem resPort_no {s sch : List UInt8} (h : portB s = false) : resPort s sch = .tuple #[i64 0, .bool false] := by
  unfold resPort; rw [h]; rfl
theorem uport_ok (hM : Laid M w) (s sch : List UInt8) (hs : s.length ≤ 1000000000) : Calls Tryd.prog 30 #[str s, str sch] w (RetE w (resPort s sch)) := by
  have how := fun {w : World} (hw : Laid M w) => uown_ok hw sch
  refine calls_st (l := [str s, str sch]) hM Tryd.func30 rfl rfl rfl (E0 := [(0, true, str s), (1, true, str sch)]) (params_cons rfl (params_cons rfl (params_nil _))) ?_
  repeat' (first | (first | refine wc_seq ?_ | refine wc_region ?_ | refine wl_nil ?_ | refine wn_seq ?_ | refine wn_blk ?_ | refine wc_skip ?_ | refine wc_block ?_ | refine wc_exit rfl ?_ | (show WL _ _ (_ :: _) _ _ _ _; first | refine yl_v rfl rfl rfl ?_ | refine wl_v rfl rfl rfl (by first  | fail) ?_) | refine wc_ret rfl ?_) | (show WC _ (Code.cond _ _ _) _ _ _ _; (refine wc_cond rfl (fun hc => ?_) (fun hc => ?_) <;> (try (simp only [decide_eq_true_eq, decide_eq_false_iff_not, Bool.and_eq_true, Bool.or_eq_true, Bool.and_eq_false_iff, Bool.or_eq_false_iff, Bool.not_eq_true', Bool.not_eq_false', Int.not_lt, Int.not_le] at hc)) <;> (try (exfalso; first | omega | contradiction)))))
  refine wc_loop (α := { i : Nat // i ≤ s.length ∧ i ≤ 5 ∧ (∀ j, j < i → digC (s.getD j 0) = true) ∧ (0 < i → s.getD 0 0 ≠ 48) ∧ valD (s.take i) < 10 ^ i }) (fun x => [(0, true, str s), (1, true, str sch), (6, true, i64 (valD (s.take x.1) : Int)), (10, true, i64 (s.length : Int)), (11, true, i64 (x.1 : Int))]) (fun _ => St w [] [] M) (fun x => s.length - x.1) ⟨0, by omega, by omega, fun j hj => absurd hj (by omega), fun h => absurd h (by omega), by simp [valD]⟩ (by first | exact Sub.nil _ | (repeat (first | exact Sub.nil _ | refine Sub.cons (by first | rfl | (simp [look]; done)) ?_))) (fun _ h => h) ?_
  rintro ⟨i, hi, hi5, hdig, h48, hlt10⟩
  dsimp only
  have hp5 : 10 ^ i ≤ 10 ^ 5 := Nat.pow_le_pow_right (by decide) hi5
  have hp6 : (10 : Nat) ^ 5 = 100000 := by decide
  by_cases hlt : i < s.length
  · have hu := u8_lt (s.getD i 0)
    have hvt := valD_take hlt
    have hdy := dig_yes (s.getD i 0)
    repeat' (first | (first | refine wc_seq ?_ | refine wc_region ?_ | refine wl_nil ?_ | refine wn_seq ?_ | refine wn_blk ?_ | refine wc_skip ?_ | refine wc_block ?_ | refine wc_exit rfl ?_ | (show WL _ _ (_ :: _) _ _ _ _; first | refine yl_v rfl rfl rfl ?_ | refine wl_v rfl rfl rfl (by first  | fail) ?_) | refine wc_ret rfl ?_) | (show WC _ (Code.cond _ _ _) _ _ _ _; (refine wc_cond rfl (fun hc => ?_) (fun hc => ?_) <;> (try (simp only [decide_eq_true_eq, decide_eq_false_iff_not, Bool.and_eq_true, Bool.or_eq_true, Bool.and_eq_false_iff, Bool.or_eq_false_iff, Bool.not_eq_true', Bool.not_eq_false', Int.not_lt, Int.not_le] at hc)) <;> (try (exfalso; first | omega | contradiction)))))
    · have hno : portB s = false := by
        rcases hc with (hc | hc) | hc
        · exact port_no1 hlt (dig_no _ hc)
        · obtain rfl : i = 0 := by omega
          exact port_no2 hlt ((getD_cast _ 48).1 hc.2)
        · exact port_no3 (by omega)
      rw [resPort_no hno]
      exact wr_tmp2 rfl rfl rfl rfl rfl
    · have hdi := hdy ⟨by omega, by omega⟩
      refine wn_cut ⟨i + 1, by omega, by omega, fun j hj => ?_, fun _ => ?_, ?_⟩ (by show s.length - (i + 1) < s.length - i; omega) (Eng.Sub.cons rfl (Eng.Sub.cons rfl (Eng.Sub.cons ?_ (by first | exact Sub.nil _ | (repeat (first | exact Sub.nil _ | refine Sub.cons (by first | rfl | (simp [look]; done)) ?_)))))) (fun _ h => h)
      · by_cases e : j = i
        · subst e; exact hdi
        · exact hdig j (by omega)
      · intro e0
        by_cases e : i = 0
        · subst e
          have := (getD_cast _ 48).2 e0
          have h48c : ((48 : UInt8).toNat : Int) = 48 := rfl
          rcases hc.1.2 with h | h
          · exact h rfl
          · exact h (by rw [this]; rfl)
        · exact h48 (by omega) e0
      · rw [hvt, Nat.pow_succ]; omega
      · show some (true, Value.int .i64 (10 * (valD (s.take i) : Int) + (((s.getD i 0).toNat : Int) - 48))) = some (true, i64 (valD (s.take (i + 1)) : Int))
        rw [hvt]
        have : (10 * (valD (s.take i) : Int) + (((s.getD i 0).toNat : Int) - 48)) = ((10 * valD (s.take i) + ((s.getD i 0).toNat - 48) : Nat) : Int) := by omega
        rw [this]
  · obtain rfl : i = s.length := by omega
    rw [List.take_length] at hlt10 ⊢
    repeat' (first | (first | refine wc_seq ?_ | refine wc_region ?_ | refine wl_nil ?_ | refine wn_seq ?_ | refine wn_blk ?_ | refine wc_skip ?_ | refine wc_block ?_ | refine wc_exit rfl ?_ | (show WL _ _ (_ :: _) _ _ _ _; first | refine yl_v rfl rfl rfl ?_ | refine wl_v rfl rfl rfl (by first | ((show OpV _ _ _ _ (Oper.mk _ (Op.call ⟨.value (.func 46), _, _⟩) _ _ _ _) _ _; exact ov_call Tryd.call46 rfl (by intro himp; first | rfl | (simp_all; done)) (by rfl) (fun _ _ h k => h.ext k) (fun hcg w hw => how hw.laid))) | fail) ?_) | refine wc_ret rfl ?_) | (show WC _ (Code.cond _ _ _) _ _ _ _; (refine wc_cond rfl (fun hc => ?_) (fun hc => ?_) <;> (try (simp only [decide_eq_true_eq, decide_eq_false_iff_not, Bool.and_eq_true, Bool.or_eq_true, Bool.and_eq_false_iff, Bool.or_eq_false_iff, Bool.not_eq_true', Bool.not_eq_false', Int.not_lt, Int.not_le] at hc)) <;> (try (exfalso; first | omega | contradiction)))))
    · rw [resPort_no (port_no4 (by omega))]
      exact wr_tmp2 rfl rfl rfl rfl rfl
    · have hy := port_yes hdig h48 (by omega) (by omega)
      have he : valD s = ownP sch := by omega
      unfold resPort
      rw [hy, if_pos rfl, if_pos he]
      exact wr_tmp2 rfl rfl rfl rfl rfl
    · have hy := port_yes hdig h48 (by omega) (by omega)
      have he : ¬ valD s = ownP sch := by omega
      unfold resPort
      rw [hy, if_pos rfl, if_neg he]
      exact wr_tmp2 rfl rfl rfl rfl rfl
end Go.Proofs.YtmmoglgagifdfaaDoor
/-
  The plain laws of percents and forms. No program stands here.
-/
namespace Go.Pct
open Go.Txt

/-! ### what is encoded is decoded -/
theorem enc1_all (c : UInt8) : (enc1 c).all (fun d => d == 37 || plainB d) = true := by revert c; apply all_bytes; decide +kernel
theorem enc_bytes (s : List UInt8) : (encode s).all (fun d => d == 37 || plainB d) = true := by
  induction s with
  | nil => rfl
  | cons c s ih => simp only [encode, List.flatMap_cons, List.all_append, Bool.and_eq_true] at *; exact ⟨enc1_all c, ih⟩
theorem told2_hex (c : UInt8) : told2 (hexd (c.toNat / 16)) (hexd (c.toNat % 16)) = some c := by revert c; apply all_bytes; decide +kernel
theorem plain_not (c : UInt8) (h : plainB c = true) : c ≠ 37 ∧ c ≠ 43 ∧ c ≠ 38 ∧ c ≠ 61 := by revert h; revert c; apply all_bytes; decide +kernel
theorem each_plain (by1 : UInt8 → Bool → List UInt8) (c : UInt8) (r : List UInt8) (h : c ≠ 37) : each by1 (c :: r) = (each by1 r).map (by1 c false ++ ·) := by rw [each_cons, if_neg h]
theorem each_pct (by1 : UInt8 → Bool → List UInt8) (c : UInt8) (r : List UInt8) : each by1 (pctOf c ++ r) = (each by1 r).map (by1 c true ++ ·) := by
  rw [pctOf, List.cons_append, each_cons, if_pos rfl]
  simp [told, told2_hex]
theorem decode_encode (plus : Bool) (s : List UInt8) : decode plus (encode s) = some s := by
  unfold decode
  induction s with
  | nil => rfl
  | cons c s ih =>
    simp only [encode, List.flatMap_cons] at *
    by_cases h : plainB c = true
    · rw [enc1, if_pos h, List.singleton_append, each_plain _ _ _ (plain_not c h).1, ih]
      simp [byDec, (plain_not c h).2.1]
    · rw [enc1, if_neg h, each_pct, ih]
      simp [byDec]

/-! ### a text's tokens -/
def tokens : List UInt8 → Option (List (UInt8 × Bool))
  | [] => some []
  | [c] => if c = 37 then none else some [(c, false)]
  | [c, d] => if c = 37 then none else if d = 37 then none else some [(c, false), (d, false)]
  | c :: a :: b :: r =>
    if c = 37 then (match told2 a b with
      | some d => (tokens r).map ((d, true) :: ·)
      | none => none)
    else (tokens (a :: b :: r)).map ((c, false) :: ·)
theorem tokens_cons (c : UInt8) (r : List UInt8) : tokens (c :: r) = if c = 37 then (match told r with | some (d, r') => (tokens r').map ((d, true) :: ·) | none => none) else (tokens r).map ((c, false) :: ·) := by
  match r with
  | [] => by_cases h : c = 37 <;> simp [tokens, told, h]
  | [d] => by_cases h : c = 37 <;> by_cases h' : d = 37 <;> simp [tokens, told, h, h']
  | a :: b :: r =>
    simp only [tokens, told]
    split
    · cases told2 a b <;> rfl
    · rfl
theorem told_shorter {r : List UInt8} {d : UInt8} {r' : List UInt8} (h : told r = some (d, r')) : r'.length < r.length := by
  match r, h with
  | a :: b :: r, ht => simp only [told, Option.map_eq_some_iff, Prod.mk.injEq] at ht; obtain ⟨_, _, _, rfl⟩ := ht; simp; omega
theorem each_tokens (by1 : UInt8 → Bool → List UInt8) : ∀ (n : Nat) (s : List UInt8), s.length ≤ n → each by1 s = (tokens s).map (fun l => l.flatMap fun p => by1 p.1 p.2)
  | _, [], _ => by simp [each, tokens]
  | 0, c :: r, h => by simp at h
  | n + 1, c :: r, h => by
    rw [each_cons, tokens_cons]
    split
    · cases ht : told r with
      | none => rfl
      | some x =>
        obtain ⟨d, r'⟩ := x
        have := told_shorter ht
        simp only
        rw [each_tokens by1 n r' (by simp at h; omega)]
        simp [Option.map_map, Function.comp_def]
    · rw [each_tokens by1 n r (by simpa using h)]
      simp [Option.map_map, Function.comp_def]
/-- a byte that stands as itself is no percent -/
def Good (l : List (UInt8 × Bool)) : Prop := ∀ p ∈ l, p.2 = false → p.1 ≠ 37
theorem tokens_good : ∀ (n : Nat) (s : List UInt8) (l : List (UInt8 × Bool)), s.length ≤ n → tokens s = some l → Good l
  | _, [], l, _, h => by simp [tokens] at h; subst h; simp [Good]
  | 0, c :: r, l, hn, _ => by simp at hn
  | n + 1, c :: r, l, hn, h => by
    rw [tokens_cons] at h
    split at h
    · cases ht : told r with
      | none => rw [ht] at h; cases h
      | some x =>
        obtain ⟨d, r'⟩ := x
        rw [ht] at h
        have := told_shorter ht
        obtain ⟨u, hu, rfl⟩ := Option.map_eq_some_iff.1 h
        have := tokens_good n r' u (by simp at hn; omega) hu
        intro p hp
        rcases List.mem_cons.1 hp with rfl | hp
        · intro h; cases h
        · exact this p hp
    · rename_i hc
      obtain ⟨u, hu, rfl⟩ := Option.map_eq_some_iff.1 h
      have := tokens_good n r u (by simpa using hn) hu
      intro p hp
      rcases List.mem_cons.1 hp with rfl | hp
      · intro _; exact hc
      · exact this p hp
theorem tokens_only : ∀ (n : Nat) (s : List UInt8) (l : List (UInt8 × Bool)), s.length ≤ n → tokens s = some l → s.all (fun d => d == 37 || plainB d) = true → ∀ p ∈ l, p.2 = false → plainB p.1 = true
  | _, [], l, _, h, _ => by simp [tokens] at h; subst h; simp
  | 0, c :: r, l, hn, _, _ => by simp at hn
  | n + 1, c :: r, l, hn, h, ho => by
    simp only [List.all_cons, Bool.and_eq_true] at ho
    rw [tokens_cons] at h
    split at h
    · cases ht : told r with
      | none => rw [ht] at h; cases h
      | some x =>
        obtain ⟨d, r'⟩ := x
        rw [ht] at h
        have hsh := told_shorter ht
        have hr' : r'.all (fun d => d == 37 || plainB d) = true := by
          match r, ht, ho with
          | a :: b :: r, ht, ho => simp only [told, Option.map_eq_some_iff, Prod.mk.injEq] at ht; obtain ⟨_, _, _, rfl⟩ := ht; simp only [List.all_cons, Bool.and_eq_true] at ho; exact ho.2.2.2
        obtain ⟨u, hu, rfl⟩ := Option.map_eq_some_iff.1 h
        have := tokens_only n r' u (by simp at hn; omega) hu hr'
        intro p hp
        rcases List.mem_cons.1 hp with rfl | hp
        · intro h; cases h
        · exact this p hp
    · rename_i hc
      obtain ⟨u, hu, rfl⟩ := Option.map_eq_some_iff.1 h
      have := tokens_only n r u (by simpa using hn) hu ho.2
      intro p hp
      rcases List.mem_cons.1 hp with rfl | hp
      · intro _; simpa [hc] using ho.1
      · exact this p hp
def rn (p : UInt8 × Bool) : UInt8 × Bool := (p.1, p.2 && !plainB p.1)
def nrm (l : List (UInt8 × Bool)) : List UInt8 := l.flatMap fun p => byNorm p.1 p.2
theorem tokens_plain (c : UInt8) (r : List UInt8) (h : c ≠ 37) : tokens (c :: r) = (tokens r).map ((c, false) :: ·) := by rw [tokens_cons, if_neg h]
theorem tokens_pct (c : UInt8) (r : List UInt8) : tokens (pctOf c ++ r) = (tokens r).map ((c, true) :: ·) := by
  rw [pctOf, List.cons_append, tokens_cons, if_pos rfl]
  simp [told, told2_hex]
theorem tokens_nrm (l : List (UInt8 × Bool)) (h : Good l) : tokens (nrm l) = some (l.map rn) := by
  induction l with
  | nil => rfl
  | cons p l ih =>
    have ih := ih (fun q hq => h q (List.mem_cons_of_mem _ hq))
    have hp := h p (List.mem_cons_self ..)
    obtain ⟨c, pc⟩ := p
    simp only [nrm, List.flatMap_cons, List.map_cons] at *
    cases pc with
    | false =>
      rw [show byNorm c false = [c] from by simp [byNorm], List.singleton_append, tokens_plain _ _ (hp rfl), ih]; simp [rn]
    | true =>
      by_cases hpl : plainB c = true
      · rw [show byNorm c true = [c] from by simp [byNorm, hpl], List.singleton_append, tokens_plain _ _ (plain_not c hpl).1, ih]; simp [rn, hpl]
      · rw [show byNorm c true = pctOf c from by simp [byNorm, hpl], tokens_pct, ih]; simp [rn, hpl]
theorem normal_tokens (s : List UInt8) : normal s = (tokens s).map nrm := each_tokens byNorm _ s (Nat.le_refl _)
theorem decode_tokens (s : List UInt8) : decode false s = (tokens s).map (·.map (·.1)) := by
  unfold decode
  rw [each_tokens _ _ s (Nat.le_refl _)]
  congr 1
  funext l
  induction l with
  | nil => rfl
  | cons p l ih => simp only [List.flatMap_cons, List.map_cons, ih]; simp [byDec]
theorem nrm_rn (l : List (UInt8 × Bool)) : nrm (l.map rn) = nrm l := by
  induction l with
  | nil => rfl
  | cons p l ih =>
    simp only [nrm, List.map_cons, List.flatMap_cons] at *
    rw [ih]
    congr 1
    obtain ⟨c, pc⟩ := p
    cases pc <;> by_cases h : plainB c = true <;> simp [byNorm, rn, h]
theorem fst_rn (l : List (UInt8 × Bool)) : (l.map rn).map (·.1) = l.map (·.1) := by simp [rn, Function.comp_def]
theorem nrm_encode (l : List (UInt8 × Bool)) (h : ∀ p ∈ l, p.2 = false → plainB p.1 = true) : nrm l = encode (l.map (·.1)) := by
  induction l with
  | nil => rfl
  | cons p l ih =>
    have ih := ih (fun q hq => h q (List.mem_cons_of_mem _ hq))
    have hp := h p (List.mem_cons_self ..)
    simp only [nrm, encode, List.map_cons, List.flatMap_cons] at *
    rw [ih]
    congr 1
    obtain ⟨c, pc⟩ := p
    cases pc with
    | false => simp [byNorm, enc1, hp rfl]
    | true => by_cases hpl : plainB c = true <;> simp [byNorm, enc1, hpl]
/-- Normal is one way of writing -/
theorem normal_law {s a : List UInt8} (h : normal s = some a) : ∃ x, normal a = some a ∧ decode false s = some x ∧ decode false a = some x ∧ (s.all (fun d => d == 37 || plainB d) = true → a = encode x) := by
  rw [normal_tokens] at h
  obtain ⟨l, hl, rfl⟩ := Option.map_eq_some_iff.1 h
  have hg := tokens_good _ s l (Nat.le_refl _) hl
  refine ⟨l.map (·.1), ?_, ?_, ?_, fun ho => ?_⟩
  · rw [normal_tokens, tokens_nrm l hg, Option.map_some, nrm_rn]
  · rw [decode_tokens, hl]; rfl
  · rw [decode_tokens, tokens_nrm l hg, Option.map_some, fst_rn]
  · exact nrm_encode l (tokens_only _ s l (Nat.le_refl _) hl ho)
end Go.Pct
/-
  The plain laws of forms: what is written is read; forms side by side. No program stands here.
-/
namespace Go.Pct
open Go.Txt

theorem each_length {by1 : UInt8 → Bool → List UInt8} (h1 : ∀ c, (by1 c false).length ≤ 1) (h2 : ∀ c, (by1 c true).length ≤ 3) : ∀ (n : Nat) (s t : List UInt8), s.length ≤ n → each by1 s = some t → t.length ≤ s.length
  | _, [], t, _, h => by simp [each] at h; subst h; simp
  | 0, c :: r, t, hn, _ => by simp at hn
  | n + 1, c :: r, t, hn, h => by
    rw [each_cons] at h
    split at h
    · cases ht : told r with
      | none => rw [ht] at h; cases h
      | some x =>
        obtain ⟨d, r'⟩ := x
        rw [ht] at h
        simp only at h
        have hr : r'.length + 2 = r.length := by
          match r, ht with
          | a :: b :: r, ht => simp only [told, Option.map_eq_some_iff, Prod.mk.injEq] at ht; obtain ⟨_, _, _, rfl⟩ := ht; simp
        obtain ⟨u, hu, rfl⟩ := Option.map_eq_some_iff.1 h
        have := each_length h1 h2 n r' u (by simp at hn; omega) hu
        have := h2 d
        simp; omega
    · obtain ⟨u, hu, rfl⟩ := Option.map_eq_some_iff.1 h
      have := each_length h1 h2 n r u (by simpa using hn) hu
      have := h1 c
      simp; omega
theorem normal_length {s t : List UInt8} (h : normal s = some t) : t.length ≤ s.length := each_length (by1 := byNorm) (fun c => by simp [byNorm]) (fun c => byNorm_length c true) _ s t (Nat.le_refl _) h
theorem gaps : ∀ j, j < 10 → ([38, 38, 38, 38, 38, 38, 38, 38, 38, 38] : List UInt8).take (1 + j) = List.replicate (j + 1) 38 := by decide
theorem not_mem_of_all {d : UInt8} {s : List UInt8} (h : s.all (fun c => c == 37 || plainB c) = true) (hd : d = 38 ∨ d = 61) : d ∉ s := by
  intro hm
  have := List.all_eq_true.1 h d hm
  rcases hd with rfl | rfl <;> revert this <;> decide +kernel
theorem w1_amp (p : Pr) : (38 : UInt8) ∉ w1 p := by
  have h1 := not_mem_of_all (d := 38) (enc_bytes p.1) (.inl rfl)
  have h2 := not_mem_of_all (d := 38) (enc_bytes p.2) (.inl rfl)
  simp only [w1, List.mem_append, List.mem_cons, not_or]
  exact ⟨h1, by decide, h2⟩
theorem pieces_write : ∀ (l : List Pr) (p : Pr), pieces 38 (w1 p ++ l.flatMap (fun q => 38 :: w1 q)) = (p :: l).map w1
  | [], p => by simp [pieces_no (w1_amp p)]
  | q :: l, p => by
    rw [List.flatMap_cons, List.cons_append, pieces_hit (w1_amp p), pieces_write l q]; rfl
theorem pairOf_w1 (p : Pr) : pairOf (w1 p) = some p := by
  have h1 := not_mem_of_all (d := 61) (enc_bytes p.1) (.inr rfl)
  have hi : idx 61 (w1 p) = (encode p.1).length := idx_append h1
  have e1 : (w1 p).take (encode p.1).length = encode p.1 := by simp [w1]
  have e2 : (w1 p).drop ((encode p.1).length + 1) = encode p.2 := by simp [w1]
  unfold pairOf
  rw [hi, e1, e2, decode_encode, decode_encode]
theorem w1_ne (p : Pr) : w1 p ≠ [] := by simp [w1]
theorem formGo_w1 : ∀ (l out : List Pr), out.length ≤ 32 → formGo (l.map w1) out = if out.length + l.length ≤ 32 then (out ++ l, 0) else ([], 5)
  | [], out, h => by simp [formGo, h]
  | p :: l, out, h => by
    simp only [List.map_cons, formGo]
    rw [if_neg (w1_ne p), pairOf_w1]
    by_cases h2 : 32 ≤ out.length
    · rw [if_pos h2, if_neg (by simp; omega)]
    · rw [if_neg h2]
      simp only
      rw [formGo_w1 l (out ++ [p]) (by simp; omega)]
      simp only [List.length_append, List.length_cons, List.length_nil, List.append_assoc, List.singleton_append]
      by_cases h3 : out.length + (l.length + 1) ≤ 32
      · rw [if_pos (by omega), if_pos h3]
      · rw [if_neg (by omega), if_neg h3]
/-- what is written as a form is read -/
theorem form_write (l : List Pr) : form (writeP l) = if l.length ≤ 32 then (l, 0) else ([], 5) := by
  cases l with
  | nil => rfl
  | cons p l =>
    unfold form writeP
    rw [pieces_write, formGo_w1 _ [] (by simp)]
    simp only [List.length_nil, Nat.zero_add, List.nil_append]

/-! ### side by side -/
theorem formGo_append : ∀ (l1 l2 : List (List UInt8)) (out r : List Pr), formGo l1 out = (r, 0) → formGo (l1 ++ l2) out = formGo l2 r
  | [], l2, out, r, h => by simp only [formGo, Prod.mk.injEq, and_true] at h; subst h; rfl
  | x :: l1, l2, out, r, h => by
    simp only [List.cons_append, formGo] at *
    split at h
    · rename_i hx; rw [if_pos hx]; exact formGo_append l1 l2 out r h
    · rename_i hx; rw [if_neg hx]
      split at h
      · cases h
      · rename_i hf; rw [if_neg hf]
        split at h
        · cases h
        · exact formGo_append l1 l2 _ r h
theorem formGo_from : ∀ (l : List (List UInt8)) (out r : List Pr), formGo l out = (r, 0) → ∃ b, r = out ++ b ∧ ∀ out' : List Pr, out'.length ≤ 32 → formGo l out' = if out'.length + b.length ≤ 32 then (out' ++ b, 0) else ([], 5)
  | [], out, r, h => by
    simp only [formGo, Prod.mk.injEq, and_true] at h; subst h
    exact ⟨[], by simp, fun out' h => by simp [formGo, h]⟩
  | x :: l, out, r, h => by
    simp only [formGo] at h
    split at h
    · rename_i hx
      obtain ⟨b, hb, hall⟩ := formGo_from l out r h
      exact ⟨b, hb, fun out' h' => by rw [formGo, if_pos hx]; exact hall out' h'⟩
    · rename_i hx
      split at h
      · cases h
      · split at h
        · cases h
        · rename_i p hp
          obtain ⟨b, hb, hall⟩ := formGo_from l _ r h
          refine ⟨p :: b, by rw [hb]; simp, fun out' h' => ?_⟩
          rw [formGo, if_neg hx]
          by_cases h2 : 32 ≤ out'.length
          · rw [if_pos h2, if_neg (by simp; omega)]
          · rw [if_neg h2, hp]
            simp only
            rw [hall (out' ++ [p]) (by simp; omega)]
            simp only [List.length_append, List.length_cons, List.length_nil, List.append_assoc, List.singleton_append]
            by_cases h3 : out'.length + (b.length + 1) ≤ 32
            · rw [if_pos (by omega), if_pos h3]
            · rw [if_neg (by omega), if_neg h3]
theorem formGo_gap (n : Nat) (l : List (List UInt8)) (out : List Pr) : formGo (List.replicate n [] ++ l) out = formGo l out := by
  induction n with
  | zero => rfl
  | succ n ih => rw [List.replicate_succ, List.cons_append, formGo, if_pos rfl, ih]
theorem pieces_gap (n : Nat) (t : List UInt8) : pieces 38 (List.replicate n 38 ++ t) = List.replicate n [] ++ pieces 38 t := by
  induction n with
  | zero => rfl
  | succ n ih => simp only [List.replicate_succ, List.cons_append, pieces]; rw [if_pos trivial, ih]
/-- forms side by side are their pairs side by side -/
theorem form_joins {s t : List UInt8} {a b : List Pr} (n : Nat) (ha : form s = (a, 0)) (hb : form t = (b, 0)) : form (s ++ List.replicate (n + 1) 38 ++ t) = if a.length + b.length ≤ 32 then (a ++ b, 0) else ([], 5) := by
  unfold form at *
  have e : s ++ List.replicate (n + 1) 38 ++ t = s ++ 38 :: (List.replicate n 38 ++ t) := by simp [List.replicate_succ]
  have hal : a.length ≤ 32 := by have := form_short s; unfold form at this; rw [ha] at this; exact this
  rw [e, pieces_append, formGo_append _ _ _ _ ha, pieces_gap, formGo_gap]
  obtain ⟨b', hb', hall⟩ := formGo_from _ _ _ hb
  simp only [List.nil_append] at hb'
  subst hb'
  exact hall a hal
end Go.Pct
/-
  The package's Parse.
-/
namespace Go.Proofs.YtmmoglgagifdfaaDoor
open Go.Eng Go.Pct Go.Txt Go.Url
set_option maxRecDepth 10000
set_option linter.unusedSimpArgs false
set_option linter.unusedVariables false

variable {M : Ghost} {w : World}
/-- a URL's cells -/
def urlCells (u : Ur) : List Value := [str u.scheme, str u.host, i64 (u.port : Int), str u.path, str u.query, .bool u.ask]
def resUrl (q : Ur × Int) : Value := .tuple #[.agg (urlCells q.1).toArray, i64 q.2]
theorem ask_idx (s : List UInt8) : s.take (idx 63 s) = wd isAsk s ∧ s.drop (idx 63 s + 1) = (rs isAsk s).drop 1 ∧ decide (idx 63 s < s.length) = decide (rs isAsk s ≠ []) := by
  have h : idx 63 s = (wd isAsk s).length := by
    refine idx_eq ?_ ?_ ?_
    · have := rs_length isAsk s; omega
    · intro j hj
      have := (wd_go0 (p := isAsk) s j (by omega)).2 hj
      intro e
      have h2 := this.2
      rw [e] at h2; exact absurd h2 (by decide)
    · have h2 := rs_length isAsk s
      rcases Nat.lt_or_ge (wd isAsk s).length s.length with h3 | h3
      · right
        have h4 := wd_go0 (p := isAsk) s (wd isAsk s).length (Nat.le_refl _)
        have h5 : isAsk (s.getD (wd isAsk s).length 0) = true := by
          cases hq : isAsk (s.getD (wd isAsk s).length 0) with
          | true => rfl
          | false => exact absurd (h4.1 ⟨h3, hq⟩) (by omega)
        have h6 : (s.getD (wd isAsk s).length 0 == 63) = true := h5
        exact eq_of_beq h6
      · left; omega
  have hl := rs_length isAsk s
  refine ⟨by rw [h, wd_take], by rw [h, ← List.drop_drop, rs_drop], ?_⟩
  rw [h, decide_eq_decide]
  constructor
  · intro h2 e
    rw [e] at hl; simp at hl; omega
  · intro h2
    have := List.length_pos_iff.2 h2
    omega
theorem partP_length {s t : List UInt8} (h : partP s = some t) : t.length ≤ s.length := by
  unfold partP at h
  split at h
  · exact normal_length h
  · cases h
set_option maxHeartbeats 2000000 in
theorem uparse_ok (hG : Glob M) (hM : Laid M w) (s : List UInt8) (hs : s.length ≤ 9223372036854775807) : Calls Tryd.prog 10 #[str s] w (RetE w (resUrl (parseU s))) := by
  refine calls_st (l := [str s]) hM Tryd.func10 rfl rfl rfl (E0 := [(0, true, str s)]) (params_cons rfl (params_nil _)) ?_
  unfold parseU
  repeat' (first | (first | refine wc_seq ?_ | refine wc_region ?_ | refine wl_nil ?_ | refine wn_seq ?_ | refine wn_blk ?_ | refine wc_skip ?_ | refine wc_block ?_ | refine wc_exit rfl ?_ | (show WL _ _ (_ :: _) _ _ _ _; first | refine yl_v rfl rfl rfl ?_ | refine wl_v rfl rfl rfl (by first  | fail) ?_ | refine xl_alloc (fun _ => ?_) | refine xl_store rfl rfl ?_) | refine wc_ret rfl ?_) | (show WC _ (Code.cond _ _ _) _ _ _ _; (refine wc_cond rfl (fun hc => ?_) (fun hc => ?_) <;> (try (simp only [decide_eq_true_eq, decide_eq_false_iff_not, Bool.and_eq_true, Bool.or_eq_true, Bool.and_eq_false_iff, Bool.or_eq_false_iff, Bool.not_eq_true', Bool.not_eq_false', Int.not_lt, Int.not_le] at hc)) <;> (try (exfalso; first | omega | contradiction)))))
  · rw [if_pos (by omega)]
    exact yr_cellS rfl rfl rfl rfl rfl rfl rfl
  rename_i b2
  rw [if_neg (by omega)]
  have hl2 : s.length ≤ 2000 := by omega
  have hs : s.length ≤ 1000000000 := by omega
  clear hc
  cases hcs : cutS sCss s with
  | none =>
    repeat' (first | (first | refine wc_seq ?_ | refine wc_region ?_ | refine wl_nil ?_ | refine wn_seq ?_ | refine wn_blk ?_ | refine wc_skip ?_ | refine wc_block ?_ | refine wc_exit rfl ?_ | (show WL _ _ (_ :: _) _ _ _ _; first | refine yl_v rfl rfl rfl ?_ | refine wl_v rfl rfl rfl (by first | ((show OpV _ _ _ _ (Oper.mk _ (Op.call ⟨.value (.func 25), _, _⟩) _ _ _ _) _ _; exact ov_call Tryd.call25 rfl (by intro himp; first | rfl | (simp_all; done)) (by rfl) (fun _ _ h k => h.ext k) (fun hcg w hw => cut_no hG hw.laid (sep := sCss) (by decide) hs hcs))) | ((show OpV _ _ _ _ (Oper.mk _ (Op.call ⟨.value (.func 26), _, _⟩) _ _ _ _) _ _; exact ov_call Tryd.call26 rfl (by intro himp; first | rfl | (simp_all; done)) (by rfl) (fun _ _ h k => h.ext k) (fun hcg w hw => ulower_ok hw.laid s hs))) | fail) ?_ | refine xl_alloc (fun _ => ?_) | refine xl_store rfl rfl ?_) | refine wc_ret rfl ?_) | (show WC _ (Code.cond _ _ _) _ _ _ _; (refine wc_cond rfl (fun hc => ?_) (fun hc => ?_) <;> (try (simp only [decide_eq_true_eq, decide_eq_false_iff_not, Bool.and_eq_true, Bool.or_eq_true, Bool.and_eq_false_iff, Bool.or_eq_false_iff, Bool.not_eq_true', Bool.not_eq_false', Int.not_lt, Int.not_le] at hc)) <;> (try (exfalso; first | omega | contradiction)))))
    exact yr_cellS rfl rfl rfl rfl rfl rfl rfl
  | some q =>
    obtain ⟨a, b⟩ := q
    have hcl := cutS_length hcs
    have hcy := fun {w : World} (hw : Laid M w) => cut_yes hG hw (sep := sCss) (by decide) hs hcs
    have hlow := fun {w : World} (hw : Laid M w) => ulower_ok hw a (by omega)
    simp only
    repeat' (first | refine wc_seq ?_ | refine wc_region ?_ | refine wl_nil ?_ | refine wn_seq ?_ | refine wn_blk ?_ | refine wc_skip ?_ | refine wc_block ?_ | refine wc_exit rfl ?_ | (show WL _ _ (_ :: _) _ _ _ _; first | refine yl_v rfl rfl rfl ?_ | refine wl_v rfl rfl rfl (by first | ((show OpV _ _ _ _ (Oper.mk _ (Op.call ⟨.value (.func 25), _, _⟩) _ _ _ _) _ _; exact ov_call Tryd.call25 rfl (by intro himp; first | rfl | (simp_all; done)) (by rfl) (fun _ _ h k => h.ext k) (fun hcg w hw => hcy hw.laid))) | ((show OpV _ _ _ _ (Oper.mk _ (Op.call ⟨.value (.func 26), _, _⟩) _ _ _ _) _ _; exact ov_call Tryd.call26 rfl (by intro himp; first | rfl | (simp_all; done)) (by rfl) (fun _ _ h k => h.ext k) (fun hcg w hw => hlow hw.laid))) | fail) ?_ | refine xl_alloc (fun _ => ?_) | refine xl_store rfl rfl ?_) | refine wc_ret rfl ?_)
    have hcd : (low a = sHttp ∨ low a = sHttps) ∨ ¬ (low a = sHttp ∨ low a = sHttps) := Decidable.em _
    rcases hcd with hsch | hsch
    · rw [if_pos hsch]
      refine wc_cond rfl (fun hc => ?_) (fun _ => ?_)
      · exfalso
        simp only [Bool.and_eq_true, Bool.not_eq_true', decide_eq_false_iff_not] at hc
        rcases hsch with h | h
        · exact hc.1 h
        · exact hc.2 h
      have hal := low_length a
      have hb1 : b.length ≤ 2000 := by omega
      generalize low a = sch at *
      have hb2 := rs_length isHost b
      have hcut := fun {w : World} (hw : Laid M w) => ucut_ok hw b [47, 63, 35, 58] isHost (by intro c; revert c; apply all_bytes; decide +kernel) (by omega) (by decide) (by decide) (by decide)
      have hlow2 := fun {w : World} (hw : Laid M w) => ulower_ok hw (wd isHost b) (by omega)
      have hll := low_length (wd isHost b)
      have hhost := fun {w : World} (hw : Laid M w) => uhost_ok hw (low (wd isHost b)) (by omega)
      rw [hostA_low] at hhost
      unfold hostP
      repeat' (first | refine wc_seq ?_ | refine wc_region ?_ | refine wl_nil ?_ | refine wn_seq ?_ | refine wn_blk ?_ | refine wc_skip ?_ | refine wc_block ?_ | refine wc_exit rfl ?_ | (show WL _ _ (_ :: _) _ _ _ _; first | refine yl_v rfl rfl rfl ?_ | refine wl_v rfl rfl rfl (by first | ((show OpV _ _ _ _ (Oper.mk _ (Op.call ⟨.value (.func 27), _, _⟩) _ _ _ _) _ _; exact ov_call Tryd.call27 rfl (by intro himp; first | rfl | (simp_all; done)) (by rfl) (fun _ _ h k => h.ext k) (fun hcg w hw => hcut hw.laid))) | ((show OpV _ _ _ _ (Oper.mk _ (Op.call ⟨.value (.func 26), _, _⟩) _ _ _ _) _ _; exact ov_call Tryd.call26 rfl (by intro himp; first | rfl | (simp_all; done)) (by rfl) (fun _ _ h k => h.ext k) (fun hcg w hw => hlow2 hw.laid))) | ((show OpV _ _ _ _ (Oper.mk _ (Op.call ⟨.value (.func 28), _, _⟩) _ _ _ _) _ _; exact ov_call Tryd.call28 rfl (by intro himp; first | rfl | (simp_all; done)) (by rfl) (fun _ _ h k => h.ext k) (fun hcg w hw => hhost hw.laid))) | fail) ?_ | refine xl_alloc (fun _ => ?_) | refine xl_store rfl rfl ?_) | refine wc_ret rfl ?_)
      cases hhb : hostB (low (wd isHost b)) with
      | false =>
        refine wc_cond rfl (fun _ => ?_) (fun hc => absurd hc (by decide))
        repeat' (first | (first | refine wc_seq ?_ | refine wc_region ?_ | refine wl_nil ?_ | refine wn_seq ?_ | refine wn_blk ?_ | refine wc_skip ?_ | refine wc_block ?_ | refine wc_exit rfl ?_ | (show WL _ _ (_ :: _) _ _ _ _; first | refine yl_v rfl rfl rfl ?_ | refine wl_v rfl rfl rfl (by first  | fail) ?_ | refine xl_alloc (fun _ => ?_) | refine xl_store rfl rfl ?_) | refine wc_ret rfl ?_) | (show WC _ (Code.cond _ _ _) _ _ _ _; (refine wc_cond rfl (fun hc => ?_) (fun hc => ?_) <;> (try (simp only [decide_eq_true_eq, decide_eq_false_iff_not, Bool.and_eq_true, Bool.or_eq_true, Bool.and_eq_false_iff, Bool.or_eq_false_iff, Bool.not_eq_true', Bool.not_eq_false', Int.not_lt, Int.not_le] at hc)) <;> (try (exfalso; first | omega | contradiction)))))
        exact yr_cellS rfl rfl rfl rfl rfl rfl rfl
      | true =>
        refine wc_cond rfl (fun hc => absurd hc (by decide)) (fun hq => ?_)
        clear hq
        rename_i b7
        rw [if_pos rfl]
        generalize low (wd isHost b) = h at *
        have hrl : (rs isHost b).length ≤ 2000 := by omega
        generalize rs isHost b = rr at *
        clear hcut hlow2 hhost hll hb2 hhb hcy hlow hcs hcl
        have hpx := fun {w : World} (hw : Laid M w) => hpre_ok hw rr [58]
        repeat' (first | refine wc_seq ?_ | refine wc_region ?_ | refine wl_nil ?_ | refine wn_seq ?_ | refine wn_blk ?_ | refine wc_skip ?_ | refine wc_block ?_ | refine wc_exit rfl ?_ | (show WL _ _ (_ :: _) _ _ _ _; first | refine yl_v rfl rfl rfl ?_ | refine wl_v rfl rfl rfl (by first | ((show OpV _ _ _ _ (Oper.mk _ (Op.call ⟨.value (.func 29), _, _⟩) _ _ _ _) _ _; exact ov_call Tryd.call29 rfl (by intro himp; first | rfl | (simp_all; done)) (by rfl) (fun _ _ h k => h.ext k) (fun hcg w hw => hpx hw.laid))) | fail) ?_ | refine xl_alloc (fun _ => ?_) | refine xl_store rfl rfl ?_) | refine wc_ret rfl ?_)
        refine wc_split (α := { x : Nat × List UInt8 // tailP sch h x.1 x.2 = afterHost sch h rr ∧ x.2.length ≤ 2000 ∧ x.1 ≤ 65535 }) (fun x => [(2, true, .pointer (some ⟨b2, 0, none⟩)), (5, true, str x.1.2), (7, true, .pointer (some ⟨b7, 0, none⟩))]) (fun x => St w [] [(b7, .cells [str sch, str h, i64 (x.1.1 : Int), str [], str [], .bool false].toArray 24 (0, 0)), (b2, .cells [str [], str [], i64 0, str [], str [], .bool false].toArray 24 (0, 0))] M) ?_ ?_
        · rcases pre1 (d := 58) (s := rr) with ⟨hp, r, rfl⟩ | ⟨hp, hno⟩
          · rw [hp]
            simp only [List.length_cons] at hrl
            have hb3 := rs_length isPort r
            have hcut := fun {w : World} (hw : Laid M w) => ucut_ok hw r [47, 63, 35] isPort (by intro c; revert c; apply all_bytes; decide +kernel) (by omega) (by decide) (by decide) (by decide)
            have hpo := fun {w : World} (hw : Laid M w) => uport_ok hw (wd isPort r) sch (by omega)
            have hah : afterHost sch h (58 :: r) = if portB (wd isPort r) = true then tailP sch h (if valD (wd isPort r) = ownP sch then 0 else valD (wd isPort r)) (rs isPort r) else (uz, 14) := rfl
            refine wc_cond rfl (fun _ => ?_) (fun hc => absurd hc (by decide))
            unfold resPort at hpo
            rw [hah]
            cases hpb : portB (wd isPort r) with
            | true =>
              have hval : valD (wd isPort r) ≤ 65535 := by
                unfold portB at hpb
                simp only [Bool.and_eq_true, decide_eq_true_eq] at hpb
                exact hpb.2
              rw [hpb, if_pos rfl] at hpo
              generalize hn : (if valD (wd isPort r) = ownP sch then 0 else valD (wd isPort r)) = pn at *
              have hpn : pn ≤ 65535 := by rw [← hn]; split <;> omega
              repeat' (first | (first | refine wc_seq ?_ | refine wc_region ?_ | refine wl_nil ?_ | refine wn_seq ?_ | refine wn_blk ?_ | refine wc_skip ?_ | refine wc_block ?_ | refine wc_exit rfl ?_ | (show WL _ _ (_ :: _) _ _ _ _; first | refine yl_v rfl rfl rfl ?_ | refine wl_v rfl rfl rfl (by first | ((show OpV _ _ _ _ (Oper.mk _ (Op.call ⟨.value (.func 27), _, _⟩) _ _ _ _) _ _; exact ov_call Tryd.call27 rfl (by intro himp; first | rfl | (simp_all; done)) (by rfl) (fun _ _ h k => h.ext k) (fun hcg w hw => hcut hw.laid))) | ((show OpV _ _ _ _ (Oper.mk _ (Op.call ⟨.value (.func 30), _, _⟩) _ _ _ _) _ _; exact ov_call Tryd.call30 rfl (by intro himp; first | rfl | (simp_all; done)) (by rfl) (fun _ _ h k => h.ext k) (fun hcg w hw => hpo hw.laid))) | (show OpV _ _ _ _ (Oper.mk _ (Op.slice _ _ (some _) none none) _ _ _ _) _ _; exact ov_from (i := 1) rfl rfl rfl (by first | with_reducible exact fun _ => rfl | with_reducible exact fun h => h | exact fun _ => rfl | exact fun h => h | (intro himp; simp_all; done)) (by first | with_reducible exact fun _ => rfl | with_reducible exact fun h => h | exact fun _ => rfl | exact fun h => h | (intro himp; simp_all; done)) rfl (fun _ => by simp)) | fail) ?_ | refine xl_alloc (fun _ => ?_) | refine xl_store rfl rfl ?_) | refine wc_ret rfl ?_) | (show WC _ (Code.cond _ _ _) _ _ _ _; (refine wc_cond rfl (fun hc => ?_) (fun hc => ?_) <;> (try (simp only [decide_eq_true_eq, decide_eq_false_iff_not, Bool.and_eq_true, Bool.or_eq_true, Bool.and_eq_false_iff, Bool.or_eq_false_iff, Bool.not_eq_true', Bool.not_eq_false', Int.not_lt, Int.not_le] at hc)) <;> (try (exfalso; first | omega | contradiction)))))
              exact wn_cut ⟨(pn, rs isPort r), by rw [if_pos rfl], by show (rs isPort r).length ≤ 2000; omega, hpn⟩ trivial (by first | exact Sub.nil _ | (repeat (first | exact Sub.nil _ | refine Sub.cons (by first | rfl | (simp [look]; done)) ?_))) (fun _ h => h)
            | false =>
              rw [hpb, if_neg (by decide)] at hpo
              rw [if_neg (by decide)]
              repeat' (first | (first | refine wc_seq ?_ | refine wc_region ?_ | refine wl_nil ?_ | refine wn_seq ?_ | refine wn_blk ?_ | refine wc_skip ?_ | refine wc_block ?_ | refine wc_exit rfl ?_ | (show WL _ _ (_ :: _) _ _ _ _; first | refine yl_v rfl rfl rfl ?_ | refine wl_v rfl rfl rfl (by first | ((show OpV _ _ _ _ (Oper.mk _ (Op.call ⟨.value (.func 27), _, _⟩) _ _ _ _) _ _; exact ov_call Tryd.call27 rfl (by intro himp; first | rfl | (simp_all; done)) (by rfl) (fun _ _ h k => h.ext k) (fun hcg w hw => hcut hw.laid))) | ((show OpV _ _ _ _ (Oper.mk _ (Op.call ⟨.value (.func 30), _, _⟩) _ _ _ _) _ _; exact ov_call Tryd.call30 rfl (by intro himp; first | rfl | (simp_all; done)) (by rfl) (fun _ _ h k => h.ext k) (fun hcg w hw => hpo hw.laid))) | (show OpV _ _ _ _ (Oper.mk _ (Op.slice _ _ (some _) none none) _ _ _ _) _ _; exact ov_from (i := 1) rfl rfl rfl (by first | with_reducible exact fun _ => rfl | with_reducible exact fun h => h | exact fun _ => rfl | exact fun h => h | (intro himp; simp_all; done)) (by first | with_reducible exact fun _ => rfl | with_reducible exact fun h => h | exact fun _ => rfl | exact fun h => h | (intro himp; simp_all; done)) rfl (fun _ => by simp)) | fail) ?_ | refine xl_alloc (fun _ => ?_) | refine xl_store rfl rfl ?_) | refine wc_ret rfl ?_) | (show WC _ (Code.cond _ _ _) _ _ _ _; (refine wc_cond rfl (fun hc => ?_) (fun hc => ?_) <;> (try (simp only [decide_eq_true_eq, decide_eq_false_iff_not, Bool.and_eq_true, Bool.or_eq_true, Bool.and_eq_false_iff, Bool.or_eq_false_iff, Bool.not_eq_true', Bool.not_eq_false', Int.not_lt, Int.not_le] at hc)) <;> (try (exfalso; first | omega | contradiction)))))
              exact yr_cellS rfl rfl rfl rfl rfl rfl rfl
          · rw [hp]
            have hah : afterHost sch h rr = tailP sch h 0 rr := by
              unfold afterHost
              split
              · rename_i r; exact absurd rfl (hno r)
              · rfl
            refine wc_cond rfl (fun hc => absurd hc (by decide)) (fun _ => ?_)
            repeat' (first | (first | refine wc_seq ?_ | refine wc_region ?_ | refine wl_nil ?_ | refine wn_seq ?_ | refine wn_blk ?_ | refine wc_skip ?_ | refine wc_block ?_ | refine wc_exit rfl ?_ | (show WL _ _ (_ :: _) _ _ _ _; first | refine yl_v rfl rfl rfl ?_ | refine wl_v rfl rfl rfl (by first  | fail) ?_ | refine xl_alloc (fun _ => ?_) | refine xl_store rfl rfl ?_) | refine wc_ret rfl ?_) | (show WC _ (Code.cond _ _ _) _ _ _ _; (refine wc_cond rfl (fun hc => ?_) (fun hc => ?_) <;> (try (simp only [decide_eq_true_eq, decide_eq_false_iff_not, Bool.and_eq_true, Bool.or_eq_true, Bool.and_eq_false_iff, Bool.or_eq_false_iff, Bool.not_eq_true', Bool.not_eq_false', Int.not_lt, Int.not_le] at hc)) <;> (try (exfalso; first | omega | contradiction)))))
            exact wn_cut ⟨(0, rr), hah.symm, hrl, Nat.zero_le _⟩ trivial (by first | exact Sub.nil _ | (repeat (first | exact Sub.nil _ | refine Sub.cons (by first | rfl | (simp [look]; done)) ?_))) (fun _ h => h)
        · rintro ⟨⟨pn, rest⟩, ht, hrest, hpn⟩
          dsimp only at ht hrest hpn ⊢
          rw [← ht]
          clear ht hpx hrl
          obtain ⟨k1, k2, k3⟩ := ask_idx rest
          have hcu := fun {w : World} (hw : Laid M w) => cut_ok hG hw rest 63 (by omega)
          rw [k1, k2, k3] at hcu
          have hrl2 := rs_length isAsk rest
          have hdl : ((rs isAsk rest).drop 1).length ≤ (rs isAsk rest).length := by rw [List.length_drop]; omega
          have hn1 := fun {w : World} (hw : Laid M w) => unormal_ok hG hw (wd isAsk rest) (by omega)
          have hn2 := fun {w : World} (hw : Laid M w) => unormal_ok hG hw ((rs isAsk rest).drop 1) (by omega)
          have hpl := fun {t : List UInt8} => partP_length (s := wd isAsk rest) (t := t)
          unfold tailP
          clear k1 k2 k3
          generalize decide (rs isAsk rest ≠ []) = ask at *
          generalize (rs isAsk rest).drop 1 = qs at *
          generalize wd isAsk rest = ps at *
          cases hp : partP ps with
          | none =>
            rw [hp] at hn1
            have hn1 : ∀ {w : World}, Laid M w → Calls Tryd.prog 31 #[str ps] w (RetE w (.tuple #[str [], i64 15])) := hn1
            repeat' (first | (first | refine wc_seq ?_ | refine wc_region ?_ | refine wl_nil ?_ | refine wn_seq ?_ | refine wn_blk ?_ | refine wc_skip ?_ | refine wc_block ?_ | refine wc_exit rfl ?_ | (show WL _ _ (_ :: _) _ _ _ _; first | refine yl_v rfl rfl rfl ?_ | refine wl_v rfl rfl rfl (by first | ((show OpV _ _ _ _ (Oper.mk _ (Op.call ⟨.value (.func 25), _, _⟩) _ _ _ _) _ _; exact ov_call Tryd.call25 rfl (by intro himp; first | rfl | (simp_all; done)) (by rfl) (fun _ _ h k => h.ext k) (fun hcg w hw => hcu hw.laid))) | ((show OpV _ _ _ _ (Oper.mk _ (Op.call ⟨.value (.func 31), _, _⟩) _ _ _ _) _ _; exact ov_call Tryd.call31 rfl (by intro himp; first | rfl | (simp_all; done)) (by rfl) (fun _ _ h k => h.ext k) (fun hcg w hw => hn1 hw.laid))) | fail) ?_ | refine xl_alloc (fun _ => ?_) | refine xl_store rfl rfl ?_) | refine wc_ret rfl ?_) | (show WC _ (Code.cond _ _ _) _ _ _ _; (refine wc_cond rfl (fun hc => ?_) (fun hc => ?_) <;> (try (simp only [decide_eq_true_eq, decide_eq_false_iff_not, Bool.and_eq_true, Bool.or_eq_true, Bool.and_eq_false_iff, Bool.or_eq_false_iff, Bool.not_eq_true', Bool.not_eq_false', Int.not_lt, Int.not_le] at hc)) <;> (try (exfalso; first | omega | contradiction)))))
            exact yr_cellS rfl rfl rfl rfl rfl rfl rfl
          | some p =>
            rw [hp] at hn1
            have hn1 : ∀ {w : World}, Laid M w → Calls Tryd.prog 31 #[str ps] w (RetE w (.tuple #[str p, i64 0])) := hn1
            have hpl2 := hpl hp
            cases hq : partP qs with
            | none =>
              rw [hq] at hn2
              have hn2 : ∀ {w : World}, Laid M w → Calls Tryd.prog 31 #[str qs] w (RetE w (.tuple #[str [], i64 15])) := hn2
              repeat' (first | (first | refine wc_seq ?_ | refine wc_region ?_ | refine wl_nil ?_ | refine wn_seq ?_ | refine wn_blk ?_ | refine wc_skip ?_ | refine wc_block ?_ | refine wc_exit rfl ?_ | (show WL _ _ (_ :: _) _ _ _ _; first | refine yl_v rfl rfl rfl ?_ | refine wl_v rfl rfl rfl (by first | ((show OpV _ _ _ _ (Oper.mk _ (Op.call ⟨.value (.func 25), _, _⟩) _ _ _ _) _ _; exact ov_call Tryd.call25 rfl (by intro himp; first | rfl | (simp_all; done)) (by rfl) (fun _ _ h k => h.ext k) (fun hcg w hw => hcu hw.laid))) | ((show OpV _ _ _ _ (Oper.mk _ (Op.call ⟨.value (.func 31), _, _⟩) _ _ _ _) _ _; exact ov_call Tryd.call31 rfl (by intro himp; first | rfl | (simp_all; done)) (by rfl) (fun _ _ h k => h.ext k) (fun hcg w hw => hn1 hw.laid))) | ((show OpV _ _ _ _ (Oper.mk _ (Op.call ⟨.value (.func 31), _, _⟩) _ _ _ _) _ _; exact ov_call Tryd.call31 rfl (by intro himp; first | rfl | (simp_all; done)) (by rfl) (fun _ _ h k => h.ext k) (fun hcg w hw => hn2 hw.laid))) | fail) ?_ | refine xl_alloc (fun _ => ?_) | refine xl_store rfl rfl ?_) | refine wc_ret rfl ?_) | (show WC _ (Code.cond _ _ _) _ _ _ _; (refine wc_cond rfl (fun hc => ?_) (fun hc => ?_) <;> (try (simp only [decide_eq_true_eq, decide_eq_false_iff_not, Bool.and_eq_true, Bool.or_eq_true, Bool.and_eq_false_iff, Bool.or_eq_false_iff, Bool.not_eq_true', Bool.not_eq_false', Int.not_lt, Int.not_le] at hc)) <;> (try (exfalso; first | omega | contradiction)))))
              exact yr_cellS rfl rfl rfl rfl rfl rfl rfl
            | some q =>
              rw [hq] at hn2
              have hn2 : ∀ {w : World}, Laid M w → Calls Tryd.prog 31 #[str qs] w (RetE w (.tuple #[str q, i64 0])) := hn2
              have hdo := fun {w : World} (hw : Laid M w) => udots_ok hG hw p (by omega)
              simp only
              generalize dots p = dp at *
              repeat' (first | (first | refine wc_seq ?_ | refine wc_region ?_ | refine wl_nil ?_ | refine wn_seq ?_ | refine wn_blk ?_ | refine wc_skip ?_ | refine wc_block ?_ | refine wc_exit rfl ?_ | (show WL _ _ (_ :: _) _ _ _ _; first | refine yl_v rfl rfl rfl ?_ | refine wl_v rfl rfl rfl (by first | ((show OpV _ _ _ _ (Oper.mk _ (Op.call ⟨.value (.func 25), _, _⟩) _ _ _ _) _ _; exact ov_call Tryd.call25 rfl (by intro himp; first | rfl | (simp_all; done)) (by rfl) (fun _ _ h k => h.ext k) (fun hcg w hw => hcu hw.laid))) | ((show OpV _ _ _ _ (Oper.mk _ (Op.call ⟨.value (.func 31), _, _⟩) _ _ _ _) _ _; exact ov_call Tryd.call31 rfl (by intro himp; first | rfl | (simp_all; done)) (by rfl) (fun _ _ h k => h.ext k) (fun hcg w hw => hn1 hw.laid))) | ((show OpV _ _ _ _ (Oper.mk _ (Op.call ⟨.value (.func 31), _, _⟩) _ _ _ _) _ _; exact ov_call Tryd.call31 rfl (by intro himp; first | rfl | (simp_all; done)) (by rfl) (fun _ _ h k => h.ext k) (fun hcg w hw => hn2 hw.laid))) | ((show OpV _ _ _ _ (Oper.mk _ (Op.call ⟨.value (.func 14), _, _⟩) _ _ _ _) _ _; exact ov_call Tryd.call14 rfl (by intro himp; first | rfl | (simp_all; done)) (by rfl) (fun _ _ h k => h.ext k) (fun hcg w hw => hdo hw.laid))) | fail) ?_ | refine xl_alloc (fun _ => ?_) | refine xl_store rfl rfl ?_) | refine wc_ret rfl ?_) | (show WC _ (Code.cond _ _ _) _ _ _ _; (refine wc_cond rfl (fun hc => ?_) (fun hc => ?_) <;> (try (simp only [decide_eq_true_eq, decide_eq_false_iff_not, Bool.and_eq_true, Bool.or_eq_true, Bool.and_eq_false_iff, Bool.or_eq_false_iff, Bool.not_eq_true', Bool.not_eq_false', Int.not_lt, Int.not_le] at hc)) <;> (try (exfalso; first | omega | contradiction)))))
              · rw [if_pos hc]
                exact yr_cellS rfl rfl rfl rfl rfl rfl rfl
              · rw [if_neg hc]
                exact yr_cellS rfl rfl rfl rfl rfl rfl rfl
    · rw [if_neg hsch]
      refine wc_cond rfl (fun _ => ?_) (fun hc => ?_)
      · repeat' (first | (first | refine wc_seq ?_ | refine wc_region ?_ | refine wl_nil ?_ | refine wn_seq ?_ | refine wn_blk ?_ | refine wc_skip ?_ | refine wc_block ?_ | refine wc_exit rfl ?_ | (show WL _ _ (_ :: _) _ _ _ _; first | refine yl_v rfl rfl rfl ?_ | refine wl_v rfl rfl rfl (by first  | fail) ?_ | refine xl_alloc (fun _ => ?_) | refine xl_store rfl rfl ?_) | refine wc_ret rfl ?_) | (show WC _ (Code.cond _ _ _) _ _ _ _; (refine wc_cond rfl (fun hc => ?_) (fun hc => ?_) <;> (try (simp only [decide_eq_true_eq, decide_eq_false_iff_not, Bool.and_eq_true, Bool.or_eq_true, Bool.and_eq_false_iff, Bool.or_eq_false_iff, Bool.not_eq_true', Bool.not_eq_false', Int.not_lt, Int.not_le] at hc)) <;> (try (exfalso; first | omega | contradiction)))))
        exact yr_cellS rfl rfl rfl rfl rfl rfl rfl
      · exfalso
        simp only [Bool.and_eq_false_iff, Bool.not_eq_false', decide_eq_true_eq] at hc
        exact hsch hc
end Go.Proofs.YtmmoglgagifdfaaDoor
/-
  Where a URL begins, its text, its one way of writing: the package's, the document's.
-/
namespace Go.Proofs.YtmmoglgagifdfaaDoor
open Go.Eng Go.Pct Go.Txt Go.Url
set_option maxRecDepth 10000
set_option linter.unusedSimpArgs false
set_option linter.unusedVariables false

variable {M : Ghost} {w : World}
/-- a URL of a size that can be walked -/
def SmU (u : Ur) : Prop := u.scheme.length ≤ 100000000 ∧ u.host.length ≤ 100000000 ∧ u.path.length ≤ 100000000 ∧ u.query.length ≤ 100000000 ∧ u.port ≤ 9223372036854775807
theorem dec_short : ∀ (k u : Nat), u < 10 ^ (k + 1) → (Lib.decDigits u).length ≤ k + 1
  | 0, u, h => by
    rw [Lib.decDigits, dif_pos (by omega)]; simp
  | k + 1, u, h => by
    rw [Lib.decDigits]
    split
    · simp
    · have := dec_short k (u / 10) (by rw [Nat.pow_succ] at h; omega)
      simp; omega
theorem dec_len (u : Nat) (h : u ≤ 9223372036854775807) : (Lib.decDigits u).length ≤ 20 := dec_short 19 u (by
  have : (10 : Nat) ^ 20 = 100000000000000000000 := by decide
  omega)
theorem itoa_dec (hG : Glob M) (hM : Laid M w) (n : Nat) (hn : n ≤ 9223372036854775807) : Calls Tryd.prog 37 #[i64 (n : Int)] w (RetE w (str (Lib.decDigits n))) := by
  have := itoa_ok hG hM n hn
  rw [Lib.itoa_nonneg] at this; exact this
theorem origin_len {u : Ur} (h : SmU u) : (originU u).length ≤ 200000100 := by
  obtain ⟨h1, h2, h3, h4, h5⟩ := h
  have := dec_len u.port h5
  unfold originU
  split <;> simp only [List.length_append, List.length_cons, List.length_nil] <;> omega
theorem uorigin_ok (hG : Glob M) (hM : Laid M w) (u : Ur) (h : SmU u) : Calls Tryd.prog 16 #[.agg (urlCells u).toArray] w (RetE w (str (originU u))) := by
  obtain ⟨h1, h2, h3, h4, h5⟩ := h
  obtain ⟨sch, host, port, path, query, ask⟩ := u
  dsimp only at *
  have hdl := dec_len port h5
  have hit := fun {w : World} (hw : Laid M w) => itoa_dec hG hw port h5
  unfold urlCells originU
  dsimp only
  generalize Lib.decDigits port = dd at *
  refine calls_st (l := [.agg [str sch, str host, i64 (port : Int), str path, str query, .bool ask].toArray]) hM Tryd.func16 rfl rfl rfl (E0 := [(0, true, .agg [str sch, str host, i64 (port : Int), str path, str query, .bool ask].toArray)]) (params_cons rfl (params_nil _)) ?_
  repeat' (first | (first | refine wc_seq ?_ | refine wc_region ?_ | refine wl_nil ?_ | refine wn_seq ?_ | refine wn_blk ?_ | refine wc_skip ?_ | refine wc_block ?_ | refine wc_exit rfl ?_ | (show WL _ _ (_ :: _) _ _ _ _; first | refine yl_v rfl rfl rfl ?_ | refine wl_v rfl rfl rfl (by first | ((show OpV _ _ _ _ (Oper.mk _ (Op.call ⟨.value (.func 37), _, _⟩) _ _ _ _) _ _; exact ov_call Tryd.call37 rfl (by intro himp; first | rfl | (simp_all; done)) (by rfl) (fun _ _ h k => h.ext k) (fun hcg w hw => hit hw.laid))) | fail) ?_ | refine xl_box rfl (fun _ => ?_)) | refine wc_ret rfl ?_) | (show WC _ (Code.cond _ _ _) _ _ _ _; (refine wc_cond rfl (fun hc => ?_) (fun hc => ?_) <;> (try (simp only [decide_eq_true_eq, decide_eq_false_iff_not, Bool.and_eq_true, Bool.or_eq_true, Bool.and_eq_false_iff, Bool.or_eq_false_iff, Bool.not_eq_true', Bool.not_eq_false', Int.not_lt, Int.not_le] at hc)) <;> (try (exfalso; first | omega | contradiction)))))
  · rw [if_neg (by omega)]
    exact wr_weak (fun _ h => h.drop (List.nil_sublist _)) (wr_tmp rfl rfl rfl)
  · rw [if_pos (by omega), List.append_nil]
    exact wr_weak (fun _ h => h.drop (List.nil_sublist _)) (wr_tmp rfl rfl rfl)
theorem rorigin_ok (hM : Laid M w) (u : Ur) (h : SmU u) : Calls Tryd.prog 19 #[.agg (urlCells u).toArray] w (RetE w (str (originU u))) := by
  obtain ⟨h1, h2, h3, h4, h5⟩ := h
  obtain ⟨sch, host, port, path, query, ask⟩ := u
  dsimp only at *
  have hdl := dec_len port h5
  have hit := fun {w : World} (hw : Laid M w) => digits_ok hw port h5
  unfold urlCells originU
  dsimp only
  generalize Lib.decDigits port = dd at *
  refine calls_st (l := [.agg [str sch, str host, i64 (port : Int), str path, str query, .bool ask].toArray]) hM Tryd.func19 rfl rfl rfl (E0 := [(0, true, .agg [str sch, str host, i64 (port : Int), str path, str query, .bool ask].toArray)]) (params_cons rfl (params_nil _)) ?_
  repeat' (first | (first | refine wc_seq ?_ | refine wc_region ?_ | refine wl_nil ?_ | refine wn_seq ?_ | refine wn_blk ?_ | refine wc_skip ?_ | refine wc_block ?_ | refine wc_exit rfl ?_ | (show WL _ _ (_ :: _) _ _ _ _; first | refine yl_v rfl rfl rfl ?_ | refine wl_v rfl rfl rfl (by first | ((show OpV _ _ _ _ (Oper.mk _ (Op.call ⟨.value (.func 38), _, _⟩) _ _ _ _) _ _; exact ov_call Tryd.call38 rfl (by intro himp; first | rfl | (simp_all; done)) (by rfl) (fun _ _ h k => h.ext k) (fun hcg w hw => hit hw.laid))) | fail) ?_ | refine xl_box rfl (fun _ => ?_)) | refine wc_ret rfl ?_) | (show WC _ (Code.cond _ _ _) _ _ _ _; (refine wc_cond rfl (fun hc => ?_) (fun hc => ?_) <;> (try (simp only [decide_eq_true_eq, decide_eq_false_iff_not, Bool.and_eq_true, Bool.or_eq_true, Bool.and_eq_false_iff, Bool.or_eq_false_iff, Bool.not_eq_true', Bool.not_eq_false', Int.not_lt, Int.not_le] at hc)) <;> (try (exfalso; first | omega | contradiction)))))
  · rw [if_neg (by omega)]
    exact wr_weak (fun _ h => h.drop (List.nil_sublist _)) (wr_tmp rfl rfl (congrArg str (by rw [List.append_assoc])))
  · rw [if_pos (by omega), List.append_nil]
    exact wr_weak (fun _ h => h.drop (List.nil_sublist _)) (wr_tmp rfl rfl rfl)
theorem ustring_ok (hG : Glob M) (hM : Laid M w) (u : Ur) (h : SmU u) : Calls Tryd.prog 17 #[.agg (urlCells u).toArray] w (RetE w (str (stringU u))) := by
  have hol := origin_len h
  have hor := fun {w : World} (hw : Laid M w) => uorigin_ok hG hw u h
  obtain ⟨h1, h2, h3, h4, h5⟩ := h
  unfold stringU
  unfold urlCells at hor ⊢
  generalize originU u = og at *
  obtain ⟨sch, host, port, path, query, ask⟩ := u
  dsimp only at *
  refine calls_st (l := [.agg [str sch, str host, i64 (port : Int), str path, str query, .bool ask].toArray]) hM Tryd.func17 rfl rfl rfl (E0 := [(0, true, .agg [str sch, str host, i64 (port : Int), str path, str query, .bool ask].toArray)]) (params_cons rfl (params_nil _)) ?_
  repeat' (first | refine wc_seq ?_ | refine wc_region ?_ | refine wl_nil ?_ | refine wn_seq ?_ | refine wn_blk ?_ | refine wc_skip ?_ | refine wc_block ?_ | refine wc_exit rfl ?_ | (show WL _ _ (_ :: _) _ _ _ _; first | refine yl_v rfl rfl rfl ?_ | refine wl_v rfl rfl rfl (by first  | fail) ?_ | refine xl_box rfl (fun _ => ?_)) | refine wc_ret rfl ?_)
  refine wc_draw 6 (by kernel_rfl) rfl (by kernel_rfl) (fun _ _ h k => h.ext k) ?_
  repeat' (first | (show WD _ _ (_ :: _) _ _ _ _ _ _; first | refine yd_v rfl rfl rfl rfl rfl rfl ?_ | refine wd_v rfl rfl rfl rfl rfl rfl (by first | ((show OpV _ _ _ _ (Oper.mk _ (Op.call ⟨.value (.func 16), _, _⟩) _ _ _ _) _ _; exact ov_call Tryd.call16 rfl (by intro himp; first | rfl | (simp_all; done)) (by rfl) (fun _ _ h k => h.ext k) (fun hcg w hw => hor hw.laid))) | fail) ?_ | refine yd_new rfl rfl rfl rfl rfl rfl ?_ | refine wd_conv rfl rfl rfl rfl rfl rfl rfl rfl rfl rfl ?_) | (show WD _ _ _ _ _ _ _ _ _; first | refine wd_nil ?_ | refine wd_nilF ?_) | (first | refine wc_seq ?_ | refine wc_region ?_ | refine wl_nil ?_ | refine wn_seq ?_ | refine wn_blk ?_ | refine wc_skip ?_ | refine wc_block ?_ | refine wc_exit rfl ?_ | (show WL _ _ (_ :: _) _ _ _ _; first | refine yl_v rfl rfl rfl ?_ | refine wl_v rfl rfl rfl (by first | ((show OpV _ _ _ _ (Oper.mk _ (Op.call ⟨.value (.func 16), _, _⟩) _ _ _ _) _ _; exact ov_call Tryd.call16 rfl (by intro himp; first | rfl | (simp_all; done)) (by rfl) (fun _ _ h k => h.ext k) (fun hcg w hw => hor hw.laid))) | fail) ?_ | refine xl_box rfl (fun _ => ?_)) | refine wc_ret rfl ?_))
  repeat' (first | (first | refine wc_seq ?_ | refine wc_region ?_ | refine wl_nil ?_ | refine wn_seq ?_ | refine wn_blk ?_ | refine wc_skip ?_ | refine wc_block ?_ | refine wc_exit rfl ?_ | (show WL _ _ (_ :: _) _ _ _ _; first | refine yl_v rfl rfl rfl ?_ | refine wl_v rfl rfl rfl (by first  | fail) ?_ | refine xl_box rfl (fun _ => ?_)) | refine wc_ret rfl ?_) | (show WC _ (Code.cond _ _ _) _ _ _ _; (refine wc_cond rfl (fun hc => ?_) (fun hc => ?_) <;> (try (simp only [decide_eq_true_eq, decide_eq_false_iff_not, Bool.and_eq_true, Bool.or_eq_true, Bool.and_eq_false_iff, Bool.or_eq_false_iff, Bool.not_eq_true', Bool.not_eq_false', Int.not_lt, Int.not_le] at hc)) <;> (try (exfalso; first | omega | contradiction)))))
  · rw [if_pos hc]
    exact wr_weak (fun _ h => h.drop (List.nil_sublist _)) (wr_tmp rfl rfl rfl)
  · rw [if_neg (by rw [hc]; decide), List.append_nil]
    exact wr_weak (fun _ h => h.drop (List.nil_sublist _)) (wr_tmp rfl rfl rfl)
theorem rstring_ok (hM : Laid M w) (u : Ur) (h : SmU u) : Calls Tryd.prog 18 #[.agg (urlCells u).toArray] w (RetE w (str (stringU u))) := by
  have hol := origin_len h
  have hor := fun {w : World} (hw : Laid M w) => rorigin_ok hw u h
  obtain ⟨h1, h2, h3, h4, h5⟩ := h
  unfold stringU
  unfold urlCells at hor ⊢
  generalize originU u = og at *
  obtain ⟨sch, host, port, path, query, ask⟩ := u
  dsimp only at *
  refine calls_st (l := [.agg [str sch, str host, i64 (port : Int), str path, str query, .bool ask].toArray]) hM Tryd.func18 rfl rfl rfl (E0 := [(0, true, .agg [str sch, str host, i64 (port : Int), str path, str query, .bool ask].toArray)]) (params_cons rfl (params_nil _)) ?_
  repeat' (first | refine wc_seq ?_ | refine wc_region ?_ | refine wl_nil ?_ | refine wn_seq ?_ | refine wn_blk ?_ | refine wc_skip ?_ | refine wc_block ?_ | refine wc_exit rfl ?_ | (show WL _ _ (_ :: _) _ _ _ _; first | refine yl_v rfl rfl rfl ?_ | refine wl_v rfl rfl rfl (by first  | fail) ?_ | refine xl_box rfl (fun _ => ?_)) | refine wc_ret rfl ?_)
  refine wc_draw 6 (by kernel_rfl) rfl (by kernel_rfl) (fun _ _ h k => h.ext k) ?_
  repeat' (first | (show WD _ _ (_ :: _) _ _ _ _ _ _; first | refine yd_v rfl rfl rfl rfl rfl rfl ?_ | refine wd_v rfl rfl rfl rfl rfl rfl (by first | ((show OpV _ _ _ _ (Oper.mk _ (Op.call ⟨.value (.func 19), _, _⟩) _ _ _ _) _ _; exact ov_call Tryd.call19 rfl (by intro himp; first | rfl | (simp_all; done)) (by rfl) (fun _ _ h k => h.ext k) (fun hcg w hw => hor hw.laid))) | fail) ?_ | refine yd_new rfl rfl rfl rfl rfl rfl ?_ | refine wd_conv rfl rfl rfl rfl rfl rfl rfl rfl rfl rfl ?_) | (show WD _ _ _ _ _ _ _ _ _; first | refine wd_nil ?_ | refine wd_nilF ?_) | (first | refine wc_seq ?_ | refine wc_region ?_ | refine wl_nil ?_ | refine wn_seq ?_ | refine wn_blk ?_ | refine wc_skip ?_ | refine wc_block ?_ | refine wc_exit rfl ?_ | (show WL _ _ (_ :: _) _ _ _ _; first | refine yl_v rfl rfl rfl ?_ | refine wl_v rfl rfl rfl (by first | ((show OpV _ _ _ _ (Oper.mk _ (Op.call ⟨.value (.func 19), _, _⟩) _ _ _ _) _ _; exact ov_call Tryd.call19 rfl (by intro himp; first | rfl | (simp_all; done)) (by rfl) (fun _ _ h k => h.ext k) (fun hcg w hw => hor hw.laid))) | fail) ?_ | refine xl_box rfl (fun _ => ?_)) | refine wc_ret rfl ?_))
  repeat' (first | (first | refine wc_seq ?_ | refine wc_region ?_ | refine wl_nil ?_ | refine wn_seq ?_ | refine wn_blk ?_ | refine wc_skip ?_ | refine wc_block ?_ | refine wc_exit rfl ?_ | (show WL _ _ (_ :: _) _ _ _ _; first | refine yl_v rfl rfl rfl ?_ | refine wl_v rfl rfl rfl (by first  | fail) ?_ | refine xl_box rfl (fun _ => ?_)) | refine wc_ret rfl ?_) | (show WC _ (Code.cond _ _ _) _ _ _ _; (refine wc_cond rfl (fun hc => ?_) (fun hc => ?_) <;> (try (simp only [decide_eq_true_eq, decide_eq_false_iff_not, Bool.and_eq_true, Bool.or_eq_true, Bool.and_eq_false_iff, Bool.or_eq_false_iff, Bool.not_eq_true', Bool.not_eq_false', Int.not_lt, Int.not_le] at hc)) <;> (try (exfalso; first | omega | contradiction)))))
  · rw [if_pos hc]
    exact wr_weak (fun _ h => h.drop (List.nil_sublist _)) (wr_tmp rfl rfl (congrArg str (by rw [List.append_assoc])))
  · rw [if_neg (by rw [hc]; decide), List.append_nil]
    exact wr_weak (fun _ h => h.drop (List.nil_sublist _)) (wr_tmp rfl rfl rfl)
theorem dots_len {s : List UInt8} {m : Nat} (h : s.length ≤ m) : (dots s).length ≤ (m + 1) * (m + 1) + 1 + m := by
  unfold dots
  split
  · rename_i r
    simp only [List.length_cons] at h
    have h1 := pieces_length 47 r
    have h2 := slashed_len (l := (dotGo (pieces 47 r)).1) (m := r.length) (dotGo_mem (P := fun y => y.length ≤ r.length) (pieces_total 47 r)) (dotGo (pieces 47 r)).1.length (Nat.le_refl _)
    have h3 := dotGo_len (l := pieces 47 r) (Nat.le_refl _)
    rw [List.take_length] at h2 h3
    have h4 : (dotGo (pieces 47 r)).1.length * (r.length + 1) ≤ (m + 1) * (m + 1) := Nat.mul_le_mul (by omega) (by omega)
    rw [List.length_append]
    split <;> simp only [List.length_cons, List.length_nil] <;> omega
  · omega
theorem tail_small {sch h rest : List UInt8} {pn : Nat} (h1 : sch.length ≤ 2000) (h2 : h.length ≤ 2000) (h3 : rest.length ≤ 2000) (h4 : pn ≤ 65535) : SmU (tailP sch h pn rest).1 := by
  have hz : SmU uz := ⟨by decide, by decide, by decide, by decide, by decide⟩
  unfold tailP
  cases hp : partP (wd isAsk rest) with
  | none => exact hz
  | some p =>
    cases hq : partP ((rs isAsk rest).drop 1) with
    | none => exact hz
    | some q =>
      have k1 := partP_length hp
      have k2 := partP_length hq
      have k3 := rs_length isAsk rest
      rw [List.length_drop] at k2
      have k4 := dots_len (s := p) (m := 2000) (by omega)
      refine ⟨by show sch.length ≤ _; omega, by show h.length ≤ _; omega, ?_, by show q.length ≤ _; omega, by show pn ≤ _; omega⟩
      show (if dots p = [] then [47] else dots p).length ≤ _
      split
      · simp
      · omega
theorem parse_small (s : List UInt8) : SmU (parseU s).1 := by
  have hz : SmU uz := ⟨by decide, by decide, by decide, by decide, by decide⟩
  unfold parseU
  split
  · exact hz
  · rename_i hl
    split
    · exact hz
    · rename_i a b hcs
      have hcl := cutS_length hcs
      have hla := low_length a
      have hr := rs_length isHost b
      have hlw := low_length (wd isHost b)
      split
      · unfold hostP
        split
        · unfold afterHost
          split
          · rename_i r hrr
            rw [hrr, List.length_cons] at hr
            have hr2 := rs_length isPort r
            split
            · rename_i hpb
              unfold portB at hpb
              simp only [Bool.and_eq_true, decide_eq_true_eq] at hpb
              exact tail_small (by omega) (by omega) (by omega) (by split <;> omega)
            · exact hz
          · exact tail_small (by omega) (by omega) (by omega) (by omega)
        · exact hz
      · exact hz
theorem unorm_ok (hG : Glob M) (hM : Laid M w) (s : List UInt8) (hs : s.length ≤ 9223372036854775807) : Calls Tryd.prog 12 #[str s] w (RetE w (.tuple #[str (normU s).1, i64 (normU s).2])) := by
  have hpa := fun {w : World} (hw : Laid M w) => uparse_ok hG hw s hs
  have hsm := parse_small s
  unfold normU
  generalize parseU s = q at *
  obtain ⟨u, e⟩ := q
  dsimp only at *
  have hst := fun {w : World} (hw : Laid M w) => ustring_ok hG hw u hsm
  unfold resUrl at hpa
  unfold urlCells at hpa hst
  dsimp only at hpa
  refine calls_st (l := [str s]) hM Tryd.func12 rfl rfl rfl (E0 := [(0, true, str s)]) (params_cons rfl (params_nil _)) ?_
  repeat' (first | (first | refine wc_seq ?_ | refine wc_region ?_ | refine wl_nil ?_ | refine wn_seq ?_ | refine wn_blk ?_ | refine wc_skip ?_ | refine wc_block ?_ | refine wc_exit rfl ?_ | (show WL _ _ (_ :: _) _ _ _ _; first | refine yl_v rfl rfl rfl ?_ | refine wl_v rfl rfl rfl (by first | ((show OpV _ _ _ _ (Oper.mk _ (Op.call ⟨.value (.func 10), _, _⟩) _ _ _ _) _ _; exact ov_call Tryd.call10 rfl (by intro himp; first | rfl | (simp_all; done)) (by rfl) (fun _ _ h k => h.ext k) (fun hcg w hw => hpa hw.laid))) | ((show OpV _ _ _ _ (Oper.mk _ (Op.call ⟨.value (.func 17), _, _⟩) _ _ _ _) _ _; exact ov_call Tryd.call17 rfl (by intro himp; first | rfl | (simp_all; done)) (by rfl) (fun _ _ h k => h.ext k) (fun hcg w hw => hst hw.laid))) | fail) ?_ | refine xl_alloc (fun _ => ?_) | refine xl_store rfl rfl ?_) | refine wc_ret rfl ?_) | (show WC _ (Code.cond _ _ _) _ _ _ _; (refine wc_cond rfl (fun hc => ?_) (fun hc => ?_) <;> (try (simp only [decide_eq_true_eq, decide_eq_false_iff_not, Bool.and_eq_true, Bool.or_eq_true, Bool.and_eq_false_iff, Bool.or_eq_false_iff, Bool.not_eq_true', Bool.not_eq_false', Int.not_lt, Int.not_le] at hc)) <;> (try (exfalso; first | omega | contradiction)))))
  · rw [if_pos hc]
    exact wr_weak (fun _ h => h.drop (List.nil_sublist _)) (wr_tmp2 rfl rfl rfl rfl rfl)
  · rw [if_neg (by omega)]
    exact wr_weak (fun _ h => h.drop (List.nil_sublist _)) (wr_tmp2 rfl rfl rfl rfl rfl)
end Go.Proofs.YtmmoglgagifdfaaDoor
/-
  How a URL begins, plainly: by the first of ://, by the first bytes. No program stands here.
-/
namespace Go.Url
open Go.Pct Go.Txt
set_option linter.unusedVariables false
set_option linter.unusedSimpArgs false

theorem low_append (a b : List UInt8) : low (a ++ b) = low a ++ low b := by simp [low]
theorem low_not58 (c : UInt8) : 97 ≤ (lowC c).toNat ∧ (lowC c).toNat ≤ 122 → c ≠ 58 := by revert c; apply all_bytes; decide +kernel
theorem low_58 (c : UInt8) : lowC c = 58 → c = 58 := by revert c; apply all_bytes; decide +kernel
theorem low_47 (c : UInt8) : lowC c = 47 → c = 47 := by revert c; apply all_bytes; decide +kernel
theorem low_css : low sCss = sCss := by decide +kernel
/-- a text that begins with letters and :// is cut there -/
theorem cut_letters : ∀ {a : List UInt8} (b : List UInt8), (∀ c ∈ a, c ≠ 58) → cutS sCss (a ++ sCss ++ b) = some (a, b)
  | [], b, _ => by
    show cutS sCss (58 :: 47 :: 47 :: b) = _
    rw [cutS, if_pos (by simp [sCss, List.isPrefixOf])]
    rfl
  | c :: a, b, h => by
    have h1 := cut_letters (a := a) b (fun d hd => h d (List.mem_cons_of_mem _ hd))
    have h2 : c ≠ 58 := h c List.mem_cons_self
    show cutS sCss (c :: (a ++ sCss ++ b)) = _
    rw [cutS, if_neg (by simp [sCss, List.isPrefixOf, h2.symm]), h1]
    rfl
theorem low_letters {a x : List UInt8} (h : low a = x) (hx : ∀ d ∈ x, 97 ≤ d.toNat ∧ d.toNat ≤ 122) : ∀ c ∈ a, c ≠ 58 := fun c hc => low_not58 c (hx (lowC c) (by rw [← h]; exact List.mem_map_of_mem hc))
/-- a lowered text with :// behind letters -/
theorem begins {s x : List UInt8} (hx : ∀ d ∈ x, 97 ≤ d.toNat ∧ d.toNat ≤ 122) : (x.length + 3 ≤ s.length ∧ low (s.take (x.length + 3)) = x ++ sCss) ↔ ∃ a b, cutS sCss s = some (a, b) ∧ low a = x := by
  constructor
  · rintro ⟨hl, h⟩
    have e1 : s.take (x.length + 3) = s.take x.length ++ (s.drop x.length).take 3 := by rw [← List.take_add]
    rw [e1, low_append] at h
    have hlen : (low (s.take x.length)).length = x.length := by rw [low_length, List.length_take]; omega
    obtain ⟨h1, h2⟩ := List.append_inj h hlen
    have h3 : (s.drop x.length).take 3 = sCss := by
      have hl3 : ((s.drop x.length).take 3).length = 3 := by rw [List.length_take, List.length_drop]; omega
      match hq : (s.drop x.length).take 3, hl3 with
      | [c, d, e], _ =>
        rw [hq] at h2
        simp only [low, sCss, List.map_cons, List.map_nil, List.cons.injEq, and_true] at h2
        rw [low_58 c h2.1, low_47 d h2.2.1, low_47 e h2.2.2]; rfl
    refine ⟨s.take x.length, s.drop (x.length + 3), ?_, h1⟩
    have h4 := cut_letters (a := s.take x.length) (s.drop (x.length + 3)) (low_letters h1 hx)
    rw [← h3, ← e1, List.take_append_drop] at h4
    rw [h3] at h4
    exact h4
  · rintro ⟨a, b, h, ha⟩
    have hs := cutS_some h
    have hal : a.length = x.length := by rw [← ha, low_length]
    rw [hs]
    have e1 : (a ++ sCss ++ b).take (x.length + 3) = a ++ sCss := by
      have : x.length + 3 = (a ++ sCss).length := by simp [sCss, hal]
      rw [this, List.take_left]
    refine ⟨by simp [sCss, hal], ?_⟩
    rw [e1, low_append, ha, low_css]
theorem dots_nil {p : List UInt8} : dots p = [] ↔ p = [] := by
  constructor
  · intro h
    unfold dots at h
    split at h
    · exfalso
      rename_i r
      cases hk : (dotGo (pieces 47 r)).1 with
      | nil => rw [hk] at h; simp [slashed] at h
      | cons x t => rw [hk] at h; simp [slashed] at h
    · exact h
  · rintro rfl; rfl
end Go.Url
