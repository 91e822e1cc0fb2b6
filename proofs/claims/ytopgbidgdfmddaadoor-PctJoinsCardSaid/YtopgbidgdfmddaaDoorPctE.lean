/-
  The contracts of package pct's Decode and Normal.
-/
import Derived.Test.YtopgbidgdfmddaaDoorPctD
namespace Go.Proofs.YtopgbidgdfmddaaDoor
open Go.Eng Go.Pct
set_option maxRecDepth 10000
set_option linter.unusedSimpArgs false
set_option linter.unusedVariables false

variable {M : Ghost} {w : World}

theorem Glob.mono {M M' : Ghost} (h : Glob M) (hM : ∀ b o, M b o → M' b o) : Glob M' := by
  obtain ⟨dcs, T, fz, h1, h4⟩ := h.digits
  obtain ⟨cs, T2, fz2, m, h2, h3⟩ := h.maxLen
  exact ⟨⟨dcs, T, fz, hM _ _ h1, h4⟩, ⟨cs, T2, fz2, m, hM _ _ h2, h3⟩⟩

theorem decode_ok (hG : Glob M) (hM : Laid M w) (s : List UInt8) (plus : Bool) (hs : s.length ≤ 1000000000) : Calls Tryd.prog 10 #[str s, .bool plus] w (RetE w (resP (Pct.decode plus s))) := by
  refine calls_st (l := [str s, .bool plus]) hM Tryd.func10 rfl rfl rfl (E0 := [(0, true, str s), (1, true, .bool plus)]) (params_cons rfl (params_cons rfl (params_nil _))) ?_
  repeat' (first | refine wc_seq ?_ | refine wc_region ?_ | refine wl_nil ?_ | refine wn_seq ?_ | refine wn_blk ?_ | refine wc_skip ?_ | refine wc_block ?_ | refine wc_exit rfl ?_ | (show WL _ _ (_ :: _) _ _ _ _; first | refine wl_v rfl rfl rfl (by first | (show OpV _ _ _ _ (Oper.mk _ (Op.move _) _ _ _ _) _ _; exact ov_move rfl (by first | exact fun _ => rfl | exact fun h => h | (intro himp; simp_all; done))) | (show OpV _ _ _ _ (Oper.mk _ (Op.assign _) _ _ _ _) _ _; exact ov_assign rfl (by first | exact fun _ => rfl | exact fun h => h | (intro himp; simp_all; done))) | (show OpV _ _ _ _ (Oper.mk _ (Op.extract _ _) _ _ _ _) _ _; exact ov_extract rfl (by first | exact tup2_0 | exact tup2_1 | exact tup3_0 | exact tup3_1 | exact tup3_2 | rfl) (by first | exact fun _ => rfl | exact fun h => h | (intro himp; simp_all; done))) | (show OpV _ _ _ _ (Oper.mk _ (Op.makeFunc _ _ _) _ _ _ _) _ _; exact ov_makeFunc rfl rfl)) ?_ | refine wl_v rfl rfl rfl (by first  | fail) ?_ | refine wl_box rfl rfl rfl (by simp only [Value.cells]; first | done | rfl) (fun _ => ?_)) | refine wc_ret rfl ?_)
  rename_i b
  refine wl_weak (Eng.Sub.refl _) (fun _ h => St.publish (H1 := [(b, _)]) (H2 := []) h) ?_
  have hG' := hG.mono (M' := With M [(b, .cells [.bool plus].toArray 4 (0, 0))]) (fun _ _ => .inl)
  repeat' (first | refine wc_seq ?_ | refine wc_region ?_ | refine wl_nil ?_ | refine wn_seq ?_ | refine wn_blk ?_ | refine wc_skip ?_ | refine wc_block ?_ | refine wc_exit rfl ?_ | (show WL _ _ (_ :: _) _ _ _ _; first | refine wl_v rfl rfl rfl (by first | (show OpV _ _ _ _ (Oper.mk _ (Op.move _) _ _ _ _) _ _; exact ov_move rfl (by first | exact fun _ => rfl | exact fun h => h | (intro himp; simp_all; done))) | (show OpV _ _ _ _ (Oper.mk _ (Op.assign _) _ _ _ _) _ _; exact ov_assign rfl (by first | exact fun _ => rfl | exact fun h => h | (intro himp; simp_all; done))) | (show OpV _ _ _ _ (Oper.mk _ (Op.extract _ _) _ _ _ _) _ _; exact ov_extract rfl (by first | exact tup2_0 | exact tup2_1 | exact tup3_0 | exact tup3_1 | exact tup3_2 | rfl) (by first | exact fun _ => rfl | exact fun h => h | (intro himp; simp_all; done))) | (show OpV _ _ _ _ (Oper.mk _ (Op.makeFunc _ _ _) _ _ _ _) _ _; exact ov_makeFunc rfl rfl)) ?_ | refine wl_v rfl rfl rfl (by first | ((show OpV _ _ _ _ (Oper.mk _ (Op.call ⟨.value (.func 27), _, _⟩) _ _ _ _) _ _; exact ov_call Tryd.call27 rfl (by intro himp; first | rfl | (simp_all; done)) (by rfl) (fun _ _ h k => h.ext k) (fun hcg w hw => each_ok hG' hw.laid s hs (byDec plus) (fun c => byDec_length plus c _) (fun c => by have := byDec_length plus c true; omega) 28 [] [.pointer (some ⟨b, 0, none⟩)] Tryd.call28 (fun c pc w hL => decFn_ok hL plus (.inr (List.Mem.head _)) c pc)))) | fail) ?_ | refine wl_box rfl rfl rfl (by simp only [Value.cells]; first | done | rfl) (fun _ => ?_)) | refine wc_ret rfl ?_)
  exact wr_tmp2 rfl rfl rfl rfl rfl

theorem normal_ok (hG : Glob M) (hM : Laid M w) (s : List UInt8) (hs : s.length ≤ 1000000000) : Calls Tryd.prog 12 #[str s] w (RetE w (resP (Pct.normal s))) := by
  refine calls_st (l := [str s]) hM Tryd.func12 rfl rfl rfl (E0 := [(0, true, str s)]) (params_cons rfl (params_nil _)) ?_
  repeat' (first | refine wc_seq ?_ | refine wc_region ?_ | refine wl_nil ?_ | refine wn_seq ?_ | refine wn_blk ?_ | refine wc_skip ?_ | refine wc_block ?_ | refine wc_exit rfl ?_ | (show WL _ _ (_ :: _) _ _ _ _; first | refine wl_v rfl rfl rfl (by first | (show OpV _ _ _ _ (Oper.mk _ (Op.move _) _ _ _ _) _ _; exact ov_move rfl (by first | exact fun _ => rfl | exact fun h => h | (intro himp; simp_all; done))) | (show OpV _ _ _ _ (Oper.mk _ (Op.assign _) _ _ _ _) _ _; exact ov_assign rfl (by first | exact fun _ => rfl | exact fun h => h | (intro himp; simp_all; done))) | (show OpV _ _ _ _ (Oper.mk _ (Op.extract _ _) _ _ _ _) _ _; exact ov_extract rfl (by first | exact tup2_0 | exact tup2_1 | exact tup3_0 | exact tup3_1 | exact tup3_2 | rfl) (by first | exact fun _ => rfl | exact fun h => h | (intro himp; simp_all; done)))) ?_ | refine wl_v rfl rfl rfl (by first | ((show OpV _ _ _ _ (Oper.mk _ (Op.call ⟨.value (.func 27), _, _⟩) _ _ _ _) _ _; exact ov_call Tryd.call27 rfl (by intro himp; first | rfl | (simp_all; done)) (by rfl) (fun _ _ h k => h.ext k) (fun hcg w hw => each_ok hG hw.laid s hs byNorm (fun c => by unfold byNorm; simp) (fun c => byNorm_length c true) 30 [] [] Tryd.call30 (fun c pc w hL => normFn_ok hG hL c pc)))) | fail) ?_) | refine wc_ret rfl ?_)
  exact wr_tmp2 rfl rfl rfl rfl rfl
end Go.Proofs.YtopgbidgdfmddaaDoor
