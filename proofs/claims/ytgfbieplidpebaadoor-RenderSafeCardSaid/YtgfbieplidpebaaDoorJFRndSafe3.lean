/-
  Texts of a proof, joined: XmlD, XmlN, XmlE, XmlF, XmlG, XmlH, XmlP, XmlQ, XmlR, XmlT, EngM.
-/
import Derived.Test.YtgfbieplidpebaaDoorJFRndSafe1
import Derived.Test.YtgfbieplidpebaaDoorJFRndSafe2
/-
  What a text was, a name, what is shown: the reference's functions.
-/
namespace Go.Proofs.YtgfbieplidpebaaDoor
open Go.Eng Go.Pct Go.Xml Go.Rsp
set_option maxRecDepth 10000
set_option linter.unusedSimpArgs false
set_option linter.unusedVariables false

variable {M : Ghost} {w : World}

theorem marksC_at : ∀ k, k < 5 → (mk (marksC.getD k 0)).getD [] = (marksT.getD k default).2 ∧ (marksT.getD k default).1 = [marksC.getD k 0] := by decide
theorem cells_at : ∀ k, k < 5 → [byt 38, byt 60, byt 62, byt 34, byt 39][0 + k * 1]? = some (byt (marksC.getD k 0))
  | 0, _ => rfl
  | 1, _ => rfl
  | 2, _ => rfl
  | 3, _ => rfl
  | 4, _ => rfl
  | k + 5, h => by omega
theorem pre_at {s m : List UInt8} {i : Nat} (hi : i ≤ s.length) : (i + m.length ≤ s.length ∧ (s.drop i).take (i + m.length - i) = m) ↔ m.isPrefixOf (s.drop i) = true := by
  rw [List.isPrefixOf_iff_prefix, Nat.add_sub_cancel_left]
  constructor
  · rintro ⟨_, h⟩
    exact ⟨(s.drop i).drop m.length, by have := List.take_append_drop m.length (s.drop i); rw [h] at this; exact this⟩
  · rintro ⟨t, ht⟩
    have hl := congrArg List.length ht
    rw [List.length_append, List.length_drop] at hl
    exact ⟨by omega, by rw [← ht]; simp⟩
theorem whichGo_at {s : List UInt8} : ∀ {l : List (List UInt8 × List UInt8)} {i k : Nat}, k < l.length → (∀ j, j < k → (l.getD j default).2.isPrefixOf s = false) → (l.getD k default).2.isPrefixOf s = true → whichGo s l i = ((i + k : Nat) : Int)
  | [], _, _, h, _, _ => by simp at h
  | m :: r, i, 0, _, _, h => by rw [whichGo, if_pos (by simpa using h)]; simp
  | m :: r, i, k + 1, hl, hb, h => by
    have h0 := hb 0 (by omega)
    rw [whichGo, if_neg (by simp only [List.getD_cons_zero] at h0; rw [h0]; decide), whichGo_at (k := k) (by simpa using hl) (fun j hj => by simpa using hb (j + 1) (by omega)) (by simpa using h)]
    congr 1; omega
theorem whichGo_no {s : List UInt8} : ∀ {l : List (List UInt8 × List UInt8)} {i : Nat}, (∀ j, j < l.length → (l.getD j default).2.isPrefixOf s = false) → whichGo s l i = -1
  | [], _, _ => rfl
  | m :: r, i, hb => by
    have h0 := hb 0 (by simp)
    rw [whichGo, if_neg (by simp only [List.getD_cons_zero] at h0; rw [h0]; decide), whichGo_no (fun j hj => by simpa using hb (j + 1) (by simpa using hj))]
theorem letN (c : UInt8) : ((97 : Int) ≤ (c.toNat : Int) ∧ (c.toNat : Int) ≤ 122) ∨ ((65 : Int) ≤ (c.toNat : Int) ∧ (c.toNat : Int) ≤ 90) ↔ letC c = true := by revert c; apply all_bytes; decide +kernel
theorem badN (c : UInt8) : ((((c.toNat : Int) = 60 ∨ (c.toNat : Int) = 62) ∨ (c.toNat : Int) = 34) ∨ (c.toNat : Int) = 39) ↔ badC c = true := by revert c; apply all_bytes; decide +kernel
theorem ofNat_toNat (c : UInt8) : UInt8.ofNat ((c.toNat : Int).toNat) = c := by revert c; apply all_bytes; decide +kernel
theorem n38 (c : UInt8) : (c.toNat : Int) = 38 ↔ c = 38 := by revert c; apply all_bytes; decide +kernel
theorem runescape_ok (hM : Laid M w) (s : List UInt8) (hs : s.length ≤ 1000000000) : Calls Tryd.prog 44 #[str s] w (RetE w (resU (unescQ s))) := by
  refine calls_st (l := [str s]) hM Tryd.func44 rfl rfl rfl (E0 := [(0, true, str s)]) (params_cons rfl (params_nil _)) ?_
  repeat' (first | (first | refine wc_seq ?_ | refine wc_region ?_ | refine wl_nil ?_ | refine wn_seq ?_ | refine wn_blk ?_ | refine wc_skip ?_ | refine wc_block ?_ | refine wc_exit rfl ?_ | (show WL _ _ (_ :: _) _ _ _ _; first | refine yl_v rfl rfl rfl ?_ | refine wl_v rfl rfl rfl (by first  | fail) ?_ | refine xl_buildSlice rfl (fun _ => ?_)) | refine wc_ret rfl ?_) | (show WC _ (Code.cond _ _ _) _ _ _ _; (refine wc_cond rfl (fun hc => ?_) (fun hc => ?_) <;> (try (simp only [decide_eq_true_eq, decide_eq_false_iff_not, Bool.and_eq_true, Bool.or_eq_true, Bool.and_eq_false_iff, Bool.or_eq_false_iff, Bool.not_eq_true', Bool.not_eq_false', Int.not_lt, Int.not_le] at hc)) <;> (try (exfalso; first | omega | contradiction)))))
  rename_i b
  refine wc_loop (α := { x : Nat × List UInt8 // x.1 ≤ s.length ∧ unescQ s = (unescQ (s.drop x.1)).map (x.2 ++ ·) ∧ x.2.length ≤ x.1 }) (fun x => [(0, true, str s), (4, true, str x.1.2), (5, true, .slice (some ⟨b, 0, none⟩) 5 5), (6, true, i64 (x.1.1 : Int))]) (fun _ => St w [] [(b, .cells [byt 38, byt 60, byt 62, byt 34, byt 39].toArray 5 (0, 0))] M) (fun x => s.length - x.1.1) ⟨(0, []), by omega, by simp, by simp⟩ (by first | exact Sub.nil _ | (repeat (first | exact Sub.nil _ | refine Sub.cons (by first | rfl | (simp [look]; done)) ?_))) (fun _ h => h) ?_
  rintro ⟨⟨i, out⟩, hi, hinv, hol⟩
  dsimp only at hi hinv hol ⊢
  rcases Nat.lt_or_ge i s.length with hlt | hge
  · have hdrop : s.drop i = s.getD i 0 :: s.drop (i + 1) := Txt.drop_getD hlt
    have huc := unescQ_cons (s.getD i 0) (s.drop (i + 1))
    have hone := slice_one hlt
    have hu := u8_lt (s.getD i 0)
    have hbi := badN (s.getD i 0)
    by_cases hb : badC (s.getD i 0) = true
    · rw [if_pos hb] at huc
      have hn : unescQ s = none := by rw [hinv, hdrop, huc]; rfl
      have hb' := hbi.2 hb
      repeat' (first | (first | refine wc_seq ?_ | refine wc_region ?_ | refine wl_nil ?_ | refine wn_seq ?_ | refine wn_blk ?_ | refine wc_skip ?_ | refine wc_block ?_ | refine wc_exit rfl ?_ | (show WL _ _ (_ :: _) _ _ _ _; first | refine yl_v rfl rfl rfl ?_ | refine wl_v rfl rfl rfl (by first  | fail) ?_ | refine xl_buildSlice rfl (fun _ => ?_)) | refine wc_ret rfl ?_) | (show WC _ (Code.cond _ _ _) _ _ _ _; (refine wc_cond rfl (fun hc => ?_) (fun hc => ?_) <;> (try (simp only [decide_eq_true_eq, decide_eq_false_iff_not, Bool.and_eq_true, Bool.or_eq_true, Bool.and_eq_false_iff, Bool.or_eq_false_iff, Bool.not_eq_true', Bool.not_eq_false', Int.not_lt, Int.not_le] at hc)) <;> (try (exfalso; first | omega | contradiction)))))
      rw [hn]
      exact wr_tmp2 rfl rfl rfl rfl rfl
    have hb' := fun h => hb (hbi.1 h)
    by_cases h38 : s.getD i 0 = 38
    · rw [if_neg hb, if_pos h38, ← hdrop] at huc
      have e38 : ((s.getD i 0).toNat : Int) = 38 := by rw [h38]; rfl
      have hwr := which_range (s.drop i)
      repeat' (first | (first | refine wc_seq ?_ | refine wc_region ?_ | refine wl_nil ?_ | refine wn_seq ?_ | refine wn_blk ?_ | refine wc_skip ?_ | refine wc_block ?_ | refine wc_exit rfl ?_ | (show WL _ _ (_ :: _) _ _ _ _; first | refine yl_v rfl rfl rfl ?_ | refine wl_v rfl rfl rfl (by first  | fail) ?_ | refine xl_buildSlice rfl (fun _ => ?_)) | refine wc_ret rfl ?_) | (show WC _ (Code.cond _ _ _) _ _ _ _; (refine wc_cond rfl (fun hc => ?_) (fun hc => ?_) <;> (try (simp only [decide_eq_true_eq, decide_eq_false_iff_not, Bool.and_eq_true, Bool.or_eq_true, Bool.and_eq_false_iff, Bool.or_eq_false_iff, Bool.not_eq_true', Bool.not_eq_false', Int.not_lt, Int.not_le] at hc)) <;> (try (exfalso; first | omega | contradiction)))))
      refine wc_loop (α := { k : Nat // k ≤ 5 ∧ ∀ j, j < k → (marksT.getD j default).2.isPrefixOf (s.drop i) = false } ⊕ { k : Nat // k < 5 ∧ which (s.drop i) = (k : Int) }) (fun | .inl k => [(0, true, str s), (4, true, str out), (5, true, .slice (some ⟨b, 0, none⟩) 5 5), (6, true, i64 (i : Int)), (8, true, .bool false), (9, true, i64 (k.1 : Int))] | .inr k => [(0, true, str s), (4, true, str (out ++ (marksT.getD k.1 default).1)), (5, true, .slice (some ⟨b, 0, none⟩) 5 5), (6, true, i64 ((i : Int) + ((marksT.getD k.1 default).2.length : Int) - 1)), (8, true, .bool true), (9, true, i64 ((k.1 : Int) + 1))]) (fun _ => St w [] [(b, .cells [byt 38, byt 60, byt 62, byt 34, byt 39].toArray 5 (0, 0))] M) (fun | .inl k => 7 - k.1 | .inr k => 0) (.inl ⟨0, by omega, by intro j hj; omega⟩) (by dsimp only; exact (by first | exact Sub.nil _ | (repeat (first | exact Sub.nil _ | refine Sub.cons (by first | rfl | (simp [look]; done)) ?_)))) (fun _ h => h) ?_
      rintro (⟨k, hk, hno⟩ | ⟨k, hk, hw⟩)
      · dsimp only
        rcases Nat.lt_or_ge k 5 with hk5 | hk5
        · obtain ⟨m1, m2⟩ := marksC_at k hk5
          have hpi := pre_at (s := s) (m := (marksT.getD k default).2) hi
          obtain ⟨l1, l2, l3⟩ := mark_len k hk5
          have hca := cells_at k hk5
          have hmk : ∀ {w : World}, Laid M w → Calls Tryd.prog 56 #[byt (marksC.getD k 0)] w (RetE w (str (marksT.getD k default).2)) := fun h => by
            have := rmark_ok h (marksC.getD k 0)
            rw [m1] at this; exact this
          generalize hvl : (marksT.getD k default).2 = vl at hpi hmk l1 l2
          repeat' (first | (first | refine wc_seq ?_ | refine wc_region ?_ | refine wl_nil ?_ | refine wn_seq ?_ | refine wn_blk ?_ | refine wc_skip ?_ | refine wc_block ?_ | refine wc_exit rfl ?_ | (show WL _ _ (_ :: _) _ _ _ _; first | refine yl_v rfl rfl rfl ?_ | refine wl_v rfl rfl rfl (by first | (show OpV _ _ _ _ (Oper.mk _ (Op.indexAddr _ _ _) _ _ _ _) _ _; exact ov_indexAddr (i := k) rfl rfl rfl (by first | with_reducible exact fun _ => rfl | with_reducible exact fun h => h | exact fun _ => rfl | exact fun h => h | (intro himp; simp_all; done)) (by first | with_reducible exact fun _ => rfl | with_reducible exact fun h => h | exact fun _ => rfl | exact fun h => h | (intro himp; simp_all; done)) rfl (by first | exact (rfl : _ = some 1) | exact (rfl : _ = some 2) | exact (rfl : _ = some 3) | exact (rfl : _ = some 4) | exact (rfl : _ = some 6) | exact rfl) (fun _ => rfl) (by intro hcg; first | omega | (simp at hcg; omega))) | (show OpV _ _ _ _ (Oper.mk _ (Op.load _ _) _ _ _ _) _ _; exact ov_load1 rfl (by first | with_reducible exact fun _ => rfl | with_reducible exact fun h => h | exact fun _ => rfl | exact fun h => h | (intro himp; simp_all; done)) rfl rfl (by first | exact List.Mem.head _ | exact List.Mem.tail _ (List.Mem.head _) | exact List.Mem.tail _ (List.Mem.tail _ (List.Mem.head _)) | exact List.Mem.tail _ (List.Mem.tail _ (List.Mem.tail _ (List.Mem.head _))) | exact List.Mem.tail _ (List.Mem.tail _ (List.Mem.tail _ (List.Mem.tail _ (List.Mem.head _)))) | exact List.mem_append_right _ (List.Mem.head _) | exact List.mem_append_right _ (List.Mem.tail _ (List.Mem.head _)) | exact List.mem_append_right _ (List.Mem.tail _ (List.Mem.tail _ (List.Mem.head _))) | exact List.mem_append_right _ (List.Mem.tail _ (List.Mem.tail _ (List.Mem.tail _ (List.Mem.head _)))) | exact List.Mem.tail _ (List.mem_append_right _ (List.Mem.head _)) | exact List.Mem.tail _ (List.mem_append_right _ (List.Mem.tail _ (List.Mem.head _))) | exact List.Mem.tail _ (List.mem_append_right _ (List.Mem.tail _ (List.Mem.tail _ (List.Mem.head _)))) | exact List.Mem.tail _ (List.mem_append_right _ (List.Mem.tail _ (List.Mem.tail _ (List.Mem.tail _ (List.Mem.head _))))) | exact List.Mem.tail _ (List.Mem.tail _ (List.mem_append_right _ (List.Mem.head _))) | exact List.Mem.tail _ (List.Mem.tail _ (List.mem_append_right _ (List.Mem.tail _ (List.Mem.head _)))) | exact List.Mem.tail _ (List.Mem.tail _ (List.mem_append_right _ (List.Mem.tail _ (List.Mem.tail _ (List.Mem.head _)))))) (by rw [List.getElem?_toArray]; exact hca)) | ((show OpV _ _ _ _ (Oper.mk _ (Op.call ⟨.value (.func 56), _, _⟩) _ _ _ _) _ _; exact ov_call Tryd.call56 rfl (by intro himp; first | rfl | (simp_all; done)) (by rfl) (fun _ _ h k => h.ext k) (fun hcg w hw => hmk hw.laid))) | fail) ?_ | refine xl_buildSlice rfl (fun _ => ?_)) | refine wc_ret rfl ?_) | (show WC _ (Code.cond _ _ _) _ _ _ _; (refine wc_cond rfl (fun hc => ?_) (fun hc => ?_) <;> (try (simp only [decide_eq_true_eq, decide_eq_false_iff_not, Bool.and_eq_true, Bool.or_eq_true, Bool.and_eq_false_iff, Bool.or_eq_false_iff, Bool.not_eq_true', Bool.not_eq_false', Int.not_lt, Int.not_le] at hc)) <;> (try (exfalso; first | omega | contradiction)))))
          · have hw := whichGo_at (s := s.drop i) (l := marksT) (i := 0) hk5 hno (by rw [hvl]; exact hpi.1 ⟨by omega, hc.2⟩)
            rw [Nat.zero_add] at hw
            refine wn_cut (.inr ⟨k, hk5, hw⟩) (by show 0 < 7 - k; omega) (by dsimp only; rw [hvl, m2]; refine Sub.cons rfl (Sub.cons ?_ (Sub.cons rfl (Sub.cons rfl (Sub.cons rfl (Sub.cons rfl (Sub.nil _)))))); show some (true, str (out ++ [UInt8.ofNat ((marksC.getD k 0).toNat : Int).toNat])) = _; rw [ofNat_toNat]) (fun _ h => h.drop (by repeat (first | exact List.Sublist.refl _ | apply List.Sublist.cons)))
          · refine wn_cut (.inl ⟨k + 1, by omega, ?_⟩) (by show 7 - (k + 1) < 7 - k; omega) (by dsimp only; exact (by first | exact Sub.nil _ | (repeat (first | exact Sub.nil _ | refine Sub.cons (by first | rfl | (simp [look]; done)) ?_)))) (fun _ h => h.drop (by repeat (first | exact List.Sublist.refl _ | apply List.Sublist.cons)))
            have hneg := hc
            intro j hj
            by_cases h : j = k
            · subst h
              rw [Bool.eq_false_iff, hvl]
              intro h
              obtain ⟨q1, q2⟩ := hpi.2 h
              rcases hneg with hneg | hneg
              · omega
              · exact hneg q2
            · exact hno j (by omega)
        · obtain rfl : k = 5 := by omega
          have hw : which (s.drop i) = -1 := whichGo_no (l := marksT) (i := 0) hno
          rw [hw, if_pos (by decide)] at huc
          have hn : unescQ s = none := by rw [hinv, huc]; rfl
          repeat' (first | (first | refine wc_seq ?_ | refine wc_region ?_ | refine wl_nil ?_ | refine wn_seq ?_ | refine wn_blk ?_ | refine wc_skip ?_ | refine wc_block ?_ | refine wc_exit rfl ?_ | (show WL _ _ (_ :: _) _ _ _ _; first | refine yl_v rfl rfl rfl ?_ | refine wl_v rfl rfl rfl (by first  | fail) ?_ | refine xl_buildSlice rfl (fun _ => ?_)) | refine wc_ret rfl ?_) | (show WC _ (Code.cond _ _ _) _ _ _ _; (refine wc_cond rfl (fun hc => ?_) (fun hc => ?_) <;> (try (simp only [decide_eq_true_eq, decide_eq_false_iff_not, Bool.and_eq_true, Bool.or_eq_true, Bool.and_eq_false_iff, Bool.or_eq_false_iff, Bool.not_eq_true', Bool.not_eq_false', Int.not_lt, Int.not_le] at hc)) <;> (try (exfalso; first | omega | contradiction)))))
          rw [hn]
          exact wr_tmp2 rfl rfl rfl rfl rfl
      · dsimp only
        have e1 : (which (s.drop i)).toNat = k := by omega
        rw [if_neg (by omega), e1] at huc
        have hpre := which_pre (s := s.drop i) (by omega)
        rw [e1] at hpre
        obtain ⟨l1, l2, l3⟩ := mark_len k hk
        have hple := (List.isPrefixOf_iff_prefix.1 hpre).length_le
        rw [List.length_drop] at hple
        generalize (marksT.getD k default).2 = vl at *
        generalize (marksT.getD k default).1 = nm at *
        have ei : (i : Int) + (vl.length : Int) - 1 + 1 = ((i + vl.length : Nat) : Int) := by omega
        repeat' (first | (first | refine wc_seq ?_ | refine wc_region ?_ | refine wl_nil ?_ | refine wn_seq ?_ | refine wn_blk ?_ | refine wc_skip ?_ | refine wc_block ?_ | refine wc_exit rfl ?_ | (show WL _ _ (_ :: _) _ _ _ _; first | refine yl_v rfl rfl rfl ?_ | refine wl_v rfl rfl rfl (by first  | fail) ?_ | refine xl_buildSlice rfl (fun _ => ?_)) | refine wc_ret rfl ?_) | (show WC _ (Code.cond _ _ _) _ _ _ _; (refine wc_cond rfl (fun hc => ?_) (fun hc => ?_) <;> (try (simp only [decide_eq_true_eq, decide_eq_false_iff_not, Bool.and_eq_true, Bool.or_eq_true, Bool.and_eq_false_iff, Bool.or_eq_false_iff, Bool.not_eq_true', Bool.not_eq_false', Int.not_lt, Int.not_le] at hc)) <;> (try (exfalso; first | omega | contradiction)))))
        · cases hc.2
        refine wn_cut ⟨(i + vl.length, out ++ nm), by omega, ?_, ?_⟩ (by show s.length - (i + vl.length) < s.length - i; omega) (by repeat (first | exact Sub.nil _ | refine Sub.cons (by first | rfl | (simp only [look]; rw [ei]; rfl) | (simp only [look]; rw [ei]; simp; done)) ?_)) (fun _ h => h)
        · rw [hinv, huc, List.drop_drop]
          simp [Function.comp_def]
        · simp only [List.length_append]; omega
    · rw [if_neg hb, if_neg h38] at huc
      have h38' : ¬ ((s.getD i 0).toNat : Int) = 38 := fun e => h38 ((n38 _).1 e)
      repeat' (first | (first | refine wc_seq ?_ | refine wc_region ?_ | refine wl_nil ?_ | refine wn_seq ?_ | refine wn_blk ?_ | refine wc_skip ?_ | refine wc_block ?_ | refine wc_exit rfl ?_ | (show WL _ _ (_ :: _) _ _ _ _; first | refine yl_v rfl rfl rfl ?_ | refine wl_v rfl rfl rfl (by first  | fail) ?_ | refine xl_buildSlice rfl (fun _ => ?_)) | refine wc_ret rfl ?_) | (show WC _ (Code.cond _ _ _) _ _ _ _; (refine wc_cond rfl (fun hc => ?_) (fun hc => ?_) <;> (try (simp only [decide_eq_true_eq, decide_eq_false_iff_not, Bool.and_eq_true, Bool.or_eq_true, Bool.and_eq_false_iff, Bool.or_eq_false_iff, Bool.not_eq_true', Bool.not_eq_false', Int.not_lt, Int.not_le] at hc)) <;> (try (exfalso; first | omega | contradiction)))))
      refine wn_cut ⟨(i + 1, out ++ [s.getD i 0]), by omega, by rw [hinv, hdrop, huc]; simp [Function.comp_def], by simp; omega⟩ (by show s.length - (i + 1) < s.length - i; omega) (by rw [hone]; exact (by first | exact Sub.nil _ | (repeat (first | exact Sub.nil _ | refine Sub.cons (by first | rfl | (simp [look]; done)) ?_)))) (fun _ h => h.drop (by repeat (first | exact List.Sublist.refl _ | apply List.Sublist.cons)))
  · have e : s.drop i = [] := List.drop_eq_nil_of_le hge
    rw [e, unescQ_nil, Option.map_some, List.append_nil] at hinv
    repeat' (first | (first | refine wc_seq ?_ | refine wc_region ?_ | refine wl_nil ?_ | refine wn_seq ?_ | refine wn_blk ?_ | refine wc_skip ?_ | refine wc_block ?_ | refine wc_exit rfl ?_ | (show WL _ _ (_ :: _) _ _ _ _; first | refine yl_v rfl rfl rfl ?_ | refine wl_v rfl rfl rfl (by first  | fail) ?_ | refine xl_buildSlice rfl (fun _ => ?_)) | refine wc_ret rfl ?_) | (show WC _ (Code.cond _ _ _) _ _ _ _; (refine wc_cond rfl (fun hc => ?_) (fun hc => ?_) <;> (try (simp only [decide_eq_true_eq, decide_eq_false_iff_not, Bool.and_eq_true, Bool.or_eq_true, Bool.and_eq_false_iff, Bool.or_eq_false_iff, Bool.not_eq_true', Bool.not_eq_false', Int.not_lt, Int.not_le] at hc)) <;> (try (exfalso; first | omega | contradiction)))))
    rw [hinv]
    exact wr_tmp2 rfl rfl rfl rfl rfl
theorem rshown_ok (hM : Laid M w) (s : List UInt8) (hs : s.length ≤ 1000000000000000) : Calls Tryd.prog 7 #[str s] w (RetE w (.bool (shwB s))) := by
  refine calls_st (l := [str s]) hM Tryd.func7 rfl rfl rfl (E0 := [(0, true, str s)]) (params_cons rfl (params_nil _)) ?_
  repeat' (first | (first | refine wc_seq ?_ | refine wc_region ?_ | refine wl_nil ?_ | refine wn_seq ?_ | refine wn_blk ?_ | refine wc_skip ?_ | refine wc_block ?_ | refine wc_exit rfl ?_ | (show WL _ _ (_ :: _) _ _ _ _; first | refine yl_v rfl rfl rfl ?_ | refine wl_v rfl rfl rfl (by first  | fail) ?_) | refine wc_ret rfl ?_) | (show WC _ (Code.cond _ _ _) _ _ _ _; (refine wc_cond rfl (fun hc => ?_) (fun hc => ?_) <;> (try (simp only [decide_eq_true_eq, decide_eq_false_iff_not, Bool.and_eq_true, Bool.or_eq_true, Bool.and_eq_false_iff, Bool.or_eq_false_iff, Bool.not_eq_true', Bool.not_eq_false', Int.not_lt, Int.not_le] at hc)) <;> (try (exfalso; first | omega | contradiction)))))
  refine wc_loop (α := { i : Nat // i ≤ s.length ∧ ∀ j, j < i → shwC (s.getD j 0) = true }) (fun x => [(0, true, str s), (3, true, i64 (x.1 : Int))]) (fun _ => St w [] [] M) (fun x => s.length - x.1) ⟨0, by omega, by intro j hj; omega⟩ (by first | exact Sub.nil _ | (repeat (first | exact Sub.nil _ | refine Sub.cons (by first | rfl | (simp [look]; done)) ?_))) (fun _ h => h) ?_
  rintro ⟨i, hi, hall⟩
  dsimp only
  repeat' (first | (first | refine wc_seq ?_ | refine wc_region ?_ | refine wl_nil ?_ | refine wn_seq ?_ | refine wn_blk ?_ | refine wc_skip ?_ | refine wc_block ?_ | refine wc_exit rfl ?_ | (show WL _ _ (_ :: _) _ _ _ _; first | refine yl_v rfl rfl rfl ?_ | refine wl_v rfl rfl rfl (by first  | fail) ?_) | refine wc_ret rfl ?_) | (show WC _ (Code.cond _ _ _) _ _ _ _; (refine wc_cond rfl (fun hc => ?_) (fun hc => ?_) <;> (try (simp only [decide_eq_true_eq, decide_eq_false_iff_not, Bool.and_eq_true, Bool.or_eq_true, Bool.and_eq_false_iff, Bool.or_eq_false_iff, Bool.not_eq_true', Bool.not_eq_false', Int.not_lt, Int.not_le] at hc)) <;> (try (exfalso; first | omega | contradiction)))))
  · refine wr_tmp rfl rfl (congrArg Value.bool ?_)
    unfold shwB
    rw [all_no (i := i) (by omega) (shw_no _ hc)]
  · refine wn_cut ⟨i + 1, by omega, ?_⟩ (by show s.length - (i + 1) < s.length - i; omega) (by first | exact Sub.nil _ | (repeat (first | exact Sub.nil _ | refine Sub.cons (by first | rfl | (simp [look]; done)) ?_))) (fun _ h => h)
    intro j hj
    by_cases h : j = i
    · subst h; exact shw_yes _ hc
    · exact hall j (by omega)
  · refine wr_tmp rfl rfl (congrArg Value.bool ?_)
    unfold shwB
    rw [all_yes (fun j hj => hall j (by omega))]
theorem let_no (c : UInt8) : (((c.toNat : Int) < 97 ∨ 122 < (c.toNat : Int)) ∧ ((c.toNat : Int) < 65 ∨ 90 < (c.toNat : Int))) → letC c = false := by revert c; apply all_bytes; decide +kernel
theorem ins_no (c : UInt8) : letC c = false → (((((c.toNat : Int) < 48 ∨ 57 < (c.toNat : Int)) ∧ ¬ (c.toNat : Int) = 58) ∧ ¬ (c.toNat : Int) = 45) ∧ ¬ (c.toNat : Int) = 95) → insC c = false := by revert c; apply all_bytes; decide +kernel
theorem let_yes (c : UInt8) : ((97 ≤ (c.toNat : Int) ∧ (c.toNat : Int) ≤ 122) ∨ (65 ≤ (c.toNat : Int) ∧ (c.toNat : Int) ≤ 90)) → letC c = true := by revert c; apply all_bytes; decide +kernel
theorem let_ins (c : UInt8) : letC c = true → insC c = true := by revert c; apply all_bytes; decide +kernel
theorem ins_yes (c : UInt8) : ((((48 ≤ (c.toNat : Int) ∧ (c.toNat : Int) ≤ 57) ∨ (c.toNat : Int) = 58) ∨ (c.toNat : Int) = 45) ∨ (c.toNat : Int) = 95) → insC c = true := by revert c; apply all_bytes; decide +kernel
theorem rname_ok (hM : Laid M w) (s : List UInt8) (hs : s.length ≤ 1000000000000000) : Calls Tryd.prog 30 #[str s] w (RetE w (.bool (nameB s))) := by
  refine calls_st (l := [str s]) hM Tryd.func30 rfl rfl rfl (E0 := [(0, true, str s)]) (params_cons rfl (params_nil _)) ?_
  repeat' (first | (first | refine wc_seq ?_ | refine wc_region ?_ | refine wl_nil ?_ | refine wn_seq ?_ | refine wn_blk ?_ | refine wc_skip ?_ | refine wc_block ?_ | refine wc_exit rfl ?_ | (show WL _ _ (_ :: _) _ _ _ _; first | refine yl_v rfl rfl rfl ?_ | refine wl_v rfl rfl rfl (by first  | fail) ?_) | refine wc_ret rfl ?_) | (show WC _ (Code.cond _ _ _) _ _ _ _; (refine wc_cond rfl (fun hc => ?_) (fun hc => ?_) <;> (try (simp only [decide_eq_true_eq, decide_eq_false_iff_not, Bool.and_eq_true, Bool.or_eq_true, Bool.and_eq_false_iff, Bool.or_eq_false_iff, Bool.not_eq_true', Bool.not_eq_false', Int.not_lt, Int.not_le] at hc)) <;> (try (exfalso; first | omega | contradiction)))))
  refine wc_loop (α := { i : Nat // i ≤ s.length ∧ (0 < i → letC (s.getD 0 0) = true) ∧ ∀ j, j < i → insC (s.getD j 0) = true }) (fun x => [(0, true, str s), (3, true, i64 (x.1 : Int))]) (fun _ => St w [] [] M) (fun x => s.length - x.1) ⟨0, by omega, by omega, by intro j hj; omega⟩ (by first | exact Sub.nil _ | (repeat (first | exact Sub.nil _ | refine Sub.cons (by first | rfl | (simp [look]; done)) ?_))) (fun _ h => h) ?_
  rintro ⟨i, hi, hlet, hall⟩
  dsimp only
  repeat' (first | (first | refine wc_seq ?_ | refine wc_region ?_ | refine wl_nil ?_ | refine wn_seq ?_ | refine wn_blk ?_ | refine wc_skip ?_ | refine wc_block ?_ | refine wc_exit rfl ?_ | (show WL _ _ (_ :: _) _ _ _ _; first | refine yl_v rfl rfl rfl ?_ | refine wl_v rfl rfl rfl (by first  | fail) ?_) | refine wc_ret rfl ?_) | (show WC _ (Code.cond _ _ _) _ _ _ _; (refine wc_cond rfl (fun hc => ?_) (fun hc => ?_) <;> (try (simp only [decide_eq_true_eq, decide_eq_false_iff_not, Bool.and_eq_true, Bool.or_eq_true, Bool.and_eq_false_iff, Bool.or_eq_false_iff, Bool.not_eq_true', Bool.not_eq_false', Int.not_lt, Int.not_le] at hc)) <;> (try (exfalso; first | omega | contradiction)))))
  · refine wr_tmp rfl rfl (congrArg Value.bool ?_)
    unfold nameB
    have hl := let_no _ hc.1
    rcases hc.2 with h0 | h1
    · obtain rfl : i = 0 := by omega
      rw [hl, Bool.and_false, Bool.false_and]
    · rw [all_no (i := i) (by omega) (ins_no _ hl h1), Bool.and_false]
  · refine wn_cut ⟨i + 1, by omega, ?_, ?_⟩ (by show s.length - (i + 1) < s.length - i; omega) (by first | exact Sub.nil _ | (repeat (first | exact Sub.nil _ | refine Sub.cons (by first | rfl | (simp [look]; done)) ?_))) (fun _ h => h)
    · intro _
      by_cases h0 : i = 0
      · subst h0
        rcases hc with h | h
        · exact let_yes _ h
        · exact absurd rfl h.1
      · exact hlet (by omega)
    have hc2 := hc
    intro j hj
    by_cases h : j = i
    · subst h
      rcases hc2 with h | h
      · exact let_ins _ (let_yes _ h)
      · exact ins_yes _ h.2
    · exact hall j (by omega)
  · refine wr_tmp rfl rfl (congrArg Value.bool ?_)
    unfold nameB
    rw [all_yes (fun j hj => hall j (by omega)), Bool.and_true]
    by_cases h0 : s = []
    · subst h0; rfl
    · have hp := List.length_pos_iff.2 h0
      rw [hlet (by omega), decide_eq_false h0]
      cases s with
      | nil => exact absurd rfl h0
      | cons a r => rfl
end Go.Proofs.YtgfbieplidpebaaDoor
/-
  Elements, plainly, and as they lie in memory. No program stands here.
-/
namespace Go.Xml
open Go.Pct Go.Eng
set_option linter.unusedVariables false

inductive Nd where
  | mk (n : List UInt8) (a : List (List UInt8 × List UInt8)) (t : List UInt8) (k : List Nd)
/-- an element's cells, so deep at most -/
def NodeC (M : Ghost) : Nat → Nd → List Value → Prop
  | 0, _, _ => False
  | D + 1, .mk n a t k, vs => ∃ va vk, vs = [str n, va, str t, vk] ∧ SlP M va a ∧ Sl M 4 (NodeC M D) vk k ∧ n.length ≤ 100000000 ∧ t.length ≤ 100000000 ∧ (∀ p ∈ a, p.1.length ≤ 100000000 ∧ p.2.length ≤ 100000000)
theorem NodeC.four {M : Ghost} : ∀ {D : Nat} {x : Nd} {vs : List Value}, NodeC M D x vs → vs.length = 4
  | 0, _, _, h => h.elim
  | D + 1, .mk n a t k, vs, h => by
    obtain ⟨va, vk, rfl, _⟩ := h; rfl
theorem NodeC.mono {M M' : Ghost} (hM : ∀ b o, M b o → M' b o) : ∀ {D : Nat} {x : Nd} {vs : List Value}, NodeC M D x vs → NodeC M' D x vs
  | 0, _, _, h => h.elim
  | D + 1, .mk n a t k, vs, h => by
    obtain ⟨va, vk, h1, h2, h3, h4⟩ := h
    exact ⟨va, vk, h1, Sl.mono h2 hM (fun _ _ _ h => h), Sl.mono h3 hM (fun x vs _ h => NodeC.mono hM h), h4⟩
theorem NodeC.up {M : Ghost} : ∀ {D D' : Nat} {x : Nd} {vs : List Value}, D ≤ D' → NodeC M D x vs → NodeC M D' x vs
  | 0, _, _, _, _, h => h.elim
  | D + 1, 0, _, _, hd, _ => by omega
  | D + 1, D' + 1, .mk n a t k, vs, hd, h => by
    obtain ⟨va, vk, h1, h2, h3, h4⟩ := h
    exact ⟨va, vk, h1, h2, Sl.mono h3 (fun _ _ h => h) (fun x vs _ h => NodeC.up (by omega) h), h4⟩
mutual
/-- how many are left -/
def fewN : Nd → Int → Int → Int
  | .mk _ _ _ k, left, deep => if left ≤ 0 ∨ deep ≤ 0 then -1 else fewL k (left - 1) (deep - 1)
def fewL : List Nd → Int → Int → Int
  | [], left, _ => left
  | x :: l, left, deep => if fewN x left deep < 0 then -1 else fewL l (fewN x left deep) deep
end
def attrOk (l : List (List UInt8 × List UInt8)) (i : Nat) : Bool := nameB (l.getD i default).1 && shwB (l.getD i default).2 && !((l.take i).any fun b => decide (b.1 = (l.getD i default).1))
def attrsB (l : List (List UInt8 × List UInt8)) : Bool := (List.range l.length).all (attrOk l)
mutual
/-- can an element be, but for how many there are? -/
def ownN : Nd → Bool
  | .mk n a t k => nameB n && shwB t && (t.isEmpty || k.isEmpty) && attrsB a && ownL k
def ownL : List Nd → Bool
  | [] => true
  | x :: l => ownN x && ownL l
end
def rightN (x : Nd) : Bool := decide (0 ≤ fewN x 200 8) && ownN x
def attrT (a : List (List UInt8 × List UInt8)) : List UInt8 := a.flatMap fun p => [32] ++ p.1 ++ [61, 34] ++ esc p.2 ++ [34]
mutual
/-- an element's text -/
def textN : Nd → List UInt8
  | .mk n a t k => ([60] ++ n ++ attrT a) ++ ([62] ++ esc t) ++ textL k ++ ([60, 47] ++ n ++ [62])
def textL : List Nd → List UInt8
  | [] => []
  | x :: l => textN x ++ textL l
end
mutual
def sameN : Nd → Nd → Bool
  | .mk n a t k, .mk n' a' t' k' => decide (n = n') && decide (t = t') && decide (a = a') && sameL k k'
def sameL : List Nd → List Nd → Bool
  | [], [] => true
  | x :: l, y :: m => sameN x y && sameL l m
  | _, _ => false
end
mutual
theorem sameN_eq : ∀ {x y : Nd}, sameN x y = true → x = y
  | .mk n a t k, .mk n' a' t' k', h => by
    simp only [sameN, Bool.and_eq_true, decide_eq_true_eq] at h
    obtain ⟨⟨⟨rfl, rfl⟩, rfl⟩, h⟩ := h
    rw [sameL_eq h]
theorem sameL_eq : ∀ {x y : List Nd}, sameL x y = true → x = y
  | [], [], _ => rfl
  | x :: l, y :: m, h => by
    simp only [sameL, Bool.and_eq_true] at h
    rw [sameN_eq h.1, sameL_eq h.2]
  | [], _ :: _, h => by simp [sameL] at h
  | _ :: _, [], h => by simp [sameL] at h
end
mutual
theorem sameN_refl : ∀ (x : Nd), sameN x x = true
  | .mk n a t k => by simp [sameN, sameL_refl k]
theorem sameL_refl : ∀ (l : List Nd), sameL l l = true
  | [] => rfl
  | x :: l => by simp [sameL, sameN_refl x, sameL_refl l]
end
mutual
/-- how many there are -/
def cntN : Nd → Nat
  | .mk _ _ _ k => 1 + cntL k
def cntL : List Nd → Nat
  | [] => 0
  | x :: l => cntN x + cntL l
end
mutual
/-- how deep it is -/
def dpN : Nd → Nat
  | .mk _ _ _ k => 1 + dpL k
def dpL : List Nd → Nat
  | [] => 0
  | x :: l => max (dpN x) (dpL l)
end
mutual
theorem fewN_yes : ∀ (x : Nd) (left deep : Int), dpN x ≤ deep → cntN x ≤ left → fewN x left deep = left - cntN x
  | .mk _ _ _ k, left, deep, h1, h2 => by
    simp only [dpN, cntN] at h1 h2 ⊢
    rw [fewN, if_neg (by omega), fewL_yes k _ _ (by omega) (by omega)]
    omega
theorem fewL_yes : ∀ (l : List Nd) (left deep : Int), dpL l ≤ deep → cntL l ≤ left → fewL l left deep = left - cntL l
  | [], left, deep, _, _ => by simp [fewL, cntL]
  | x :: l, left, deep, h1, h2 => by
    simp only [dpL, cntL] at h1 h2 ⊢
    rw [fewL, fewN_yes x left deep (by omega) (by omega), if_neg (by omega), fewL_yes l _ _ (by omega) (by omega)]
    omega
end
mutual
theorem fewN_no : ∀ (x : Nd) (left deep : Int), 0 ≤ fewN x left deep → dpN x ≤ deep ∧ cntN x ≤ left
  | .mk _ _ _ k, left, deep, h => by
    rw [fewN] at h
    split at h
    · omega
    · have := fewL_no k _ _ (by omega) (by omega) h
      simp only [dpN, cntN]
      omega
theorem fewL_no : ∀ (l : List Nd) (left deep : Int), 0 ≤ left → 0 ≤ deep → 0 ≤ fewL l left deep → dpL l ≤ deep ∧ cntL l ≤ left
  | [], left, deep, h0, h0', _ => by simp only [dpL, cntL]; omega
  | x :: l, left, deep, h0, h0', h => by
    rw [fewL] at h
    split at h
    · omega
    · have h1 := fewN_no x left deep (by omega)
      rw [fewN_yes x left deep h1.1 h1.2] at h
      have h2 := fewL_no l _ _ (by omega) h0' h
      simp only [dpL, cntL]
      omega
end
mutual
/-- does an element fit, so deep, of as many as are left; how many are left then -/
def fitsN : Nd → Int → Int → Bool × Int
  | .mk n a t k, deep, left => if ((((8 < deep ∨ left - 1 < 0) ∨ nameB n = false) ∨ attrsB a = false) ∨ shwB t = false) ∨ (¬ t = [] ∧ 0 < (k.length : Int)) then (false, left - 1) else fitsL k (deep + 1) (left - 1)
def fitsL : List Nd → Int → Int → Bool × Int
  | [], _, left => (true, left)
  | x :: l, deep, left => if (fitsN x deep left).1 = true then fitsL l deep (fitsN x deep left).2 else (false, (fitsN x deep left).2)
end
mutual
theorem fitsN_iff : ∀ (x : Nd) (deep left : Int), ((fitsN x deep left).1 = true ↔ (deep + dpN x ≤ 9 ∧ cntN x ≤ left ∧ ownN x = true)) ∧ ((fitsN x deep left).1 = true → (fitsN x deep left).2 = left - cntN x) ∧ (fitsN x deep left).2 ≤ left
  | .mk n a t k, deep, left => by
    rw [fitsN]
    simp only [dpN, cntN, ownN]
    split
    · rename_i hc
      refine ⟨⟨fun h => absurd h (by simp), ?_⟩, fun h => absurd h (by simp), by show left - 1 ≤ left; omega⟩
      rintro ⟨h1, h2, h3⟩
      exfalso
      simp only [Bool.and_eq_true, Bool.or_eq_true, List.isEmpty_iff] at h3
      obtain ⟨⟨⟨⟨g1, g2⟩, g3⟩, g4⟩, g5⟩ := h3
      rcases hc with ((((hc | hc) | hc) | hc) | hc) | ⟨hc, hc'⟩
      · omega
      · omega
      · rw [hc] at g1; cases g1
      · rw [hc] at g4; cases g4
      · rw [hc] at g2; cases g2
      · rcases g3 with g3 | g3
        · exact hc g3
        · subst g3; simp at hc'
    · rename_i hc
      simp only [not_or, not_and, Int.not_lt, Bool.not_eq_false] at hc
      obtain ⟨⟨⟨⟨⟨c1, c2⟩, c3⟩, c4⟩, c5⟩, c6⟩ := hc
      obtain ⟨e1, e2, e3⟩ := fitsL_iff k (deep + 1) (left - 1) (by omega) (by omega)
      have htk : (t.isEmpty || k.isEmpty) = true := by
        by_cases h : t = []
        · subst h; rfl
        · have := c6 h
          have : k = [] := List.eq_nil_of_length_eq_zero (by omega)
          subst this; simp
      refine ⟨?_, fun h => by rw [e2 h]; omega, by omega⟩
      rw [e1, c3, c4, c5, htk]
      simp only [Bool.true_and]
      constructor
      · rintro ⟨h1, h2, h3⟩; exact ⟨by omega, by omega, h3⟩
      · rintro ⟨h1, h2, h3⟩; exact ⟨by omega, by omega, h3⟩
theorem fitsL_iff : ∀ (l : List Nd) (deep left : Int), deep ≤ 9 → 0 ≤ left → ((fitsL l deep left).1 = true ↔ (deep + dpL l ≤ 9 ∧ cntL l ≤ left ∧ ownL l = true)) ∧ ((fitsL l deep left).1 = true → (fitsL l deep left).2 = left - cntL l) ∧ (fitsL l deep left).2 ≤ left
  | [], deep, left, hd, hl => by
    simp only [fitsL, dpL, cntL, ownL]
    exact ⟨⟨fun _ => ⟨by omega, by omega, trivial⟩, fun _ => trivial⟩, fun _ => by omega, by omega⟩
  | x :: l, deep, left, hd, hl => by
    obtain ⟨e1, e2, e3⟩ := fitsN_iff x deep left
    rw [fitsL]
    simp only [dpL, cntL, ownL]
    split
    · rename_i hc
      obtain ⟨f1, f2, f3⟩ := e1.1 hc
      have e4 := e2 hc
      obtain ⟨k1, k2, k3⟩ := fitsL_iff l deep (fitsN x deep left).2 hd (by omega)
      rw [e4] at k1 k2 k3 ⊢
      refine ⟨?_, fun h => by rw [k2 h]; omega, by omega⟩
      rw [k1, f3, Bool.true_and]
      constructor
      · rintro ⟨h1, h2, h3⟩; exact ⟨by omega, by omega, h3⟩
      · rintro ⟨h1, h2, h3⟩; exact ⟨by omega, by omega, h3⟩
    · rename_i hc
      refine ⟨⟨fun h => absurd h (by simp), ?_⟩, fun h => absurd h (by simp), e3⟩
      rintro ⟨h1, h2, h3⟩
      rw [Bool.and_eq_true] at h3
      exact absurd (e1.2 ⟨by omega, by omega, h3.1⟩) hc
end
theorem fits_right (x : Nd) : (fitsN x 1 200).1 = rightN x := by
  have h := (fitsN_iff x 1 200).1
  unfold rightN
  by_cases hf : 0 ≤ fewN x 200 8
  · have h1 := fewN_no x 200 8 hf
    rw [decide_eq_true hf, Bool.true_and]
    cases ho : ownN x
    · rw [Bool.eq_false_iff]
      intro e
      have := (h.1 e).2.2
      rw [ho] at this; cases this
    · exact h.2 ⟨by omega, h1.2, ho⟩
  · rw [decide_eq_false hf, Bool.false_and, Bool.eq_false_iff]
    intro e
    have h2 := h.1 e
    rw [fewN_yes x 200 8 (by omega) h2.2.1] at hf
    omega
theorem fewN_le (x : Nd) (left deep : Int) : -1 ≤ fewN x left deep ∧ (fewN x left deep ≤ left ∨ fewN x left deep = -1) := by
  by_cases h : 0 ≤ fewN x left deep
  · have h1 := fewN_no x left deep h
    rw [fewN_yes x left deep h1.1 h1.2] at h ⊢
    omega
  · suffices fewN x left deep = -1 by omega
    have key : ∀ (l : List Nd) (left deep : Int), 0 ≤ left → fewL l left deep = -1 ∨ 0 ≤ fewL l left deep := by
      intro l
      induction l with
      | nil => intro left deep h0; exact .inr h0
      | cons y l ih =>
        intro left deep h0
        rw [fewL]
        split
        · exact .inl rfl
        · exact ih _ _ (by omega)
    cases x with
    | mk n a t k =>
      rw [fewN] at h ⊢
      split
      · rfl
      · rename_i hc
        rw [if_neg hc] at h
        rcases key k (left - 1) (deep - 1) (by omega) with h' | h' <;> omega
end Go.Xml
/-
  The reference's questions of an element: Few, own, Right, Same.
-/
namespace Go.Proofs.YtgfbieplidpebaaDoor
open Go.Eng Go.Pct Go.Xml Go.Rsp
set_option maxRecDepth 10000
set_option linter.unusedSimpArgs false
set_option linter.unusedVariables false

variable {M : Ghost} {w : World}

set_option maxHeartbeats 1000000 in
theorem rfew_ok : ∀ {D : Nat} {x : Nd} {vs : List Value}, NodeC M D x vs → ∀ (w : World), Laid M w → ∀ (left deep : Int), -1000 ≤ left → left ≤ 1000 → -1000 ≤ deep → deep ≤ 1000 → Calls Tryd.prog 45 #[.agg vs.toArray, i64 left, i64 deep] w (RetE w (i64 (fewN x left deep)))
  | 0, _, _, h => h.elim
  | D + 1, .mk n at' t k, vs, h => by
    intro w hM left deep hl1 hl2 hd1 hd2
    obtain ⟨va, vk, rfl, h2, h3, hb⟩ := h
    obtain ⟨a, cap, b, o, cs, T, fz, rfl, h4, h5, h6, h7⟩ := Sl.open h3
    rw [fewN]
    refine calls_st (l := [.agg [str n, va, str t, .slice a k.length cap].toArray, i64 left, i64 deep]) hM Tryd.func45 rfl rfl rfl (E0 := [(0, true, .agg [str n, va, str t, .slice a k.length cap].toArray), (1, true, i64 left), (2, true, i64 deep)]) (params_cons rfl (params_cons rfl (params_cons rfl (params_nil _)))) ?_
    by_cases hc : left ≤ 0 ∨ deep ≤ 0
    · rw [if_pos hc]
      repeat' (first | (first | refine wc_seq ?_ | refine wc_region ?_ | refine wl_nil ?_ | refine wn_seq ?_ | refine wn_blk ?_ | refine wc_skip ?_ | refine wc_block ?_ | refine wc_exit rfl ?_ | (show WL _ _ (_ :: _) _ _ _ _; first | refine yl_v rfl rfl rfl ?_ | refine wl_v rfl rfl rfl (by first  | fail) ?_ | refine xl_box rfl (fun _ => ?_)) | refine wc_ret rfl ?_) | (show WC _ (Code.cond _ _ _) _ _ _ _; (refine wc_cond rfl (fun hc => ?_) (fun hc => ?_) <;> (try (simp only [decide_eq_true_eq, decide_eq_false_iff_not, Bool.and_eq_true, Bool.or_eq_true, Bool.and_eq_false_iff, Bool.or_eq_false_iff, Bool.not_eq_true', Bool.not_eq_false', Int.not_lt, Int.not_le] at hc)) <;> (try (exfalso; first | omega | contradiction)))))
      exact wr_tmp rfl rfl rfl
    · rw [if_neg hc]
      repeat' (first | (first | refine wc_seq ?_ | refine wc_region ?_ | refine wl_nil ?_ | refine wn_seq ?_ | refine wn_blk ?_ | refine wc_skip ?_ | refine wc_block ?_ | refine wc_exit rfl ?_ | (show WL _ _ (_ :: _) _ _ _ _; first | refine yl_v rfl rfl rfl ?_ | refine wl_v rfl rfl rfl (by first  | fail) ?_ | refine xl_box rfl (fun _ => ?_)) | refine wc_ret rfl ?_) | (show WC _ (Code.cond _ _ _) _ _ _ _; (refine wc_cond rfl (fun hc => ?_) (fun hc => ?_) <;> (try (simp only [decide_eq_true_eq, decide_eq_false_iff_not, Bool.and_eq_true, Bool.or_eq_true, Bool.and_eq_false_iff, Bool.or_eq_false_iff, Bool.not_eq_true', Bool.not_eq_false', Int.not_lt, Int.not_le] at hc)) <;> (try (exfalso; first | omega | contradiction)))))
      rename_i b3
      refine wc_loop (α := { x : Nat × Int // x.1 ≤ k.length ∧ 0 ≤ x.2 ∧ x.2 ≤ 1000 ∧ fewL k (left - 1) (deep - 1) = fewL (k.drop x.1) x.2 (deep - 1) }) (fun x => [(1, true, i64 x.1.2), (2, true, i64 deep), (3, true, .pointer (some ⟨b3, 0, none⟩)), (7, true, i64 (x.1.1 : Int))]) (fun _ => St w [] [(b3, .cells [str n, va, str t, .slice a k.length cap].toArray 35 (0, 0))] M) (fun x => k.length - x.1.1) ⟨(0, left - 1), by omega, by omega, by omega, rfl⟩ (by first | exact Sub.nil _ | (repeat (first | exact Sub.nil _ | refine Sub.cons (by first | rfl | (simp [look]; done)) ?_))) (fun _ h => h) ?_
      rintro ⟨⟨i, cur⟩, hi, hcur, hcur2, hinv⟩
      dsimp only at hi hcur hcur2 hinv ⊢
      rcases Nat.lt_or_ge i k.length with hlt | hge
      · have hdr : k.drop i = k[i] :: k.drop (i + 1) := List.drop_eq_getElem_cons hlt
        obtain ⟨us, hu4, hus, hcells⟩ := h7 i hlt
        have hne : k ≠ [] := by intro e; subst e; simp at hlt
        obtain ⟨rfl, hMb⟩ := h6 hne
        have ih := fun {w : World} (hw : Laid M w) => rfew_ok hus _ hw cur (deep - 1) (by omega) (by omega) (by omega) (by omega)
        have hle := fewN_le k[i] cur (deep - 1)
        rw [hdr, fewL] at hinv
        generalize k[i] = y at *
        generalize fewN y cur (deep - 1) = r at *
        repeat' (first | (first | refine wc_seq ?_ | refine wc_region ?_ | refine wl_nil ?_ | refine wn_seq ?_ | refine wn_blk ?_ | refine wc_skip ?_ | refine wc_block ?_ | refine wc_exit rfl ?_ | (show WL _ _ (_ :: _) _ _ _ _; first | refine yl_v rfl rfl rfl ?_ | refine wl_v rfl rfl rfl (by first | (show OpV _ _ _ _ (Oper.mk _ (Op.indexAddr _ _ _) _ _ _ _) _ _; exact ov_indexAddr (i := i) (b := b) (o := o) rfl rfl rfl (by first | with_reducible exact fun _ => rfl | with_reducible exact fun h => h | exact fun _ => rfl | exact fun h => h | (intro himp; simp_all; done)) (by first | with_reducible exact fun _ => rfl | with_reducible exact fun h => h | exact fun _ => rfl | exact fun h => h | (intro himp; simp_all; done)) rfl (by first | exact (rfl : _ = some 1) | exact (rfl : _ = some 2) | exact (rfl : _ = some 3) | exact (rfl : _ = some 4) | exact (rfl : _ = some 6) | exact rfl) (fun _ => rfl) (by intro hcg; first | omega | (simp at hcg; omega))) | (show OpV _ _ _ _ (Oper.mk _ (Op.load _ _) _ _ _ _) _ _; exact ov_loadSM (l := us) rfl (by first | with_reducible exact fun _ => rfl | with_reducible exact fun h => h | exact fun _ => rfl | exact fun h => h | (intro himp; simp_all; done)) rfl (by rw [hu4]; rfl) (fun _ => hMb) (fun _ j hj => hcells j (by rw [hu4] at hj; exact hj))) | ((show OpV _ _ _ _ (Oper.mk _ (Op.call ⟨.value (.func 45), _, _⟩) _ _ _ _) _ _; exact ov_call Tryd.call45 rfl (by intro himp; first | rfl | (simp_all; done)) (by rfl) (fun _ _ h k => h.ext k) (fun hcg w hw => ih hw.laid))) | fail) ?_ | refine xl_box rfl (fun _ => ?_)) | refine wc_ret rfl ?_) | (show WC _ (Code.cond _ _ _) _ _ _ _; (refine wc_cond rfl (fun hc => ?_) (fun hc => ?_) <;> (try (simp only [decide_eq_true_eq, decide_eq_false_iff_not, Bool.and_eq_true, Bool.or_eq_true, Bool.and_eq_false_iff, Bool.or_eq_false_iff, Bool.not_eq_true', Bool.not_eq_false', Int.not_lt, Int.not_le] at hc)) <;> (try (exfalso; first | omega | contradiction)))))
        · rw [if_pos hc] at hinv
          exact wr_tmp rfl rfl (by rw [hinv])
        · rw [if_neg (by omega)] at hinv
          exact wn_cut ⟨(i + 1, r), by omega, by omega, by omega, hinv⟩ (by show k.length - (i + 1) < k.length - i; omega) (by first | exact Sub.nil _ | (repeat (first | exact Sub.nil _ | refine Sub.cons (by first | rfl | (simp [look]; done)) ?_))) (fun _ h => h.drop (by repeat (first | exact List.Sublist.refl _ | apply List.Sublist.cons)))
      · obtain rfl : i = k.length := by omega
        rw [List.drop_length, fewL] at hinv
        repeat' (first | (first | refine wc_seq ?_ | refine wc_region ?_ | refine wl_nil ?_ | refine wn_seq ?_ | refine wn_blk ?_ | refine wc_skip ?_ | refine wc_block ?_ | refine wc_exit rfl ?_ | (show WL _ _ (_ :: _) _ _ _ _; first | refine yl_v rfl rfl rfl ?_ | refine wl_v rfl rfl rfl (by first  | fail) ?_ | refine xl_box rfl (fun _ => ?_)) | refine wc_ret rfl ?_) | (show WC _ (Code.cond _ _ _) _ _ _ _; (refine wc_cond rfl (fun hc => ?_) (fun hc => ?_) <;> (try (simp only [decide_eq_true_eq, decide_eq_false_iff_not, Bool.and_eq_true, Bool.or_eq_true, Bool.and_eq_false_iff, Bool.or_eq_false_iff, Bool.not_eq_true', Bool.not_eq_false', Int.not_lt, Int.not_le] at hc)) <;> (try (exfalso; first | omega | contradiction)))))
        exact wr_tmp rfl rfl (by rw [hinv])
theorem list4 {vs : List Value} (h : vs.length = 4) : ∃ a b c d, vs = [a, b, c, d] := by
  match vs, h with
  | [a, b, c, d], _ => exact ⟨a, b, c, d, rfl⟩
theorem attrs_lt {l : List Pr} {i : Nat} (h : i < l.length) (hb : attrOk l i = false) : attrsB l = false := by
  unfold attrsB
  rw [Bool.eq_false_iff]
  intro h1
  rw [List.all_eq_true] at h1
  have := h1 i (List.mem_range.2 h)
  rw [hb] at this; cases this
theorem attrs_all {l : List Pr} (h : ∀ i, i < l.length → attrOk l i = true) : attrsB l = true := by
  unfold attrsB
  rw [List.all_eq_true]
  intro i hi
  exact h i (List.mem_range.1 hi)
theorem any_at {l : List Pr} {i j : Nat} {s : List UInt8} (hj : j < i) (hi : i ≤ l.length) (h : (l.getD j default).1 = s) : (l.take i).any (fun b => decide (b.1 = s)) = true := by
  rw [List.any_eq_true]
  refine ⟨l.getD j default, ?_, by simpa using h⟩
  have : j < l.length := by omega
  rw [show l.getD j default = l[j] by simp [this], List.mem_take_iff_getElem]
  exact ⟨j, by omega, rfl⟩
theorem any_none {l : List Pr} {i : Nat} {s : List UInt8} (hi : i ≤ l.length) (h : ∀ j, j < i → (l.getD j default).1 ≠ s) : (l.take i).any (fun b => decide (b.1 = s)) = false := by
  rw [Bool.eq_false_iff]
  intro h1
  rw [List.any_eq_true] at h1
  obtain ⟨x, hx, he⟩ := h1
  rw [List.mem_take_iff_getElem] at hx
  obtain ⟨j, hj, rfl⟩ := hx
  have hjl : j < l.length := by omega
  exact h j (by omega) (by simpa [hjl] using he)
theorem pcell2 {cs : Array Value} {q : Nat} {x y : Value} (h : cs[q]? = some x ∧ cs[q + 1]? = some y) : ∀ j, j < [x, y].length → cs[q + j]? = [x, y][j]?
  | 0, _ => h.1
  | 1, _ => h.2
  | j + 2, h => by exfalso; simp at h; omega
theorem getD_memP {l : List Pr} {i : Nat} (h : i < l.length) : l.getD i default ∈ l := by
  rw [show l.getD i default = l[i] by simp [h]]
  exact List.getElem_mem h
set_option maxHeartbeats 1000000 in
theorem rown_ok : ∀ {D : Nat} {x : Nd} {vs : List Value}, NodeC M D x vs → ∀ (w : World), Laid M w → Calls Tryd.prog 46 #[.agg vs.toArray] w (RetE w (.bool (ownN x)))
  | 0, _, _, h => h.elim
  | D + 1, .mk n at' t k, vs, h => by
    intro w hM
    obtain ⟨va, vk, rfl, h2, h3, hb1, hb2, hb3⟩ := h
    obtain ⟨a, cap, b, o, cs, T, fz, rfl, h4, h5, h6, h7⟩ := Sl.open h3
    obtain ⟨a', cap', b', o', cs', T', fz', rfl, g4, g5, g6, g7⟩ := h2.open
    have hnm := fun {w : World} (hw : Laid M w) => rname_ok hw n (by omega)
    have hsh := fun {w : World} (hw : Laid M w) => rshown_ok hw t (by omega)
    rw [ownN]
    refine calls_st (l := [.agg [str n, .slice a' at'.length cap', str t, .slice a k.length cap].toArray]) hM Tryd.func46 rfl rfl rfl (E0 := [(0, true, .agg [str n, .slice a' at'.length cap', str t, .slice a k.length cap].toArray)]) (params_cons rfl (params_nil _)) ?_
    cases hq1 : nameB n with
    | false =>
      rw [hq1] at hnm
      repeat' (first | (first | refine wc_seq ?_ | refine wc_region ?_ | refine wl_nil ?_ | refine wn_seq ?_ | refine wn_blk ?_ | refine wc_skip ?_ | refine wc_block ?_ | refine wc_exit rfl ?_ | (show WL _ _ (_ :: _) _ _ _ _; first | refine yl_v rfl rfl rfl ?_ | refine wl_v rfl rfl rfl (by first | ((show OpV _ _ _ _ (Oper.mk _ (Op.call ⟨.value (.func 30), _, _⟩) _ _ _ _) _ _; exact ov_call Tryd.call30 rfl (by intro himp; first | rfl | (simp_all; done)) (by rfl) (fun _ _ h k => h.ext k) (fun hcg w hw => hnm hw.laid))) | ((show OpV _ _ _ _ (Oper.mk _ (Op.call ⟨.value (.func 7), _, _⟩) _ _ _ _) _ _; exact ov_call Tryd.call7 rfl (by intro himp; first | rfl | (simp_all; done)) (by rfl) (fun _ _ h k => h.ext k) (fun hcg w hw => hsh hw.laid))) | fail) ?_ | refine xl_alloc (fun _ => ?_) | refine xl_box rfl (fun _ => ?_) | refine xl_store rfl rfl ?_) | refine wc_ret rfl ?_) | (show WC _ (Code.cond _ _ _) _ _ _ _; (refine wc_cond rfl (fun hc => ?_) (fun hc => ?_) <;> (try (simp only [decide_eq_true_eq, decide_eq_false_iff_not, Bool.and_eq_true, Bool.or_eq_true, Bool.and_eq_false_iff, Bool.or_eq_false_iff, Bool.not_eq_true', Bool.not_eq_false', Int.not_lt, Int.not_le] at hc)) <;> (try (exfalso; first | omega | contradiction)))))
      exact wr_tmp rfl rfl rfl
    | true =>
    cases hq2 : shwB t with
    | false =>
      rw [hq1] at hnm
      rw [hq2] at hsh
      repeat' (first | (first | refine wc_seq ?_ | refine wc_region ?_ | refine wl_nil ?_ | refine wn_seq ?_ | refine wn_blk ?_ | refine wc_skip ?_ | refine wc_block ?_ | refine wc_exit rfl ?_ | (show WL _ _ (_ :: _) _ _ _ _; first | refine yl_v rfl rfl rfl ?_ | refine wl_v rfl rfl rfl (by first | ((show OpV _ _ _ _ (Oper.mk _ (Op.call ⟨.value (.func 30), _, _⟩) _ _ _ _) _ _; exact ov_call Tryd.call30 rfl (by intro himp; first | rfl | (simp_all; done)) (by rfl) (fun _ _ h k => h.ext k) (fun hcg w hw => hnm hw.laid))) | ((show OpV _ _ _ _ (Oper.mk _ (Op.call ⟨.value (.func 7), _, _⟩) _ _ _ _) _ _; exact ov_call Tryd.call7 rfl (by intro himp; first | rfl | (simp_all; done)) (by rfl) (fun _ _ h k => h.ext k) (fun hcg w hw => hsh hw.laid))) | fail) ?_ | refine xl_alloc (fun _ => ?_) | refine xl_box rfl (fun _ => ?_) | refine xl_store rfl rfl ?_) | refine wc_ret rfl ?_) | (show WC _ (Code.cond _ _ _) _ _ _ _; (refine wc_cond rfl (fun hc => ?_) (fun hc => ?_) <;> (try (simp only [decide_eq_true_eq, decide_eq_false_iff_not, Bool.and_eq_true, Bool.or_eq_true, Bool.and_eq_false_iff, Bool.or_eq_false_iff, Bool.not_eq_true', Bool.not_eq_false', Int.not_lt, Int.not_le] at hc)) <;> (try (exfalso; first | omega | contradiction)))))
      exact wr_tmp rfl rfl rfl
    | true =>
    rw [hq1] at hnm
    rw [hq2] at hsh
    repeat' (first | (first | refine wc_seq ?_ | refine wc_region ?_ | refine wl_nil ?_ | refine wn_seq ?_ | refine wn_blk ?_ | refine wc_skip ?_ | refine wc_block ?_ | refine wc_exit rfl ?_ | (show WL _ _ (_ :: _) _ _ _ _; first | refine yl_v rfl rfl rfl ?_ | refine wl_v rfl rfl rfl (by first | ((show OpV _ _ _ _ (Oper.mk _ (Op.call ⟨.value (.func 30), _, _⟩) _ _ _ _) _ _; exact ov_call Tryd.call30 rfl (by intro himp; first | rfl | (simp_all; done)) (by rfl) (fun _ _ h k => h.ext k) (fun hcg w hw => hnm hw.laid))) | ((show OpV _ _ _ _ (Oper.mk _ (Op.call ⟨.value (.func 7), _, _⟩) _ _ _ _) _ _; exact ov_call Tryd.call7 rfl (by intro himp; first | rfl | (simp_all; done)) (by rfl) (fun _ _ h k => h.ext k) (fun hcg w hw => hsh hw.laid))) | fail) ?_ | refine xl_alloc (fun _ => ?_) | refine xl_box rfl (fun _ => ?_) | refine xl_store rfl rfl ?_) | refine wc_ret rfl ?_) | (show WC _ (Code.cond _ _ _) _ _ _ _; (refine wc_cond rfl (fun hc => ?_) (fun hc => ?_) <;> (try (simp only [decide_eq_true_eq, decide_eq_false_iff_not, Bool.and_eq_true, Bool.or_eq_true, Bool.and_eq_false_iff, Bool.or_eq_false_iff, Bool.not_eq_true', Bool.not_eq_false', Int.not_lt, Int.not_le] at hc)) <;> (try (exfalso; first | omega | contradiction)))))
    · obtain ⟨c1, c2⟩ := hc
      have e1 : t.isEmpty = false := by cases t <;> simp_all
      have e2 : k.isEmpty = false := by cases k <;> simp_all
      exact wr_tmp rfl rfl (by rw [e1, e2]; rfl)
    rename_i b1
    have htk : (t.isEmpty || k.isEmpty) = true := by
      rcases hc with rfl | h
      · rfl
      · have : k = [] := List.eq_nil_of_length_eq_zero (by omega)
        subst this; simp
    rw [htk]
    simp only [Bool.true_and]
    refine wc_loop (α := { i : Nat // i ≤ at'.length ∧ ∀ j, j < i → attrOk at' j = true }) (fun x => [(1, true, .pointer (some ⟨b1, 0, none⟩)), (5, true, i64 (x.1 : Int))]) (fun _ => St w [] [(b1, .cells [str n, .slice a' at'.length cap', str t, .slice a k.length cap].toArray 35 (0, 0))] M) (fun x => at'.length - x.1) ⟨0, by omega, by intro j hj; omega⟩ (by first | exact Sub.nil _ | (repeat (first | exact Sub.nil _ | refine Sub.cons (by first | rfl | (simp [look]; done)) ?_))) (fun _ h => h) ?_
    rintro ⟨i, hi, hall⟩
    dsimp only
    rcases Nat.lt_or_ge i at'.length with hlt | hge
    · have hne : at' ≠ [] := by intro e; subst e; simp at hlt
      obtain ⟨rfl, hMb⟩ := g6 hne
      have hp3 := hb3 (at'.getD i default) (getD_memP hlt)
      have hn2 := fun {w : World} (hw : Laid M w) => rname_ok hw (at'.getD i default).1 (by omega)
      have hs2 := fun {w : World} (hw : Laid M w) => rshown_ok hw (at'.getD i default).2 (by omega)
      have gi := g7 i hlt
      have hok : attrOk at' i = (nameB (at'.getD i default).1 && shwB (at'.getD i default).2 && !((at'.take i).any fun b => decide (b.1 = (at'.getD i default).1))) := rfl
      generalize hpe : at'.getD i default = p at *
      by_cases hns : nameB p.1 = true ∧ shwB p.2 = true
      · rw [hns.1] at hn2
        rw [hns.2] at hs2
        repeat' (first | (first | refine wc_seq ?_ | refine wc_region ?_ | refine wl_nil ?_ | refine wn_seq ?_ | refine wn_blk ?_ | refine wc_skip ?_ | refine wc_block ?_ | refine wc_exit rfl ?_ | (show WL _ _ (_ :: _) _ _ _ _; first | refine yl_v rfl rfl rfl ?_ | refine wl_v rfl rfl rfl (by first | ((show OpV _ _ _ _ (Oper.mk _ (Op.call ⟨.value (.func 30), _, _⟩) _ _ _ _) _ _; exact ov_call Tryd.call30 rfl (by intro himp; first | rfl | (simp_all; done)) (by rfl) (fun _ _ h k => h.ext k) (fun hcg w hw => hn2 hw.laid))) | ((show OpV _ _ _ _ (Oper.mk _ (Op.call ⟨.value (.func 7), _, _⟩) _ _ _ _) _ _; exact ov_call Tryd.call7 rfl (by intro himp; first | rfl | (simp_all; done)) (by rfl) (fun _ _ h k => h.ext k) (fun hcg w hw => hs2 hw.laid))) | (show OpV _ _ _ _ (Oper.mk _ (Op.indexAddr _ _ _) _ _ _ _) _ _; exact ov_indexAddr (i := i) (b := b') (o := o') rfl rfl rfl (by first | with_reducible exact fun _ => rfl | with_reducible exact fun h => h | exact fun _ => rfl | exact fun h => h | (intro himp; simp_all; done)) (by first | with_reducible exact fun _ => rfl | with_reducible exact fun h => h | exact fun _ => rfl | exact fun h => h | (intro himp; simp_all; done)) rfl (by first | exact (rfl : _ = some 1) | exact (rfl : _ = some 2) | exact (rfl : _ = some 3) | exact (rfl : _ = some 4) | exact (rfl : _ = some 6) | exact rfl) (fun _ => rfl) (by intro hcg; first | omega | (simp at hcg; omega))) | (show OpV _ _ _ _ (Oper.mk _ (Op.load _ _) _ _ _ _) _ _; exact ov_loadSM (l := [str p.1, str p.2]) rfl (by first | with_reducible exact fun _ => rfl | with_reducible exact fun h => h | exact fun _ => rfl | exact fun h => h | (intro himp; simp_all; done)) rfl (by first | exact (rfl : _ = some 1) | exact (rfl : _ = some 2) | exact (rfl : _ = some 3) | exact (rfl : _ = some 4) | exact (rfl : _ = some 6) | exact rfl) (fun _ => hMb) (fun _ => pcell2 gi)) | fail) ?_ | refine xl_alloc (fun _ => ?_) | refine xl_box rfl (fun _ => ?_) | refine xl_store rfl rfl ?_) | refine wc_ret rfl ?_) | (show WC _ (Code.cond _ _ _) _ _ _ _; (refine wc_cond rfl (fun hc => ?_) (fun hc => ?_) <;> (try (simp only [decide_eq_true_eq, decide_eq_false_iff_not, Bool.and_eq_true, Bool.or_eq_true, Bool.and_eq_false_iff, Bool.or_eq_false_iff, Bool.not_eq_true', Bool.not_eq_false', Int.not_lt, Int.not_le] at hc)) <;> (try (exfalso; first | omega | contradiction)))))
        rename_i b6
        have hsnd : (nameB p.1 && shwB p.2) = true := by rw [hns.1, hns.2]; rfl
        rw [hsnd, Bool.true_and] at hok
        refine wc_loop (α := { k2 : Nat // k2 ≤ i ∧ ∀ j, j < k2 → (at'.getD j default).1 ≠ p.1 }) (fun x => [(1, true, .pointer (some ⟨b1, 0, none⟩)), (5, true, i64 (i : Int)), (6, true, .pointer (some ⟨b6, 0, none⟩)), (7, true, i64 (x.1 : Int))]) (fun _ => St w [] [(b6, .cells [str p.1, str p.2].toArray 57 (0, 0)), (b1, .cells [str n, .slice (some ⟨b', o', none⟩) at'.length cap', str t, .slice a k.length cap].toArray 35 (0, 0))] M) (fun x => i - x.1) ⟨0, by omega, by intro j hj; omega⟩ (by first | exact Sub.nil _ | (repeat (first | exact Sub.nil _ | refine Sub.cons (by first | rfl | (simp [look]; done)) ?_))) (fun _ h => h) ?_
        rintro ⟨k2, hk2, hnone⟩
        dsimp only
        rcases Nat.lt_or_ge k2 i with hlt2 | hge2
        · have g2 := g7 k2 (by omega)
          repeat' (first | (first | refine wc_seq ?_ | refine wc_region ?_ | refine wl_nil ?_ | refine wn_seq ?_ | refine wn_blk ?_ | refine wc_skip ?_ | refine wc_block ?_ | refine wc_exit rfl ?_ | (show WL _ _ (_ :: _) _ _ _ _; first | refine yl_v rfl rfl rfl ?_ | refine wl_v rfl rfl rfl (by first  | fail) ?_ | refine xl_alloc (fun _ => ?_) | refine xl_box rfl (fun _ => ?_) | refine xl_store rfl rfl ?_) | refine wc_ret rfl ?_) | (show WC _ (Code.cond _ _ _) _ _ _ _; (refine wc_cond rfl (fun hc => ?_) (fun hc => ?_) <;> (try (simp only [decide_eq_true_eq, decide_eq_false_iff_not, Bool.and_eq_true, Bool.or_eq_true, Bool.and_eq_false_iff, Bool.or_eq_false_iff, Bool.not_eq_true', Bool.not_eq_false', Int.not_lt, Int.not_le] at hc)) <;> (try (exfalso; first | omega | contradiction)))))
          refine wc_draw 9 (by kernel_rfl) rfl (by kernel_rfl) (fun _ _ h k => h.ext k) ?_
          repeat' (first | (show WD _ _ (_ :: _) _ _ _ _ _ _; first | refine yd_v rfl rfl rfl rfl rfl rfl ?_ | refine wd_v rfl rfl rfl rfl rfl rfl (by first | (show OpV _ _ _ _ (Oper.mk _ (Op.indexAddr _ _ _) _ _ _ _) _ _; exact ov_indexAddr (i := k2) (b := b') (o := o') rfl rfl rfl (by first | with_reducible exact fun _ => rfl | with_reducible exact fun h => h | exact fun _ => rfl | exact fun h => h | (intro himp; simp_all; done)) (by first | with_reducible exact fun _ => rfl | with_reducible exact fun h => h | exact fun _ => rfl | exact fun h => h | (intro himp; simp_all; done)) rfl (by first | exact (rfl : _ = some 1) | exact (rfl : _ = some 2) | exact (rfl : _ = some 3) | exact (rfl : _ = some 4) | exact (rfl : _ = some 6) | exact rfl) (fun _ => rfl) (by intro hcg; first | omega | (simp at hcg; omega))) | (show OpV _ _ _ _ (Oper.mk _ (Op.load _ _) _ _ _ _) _ _; exact ov_load1M rfl (by first | with_reducible exact fun _ => rfl | with_reducible exact fun h => h | exact fun _ => rfl | exact fun h => h | (intro himp; simp_all; done)) rfl rfl (fun _ => hMb) (fun _ => g2.1)) | fail) ?_ | refine yd_new rfl rfl rfl rfl rfl rfl ?_ | refine wd_conv rfl rfl rfl rfl rfl rfl rfl rfl rfl rfl ?_) | (show WD _ _ _ _ _ _ _ _ _; first | refine wd_nil ?_ | refine wd_nilF ?_) | (first | refine wc_seq ?_ | refine wc_region ?_ | refine wl_nil ?_ | refine wn_seq ?_ | refine wn_blk ?_ | refine wc_skip ?_ | refine wc_block ?_ | refine wc_exit rfl ?_ | (show WL _ _ (_ :: _) _ _ _ _; first | refine yl_v rfl rfl rfl ?_ | refine wl_v rfl rfl rfl (by first | (show OpV _ _ _ _ (Oper.mk _ (Op.indexAddr _ _ _) _ _ _ _) _ _; exact ov_indexAddr (i := k2) (b := b') (o := o') rfl rfl rfl (by first | with_reducible exact fun _ => rfl | with_reducible exact fun h => h | exact fun _ => rfl | exact fun h => h | (intro himp; simp_all; done)) (by first | with_reducible exact fun _ => rfl | with_reducible exact fun h => h | exact fun _ => rfl | exact fun h => h | (intro himp; simp_all; done)) rfl (by first | exact (rfl : _ = some 1) | exact (rfl : _ = some 2) | exact (rfl : _ = some 3) | exact (rfl : _ = some 4) | exact (rfl : _ = some 6) | exact rfl) (fun _ => rfl) (by intro hcg; first | omega | (simp at hcg; omega))) | (show OpV _ _ _ _ (Oper.mk _ (Op.load _ _) _ _ _ _) _ _; exact ov_load1M rfl (by first | with_reducible exact fun _ => rfl | with_reducible exact fun h => h | exact fun _ => rfl | exact fun h => h | (intro himp; simp_all; done)) rfl rfl (fun _ => hMb) (fun _ => g2.1)) | fail) ?_ | refine xl_alloc (fun _ => ?_) | refine xl_box rfl (fun _ => ?_) | refine xl_store rfl rfl ?_) | refine wc_ret rfl ?_))
          repeat' (first | (first | refine wc_seq ?_ | refine wc_region ?_ | refine wl_nil ?_ | refine wn_seq ?_ | refine wn_blk ?_ | refine wc_skip ?_ | refine wc_block ?_ | refine wc_exit rfl ?_ | (show WL _ _ (_ :: _) _ _ _ _; first | refine yl_v rfl rfl rfl ?_ | refine wl_v rfl rfl rfl (by first  | fail) ?_ | refine xl_alloc (fun _ => ?_) | refine xl_box rfl (fun _ => ?_) | refine xl_store rfl rfl ?_) | refine wc_ret rfl ?_) | (show WC _ (Code.cond _ _ _) _ _ _ _; (refine wc_cond rfl (fun hc => ?_) (fun hc => ?_) <;> (try (simp only [decide_eq_true_eq, decide_eq_false_iff_not, Bool.and_eq_true, Bool.or_eq_true, Bool.and_eq_false_iff, Bool.or_eq_false_iff, Bool.not_eq_true', Bool.not_eq_false', Int.not_lt, Int.not_le] at hc)) <;> (try (exfalso; first | omega | contradiction)))))
          · have hbad : attrOk at' i = false := by rw [hok, any_at hlt2 hi hc]; rfl
            exact wr_tmp rfl rfl (by rw [attrs_lt hlt hbad]; rfl)
          · refine wn_cut ⟨k2 + 1, by omega, ?_⟩ (by show i - (k2 + 1) < i - k2; omega) (by first | exact Sub.nil _ | (repeat (first | exact Sub.nil _ | refine Sub.cons (by first | rfl | (simp [look]; done)) ?_))) (fun _ h => h)
            intro j hj
            by_cases h : j = k2
            · subst h; exact hc
            · exact hnone j (by omega)
        · obtain rfl : k2 = i := by omega
          rw [any_none hi hnone] at hok
          repeat' (first | (first | refine wc_seq ?_ | refine wc_region ?_ | refine wl_nil ?_ | refine wn_seq ?_ | refine wn_blk ?_ | refine wc_skip ?_ | refine wc_block ?_ | refine wc_exit rfl ?_ | (show WL _ _ (_ :: _) _ _ _ _; first | refine yl_v rfl rfl rfl ?_ | refine wl_v rfl rfl rfl (by first  | fail) ?_ | refine xl_alloc (fun _ => ?_) | refine xl_box rfl (fun _ => ?_) | refine xl_store rfl rfl ?_) | refine wc_ret rfl ?_) | (show WC _ (Code.cond _ _ _) _ _ _ _; (refine wc_cond rfl (fun hc => ?_) (fun hc => ?_) <;> (try (simp only [decide_eq_true_eq, decide_eq_false_iff_not, Bool.and_eq_true, Bool.or_eq_true, Bool.and_eq_false_iff, Bool.or_eq_false_iff, Bool.not_eq_true', Bool.not_eq_false', Int.not_lt, Int.not_le] at hc)) <;> (try (exfalso; first | omega | contradiction)))))
          refine wn_cut ⟨k2 + 1, by omega, ?_⟩ (by show at'.length - (k2 + 1) < at'.length - k2; omega) (by first | exact Sub.nil _ | (repeat (first | exact Sub.nil _ | refine Sub.cons (by first | rfl | (simp [look]; done)) ?_))) (fun _ h => h.drop (by repeat (first | exact List.Sublist.refl _ | apply List.Sublist.cons)))
          intro j hj
          by_cases h : j = k2
          · subst h; exact hok
          · exact hall j (by omega)
      · repeat' (first | (first | refine wc_seq ?_ | refine wc_region ?_ | refine wl_nil ?_ | refine wn_seq ?_ | refine wn_blk ?_ | refine wc_skip ?_ | refine wc_block ?_ | refine wc_exit rfl ?_ | (show WL _ _ (_ :: _) _ _ _ _; first | refine yl_v rfl rfl rfl ?_ | refine wl_v rfl rfl rfl (by first | ((show OpV _ _ _ _ (Oper.mk _ (Op.call ⟨.value (.func 30), _, _⟩) _ _ _ _) _ _; exact ov_call Tryd.call30 rfl (by intro himp; first | rfl | (simp_all; done)) (by rfl) (fun _ _ h k => h.ext k) (fun hcg w hw => hn2 hw.laid))) | ((show OpV _ _ _ _ (Oper.mk _ (Op.call ⟨.value (.func 7), _, _⟩) _ _ _ _) _ _; exact ov_call Tryd.call7 rfl (by intro himp; first | rfl | (simp_all; done)) (by rfl) (fun _ _ h k => h.ext k) (fun hcg w hw => hs2 hw.laid))) | (show OpV _ _ _ _ (Oper.mk _ (Op.indexAddr _ _ _) _ _ _ _) _ _; exact ov_indexAddr (i := i) (b := b') (o := o') rfl rfl rfl (by first | with_reducible exact fun _ => rfl | with_reducible exact fun h => h | exact fun _ => rfl | exact fun h => h | (intro himp; simp_all; done)) (by first | with_reducible exact fun _ => rfl | with_reducible exact fun h => h | exact fun _ => rfl | exact fun h => h | (intro himp; simp_all; done)) rfl (by first | exact (rfl : _ = some 1) | exact (rfl : _ = some 2) | exact (rfl : _ = some 3) | exact (rfl : _ = some 4) | exact (rfl : _ = some 6) | exact rfl) (fun _ => rfl) (by intro hcg; first | omega | (simp at hcg; omega))) | (show OpV _ _ _ _ (Oper.mk _ (Op.load _ _) _ _ _ _) _ _; exact ov_loadSM (l := [str p.1, str p.2]) rfl (by first | with_reducible exact fun _ => rfl | with_reducible exact fun h => h | exact fun _ => rfl | exact fun h => h | (intro himp; simp_all; done)) rfl (by first | exact (rfl : _ = some 1) | exact (rfl : _ = some 2) | exact (rfl : _ = some 3) | exact (rfl : _ = some 4) | exact (rfl : _ = some 6) | exact rfl) (fun _ => hMb) (fun _ => pcell2 gi)) | fail) ?_ | refine xl_alloc (fun _ => ?_) | refine xl_box rfl (fun _ => ?_) | refine xl_store rfl rfl ?_) | refine wc_ret rfl ?_) | (show WC _ (Code.cond _ _ _) _ _ _ _; (refine wc_cond rfl (fun hc => ?_) (fun hc => ?_) <;> (try (simp only [decide_eq_true_eq, decide_eq_false_iff_not, Bool.and_eq_true, Bool.or_eq_true, Bool.and_eq_false_iff, Bool.or_eq_false_iff, Bool.not_eq_true', Bool.not_eq_false', Int.not_lt, Int.not_le] at hc)) <;> (try (exfalso; first | omega | contradiction)))))
        · have hbad : attrOk at' i = false := by
            rw [hok]
            cases h1 : nameB p.1
            · rfl
            · cases h2 : shwB p.2
              · rfl
              · exact absurd ⟨h1, h2⟩ hns
          exact wr_tmp rfl rfl (by rw [attrs_lt hlt hbad]; rfl)
    · obtain rfl : i = at'.length := by omega
      rw [attrs_all hall]
      simp only [Bool.true_and]
      repeat' (first | (first | refine wc_seq ?_ | refine wc_region ?_ | refine wl_nil ?_ | refine wn_seq ?_ | refine wn_blk ?_ | refine wc_skip ?_ | refine wc_block ?_ | refine wc_exit rfl ?_ | (show WL _ _ (_ :: _) _ _ _ _; first | refine yl_v rfl rfl rfl ?_ | refine wl_v rfl rfl rfl (by first  | fail) ?_ | refine xl_alloc (fun _ => ?_) | refine xl_box rfl (fun _ => ?_) | refine xl_store rfl rfl ?_) | refine wc_ret rfl ?_) | (show WC _ (Code.cond _ _ _) _ _ _ _; (refine wc_cond rfl (fun hc => ?_) (fun hc => ?_) <;> (try (simp only [decide_eq_true_eq, decide_eq_false_iff_not, Bool.and_eq_true, Bool.or_eq_true, Bool.and_eq_false_iff, Bool.or_eq_false_iff, Bool.not_eq_true', Bool.not_eq_false', Int.not_lt, Int.not_le] at hc)) <;> (try (exfalso; first | omega | contradiction)))))
      refine wc_loop (α := { i : Nat // i ≤ k.length ∧ ownL k = ownL (k.drop i) }) (fun x => [(1, true, .pointer (some ⟨b1, 0, none⟩)), (8, true, i64 (x.1 : Int))]) (fun _ => St w [] [(b1, .cells [str n, .slice a' at'.length cap', str t, .slice a k.length cap].toArray 35 (0, 0))] M) (fun x => k.length - x.1) ⟨0, by omega, rfl⟩ (by first | exact Sub.nil _ | (repeat (first | exact Sub.nil _ | refine Sub.cons (by first | rfl | (simp [look]; done)) ?_))) (fun _ h => h) ?_
      rintro ⟨i, hi, hinv⟩
      dsimp only
      rcases Nat.lt_or_ge i k.length with hlt | hge
      · have hdr : k.drop i = k[i] :: k.drop (i + 1) := List.drop_eq_getElem_cons hlt
        obtain ⟨us, hu4, hus, hcells⟩ := h7 i hlt
        have hne : k ≠ [] := by intro e; subst e; simp at hlt
        obtain ⟨rfl, hMb⟩ := h6 hne
        have ih := fun {w : World} (hw : Laid M w) => rown_ok hus w hw
        rw [hdr, ownL] at hinv
        generalize k[i] = y at *
        generalize ownN y = r at *
        cases r with
        | false =>
          repeat' (first | (first | refine wc_seq ?_ | refine wc_region ?_ | refine wl_nil ?_ | refine wn_seq ?_ | refine wn_blk ?_ | refine wc_skip ?_ | refine wc_block ?_ | refine wc_exit rfl ?_ | (show WL _ _ (_ :: _) _ _ _ _; first | refine yl_v rfl rfl rfl ?_ | refine wl_v rfl rfl rfl (by first | (show OpV _ _ _ _ (Oper.mk _ (Op.indexAddr _ _ _) _ _ _ _) _ _; exact ov_indexAddr (i := i) (b := b) (o := o) rfl rfl rfl (by first | with_reducible exact fun _ => rfl | with_reducible exact fun h => h | exact fun _ => rfl | exact fun h => h | (intro himp; simp_all; done)) (by first | with_reducible exact fun _ => rfl | with_reducible exact fun h => h | exact fun _ => rfl | exact fun h => h | (intro himp; simp_all; done)) rfl (by first | exact (rfl : _ = some 1) | exact (rfl : _ = some 2) | exact (rfl : _ = some 3) | exact (rfl : _ = some 4) | exact (rfl : _ = some 6) | exact rfl) (fun _ => rfl) (by intro hcg; first | omega | (simp at hcg; omega))) | (show OpV _ _ _ _ (Oper.mk _ (Op.load _ _) _ _ _ _) _ _; exact ov_loadSM (l := us) rfl (by first | with_reducible exact fun _ => rfl | with_reducible exact fun h => h | exact fun _ => rfl | exact fun h => h | (intro himp; simp_all; done)) rfl (by rw [hu4]; rfl) (fun _ => hMb) (fun _ j hj => hcells j (by rw [hu4] at hj; exact hj))) | ((show OpV _ _ _ _ (Oper.mk _ (Op.call ⟨.value (.func 46), _, _⟩) _ _ _ _) _ _; exact ov_call Tryd.call46 rfl (by intro himp; first | rfl | (simp_all; done)) (by rfl) (fun _ _ h k => h.ext k) (fun hcg w hw => ih hw.laid))) | fail) ?_ | refine xl_alloc (fun _ => ?_) | refine xl_box rfl (fun _ => ?_) | refine xl_store rfl rfl ?_) | refine wc_ret rfl ?_) | (show WC _ (Code.cond _ _ _) _ _ _ _; (refine wc_cond rfl (fun hc => ?_) (fun hc => ?_) <;> (try (simp only [decide_eq_true_eq, decide_eq_false_iff_not, Bool.and_eq_true, Bool.or_eq_true, Bool.and_eq_false_iff, Bool.or_eq_false_iff, Bool.not_eq_true', Bool.not_eq_false', Int.not_lt, Int.not_le] at hc)) <;> (try (exfalso; first | omega | contradiction)))))
          exact wr_tmp rfl rfl (by rw [hinv]; rfl)
        | true =>
          repeat' (first | (first | refine wc_seq ?_ | refine wc_region ?_ | refine wl_nil ?_ | refine wn_seq ?_ | refine wn_blk ?_ | refine wc_skip ?_ | refine wc_block ?_ | refine wc_exit rfl ?_ | (show WL _ _ (_ :: _) _ _ _ _; first | refine yl_v rfl rfl rfl ?_ | refine wl_v rfl rfl rfl (by first | (show OpV _ _ _ _ (Oper.mk _ (Op.indexAddr _ _ _) _ _ _ _) _ _; exact ov_indexAddr (i := i) (b := b) (o := o) rfl rfl rfl (by first | with_reducible exact fun _ => rfl | with_reducible exact fun h => h | exact fun _ => rfl | exact fun h => h | (intro himp; simp_all; done)) (by first | with_reducible exact fun _ => rfl | with_reducible exact fun h => h | exact fun _ => rfl | exact fun h => h | (intro himp; simp_all; done)) rfl (by first | exact (rfl : _ = some 1) | exact (rfl : _ = some 2) | exact (rfl : _ = some 3) | exact (rfl : _ = some 4) | exact (rfl : _ = some 6) | exact rfl) (fun _ => rfl) (by intro hcg; first | omega | (simp at hcg; omega))) | (show OpV _ _ _ _ (Oper.mk _ (Op.load _ _) _ _ _ _) _ _; exact ov_loadSM (l := us) rfl (by first | with_reducible exact fun _ => rfl | with_reducible exact fun h => h | exact fun _ => rfl | exact fun h => h | (intro himp; simp_all; done)) rfl (by rw [hu4]; rfl) (fun _ => hMb) (fun _ j hj => hcells j (by rw [hu4] at hj; exact hj))) | ((show OpV _ _ _ _ (Oper.mk _ (Op.call ⟨.value (.func 46), _, _⟩) _ _ _ _) _ _; exact ov_call Tryd.call46 rfl (by intro himp; first | rfl | (simp_all; done)) (by rfl) (fun _ _ h k => h.ext k) (fun hcg w hw => ih hw.laid))) | fail) ?_ | refine xl_alloc (fun _ => ?_) | refine xl_box rfl (fun _ => ?_) | refine xl_store rfl rfl ?_) | refine wc_ret rfl ?_) | (show WC _ (Code.cond _ _ _) _ _ _ _; (refine wc_cond rfl (fun hc => ?_) (fun hc => ?_) <;> (try (simp only [decide_eq_true_eq, decide_eq_false_iff_not, Bool.and_eq_true, Bool.or_eq_true, Bool.and_eq_false_iff, Bool.or_eq_false_iff, Bool.not_eq_true', Bool.not_eq_false', Int.not_lt, Int.not_le] at hc)) <;> (try (exfalso; first | omega | contradiction)))))
          exact wn_cut ⟨i + 1, by omega, by rw [hinv, Bool.true_and]⟩ (by show k.length - (i + 1) < k.length - i; omega) (by first | exact Sub.nil _ | (repeat (first | exact Sub.nil _ | refine Sub.cons (by first | rfl | (simp [look]; done)) ?_))) (fun _ h => h)
      · obtain rfl : i = k.length := by omega
        rw [List.drop_length, ownL] at hinv
        repeat' (first | (first | refine wc_seq ?_ | refine wc_region ?_ | refine wl_nil ?_ | refine wn_seq ?_ | refine wn_blk ?_ | refine wc_skip ?_ | refine wc_block ?_ | refine wc_exit rfl ?_ | (show WL _ _ (_ :: _) _ _ _ _; first | refine yl_v rfl rfl rfl ?_ | refine wl_v rfl rfl rfl (by first  | fail) ?_ | refine xl_alloc (fun _ => ?_) | refine xl_box rfl (fun _ => ?_) | refine xl_store rfl rfl ?_) | refine wc_ret rfl ?_) | (show WC _ (Code.cond _ _ _) _ _ _ _; (refine wc_cond rfl (fun hc => ?_) (fun hc => ?_) <;> (try (simp only [decide_eq_true_eq, decide_eq_false_iff_not, Bool.and_eq_true, Bool.or_eq_true, Bool.and_eq_false_iff, Bool.or_eq_false_iff, Bool.not_eq_true', Bool.not_eq_false', Int.not_lt, Int.not_le] at hc)) <;> (try (exfalso; first | omega | contradiction)))))
        exact wr_tmp rfl rfl (by rw [hinv])
end Go.Proofs.YtgfbieplidpebaaDoor
/-
  Right, Same (the reference's); attributes, fits, Right (the package's).
-/
namespace Go.Proofs.YtgfbieplidpebaaDoor
open Go.Eng Go.Pct Go.Xml Go.Rsp
set_option maxRecDepth 10000
set_option linter.unusedSimpArgs false
set_option linter.unusedVariables false

variable {M : Ghost} {w : World}

theorem rright_ok (hM : Laid M w) {D : Nat} {x : Nd} {vs : List Value} (h : NodeC M D x vs) : Calls Tryd.prog 29 #[.agg vs.toArray] w (RetE w (.bool (rightN x))) := by
  obtain ⟨v0, v1, v2, v3, e⟩ := list4 h.four
  have hf := fun {w : World} (hw : Laid M w) => rfew_ok h w hw 200 8 (by omega) (by omega) (by omega) (by omega)
  have ho := fun {w : World} (hw : Laid M w) => rown_ok h w hw
  unfold rightN
  generalize fewN x 200 8 = r at *
  generalize ownN x = q at *
  subst e
  refine calls_st (l := [.agg [v0, v1, v2, v3].toArray]) hM Tryd.func29 rfl rfl rfl (E0 := [(0, true, .agg [v0, v1, v2, v3].toArray)]) (params_cons rfl (params_nil _)) ?_
  repeat' (first | (first | refine wc_seq ?_ | refine wc_region ?_ | refine wl_nil ?_ | refine wn_seq ?_ | refine wn_blk ?_ | refine wc_skip ?_ | refine wc_block ?_ | refine wc_exit rfl ?_ | (show WL _ _ (_ :: _) _ _ _ _; first | refine yl_v rfl rfl rfl ?_ | refine wl_v rfl rfl rfl (by first | ((show OpV _ _ _ _ (Oper.mk _ (Op.call ⟨.value (.func 45), _, _⟩) _ _ _ _) _ _; exact ov_call Tryd.call45 rfl (by intro himp; first | rfl | (simp_all; done)) (by rfl) (fun _ _ h k => h.ext k) (fun hcg w hw => hf hw.laid))) | ((show OpV _ _ _ _ (Oper.mk _ (Op.call ⟨.value (.func 46), _, _⟩) _ _ _ _) _ _; exact ov_call Tryd.call46 rfl (by intro himp; first | rfl | (simp_all; done)) (by rfl) (fun _ _ h k => h.ext k) (fun hcg w hw => ho hw.laid))) | fail) ?_ | refine xl_box rfl (fun _ => ?_)) | refine wc_ret rfl ?_) | (show WC _ (Code.cond _ _ _) _ _ _ _; (refine wc_cond rfl (fun hc => ?_) (fun hc => ?_) <;> (try (simp only [decide_eq_true_eq, decide_eq_false_iff_not, Bool.and_eq_true, Bool.or_eq_true, Bool.and_eq_false_iff, Bool.or_eq_false_iff, Bool.not_eq_true', Bool.not_eq_false', Int.not_lt, Int.not_le] at hc)) <;> (try (exfalso; first | omega | contradiction)))))
  exact wr_tmp rfl rfl rfl
theorem sameL_len : ∀ {k k' : List Nd}, k.length ≠ k'.length → sameL k k' = false
  | [], [], h => absurd rfl h
  | [], _ :: _, _ => by simp [sameL]
  | _ :: _, [], _ => by simp [sameL]
  | x :: l, y :: m, h => by
    rw [sameL, sameL_len (k := l) (k' := m) (by simpa using h), Bool.and_false]
end Go.Proofs.YtgfbieplidpebaaDoor
/-
  Attributes, fits, Right (the package's).
-/
namespace Go.Proofs.YtgfbieplidpebaaDoor
open Go.Eng Go.Pct Go.Xml Go.Rsp
set_option maxRecDepth 10000
set_option linter.unusedSimpArgs false
set_option linter.unusedVariables false

variable {M : Ghost} {w : World}

theorem slP_take {a : Option Addr} {cap i : Nat} {l : List Pr} (h : SlP M (.slice a l.length cap) l) (hi : i ≤ l.length) : SlP M (.slice a i cap) (l.take i) := by
  obtain ⟨a', cap', h1, h2, h3, h4⟩ := h
  cases h1
  have hl : (l.take i).length = i := by rw [List.length_take]; omega
  refine ⟨a, cap, by rw [hl], by omega, by omega, fun hne => ?_⟩
  have hne' : l ≠ [] := by intro e; subst e; simp at hne
  obtain ⟨b, o, cs, T, fz, h5, h6, h7⟩ := h4 hne'
  refine ⟨b, o, cs, T, fz, h5, h6, fun j hj => ?_⟩
  obtain ⟨vs, k1, k2, k3⟩ := h7 j (by omega)
  exact ⟨vs, k1, by rw [List.getElem_take]; exact k2, k3⟩
theorem St.less {M' : Ghost} {w0 : World} {bs : List Nat} {H : List (Nat × Obj)} (h : St w0 bs H M' w) (hm : ∀ b o, M b o → M' b o) : St w0 bs H M w :=
  ⟨h.keep, h.own, h.new, h.nodup, fun b o hb => h.laid b o (hm b o hb), fun b o hb => h.apart b o (hm b o hb)⟩
theorem atFn_ok (hM : Laid M w) {b : Nat} {s t : List UInt8} {T : TypeId} {fz : Nat × Nat} (hb : M b (.cells #[str s, str t] T fz)) (x : Pr) : Calls Tryd.prog 87 ([] ++ [Value.agg #[str x.1, str x.2]] ++ [Value.pointer (some ⟨b, 0, none⟩)]).toArray w (RetE w (.bool (decide (x.1 = s)))) := by
  show Calls Tryd.prog 87 #[.agg #[str x.1, str x.2], .pointer (some ⟨b, 0, none⟩)] w _
  refine calls_st (l := [.agg #[str x.1, str x.2], .pointer (some ⟨b, 0, none⟩)]) hM Tryd.func87 rfl rfl rfl (E0 := [(0, true, .agg #[str x.1, str x.2]), (1, true, .pointer (some ⟨b, 0, none⟩))]) (params_cons rfl (params_cons rfl (params_nil _))) ?_
  repeat' (first | (first | refine wc_seq ?_ | refine wc_region ?_ | refine wl_nil ?_ | refine wn_seq ?_ | refine wn_blk ?_ | refine wc_skip ?_ | refine wc_block ?_ | refine wc_exit rfl ?_ | (show WL _ _ (_ :: _) _ _ _ _; first | refine yl_v rfl rfl rfl ?_ | refine wl_v rfl rfl rfl (by first | (show OpV _ _ _ _ (Oper.mk _ (Op.load _ _) _ _ _ _) _ _; exact ov_load1M rfl (by first | with_reducible exact fun _ => rfl | with_reducible exact fun h => h | exact fun _ => rfl | exact fun h => h | (intro himp; simp_all; done)) rfl rfl (fun _ => hb) (fun _ => rfl)) | fail) ?_ | refine xl_box rfl (fun _ => ?_)) | refine wc_ret rfl ?_) | (show WC _ (Code.cond _ _ _) _ _ _ _; (refine wc_cond rfl (fun hc => ?_) (fun hc => ?_) <;> (try (simp only [decide_eq_true_eq, decide_eq_false_iff_not, Bool.and_eq_true, Bool.or_eq_true, Bool.and_eq_false_iff, Bool.or_eq_false_iff, Bool.not_eq_true', Bool.not_eq_false', Int.not_lt, Int.not_le] at hc)) <;> (try (exfalso; first | omega | contradiction)))))
  exact wr_tmp rfl rfl rfl
set_option maxHeartbeats 1000000 in
theorem attrs_ok (hM : Laid M w) {v : Value} {l : List Pr} (hv : SlP M v l) (hb : ∀ p ∈ l, p.1.length ≤ 100000000 ∧ p.2.length ≤ 100000000) : Calls Tryd.prog 74 #[v] w (RetE w (.bool (attrsB l))) := by
  obtain ⟨a, cap, b, o, cs, T, fz, rfl, g4, g5, g6, g7⟩ := hv.open
  refine calls_st (l := [.slice a l.length cap]) hM Tryd.func74 rfl rfl rfl (E0 := [(0, true, .slice a l.length cap)]) (params_cons rfl (params_nil _)) ?_
  repeat' (first | (first | refine wc_seq ?_ | refine wc_region ?_ | refine wl_nil ?_ | refine wn_seq ?_ | refine wn_blk ?_ | refine wc_skip ?_ | refine wc_block ?_ | refine wc_exit rfl ?_ | (show WL _ _ (_ :: _) _ _ _ _; first | refine yl_v rfl rfl rfl ?_ | refine wl_v rfl rfl rfl (by first  | fail) ?_ | refine xl_alloc (fun _ => ?_) | refine xl_store rfl rfl ?_) | refine wc_ret rfl ?_) | (show WC _ (Code.cond _ _ _) _ _ _ _; (refine wc_cond rfl (fun hc => ?_) (fun hc => ?_) <;> (try (simp only [decide_eq_true_eq, decide_eq_false_iff_not, Bool.and_eq_true, Bool.or_eq_true, Bool.and_eq_false_iff, Bool.or_eq_false_iff, Bool.not_eq_true', Bool.not_eq_false', Int.not_lt, Int.not_le] at hc)) <;> (try (exfalso; first | omega | contradiction)))))
  refine wc_loop (α := { i : Nat // i ≤ l.length ∧ ∀ j, j < i → attrOk l j = true }) (fun x => [(0, true, .slice a l.length cap), (5, true, .slice a l.length cap), (6, true, i64 (l.length : Int)), (7, true, i64 (x.1 : Int))]) (fun _ => St w [] [] M) (fun x => l.length - x.1) ⟨0, by omega, by intro j hj; omega⟩ (by first | exact Sub.nil _ | (repeat (first | exact Sub.nil _ | refine Sub.cons (by first | rfl | (simp [look]; done)) ?_))) (fun _ h => h) ?_
  rintro ⟨i, hi, hall⟩
  dsimp only
  rcases Nat.lt_or_ge i l.length with hlt | hge
  · have hne : l ≠ [] := by intro e; subst e; simp at hlt
    obtain ⟨rfl, hMb⟩ := g6 hne
    have hp3 := hb (l.getD i default) (getD_memP hlt)
    have hn2 := fun {w : World} (hw : Laid M w) => name_ok hw (l.getD i default).1 (by omega)
    have hs2 := fun {w : World} (hw : Laid M w) => shown_ok hw (l.getD i default).2 (by omega)
    have gi := g7 i hlt
    have hok : attrOk l i = (nameB (l.getD i default).1 && shwB (l.getD i default).2 && !((l.take i).any fun b => decide (b.1 = (l.getD i default).1))) := rfl
    have htk := slP_take hv hi
    generalize l.getD i default = p at *
    repeat' (first | (first | refine wc_seq ?_ | refine wc_region ?_ | refine wl_nil ?_ | refine wn_seq ?_ | refine wn_blk ?_ | refine wc_skip ?_ | refine wc_block ?_ | refine wc_exit rfl ?_ | (show WL _ _ (_ :: _) _ _ _ _; first | refine yl_v rfl rfl rfl ?_ | refine wl_v rfl rfl rfl (by first | ((show OpV _ _ _ _ (Oper.mk _ (Op.call ⟨.value (.func 73), _, _⟩) _ _ _ _) _ _; exact ov_call Tryd.call73 rfl (by intro himp; first | rfl | (simp_all; done)) (by rfl) (fun _ _ h k => h.ext k) (fun hcg w hw => hn2 hw.laid))) | ((show OpV _ _ _ _ (Oper.mk _ (Op.call ⟨.value (.func 75), _, _⟩) _ _ _ _) _ _; exact ov_call Tryd.call75 rfl (by intro himp; first | rfl | (simp_all; done)) (by rfl) (fun _ _ h k => h.ext k) (fun hcg w hw => hs2 hw.laid))) | (show OpV _ _ _ _ (Oper.mk _ (Op.indexAddr _ _ _) _ _ _ _) _ _; exact ov_indexAddr (i := i) (b := b) (o := o) rfl rfl rfl (by first | with_reducible exact fun _ => rfl | with_reducible exact fun h => h | exact fun _ => rfl | exact fun h => h | (intro himp; simp_all; done)) (by first | with_reducible exact fun _ => rfl | with_reducible exact fun h => h | exact fun _ => rfl | exact fun h => h | (intro himp; simp_all; done)) rfl (by first | exact (rfl : _ = some 1) | exact (rfl : _ = some 2) | exact (rfl : _ = some 3) | exact (rfl : _ = some 4) | exact (rfl : _ = some 6) | exact rfl) (fun _ => rfl) (by intro hcg; first | omega | (simp at hcg; omega))) | (show OpV _ _ _ _ (Oper.mk _ (Op.load _ _) _ _ _ _) _ _; exact ov_loadSM (l := [str p.1, str p.2]) rfl (by first | with_reducible exact fun _ => rfl | with_reducible exact fun h => h | exact fun _ => rfl | exact fun h => h | (intro himp; simp_all; done)) rfl (by first | exact (rfl : _ = some 1) | exact (rfl : _ = some 2) | exact (rfl : _ = some 3) | exact (rfl : _ = some 4) | exact (rfl : _ = some 6) | exact rfl) (fun _ => hMb) (fun _ => pcell2 gi)) | fail) ?_ | refine xl_alloc (fun _ => ?_) | refine xl_store rfl rfl ?_) | refine wc_ret rfl ?_) | (show WC _ (Code.cond _ _ _) _ _ _ _; (refine wc_cond rfl (fun hc => ?_) (fun hc => ?_) <;> (try (simp only [decide_eq_true_eq, decide_eq_false_iff_not, Bool.and_eq_true, Bool.or_eq_true, Bool.and_eq_false_iff, Bool.or_eq_false_iff, Bool.not_eq_true', Bool.not_eq_false', Int.not_lt, Int.not_le] at hc)) <;> (try (exfalso; first | omega | contradiction)))))
    rename_i b4
    refine wl_publish (H1 := [(b4, .cells [str p.1, str p.2].toArray 57 (0, 0))]) (fun _ => ?_)
    have hm4 : With M [(b4, .cells [str p.1, str p.2].toArray 57 (0, 0))] b4 (.cells #[str p.1, str p.2] 57 (0, 0)) := .inr (List.Mem.head _)
    have htk4 : SlP (With M [(b4, .cells [str p.1, str p.2].toArray 57 (0, 0))]) (.slice (some ⟨b, o, none⟩) i cap) (l.take i) := Sl.mono htk (fun _ _ => .inl) (fun _ _ _ h => h)
    have hcf := fun {w : World} (h : Laid (With M [(b4, .cells [str p.1, str p.2].toArray 57 (0, 0))]) w) => cfunc_ok h htk4 (fun x => decide (x.1 = p.1)) 87 [] [.pointer (some ⟨b4, 0, none⟩)] Tryd.call87 (fun x w hL => atFn_ok hL hm4 x)
    repeat' (first | (first | refine wc_seq ?_ | refine wc_region ?_ | refine wl_nil ?_ | refine wn_seq ?_ | refine wn_blk ?_ | refine wc_skip ?_ | refine wc_block ?_ | refine wc_exit rfl ?_ | (show WL _ _ (_ :: _) _ _ _ _; first | refine yl_v rfl rfl rfl ?_ | refine wl_v rfl rfl rfl (by first | ((show OpV _ _ _ _ (Oper.mk _ (Op.call ⟨.value (.func 86), _, _⟩) _ _ _ _) _ _; exact ov_call Tryd.call86 rfl (by intro himp; first | rfl | (simp_all; done)) (by rfl) (fun _ _ h k => h.ext k) (fun hcg w hw => hcf hw.laid))) | fail) ?_ | refine xl_alloc (fun _ => ?_) | refine xl_store rfl rfl ?_) | refine wc_ret rfl ?_) | (show WC _ (Code.cond _ _ _) _ _ _ _; (refine wc_cond rfl (fun hc => ?_) (fun hc => ?_) <;> (try (simp only [decide_eq_true_eq, decide_eq_false_iff_not, Bool.and_eq_true, Bool.or_eq_true, Bool.and_eq_false_iff, Bool.or_eq_false_iff, Bool.not_eq_true', Bool.not_eq_false', Int.not_lt, Int.not_le] at hc)) <;> (try (exfalso; first | omega | contradiction)))))
    · have hbad : attrOk l i = false := by
        rw [hok]
        rcases hc with (h | h) | h <;> rw [h] <;> simp
      exact wr_tmp rfl rfl (by rw [attrs_lt hlt hbad])
    · refine wn_cut ⟨i + 1, by omega, ?_⟩ (by show l.length - (i + 1) < l.length - i; omega) (by first | exact Sub.nil _ | (repeat (first | exact Sub.nil _ | refine Sub.cons (by first | rfl | (simp [look]; done)) ?_))) (fun _ h => St.less h (fun _ _ => .inl))
      have hgood : attrOk l i = true := by rw [hok, hc.1.1, hc.1.2, hc.2]; rfl
      intro j hj
      by_cases h : j = i
      · subst h; exact hgood
      · exact hall j (by omega)
  · obtain rfl : i = l.length := by omega
    rw [attrs_all hall]
    repeat' (first | (first | refine wc_seq ?_ | refine wc_region ?_ | refine wl_nil ?_ | refine wn_seq ?_ | refine wn_blk ?_ | refine wc_skip ?_ | refine wc_block ?_ | refine wc_exit rfl ?_ | (show WL _ _ (_ :: _) _ _ _ _; first | refine yl_v rfl rfl rfl ?_ | refine wl_v rfl rfl rfl (by first  | fail) ?_ | refine xl_alloc (fun _ => ?_) | refine xl_store rfl rfl ?_) | refine wc_ret rfl ?_) | (show WC _ (Code.cond _ _ _) _ _ _ _; (refine wc_cond rfl (fun hc => ?_) (fun hc => ?_) <;> (try (simp only [decide_eq_true_eq, decide_eq_false_iff_not, Bool.and_eq_true, Bool.or_eq_true, Bool.and_eq_false_iff, Bool.or_eq_false_iff, Bool.not_eq_true', Bool.not_eq_false', Int.not_lt, Int.not_le] at hc)) <;> (try (exfalso; first | omega | contradiction)))))
    exact wr_tmp rfl rfl rfl
theorem node_open {D : Nat} {x : Nd} {vs : List Value} (h : NodeC M D x vs) : ∃ n a1 l1 c1 t a2 l2 c2, vs = [str n, .slice a1 l1 c1, str t, .slice a2 l2 c2] := by
  match D, x, h with
  | D + 1, .mk n at' t k, h =>
    obtain ⟨va, vk, rfl, ⟨a1, c1, rfl, _⟩, ⟨a2, c2, rfl, _⟩, _⟩ := h
    exact ⟨_, _, _, _, _, _, _, _, rfl⟩
theorem wrl_tmp {n : Nat} {E : Env} {C C' : World → Prop} {fn : Func} {t : Nat} {v v' : Value} (hr : fn.results = #[.tmp t]) (ht : Eng.look E t = some (true, v')) (hv : v' = v) (hC : ∀ w, C w → C' w) : WR n E C (bodyPost Tryd.prog fn (RetC C' v)) := ⟨fun a w ha hw => by
  refine bodyPost_ret (v := v) ?_ ha.defers ⟨rfl, hC _ hw⟩
  have h1 := ha.reads t true v' ht
  rw [results_tmp hr]
  simp [h1, hv]⟩
/-- the cell of a number -/
def intO (z : Int) : Obj := .cells [i64 z].toArray 3 (0, 0)
set_option maxHeartbeats 1000000 in
theorem fits_ok : ∀ {D : Nat} {x : Nd} {vs : List Value}, NodeC M D x vs → ∀ {w0 w : World} {H : List (Nat × Obj)} {bl : Nat} {deep left : Int}, St w0 [] ((bl, intO left) :: H) M w → -1000 ≤ left → left ≤ 1000 → 0 ≤ deep → deep ≤ 10 → Calls Tryd.prog 62 #[.agg vs.toArray, i64 deep, .pointer (some ⟨bl, 0, none⟩)] w (RetC (St w0 [] ((bl, intO (fitsN x deep left).2) :: H) M) (.bool (fitsN x deep left).1))
  | 0, _, _, h => h.elim
  | D + 1, .mk n at' t k, vs, hx => by
    intro hw hl1 hl2 hd1 hd2
    rename_i w0 w H bl deep left
    obtain ⟨va, vk, rfl, ha, h3, hb1, hb2, hb3⟩ := hx
    obtain ⟨a, cap, b, o, cs, T, fz, rfl, h4, h5, h6, h7⟩ := Sl.open h3
    have hnm := fun {w : World} (hw : Laid M w) => name_ok hw n (by omega)
    have hat := fun {w : World} (hw : Laid M w) => attrs_ok hw ha hb3
    have hsh := fun {w : World} (hw : Laid M w) => shown_ok hw t (by omega)
    rw [fitsN]
    refine calls_lent (C := St w0 [] ((bl, intO left) :: H) M) (l := [.agg [str n, va, str t, .slice a k.length cap].toArray, i64 deep, .pointer (some ⟨bl, 0, none⟩)]) hw Tryd.func62 rfl rfl rfl (E0 := [(0, true, .agg [str n, va, str t, .slice a k.length cap].toArray), (1, true, i64 deep), (2, true, .pointer (some ⟨bl, 0, none⟩))]) (params_cons rfl (params_cons rfl (params_cons rfl (params_nil _)))) ?_
    clear hw
    unfold intO
    repeat' (first | (first | refine wc_seq ?_ | refine wc_region ?_ | refine wl_nil ?_ | refine wn_seq ?_ | refine wn_blk ?_ | refine wc_skip ?_ | refine wc_scope ?_ | refine wc_label ?_ | refine wn_noGoto ?_ | refine wc_block ?_ | refine wc_exit rfl ?_ | (show WL _ _ (_ :: _) _ _ _ _; first | refine yl_v rfl rfl rfl ?_ | refine wl_v rfl rfl rfl (by first | ((show OpV _ _ _ _ (Oper.mk _ (Op.call ⟨.value (.func 73), _, _⟩) _ _ _ _) _ _; exact ov_call Tryd.call73 rfl (by intro himp; first | rfl | (simp_all; done)) (by rfl) (fun _ _ h k => h.ext k) (fun hcg w hw => hnm hw.laid))) | ((show OpV _ _ _ _ (Oper.mk _ (Op.call ⟨.value (.func 74), _, _⟩) _ _ _ _) _ _; exact ov_call Tryd.call74 rfl (by intro himp; first | rfl | (simp_all; done)) (by rfl) (fun _ _ h k => h.ext k) (fun hcg w hw => hat hw.laid))) | ((show OpV _ _ _ _ (Oper.mk _ (Op.call ⟨.value (.func 75), _, _⟩) _ _ _ _) _ _; exact ov_call Tryd.call75 rfl (by intro himp; first | rfl | (simp_all; done)) (by rfl) (fun _ _ h k => h.ext k) (fun hcg w hw => hsh hw.laid))) | fail) ?_ | refine xl_alloc (fun _ => ?_) | refine xl_box rfl (fun _ => ?_) | refine xl_store rfl rfl ?_ | refine xl_buildSlice rfl (fun _ => ?_) | refine wl_makeMap rfl rfl (fun _ => ?_) | refine wl_insert rfl rfl rfl rfl rfl rfl (by first | exact rfl | exact trivial) (by first | exact Upd.here | exact Upd.there Upd.here | exact Upd.there (Upd.there Upd.here) | exact Upd.there (Upd.there (Upd.there Upd.here)) | exact Upd.there (Upd.there (Upd.there (Upd.there Upd.here))) | exact Upd.app _ (Upd.here) | exact Upd.app _ (Upd.there Upd.here) | exact Upd.app _ (Upd.there (Upd.there Upd.here)) | exact Upd.app _ (Upd.there (Upd.there (Upd.there Upd.here))) | exact Upd.there (Upd.app _ (Upd.here)) | exact Upd.there (Upd.app _ (Upd.there Upd.here)) | exact Upd.there (Upd.app _ (Upd.there (Upd.there Upd.here))) | exact Upd.there (Upd.app _ (Upd.there (Upd.there (Upd.there Upd.here)))) | exact Upd.there (Upd.there (Upd.app _ (Upd.here))) | exact Upd.there (Upd.there (Upd.app _ (Upd.there Upd.here))) | exact Upd.there (Upd.there (Upd.app _ (Upd.there (Upd.there Upd.here))))) (by rfl) ?_) | refine wc_ret rfl ?_) | (show WC _ (Code.cond _ _ _) _ _ _ _; (refine wc_cond rfl (fun hc => ?_) (fun hc => ?_) <;> (try (simp only [decide_eq_true_eq, decide_eq_false_iff_not, Bool.and_eq_true, Bool.or_eq_true, Bool.and_eq_false_iff, Bool.or_eq_false_iff, Bool.not_eq_true', Bool.not_eq_false', Int.not_lt, Int.not_le] at hc)) <;> (try (exfalso; first | omega | contradiction)))))
    · rw [if_pos hc]
      exact wrl_tmp rfl rfl rfl (fun _ h => h.drop (List.Sublist.cons _ (List.Sublist.refl _)))
    rw [if_neg (by
      rintro (((((h | h) | h) | h) | h) | ⟨h, h'⟩)
      · omega
      · omega
      · rw [hc.1.1.1.2] at h; cases h
      · rw [hc.1.1.2] at h; cases h
      · rw [hc.1.2] at h; cases h
      · rcases hc.2 with e | e
        · exact h e
        · omega)]
    have hd8 : deep ≤ 8 ∧ 0 ≤ left - 1 := hc.1.1.1.1
    clear hc
    rename_i b3
    refine wc_loop (α := { x : Nat × Int // x.1 ≤ k.length ∧ 0 ≤ x.2 ∧ x.2 ≤ 1000 ∧ fitsL k (deep + 1) (left - 1) = fitsL (k.drop x.1) (deep + 1) x.2 }) (fun x => [(1, true, i64 deep), (2, true, .pointer (some ⟨bl, 0, none⟩)), (52, true, .slice a k.length cap), (53, true, i64 (k.length : Int)), (54, true, i64 (x.1.1 : Int))]) (fun x => St w0 [] ((b3, .cells [str n, va, str t, .slice a k.length cap].toArray 35 (0, 0)) :: (bl, .cells [i64 x.1.2].toArray 3 (0, 0)) :: H) M) (fun x => k.length - x.1.1) ⟨(0, left - 1), by omega, by omega, by omega, rfl⟩ (by first | exact Sub.nil _ | (repeat (first | exact Sub.nil _ | refine Sub.cons (by first | rfl | (simp [look]; done)) ?_))) (fun _ h => h) ?_
    rintro ⟨⟨i, cur⟩, hi, hcur, hcur2, hinv⟩
    dsimp only at hi hcur hcur2 hinv ⊢
    rcases Nat.lt_or_ge i k.length with hlt | hge
    · have hdr : k.drop i = k[i] :: k.drop (i + 1) := List.drop_eq_getElem_cons hlt
      obtain ⟨us, hu4, hus, hcells⟩ := h7 i hlt
      obtain ⟨un, ua1, ul1, uc1, ut, ua2, ul2, uc2, rfl⟩ := node_open hus
      have hne : k ≠ [] := by intro e; subst e; simp at hlt
      obtain ⟨rfl, hMb⟩ := h6 hne
      obtain ⟨f1, f2, f3⟩ := fitsN_iff k[i] (deep + 1) cur
      have ih := fun {w : World} {H : List (Nat × Obj)} (hw : St w0 [] ((bl, intO cur) :: H) M w) => fits_ok hus hw (deep := deep + 1) (by omega) (by omega) (by omega) (by omega)
      rw [hdr, fitsL] at hinv
      generalize k[i] = y at *
      generalize fitsN y (deep + 1) cur = r at *
      obtain ⟨rb, rl⟩ := r
      dsimp only at f1 f2 f3 hinv ih
      repeat' (first | (first | refine wc_seq ?_ | refine wc_region ?_ | refine wl_nil ?_ | refine wn_seq ?_ | refine wn_blk ?_ | refine wc_skip ?_ | refine wc_scope ?_ | refine wc_label ?_ | refine wn_noGoto ?_ | refine wc_block ?_ | refine wc_exit rfl ?_ | (show WL _ _ (_ :: _) _ _ _ _; first | refine yl_v rfl rfl rfl ?_ | refine wl_v rfl rfl rfl (by first | (show OpV _ _ _ _ (Oper.mk _ (Op.indexAddr _ _ _) _ _ _ _) _ _; exact ov_indexAddr (i := i) (b := b) (o := o) rfl rfl rfl (by first | with_reducible exact fun _ => rfl | with_reducible exact fun h => h | exact fun _ => rfl | exact fun h => h | (intro himp; simp_all; done)) (by first | with_reducible exact fun _ => rfl | with_reducible exact fun h => h | exact fun _ => rfl | exact fun h => h | (intro himp; simp_all; done)) rfl (by first | exact (rfl : _ = some 1) | exact (rfl : _ = some 2) | exact (rfl : _ = some 3) | exact (rfl : _ = some 4) | exact (rfl : _ = some 6) | exact rfl) (fun _ => rfl) (by intro hcg; first | omega | (simp at hcg; omega))) | (show OpV _ _ _ _ (Oper.mk _ (Op.load _ _) _ _ _ _) _ _; exact ov_loadSM (l := [str un, .slice ua1 ul1 uc1, str ut, .slice ua2 ul2 uc2]) rfl (by first | with_reducible exact fun _ => rfl | with_reducible exact fun h => h | exact fun _ => rfl | exact fun h => h | (intro himp; simp_all; done)) rfl (by first | exact (rfl : _ = some 1) | exact (rfl : _ = some 2) | exact (rfl : _ = some 3) | exact (rfl : _ = some 4) | exact (rfl : _ = some 6) | exact rfl) (fun _ => hMb) (fun _ j hj => hcells j hj)) | fail) ?_ | refine xl_alloc (fun _ => ?_) | refine xl_box rfl (fun _ => ?_) | refine xl_store rfl rfl ?_ | refine xl_buildSlice rfl (fun _ => ?_) | refine wl_makeMap rfl rfl (fun _ => ?_) | refine wl_insert rfl rfl rfl rfl rfl rfl (by first | exact rfl | exact trivial) (by first | exact Upd.here | exact Upd.there Upd.here | exact Upd.there (Upd.there Upd.here) | exact Upd.there (Upd.there (Upd.there Upd.here)) | exact Upd.there (Upd.there (Upd.there (Upd.there Upd.here))) | exact Upd.app _ (Upd.here) | exact Upd.app _ (Upd.there Upd.here) | exact Upd.app _ (Upd.there (Upd.there Upd.here)) | exact Upd.app _ (Upd.there (Upd.there (Upd.there Upd.here))) | exact Upd.there (Upd.app _ (Upd.here)) | exact Upd.there (Upd.app _ (Upd.there Upd.here)) | exact Upd.there (Upd.app _ (Upd.there (Upd.there Upd.here))) | exact Upd.there (Upd.app _ (Upd.there (Upd.there (Upd.there Upd.here)))) | exact Upd.there (Upd.there (Upd.app _ (Upd.here))) | exact Upd.there (Upd.there (Upd.app _ (Upd.there Upd.here))) | exact Upd.there (Upd.there (Upd.app _ (Upd.there (Upd.there Upd.here))))) (by rfl) ?_) | refine wc_ret rfl ?_) | (show WC _ (Code.cond _ _ _) _ _ _ _; (refine wc_cond rfl (fun hc => ?_) (fun hc => ?_) <;> (try (simp only [decide_eq_true_eq, decide_eq_false_iff_not, Bool.and_eq_true, Bool.or_eq_true, Bool.and_eq_false_iff, Bool.or_eq_false_iff, Bool.not_eq_true', Bool.not_eq_false', Int.not_lt, Int.not_le] at hc)) <;> (try (exfalso; first | omega | contradiction)))))
      rename_i b8
      refine wl_weak (C' := St w0 [] ((bl, intO cur) :: (b8, .cells [str un, .slice ua1 ul1 uc1, str ut, .slice ua2 ul2 uc2].toArray 35 (0, 0)) :: (b3, .cells [str n, va, str t, .slice (some ⟨b, o, none⟩) k.length cap].toArray 35 (0, 0)) :: H) M) (Eng.Sub.refl _) (fun _ h => h.perm ((List.Perm.swap _ _ _).trans (List.Perm.cons _ (List.Perm.swap _ _ _)))) ?_
      refine wl_callL rfl Tryd.call62 rfl rfl rfl rfl (fun w hw => ih hw) ?_
      cases rb with
      | false =>
        rw [if_neg (by decide)] at hinv
        repeat' (first | (first | refine wc_seq ?_ | refine wc_region ?_ | refine wl_nil ?_ | refine wn_seq ?_ | refine wn_blk ?_ | refine wc_skip ?_ | refine wc_scope ?_ | refine wc_label ?_ | refine wn_noGoto ?_ | refine wc_block ?_ | refine wc_exit rfl ?_ | (show WL _ _ (_ :: _) _ _ _ _; first | refine yl_v rfl rfl rfl ?_ | refine wl_v rfl rfl rfl (by first  | fail) ?_ | refine xl_alloc (fun _ => ?_) | refine xl_box rfl (fun _ => ?_) | refine xl_store rfl rfl ?_ | refine xl_buildSlice rfl (fun _ => ?_) | refine wl_makeMap rfl rfl (fun _ => ?_) | refine wl_insert rfl rfl rfl rfl rfl rfl (by first | exact rfl | exact trivial) (by first | exact Upd.here | exact Upd.there Upd.here | exact Upd.there (Upd.there Upd.here) | exact Upd.there (Upd.there (Upd.there Upd.here)) | exact Upd.there (Upd.there (Upd.there (Upd.there Upd.here))) | exact Upd.app _ (Upd.here) | exact Upd.app _ (Upd.there Upd.here) | exact Upd.app _ (Upd.there (Upd.there Upd.here)) | exact Upd.app _ (Upd.there (Upd.there (Upd.there Upd.here))) | exact Upd.there (Upd.app _ (Upd.here)) | exact Upd.there (Upd.app _ (Upd.there Upd.here)) | exact Upd.there (Upd.app _ (Upd.there (Upd.there Upd.here))) | exact Upd.there (Upd.app _ (Upd.there (Upd.there (Upd.there Upd.here)))) | exact Upd.there (Upd.there (Upd.app _ (Upd.here))) | exact Upd.there (Upd.there (Upd.app _ (Upd.there Upd.here))) | exact Upd.there (Upd.there (Upd.app _ (Upd.there (Upd.there Upd.here))))) (by rfl) ?_) | refine wc_ret rfl ?_) | (show WC _ (Code.cond _ _ _) _ _ _ _; (refine wc_cond rfl (fun hc => ?_) (fun hc => ?_) <;> (try (simp only [decide_eq_true_eq, decide_eq_false_iff_not, Bool.and_eq_true, Bool.or_eq_true, Bool.and_eq_false_iff, Bool.or_eq_false_iff, Bool.not_eq_true', Bool.not_eq_false', Int.not_lt, Int.not_le] at hc)) <;> (try (exfalso; first | omega | contradiction)))))
        exact wrl_tmp rfl rfl (by rw [hinv]) (fun _ h => by rw [hinv]; exact h.drop (List.Sublist.cons_cons _ (List.Sublist.cons _ (List.Sublist.cons _ (List.Sublist.refl _)))))
      | true =>
        rw [if_pos rfl] at hinv
        have f4 := f2 rfl
        have f5 := (f1.1 rfl).2.1
        repeat' (first | (first | refine wc_seq ?_ | refine wc_region ?_ | refine wl_nil ?_ | refine wn_seq ?_ | refine wn_blk ?_ | refine wc_skip ?_ | refine wc_scope ?_ | refine wc_label ?_ | refine wn_noGoto ?_ | refine wc_block ?_ | refine wc_exit rfl ?_ | (show WL _ _ (_ :: _) _ _ _ _; first | refine yl_v rfl rfl rfl ?_ | refine wl_v rfl rfl rfl (by first  | fail) ?_ | refine xl_alloc (fun _ => ?_) | refine xl_box rfl (fun _ => ?_) | refine xl_store rfl rfl ?_ | refine xl_buildSlice rfl (fun _ => ?_) | refine wl_makeMap rfl rfl (fun _ => ?_) | refine wl_insert rfl rfl rfl rfl rfl rfl (by first | exact rfl | exact trivial) (by first | exact Upd.here | exact Upd.there Upd.here | exact Upd.there (Upd.there Upd.here) | exact Upd.there (Upd.there (Upd.there Upd.here)) | exact Upd.there (Upd.there (Upd.there (Upd.there Upd.here))) | exact Upd.app _ (Upd.here) | exact Upd.app _ (Upd.there Upd.here) | exact Upd.app _ (Upd.there (Upd.there Upd.here)) | exact Upd.app _ (Upd.there (Upd.there (Upd.there Upd.here))) | exact Upd.there (Upd.app _ (Upd.here)) | exact Upd.there (Upd.app _ (Upd.there Upd.here)) | exact Upd.there (Upd.app _ (Upd.there (Upd.there Upd.here))) | exact Upd.there (Upd.app _ (Upd.there (Upd.there (Upd.there Upd.here)))) | exact Upd.there (Upd.there (Upd.app _ (Upd.here))) | exact Upd.there (Upd.there (Upd.app _ (Upd.there Upd.here))) | exact Upd.there (Upd.there (Upd.app _ (Upd.there (Upd.there Upd.here))))) (by rfl) ?_) | refine wc_ret rfl ?_) | (show WC _ (Code.cond _ _ _) _ _ _ _; (refine wc_cond rfl (fun hc => ?_) (fun hc => ?_) <;> (try (simp only [decide_eq_true_eq, decide_eq_false_iff_not, Bool.and_eq_true, Bool.or_eq_true, Bool.and_eq_false_iff, Bool.or_eq_false_iff, Bool.not_eq_true', Bool.not_eq_false', Int.not_lt, Int.not_le] at hc)) <;> (try (exfalso; first | omega | contradiction)))))
        exact wn_cut ⟨(i + 1, rl), by omega, by omega, by omega, hinv⟩ (by show k.length - (i + 1) < k.length - i; omega) (by first | exact Sub.nil _ | (repeat (first | exact Sub.nil _ | refine Sub.cons (by first | rfl | (simp [look]; done)) ?_))) (fun _ h => (h.drop (List.Sublist.cons_cons _ (List.Sublist.cons _ (List.Sublist.refl _)))).perm (List.Perm.swap _ _ _))
    · obtain rfl : i = k.length := by omega
      rw [List.drop_length, fitsL] at hinv
      repeat' (first | (first | refine wc_seq ?_ | refine wc_region ?_ | refine wl_nil ?_ | refine wn_seq ?_ | refine wn_blk ?_ | refine wc_skip ?_ | refine wc_scope ?_ | refine wc_label ?_ | refine wn_noGoto ?_ | refine wc_block ?_ | refine wc_exit rfl ?_ | (show WL _ _ (_ :: _) _ _ _ _; first | refine yl_v rfl rfl rfl ?_ | refine wl_v rfl rfl rfl (by first  | fail) ?_ | refine xl_alloc (fun _ => ?_) | refine xl_box rfl (fun _ => ?_) | refine xl_store rfl rfl ?_ | refine xl_buildSlice rfl (fun _ => ?_) | refine wl_makeMap rfl rfl (fun _ => ?_) | refine wl_insert rfl rfl rfl rfl rfl rfl (by first | exact rfl | exact trivial) (by first | exact Upd.here | exact Upd.there Upd.here | exact Upd.there (Upd.there Upd.here) | exact Upd.there (Upd.there (Upd.there Upd.here)) | exact Upd.there (Upd.there (Upd.there (Upd.there Upd.here))) | exact Upd.app _ (Upd.here) | exact Upd.app _ (Upd.there Upd.here) | exact Upd.app _ (Upd.there (Upd.there Upd.here)) | exact Upd.app _ (Upd.there (Upd.there (Upd.there Upd.here))) | exact Upd.there (Upd.app _ (Upd.here)) | exact Upd.there (Upd.app _ (Upd.there Upd.here)) | exact Upd.there (Upd.app _ (Upd.there (Upd.there Upd.here))) | exact Upd.there (Upd.app _ (Upd.there (Upd.there (Upd.there Upd.here)))) | exact Upd.there (Upd.there (Upd.app _ (Upd.here))) | exact Upd.there (Upd.there (Upd.app _ (Upd.there Upd.here))) | exact Upd.there (Upd.there (Upd.app _ (Upd.there (Upd.there Upd.here))))) (by rfl) ?_) | refine wc_ret rfl ?_) | (show WC _ (Code.cond _ _ _) _ _ _ _; (refine wc_cond rfl (fun hc => ?_) (fun hc => ?_) <;> (try (simp only [decide_eq_true_eq, decide_eq_false_iff_not, Bool.and_eq_true, Bool.or_eq_true, Bool.and_eq_false_iff, Bool.or_eq_false_iff, Bool.not_eq_true', Bool.not_eq_false', Int.not_lt, Int.not_le] at hc)) <;> (try (exfalso; first | omega | contradiction)))))
      exact wrl_tmp rfl rfl (by rw [hinv]) (fun _ h => by rw [hinv]; exact h.drop (List.Sublist.cons _ (List.Sublist.refl _)))
theorem right_ok (hM : Laid M w) {D : Nat} {x : Nd} {vs : List Value} (h : NodeC M D x vs) : Calls Tryd.prog 48 #[.agg vs.toArray] w (RetE w (.bool (rightN x))) := by
  obtain ⟨un, ua1, ul1, uc1, ut, ua2, ul2, uc2, rfl⟩ := node_open h
  have hf := fun {w0 w : World} {H : List (Nat × Obj)} {b : Nat} (hw : St w0 [] ((b, intO 200) :: H) M w) => fits_ok h hw (deep := 1) (by omega) (by omega) (by omega) (by omega)
  rw [← fits_right]
  generalize fitsN x 1 200 = r at *
  refine calls_st (l := [.agg [str un, .slice ua1 ul1 uc1, str ut, .slice ua2 ul2 uc2].toArray]) hM Tryd.func48 rfl rfl rfl (E0 := [(0, true, .agg [str un, .slice ua1 ul1 uc1, str ut, .slice ua2 ul2 uc2].toArray)]) (params_cons rfl (params_nil _)) ?_
  repeat' (first | (first | refine wc_seq ?_ | refine wc_region ?_ | refine wl_nil ?_ | refine wn_seq ?_ | refine wn_blk ?_ | refine wc_skip ?_ | refine wc_block ?_ | refine wc_exit rfl ?_ | (show WL _ _ (_ :: _) _ _ _ _; first | refine yl_v rfl rfl rfl ?_ | refine wl_v rfl rfl rfl (by first  | fail) ?_ | refine xl_alloc (fun _ => ?_) | refine xl_box rfl (fun _ => ?_) | refine xl_store rfl rfl ?_) | refine wc_ret rfl ?_) | (show WC _ (Code.cond _ _ _) _ _ _ _; (refine wc_cond rfl (fun hc => ?_) (fun hc => ?_) <;> (try (simp only [decide_eq_true_eq, decide_eq_false_iff_not, Bool.and_eq_true, Bool.or_eq_true, Bool.and_eq_false_iff, Bool.or_eq_false_iff, Bool.not_eq_true', Bool.not_eq_false', Int.not_lt, Int.not_le] at hc)) <;> (try (exfalso; first | omega | contradiction)))))
  refine wl_callL rfl Tryd.call62 rfl rfl rfl rfl (fun w hw => hf hw) ?_
  repeat' (first | (first | refine wc_seq ?_ | refine wc_region ?_ | refine wl_nil ?_ | refine wn_seq ?_ | refine wn_blk ?_ | refine wc_skip ?_ | refine wc_block ?_ | refine wc_exit rfl ?_ | (show WL _ _ (_ :: _) _ _ _ _; first | refine yl_v rfl rfl rfl ?_ | refine wl_v rfl rfl rfl (by first  | fail) ?_ | refine xl_alloc (fun _ => ?_) | refine xl_box rfl (fun _ => ?_) | refine xl_store rfl rfl ?_) | refine wc_ret rfl ?_) | (show WC _ (Code.cond _ _ _) _ _ _ _; (refine wc_cond rfl (fun hc => ?_) (fun hc => ?_) <;> (try (simp only [decide_eq_true_eq, decide_eq_false_iff_not, Bool.and_eq_true, Bool.or_eq_true, Bool.and_eq_false_iff, Bool.or_eq_false_iff, Bool.not_eq_true', Bool.not_eq_false', Int.not_lt, Int.not_le] at hc)) <;> (try (exfalso; first | omega | contradiction)))))
  exact wr_weak (fun _ h => h.drop (List.nil_sublist _)) (wr_tmp rfl rfl rfl)
end Go.Proofs.YtgfbieplidpebaaDoor
/-
  Elements written: put, Write.
-/
namespace Go.Proofs.YtgfbieplidpebaaDoor
open Go.Eng Go.Pct Go.Xml Go.Rsp
set_option maxRecDepth 10000
set_option linter.unusedSimpArgs false
set_option linter.unusedVariables false

section
variable {P : Program} {n : Nat} {E : Env} {k : Kont} {ops : Array Oper} {rest : List Oper} {cg : Bool}
variable {dst : Option Tmp} {ty : TypeId} {pos : String} {af : Array Edge} {g : Option (Nat × Bool)}
variable {w0 : World} {H : List (Nat × Obj)} {M : Ghost} {b : Nat} {s : List UInt8} {x : Operand}
theorem wl_boxB {T : TypeId} {v : Value} {d : Nat} {l : List Value} (hg : gd ops E g = some true) (hx : ev E x = some (true, v)) (hd : Nat.blt d n = true) (hl : v.cells.toList = l) (hT : T ≠ tY)
    (h : ∀ c, WL P ops rest n ((d, true, .pointer (some ⟨c, 0, none⟩)) :: E) (SB w0 ((c, .cells l.toArray T (0, 0)) :: H) M b s) k) :
    WL P ops (⟨some d, .box T x, ty, pos, af, g⟩ :: rest) n E (SB w0 H M b s) k := by
  have hd : d < n := by simpa [Nat.blt_eq] using hd
  refine wl_op hg fun a w ha hw => ?_
  subst hl
  unfold Oper.wp
  have : (execOp a.eval ⟨some d, .box T x, ty, pos, af, g⟩).run P w = .ok (.value (.pointer (some ⟨w.heap.size, 0, none⟩))) { w with heap := w.heap.push (.cells v.cells T (0, 0)) } := by
    simp [execOp, ha.eval hx, Instr.box, newVar, run_newRow]
  rw [this, Oper.upon_value]
  exact (h _).run _ _ (ha.put hd rfl) (hw.alloc _ (fun c fz e => hT (by injection e)))
theorem SB.drop {w : World} {H' : List (Nat × Obj)} (h : SB w0 H M b s w) (hs : List.Sublist H' H) : SB w0 H' M b s w := ⟨h.st.drop hs, h.bd, fun p hp => h.ne p (hs.subset hp), h.nm⟩
theorem wnl_none {fn : Func} {C C' : World → Prop} (hr : fn.results = #[]) (hC : ∀ w, C w → C' w) : WN P n E C (.fin (bodyPost P fn (RetC C' (.tuple #[])))) :=
  ⟨fun a w ha hw => ⟨ha.defers, _, results_none hr _ _ _, rfl, hC _ hw⟩⟩
end
theorem attrT_take (a : List Pr) (i : Nat) : attrT (a.take i) ++ attrT (a.drop i) = attrT a := by
  unfold attrT; rw [← List.flatMap_append, List.take_append_drop]
theorem attrT_succ {a : List Pr} {i : Nat} (h : i < a.length) : attrT (a.take (i + 1)) = attrT (a.take i) ++ ([32] ++ (a.getD i default).1 ++ [61, 34] ++ esc (a.getD i default).2 ++ [34]) := by
  unfold attrT
  rw [List.take_succ_eq_append_getElem h, List.flatMap_append]
  have e : a.getD i default = a[i] := by simp [h]
  rw [e]; simp
theorem textL_append (k l : List Nd) : textL (k ++ l) = textL k ++ textL l := by
  induction k with
  | nil => simp [textL]
  | cons x k ih => rw [List.cons_append, textL, textL, ih, List.append_assoc]
theorem textL_take (k : List Nd) (i : Nat) : textL (k.take i) ++ textL (k.drop i) = textL k := by
  rw [← textL_append, List.take_append_drop]

variable {M : Ghost} {w : World}
set_option maxHeartbeats 2000000 in
theorem put_ok (hG : Glob M) : ∀ {D : Nat} {x : Nd} {vs : List Value}, NodeC M D x vs → ∀ {w0 w : World} {H : List (Nat × Obj)} {b : Nat} {l : List UInt8}, SB w0 H M b l w → l.length + (textN x).length ≤ 10000000000000 → Calls Tryd.prog 64 #[.pointer (some ⟨b, 0, none⟩), .agg vs.toArray] w (RetC (SB w0 H M b (l ++ textN x)) (.tuple #[]))
  | 0, _, _, h => h.elim
  | D + 1, .mk n at' t k, vs, hx => by
    intro hw hlen
    rename_i w0 w H b l
    obtain ⟨va, vk, rfl, ha, h3, hb1, hb2, hb3⟩ := hx
    obtain ⟨a, cap, c, o, cs, T, fz, rfl, h4, h5, h6, h7⟩ := Sl.open h3
    obtain ⟨a', cap', c', o', cs', T', fz', rfl, g4, g5, g6, g7⟩ := ha.open
    have het := fun {w : World} (hw : Laid M w) => escape_ok hG hw t (by omega)
    rw [textN] at hlen ⊢
    simp only [List.length_append, List.length_cons, List.length_nil] at hlen
    refine calls_lent (C := SB w0 H M b l) (l := [.pointer (some ⟨b, 0, none⟩), .agg [str n, .slice a' at'.length cap', str t, .slice a k.length cap].toArray]) hw Tryd.func64 rfl rfl rfl (E0 := [(0, true, .pointer (some ⟨b, 0, none⟩)), (1, true, .agg [str n, .slice a' at'.length cap', str t, .slice a k.length cap].toArray)]) (params_cons rfl (params_cons rfl (params_nil _))) ?_
    clear hw
    repeat' (first | (first | (show WL _ _ (Oper.mk _ (Op.call ⟨.value (.func 70), _, _⟩) _ _ _ _ :: _) _ _ _ _; refine wl_callC rfl Tryd.call70 rfl rfl rfl rfl (fun w hw => bwString hw _ (by first | omega | (simp only [List.length_append, List.length_take, List.length_drop, List.length_cons, List.length_nil, List.length_nil]; omega)) (by first | omega | (simp only [List.length_append, List.length_take, List.length_drop, List.length_cons, List.length_nil, List.length_nil]; omega))) ?_) | (show WL _ _ (Oper.mk _ (Op.call ⟨.value (.func 65), _, _⟩) _ _ _ _ :: _) _ _ _ _; refine wl_callC rfl Tryd.call65 rfl rfl rfl rfl (fun w hw => bsString hw) ?_) ) | (first | refine wc_seq ?_ | refine wc_region ?_ | refine wl_nil ?_ | refine wn_seq ?_ | refine wn_blk ?_ | refine wc_skip ?_ | refine wc_scope ?_ | refine wc_label ?_ | refine wn_noGoto ?_ | refine wc_block ?_ | refine wc_exit rfl ?_ | (show WL _ _ (_ :: _) _ _ _ _; first | refine yl_v rfl rfl rfl ?_ | refine wl_v rfl rfl rfl (by first  | fail) ?_ | refine xl_alloc (fun _ => ?_) | refine xl_box rfl (fun _ => ?_) | refine xl_store rfl rfl ?_ | refine xl_buildSlice rfl (fun _ => ?_) | refine wl_makeMap rfl rfl (fun _ => ?_) | refine wl_insert rfl rfl rfl rfl rfl rfl (by first | exact rfl | exact trivial) (by first | exact Upd.here | exact Upd.there Upd.here | exact Upd.there (Upd.there Upd.here) | exact Upd.there (Upd.there (Upd.there Upd.here)) | exact Upd.there (Upd.there (Upd.there (Upd.there Upd.here))) | exact Upd.app _ (Upd.here) | exact Upd.app _ (Upd.there Upd.here) | exact Upd.app _ (Upd.there (Upd.there Upd.here)) | exact Upd.app _ (Upd.there (Upd.there (Upd.there Upd.here))) | exact Upd.there (Upd.app _ (Upd.here)) | exact Upd.there (Upd.app _ (Upd.there Upd.here)) | exact Upd.there (Upd.app _ (Upd.there (Upd.there Upd.here))) | exact Upd.there (Upd.app _ (Upd.there (Upd.there (Upd.there Upd.here)))) | exact Upd.there (Upd.there (Upd.app _ (Upd.here))) | exact Upd.there (Upd.there (Upd.app _ (Upd.there Upd.here))) | exact Upd.there (Upd.there (Upd.app _ (Upd.there (Upd.there Upd.here))))) (by rfl) ?_) | refine wc_ret rfl ?_) | (show WC _ (Code.cond _ _ _) _ _ _ _; (refine wc_cond rfl (fun hc => ?_) (fun hc => ?_) <;> (try (simp only [decide_eq_true_eq, decide_eq_false_iff_not, Bool.and_eq_true, Bool.or_eq_true, Bool.and_eq_false_iff, Bool.or_eq_false_iff, Bool.not_eq_true', Bool.not_eq_false', Int.not_lt, Int.not_le] at hc)) <;> (try (exfalso; first | omega | contradiction)))))
    refine wl_boxB rfl rfl rfl rfl (by decide) (fun b3 => ?_)
    repeat' (first | (first | (show WL _ _ (Oper.mk _ (Op.call ⟨.value (.func 70), _, _⟩) _ _ _ _ :: _) _ _ _ _; refine wl_callC rfl Tryd.call70 rfl rfl rfl rfl (fun w hw => bwString hw _ (by first | omega | (simp only [List.length_append, List.length_take, List.length_drop, List.length_cons, List.length_nil, List.length_nil]; omega)) (by first | omega | (simp only [List.length_append, List.length_take, List.length_drop, List.length_cons, List.length_nil, List.length_nil]; omega))) ?_) | (show WL _ _ (Oper.mk _ (Op.call ⟨.value (.func 65), _, _⟩) _ _ _ _ :: _) _ _ _ _; refine wl_callC rfl Tryd.call65 rfl rfl rfl rfl (fun w hw => bsString hw) ?_) ) | (first | refine wc_seq ?_ | refine wc_region ?_ | refine wl_nil ?_ | refine wn_seq ?_ | refine wn_blk ?_ | refine wc_skip ?_ | refine wc_scope ?_ | refine wc_label ?_ | refine wn_noGoto ?_ | refine wc_block ?_ | refine wc_exit rfl ?_ | (show WL _ _ (_ :: _) _ _ _ _; first | refine yl_v rfl rfl rfl ?_ | refine wl_v rfl rfl rfl (by first | (show OpV _ _ _ _ (Oper.mk _ (Op.load _ _) _ _ _ _) _ _; exact ov_SB (by first | exact xo_load1 rfl | exact xo_loadS rfl)) | fail) ?_ | refine xl_alloc (fun _ => ?_) | refine xl_box rfl (fun _ => ?_) | refine xl_store rfl rfl ?_ | refine xl_buildSlice rfl (fun _ => ?_) | refine wl_makeMap rfl rfl (fun _ => ?_) | refine wl_insert rfl rfl rfl rfl rfl rfl (by first | exact rfl | exact trivial) (by first | exact Upd.here | exact Upd.there Upd.here | exact Upd.there (Upd.there Upd.here) | exact Upd.there (Upd.there (Upd.there Upd.here)) | exact Upd.there (Upd.there (Upd.there (Upd.there Upd.here))) | exact Upd.app _ (Upd.here) | exact Upd.app _ (Upd.there Upd.here) | exact Upd.app _ (Upd.there (Upd.there Upd.here)) | exact Upd.app _ (Upd.there (Upd.there (Upd.there Upd.here))) | exact Upd.there (Upd.app _ (Upd.here)) | exact Upd.there (Upd.app _ (Upd.there Upd.here)) | exact Upd.there (Upd.app _ (Upd.there (Upd.there Upd.here))) | exact Upd.there (Upd.app _ (Upd.there (Upd.there (Upd.there Upd.here)))) | exact Upd.there (Upd.there (Upd.app _ (Upd.here))) | exact Upd.there (Upd.there (Upd.app _ (Upd.there Upd.here))) | exact Upd.there (Upd.there (Upd.app _ (Upd.there (Upd.there Upd.here))))) (by rfl) ?_) | refine wc_ret rfl ?_) | (show WC _ (Code.cond _ _ _) _ _ _ _; (refine wc_cond rfl (fun hc => ?_) (fun hc => ?_) <;> (try (simp only [decide_eq_true_eq, decide_eq_false_iff_not, Bool.and_eq_true, Bool.or_eq_true, Bool.and_eq_false_iff, Bool.or_eq_false_iff, Bool.not_eq_true', Bool.not_eq_false', Int.not_lt, Int.not_le] at hc)) <;> (try (exfalso; first | omega | contradiction)))))
    refine wc_loop (α := { i : Nat // i ≤ at'.length }) (fun x => [(0, true, .pointer (some ⟨b, 0, none⟩)), (3, true, .pointer (some ⟨b3, 0, none⟩)), (14, true, .slice a' at'.length cap'), (15, true, i64 (at'.length : Int)), (16, true, i64 (x.1 : Int))]) (fun x => SB w0 ((b3, .cells [str n, .slice a' at'.length cap', str t, .slice a k.length cap].toArray 35 (0, 0)) :: H) M b (l ++ ([60] ++ n) ++ attrT (at'.take x.1))) (fun x => at'.length - x.1) ⟨0, by omega⟩ (by first | exact Sub.nil _ | (repeat (first | exact Sub.nil _ | refine Sub.cons (by first | rfl | (simp [look]; done)) ?_))) (fun _ h => by show SB w0 _ M b (l ++ ([60] ++ n) ++ []) _; rw [List.append_nil]; exact h) ?_
    rintro ⟨i, hi⟩
    dsimp only
    have hat := congrArg List.length (attrT_take at' i)
    rw [List.length_append] at hat
    rcases Nat.lt_or_ge i at'.length with hlt | hge
    · have hne : at' ≠ [] := by intro e; subst e; simp at hlt
      obtain ⟨rfl, hMb⟩ := g6 hne
      have hp3 := hb3 (at'.getD i default) (getD_memP hlt)
      have gi := g7 i hlt
      have hsu := attrT_succ hlt
      have hel := esc_length (at'.getD i default).2
      have hes := fun {w : World} (hw : Laid M w) => escape_ok hG hw (at'.getD i default).2 (by omega)
      generalize at'.getD i default = p at *
      repeat' (first | (first | (show WL _ _ (Oper.mk _ (Op.call ⟨.value (.func 70), _, _⟩) _ _ _ _ :: _) _ _ _ _; refine wl_callC rfl Tryd.call70 rfl rfl rfl rfl (fun w hw => bwString hw _ (by first | omega | (simp only [List.length_append, List.length_take, List.length_drop, List.length_cons, List.length_nil, List.length_nil]; omega)) (by first | omega | (simp only [List.length_append, List.length_take, List.length_drop, List.length_cons, List.length_nil, List.length_nil]; omega))) ?_) | (show WL _ _ (Oper.mk _ (Op.call ⟨.value (.func 65), _, _⟩) _ _ _ _ :: _) _ _ _ _; refine wl_callC rfl Tryd.call65 rfl rfl rfl rfl (fun w hw => bsString hw) ?_) ) | (first | refine wc_seq ?_ | refine wc_region ?_ | refine wl_nil ?_ | refine wn_seq ?_ | refine wn_blk ?_ | refine wc_skip ?_ | refine wc_scope ?_ | refine wc_label ?_ | refine wn_noGoto ?_ | refine wc_block ?_ | refine wc_exit rfl ?_ | (show WL _ _ (_ :: _) _ _ _ _; first | refine yl_v rfl rfl rfl ?_ | refine wl_v rfl rfl rfl (by first | (show OpV _ _ _ _ (Oper.mk _ (Op.load _ _) _ _ _ _) _ _; exact ov_SB (by first | exact xo_load1 rfl | exact xo_loadS rfl)) | (show OpV _ _ _ _ (Oper.mk _ (Op.indexAddr _ _ _) _ _ _ _) _ _; exact ov_indexAddr (i := i) (b := c') (o := o') rfl rfl rfl (by first | with_reducible exact fun _ => rfl | with_reducible exact fun h => h | exact fun _ => rfl | exact fun h => h | (intro himp; simp_all; done)) (by first | with_reducible exact fun _ => rfl | with_reducible exact fun h => h | exact fun _ => rfl | exact fun h => h | (intro himp; simp_all; done)) rfl (by first | exact (rfl : _ = some 1) | exact (rfl : _ = some 2) | exact (rfl : _ = some 3) | exact (rfl : _ = some 4) | exact (rfl : _ = some 6) | exact rfl) (fun _ => rfl) (by intro hcg; first | omega | (simp at hcg; omega))) | (show OpV _ _ _ _ (Oper.mk _ (Op.load _ _) _ _ _ _) _ _; exact ov_SB (ov_loadSM (l := [str p.1, str p.2]) rfl (by first | with_reducible exact fun _ => rfl | with_reducible exact fun h => h | exact fun _ => rfl | exact fun h => h | (intro himp; simp_all; done)) rfl (by first | exact (rfl : _ = some 1) | exact (rfl : _ = some 2) | exact (rfl : _ = some 3) | exact (rfl : _ = some 4) | exact (rfl : _ = some 6) | exact rfl) (fun _ => hMb) (fun _ => pcell2 gi))) | fail) ?_ | refine xl_alloc (fun _ => ?_) | refine xl_box rfl (fun _ => ?_) | refine xl_store rfl rfl ?_ | refine xl_buildSlice rfl (fun _ => ?_) | refine wl_makeMap rfl rfl (fun _ => ?_) | refine wl_insert rfl rfl rfl rfl rfl rfl (by first | exact rfl | exact trivial) (by first | exact Upd.here | exact Upd.there Upd.here | exact Upd.there (Upd.there Upd.here) | exact Upd.there (Upd.there (Upd.there Upd.here)) | exact Upd.there (Upd.there (Upd.there (Upd.there Upd.here))) | exact Upd.app _ (Upd.here) | exact Upd.app _ (Upd.there Upd.here) | exact Upd.app _ (Upd.there (Upd.there Upd.here)) | exact Upd.app _ (Upd.there (Upd.there (Upd.there Upd.here))) | exact Upd.there (Upd.app _ (Upd.here)) | exact Upd.there (Upd.app _ (Upd.there Upd.here)) | exact Upd.there (Upd.app _ (Upd.there (Upd.there Upd.here))) | exact Upd.there (Upd.app _ (Upd.there (Upd.there (Upd.there Upd.here)))) | exact Upd.there (Upd.there (Upd.app _ (Upd.here))) | exact Upd.there (Upd.there (Upd.app _ (Upd.there Upd.here))) | exact Upd.there (Upd.there (Upd.app _ (Upd.there (Upd.there Upd.here))))) (by rfl) ?_) | refine wc_ret rfl ?_) | (show WC _ (Code.cond _ _ _) _ _ _ _; (refine wc_cond rfl (fun hc => ?_) (fun hc => ?_) <;> (try (simp only [decide_eq_true_eq, decide_eq_false_iff_not, Bool.and_eq_true, Bool.or_eq_true, Bool.and_eq_false_iff, Bool.or_eq_false_iff, Bool.not_eq_true', Bool.not_eq_false', Int.not_lt, Int.not_le] at hc)) <;> (try (exfalso; first | omega | contradiction)))))
      refine wl_allocB (z := .agg #[str [], str []]) (l := [str [], str []]) rfl (fun _ => rfl) rfl rfl (by decide) (fun b5 => ?_)
      repeat' (first | (first | (show WL _ _ (Oper.mk _ (Op.call ⟨.value (.func 70), _, _⟩) _ _ _ _ :: _) _ _ _ _; refine wl_callC rfl Tryd.call70 rfl rfl rfl rfl (fun w hw => bwString hw _ (by first | omega | (simp only [List.length_append, List.length_take, List.length_drop, List.length_cons, List.length_nil, List.length_nil]; omega)) (by first | omega | (simp only [List.length_append, List.length_take, List.length_drop, List.length_cons, List.length_nil, List.length_nil]; omega))) ?_) | (show WL _ _ (Oper.mk _ (Op.call ⟨.value (.func 65), _, _⟩) _ _ _ _ :: _) _ _ _ _; refine wl_callC rfl Tryd.call65 rfl rfl rfl rfl (fun w hw => bsString hw) ?_) ) | (first | refine wc_seq ?_ | refine wc_region ?_ | refine wl_nil ?_ | refine wn_seq ?_ | refine wn_blk ?_ | refine wc_skip ?_ | refine wc_scope ?_ | refine wc_label ?_ | refine wn_noGoto ?_ | refine wc_block ?_ | refine wc_exit rfl ?_ | (show WL _ _ (_ :: _) _ _ _ _; first | refine yl_v rfl rfl rfl ?_ | refine wl_v rfl rfl rfl (by first  | fail) ?_ | refine xl_alloc (fun _ => ?_) | refine xl_box rfl (fun _ => ?_) | refine xl_store rfl rfl ?_ | refine xl_buildSlice rfl (fun _ => ?_) | refine wl_makeMap rfl rfl (fun _ => ?_) | refine wl_insert rfl rfl rfl rfl rfl rfl (by first | exact rfl | exact trivial) (by first | exact Upd.here | exact Upd.there Upd.here | exact Upd.there (Upd.there Upd.here) | exact Upd.there (Upd.there (Upd.there Upd.here)) | exact Upd.there (Upd.there (Upd.there (Upd.there Upd.here))) | exact Upd.app _ (Upd.here) | exact Upd.app _ (Upd.there Upd.here) | exact Upd.app _ (Upd.there (Upd.there Upd.here)) | exact Upd.app _ (Upd.there (Upd.there (Upd.there Upd.here))) | exact Upd.there (Upd.app _ (Upd.here)) | exact Upd.there (Upd.app _ (Upd.there Upd.here)) | exact Upd.there (Upd.app _ (Upd.there (Upd.there Upd.here))) | exact Upd.there (Upd.app _ (Upd.there (Upd.there (Upd.there Upd.here)))) | exact Upd.there (Upd.there (Upd.app _ (Upd.here))) | exact Upd.there (Upd.there (Upd.app _ (Upd.there Upd.here))) | exact Upd.there (Upd.there (Upd.app _ (Upd.there (Upd.there Upd.here))))) (by rfl) ?_) | refine wc_ret rfl ?_) | (show WC _ (Code.cond _ _ _) _ _ _ _; (refine wc_cond rfl (fun hc => ?_) (fun hc => ?_) <;> (try (simp only [decide_eq_true_eq, decide_eq_false_iff_not, Bool.and_eq_true, Bool.or_eq_true, Bool.and_eq_false_iff, Bool.or_eq_false_iff, Bool.not_eq_true', Bool.not_eq_false', Int.not_lt, Int.not_le] at hc)) <;> (try (exfalso; first | omega | contradiction)))))
      refine wl_storeB rfl rfl rfl rfl Upd.here rfl rfl rfl (by decide) ?_
      repeat' (first | (first | (show WL _ _ (Oper.mk _ (Op.call ⟨.value (.func 70), _, _⟩) _ _ _ _ :: _) _ _ _ _; refine wl_callC rfl Tryd.call70 rfl rfl rfl rfl (fun w hw => bwString hw _ (by first | omega | (simp only [List.length_append, List.length_take, List.length_drop, List.length_cons, List.length_nil, List.length_nil]; omega)) (by first | omega | (simp only [List.length_append, List.length_take, List.length_drop, List.length_cons, List.length_nil, List.length_nil]; omega))) ?_) | (show WL _ _ (Oper.mk _ (Op.call ⟨.value (.func 65), _, _⟩) _ _ _ _ :: _) _ _ _ _; refine wl_callC rfl Tryd.call65 rfl rfl rfl rfl (fun w hw => bsString hw) ?_) ) | (first | refine wc_seq ?_ | refine wc_region ?_ | refine wl_nil ?_ | refine wn_seq ?_ | refine wn_blk ?_ | refine wc_skip ?_ | refine wc_scope ?_ | refine wc_label ?_ | refine wn_noGoto ?_ | refine wc_block ?_ | refine wc_exit rfl ?_ | (show WL _ _ (_ :: _) _ _ _ _; first | refine yl_v rfl rfl rfl ?_ | refine wl_v rfl rfl rfl (by first  | fail) ?_ | refine xl_alloc (fun _ => ?_) | refine xl_box rfl (fun _ => ?_) | refine xl_store rfl rfl ?_ | refine xl_buildSlice rfl (fun _ => ?_) | refine wl_makeMap rfl rfl (fun _ => ?_) | refine wl_insert rfl rfl rfl rfl rfl rfl (by first | exact rfl | exact trivial) (by first | exact Upd.here | exact Upd.there Upd.here | exact Upd.there (Upd.there Upd.here) | exact Upd.there (Upd.there (Upd.there Upd.here)) | exact Upd.there (Upd.there (Upd.there (Upd.there Upd.here))) | exact Upd.app _ (Upd.here) | exact Upd.app _ (Upd.there Upd.here) | exact Upd.app _ (Upd.there (Upd.there Upd.here)) | exact Upd.app _ (Upd.there (Upd.there (Upd.there Upd.here))) | exact Upd.there (Upd.app _ (Upd.here)) | exact Upd.there (Upd.app _ (Upd.there Upd.here)) | exact Upd.there (Upd.app _ (Upd.there (Upd.there Upd.here))) | exact Upd.there (Upd.app _ (Upd.there (Upd.there (Upd.there Upd.here)))) | exact Upd.there (Upd.there (Upd.app _ (Upd.here))) | exact Upd.there (Upd.there (Upd.app _ (Upd.there Upd.here))) | exact Upd.there (Upd.there (Upd.app _ (Upd.there (Upd.there Upd.here))))) (by rfl) ?_) | refine wc_ret rfl ?_) | (show WC _ (Code.cond _ _ _) _ _ _ _; (refine wc_cond rfl (fun hc => ?_) (fun hc => ?_) <;> (try (simp only [decide_eq_true_eq, decide_eq_false_iff_not, Bool.and_eq_true, Bool.or_eq_true, Bool.and_eq_false_iff, Bool.or_eq_false_iff, Bool.not_eq_true', Bool.not_eq_false', Int.not_lt, Int.not_le] at hc)) <;> (try (exfalso; first | omega | contradiction)))))
      refine wc_draw 10 (by kernel_rfl) rfl (by kernel_rfl) (fun _ _ h k => h.ext k) ?_
      repeat' (first | (show WD _ _ (_ :: _) _ _ _ _ _ _; first | refine yd_v rfl rfl rfl rfl rfl rfl ?_ | refine wd_v rfl rfl rfl rfl rfl rfl (by first | (show OpV _ _ _ _ (Oper.mk _ (Op.load _ _) _ _ _ _) _ _; exact ov_SB (by first | exact xo_load1 rfl | exact xo_loadS rfl)) | ((show OpV _ _ _ _ (Oper.mk _ (Op.call ⟨.value (.func 76), _, _⟩) _ _ _ _) _ _; exact ov_call Tryd.call76 rfl (by intro himp; first | rfl | (simp_all; done)) (by rfl) (fun _ _ h k => h.ext k) (fun hcg w hw => hes hw.st.laid))) | fail) ?_ | refine yd_new rfl rfl rfl rfl rfl rfl ?_ | refine wd_conv rfl rfl rfl rfl rfl rfl rfl rfl rfl rfl ?_) | (show WD _ _ _ _ _ _ _ _ _; first | refine wd_nil ?_ | refine wd_nilF ?_) | (first | refine wc_seq ?_ | refine wc_region ?_ | refine wl_nil ?_ | refine wn_seq ?_ | refine wn_blk ?_ | refine wc_skip ?_ | refine wc_scope ?_ | refine wc_label ?_ | refine wn_noGoto ?_ | refine wc_block ?_ | refine wc_exit rfl ?_ | (show WL _ _ (_ :: _) _ _ _ _; first | refine yl_v rfl rfl rfl ?_ | refine wl_v rfl rfl rfl (by first | (show OpV _ _ _ _ (Oper.mk _ (Op.load _ _) _ _ _ _) _ _; exact ov_SB (by first | exact xo_load1 rfl | exact xo_loadS rfl)) | ((show OpV _ _ _ _ (Oper.mk _ (Op.call ⟨.value (.func 76), _, _⟩) _ _ _ _) _ _; exact ov_call Tryd.call76 rfl (by intro himp; first | rfl | (simp_all; done)) (by rfl) (fun _ _ h k => h.ext k) (fun hcg w hw => hes hw.st.laid))) | fail) ?_ | refine xl_alloc (fun _ => ?_) | refine xl_box rfl (fun _ => ?_) | refine xl_store rfl rfl ?_ | refine xl_buildSlice rfl (fun _ => ?_) | refine wl_makeMap rfl rfl (fun _ => ?_) | refine wl_insert rfl rfl rfl rfl rfl rfl (by first | exact rfl | exact trivial) (by first | exact Upd.here | exact Upd.there Upd.here | exact Upd.there (Upd.there Upd.here) | exact Upd.there (Upd.there (Upd.there Upd.here)) | exact Upd.there (Upd.there (Upd.there (Upd.there Upd.here))) | exact Upd.app _ (Upd.here) | exact Upd.app _ (Upd.there Upd.here) | exact Upd.app _ (Upd.there (Upd.there Upd.here)) | exact Upd.app _ (Upd.there (Upd.there (Upd.there Upd.here))) | exact Upd.there (Upd.app _ (Upd.here)) | exact Upd.there (Upd.app _ (Upd.there Upd.here)) | exact Upd.there (Upd.app _ (Upd.there (Upd.there Upd.here))) | exact Upd.there (Upd.app _ (Upd.there (Upd.there (Upd.there Upd.here)))) | exact Upd.there (Upd.there (Upd.app _ (Upd.here))) | exact Upd.there (Upd.there (Upd.app _ (Upd.there Upd.here))) | exact Upd.there (Upd.there (Upd.app _ (Upd.there (Upd.there Upd.here))))) (by rfl) ?_) | refine wc_ret rfl ?_))
      repeat' (first | (first | (show WL _ _ (Oper.mk _ (Op.call ⟨.value (.func 70), _, _⟩) _ _ _ _ :: _) _ _ _ _; refine wl_callC rfl Tryd.call70 rfl rfl rfl rfl (fun w hw => bwString hw _ (by first | omega | (simp only [List.length_append, List.length_take, List.length_drop, List.length_cons, List.length_nil, List.length_nil]; omega)) (by first | omega | (simp only [List.length_append, List.length_take, List.length_drop, List.length_cons, List.length_nil, List.length_nil]; omega))) ?_) | (show WL _ _ (Oper.mk _ (Op.call ⟨.value (.func 65), _, _⟩) _ _ _ _ :: _) _ _ _ _; refine wl_callC rfl Tryd.call65 rfl rfl rfl rfl (fun w hw => bsString hw) ?_) ) | (first | refine wc_seq ?_ | refine wc_region ?_ | refine wl_nil ?_ | refine wn_seq ?_ | refine wn_blk ?_ | refine wc_skip ?_ | refine wc_scope ?_ | refine wc_label ?_ | refine wn_noGoto ?_ | refine wc_block ?_ | refine wc_exit rfl ?_ | (show WL _ _ (_ :: _) _ _ _ _; first | refine yl_v rfl rfl rfl ?_ | refine wl_v rfl rfl rfl (by first  | fail) ?_ | refine xl_alloc (fun _ => ?_) | refine xl_box rfl (fun _ => ?_) | refine xl_store rfl rfl ?_ | refine xl_buildSlice rfl (fun _ => ?_) | refine wl_makeMap rfl rfl (fun _ => ?_) | refine wl_insert rfl rfl rfl rfl rfl rfl (by first | exact rfl | exact trivial) (by first | exact Upd.here | exact Upd.there Upd.here | exact Upd.there (Upd.there Upd.here) | exact Upd.there (Upd.there (Upd.there Upd.here)) | exact Upd.there (Upd.there (Upd.there (Upd.there Upd.here))) | exact Upd.app _ (Upd.here) | exact Upd.app _ (Upd.there Upd.here) | exact Upd.app _ (Upd.there (Upd.there Upd.here)) | exact Upd.app _ (Upd.there (Upd.there (Upd.there Upd.here))) | exact Upd.there (Upd.app _ (Upd.here)) | exact Upd.there (Upd.app _ (Upd.there Upd.here)) | exact Upd.there (Upd.app _ (Upd.there (Upd.there Upd.here))) | exact Upd.there (Upd.app _ (Upd.there (Upd.there (Upd.there Upd.here)))) | exact Upd.there (Upd.there (Upd.app _ (Upd.here))) | exact Upd.there (Upd.there (Upd.app _ (Upd.there Upd.here))) | exact Upd.there (Upd.there (Upd.app _ (Upd.there (Upd.there Upd.here))))) (by rfl) ?_) | refine wc_ret rfl ?_) | (show WC _ (Code.cond _ _ _) _ _ _ _; (refine wc_cond rfl (fun hc => ?_) (fun hc => ?_) <;> (try (simp only [decide_eq_true_eq, decide_eq_false_iff_not, Bool.and_eq_true, Bool.or_eq_true, Bool.and_eq_false_iff, Bool.or_eq_false_iff, Bool.not_eq_true', Bool.not_eq_false', Int.not_lt, Int.not_le] at hc)) <;> (try (exfalso; first | omega | contradiction)))))
      refine wn_cut ⟨i + 1, by omega⟩ (by show at'.length - (i + 1) < at'.length - i; omega) (by first | exact Sub.nil _ | (repeat (first | exact Sub.nil _ | refine Sub.cons (by first | rfl | (simp [look]; done)) ?_))) (fun _ h => ?_)
      show SB w0 _ M b (l ++ ([60] ++ n) ++ attrT (at'.take (i + 1))) _
      rw [hsu, ← List.append_assoc]
      exact SB.drop h (List.Sublist.cons _ (List.Sublist.refl _))
    · obtain rfl : i = at'.length := by omega
      rw [List.take_length]
      rw [List.take_length] at hat
      have hel := esc_length t
      repeat' (first | (first | (show WL _ _ (Oper.mk _ (Op.call ⟨.value (.func 70), _, _⟩) _ _ _ _ :: _) _ _ _ _; refine wl_callC rfl Tryd.call70 rfl rfl rfl rfl (fun w hw => bwString hw _ (by first | omega | (simp only [List.length_append, List.length_take, List.length_drop, List.length_cons, List.length_nil, List.length_nil]; omega)) (by first | omega | (simp only [List.length_append, List.length_take, List.length_drop, List.length_cons, List.length_nil, List.length_nil]; omega))) ?_) | (show WL _ _ (Oper.mk _ (Op.call ⟨.value (.func 65), _, _⟩) _ _ _ _ :: _) _ _ _ _; refine wl_callC rfl Tryd.call65 rfl rfl rfl rfl (fun w hw => bsString hw) ?_) ) | (first | refine wc_seq ?_ | refine wc_region ?_ | refine wl_nil ?_ | refine wn_seq ?_ | refine wn_blk ?_ | refine wc_skip ?_ | refine wc_scope ?_ | refine wc_label ?_ | refine wn_noGoto ?_ | refine wc_block ?_ | refine wc_exit rfl ?_ | (show WL _ _ (_ :: _) _ _ _ _; first | refine yl_v rfl rfl rfl ?_ | refine wl_v rfl rfl rfl (by first | (show OpV _ _ _ _ (Oper.mk _ (Op.load _ _) _ _ _ _) _ _; exact ov_SB (by first | exact xo_load1 rfl | exact xo_loadS rfl)) | ((show OpV _ _ _ _ (Oper.mk _ (Op.call ⟨.value (.func 76), _, _⟩) _ _ _ _) _ _; exact ov_call Tryd.call76 rfl (by intro himp; first | rfl | (simp_all; done)) (by rfl) (fun _ _ h k => h.ext k) (fun hcg w hw => het hw.st.laid))) | fail) ?_ | refine xl_alloc (fun _ => ?_) | refine xl_box rfl (fun _ => ?_) | refine xl_store rfl rfl ?_ | refine xl_buildSlice rfl (fun _ => ?_) | refine wl_makeMap rfl rfl (fun _ => ?_) | refine wl_insert rfl rfl rfl rfl rfl rfl (by first | exact rfl | exact trivial) (by first | exact Upd.here | exact Upd.there Upd.here | exact Upd.there (Upd.there Upd.here) | exact Upd.there (Upd.there (Upd.there Upd.here)) | exact Upd.there (Upd.there (Upd.there (Upd.there Upd.here))) | exact Upd.app _ (Upd.here) | exact Upd.app _ (Upd.there Upd.here) | exact Upd.app _ (Upd.there (Upd.there Upd.here)) | exact Upd.app _ (Upd.there (Upd.there (Upd.there Upd.here))) | exact Upd.there (Upd.app _ (Upd.here)) | exact Upd.there (Upd.app _ (Upd.there Upd.here)) | exact Upd.there (Upd.app _ (Upd.there (Upd.there Upd.here))) | exact Upd.there (Upd.app _ (Upd.there (Upd.there (Upd.there Upd.here)))) | exact Upd.there (Upd.there (Upd.app _ (Upd.here))) | exact Upd.there (Upd.there (Upd.app _ (Upd.there Upd.here))) | exact Upd.there (Upd.there (Upd.app _ (Upd.there (Upd.there Upd.here))))) (by rfl) ?_) | refine wc_ret rfl ?_) | (show WC _ (Code.cond _ _ _) _ _ _ _; (refine wc_cond rfl (fun hc => ?_) (fun hc => ?_) <;> (try (simp only [decide_eq_true_eq, decide_eq_false_iff_not, Bool.and_eq_true, Bool.or_eq_true, Bool.and_eq_false_iff, Bool.or_eq_false_iff, Bool.not_eq_true', Bool.not_eq_false', Int.not_lt, Int.not_le] at hc)) <;> (try (exfalso; first | omega | contradiction)))))
      refine wc_loop (α := { i : Nat // i ≤ k.length }) (fun x => [(0, true, .pointer (some ⟨b, 0, none⟩)), (3, true, .pointer (some ⟨b3, 0, none⟩)), (39, true, .slice a k.length cap), (40, true, i64 (k.length : Int)), (41, true, i64 (x.1 : Int))]) (fun x => SB w0 ((b3, .cells [str n, .slice a' at'.length cap', str t, .slice a k.length cap].toArray 35 (0, 0)) :: H) M b (l ++ ([60] ++ n) ++ attrT at' ++ ([62] ++ esc t) ++ textL (k.take x.1))) (fun x => k.length - x.1) ⟨0, by omega⟩ (by first | exact Sub.nil _ | (repeat (first | exact Sub.nil _ | refine Sub.cons (by first | rfl | (simp [look]; done)) ?_))) (fun _ h => by show SB w0 _ M b (l ++ ([60] ++ n) ++ attrT at' ++ ([62] ++ esc t) ++ []) _; rw [List.append_nil]; exact h) ?_
      rintro ⟨i, hi⟩
      dsimp only
      have hkt := congrArg List.length (textL_take k i)
      rw [List.length_append] at hkt
      rcases Nat.lt_or_ge i k.length with hlt | hge
      · obtain ⟨us, hu4, hus, hcells⟩ := h7 i hlt
        obtain ⟨un, ua1, ul1, uc1, ut, ua2, ul2, uc2, rfl⟩ := node_open hus
        have hne : k ≠ [] := by intro e; subst e; simp at hlt
        obtain ⟨rfl, hMb⟩ := h6 hne
        have hdr : k.drop i = k[i] :: k.drop (i + 1) := List.drop_eq_getElem_cons hlt
        have htk : textL (k.take (i + 1)) = textL (k.take i) ++ textN k[i] := by
          rw [List.take_succ_eq_append_getElem hlt, textL_append]; simp [textL]
        rw [hdr, textL, List.length_append] at hkt
        have ih := fun {w : World} {H : List (Nat × Obj)} {l : List UInt8} (hw : SB w0 H M b l w) => put_ok hG hus (l := l) hw
        generalize k[i] = y at *
        repeat' (first | (first | (show WL _ _ (Oper.mk _ (Op.call ⟨.value (.func 70), _, _⟩) _ _ _ _ :: _) _ _ _ _; refine wl_callC rfl Tryd.call70 rfl rfl rfl rfl (fun w hw => bwString hw _ (by first | omega | (simp only [List.length_append, List.length_take, List.length_drop, List.length_cons, List.length_nil, List.length_nil]; omega)) (by first | omega | (simp only [List.length_append, List.length_take, List.length_drop, List.length_cons, List.length_nil, List.length_nil]; omega))) ?_) | (show WL _ _ (Oper.mk _ (Op.call ⟨.value (.func 65), _, _⟩) _ _ _ _ :: _) _ _ _ _; refine wl_callC rfl Tryd.call65 rfl rfl rfl rfl (fun w hw => bsString hw) ?_) ) | (first | refine wc_seq ?_ | refine wc_region ?_ | refine wl_nil ?_ | refine wn_seq ?_ | refine wn_blk ?_ | refine wc_skip ?_ | refine wc_scope ?_ | refine wc_label ?_ | refine wn_noGoto ?_ | refine wc_block ?_ | refine wc_exit rfl ?_ | (show WL _ _ (_ :: _) _ _ _ _; first | refine yl_v rfl rfl rfl ?_ | refine wl_v rfl rfl rfl (by first | (show OpV _ _ _ _ (Oper.mk _ (Op.load _ _) _ _ _ _) _ _; exact ov_SB (by first | exact xo_load1 rfl | exact xo_loadS rfl)) | (show OpV _ _ _ _ (Oper.mk _ (Op.indexAddr _ _ _) _ _ _ _) _ _; exact ov_indexAddr (i := i) (b := c) (o := o) rfl rfl rfl (by first | with_reducible exact fun _ => rfl | with_reducible exact fun h => h | exact fun _ => rfl | exact fun h => h | (intro himp; simp_all; done)) (by first | with_reducible exact fun _ => rfl | with_reducible exact fun h => h | exact fun _ => rfl | exact fun h => h | (intro himp; simp_all; done)) rfl (by first | exact (rfl : _ = some 1) | exact (rfl : _ = some 2) | exact (rfl : _ = some 3) | exact (rfl : _ = some 4) | exact (rfl : _ = some 6) | exact rfl) (fun _ => rfl) (by intro hcg; first | omega | (simp at hcg; omega))) | (show OpV _ _ _ _ (Oper.mk _ (Op.load _ _) _ _ _ _) _ _; exact ov_SB (ov_loadSM (l := [str un, .slice ua1 ul1 uc1, str ut, .slice ua2 ul2 uc2]) rfl (by first | with_reducible exact fun _ => rfl | with_reducible exact fun h => h | exact fun _ => rfl | exact fun h => h | (intro himp; simp_all; done)) rfl (by first | exact (rfl : _ = some 1) | exact (rfl : _ = some 2) | exact (rfl : _ = some 3) | exact (rfl : _ = some 4) | exact (rfl : _ = some 6) | exact rfl) (fun _ => hMb) (fun _ j hj => hcells j hj))) | fail) ?_ | refine xl_alloc (fun _ => ?_) | refine xl_box rfl (fun _ => ?_) | refine xl_store rfl rfl ?_ | refine xl_buildSlice rfl (fun _ => ?_) | refine wl_makeMap rfl rfl (fun _ => ?_) | refine wl_insert rfl rfl rfl rfl rfl rfl (by first | exact rfl | exact trivial) (by first | exact Upd.here | exact Upd.there Upd.here | exact Upd.there (Upd.there Upd.here) | exact Upd.there (Upd.there (Upd.there Upd.here)) | exact Upd.there (Upd.there (Upd.there (Upd.there Upd.here))) | exact Upd.app _ (Upd.here) | exact Upd.app _ (Upd.there Upd.here) | exact Upd.app _ (Upd.there (Upd.there Upd.here)) | exact Upd.app _ (Upd.there (Upd.there (Upd.there Upd.here))) | exact Upd.there (Upd.app _ (Upd.here)) | exact Upd.there (Upd.app _ (Upd.there Upd.here)) | exact Upd.there (Upd.app _ (Upd.there (Upd.there Upd.here))) | exact Upd.there (Upd.app _ (Upd.there (Upd.there (Upd.there Upd.here)))) | exact Upd.there (Upd.there (Upd.app _ (Upd.here))) | exact Upd.there (Upd.there (Upd.app _ (Upd.there Upd.here))) | exact Upd.there (Upd.there (Upd.app _ (Upd.there (Upd.there Upd.here))))) (by rfl) ?_) | refine wc_ret rfl ?_) | (show WC _ (Code.cond _ _ _) _ _ _ _; (refine wc_cond rfl (fun hc => ?_) (fun hc => ?_) <;> (try (simp only [decide_eq_true_eq, decide_eq_false_iff_not, Bool.and_eq_true, Bool.or_eq_true, Bool.and_eq_false_iff, Bool.or_eq_false_iff, Bool.not_eq_true', Bool.not_eq_false', Int.not_lt, Int.not_le] at hc)) <;> (try (exfalso; first | omega | contradiction)))))
        refine wl_allocB (z := .agg #[str [], .slice none 0 0, str [], .slice none 0 0]) (l := [str [], .slice none 0 0, str [], .slice none 0 0]) rfl (fun _ => rfl) rfl rfl (by decide) (fun b7 => ?_)
        repeat' (first | (first | (show WL _ _ (Oper.mk _ (Op.call ⟨.value (.func 70), _, _⟩) _ _ _ _ :: _) _ _ _ _; refine wl_callC rfl Tryd.call70 rfl rfl rfl rfl (fun w hw => bwString hw _ (by first | omega | (simp only [List.length_append, List.length_take, List.length_drop, List.length_cons, List.length_nil, List.length_nil]; omega)) (by first | omega | (simp only [List.length_append, List.length_take, List.length_drop, List.length_cons, List.length_nil, List.length_nil]; omega))) ?_) | (show WL _ _ (Oper.mk _ (Op.call ⟨.value (.func 65), _, _⟩) _ _ _ _ :: _) _ _ _ _; refine wl_callC rfl Tryd.call65 rfl rfl rfl rfl (fun w hw => bsString hw) ?_) ) | (first | refine wc_seq ?_ | refine wc_region ?_ | refine wl_nil ?_ | refine wn_seq ?_ | refine wn_blk ?_ | refine wc_skip ?_ | refine wc_scope ?_ | refine wc_label ?_ | refine wn_noGoto ?_ | refine wc_block ?_ | refine wc_exit rfl ?_ | (show WL _ _ (_ :: _) _ _ _ _; first | refine yl_v rfl rfl rfl ?_ | refine wl_v rfl rfl rfl (by first  | fail) ?_ | refine xl_alloc (fun _ => ?_) | refine xl_box rfl (fun _ => ?_) | refine xl_store rfl rfl ?_ | refine xl_buildSlice rfl (fun _ => ?_) | refine wl_makeMap rfl rfl (fun _ => ?_) | refine wl_insert rfl rfl rfl rfl rfl rfl (by first | exact rfl | exact trivial) (by first | exact Upd.here | exact Upd.there Upd.here | exact Upd.there (Upd.there Upd.here) | exact Upd.there (Upd.there (Upd.there Upd.here)) | exact Upd.there (Upd.there (Upd.there (Upd.there Upd.here))) | exact Upd.app _ (Upd.here) | exact Upd.app _ (Upd.there Upd.here) | exact Upd.app _ (Upd.there (Upd.there Upd.here)) | exact Upd.app _ (Upd.there (Upd.there (Upd.there Upd.here))) | exact Upd.there (Upd.app _ (Upd.here)) | exact Upd.there (Upd.app _ (Upd.there Upd.here)) | exact Upd.there (Upd.app _ (Upd.there (Upd.there Upd.here))) | exact Upd.there (Upd.app _ (Upd.there (Upd.there (Upd.there Upd.here)))) | exact Upd.there (Upd.there (Upd.app _ (Upd.here))) | exact Upd.there (Upd.there (Upd.app _ (Upd.there Upd.here))) | exact Upd.there (Upd.there (Upd.app _ (Upd.there (Upd.there Upd.here))))) (by rfl) ?_) | refine wc_ret rfl ?_) | (show WC _ (Code.cond _ _ _) _ _ _ _; (refine wc_cond rfl (fun hc => ?_) (fun hc => ?_) <;> (try (simp only [decide_eq_true_eq, decide_eq_false_iff_not, Bool.and_eq_true, Bool.or_eq_true, Bool.and_eq_false_iff, Bool.or_eq_false_iff, Bool.not_eq_true', Bool.not_eq_false', Int.not_lt, Int.not_le] at hc)) <;> (try (exfalso; first | omega | contradiction)))))
        refine wl_storeB rfl rfl rfl rfl Upd.here rfl rfl rfl (by decide) ?_
        repeat' (first | (first | (show WL _ _ (Oper.mk _ (Op.call ⟨.value (.func 70), _, _⟩) _ _ _ _ :: _) _ _ _ _; refine wl_callC rfl Tryd.call70 rfl rfl rfl rfl (fun w hw => bwString hw _ (by first | omega | (simp only [List.length_append, List.length_take, List.length_drop, List.length_cons, List.length_nil, List.length_nil]; omega)) (by first | omega | (simp only [List.length_append, List.length_take, List.length_drop, List.length_cons, List.length_nil, List.length_nil]; omega))) ?_) | (show WL _ _ (Oper.mk _ (Op.call ⟨.value (.func 65), _, _⟩) _ _ _ _ :: _) _ _ _ _; refine wl_callC rfl Tryd.call65 rfl rfl rfl rfl (fun w hw => bsString hw) ?_) ) | (first | refine wc_seq ?_ | refine wc_region ?_ | refine wl_nil ?_ | refine wn_seq ?_ | refine wn_blk ?_ | refine wc_skip ?_ | refine wc_scope ?_ | refine wc_label ?_ | refine wn_noGoto ?_ | refine wc_block ?_ | refine wc_exit rfl ?_ | (show WL _ _ (_ :: _) _ _ _ _; first | refine yl_v rfl rfl rfl ?_ | refine wl_v rfl rfl rfl (by first | (show OpV _ _ _ _ (Oper.mk _ (Op.load _ _) _ _ _ _) _ _; exact ov_SB (by first | exact xo_load1 rfl | exact xo_loadS rfl)) | fail) ?_ | refine xl_alloc (fun _ => ?_) | refine xl_box rfl (fun _ => ?_) | refine xl_store rfl rfl ?_ | refine xl_buildSlice rfl (fun _ => ?_) | refine wl_makeMap rfl rfl (fun _ => ?_) | refine wl_insert rfl rfl rfl rfl rfl rfl (by first | exact rfl | exact trivial) (by first | exact Upd.here | exact Upd.there Upd.here | exact Upd.there (Upd.there Upd.here) | exact Upd.there (Upd.there (Upd.there Upd.here)) | exact Upd.there (Upd.there (Upd.there (Upd.there Upd.here))) | exact Upd.app _ (Upd.here) | exact Upd.app _ (Upd.there Upd.here) | exact Upd.app _ (Upd.there (Upd.there Upd.here)) | exact Upd.app _ (Upd.there (Upd.there (Upd.there Upd.here))) | exact Upd.there (Upd.app _ (Upd.here)) | exact Upd.there (Upd.app _ (Upd.there Upd.here)) | exact Upd.there (Upd.app _ (Upd.there (Upd.there Upd.here))) | exact Upd.there (Upd.app _ (Upd.there (Upd.there (Upd.there Upd.here)))) | exact Upd.there (Upd.there (Upd.app _ (Upd.here))) | exact Upd.there (Upd.there (Upd.app _ (Upd.there Upd.here))) | exact Upd.there (Upd.there (Upd.app _ (Upd.there (Upd.there Upd.here))))) (by rfl) ?_) | refine wc_ret rfl ?_) | (show WC _ (Code.cond _ _ _) _ _ _ _; (refine wc_cond rfl (fun hc => ?_) (fun hc => ?_) <;> (try (simp only [decide_eq_true_eq, decide_eq_false_iff_not, Bool.and_eq_true, Bool.or_eq_true, Bool.and_eq_false_iff, Bool.or_eq_false_iff, Bool.not_eq_true', Bool.not_eq_false', Int.not_lt, Int.not_le] at hc)) <;> (try (exfalso; first | omega | contradiction)))))
        refine wl_callL rfl Tryd.call64 rfl rfl rfl rfl (fun w hw => ih hw (by first | omega | (simp only [List.length_append, List.length_take, List.length_drop, List.length_cons, List.length_nil, List.length_nil]; omega))) ?_
        repeat' (first | (first | (show WL _ _ (Oper.mk _ (Op.call ⟨.value (.func 70), _, _⟩) _ _ _ _ :: _) _ _ _ _; refine wl_callC rfl Tryd.call70 rfl rfl rfl rfl (fun w hw => bwString hw _ (by first | omega | (simp only [List.length_append, List.length_take, List.length_drop, List.length_cons, List.length_nil, List.length_nil]; omega)) (by first | omega | (simp only [List.length_append, List.length_take, List.length_drop, List.length_cons, List.length_nil, List.length_nil]; omega))) ?_) | (show WL _ _ (Oper.mk _ (Op.call ⟨.value (.func 65), _, _⟩) _ _ _ _ :: _) _ _ _ _; refine wl_callC rfl Tryd.call65 rfl rfl rfl rfl (fun w hw => bsString hw) ?_) ) | (first | refine wc_seq ?_ | refine wc_region ?_ | refine wl_nil ?_ | refine wn_seq ?_ | refine wn_blk ?_ | refine wc_skip ?_ | refine wc_scope ?_ | refine wc_label ?_ | refine wn_noGoto ?_ | refine wc_block ?_ | refine wc_exit rfl ?_ | (show WL _ _ (_ :: _) _ _ _ _; first | refine yl_v rfl rfl rfl ?_ | refine wl_v rfl rfl rfl (by first  | fail) ?_ | refine xl_alloc (fun _ => ?_) | refine xl_box rfl (fun _ => ?_) | refine xl_store rfl rfl ?_ | refine xl_buildSlice rfl (fun _ => ?_) | refine wl_makeMap rfl rfl (fun _ => ?_) | refine wl_insert rfl rfl rfl rfl rfl rfl (by first | exact rfl | exact trivial) (by first | exact Upd.here | exact Upd.there Upd.here | exact Upd.there (Upd.there Upd.here) | exact Upd.there (Upd.there (Upd.there Upd.here)) | exact Upd.there (Upd.there (Upd.there (Upd.there Upd.here))) | exact Upd.app _ (Upd.here) | exact Upd.app _ (Upd.there Upd.here) | exact Upd.app _ (Upd.there (Upd.there Upd.here)) | exact Upd.app _ (Upd.there (Upd.there (Upd.there Upd.here))) | exact Upd.there (Upd.app _ (Upd.here)) | exact Upd.there (Upd.app _ (Upd.there Upd.here)) | exact Upd.there (Upd.app _ (Upd.there (Upd.there Upd.here))) | exact Upd.there (Upd.app _ (Upd.there (Upd.there (Upd.there Upd.here)))) | exact Upd.there (Upd.there (Upd.app _ (Upd.here))) | exact Upd.there (Upd.there (Upd.app _ (Upd.there Upd.here))) | exact Upd.there (Upd.there (Upd.app _ (Upd.there (Upd.there Upd.here))))) (by rfl) ?_) | refine wc_ret rfl ?_) | (show WC _ (Code.cond _ _ _) _ _ _ _; (refine wc_cond rfl (fun hc => ?_) (fun hc => ?_) <;> (try (simp only [decide_eq_true_eq, decide_eq_false_iff_not, Bool.and_eq_true, Bool.or_eq_true, Bool.and_eq_false_iff, Bool.or_eq_false_iff, Bool.not_eq_true', Bool.not_eq_false', Int.not_lt, Int.not_le] at hc)) <;> (try (exfalso; first | omega | contradiction)))))
        refine wn_cut ⟨i + 1, by omega⟩ (by show k.length - (i + 1) < k.length - i; omega) (by first | exact Sub.nil _ | (repeat (first | exact Sub.nil _ | refine Sub.cons (by first | rfl | (simp [look]; done)) ?_))) (fun _ h => ?_)
        show SB w0 _ M b (l ++ ([60] ++ n) ++ attrT at' ++ ([62] ++ esc t) ++ textL (k.take (i + 1))) _
        rw [htk, ← List.append_assoc]
        exact SB.drop h (List.Sublist.cons _ (List.Sublist.refl _))
      · obtain rfl : i = k.length := by omega
        rw [List.take_length]
        repeat' (first | (first | (show WL _ _ (Oper.mk _ (Op.call ⟨.value (.func 70), _, _⟩) _ _ _ _ :: _) _ _ _ _; refine wl_callC rfl Tryd.call70 rfl rfl rfl rfl (fun w hw => bwString hw _ (by first | omega | (simp only [List.length_append, List.length_take, List.length_drop, List.length_cons, List.length_nil, List.length_nil]; omega)) (by first | omega | (simp only [List.length_append, List.length_take, List.length_drop, List.length_cons, List.length_nil, List.length_nil]; omega))) ?_) | (show WL _ _ (Oper.mk _ (Op.call ⟨.value (.func 65), _, _⟩) _ _ _ _ :: _) _ _ _ _; refine wl_callC rfl Tryd.call65 rfl rfl rfl rfl (fun w hw => bsString hw) ?_) ) | (first | refine wc_seq ?_ | refine wc_region ?_ | refine wl_nil ?_ | refine wn_seq ?_ | refine wn_blk ?_ | refine wc_skip ?_ | refine wc_scope ?_ | refine wc_label ?_ | refine wn_noGoto ?_ | refine wc_block ?_ | refine wc_exit rfl ?_ | (show WL _ _ (_ :: _) _ _ _ _; first | refine yl_v rfl rfl rfl ?_ | refine wl_v rfl rfl rfl (by first | (show OpV _ _ _ _ (Oper.mk _ (Op.load _ _) _ _ _ _) _ _; exact ov_SB (by first | exact xo_load1 rfl | exact xo_loadS rfl)) | fail) ?_ | refine xl_alloc (fun _ => ?_) | refine xl_box rfl (fun _ => ?_) | refine xl_store rfl rfl ?_ | refine xl_buildSlice rfl (fun _ => ?_) | refine wl_makeMap rfl rfl (fun _ => ?_) | refine wl_insert rfl rfl rfl rfl rfl rfl (by first | exact rfl | exact trivial) (by first | exact Upd.here | exact Upd.there Upd.here | exact Upd.there (Upd.there Upd.here) | exact Upd.there (Upd.there (Upd.there Upd.here)) | exact Upd.there (Upd.there (Upd.there (Upd.there Upd.here))) | exact Upd.app _ (Upd.here) | exact Upd.app _ (Upd.there Upd.here) | exact Upd.app _ (Upd.there (Upd.there Upd.here)) | exact Upd.app _ (Upd.there (Upd.there (Upd.there Upd.here))) | exact Upd.there (Upd.app _ (Upd.here)) | exact Upd.there (Upd.app _ (Upd.there Upd.here)) | exact Upd.there (Upd.app _ (Upd.there (Upd.there Upd.here))) | exact Upd.there (Upd.app _ (Upd.there (Upd.there (Upd.there Upd.here)))) | exact Upd.there (Upd.there (Upd.app _ (Upd.here))) | exact Upd.there (Upd.there (Upd.app _ (Upd.there Upd.here))) | exact Upd.there (Upd.there (Upd.app _ (Upd.there (Upd.there Upd.here))))) (by rfl) ?_) | refine wc_ret rfl ?_) | (show WC _ (Code.cond _ _ _) _ _ _ _; (refine wc_cond rfl (fun hc => ?_) (fun hc => ?_) <;> (try (simp only [decide_eq_true_eq, decide_eq_false_iff_not, Bool.and_eq_true, Bool.or_eq_true, Bool.and_eq_false_iff, Bool.or_eq_false_iff, Bool.not_eq_true', Bool.not_eq_false', Int.not_lt, Int.not_le] at hc)) <;> (try (exfalso; first | omega | contradiction)))))
        refine wnl_none rfl (fun _ h => ?_)
        have e : l ++ ([60] ++ n ++ attrT at' ++ ([62] ++ esc t) ++ textL k ++ ([60, 47] ++ n ++ [62])) = l ++ ([60] ++ n) ++ attrT at' ++ ([62] ++ esc t) ++ textL k ++ ([60, 47] ++ n ++ [62]) := by simp only [List.append_assoc]
        rw [e]
        exact SB.drop h (List.Sublist.cons _ (List.Sublist.refl _))
/-- what is written, or that it can't be -/
def resW (x : Nd) : Value := .tuple #[str (if rightN x = true then textN x else []), i64 (if rightN x = true then 0 else 1)]
theorem write_ok (hG : Glob M) (hM : Laid M w) {D : Nat} {x : Nd} {vs : List Value} (h : NodeC M D x vs) (hlen : (textN x).length ≤ 10000000000000) : Calls Tryd.prog 54 #[.agg vs.toArray] w (RetE w (resW x)) := by
  obtain ⟨un, ua1, ul1, uc1, ut, ua2, ul2, uc2, rfl⟩ := node_open h
  have hr := fun {w : World} (hw : Laid M w) => right_ok hw h
  have hp := fun {w0 w : World} {H : List (Nat × Obj)} {b : Nat} {l : List UInt8} (hw : SB w0 H M b l w) => put_ok hG h (l := l) hw
  unfold resW
  refine calls_st (l := [.agg [str un, .slice ua1 ul1 uc1, str ut, .slice ua2 ul2 uc2].toArray]) hM Tryd.func54 rfl rfl rfl (E0 := [(0, true, .agg [str un, .slice ua1 ul1 uc1, str ut, .slice ua2 ul2 uc2].toArray)]) (params_cons rfl (params_nil _)) ?_
  cases hq : rightN x with
  | false =>
    rw [hq] at hr
    repeat' (first | (first | refine wc_seq ?_ | refine wc_region ?_ | refine wl_nil ?_ | refine wn_seq ?_ | refine wn_blk ?_ | refine wc_skip ?_ | refine wc_block ?_ | refine wc_exit rfl ?_ | (show WL _ _ (_ :: _) _ _ _ _; first | refine yl_v rfl rfl rfl ?_ | refine wl_v rfl rfl rfl (by first | ((show OpV _ _ _ _ (Oper.mk _ (Op.call ⟨.value (.func 48), _, _⟩) _ _ _ _) _ _; exact ov_call Tryd.call48 rfl (by intro himp; first | rfl | (simp_all; done)) (by rfl) (fun _ _ h k => h.ext k) (fun hcg w hw => hr hw.laid))) | fail) ?_ | refine xl_alloc (fun _ => ?_) | refine xl_box rfl (fun _ => ?_)) | refine wc_ret rfl ?_) | (show WC _ (Code.cond _ _ _) _ _ _ _; (refine wc_cond rfl (fun hc => ?_) (fun hc => ?_) <;> (try (simp only [decide_eq_true_eq, decide_eq_false_iff_not, Bool.and_eq_true, Bool.or_eq_true, Bool.and_eq_false_iff, Bool.or_eq_false_iff, Bool.not_eq_true', Bool.not_eq_false', Int.not_lt, Int.not_le] at hc)) <;> (try (exfalso; first | omega | contradiction)))))
    exact wr_tmp2 rfl rfl rfl rfl rfl
  | true =>
    rw [hq] at hr
    repeat' (first | (first | refine wc_seq ?_ | refine wc_region ?_ | refine wl_nil ?_ | refine wn_seq ?_ | refine wn_blk ?_ | refine wc_skip ?_ | refine wc_block ?_ | refine wc_exit rfl ?_ | (show WL _ _ (_ :: _) _ _ _ _; first | refine yl_v rfl rfl rfl ?_ | refine wl_v rfl rfl rfl (by first | ((show OpV _ _ _ _ (Oper.mk _ (Op.call ⟨.value (.func 48), _, _⟩) _ _ _ _) _ _; exact ov_call Tryd.call48 rfl (by intro himp; first | rfl | (simp_all; done)) (by rfl) (fun _ _ h k => h.ext k) (fun hcg w hw => hr hw.laid))) | fail) ?_ | refine xl_alloc (fun _ => ?_) | refine xl_box rfl (fun _ => ?_)) | refine wc_ret rfl ?_) | (show WC _ (Code.cond _ _ _) _ _ _ _; (refine wc_cond rfl (fun hc => ?_) (fun hc => ?_) <;> (try (simp only [decide_eq_true_eq, decide_eq_false_iff_not, Bool.and_eq_true, Bool.or_eq_true, Bool.and_eq_false_iff, Bool.or_eq_false_iff, Bool.not_eq_true', Bool.not_eq_false', Int.not_lt, Int.not_le] at hc)) <;> (try (exfalso; first | omega | contradiction)))))
    rename_i b1 b4
    refine wl_weak (C' := SB w [(b1, .cells [str un, .slice ua1 ul1 uc1, str ut, .slice ua2 ul2 uc2].toArray 35 (0, 0))] M b4 []) (Eng.Sub.refl _) (fun _ h => SB.start (hw := fun k o h => lt_of_get (hM k o h)) h (fun p hp c fz e => by
      rcases List.mem_singleton.1 hp with rfl
      injection e with _ e2
      exact absurd e2 (by decide))) ?_
    refine wl_callL rfl Tryd.call64 rfl rfl rfl rfl (fun w hw => hp hw (by simpa using hlen)) ?_
    repeat' (first | (first | (show WL _ _ (Oper.mk _ (Op.call ⟨.value (.func 70), _, _⟩) _ _ _ _ :: _) _ _ _ _; refine wl_callC rfl Tryd.call70 rfl rfl rfl rfl (fun w hw => bwString hw _ (by first | omega | (simp only [List.length_append, List.length_take, List.length_drop, List.length_cons, List.length_nil, List.length_nil]; omega)) (by first | omega | (simp only [List.length_append, List.length_take, List.length_drop, List.length_cons, List.length_nil, List.length_nil]; omega))) ?_) | (show WL _ _ (Oper.mk _ (Op.call ⟨.value (.func 65), _, _⟩) _ _ _ _ :: _) _ _ _ _; refine wl_callC rfl Tryd.call65 rfl rfl rfl rfl (fun w hw => bsString hw) ?_) ) | (first | refine wc_seq ?_ | refine wc_region ?_ | refine wl_nil ?_ | refine wn_seq ?_ | refine wn_blk ?_ | refine wc_skip ?_ | refine wc_block ?_ | refine wc_exit rfl ?_ | (show WL _ _ (_ :: _) _ _ _ _; first | refine yl_v rfl rfl rfl ?_ | refine wl_v rfl rfl rfl (by first  | fail) ?_ | refine xl_alloc (fun _ => ?_) | refine xl_box rfl (fun _ => ?_)) | refine wc_ret rfl ?_) | (show WC _ (Code.cond _ _ _) _ _ _ _; (refine wc_cond rfl (fun hc => ?_) (fun hc => ?_) <;> (try (simp only [decide_eq_true_eq, decide_eq_false_iff_not, Bool.and_eq_true, Bool.or_eq_true, Bool.and_eq_false_iff, Bool.or_eq_false_iff, Bool.not_eq_true', Bool.not_eq_false', Int.not_lt, Int.not_le] at hc)) <;> (try (exfalso; first | omega | contradiction)))))
    exact wr_weak (fun _ h => h.st.drop (List.nil_sublist _)) (wr_tmp2 rfl rfl rfl rfl rfl)
end Go.Proofs.YtgfbieplidpebaaDoor
/-
  How an element is read, plainly. No program stands here.
-/
namespace Go.Xml
open Go.Pct Go.Eng
set_option linter.unusedVariables false

/-- up to a byte of some; from there on -/
def wd (p : UInt8 → Bool) (s : List UInt8) : List UInt8 := s.takeWhile (fun c => !p c)
def rs (p : UInt8 → Bool) (s : List UInt8) : List UInt8 := s.dropWhile (fun c => !p c)
theorem wd_rs (p : UInt8 → Bool) (s : List UInt8) : wd p s ++ rs p s = s := List.takeWhile_append_dropWhile
theorem rs_length (p : UInt8 → Bool) (s : List UInt8) : (wd p s).length + (rs p s).length = s.length := by
  rw [← List.length_append, wd_rs]
theorem wd_stop {p : UInt8 → Bool} {a : List UInt8} {c : UInt8} {r : List UInt8} (ha : ∀ x ∈ a, p x = false) (hc : p c = true) : wd p (a ++ c :: r) = a ∧ rs p (a ++ c :: r) = c :: r := by
  unfold wd rs
  induction a with
  | nil => simp [hc]
  | cons x a ih =>
    have h1 := ha x (List.mem_cons_self ..)
    have h2 := ih (fun y hy => ha y (List.mem_cons_of_mem _ hy))
    simp [h1, h2]
theorem wd_mem {p : UInt8 → Bool} {s : List UInt8} {x : UInt8} (h : x ∈ wd p s) : p x = false := by
  unfold wd at h
  have h1 := List.all_takeWhile (p := fun c => !p c) (l := s)
  rw [List.all_eq_true] at h1
  simpa using h1 x h
def isC (d : UInt8) (c : UInt8) : Bool := c == d
def isSp (c : UInt8) : Bool := c == 32 || c == 62
/-- one attribute, from its blank on -/
def attrP (s : List UInt8) : Option ((List UInt8 × List UInt8) × List UInt8) :=
  match rs (isC 61) s with
  | 61 :: 34 :: r2 => match unescQ (wd (isC 34) r2) with
    | none => none
    | some v => match rs (isC 34) r2 with
      | 34 :: r4 => some ((wd (isC 61) s, v), r4)
      | _ => none
  | _ => none
def attrsP : Nat → List UInt8 → Option (List (List UInt8 × List UInt8) × List UInt8)
  | 0, _ => none
  | f + 1, s => match s with
    | 32 :: r => match attrP r with
      | none => none
      | some (p, r4) => (attrsP f r4).map fun x => (p :: x.1, x.2)
    | s => some ([], s)
def kidsP (e : List UInt8 → Option (Nd × List UInt8)) : Nat → List UInt8 → Option (List Nd × List UInt8)
  | 0, _ => none
  | f + 1, s => if [60, 47].isPrefixOf s = true then some ([], s) else match e s with
    | none => none
    | some (x, r) => (kidsP e f r).map fun y => (x :: y.1, y.2)
/-- behind the name: the attributes, the text, as far as the kids -/
def headP (s : List UInt8) : Option (List (List UInt8 × List UInt8) × List UInt8 × List UInt8) :=
  match attrsP (s.length + 1) s with
  | none => none
  | some (a, r2) => match r2 with
    | 62 :: r3 => match unescQ (wd (isC 60) r3) with
      | none => none
      | some t => some (a, t, rs (isC 60) r3)
    | _ => none
def closeT (n : List UInt8) : List UInt8 := [60, 47] ++ n ++ [62]
def elemP : Nat → List UInt8 → Option (Nd × List UInt8)
  | 0, _ => none
  | D + 1, s => match s with
    | 60 :: r => match headP (rs isSp r) with
      | none => none
      | some (a, t, r4) => match kidsP (elemP D) (r4.length + 1) r4 with
        | none => none
        | some (k, r5) => if (closeT (wd isSp r)).isPrefixOf r5 = true then some (.mk (wd isSp r) a t k, r5.drop (closeT (wd isSp r)).length) else none
    | _ => none

/-! ### what is left is shorter -/
theorem attrP_text {s r : List UInt8} {p : List UInt8 × List UInt8} (h : attrP s = some (p, r)) : ∃ v, unescQ v = some p.2 ∧ s = p.1 ++ [61, 34] ++ v ++ [34] ++ r ∧ (∀ x ∈ p.1, isC 61 x = false) ∧ ∀ x ∈ v, isC 34 x = false := by
  unfold attrP at h
  split at h
  · rename_i r2 e1
    split at h
    · cases h
    · rename_i v e2
      split at h
      · rename_i r4 e3
        cases h
        refine ⟨wd (isC 34) r2, e2, ?_, ?_, ?_⟩
        · have h1 := wd_rs (isC 61) s
          have h2 := wd_rs (isC 34) r2
          rw [e3] at h2
          rw [e1, ← h2] at h1
          refine h1.symm.trans ?_
          simp
        · exact fun x hx => wd_mem hx
        · exact fun x hx => wd_mem hx
      · cases h
  · cases h
theorem attrsP_len : ∀ {f : Nat} {s r : List UInt8} {l : List (List UInt8 × List UInt8)}, attrsP f s = some (l, r) → r.length ≤ s.length
  | 0, _, _, _, h => by cases h
  | f + 1, s, r, l, h => by
    unfold attrsP at h
    split at h
    · rename_i r1
      split at h
      · cases h
      · rename_i p r4 e
        obtain ⟨v, _, h1, _⟩ := attrP_text e
        cases hq : attrsP f r4 with
        | none => rw [hq] at h; cases h
        | some x =>
          rw [hq] at h
          simp only [Option.map_some, Option.some.injEq, Prod.mk.injEq] at h
          have := attrsP_len hq
          rw [← h.2, h1]
          simp only [List.length_cons, List.length_append, List.length_nil]
          omega
    · cases h; exact Nat.le_refl _
theorem kidsP_len {e : List UInt8 → Option (Nd × List UInt8)} (he : ∀ s x r, e s = some (x, r) → r.length ≤ s.length) : ∀ {f : Nat} {s r : List UInt8} {l : List Nd}, kidsP e f s = some (l, r) → r.length ≤ s.length
  | 0, _, _, _, h => by cases h
  | f + 1, s, r, l, h => by
    unfold kidsP at h
    split at h
    · cases h; exact Nat.le_refl _
    · split at h
      · cases h
      · rename_i x r1 hx
        cases hq : kidsP e f r1 with
        | none => rw [hq] at h; cases h
        | some y =>
          rw [hq] at h
          simp only [Option.map_some, Option.some.injEq, Prod.mk.injEq] at h
          have h1 := kidsP_len he hq
          have h2 := he _ _ _ hx
          rw [← h.2]; omega
theorem headP_len {s t r : List UInt8} {a : List (List UInt8 × List UInt8)} (h : headP s = some (a, t, r)) : r.length < s.length := by
  unfold headP at h
  split at h
  · cases h
  · rename_i a' r2 e
    split at h
    · rename_i r3
      split at h
      · cases h
      · cases h
        have h1 := attrsP_len e
        have h2 := rs_length (isC 60) r3
        simp only [List.length_cons] at h1
        omega
    · cases h
theorem elemP_len : ∀ {D : Nat} {s r : List UInt8} {x : Nd}, elemP D s = some (x, r) → r.length < s.length
  | 0, _, _, _, h => by cases h
  | D + 1, s, r, x, h => by
    unfold elemP at h
    split at h
    · rename_i r1
      split at h
      · cases h
      · rename_i a t r4 e1
        split at h
        · cases h
        · rename_i k r5 e2
          split at h
          · cases h
            have h1 := headP_len e1
            have h2 := kidsP_len (fun s x r h => Nat.le_of_lt (elemP_len h)) e2
            have h3 := rs_length isSp r1
            rw [List.length_drop, List.length_cons]
            omega
          · cases h
    · cases h
end Go.Xml
/-
  What is written reads as it was; what was read is how it is written. No program stands here.
-/
namespace Go.Xml
open Go.Pct Go.Eng
set_option linter.unusedVariables false

/-! ### escapes -/
theorem which_mark (r : List UInt8) : ∀ k, k < 5 → which ((marksT.getD k default).2 ++ r) = (k : Int) := by
  intro k hk
  match k, hk with
  | 0, _ => rfl
  | 1, _ => rfl
  | 2, _ => rfl
  | 3, _ => rfl
  | 4, _ => rfl
theorem esc1_kinds (c : UInt8) : (esc1 c = [c] ∧ badC c = false ∧ c ≠ 38) ∨ ∃ k, k < 5 ∧ marksT.getD k default = ([c], esc1 c) := by
  have key : ∀ c : UInt8, ((decide (esc1 c = [c]) && !badC c && decide (c ≠ 38)) || (List.range 5).any fun k => decide (marksT.getD k default = ([c], esc1 c))) = true := by apply all_bytes; decide +kernel
  have h := key c
  rw [Bool.or_eq_true, List.any_eq_true] at h
  rcases h with h | ⟨k, h1, h2⟩
  · simp only [Bool.and_eq_true, decide_eq_true_eq, Bool.not_eq_true'] at h
    exact .inl ⟨h.1.1, h.1.2, h.2⟩
  · exact .inr ⟨k, List.mem_range.1 h1, by simpa using h2⟩
theorem mark_head : ∀ k, k < 5 → ∃ q, (marksT.getD k default).2 = 38 :: q := by
  intro k hk
  match k, hk with
  | 0, _ => exact ⟨_, rfl⟩
  | 1, _ => exact ⟨_, rfl⟩
  | 2, _ => exact ⟨_, rfl⟩
  | 3, _ => exact ⟨_, rfl⟩
  | 4, _ => exact ⟨_, rfl⟩
theorem unescQ_mark {k : Nat} (hk : k < 5) (r : List UInt8) : unescQ ((marksT.getD k default).2 ++ r) = (unescQ r).map ((marksT.getD k default).1 ++ ·) := by
  have hw := which_mark r k hk
  obtain ⟨q, hq⟩ := mark_head k hk
  have hd : ((marksT.getD k default).2 ++ r).drop (marksT.getD k default).2.length = r := List.drop_left
  rw [hq, List.cons_append] at hw hd ⊢
  rw [unescQ_cons, if_neg (by decide), if_pos rfl, hw, if_neg (by omega), Int.toNat_natCast, hq, hd]
theorem unescQ_esc (v r : List UInt8) : unescQ (esc v ++ r) = (unescQ r).map (v ++ ·) := by
  induction v with
  | nil => simp [esc]
  | cons c v ih =>
    have e : esc (c :: v) ++ r = esc1 c ++ (esc v ++ r) := by unfold esc; rw [List.flatMap_cons, List.append_assoc]
    rw [e]
    rcases esc1_kinds c with ⟨h1, h2, h3⟩ | ⟨k, hk, h⟩
    · rw [h1, unescQ_plain [c] _ (by intro x hx; simp only [List.mem_singleton] at hx; subst hx; exact ⟨h2, h3⟩), ih]
      simp [Function.comp_def]
    · have h1 := unescQ_mark hk (esc v ++ r)
      rw [h] at h1
      rw [h1, ih]
      simp [Function.comp_def]
theorem unescQ_of_esc (v : List UInt8) : unescQ (esc v) = some v := by
  have := unescQ_esc v []
  rw [List.append_nil, unescQ_nil] at this
  simpa using this
theorem esc_bad {v : List UInt8} : ∀ c ∈ esc v, badC c = false := by
  intro c hc
  unfold esc at hc
  obtain ⟨d, _, hd⟩ := List.mem_flatMap.1 hc
  have key : ∀ d : UInt8, (esc1 d).all (fun c => !badC c) = true := by apply all_bytes; decide +kernel
  have := List.all_eq_true.1 (key d) c hd
  simpa using this
theorem esc_of_unescQ : ∀ (n : Nat) {v w : List UInt8}, v.length ≤ n → unescQ v = some w → esc w = v
  | _, [], w, _, h => by
    rw [unescQ_nil] at h; cases h; rfl
  | 0, c :: r, _, hn, _ => by simp at hn
  | n + 1, c :: r, w, hn, h => by
    simp only [List.length_cons] at hn
    rw [unescQ_cons] at h
    split at h
    · cases h
    rename_i hb
    split at h
    · rename_i h38
      split at h
      · cases h
      rename_i hwh
      have hr := which_range (c :: r)
      have hp := which_pre (s := c :: r) (by omega)
      have hm := mark_len (which (c :: r)).toNat (by omega)
      have hk : (which (c :: r)).toNat < 5 := by omega
      generalize (which (c :: r)).toNat = k at *
      obtain ⟨u, hu⟩ := List.isPrefixOf_iff_prefix.1 hp
      have hd : (c :: r).drop (marksT.getD k default).2.length = u := by rw [← hu]; simp
      rw [hd] at h
      cases hq : unescQ u with
      | none => rw [hq] at h; cases h
      | some w' =>
        rw [hq] at h
        simp only [Option.map_some, Option.some.injEq] at h
        have hl := congrArg List.length hu
        simp only [List.length_append, List.length_cons] at hl
        have ih := esc_of_unescQ n (v := u) (by omega) hq
        have hone : esc (marksT.getD k default).1 = (marksT.getD k default).2 := by
          match k, hk with
          | 0, _ => rfl
          | 1, _ => rfl
          | 2, _ => rfl
          | 3, _ => rfl
          | 4, _ => rfl
        rw [← h, ← hu]
        unfold esc at ih hone ⊢
        rw [List.flatMap_append, ih, hone]
    · rename_i h38
      cases hq : unescQ r with
      | none => rw [hq] at h; cases h
      | some w' =>
        rw [hq] at h
        simp only [Option.map_some, Option.some.injEq] at h
        have ih := esc_of_unescQ n (v := r) (by omega) hq
        have hone : esc1 c = [c] := by
          have key : ∀ c : UInt8, (badC c || decide (c = 38) || decide (esc1 c = [c])) = true := by apply all_bytes; decide +kernel
          have := key c
          simp only [Bool.or_eq_true, decide_eq_true_eq] at this
          rcases this with (h | h) | h
          · exact absurd h hb
          · exact absurd h h38
          · exact h
        rw [← h]
        unfold esc at ih ⊢
        rw [List.flatMap_cons, ih, hone]; rfl

/-! ### what was read is how it is written -/
theorem attrsP_text : ∀ {f : Nat} {s r : List UInt8} {l : List (List UInt8 × List UInt8)}, attrsP f s = some (l, r) → s = attrT l ++ r
  | 0, _, _, _, h => by cases h
  | f + 1, s, r, l, h => by
    unfold attrsP at h
    split at h
    · rename_i r1
      split at h
      · cases h
      · rename_i p r4 e
        obtain ⟨v, h0, h1, _⟩ := attrP_text e
        cases hq : attrsP f r4 with
        | none => rw [hq] at h; cases h
        | some x =>
          rw [hq] at h
          simp only [Option.map_some, Option.some.injEq, Prod.mk.injEq] at h
          have ih := attrsP_text (l := x.1) (r := x.2) hq
          have hv := esc_of_unescQ _ (Nat.le_refl _) h0
          rw [← h.1, ← h.2, h1, ih, ← hv]
          unfold attrT
          rw [List.flatMap_cons]
          simp
    · cases h; simp [attrT]
theorem headP_text {s t r : List UInt8} {a : List (List UInt8 × List UInt8)} (h : headP s = some (a, t, r)) : s = attrT a ++ ([62] ++ esc t) ++ r := by
  unfold headP at h
  split at h
  · cases h
  · rename_i a' r2 e
    split at h
    · rename_i r3
      split at h
      · cases h
      · rename_i t' et
        cases h
        have h1 := attrsP_text e
        have h2 := wd_rs (isC 60) r3
        have hv := esc_of_unescQ _ (Nat.le_refl _) et
        rw [h1, hv]
        conv => lhs; rw [← h2]
        simp
    · cases h
theorem kidsP_text {e : List UInt8 → Option (Nd × List UInt8)} (he : ∀ s x r, e s = some (x, r) → s = textN x ++ r) : ∀ {f : Nat} {s r : List UInt8} {l : List Nd}, kidsP e f s = some (l, r) → s = textL l ++ r
  | 0, _, _, _, h => by cases h
  | f + 1, s, r, l, h => by
    unfold kidsP at h
    split at h
    · cases h; simp [textL]
    · split at h
      · cases h
      · rename_i x r1 hx
        cases hq : kidsP e f r1 with
        | none => rw [hq] at h; cases h
        | some y =>
          rw [hq] at h
          simp only [Option.map_some, Option.some.injEq, Prod.mk.injEq] at h
          have h1 := kidsP_text he (l := y.1) (r := y.2) hq
          have h2 := he _ _ _ hx
          rw [← h.1, ← h.2, h2, h1, textL, List.append_assoc]
theorem elemP_text : ∀ {D : Nat} {s r : List UInt8} {x : Nd}, elemP D s = some (x, r) → s = textN x ++ r
  | 0, _, _, _, h => by cases h
  | D + 1, s, r, x, h => by
    unfold elemP at h
    split at h
    · rename_i r1
      split at h
      · cases h
      · rename_i a t r4 e1
        split at h
        · cases h
        · rename_i k r5 e2
          split at h
          · rename_i hp
            cases h
            have h1 := headP_text e1
            have h2 := kidsP_text (fun s x r h => elemP_text h) e2
            have h3 := wd_rs isSp r1
            obtain ⟨u, hu⟩ := List.isPrefixOf_iff_prefix.1 hp
            rw [textN]
            conv => lhs; rw [← h3, h1, h2, ← hu]
            rw [← hu]
            simp [closeT]
          · cases h
    · cases h

/-! ### what is written reads as it was -/
theorem name_all {n : List UInt8} (h : nameB n = true) : n ≠ [] ∧ letC (n.getD 0 0) = true ∧ ∀ c ∈ n, insC c = true := by
  unfold nameB at h
  simp only [Bool.and_eq_true, Bool.not_eq_true', List.all_eq_true] at h
  exact ⟨by intro e; subst e; simp at h, h.1.2, h.2⟩
theorem ins_sp (c : UInt8) : insC c = true → isSp c = false ∧ isC 61 c = false := by
  have key : ∀ c : UInt8, (!insC c || (!isSp c && !isC 61 c)) = true := by apply all_bytes; decide +kernel
  intro h
  have := key c
  rw [h] at this
  simpa using this
theorem bad_q (c : UInt8) : badC c = false → isC 34 c = false ∧ isC 60 c = false := by
  have key : ∀ c : UInt8, (badC c || (!isC 34 c && !isC 60 c)) = true := by apply all_bytes; decide +kernel
  intro h
  have := key c
  rw [h] at this
  simpa using this
theorem attrP_back {p : List UInt8 × List UInt8} (hn : nameB p.1 = true) (r : List UInt8) : attrP (p.1 ++ [61, 34] ++ esc p.2 ++ [34] ++ r) = some (p, r) := by
  obtain ⟨_, _, h3⟩ := name_all hn
  have e : p.1 ++ [61, 34] ++ esc p.2 ++ [34] ++ r = p.1 ++ 61 :: (34 :: (esc p.2 ++ 34 :: r)) := by simp
  obtain ⟨w1, w2⟩ := wd_stop (p := isC 61) (a := p.1) (c := 61) (r := 34 :: (esc p.2 ++ 34 :: r)) (fun x hx => (ins_sp x (h3 x hx)).2) rfl
  obtain ⟨w3, w4⟩ := wd_stop (p := isC 34) (a := esc p.2) (c := 34) (r := r) (fun x hx => (bad_q x (esc_bad x hx)).1) rfl
  unfold attrP
  rw [e, w1, w2]
  simp only [w3, w4, unescQ_of_esc]
theorem attrsP_back {r : List UInt8} (hr : ∀ q, r ≠ 32 :: q) : ∀ {l : List (List UInt8 × List UInt8)} {f : Nat}, (∀ p ∈ l, nameB p.1 = true) → l.length < f → attrsP f (attrT l ++ r) = some (l, r)
  | _, 0, _, hf => by omega
  | [], f + 1, _, _ => by
    show attrsP (f + 1) r = _
    unfold attrsP
    split
    · rename_i q; exact absurd rfl (hr q)
    · rfl
  | p :: l, f + 1, hn, hf => by
    have e : attrT (p :: l) ++ r = 32 :: (p.1 ++ [61, 34] ++ esc p.2 ++ [34] ++ (attrT l ++ r)) := by
      unfold attrT; rw [List.flatMap_cons]; simp
    rw [e]
    unfold attrsP
    simp only [attrP_back (hn p (List.mem_cons_self ..))]
    rw [attrsP_back hr (l := l) (fun q hq => hn q (List.mem_cons_of_mem _ hq)) (by simpa using hf)]
    rfl
theorem attrT_length (l : List (List UInt8 × List UInt8)) : l.length ≤ (attrT l).length := by
  induction l with
  | nil => simp
  | cons p l ih =>
    unfold attrT at ih ⊢
    rw [List.flatMap_cons, List.length_append, List.length_cons]
    simp only [List.length_append, List.length_cons, List.length_nil]
    omega
theorem headP_back {a : List (List UInt8 × List UInt8)} (ha : ∀ p ∈ a, nameB p.1 = true) (t q : List UInt8) : headP (attrT a ++ ([62] ++ esc t) ++ 60 :: q) = some (a, t, 60 :: q) := by
  have e : attrT a ++ ([62] ++ esc t) ++ 60 :: q = attrT a ++ 62 :: (esc t ++ 60 :: q) := by simp
  have hl := attrT_length a
  obtain ⟨w1, w2⟩ := wd_stop (p := isC 60) (a := esc t) (c := 60) (r := q) (fun x hx => (bad_q x (esc_bad x hx)).2) rfl
  unfold headP
  rw [e, attrsP_back (r := 62 :: (esc t ++ 60 :: q)) (fun q h => by injection h with h _; exact absurd h (by decide)) ha (by rw [List.length_append]; omega)]
  simp only [w1, w2, unescQ_of_esc]
theorem attrs_names {a : List (List UInt8 × List UInt8)} (h : attrsB a = true) : ∀ p ∈ a, nameB p.1 = true ∧ shwB p.2 = true := by
  intro p hp
  obtain ⟨i, hi, rfl⟩ := List.getElem_of_mem hp
  unfold attrsB at h
  have := List.all_eq_true.1 h i (List.mem_range.2 hi)
  unfold attrOk at this
  simp only [Bool.and_eq_true] at this
  have e : a.getD i default = a[i] := by simp [hi]
  rw [e] at this
  exact this.1
theorem let47 (c : UInt8) : letC c = true → c ≠ 47 := by
  have key : ∀ c : UInt8, (!letC c || decide (c ≠ 47)) = true := by apply all_bytes; decide +kernel
  intro h
  have := key c
  rw [h] at this
  simpa using this
theorem ownN_name {x : Nd} (h : ownN x = true) : ∀ r, ∃ c q, textN x ++ r = 60 :: c :: q ∧ c ≠ 47 := by
  match x, h with
  | .mk n a t k, h =>
    intro r
    simp only [ownN, Bool.and_eq_true] at h
    obtain ⟨h1, h2, _⟩ := name_all h.1.1.1.1
    match n, h1, h2 with
    | c :: n, _, h2 => exact ⟨c, n ++ (attrT a ++ 62 :: (esc t ++ (textL k ++ 60 :: 47 :: c :: (n ++ 62 :: r)))), by rw [textN]; simp, let47 c (by simpa using h2)⟩
theorem dpL_mem {D : Nat} : ∀ {l : List Nd}, dpL l ≤ D → ∀ x ∈ l, dpN x ≤ D
  | [], _, x, hx => by cases hx
  | y :: l, h, x, hx => by
    rw [dpL] at h
    rcases List.mem_cons.1 hx with rfl | hx
    · omega
    · exact dpL_mem (by omega) x hx
theorem ownL_mem : ∀ {l : List Nd}, ownL l = true → ∀ x ∈ l, ownN x = true
  | [], _, x, hx => by cases hx
  | y :: l, h, x, hx => by
    rw [ownL, Bool.and_eq_true] at h
    rcases List.mem_cons.1 hx with rfl | hx
    · exact h.1
    · exact ownL_mem h.2 x hx
theorem textL_length : ∀ (l : List Nd), l.length ≤ (textL l).length
  | [] => by simp
  | x :: l => by
    have ih := textL_length l
    have : 0 < (textN x).length := by
      cases x with
      | mk n a t k => rw [textN]; simp only [List.length_append, List.length_cons]; omega
    rw [textL, List.length_append, List.length_cons]
    omega
theorem kidsP_back {e : List UInt8 → Option (Nd × List UInt8)} {n r : List UInt8} : ∀ {l : List Nd} {f : Nat}, (∀ x ∈ l, ownN x = true) → (∀ x ∈ l, ∀ r, e (textN x ++ r) = some (x, r)) → l.length < f → kidsP e f (textL l ++ (closeT n ++ r)) = some (l, closeT n ++ r)
  | _, 0, _, _, hf => by omega
  | [], f + 1, _, _, _ => by
    unfold kidsP
    rw [if_pos (by simp [textL, closeT])]
    simp [textL]
  | x :: l, f + 1, ho, he, hf => by
    obtain ⟨c, q, h1, h2⟩ := ownN_name (ho x (List.mem_cons_self ..)) (textL l ++ (closeT n ++ r))
    have e1 : textL (x :: l) ++ (closeT n ++ r) = textN x ++ (textL l ++ (closeT n ++ r)) := by rw [textL, List.append_assoc]
    unfold kidsP
    rw [e1, if_neg (by
      rw [h1]
      intro h
      simp [List.isPrefixOf] at h
      exact h2 h.symm), he x (List.mem_cons_self ..)]
    simp only
    rw [kidsP_back (l := l) (fun y hy => ho y (List.mem_cons_of_mem _ hy)) (fun y hy => he y (List.mem_cons_of_mem _ hy)) (by simpa using hf)]
    rfl
theorem elemP_back : ∀ {D : Nat} {x : Nd}, dpN x ≤ D → ownN x = true → ∀ r, elemP D (textN x ++ r) = some (x, r)
  | 0, .mk _ _ _ _, h, _, _ => by rw [dpN] at h; omega
  | D + 1, .mk n a t k, hd, ho, r => by
    rw [dpN] at hd
    have ho' := ho
    simp only [ownN, Bool.and_eq_true] at ho
    obtain ⟨⟨⟨⟨h1, _⟩, _⟩, h4⟩, h5⟩ := ho
    obtain ⟨_, _, hn⟩ := name_all h1
    have hat := attrs_names h4
    have hkb := kidsP_back (e := elemP D) (n := n) (r := r) (l := k) (f := (textL k ++ (closeT n ++ r)).length + 1) (ownL_mem h5) (fun x hx r => elemP_back (dpL_mem (by omega) x hx) (ownL_mem h5 x hx) r) (by
      have := textL_length k
      rw [List.length_append]; omega)
    -- the text behind the name
    obtain ⟨q, hq⟩ : ∃ q, textL k ++ (closeT n ++ r) = 60 :: q := by
      cases k with
      | nil => exact ⟨47 :: (n ++ 62 :: r), by simp [textL, closeT]⟩
      | cons y l =>
        obtain ⟨c, q, h, _⟩ := ownN_name (ownL_mem h5 y (List.mem_cons_self ..)) (textL l ++ (closeT n ++ r))
        exact ⟨_, by rw [textL, List.append_assoc, h]⟩
    obtain ⟨d, u, hu, hd'⟩ : ∃ d u, attrT a ++ ([62] ++ esc t) ++ (textL k ++ (closeT n ++ r)) = d :: u ∧ isSp d = true := by
      cases a with
      | nil => exact ⟨62, esc t ++ (textL k ++ (closeT n ++ r)), by simp [attrT], rfl⟩
      | cons p l => exact ⟨32, p.1 ++ [61, 34] ++ esc p.2 ++ [34] ++ (attrT l ++ ([62] ++ esc t) ++ (textL k ++ (closeT n ++ r))), by simp [attrT], rfl⟩
    have e1 : textN (.mk n a t k) ++ r = 60 :: (n ++ (attrT a ++ ([62] ++ esc t) ++ (textL k ++ (closeT n ++ r)))) := by
      rw [textN]; simp [closeT]
    obtain ⟨w1, w2⟩ := wd_stop (p := isSp) (a := n) (c := d) (r := u) (fun x hx => (ins_sp x (hn x hx)).1) hd'
    have hh := headP_back (a := a) (fun p hp => (hat p hp).1) t q
    rw [← hq] at hh
    unfold elemP
    rw [e1]
    simp only
    rw [hu] 
    simp only [w1, w2]
    rw [← hu, hh]
    simp only
    rw [hkb]
    simp only
    rw [if_pos (by rw [List.isPrefixOf_iff_prefix]; exact ⟨r, rfl⟩)]
    simp
end Go.Xml
/-
  The reader: take, word, attrs.
-/
namespace Go.Proofs.YtgfbieplidpebaaDoor
open Go.Eng Go.Pct Go.Xml Go.Rsp
set_option maxRecDepth 10000
set_option linter.unusedSimpArgs false
set_option linter.unusedVariables false

variable {M : Ghost} {w0 w : World} {bs : List Nat} {H : List (Nat × Obj)}
/-- a reading's cells -/
def readO (s : List UInt8) (left : Int) : Obj := .cells [str s, i64 left].toArray 84 (0, 0)
theorem idxAny_wd (chars : List UInt8) (p : UInt8 → Bool) (hp : ∀ c, chars.contains c = p c) : ∀ s : List UInt8, (Lib.indexAny s chars = -1 ∧ wd p s = s ∧ rs p s = []) ∨ ∃ i : Nat, Lib.indexAny s chars = (i : Int) ∧ i ≤ s.length ∧ s.take i = wd p s ∧ s.drop i = rs p s
  | [] => .inl ⟨rfl, rfl, rfl⟩
  | c :: r => by
    unfold wd rs
    by_cases h : p c = true
    · refine .inr ⟨0, ?_, by omega, by simp [h], by simp [h]⟩
      simp only [Lib.indexAny]; rw [if_pos (by rw [hp]; exact h)]; rfl
    · have h' : p c = false := by simpa using h
      rcases idxAny_wd chars p hp r with ⟨h1, h2, h3⟩ | ⟨i, h1, h2, h3, h4⟩
      · refine .inl ⟨?_, ?_, ?_⟩
        · simp only [Lib.indexAny]; rw [if_neg (by rw [hp]; exact h), h1]; rfl
        · unfold wd at h2; simp [h', h2]
        · unfold rs at h3; simp [h', h3]
      · refine .inr ⟨i + 1, ?_, by simpa using h2, ?_, ?_⟩
        · simp only [Lib.indexAny]; rw [if_neg (by rw [hp]; exact h), h1]
          have : ¬ ((i : Int) == -1) = true := by simp
          rw [if_neg this]; rfl
        · unfold wd at h3; simp [h', h3]
        · unfold rs at h4; simp [h', h4]
theorem take_ok {s x : List UInt8} {left : Int} {b : Nat} (hw : St w0 bs ((b, readO s left) :: H) M w) : Calls Tryd.prog 57 #[.pointer (some ⟨b, 0, none⟩), str x] w (RetC (St w0 bs ((b, readO (cutP s x) left) :: H) M) (.bool (Lib.hasPrefix s x))) := by
  refine calls_lent (C := St w0 bs ((b, readO s left) :: H) M) (l := [.pointer (some ⟨b, 0, none⟩), str x]) hw Tryd.func57 rfl rfl rfl (E0 := [(0, true, .pointer (some ⟨b, 0, none⟩)), (1, true, str x)]) (params_cons rfl (params_cons rfl (params_nil _))) ?_
  clear hw
  unfold readO
  repeat' (first | (first | refine wc_seq ?_ | refine wc_region ?_ | refine wl_nil ?_ | refine wn_seq ?_ | refine wn_blk ?_ | refine wc_skip ?_ | refine wc_scope ?_ | refine wc_label ?_ | refine wn_noGoto ?_ | refine wc_block ?_ | refine wc_exit rfl ?_ | (show WL _ _ (_ :: _) _ _ _ _; first | refine yl_v rfl rfl rfl ?_ | refine wl_v rfl rfl rfl (by first | ((show OpV _ _ _ _ (Oper.mk _ (Op.call ⟨.value (.func 66), _, _⟩) _ _ _ _) _ _; exact ov_call Tryd.call66 rfl (by intro himp; first | rfl | (simp_all; done)) (by rfl) (fun _ _ h k => h.ext k) (fun hcg w hw => cutprefix_ok hw.laid s x))) | fail) ?_ | refine xl_alloc (fun _ => ?_) | refine xl_box rfl (fun _ => ?_) | refine xl_store rfl rfl ?_ | refine xl_buildSlice rfl (fun _ => ?_) | refine wl_makeMap rfl rfl (fun _ => ?_) | refine wl_insert rfl rfl rfl rfl rfl rfl (by first | exact rfl | exact trivial) (by first | exact Upd.here | exact Upd.there Upd.here | exact Upd.there (Upd.there Upd.here) | exact Upd.there (Upd.there (Upd.there Upd.here)) | exact Upd.there (Upd.there (Upd.there (Upd.there Upd.here))) | exact Upd.app _ (Upd.here) | exact Upd.app _ (Upd.there Upd.here) | exact Upd.app _ (Upd.there (Upd.there Upd.here)) | exact Upd.app _ (Upd.there (Upd.there (Upd.there Upd.here))) | exact Upd.there (Upd.app _ (Upd.here)) | exact Upd.there (Upd.app _ (Upd.there Upd.here)) | exact Upd.there (Upd.app _ (Upd.there (Upd.there Upd.here))) | exact Upd.there (Upd.app _ (Upd.there (Upd.there (Upd.there Upd.here)))) | exact Upd.there (Upd.there (Upd.app _ (Upd.here))) | exact Upd.there (Upd.there (Upd.app _ (Upd.there Upd.here))) | exact Upd.there (Upd.there (Upd.app _ (Upd.there (Upd.there Upd.here))))) (by rfl) ?_) | refine wc_ret rfl ?_) | (show WC _ (Code.cond _ _ _) _ _ _ _; (refine wc_cond rfl (fun hc => ?_) (fun hc => ?_) <;> (try (simp only [decide_eq_true_eq, decide_eq_false_iff_not, Bool.and_eq_true, Bool.or_eq_true, Bool.and_eq_false_iff, Bool.or_eq_false_iff, Bool.not_eq_true', Bool.not_eq_false', Int.not_lt, Int.not_le] at hc)) <;> (try (exfalso; first | omega | contradiction)))))
  exact wrl_tmp rfl rfl rfl (fun _ h => h)
theorem word_ok {s chars : List UInt8} {left : Int} {b : Nat} (p : UInt8 → Bool) (hp : ∀ c, chars.contains c = p c) (hs : s.length < 4294967281) (hca : ∀ c ∈ chars, c.toNat < 128) (h0 : chars ≠ []) (hl : chars.length ≤ 100) (hw : St w0 bs ((b, readO s left) :: H) M w) : Calls Tryd.prog 58 #[.pointer (some ⟨b, 0, none⟩), str chars] w (RetC (St w0 bs ((b, readO (rs p s) left) :: H) M) (str (wd p s))) := by
  have hia := fun {w : World} (hw : Laid M w) => iany_ok hw s chars hs hca h0 hl
  refine calls_lent (C := St w0 bs ((b, readO s left) :: H) M) (l := [.pointer (some ⟨b, 0, none⟩), str chars]) hw Tryd.func58 rfl rfl rfl (E0 := [(0, true, .pointer (some ⟨b, 0, none⟩)), (1, true, str chars)]) (params_cons rfl (params_cons rfl (params_nil _))) ?_
  clear hw
  unfold readO
  rcases idxAny_wd chars p hp s with ⟨h1, h2, h3⟩ | ⟨i, h1, h2, h3, h4⟩
  · rw [h1] at hia
    rw [h2, h3]
    repeat' (first | (first | refine wc_seq ?_ | refine wc_region ?_ | refine wl_nil ?_ | refine wn_seq ?_ | refine wn_blk ?_ | refine wc_skip ?_ | refine wc_scope ?_ | refine wc_label ?_ | refine wn_noGoto ?_ | refine wc_block ?_ | refine wc_exit rfl ?_ | (show WL _ _ (_ :: _) _ _ _ _; first | refine yl_v rfl rfl rfl ?_ | refine wl_v rfl rfl rfl (by first | ((show OpV _ _ _ _ (Oper.mk _ (Op.call ⟨.value (.func 67), _, _⟩) _ _ _ _) _ _; exact ov_call Tryd.call67 rfl (by intro himp; first | rfl | (simp_all; done)) (by rfl) (fun _ _ h k => h.ext k) (fun hcg w hw => hia hw.laid))) | fail) ?_ | refine xl_alloc (fun _ => ?_) | refine xl_box rfl (fun _ => ?_) | refine xl_store rfl rfl ?_ | refine xl_buildSlice rfl (fun _ => ?_) | refine wl_makeMap rfl rfl (fun _ => ?_) | refine wl_insert rfl rfl rfl rfl rfl rfl (by first | exact rfl | exact trivial) (by first | exact Upd.here | exact Upd.there Upd.here | exact Upd.there (Upd.there Upd.here) | exact Upd.there (Upd.there (Upd.there Upd.here)) | exact Upd.there (Upd.there (Upd.there (Upd.there Upd.here))) | exact Upd.app _ (Upd.here) | exact Upd.app _ (Upd.there Upd.here) | exact Upd.app _ (Upd.there (Upd.there Upd.here)) | exact Upd.app _ (Upd.there (Upd.there (Upd.there Upd.here))) | exact Upd.there (Upd.app _ (Upd.here)) | exact Upd.there (Upd.app _ (Upd.there Upd.here)) | exact Upd.there (Upd.app _ (Upd.there (Upd.there Upd.here))) | exact Upd.there (Upd.app _ (Upd.there (Upd.there (Upd.there Upd.here)))) | exact Upd.there (Upd.there (Upd.app _ (Upd.here))) | exact Upd.there (Upd.there (Upd.app _ (Upd.there Upd.here))) | exact Upd.there (Upd.there (Upd.app _ (Upd.there (Upd.there Upd.here))))) (by rfl) ?_) | refine wc_ret rfl ?_) | (show WC _ (Code.cond _ _ _) _ _ _ _; (refine wc_cond rfl (fun hc => ?_) (fun hc => ?_) <;> (try (simp only [decide_eq_true_eq, decide_eq_false_iff_not, Bool.and_eq_true, Bool.or_eq_true, Bool.and_eq_false_iff, Bool.or_eq_false_iff, Bool.not_eq_true', Bool.not_eq_false', Int.not_lt, Int.not_le] at hc)) <;> (try (exfalso; first | omega | contradiction)))))
    exact wrl_tmp rfl rfl (by rw [List.take_length]) (fun _ h => by rw [List.drop_length] at h; exact h)
  · rw [h1] at hia
    rw [← h3, ← h4]
    repeat' (first | (first | refine wc_seq ?_ | refine wc_region ?_ | refine wl_nil ?_ | refine wn_seq ?_ | refine wn_blk ?_ | refine wc_skip ?_ | refine wc_scope ?_ | refine wc_label ?_ | refine wn_noGoto ?_ | refine wc_block ?_ | refine wc_exit rfl ?_ | (show WL _ _ (_ :: _) _ _ _ _; first | refine yl_v rfl rfl rfl ?_ | refine wl_v rfl rfl rfl (by first | ((show OpV _ _ _ _ (Oper.mk _ (Op.call ⟨.value (.func 67), _, _⟩) _ _ _ _) _ _; exact ov_call Tryd.call67 rfl (by intro himp; first | rfl | (simp_all; done)) (by rfl) (fun _ _ h k => h.ext k) (fun hcg w hw => hia hw.laid))) | fail) ?_ | refine xl_alloc (fun _ => ?_) | refine xl_box rfl (fun _ => ?_) | refine xl_store rfl rfl ?_ | refine xl_buildSlice rfl (fun _ => ?_) | refine wl_makeMap rfl rfl (fun _ => ?_) | refine wl_insert rfl rfl rfl rfl rfl rfl (by first | exact rfl | exact trivial) (by first | exact Upd.here | exact Upd.there Upd.here | exact Upd.there (Upd.there Upd.here) | exact Upd.there (Upd.there (Upd.there Upd.here)) | exact Upd.there (Upd.there (Upd.there (Upd.there Upd.here))) | exact Upd.app _ (Upd.here) | exact Upd.app _ (Upd.there Upd.here) | exact Upd.app _ (Upd.there (Upd.there Upd.here)) | exact Upd.app _ (Upd.there (Upd.there (Upd.there Upd.here))) | exact Upd.there (Upd.app _ (Upd.here)) | exact Upd.there (Upd.app _ (Upd.there Upd.here)) | exact Upd.there (Upd.app _ (Upd.there (Upd.there Upd.here))) | exact Upd.there (Upd.app _ (Upd.there (Upd.there (Upd.there Upd.here)))) | exact Upd.there (Upd.there (Upd.app _ (Upd.here))) | exact Upd.there (Upd.there (Upd.app _ (Upd.there Upd.here))) | exact Upd.there (Upd.there (Upd.app _ (Upd.there (Upd.there Upd.here))))) (by rfl) ?_) | refine wc_ret rfl ?_) | (show WC _ (Code.cond _ _ _) _ _ _ _; (refine wc_cond rfl (fun hc => ?_) (fun hc => ?_) <;> (try (simp only [decide_eq_true_eq, decide_eq_false_iff_not, Bool.and_eq_true, Bool.or_eq_true, Bool.and_eq_false_iff, Bool.or_eq_false_iff, Bool.not_eq_true', Bool.not_eq_false', Int.not_lt, Int.not_le] at hc)) <;> (try (exfalso; first | omega | contradiction)))))
    exact wrl_tmp rfl rfl rfl (fun _ h => h)
/-- what a reading that is lent ends in: what is left of it, what is laid for good -/
def RetX (w0 : World) (H : List (Nat × Obj)) (M : Ghost) (b : Nat) (R : Ghost → List UInt8 → Int → Value → Prop) : Ending → World → Prop := fun e w' => ∃ v M' s' left', e = .returned v ∧ (∀ b o, M b o → M' b o) ∧ (∀ k o, M' k o → M k o ∨ w0.heap.size ≤ k) ∧ St w0 [] ((b, readO s' left') :: H) M' w' ∧ R M' s' left' v
section
variable {P : Program} {n : Nat} {E : Env} {k : Kont} {ops : Array Oper} {rest : List Oper} {C : World → Prop}
variable {dst : Option Tmp} {ty : TypeId} {pos : String} {af : Array Edge} {g : Option (Nat × Bool)}
theorem wl_callX {b : Nat} {R : Ghost → List UInt8 → Int → Value → Prop} {f : FuncId} {l : List Operand} {ats : Array TypeId} {vs : List (Bool × Value)} {args : Array Value} {d : Nat}
    (hg : gd ops E g = some true) (hf : ∀ args w, (callFunc f args).run P w = .ok (.enter f args) w) (hl : evg true E l = some vs) (hp : vs.all (·.1) = true) (hargs : vs.map (·.2) = args.toList) (hd : Nat.blt d n = true)
    (hc : ∀ w, C w → Calls P f args w (RetX w0 H M b R))
    (h : ∀ v M' s' left', (∀ b o, M b o → M' b o) → (∀ b o, M' b o → M b o ∨ w0.heap.size ≤ b) → R M' s' left' v → WL P ops rest n ((d, true, v) :: E) (St w0 [] ((b, readO s' left') :: H) M') k) :
    WL P ops (⟨some d, .call ⟨.value (.func f), l.toArray, ats⟩, ty, pos, af, g⟩ :: rest) n E C k := by
  have hd : d < n := by simpa [Nat.blt_eq] using hd
  refine wl_op hg fun a w ha hw => ?_
  unfold Oper.wp
  rw [run_callf hf (args := args) (by rw [evg_eval ha hl (by simpa using hp), hargs]), Oper.upon_enter]
  refine (hc w hw).mono ?_
  rintro e w' ⟨v, M', s', left', rfl, h1, h2, h3, h4⟩
  exact (h v M' s' left' h1 h2 h4).run _ w' (ha.put hd rfl) h3
theorem retX_lay {H1 Hn : List (Nat × Obj)} {M0 : Ghost} {b : Nat} {s' : List UInt8} {left' : Int} {v : Value} {R : Ghost → List UInt8 → Int → Value → Prop} (hw : St w0 [] H1 M w) (hs : Since w0 M0 M) (hH : (Hn ++ ((b, readO s' left') :: H)).Sublist H1) (hR : R (With M Hn) s' left' v) : RetX w0 H M0 b R (.returned v) w := by
  have hw2 := hw.drop hH
  refine ⟨_, With M Hn, s', left', rfl, fun b o h => .inl (hs.1 b o h), fun b o h => ?_, hw2.publish, hR⟩
  rcases h with h | h
  · exact hs.2 b o h
  · rcases hw2.new (b, o) (List.mem_append_left _ h) with h3 | h3
    · exact .inr h3
    · cases h3
theorem wrx_lay2 {H1 Hn : List (Nat × Obj)} {M0 : Ghost} {b : Nat} {s' : List UInt8} {left' : Int} {R : Ghost → List UInt8 → Int → Value → Prop} {fn : Func} {t u : Nat} {v' r' : Value} (hr : fn.results = #[.tmp t, .tmp u]) (ht : Eng.look E t = some (true, v')) (hu : Eng.look E u = some (true, r'))
    (hs : Since w0 M0 M) (hH : (Hn ++ ((b, readO s' left') :: H)).Sublist H1) (hR : R (With M Hn) s' left' (.tuple #[v', r'])) : WR n E (St w0 [] H1 M) (bodyPost P fn (RetX w0 H M0 b R)) := ⟨fun a w ha hw => by
  have h1 := ha.reads t true v' ht
  have h2 := ha.reads u true r' hu
  refine bodyPost_ret (v := .tuple #[v', r']) ?_ ha.defers (retX_lay hw hs hH hR)
  rw [results_tmp2 hr]
  simp [h1, h2]⟩
theorem wrx_layC2 {H1 Hn : List (Nat × Obj)} {M0 : Ghost} {b c : Nat} {s' : List UInt8} {left' : Int} {R : Ghost → List UInt8 → Int → Value → Prop} {fn : Func} {t u : Nat} {tid : TypeId} {fs : Array Field} {l : List Value} {T : TypeId} {fz : Nat × Nat} {r : Value} (hr : fn.results = #[.cell t tid, .tmp u]) (ht : Eng.look E t = some (true, .pointer (some ⟨c, 0, none⟩))) (hu : Eng.look E u = some (true, r))
    (hty : P.underlying tid = some (.struct fs)) (hm : (c, Obj.cells l.toArray T fz) ∈ H1) (hsz : (P.info? tid).map (·.size) = some l.length)
    (hs : Since w0 M0 M) (hH : (Hn ++ ((b, readO s' left') :: H)).Sublist H1) (hR : R (With M Hn) s' left' (.tuple #[.agg l.toArray, r])) : WR n E (St w0 [] H1 M) (bodyPost P fn (RetX w0 H M0 b R)) := ⟨fun a w ha hw =>
  bodyPost_ret (run_cellRes2 hw ha ht hu hty hm hsz hr) ha.defers (retX_lay hw hs hH hR)⟩
end
end Go.Proofs.YtgfbieplidpebaaDoor
/-
  The reader's attributes.
-/
namespace Go.Proofs.YtgfbieplidpebaaDoor
open Go.Eng Go.Pct Go.Xml Go.Rsp
set_option maxRecDepth 10000
set_option linter.unusedSimpArgs false
set_option linter.unusedVariables false

variable {M : Ghost} {w0 w : World} {bs : List Nat} {H : List (Nat × Obj)}
theorem isC_at (d c : UInt8) : ([d] : List UInt8).contains c = isC d c := by
  rw [isC]; by_cases h : c = d <;> simp [h]
theorem pre1 {d : UInt8} {s : List UInt8} : (Lib.hasPrefix s [d] = true ∧ ∃ r, s = d :: r) ∨ (Lib.hasPrefix s [d] = false ∧ ∀ r, s ≠ d :: r) := by
  unfold Lib.hasPrefix
  match s with
  | [] => exact .inr ⟨rfl, fun r h => by cases h⟩
  | c :: r =>
    by_cases h : d = c
    · subst h; exact .inl ⟨by simp [List.isPrefixOf], r, rfl⟩
    · refine .inr ⟨by simp [List.isPrefixOf, h], fun q e => ?_⟩
      injection e with e _; exact h e.symm
theorem pre2 {d e : UInt8} {s : List UInt8} : (Lib.hasPrefix s [d, e] = true ∧ ∃ r, s = d :: e :: r) ∨ (Lib.hasPrefix s [d, e] = false ∧ ∀ r, s ≠ d :: e :: r) := by
  unfold Lib.hasPrefix
  match s with
  | [] => exact .inr ⟨rfl, fun r h => by cases h⟩
  | [c] => exact .inr ⟨by simp [List.isPrefixOf], fun r h => by cases h⟩
  | c :: f :: r =>
    by_cases h : d = c ∧ e = f
    · obtain ⟨rfl, rfl⟩ := h; exact .inl ⟨by simp [List.isPrefixOf], r, rfl⟩
    · refine .inr ⟨?_, fun q e' => ?_⟩
      · rw [Bool.eq_false_iff]; intro h1
        simp [List.isPrefixOf] at h1
        exact h ⟨h1.1, h1.2⟩
      · injection e' with e1 e2; injection e2 with e2 _; exact h ⟨e1.symm, e2.symm⟩
theorem cutP_yes {s p r : List UInt8} (h : Lib.hasPrefix s p = true) (he : s = p ++ r) : cutP s p = r := by
  unfold cutP; rw [if_pos h, he, List.drop_left]
theorem attrP_no1 {r : List UInt8} (h : ∀ q, rs (isC 61) r ≠ 61 :: 34 :: q) : attrP r = none := by
  unfold attrP
  split
  · rename_i q e; exact absurd e (h q)
  · rfl
theorem attrP_no2 {r r2 : List UInt8} (h : rs (isC 61) r = 61 :: 34 :: r2) (h2 : unescQ (wd (isC 34) r2) = none) : attrP r = none := by
  unfold attrP; rw [h]; simp only [h2]
theorem attrP_no3 {r r2 v : List UInt8} (h : rs (isC 61) r = 61 :: 34 :: r2) (h2 : unescQ (wd (isC 34) r2) = some v) (h3 : ∀ q, rs (isC 34) r2 ≠ 34 :: q) : attrP r = none := by
  unfold attrP; rw [h]; simp only [h2]
theorem attrP_yes {r r2 v r4 : List UInt8} (h : rs (isC 61) r = 61 :: 34 :: r2) (h2 : unescQ (wd (isC 34) r2) = some v) (h3 : rs (isC 34) r2 = 34 :: r4) : attrP r = some ((wd (isC 61) r, v), r4) := by
  unfold attrP; rw [h]; simp only [h2]; rw [h3]; rfl
theorem unescQ_len {v u : List UInt8} (h : unescQ v = some u) : u.length ≤ v.length := by
  rw [← esc_of_unescQ _ (Nat.le_refl _) h]
  have key : ∀ c : UInt8, 1 ≤ (esc1 c).length := by apply all_bytes; decide +kernel
  unfold esc
  clear h
  induction u with
  | nil => simp
  | cons c u ih => rw [List.flatMap_cons, List.length_append, List.length_cons]; have := key c; omega
theorem take_no {s x : List UInt8} {left : Int} {b : Nat} (h : Lib.hasPrefix s x = false) (hw : St w0 bs ((b, readO s left) :: H) M w) : Calls Tryd.prog 57 #[.pointer (some ⟨b, 0, none⟩), str x] w (RetC (St w0 bs ((b, readO s left) :: H) M) (.bool false)) := by
  have := take_ok (x := x) hw
  unfold cutP at this
  rw [h, if_neg (by decide)] at this
  exact this
theorem take_yes {s x r : List UInt8} {left : Int} {b : Nat} (h : s = x ++ r) (hw : St w0 bs ((b, readO s left) :: H) M w) : Calls Tryd.prog 57 #[.pointer (some ⟨b, 0, none⟩), str x] w (RetC (St w0 bs ((b, readO r left) :: H) M) (.bool true)) := by
  have := take_ok (x := x) hw
  have hp : Lib.hasPrefix s x = true := by unfold Lib.hasPrefix; rw [List.isPrefixOf_iff_prefix]; exact ⟨r, h.symm⟩
  rw [cutP_yes hp h, hp] at this
  exact this
/-- as far as the attributes have been read -/
structure AQ (s : List UInt8) where
  f : Nat
  cur : List UInt8
  acc : List Pr
  v : Value
  Hs : List (Nat × Obj)
  fuel : cur.length ≤ f
  inv : attrsP (s.length + 1) s = (attrsP (f + 1) cur).map fun x => (acc ++ x.1, x.2)
  len : acc.length + cur.length ≤ s.length
  own : OwnS 57 2 v Hs (cellsP acc)
/-- what the attributes yield -/
def AttrsIs (s : List UInt8) (left : Int) (M' : Ghost) (s' : List UInt8) (left' : Int) (v : Value) : Prop :=
  match attrsP (s.length + 1) s with
  | some (l, r) => ∃ hv, v = .tuple #[hv, .bool true] ∧ SlP M' hv l ∧ s' = r ∧ left' = left
  | none => v = .tuple #[.slice none 0 0, .bool false]
set_option maxHeartbeats 2000000 in
theorem rattrs_ok (hG : Glob M) {s : List UInt8} {left : Int} {b : Nat} (hs : s.length ≤ 1000000000) (hw : St w0 [] ((b, readO s left) :: H) M w) : Calls Tryd.prog 59 #[.pointer (some ⟨b, 0, none⟩)] w (RetX w0 H M b (AttrsIs s left)) := by
  refine calls_lent (C := St w0 [] ((b, readO s left) :: H) M) (l := [.pointer (some ⟨b, 0, none⟩)]) hw Tryd.func59 rfl rfl rfl (E0 := [(0, true, .pointer (some ⟨b, 0, none⟩))]) (params_cons rfl (params_nil _)) ?_
  clear hw
  repeat' (first | (first | refine wc_seq ?_ | refine wc_region ?_ | refine wl_nil ?_ | refine wn_seq ?_ | refine wn_blk ?_ | refine wc_skip ?_ | refine wc_scope ?_ | refine wc_label ?_ | refine wn_noGoto ?_ | refine wc_block ?_ | refine wc_exit rfl ?_ | (show WL _ _ (_ :: _) _ _ _ _; first | refine yl_v rfl rfl rfl ?_ | refine wl_v rfl rfl rfl (by first  | fail) ?_ | refine xl_alloc (fun _ => ?_) | refine xl_box rfl (fun _ => ?_) | refine xl_store rfl rfl ?_ | refine xl_buildSlice rfl (fun _ => ?_) | refine wl_makeMap rfl rfl (fun _ => ?_) | refine wl_insert rfl rfl rfl rfl rfl rfl (by first | exact rfl | exact trivial) (by first | exact Upd.here | exact Upd.there Upd.here | exact Upd.there (Upd.there Upd.here) | exact Upd.there (Upd.there (Upd.there Upd.here)) | exact Upd.there (Upd.there (Upd.there (Upd.there Upd.here))) | exact Upd.app _ (Upd.here) | exact Upd.app _ (Upd.there Upd.here) | exact Upd.app _ (Upd.there (Upd.there Upd.here)) | exact Upd.app _ (Upd.there (Upd.there (Upd.there Upd.here))) | exact Upd.there (Upd.app _ (Upd.here)) | exact Upd.there (Upd.app _ (Upd.there Upd.here)) | exact Upd.there (Upd.app _ (Upd.there (Upd.there Upd.here))) | exact Upd.there (Upd.app _ (Upd.there (Upd.there (Upd.there Upd.here)))) | exact Upd.there (Upd.there (Upd.app _ (Upd.here))) | exact Upd.there (Upd.there (Upd.app _ (Upd.there Upd.here))) | exact Upd.there (Upd.there (Upd.app _ (Upd.there (Upd.there Upd.here))))) (by rfl) ?_) | refine wc_ret rfl ?_) | (show WC _ (Code.cond _ _ _) _ _ _ _; (refine wc_cond rfl (fun hc => ?_) (fun hc => ?_) <;> (try (simp only [decide_eq_true_eq, decide_eq_false_iff_not, Bool.and_eq_true, Bool.or_eq_true, Bool.and_eq_false_iff, Bool.or_eq_false_iff, Bool.not_eq_true', Bool.not_eq_false', Int.not_lt, Int.not_le] at hc)) <;> (try (exfalso; first | omega | contradiction)))))
  refine wc_loop (α := AQ s) (fun x => [(0, true, .pointer (some ⟨b, 0, none⟩)), (4, true, x.v)]) (fun x => St w0 [] ((b, .cells [str x.cur, i64 left].toArray 84 (0, 0)) :: (x.Hs ++ H)) M) (fun x => x.f) ⟨s.length, s, [], .slice none 0 0, [], Nat.le_refl _, by simp, by simp, OwnS.nil⟩ (by first | exact Sub.nil _ | (repeat (first | exact Sub.nil _ | refine Sub.cons (by first | rfl | (simp [look]; done)) ?_))) (fun _ h => h) ?_
  rintro ⟨f, cur, acc, v, Hs, fuel, inv, hlen, own⟩
  dsimp only
  obtain ⟨va, vcap, rfl⟩ := own.slice (k := acc.length) (by decide) (cellsP_length _)
  have hpx := fun {w : World} (hw : Laid M w) => prefix_ok hw cur [32]
  have back : ∀ {r : List UInt8}, ∀ w', St w0 [] ((b, readO r left) :: (Hs ++ H)) M w' → St w0 [] (Hs ++ ((b, readO r left) :: H)) M w' := fun w' h => h.perm List.perm_middle
  have bad : attrsP (s.length + 1) s = none → AttrsIs s left (With M []) [] 0 (.tuple #[.slice none 0 0, .bool false]) := fun h => by unfold AttrsIs; rw [h]
  rcases pre1 (d := 32) (s := cur) with ⟨hp, r, rfl⟩ | ⟨hp, hno⟩
  · rw [hp] at hpx
    rw [attrsP] at inv
    simp only [List.length_cons] at fuel hlen
    repeat' (first | (first | refine wc_seq ?_ | refine wc_region ?_ | refine wl_nil ?_ | refine wn_seq ?_ | refine wn_blk ?_ | refine wc_skip ?_ | refine wc_scope ?_ | refine wc_label ?_ | refine wn_noGoto ?_ | refine wc_block ?_ | refine wc_exit rfl ?_ | (show WL _ _ (_ :: _) _ _ _ _; first | refine yl_v rfl rfl rfl ?_ | refine wl_v rfl rfl rfl (by first | ((show OpV _ _ _ _ (Oper.mk _ (Op.call ⟨.value (.func 61), _, _⟩) _ _ _ _) _ _; exact ov_call Tryd.call61 rfl (by intro himp; first | rfl | (simp_all; done)) (by rfl) (fun _ _ h k => h.ext k) (fun hcg w hw => hpx hw.laid))) | (show OpV _ _ _ _ (Oper.mk _ (Op.slice _ _ (some _) none none) _ _ _ _) _ _; exact ov_from (i := 1) rfl rfl rfl (by first | with_reducible exact fun _ => rfl | with_reducible exact fun h => h | exact fun _ => rfl | exact fun h => h | (intro himp; simp_all; done)) (by first | with_reducible exact fun _ => rfl | with_reducible exact fun h => h | exact fun _ => rfl | exact fun h => h | (intro himp; simp_all; done)) rfl (fun _ => by simp)) | fail) ?_ | refine xl_alloc (fun _ => ?_) | refine xl_box rfl (fun _ => ?_) | refine xl_store rfl rfl ?_ | refine xl_buildSlice rfl (fun _ => ?_) | refine wl_makeMap rfl rfl (fun _ => ?_) | refine wl_insert rfl rfl rfl rfl rfl rfl (by first | exact rfl | exact trivial) (by first | exact Upd.here | exact Upd.there Upd.here | exact Upd.there (Upd.there Upd.here) | exact Upd.there (Upd.there (Upd.there Upd.here)) | exact Upd.there (Upd.there (Upd.there (Upd.there Upd.here))) | exact Upd.app _ (Upd.here) | exact Upd.app _ (Upd.there Upd.here) | exact Upd.app _ (Upd.there (Upd.there Upd.here)) | exact Upd.app _ (Upd.there (Upd.there (Upd.there Upd.here))) | exact Upd.there (Upd.app _ (Upd.here)) | exact Upd.there (Upd.app _ (Upd.there Upd.here)) | exact Upd.there (Upd.app _ (Upd.there (Upd.there Upd.here))) | exact Upd.there (Upd.app _ (Upd.there (Upd.there (Upd.there Upd.here)))) | exact Upd.there (Upd.there (Upd.app _ (Upd.here))) | exact Upd.there (Upd.there (Upd.app _ (Upd.there Upd.here))) | exact Upd.there (Upd.there (Upd.app _ (Upd.there (Upd.there Upd.here))))) (by rfl) ?_) | refine wc_ret rfl ?_) | (show WC _ (Code.cond _ _ _) _ _ _ _; (refine wc_cond rfl (fun hc => ?_) (fun hc => ?_) <;> (try (simp only [decide_eq_true_eq, decide_eq_false_iff_not, Bool.and_eq_true, Bool.or_eq_true, Bool.and_eq_false_iff, Bool.or_eq_false_iff, Bool.not_eq_true', Bool.not_eq_false', Int.not_lt, Int.not_le] at hc)) <;> (try (exfalso; first | omega | contradiction)))))
    refine wl_callL rfl Tryd.call58 rfl rfl rfl rfl (fun w hw => word_ok (s := r) (isC 61) (isC_at 61) (by omega) (by decide) (by decide) (by decide) hw) ?_
    repeat' (first | (first | refine wc_seq ?_ | refine wc_region ?_ | refine wl_nil ?_ | refine wn_seq ?_ | refine wn_blk ?_ | refine wc_skip ?_ | refine wc_scope ?_ | refine wc_label ?_ | refine wn_noGoto ?_ | refine wc_block ?_ | refine wc_exit rfl ?_ | (show WL _ _ (_ :: _) _ _ _ _; first | refine yl_v rfl rfl rfl ?_ | refine wl_v rfl rfl rfl (by first  | fail) ?_ | refine xl_alloc (fun _ => ?_) | refine xl_box rfl (fun _ => ?_) | refine xl_store rfl rfl ?_ | refine xl_buildSlice rfl (fun _ => ?_) | refine wl_makeMap rfl rfl (fun _ => ?_) | refine wl_insert rfl rfl rfl rfl rfl rfl (by first | exact rfl | exact trivial) (by first | exact Upd.here | exact Upd.there Upd.here | exact Upd.there (Upd.there Upd.here) | exact Upd.there (Upd.there (Upd.there Upd.here)) | exact Upd.there (Upd.there (Upd.there (Upd.there Upd.here))) | exact Upd.app _ (Upd.here) | exact Upd.app _ (Upd.there Upd.here) | exact Upd.app _ (Upd.there (Upd.there Upd.here)) | exact Upd.app _ (Upd.there (Upd.there (Upd.there Upd.here))) | exact Upd.there (Upd.app _ (Upd.here)) | exact Upd.there (Upd.app _ (Upd.there Upd.here)) | exact Upd.there (Upd.app _ (Upd.there (Upd.there Upd.here))) | exact Upd.there (Upd.app _ (Upd.there (Upd.there (Upd.there Upd.here)))) | exact Upd.there (Upd.there (Upd.app _ (Upd.here))) | exact Upd.there (Upd.there (Upd.app _ (Upd.there Upd.here))) | exact Upd.there (Upd.there (Upd.app _ (Upd.there (Upd.there Upd.here))))) (by rfl) ?_) | refine wc_ret rfl ?_) | (show WC _ (Code.cond _ _ _) _ _ _ _; (refine wc_cond rfl (fun hc => ?_) (fun hc => ?_) <;> (try (simp only [decide_eq_true_eq, decide_eq_false_iff_not, Bool.and_eq_true, Bool.or_eq_true, Bool.and_eq_false_iff, Bool.or_eq_false_iff, Bool.not_eq_true', Bool.not_eq_false', Int.not_lt, Int.not_le] at hc)) <;> (try (exfalso; first | omega | contradiction)))))
    have hrl := rs_length (isC 61) r
    have failed : attrP r = none → attrsP (s.length + 1) s = none := fun h => by rw [inv, h]; rfl
    have ret : ∀ {q : List UInt8}, attrP r = none → AttrsIs s left (With M []) q left (.tuple #[.slice none 0 0, .bool false]) := fun h => by unfold AttrsIs; rw [failed h]
    have hsl : ∀ {x : Nat × Obj}, List.Sublist (([] : List (Nat × Obj)) ++ (x :: H)) (x :: (Hs ++ H)) := List.Sublist.cons_cons _ (List.sublist_append_right _ _)
    rcases pre2 (d := 61) (e := 34) (s := rs (isC 61) r) with ⟨hp1, r2, h61⟩ | ⟨hp1, hno1⟩
    · have hrl2 := hrl
      rw [h61] at hrl2
      simp only [List.length_cons] at hrl2
      refine wl_callL rfl Tryd.call57 rfl rfl rfl rfl (fun w hw => take_yes (x := [61, 34]) (r := r2) h61 hw) ?_
      repeat' (first | (first | refine wc_seq ?_ | refine wc_region ?_ | refine wl_nil ?_ | refine wn_seq ?_ | refine wn_blk ?_ | refine wc_skip ?_ | refine wc_scope ?_ | refine wc_label ?_ | refine wn_noGoto ?_ | refine wc_block ?_ | refine wc_exit rfl ?_ | (show WL _ _ (_ :: _) _ _ _ _; first | refine yl_v rfl rfl rfl ?_ | refine wl_v rfl rfl rfl (by first  | fail) ?_ | refine xl_alloc (fun _ => ?_) | refine xl_box rfl (fun _ => ?_) | refine xl_store rfl rfl ?_ | refine xl_buildSlice rfl (fun _ => ?_) | refine wl_makeMap rfl rfl (fun _ => ?_) | refine wl_insert rfl rfl rfl rfl rfl rfl (by first | exact rfl | exact trivial) (by first | exact Upd.here | exact Upd.there Upd.here | exact Upd.there (Upd.there Upd.here) | exact Upd.there (Upd.there (Upd.there Upd.here)) | exact Upd.there (Upd.there (Upd.there (Upd.there Upd.here))) | exact Upd.app _ (Upd.here) | exact Upd.app _ (Upd.there Upd.here) | exact Upd.app _ (Upd.there (Upd.there Upd.here)) | exact Upd.app _ (Upd.there (Upd.there (Upd.there Upd.here))) | exact Upd.there (Upd.app _ (Upd.here)) | exact Upd.there (Upd.app _ (Upd.there Upd.here)) | exact Upd.there (Upd.app _ (Upd.there (Upd.there Upd.here))) | exact Upd.there (Upd.app _ (Upd.there (Upd.there (Upd.there Upd.here)))) | exact Upd.there (Upd.there (Upd.app _ (Upd.here))) | exact Upd.there (Upd.there (Upd.app _ (Upd.there Upd.here))) | exact Upd.there (Upd.there (Upd.app _ (Upd.there (Upd.there Upd.here))))) (by rfl) ?_) | refine wc_ret rfl ?_) | (show WC _ (Code.cond _ _ _) _ _ _ _; (refine wc_cond rfl (fun hc => ?_) (fun hc => ?_) <;> (try (simp only [decide_eq_true_eq, decide_eq_false_iff_not, Bool.and_eq_true, Bool.or_eq_true, Bool.and_eq_false_iff, Bool.or_eq_false_iff, Bool.not_eq_true', Bool.not_eq_false', Int.not_lt, Int.not_le] at hc)) <;> (try (exfalso; first | omega | contradiction)))))
      refine wl_callL rfl Tryd.call58 rfl rfl rfl rfl (fun w hw => word_ok (s := r2) (isC 34) (isC_at 34) (by omega) (by decide) (by decide) (by decide) hw) ?_
      have hr2 := rs_length (isC 34) r2
      have hun := fun {w : World} (hw : Laid M w) => unescape_ok hG hw (wd (isC 34) r2) (by omega)
      cases hu : unescQ (wd (isC 34) r2) with
      | none =>
        have hn := attrP_no2 h61 hu
        have hun : ∀ {w : World}, Laid M w → Calls Tryd.prog 60 #[str (wd (isC 34) r2)] w (RetE w (.tuple #[str [], i64 10])) := fun h => by have := hun h; rw [hu] at this; exact this
        repeat' (first | (first | refine wc_seq ?_ | refine wc_region ?_ | refine wl_nil ?_ | refine wn_seq ?_ | refine wn_blk ?_ | refine wc_skip ?_ | refine wc_scope ?_ | refine wc_label ?_ | refine wn_noGoto ?_ | refine wc_block ?_ | refine wc_exit rfl ?_ | (show WL _ _ (_ :: _) _ _ _ _; first | refine yl_v rfl rfl rfl ?_ | refine wl_v rfl rfl rfl (by first | ((show OpV _ _ _ _ (Oper.mk _ (Op.call ⟨.value (.func 60), _, _⟩) _ _ _ _) _ _; exact ov_call Tryd.call60 rfl (by intro himp; first | rfl | (simp_all; done)) (by rfl) (fun _ _ h k => h.ext k) (fun hcg w hw => hun hw.laid))) | (show OpV _ _ _ _ (Oper.mk _ (Op.call _) _ _ _ _) _ _; exact ov_off (v := .bool false) rfl) | fail) ?_ | refine xl_alloc (fun _ => ?_) | refine xl_box rfl (fun _ => ?_) | refine xl_store rfl rfl ?_ | refine xl_buildSlice rfl (fun _ => ?_) | refine wl_makeMap rfl rfl (fun _ => ?_) | refine wl_insert rfl rfl rfl rfl rfl rfl (by first | exact rfl | exact trivial) (by first | exact Upd.here | exact Upd.there Upd.here | exact Upd.there (Upd.there Upd.here) | exact Upd.there (Upd.there (Upd.there Upd.here)) | exact Upd.there (Upd.there (Upd.there (Upd.there Upd.here))) | exact Upd.app _ (Upd.here) | exact Upd.app _ (Upd.there Upd.here) | exact Upd.app _ (Upd.there (Upd.there Upd.here)) | exact Upd.app _ (Upd.there (Upd.there (Upd.there Upd.here))) | exact Upd.there (Upd.app _ (Upd.here)) | exact Upd.there (Upd.app _ (Upd.there Upd.here)) | exact Upd.there (Upd.app _ (Upd.there (Upd.there Upd.here))) | exact Upd.there (Upd.app _ (Upd.there (Upd.there (Upd.there Upd.here)))) | exact Upd.there (Upd.there (Upd.app _ (Upd.here))) | exact Upd.there (Upd.there (Upd.app _ (Upd.there Upd.here))) | exact Upd.there (Upd.there (Upd.app _ (Upd.there (Upd.there Upd.here))))) (by rfl) ?_) | refine wc_ret rfl ?_) | (show WC _ (Code.cond _ _ _) _ _ _ _; (refine wc_cond rfl (fun hc => ?_) (fun hc => ?_) <;> (try (simp only [decide_eq_true_eq, decide_eq_false_iff_not, Bool.and_eq_true, Bool.or_eq_true, Bool.and_eq_false_iff, Bool.or_eq_false_iff, Bool.not_eq_true', Bool.not_eq_false', Int.not_lt, Int.not_le] at hc)) <;> (try (exfalso; first | omega | contradiction)))))
        exact wrx_lay2 (Hn := []) rfl rfl rfl Since.refl hsl (ret hn)
      | some val =>
        have hvl := unescQ_len hu
        have hun : ∀ {w : World}, Laid M w → Calls Tryd.prog 60 #[str (wd (isC 34) r2)] w (RetE w (.tuple #[str val, i64 0])) := fun h => by have := hun h; rw [hu] at this; exact this
        repeat' (first | (first | refine wc_seq ?_ | refine wc_region ?_ | refine wl_nil ?_ | refine wn_seq ?_ | refine wn_blk ?_ | refine wc_skip ?_ | refine wc_scope ?_ | refine wc_label ?_ | refine wn_noGoto ?_ | refine wc_block ?_ | refine wc_exit rfl ?_ | (show WL _ _ (_ :: _) _ _ _ _; first | refine yl_v rfl rfl rfl ?_ | refine wl_v rfl rfl rfl (by first | ((show OpV _ _ _ _ (Oper.mk _ (Op.call ⟨.value (.func 60), _, _⟩) _ _ _ _) _ _; exact ov_call Tryd.call60 rfl (by intro himp; first | rfl | (simp_all; done)) (by rfl) (fun _ _ h k => h.ext k) (fun hcg w hw => hun hw.laid))) | fail) ?_ | refine xl_alloc (fun _ => ?_) | refine xl_box rfl (fun _ => ?_) | refine xl_store rfl rfl ?_ | refine xl_buildSlice rfl (fun _ => ?_) | refine wl_makeMap rfl rfl (fun _ => ?_) | refine wl_insert rfl rfl rfl rfl rfl rfl (by first | exact rfl | exact trivial) (by first | exact Upd.here | exact Upd.there Upd.here | exact Upd.there (Upd.there Upd.here) | exact Upd.there (Upd.there (Upd.there Upd.here)) | exact Upd.there (Upd.there (Upd.there (Upd.there Upd.here))) | exact Upd.app _ (Upd.here) | exact Upd.app _ (Upd.there Upd.here) | exact Upd.app _ (Upd.there (Upd.there Upd.here)) | exact Upd.app _ (Upd.there (Upd.there (Upd.there Upd.here))) | exact Upd.there (Upd.app _ (Upd.here)) | exact Upd.there (Upd.app _ (Upd.there Upd.here)) | exact Upd.there (Upd.app _ (Upd.there (Upd.there Upd.here))) | exact Upd.there (Upd.app _ (Upd.there (Upd.there (Upd.there Upd.here)))) | exact Upd.there (Upd.there (Upd.app _ (Upd.here))) | exact Upd.there (Upd.there (Upd.app _ (Upd.there Upd.here))) | exact Upd.there (Upd.there (Upd.app _ (Upd.there (Upd.there Upd.here))))) (by rfl) ?_) | refine wc_ret rfl ?_) | (show WC _ (Code.cond _ _ _) _ _ _ _; (refine wc_cond rfl (fun hc => ?_) (fun hc => ?_) <;> (try (simp only [decide_eq_true_eq, decide_eq_false_iff_not, Bool.and_eq_true, Bool.or_eq_true, Bool.and_eq_false_iff, Bool.or_eq_false_iff, Bool.not_eq_true', Bool.not_eq_false', Int.not_lt, Int.not_le] at hc)) <;> (try (exfalso; first | omega | contradiction)))))
        rcases pre1 (d := 34) (s := rs (isC 34) r2) with ⟨hp3, r4, h34⟩ | ⟨hp3, hno3⟩
        · have hy := attrP_yes h61 hu h34
          rw [hy] at inv
          have hr3 := hr2
          rw [h34] at hr3
          simp only [List.length_cons] at hr3
          refine wl_callL rfl Tryd.call57 rfl rfl rfl rfl (fun w hw => take_yes (x := [34]) (r := r4) h34 hw) ?_
          repeat' (first | (first | refine wc_seq ?_ | refine wc_region ?_ | refine wl_nil ?_ | refine wn_seq ?_ | refine wn_blk ?_ | refine wc_skip ?_ | refine wc_scope ?_ | refine wc_label ?_ | refine wn_noGoto ?_ | refine wc_block ?_ | refine wc_exit rfl ?_ | (show WL _ _ (_ :: _) _ _ _ _; first | refine yl_v rfl rfl rfl ?_ | refine wl_v rfl rfl rfl (by first  | fail) ?_ | refine xl_alloc (fun _ => ?_) | refine xl_box rfl (fun _ => ?_) | refine xl_store rfl rfl ?_ | refine xl_buildSlice rfl (fun _ => ?_) | refine wl_makeMap rfl rfl (fun _ => ?_) | refine wl_insert rfl rfl rfl rfl rfl rfl (by first | exact rfl | exact trivial) (by first | exact Upd.here | exact Upd.there Upd.here | exact Upd.there (Upd.there Upd.here) | exact Upd.there (Upd.there (Upd.there Upd.here)) | exact Upd.there (Upd.there (Upd.there (Upd.there Upd.here))) | exact Upd.app _ (Upd.here) | exact Upd.app _ (Upd.there Upd.here) | exact Upd.app _ (Upd.there (Upd.there Upd.here)) | exact Upd.app _ (Upd.there (Upd.there (Upd.there Upd.here))) | exact Upd.there (Upd.app _ (Upd.here)) | exact Upd.there (Upd.app _ (Upd.there Upd.here)) | exact Upd.there (Upd.app _ (Upd.there (Upd.there Upd.here))) | exact Upd.there (Upd.app _ (Upd.there (Upd.there (Upd.there Upd.here)))) | exact Upd.there (Upd.there (Upd.app _ (Upd.here))) | exact Upd.there (Upd.there (Upd.app _ (Upd.there Upd.here))) | exact Upd.there (Upd.there (Upd.app _ (Upd.there (Upd.there Upd.here))))) (by rfl) ?_) | refine wc_ret rfl ?_) | (show WC _ (Code.cond _ _ _) _ _ _ _; (refine wc_cond rfl (fun hc => ?_) (fun hc => ?_) <;> (try (simp only [decide_eq_true_eq, decide_eq_false_iff_not, Bool.and_eq_true, Bool.or_eq_true, Bool.and_eq_false_iff, Bool.or_eq_false_iff, Bool.not_eq_true', Bool.not_eq_false', Int.not_lt, Int.not_le] at hc)) <;> (try (exfalso; first | omega | contradiction)))))
          rename_i b43
          match f, fuel, inv with
          | 0, fuel, _ => exfalso; omega
          | f + 1, fuel, inv =>
            generalize wd (isC 61) r = key at *
            refine wl_weak (C' := St w0 [] ((b43, .cells [str key, str val].toArray 57 (0, 0)) :: (Hs ++ ((b, readO r4 left) :: H))) M) (Eng.Sub.refl _) (fun w' h => h.perm (List.Perm.cons _ List.perm_middle)) ?_
            refine y_append (news := [str key, str val]) (H0 := (b, readO r4 left) :: H) rfl own rfl rfl rfl rfl rfl rfl rfl rfl rfl rfl rfl rfl (by rw [cellsP_length]; omega) rfl ?_
            intro v' Hs' ho'
            rw [← cellsP_snoc acc (key, val)] at ho'
            repeat' (first | (first | refine wc_seq ?_ | refine wc_region ?_ | refine wl_nil ?_ | refine wn_seq ?_ | refine wn_blk ?_ | refine wc_skip ?_ | refine wc_scope ?_ | refine wc_label ?_ | refine wn_noGoto ?_ | refine wc_block ?_ | refine wc_exit rfl ?_ | (show WL _ _ (_ :: _) _ _ _ _; first | refine yl_v rfl rfl rfl ?_ | refine wl_v rfl rfl rfl (by first  | fail) ?_ | refine xl_alloc (fun _ => ?_) | refine xl_box rfl (fun _ => ?_) | refine xl_store rfl rfl ?_ | refine xl_buildSlice rfl (fun _ => ?_) | refine wl_makeMap rfl rfl (fun _ => ?_) | refine wl_insert rfl rfl rfl rfl rfl rfl (by first | exact rfl | exact trivial) (by first | exact Upd.here | exact Upd.there Upd.here | exact Upd.there (Upd.there Upd.here) | exact Upd.there (Upd.there (Upd.there Upd.here)) | exact Upd.there (Upd.there (Upd.there (Upd.there Upd.here))) | exact Upd.app _ (Upd.here) | exact Upd.app _ (Upd.there Upd.here) | exact Upd.app _ (Upd.there (Upd.there Upd.here)) | exact Upd.app _ (Upd.there (Upd.there (Upd.there Upd.here))) | exact Upd.there (Upd.app _ (Upd.here)) | exact Upd.there (Upd.app _ (Upd.there Upd.here)) | exact Upd.there (Upd.app _ (Upd.there (Upd.there Upd.here))) | exact Upd.there (Upd.app _ (Upd.there (Upd.there (Upd.there Upd.here)))) | exact Upd.there (Upd.there (Upd.app _ (Upd.here))) | exact Upd.there (Upd.there (Upd.app _ (Upd.there Upd.here))) | exact Upd.there (Upd.there (Upd.app _ (Upd.there (Upd.there Upd.here))))) (by rfl) ?_) | refine wc_ret rfl ?_) | (show WC _ (Code.cond _ _ _) _ _ _ _; (refine wc_cond rfl (fun hc => ?_) (fun hc => ?_) <;> (try (simp only [decide_eq_true_eq, decide_eq_false_iff_not, Bool.and_eq_true, Bool.or_eq_true, Bool.and_eq_false_iff, Bool.or_eq_false_iff, Bool.not_eq_true', Bool.not_eq_false', Int.not_lt, Int.not_le] at hc)) <;> (try (exfalso; first | omega | contradiction)))))
            refine wn_cut ⟨f, r4, acc ++ [(key, val)], v', Hs', by omega, ?_, ?_, ho'⟩ (by show f < f + 1; omega) (by first | exact Sub.nil _ | (repeat (first | exact Sub.nil _ | refine Sub.cons (by first | rfl | (simp [look]; done)) ?_))) (fun w' h => h.perm (H' := (b, readO r4 left) :: (Hs' ++ H)) List.perm_middle.symm)
            · rw [inv]
              show Option.map _ (Option.map _ (attrsP (f + 1) r4)) = _
              rw [Option.map_map]
              congr 1
              funext x
              simp
            · simp only [List.length_append, List.length_cons, List.length_nil]; omega
        · have hn := attrP_no3 h61 hu hno3
          refine wl_callL rfl Tryd.call57 rfl rfl rfl rfl (fun w hw => take_no hp3 hw) ?_
          repeat' (first | (first | refine wc_seq ?_ | refine wc_region ?_ | refine wl_nil ?_ | refine wn_seq ?_ | refine wn_blk ?_ | refine wc_skip ?_ | refine wc_scope ?_ | refine wc_label ?_ | refine wn_noGoto ?_ | refine wc_block ?_ | refine wc_exit rfl ?_ | (show WL _ _ (_ :: _) _ _ _ _; first | refine yl_v rfl rfl rfl ?_ | refine wl_v rfl rfl rfl (by first  | fail) ?_ | refine xl_alloc (fun _ => ?_) | refine xl_box rfl (fun _ => ?_) | refine xl_store rfl rfl ?_ | refine xl_buildSlice rfl (fun _ => ?_) | refine wl_makeMap rfl rfl (fun _ => ?_) | refine wl_insert rfl rfl rfl rfl rfl rfl (by first | exact rfl | exact trivial) (by first | exact Upd.here | exact Upd.there Upd.here | exact Upd.there (Upd.there Upd.here) | exact Upd.there (Upd.there (Upd.there Upd.here)) | exact Upd.there (Upd.there (Upd.there (Upd.there Upd.here))) | exact Upd.app _ (Upd.here) | exact Upd.app _ (Upd.there Upd.here) | exact Upd.app _ (Upd.there (Upd.there Upd.here)) | exact Upd.app _ (Upd.there (Upd.there (Upd.there Upd.here))) | exact Upd.there (Upd.app _ (Upd.here)) | exact Upd.there (Upd.app _ (Upd.there Upd.here)) | exact Upd.there (Upd.app _ (Upd.there (Upd.there Upd.here))) | exact Upd.there (Upd.app _ (Upd.there (Upd.there (Upd.there Upd.here)))) | exact Upd.there (Upd.there (Upd.app _ (Upd.here))) | exact Upd.there (Upd.there (Upd.app _ (Upd.there Upd.here))) | exact Upd.there (Upd.there (Upd.app _ (Upd.there (Upd.there Upd.here))))) (by rfl) ?_) | refine wc_ret rfl ?_) | (show WC _ (Code.cond _ _ _) _ _ _ _; (refine wc_cond rfl (fun hc => ?_) (fun hc => ?_) <;> (try (simp only [decide_eq_true_eq, decide_eq_false_iff_not, Bool.and_eq_true, Bool.or_eq_true, Bool.and_eq_false_iff, Bool.or_eq_false_iff, Bool.not_eq_true', Bool.not_eq_false', Int.not_lt, Int.not_le] at hc)) <;> (try (exfalso; first | omega | contradiction)))))
          exact wrx_lay2 (Hn := []) rfl rfl rfl Since.refl hsl (ret hn)
    · have hn := attrP_no1 hno1
      refine wl_callL rfl Tryd.call57 rfl rfl rfl rfl (fun w hw => take_no hp1 hw) ?_
      repeat' (first | (first | refine wc_seq ?_ | refine wc_region ?_ | refine wl_nil ?_ | refine wn_seq ?_ | refine wn_blk ?_ | refine wc_skip ?_ | refine wc_scope ?_ | refine wc_label ?_ | refine wn_noGoto ?_ | refine wc_block ?_ | refine wc_exit rfl ?_ | (show WL _ _ (_ :: _) _ _ _ _; first | refine yl_v rfl rfl rfl ?_ | refine wl_v rfl rfl rfl (by first  | fail) ?_ | refine xl_alloc (fun _ => ?_) | refine xl_box rfl (fun _ => ?_) | refine xl_store rfl rfl ?_ | refine xl_buildSlice rfl (fun _ => ?_) | refine wl_makeMap rfl rfl (fun _ => ?_) | refine wl_insert rfl rfl rfl rfl rfl rfl (by first | exact rfl | exact trivial) (by first | exact Upd.here | exact Upd.there Upd.here | exact Upd.there (Upd.there Upd.here) | exact Upd.there (Upd.there (Upd.there Upd.here)) | exact Upd.there (Upd.there (Upd.there (Upd.there Upd.here))) | exact Upd.app _ (Upd.here) | exact Upd.app _ (Upd.there Upd.here) | exact Upd.app _ (Upd.there (Upd.there Upd.here)) | exact Upd.app _ (Upd.there (Upd.there (Upd.there Upd.here))) | exact Upd.there (Upd.app _ (Upd.here)) | exact Upd.there (Upd.app _ (Upd.there Upd.here)) | exact Upd.there (Upd.app _ (Upd.there (Upd.there Upd.here))) | exact Upd.there (Upd.app _ (Upd.there (Upd.there (Upd.there Upd.here)))) | exact Upd.there (Upd.there (Upd.app _ (Upd.here))) | exact Upd.there (Upd.there (Upd.app _ (Upd.there Upd.here))) | exact Upd.there (Upd.there (Upd.app _ (Upd.there (Upd.there Upd.here))))) (by rfl) ?_) | refine wc_ret rfl ?_) | (show WC _ (Code.cond _ _ _) _ _ _ _; (refine wc_cond rfl (fun hc => ?_) (fun hc => ?_) <;> (try (simp only [decide_eq_true_eq, decide_eq_false_iff_not, Bool.and_eq_true, Bool.or_eq_true, Bool.and_eq_false_iff, Bool.or_eq_false_iff, Bool.not_eq_true', Bool.not_eq_false', Int.not_lt, Int.not_le] at hc)) <;> (try (exfalso; first | omega | contradiction)))))
      exact wrx_lay2 (Hn := []) rfl rfl rfl Since.refl hsl (ret hn)
  · rw [hp] at hpx
    have e : attrsP (f + 1) cur = some ([], cur) := by
      unfold attrsP
      split
      · rename_i q; exact absurd rfl (hno q)
      · rfl
    rw [e, Option.map_some, List.append_nil] at inv
    repeat' (first | (first | refine wc_seq ?_ | refine wc_region ?_ | refine wl_nil ?_ | refine wn_seq ?_ | refine wn_blk ?_ | refine wc_skip ?_ | refine wc_scope ?_ | refine wc_label ?_ | refine wn_noGoto ?_ | refine wc_block ?_ | refine wc_exit rfl ?_ | (show WL _ _ (_ :: _) _ _ _ _; first | refine yl_v rfl rfl rfl ?_ | refine wl_v rfl rfl rfl (by first | ((show OpV _ _ _ _ (Oper.mk _ (Op.call ⟨.value (.func 61), _, _⟩) _ _ _ _) _ _; exact ov_call Tryd.call61 rfl (by intro himp; first | rfl | (simp_all; done)) (by rfl) (fun _ _ h k => h.ext k) (fun hcg w hw => hpx hw.laid))) | fail) ?_ | refine xl_alloc (fun _ => ?_) | refine xl_box rfl (fun _ => ?_) | refine xl_store rfl rfl ?_ | refine xl_buildSlice rfl (fun _ => ?_) | refine wl_makeMap rfl rfl (fun _ => ?_) | refine wl_insert rfl rfl rfl rfl rfl rfl (by first | exact rfl | exact trivial) (by first | exact Upd.here | exact Upd.there Upd.here | exact Upd.there (Upd.there Upd.here) | exact Upd.there (Upd.there (Upd.there Upd.here)) | exact Upd.there (Upd.there (Upd.there (Upd.there Upd.here))) | exact Upd.app _ (Upd.here) | exact Upd.app _ (Upd.there Upd.here) | exact Upd.app _ (Upd.there (Upd.there Upd.here)) | exact Upd.app _ (Upd.there (Upd.there (Upd.there Upd.here))) | exact Upd.there (Upd.app _ (Upd.here)) | exact Upd.there (Upd.app _ (Upd.there Upd.here)) | exact Upd.there (Upd.app _ (Upd.there (Upd.there Upd.here))) | exact Upd.there (Upd.app _ (Upd.there (Upd.there (Upd.there Upd.here)))) | exact Upd.there (Upd.there (Upd.app _ (Upd.here))) | exact Upd.there (Upd.there (Upd.app _ (Upd.there Upd.here))) | exact Upd.there (Upd.there (Upd.app _ (Upd.there (Upd.there Upd.here))))) (by rfl) ?_) | refine wc_ret rfl ?_) | (show WC _ (Code.cond _ _ _) _ _ _ _; (refine wc_cond rfl (fun hc => ?_) (fun hc => ?_) <;> (try (simp only [decide_eq_true_eq, decide_eq_false_iff_not, Bool.and_eq_true, Bool.or_eq_true, Bool.and_eq_false_iff, Bool.or_eq_false_iff, Bool.not_eq_true', Bool.not_eq_false', Int.not_lt, Int.not_le] at hc)) <;> (try (exfalso; first | omega | contradiction)))))
    refine wr_weak (fun w' h => back w' h) ?_
    refine wrx_lay2 (Hn := Hs) rfl rfl rfl Since.refl (List.Sublist.refl _) ?_
    unfold AttrsIs
    rw [inv]
    exact ⟨_, rfl, own.slP (fun p hp => .inr hp) (by omega), rfl, rfl⟩
end Go.Proofs.YtgfbieplidpebaaDoor
/-
  The engine at a region that draws its order and in which one operation, the pivot, turns the world from one class to another: all others are told in both. Nothing of the program stands here.
-/
namespace Go.Eng
open Go.RowKit
set_option linter.unusedVariables false

section
variable {P : Program} {n : Nat} {E : Env} {C : World → Prop} {k : Kont} {ops : Array Oper} {X : World → World → Prop}
/-- what keeps both classes -/
def KeepsTwo (C0 C1 : World → Prop) (w w' : World) : Prop := (C0 w → C0 w') ∧ (C1 w → C1 w')
/-- the pivot -/
structure ObT (P : Program) (ops : Array Oper) (n : Nat) (C0 C1 : World → Prop) (o : Oper) (G : REnv) (V : Tell) : Prop where
  run : ∀ a w, C0 w → a.defers = [] → a.tmps.size = n → HR G (· ∈ o.looksAt ops) a w →
    Region.wanted o (yielded ops a.tmps) = true ∧ o.wp P a w (fun a' w' => ∃ v, a' = a.put o.dst v ∧ (o.dst = none → v = undef) ∧ V v w' ∧ C1 w') (fun _ _ _ => False)
theorem Oper.wp_mono {o : Oper} {a : Act} {w : World} {N N' : Act → World → Prop} {Q : Exit → Act → World → Prop} (h : o.wp P a w N Q) (hN : ∀ a w, N a w → N' a w) : o.wp P a w N' Q := by
  unfold Oper.wp at *
  generalize (execOp a.eval o).run P w = r at *
  cases r with
  | ok nx w1 =>
    cases nx <;> simp only [Oper.upon] at h ⊢
    case value u => exact hN _ _ h
    case skip => exact hN _ _ h
    case defer => exact hN _ _ h
    case enter f args =>
      refine h.mono fun e w2 he => ?_
      cases e with
      | returned u => exact hN _ _ he
      | panicked c => exact he
      | outgrown => exact he
    case row row args => exact h.mono fun u w2 he => hN _ _ he
  | halt x w1 => cases x <;> simp only [Oper.upon] at h ⊢ <;> exact h
def WDsP (P : Program) (ops : Array Oper) (n : Nat) (C : World → Prop) (X : World → World → Prop) : List Oper → REnv → (World → Prop) → (REnv → (World → Prop) → Prop) → Prop
  | [], G, Q, fin => fin G Q
  | o :: rest, G, Q, fin => ∃ V, (∀ d, o.dst = some d → d < n) ∧ SteadyX (fun _ _ => True) V ∧ ObX P ops n C X o G V ∧ WDsP P ops n C X rest (putG o V G) (putQ o V Q) fin

theorem wds_outP : ∀ (l : List Oper) (i : Nat) (G : REnv) (Q : World → Prop) (fin : REnv → (World → Prop) → Prop), (∀ j, j < l.length → ops[i + j]? = l[j]?) → WDsP P ops n C X l G Q fin →
    ∃ (Vs : Nat → Tell) (Q' : World → Prop), (∀ j, j < l.length → ∃ o, ops[i + j]? = some o ∧ (∀ d, o.dst = some d → d < n) ∧ SteadyX (fun _ _ => True) (Vs j) ∧ ObX P ops n C X o (Gam (ops.extract i ops.size) Vs G j) (Vs j)) ∧ fin (Gam (ops.extract i ops.size) Vs G l.length) Q' ∧
      ∀ w, Q w → (∀ j o, j < l.length → ops[i + j]? = some o → o.dst = none → Vs j undef w) → Q' w
  | [], i, G, Q, fin, _, h => ⟨fun _ => fun _ _ => True, Q, by simp, h, fun _ hq _ => hq⟩
  | o :: rest, i, G, Q, fin, hl, h => by
    obtain ⟨V, hdn, hst, hob, hr⟩ := h
    have hoi : ops[i]? = some o := by simpa using hl 0 (by simp)
    obtain ⟨Vs, Q', h1, h2, h3⟩ := wds_outP rest (i + 1) (putG o V G) (putQ o V Q) fin (fun j hj => by have := hl (j + 1) (by simp; omega); simpa [Nat.add_assoc, Nat.add_comm 1 j] using this) hr
    have hilt : i < ops.size := by
      rcases Nat.lt_or_ge i ops.size with h' | h'
      · exact h'
      · simp [Array.getElem?_eq_none h'] at hoi
    have key : ∀ j, Gam (ops.extract i ops.size) (fun | 0 => V | q + 1 => Vs q) G (j + 1) = Gam (ops.extract (i + 1) ops.size) Vs (putG o V G) j := by
      intro j
      induction j with
      | zero =>
        have : (ops.extract i ops.size)[0]? = some o := by rw [Array.getElem?_extract, if_pos (by omega)]; simpa using hoi
        cases hd : o.dst <;> simp [Gam, this, putG, hd]
      | succ j ih =>
        have e : (ops.extract i ops.size)[j + 1]? = (ops.extract (i + 1) ops.size)[j]? := by
          simp only [Array.getElem?_extract]
          have : i + (j + 1) = i + 1 + j := by omega
          rw [this]
          by_cases h' : j < min ops.size ops.size - (i + 1)
          · rw [if_pos (by omega), if_pos h']
          · rw [if_neg (by omega), if_neg h']
        have hS : ∀ (q : Nat) (A : Array Oper) (W : Nat → Tell) (G : REnv), Gam A W G (q + 1) = match (A[q]?).bind (·.dst) with | some d => (d, W q) :: Gam A W G q | none => Gam A W G q := fun _ _ _ _ => rfl
        rw [hS (j + 1) (ops.extract i ops.size) _ G, hS j (ops.extract (i + 1) ops.size) Vs, e, ih]
    refine ⟨fun | 0 => V | q + 1 => Vs q, Q', ?_, ?_, ?_⟩
    · intro j hj
      cases j with
      | zero => exact ⟨o, by simpa using hoi, hdn, hst, hob⟩
      | succ j =>
        obtain ⟨o', ho', hdn', hst', hob'⟩ := h1 j (by simpa using hj)
        exact ⟨o', by rw [← ho']; congr 1; omega, hdn', hst', by rw [key]; exact hob'⟩
    · rw [List.length_cons, key]; exact h2
    · intro w hq hall
      refine h3 w ?_ (fun j p hj hp hd => ?_)
      · unfold putQ
        cases hd : o.dst with
        | some d => exact hq
        | none => exact ⟨hq, hall 0 o (by simp) (by simpa using hoi) hd⟩
      · exact hall (j + 1) p (by simpa using hj) (by rw [← hp]; congr 1; omega) hd

/-- The state in the midst of the first part. -/
structure MidP (ops : Array Oper) (n m p : Nat) (C0 C1 : World → Prop) (Vs : Nat → Tell) (G0 : REnv) (listed : Array Bool) (a : Act) (w : World) : Prop where
  closed : Closed ops listed
  in0 : ¬ On listed p → C0 w
  in1 : On listed p → C1 w
  defers : a.defers = []
  size : a.tmps.size = n
  few : ∀ j, On listed j → j < m
  vals : ∀ j o d, On listed j → ops[j]? = some o → o.dst = some d → ∃ u, a.tmps[d]? = some u ∧ Vs j u w
  facts : ∀ j o, On listed j → ops[j]? = some o → o.dst = none → Vs j undef w
  base : ∀ s U, lookR G0 s = some U → (∀ j o, On listed j → ops[j]? = some o → o.dst ≠ some s) → ∃ u, a.tmps[s]? = some u ∧ U u w

theorem mid_allP {Q : Exit → Act → World → Prop} {m p : Nat} {C0 C1 : World → Prop} {Vs : Nat → Tell} {G0 : REnv} (hord : orderly ops m = true) (hm : m ≤ ops.size) (hp : p < m) (hst0 : ∀ s U, lookR G0 s = some U → SteadyX (fun _ _ => True) U)
    (hV : ∀ j, j < m → ∃ o, ops[j]? = some o ∧ (∀ d, o.dst = some d → d < n) ∧ SteadyX (fun _ _ => True) (Vs j) ∧ (j ≠ p → ObX P ops n (fun w => C0 w ∨ C1 w) (KeepsTwo C0 C1) o (Gam ops Vs G0 j) (Vs j)) ∧ (j = p → ObT P ops n C0 C1 o (Gam ops Vs G0 j) (Vs j)))
    (hfin : ∀ a w, C1 w → HA n (Gam ops Vs G0 m) a w → (∀ j o, j < m → ops[j]? = some o → o.dst = none → Vs j undef w) → wpList P ops Q (ops.toList.drop m) a w) :
    ∀ (fuel : Nat) (listed : Array Bool) (a : Act) (w : World), left listed = fuel → MidP ops n m p C0 C1 Vs G0 listed a w → wpAny P .any ops Q fuel listed a w := by
  -- all of the prefix is done
  have done : ∀ (fuel : Nat) (listed : Array Bool) (a : Act) (w : World), left listed = fuel → MidP ops n m p C0 C1 Vs G0 listed a w → (∀ j, j < m → On listed j) → wpAny P .any ops Q fuel listed a w := by
    intro fuel listed a w hf hmid hall
    have hon : ∀ j, On listed j ↔ j < m := fun j => ⟨hmid.few j, hall j⟩
    have hlen : left listed = (ops.toList.drop m).length := by
      have : listed = Array.ofFn (n := ops.size) (fun i => decide (i.val < m)) := by
        apply Array.ext
        · simp [hmid.closed.size]
        · intro i h1 h2
          have := hon i
          simp [On, h1] at this
          simp
          cases hb : listed[i] with
          | true => simp [← this, hb]
          | false => simp [hb] at this; simp; omega
      have hc : ∀ (q : Nat), (List.ofFn (n := q) (fun i => decide (i.val < m))).countP (fun b => !b) = q - m := by
        intro q
        induction q with
        | zero => simp
        | succ q ih =>
          rw [List.ofFn_succ_last]
          simp only [List.countP_append, Fin.val_castSucc] 
          rw [ih]
          by_cases h' : q < m
          · simp [h']; omega
          · simp [h']; omega
      unfold left
      rw [this, Array.toList_ofFn, hc]
      simp
    rw [← hf, hlen]
    refine tail_any hord (ops.toList.drop m) m listed a w (Nat.le_refl _) (by simp; omega) (fun j hj => by simp) hmid.closed.size hon (hfin a w (hmid.in1 (hall p hp)) ⟨hmid.defers, hmid.size, ?_⟩ (fun j o hj ho hd => hmid.facts j o (hall j hj) ho hd))
    intro s U hs _
    rcases look_gam hs with ⟨j, o, hj, ho, hd, rfl⟩ | ⟨h0, hn⟩
    · exact hmid.vals j o s (hall j hj) ho hd
    · exact hmid.base s U h0 (fun j o hj ho => hn j o ((hon j).1 hj) ho)
  intro fuel
  induction fuel with
  | zero =>
    intro listed a w hf hmid
    exact done 0 listed a w hf hmid (fun j hj => left_zero hf (by rw [hmid.closed.size]; omega))
  | succ fuel ih =>
    intro listed a w hf hmid
    by_cases hall : ∀ j, j < m → On listed j
    · exact done _ listed a w hf hmid hall
    have hready : ∃ i o, i < m ∧ ops[i]? = some o ∧ ¬ On listed i ∧ ∀ l ∈ edges o, On listed l := by
      have : ∃ i, i < m ∧ ¬ On listed i := by
        rcases Classical.em (∃ i, i < m ∧ ¬ On listed i) with h' | h'
        · exact h'
        · exact absurd (fun j hj => Classical.byContradiction fun hn => h' ⟨j, hj, hn⟩) hall
      obtain ⟨i, ⟨hi, hni⟩, hleast⟩ := exists_least this
      have hilt : i < ops.size := by omega
      refine ⟨i, ops[i], hi, by simp [hilt], hni, fun l hl => ?_⟩
      have hli := (orderly_at hord (i := i) (o := ops[i]) (by simp [hilt])).1 l hl
      exact Classical.byContradiction fun hn => by have := hleast l ⟨by omega, hn⟩; omega
    refine ⟨fun h0 => ?_, fun i hi => ?_⟩
    · obtain ⟨i, o, him, ho, hno, hr⟩ := hready
      have : i ∈ Region.ready .any ops listed := (ready_iff hmid.closed.size).2 ⟨o, ho, hno, hr⟩
      rw [h0] at this; cases this
    · obtain ⟨o, ho, hno, hr⟩ := (ready_iff hmid.closed.size).1 hi
      have hord1 := orderly_at hord ho
      have him : i < m := by
        rcases Nat.lt_or_ge i m with h' | h'
        · exact h'
        · obtain ⟨q, p, hqm, hp, hnq, _⟩ := hready
          exact absurd (anc_on hmid.closed (i + 1) i o ho hr q (hord1.2.2.2 h' q (by omega))) hnq
      obtain ⟨o', ho', hdn, hst, hob⟩ := hV i him
      obtain rfl : o = o' := by rw [ho] at ho'; simpa using ho'
      have hilt : i < listed.size := by rw [hmid.closed.size]; omega
      have hHR : HR (Gam ops Vs G0 i) (· ∈ o.looksAt ops) a w := by
        intro s U hs hlook
        rcases look_gam hs with ⟨j, p, hj, hp, hd', rfl⟩ | ⟨h0, hn⟩
        · have := ((hord1.2.2.1 j p s hp (by omega) hd').2 hlook)
          rw [if_pos hj] at this
          exact hmid.vals j p s (hr j this) hp hd'
        · refine hmid.base s U h0 (fun j p hj hp hs' => ?_)
          by_cases hji : j < i
          · exact hn j p hji hp hs'
          · have hne : j ≠ i := fun e => hno (e ▸ hj)
            have := ((hord1.2.2.1 j p s hp hne hs').2 hlook)
            rw [if_neg hji] at this
            exact hno (hmid.closed.back j p hp hj i this)
      have hnext : ∀ v w', (o.dst = none → v = undef) → Vs i v w' → (i ≠ p → ¬ On listed p → C0 w') → ((On listed p ∨ i = p) → C1 w') → wpAny P .any ops Q fuel (listed.setIfInBounds i true) (a.put o.dst v) w' := by
        intro v w' hun hv hC0 hC1
        have hsz : (a.put o.dst v).tmps.size = n := by
          cases hd : o.dst <;> simp [Act.put, hmid.size]
        have hdf : (a.put o.dst v).defers = [] := by
          cases hd : o.dst <;> simp [Act.put, hmid.defers]
        have hoth : ∀ s, o.dst ≠ some s → (a.put o.dst v).tmps[s]? = a.tmps[s]? := by
          intro s hs
          cases hd : o.dst with
          | none => simp [Act.put]
          | some d =>
            have hne : d ≠ s := fun e => hs (by rw [hd, e])
            simp only [Act.put]; rw [Array.getElem?_setIfInBounds_ne hne]
        refine ih _ _ _ (by have := left_set hilt hno; omega) ⟨⟨by simpa using hmid.closed.size, ?_⟩, ?_, ?_, hdf, hsz, ?_, ?_, ?_, ?_⟩
        · intro q p hp hq j hj
          rw [on_set hilt] at hq ⊢
          rcases hq with rfl | hq
          · rw [ho] at hp; obtain rfl : o = p := by simpa using hp
            exact .inr (hr j hj)
          · exact .inr (hmid.closed.back q p hp hq j hj)
        · intro hnp
          rw [on_set hilt] at hnp
          exact hC0 (fun e => hnp (.inl e.symm)) (fun h => hnp (.inr h))
        · intro hyp
          rw [on_set hilt] at hyp
          exact hC1 (hyp.elim (fun e => .inr e.symm) .inl)
        · intro j hj
          rw [on_set hilt] at hj
          rcases hj with rfl | hj
          · exact him
          · exact hmid.few j hj
        · intro j p d' hj hp hd'
          rw [on_set hilt] at hj
          by_cases e : j = i
          · subst e; rw [ho] at hp; obtain rfl : o = p := by simpa using hp
            have hdn' := hdn d' hd'
            exact ⟨v, by rw [hd']; simp [Act.put, hmid.size, hdn'], hv⟩
          · have hj : On listed j := hj.resolve_left e
            obtain ⟨u, hu, hVu⟩ := hmid.vals j p d' hj hp hd'
            have hne := (hord1.2.2.1 j p d' hp e hd').1
            obtain ⟨o2, ho2, _, hst2, _⟩ := hV j (hmid.few j hj)
            exact ⟨u, by rw [hoth d' hne]; exact hu, hst2 _ _ _ trivial hVu⟩
        · intro j p hj hp hd'
          rw [on_set hilt] at hj
          by_cases e : j = i
          · subst e; rw [ho] at hp; obtain rfl : o = p := by simpa using hp
            rw [← hun hd']; exact hv
          · have hj : On listed j := hj.resolve_left e
            obtain ⟨o2, ho2, _, hst2, _⟩ := hV j (hmid.few j hj)
            exact hst2 _ _ _ trivial (hmid.facts j p hj hp hd')
        · intro s U hs hn
          have hne : o.dst ≠ some s := hn i o (by rw [on_set hilt]; exact .inl rfl) ho
          obtain ⟨u, hu, hU⟩ := hmid.base s U hs (fun j p hj hp => hn j p (by rw [on_set hilt]; exact .inr hj) hp)
          exact ⟨u, by rw [hoth s hne]; exact hu, hst0 s U hs _ _ _ trivial hU⟩
      have hrun : ∃ Cx : World → Prop, (∀ w', Cx w' → (i ≠ p → ¬ On listed p → C0 w') ∧ ((On listed p ∨ i = p) → C1 w')) ∧ (Region.wanted o (yielded ops a.tmps) = true → o.wp P a w (fun a' w' => ∃ v, a' = a.put o.dst v ∧ (o.dst = none → v = undef) ∧ Vs i v w' ∧ Cx w') (fun _ _ _ => False)) ∧ (Region.wanted o (yielded ops a.tmps) = false → Vs i undef w ∧ Cx w) := by
        by_cases hip : i = p
        · obtain ⟨hw1, hw2⟩ := (hob.2 hip).run a w (hmid.in0 (fun h => hno (by rw [hip]; exact h))) hmid.defers hmid.size hHR
          refine ⟨C1, fun w' h => ⟨fun h' => absurd hip h', fun _ => h⟩, fun _ => hw2, fun h => by rw [hw1] at h; cases h⟩
        · have hob := hob.1 hip
          by_cases hop : On listed p
          · obtain ⟨g1, g2⟩ := hob.run a w (.inr (hmid.in1 hop)) hmid.defers hmid.size hHR
            refine ⟨fun w' => KeepsTwo C0 C1 w w', fun w' h => ⟨fun _ h' => absurd hop h', fun _ => h.2 (hmid.in1 hop)⟩, fun h => ?_, fun h => ⟨g2 h, ⟨id, id⟩⟩⟩
            exact Oper.wp_mono (g1 h) fun a' w' ⟨v, h1, h2, h3, h4, _⟩ => ⟨v, h1, h2, h3, h4⟩
          · obtain ⟨g1, g2⟩ := hob.run a w (.inl (hmid.in0 hop)) hmid.defers hmid.size hHR
            refine ⟨fun w' => KeepsTwo C0 C1 w w', fun w' h => ⟨fun _ _ => h.1 (hmid.in0 hop), fun h' => (h'.elim hop hip).elim⟩, fun h => ?_, fun h => ⟨g2 h, ⟨id, id⟩⟩⟩
            exact Oper.wp_mono (g1 h) fun a' w' ⟨v, h1, h2, h3, h4, _⟩ => ⟨v, h1, h2, h3, h4⟩
      obtain ⟨Cx, hK, h1, h2⟩ := hrun
      unfold wpOp
      simp only [ho]
      split
      · rename_i hw
        refine .inl ?_
        have := h1 hw
        unfold Oper.wp at this ⊢
        generalize (execOp a.eval o).run P w = r at *
        cases r with
        | ok nx w1 =>
          cases nx <;> simp only [Oper.upon] at this ⊢
          case value u => obtain ⟨v, e, hun, h3, h4⟩ := this; rw [e]; exact hnext v _ hun h3 (hK _ h4).1 (hK _ h4).2
          case skip => obtain ⟨v, e, hun, h3, h4⟩ := this; rw [e]; exact hnext v _ hun h3 (hK _ h4).1 (hK _ h4).2
          case defer => obtain ⟨v, e, hun, h3, h4⟩ := this; rw [e]; exact hnext v _ hun h3 (hK _ h4).1 (hK _ h4).2
          case enter f args =>
            refine this.mono fun e w2 he => ?_
            cases e with
            | returned u => obtain ⟨v, e, hun, h3, h4⟩ := he; show wpAny P .any ops Q fuel _ (a.put o.dst u) w2; rw [e]; exact hnext v _ hun h3 (hK _ h4).1 (hK _ h4).2
            | panicked c => exact he.elim
            | outgrown => obtain ⟨_, _, h⟩ := he; exact h.elim
          case row row args => refine this.mono fun u w2 he => ?_; obtain ⟨v, e, hun, h3, h4⟩ := he; rw [e]; exact hnext v _ hun h3 (hK _ h4).1 (hK _ h4).2
        | halt x w1 => cases x <;> simp only [Oper.upon] at this
      · rename_i hw
        have hw' : Region.wanted o (yielded ops a.tmps) = false := by simpa using hw
        exact hnext undef w (fun _ => rfl) (h2 hw').1 (hK _ (h2 hw').2).1 (hK _ (h2 hw').2).2



theorem gam_same {Vs Ws : Nat → Tell} {G0 : REnv} : ∀ {i : Nat}, (∀ j, j < i → Vs j = Ws j) → Gam ops Vs G0 i = Gam ops Ws G0 i
  | 0, _ => rfl
  | i + 1, h => by
    have ih := gam_same (G0 := G0) (Vs := Vs) (Ws := Ws) (i := i) (fun j hj => h j (by omega))
    unfold Gam
    rw [ih, h i (by omega)]
/-- The told part ahead of the pivot; the pivot; what is left is walked in the order of the text. -/
structure WPv (P : Program) (ops : Array Oper) (l : List Oper) (n : Nat) (E : Env) (C0 C1 : World → Prop) (o : Oper) (tail : List Oper) (k : Kont) : Prop where
  run : ∀ G, (∀ s, lookR G s = (look E s).map fun cv => exact1 cv.1 cv.2) → WDsP P ops n (fun w => C0 w ∨ C1 w) (KeepsTwo C0 C1) l G (fun _ => True) (fun G' _ => ∃ V, (∀ d, o.dst = some d → d < n) ∧ SteadyX (fun _ _ => True) V ∧ ObT P ops n C0 C1 o G' V ∧ ∀ a w, C1 w → HA n (putG o V G') a w → wpList P ops (k.post P) tail a w)
theorem wc_drawP {id : Nat} {l : List Oper} {o : Oper} (p : Nat) (C0 C1 : World → Prop) (hm : P.follows .mixedOrders = true) (ho : l[p]? = some o) (hord : orderly l.toArray (p + 1) = true) (hC : ∀ w, C w → C0 w.drew)
    (h : WPv P l.toArray (l.take p) n E C0 C1 o (l.drop (p + 1)) k) : WC P (.region id l.toArray true) n E C k := by
  have hpl : p < l.length := by
    rcases Nat.lt_or_ge p l.length with h | h
    · exact h
    · rw [List.getElem?_eq_none h] at ho; cases ho
  refine ⟨fun a w ha hw => wp_region_any hm ?_⟩
  have h := h.run (ofEnv E) (by intro s; rw [lookR_ofEnv])
  obtain ⟨Vs, Q', hV, ⟨V, hd, hst, hob, hfin⟩, _⟩ := wds_outP (ops := l.toArray) (l.take p) 0 _ _ _ (by intro j hj; simp at hj; simp [hj]) h
  have hex : l.toArray.extract 0 l.toArray.size = l.toArray := by simp
  have hlen : (l.take p).length = p := by simp; omega
  rw [hex] at hV hob hfin
  rw [hlen] at hV hob hfin
  have hsame : ∀ j, j ≤ p → Gam l.toArray (fun j => if j = p then V else Vs j) (ofEnv E) j = Gam l.toArray Vs (ofEnv E) j := fun j hj => gam_same (fun q hq => if_neg (by omega))
  have hop : l.toArray[p]? = some o := by simpa using ho
  refine mid_allP (n := n) (m := p + 1) (p := p) (C0 := C0) (C1 := C1) (G0 := ofEnv E) (Vs := fun j => if j = p then V else Vs j) hord (by simp; omega) (by omega) ?_ (fun j hj => ?_) (fun a w hCw hA _ => ?_) _ _ a _ (start_left _) ?_
  · intro s U hs
    rw [lookR_ofEnv] at hs
    obtain ⟨cv, _, rfl⟩ := Option.map_eq_some_iff.1 hs
    exact steadyX_exact _ _ _
  · by_cases e : j = p
    · subst e
      refine ⟨o, hop, hd, by simpa using hst, fun h => absurd rfl h, fun _ => ?_⟩
      rw [hsame _ (Nat.le_refl _), if_pos rfl]; exact hob
    · obtain ⟨o', h1, h2, h3, h4⟩ := hV j (by omega)
      refine ⟨o', by simpa using h1, h2, ?_, fun _ => ?_, fun h => absurd h e⟩
      · rw [if_neg e]; exact h3
      · rw [hsame j (by omega), if_neg e]; exact h4
  · have hG : Gam l.toArray (fun j => if j = p then V else Vs j) (ofEnv E) (p + 1) = putG o V (Gam l.toArray Vs (ofEnv E) p) := by
      show (match (l.toArray[p]?).bind (·.dst) with | some d => (d, (if p = p then V else Vs p)) :: Gam l.toArray (fun j => if j = p then V else Vs j) (ofEnv E) p | none => Gam l.toArray (fun j => if j = p then V else Vs j) (ofEnv E) p) = _
      rw [hop, hsame p (Nat.le_refl _), if_pos rfl]
      unfold putG
      cases hdo : o.dst <;> simp [hdo]
    rw [hG] at hA
    simpa using hfin a w hCw hA
  · refine ⟨⟨by simp, fun i o _ hi => absurd hi (start_on _ _)⟩, fun _ => hC w hw, fun h => absurd h (start_on _ _), ha.defers, ha.size, fun j hj => absurd hj (start_on _ _), fun j o d hj => absurd hj (start_on _ _), fun j o hj => absurd hj (start_on _ _), ?_⟩
    intro s U hs _
    rw [lookR_ofEnv] at hs
    obtain ⟨cv, hcv, rfl⟩ := Option.map_eq_some_iff.1 hs
    exact ⟨_, ha.reads s cv.1 cv.2 hcv, rfl⟩
theorem ov_two {C0 C1 : World → Prop} {o : Oper} {cg : Bool} {v : Value} (h0 : OpV P n E C0 o cg v) (h1 : OpV P n E C1 o cg v) : OpV P n E (fun w => C0 w ∨ C1 w) o cg v := ⟨fun hc a ha w hw => by
  have key : ∀ {D : World → Prop}, (∀ w, D w → C0 w ∨ C1 w) → YAt P o a D w v → YAt P o a (fun w => C0 w ∨ C1 w) w v := by
    intro D hD h
    unfold YAt at *
    generalize (execOp a.eval o).run P w = r at *
    cases r with
    | ok nx w1 =>
      cases nx <;> simp only [] at h ⊢
      case value u => exact h
      case enter f args => exact ⟨h.1, h.2.mono fun e w2 ⟨he, hx, hd⟩ => ⟨he, hx, hD _ hd⟩⟩
    | halt x w1 => simp only [] at h
  rcases hw with hw | hw
  · exact key (fun _ => .inl) (h0.run hc a ha w hw)
  · exact key (fun _ => .inr) (h1.run hc a ha w hw)⟩
theorem wpv_v {C0 C1 : World → Prop} {d : Nat} {cg : Bool} {v : Value} {o p : Oper} {rest tail : List Oper} (hX0 : ∀ w w', C0 w → Ext w w' → C0 w') (hX1 : ∀ w w', C1 w → Ext w w' → C1 w') (hg : gd ops E o.guard = some cg) (ho : o.dst = some d) (hd : Nat.blt d n = true) (hb : belowN n E = true) (hsel : noSel o = true)
    (h0 : OpV P n E C0 o cg v) (h1 : OpV P n E C1 o cg v) (h : WPv P ops rest n ((d, cg, v) :: E) C0 C1 p tail k) : WPv P ops (o :: rest) n E C0 C1 p tail k := ⟨fun G hG => by
  have hv := ov_two h0 h1
  have hd : d < n := by simpa [Nat.blt_eq] using hd
  refine ⟨exact1 cg v, (fun d' hd' => by rw [ho] at hd'; cases hd'; exact hd), steadyX_exact _ _ _, ⟨fun a w hw had has hHR => ?_⟩, ?_⟩
  · obtain ⟨b, hb1, hb2, hb3⟩ := turn (ops := ops) (E := E) o had has (fun i c u hi hm => by
      obtain ⟨u', h1, h2⟩ := hHR i (exact1 c u) (by rw [hG]; simp [hi]) hm
      rw [h1, h2]) (noSel_spec hsel) (belowN_look hb)
    have hwb := wanted_gd (ops := ops) hb1 hg
    rw [hb3] at hwb
    refine ⟨fun hwant => ?_, fun hno => ?_⟩
    · have hcg : cg = true := by rw [← hwb]; exact hwant
      have := hv.run hcg b hb1 w hw
      have : YAt P o a (fun w => C0 w ∨ C1 w) w v := by unfold YAt at *; rw [hb2] at this; exact this
      exact this.wp hw fun w' hw' hx => ⟨v, rfl, (fun h => by rw [ho] at h; cases h), by simp [exact1, hcg], ⟨fun h => hX0 _ _ h hx, fun h => hX1 _ _ h hx⟩, hw'⟩
    · have hcg : cg = false := by rw [← hwb]; exact hno
      simp [exact1, hcg]
  · unfold putG putQ
    rw [ho]
    refine h.run _ ?_
    intro s
    simp only [lookR, look]
    by_cases e : d = s
    · subst e; simp
    · rw [beq_no e, cond_false, cond_false]; exact hG s⟩
/-- the pivot is a call that leads from one class to the other -/
theorem wpv_call {C0 C1 : World → Prop} {f : FuncId} {ls : List Operand} {ats : Array TypeId} {vs : List (Bool × Value)} {args : Array Value} {d : Nat} {v : Value} {ty : TypeId} {pos : String} {af : Array Edge} {g : Option (Nat × Bool)} {tail : List Oper}
    (hg : gd ops E g = some true) (hf : ∀ args w, (callFunc f args).run P w = .ok (.enter f args) w) (hl : evg true E ls = some vs) (hp : vs.all (·.1) = true) (hargs : vs.map (·.2) = args.toList) (hd : Nat.blt d n = true) (hb : belowN n E = true)
    (hc : ∀ w, C0 w → Calls P f args w (fun e w' => e = .returned v ∧ C1 w'))
    (h : WL P ops tail n ((d, true, v) :: E) C1 k) : WPv P ops [] n E C0 C1 ⟨some d, .call ⟨.value (.func f), ls.toArray, ats⟩, ty, pos, af, g⟩ tail k := ⟨fun G hG => by
  have hd : d < n := by simpa [Nat.blt_eq] using hd
  refine ⟨exact1 true v, (fun d' hd' => by cases hd'; exact hd), steadyX_exact _ _ _, ⟨fun a w hw had has hHR => ?_⟩, fun a w hw hA => ?_⟩
  · obtain ⟨b, hb1, hb2, hb3⟩ := turn (ops := ops) (E := E) (⟨some d, .call ⟨.value (.func f), ls.toArray, ats⟩, ty, pos, af, g⟩ : Oper) had has (fun i c u hi hm => by
      obtain ⟨u', h1, h2⟩ := hHR i (exact1 c u) (by rw [hG]; simp [hi]) hm
      rw [h1, h2]) (fun cs b h => by cases h) (belowN_look hb)
    have hwb := wanted_gd (ops := ops) (o := (⟨some d, .call ⟨.value (.func f), ls.toArray, ats⟩, ty, pos, af, g⟩ : Oper)) hb1 hg
    rw [hb3] at hwb
    refine ⟨hwb, ?_⟩
    unfold Oper.wp
    rw [← hb2, run_callf hf (args := args) (by rw [evg_eval hb1 hl (by simpa using hp), hargs]), Oper.upon_enter]
    refine (hc w hw).mono ?_
    rintro e w' ⟨rfl, hC⟩
    exact ⟨v, rfl, (fun h => by cases h), by simp [exact1], hC⟩
  · refine h.run a w ⟨hA.1, hA.2.1, fun i c u hi => ?_⟩ hw
    simp only [look] at hi
    by_cases e : d = i
    · subst e
      obtain ⟨u', h1, h2⟩ := hA.2.2 d (exact1 true v) (by simp [putG, lookR]) trivial
      simp at hi
      rw [h1, h2, hi.1, hi.2]
    · rw [beq_no e, cond_false] at hi
      obtain ⟨u', h1, h2⟩ := hA.2.2 i (exact1 c u) (by simp only [putG, lookR]; rw [beq_no e, cond_false, hG]; simp [hi]) trivial
      rw [h1, h2]⟩
end
end Go.Eng
