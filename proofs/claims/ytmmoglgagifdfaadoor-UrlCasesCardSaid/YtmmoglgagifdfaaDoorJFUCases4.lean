/-
  The given statement UrlCasesCardSaid of layer texts: it holds of the given program, for every input that the row speaks of; no further condition.
-/
import Derived.Deep.Slices
import Derived.ChangeSame
import Derived.SizedLaws
import Derived.WideShapes
import Derived.DataReads
import Derived.Test.YtmmoglgagifdfaaDoorProg
import Derived.Test.YtmmoglgagifdfaaDoorCards
import Derived.Test.YtmmoglgagifdfaaDoorTie
import Derived.WalkKit
import Derived.ProofKit
import Derived.OpenShut
import Derived.ReadAgain
import Derived.MakeChecks
import Derived.LaidSub
import Derived.Deep.DeepHandedRow
import Derived.Carry
import Derived.SevenTiedAt
import Derived.Lib.LaidTab
import Derived.Lib.LaidU8
import Derived.Test.YtmmoglgagifdfaaDoorJFUCases1
import Derived.Test.YtmmoglgagifdfaaDoorJFUCases2
import Derived.Test.YtmmoglgagifdfaaDoorJFUCases3
/-
  The document's Parse.
-/
namespace Go.Proofs.YtmmoglgagifdfaaDoor
open Go.Eng Go.Pct Go.Txt Go.Url
set_option maxRecDepth 10000
set_option linter.unusedSimpArgs false
set_option linter.unusedVariables false

variable {M : Ghost} {w : World}
def st1 (s : List UInt8) : List UInt8 × Nat := if 7 ≤ s.length ∧ low (s.take 7) = sHttp ++ sCss then (sHttp, 7) else ([], 0)
def st2 (s : List UInt8) : List UInt8 × Nat := if 8 ≤ s.length ∧ low (s.take 8) = sHttps ++ sCss then (sHttps, 8) else st1 s
theorem hostc_no (c : UInt8) : (((((c.toNat : Int) < 97 ∨ 122 < (c.toNat : Int)) ∧ ((c.toNat : Int) < 48 ∨ 57 < (c.toNat : Int))) ∧ ¬ (c.toNat : Int) = 45) ∧ ¬ (c.toNat : Int) = 46) ↔ hostC c = false := by revert c; apply all_bytes; decide +kernel
theorem begins_drop {s x a b : List UInt8} (h : cutS sCss s = some (a, b)) (ha : low a = x) : s.drop (x.length + 3) = b := by
  have hs := cutS_some h
  have hal : a.length = x.length := by rw [← ha, low_length]
  rw [hs]
  have : x.length + 3 = (a ++ sCss).length := by simp [sCss, hal]
  rw [this, List.drop_left]
theorem http_letters : ∀ d ∈ sHttp, 97 ≤ d.toNat ∧ d.toNat ≤ 122 := by decide
theorem https_letters : ∀ d ∈ sHttps, 97 ≤ d.toNat ∧ d.toNat ≤ 122 := by decide
theorem st2_spec {s : List UInt8} (hl : s.length ≤ 2000) : ((st2 s).2 = 0 ∧ parseU s = (uz, 12)) ∨ (7 ≤ (st2 s).2 ∧ (st2 s).2 ≤ s.length ∧ ((st2 s).1 = sHttp ∨ (st2 s).1 = sHttps) ∧ parseU s = hostP (st2 s).1 (s.drop (st2 s).2)) := by
  have e7 := begins (s := s) http_letters
  have e8 := begins (s := s) https_letters
  have hp : parseU s = match cutS sCss s with
    | none => (uz, 12)
    | some (a, b) => if low a = sHttp ∨ low a = sHttps then hostP (low a) b else (uz, 12) := by
    unfold parseU; rw [if_neg (by omega)]
    cases cutS sCss s <;> rfl
  unfold st2
  split
  · rename_i h8
    obtain ⟨a, b, hc, ha⟩ := e8.1 h8
    right
    refine ⟨by show 7 ≤ 8; decide, h8.1, .inr rfl, ?_⟩
    rw [hp, hc]
    simp only
    rw [if_pos (.inr ha), ha, ← begins_drop hc ha]
    rfl
  · rename_i h8
    unfold st1
    split
    · rename_i h7
      obtain ⟨a, b, hc, ha⟩ := e7.1 h7
      right
      refine ⟨Nat.le_refl 7, h7.1, .inl rfl, ?_⟩
      rw [hp, hc]
      simp only
      rw [if_pos (.inl ha), ha, ← begins_drop hc ha]
      rfl
    · rename_i h7
      left
      refine ⟨rfl, ?_⟩
      rw [hp]
      cases hc : cutS sCss s with
      | none => rfl
      | some q =>
        obtain ⟨a, b⟩ := q
        simp only
        rw [if_neg]
        rintro (h | h)
        · exact h7 (e7.2 ⟨a, b, hc, h⟩)
        · exact h8 (e8.2 ⟨a, b, hc, h⟩)
set_option maxHeartbeats 2000000 in
theorem rparse_ok (hM : Laid M w) (s : List UInt8) (hs : s.length ≤ 9223372036854775807) : Calls Tryd.prog 11 #[str s] w (RetE w (resUrl (parseU s))) := by
  refine calls_st (l := [str s]) hM Tryd.func11 rfl rfl rfl (E0 := [(0, true, str s)]) (params_cons rfl (params_nil _)) ?_
  repeat' (first | refine wc_seq ?_ | refine wc_region ?_ | refine wl_nil ?_ | refine wn_seq ?_ | refine wn_blk ?_ | refine wc_skip ?_ | refine wc_block ?_ | refine wc_exit rfl ?_ | (show WL _ _ (_ :: _) _ _ _ _; first | refine yl_v rfl rfl rfl ?_ | refine wl_v rfl rfl rfl (by first  | fail) ?_ | refine xl_alloc (fun _ => ?_) | refine xl_store rfl rfl ?_) | refine wc_ret rfl ?_)
  rename_i b2
  refine wc_cond rfl (fun hc => ?_) (fun hc => ?_)
  · (simp only [decide_eq_true_eq, decide_eq_false_iff_not, Bool.and_eq_true, Bool.or_eq_true, Bool.and_eq_false_iff, Bool.or_eq_false_iff, Bool.not_eq_true', Bool.not_eq_false', Int.not_lt, Int.not_le] at hc)
    repeat' (first | (first | refine wc_seq ?_ | refine wc_region ?_ | refine wl_nil ?_ | refine wn_seq ?_ | refine wn_blk ?_ | refine wc_skip ?_ | refine wc_block ?_ | refine wc_exit rfl ?_ | (show WL _ _ (_ :: _) _ _ _ _; first | refine yl_v rfl rfl rfl ?_ | refine wl_v rfl rfl rfl (by first  | fail) ?_ | refine xl_alloc (fun _ => ?_) | refine xl_store rfl rfl ?_) | refine wc_ret rfl ?_) | (show WC _ (Code.cond _ _ _) _ _ _ _; (refine wc_cond rfl (fun hc => ?_) (fun hc => ?_) <;> (try (simp only [decide_eq_true_eq, decide_eq_false_iff_not, Bool.and_eq_true, Bool.or_eq_true, Bool.and_eq_false_iff, Bool.or_eq_false_iff, Bool.not_eq_true', Bool.not_eq_false', Int.not_lt, Int.not_le] at hc)) <;> (try (exfalso; first | omega | contradiction)))))
    unfold parseU
    rw [if_pos (by omega)]
    exact yr_cellS rfl rfl rfl rfl rfl rfl rfl
  (simp only [decide_eq_true_eq, decide_eq_false_iff_not, Bool.and_eq_true, Bool.or_eq_true, Bool.and_eq_false_iff, Bool.or_eq_false_iff, Bool.not_eq_true', Bool.not_eq_false', Int.not_lt, Int.not_le] at hc)
  have hl2 : s.length ≤ 2000 := by omega
  have hs : s.length ≤ 1000000000 := by omega
  clear hc
  have hsm := fun {w : World} (hw : Laid M w) (n : Nat) => rsmall_ok hw (s.take n) (by rw [List.length_take]; omega)
  repeat' (first | refine wc_seq ?_ | refine wc_region ?_ | refine wl_nil ?_ | refine wn_seq ?_ | refine wn_blk ?_ | refine wc_skip ?_ | refine wc_block ?_ | refine wc_exit rfl ?_ | (show WL _ _ (_ :: _) _ _ _ _; first | refine yl_v rfl rfl rfl ?_ | refine wl_v rfl rfl rfl (by first | ((show OpV _ _ _ _ (Oper.mk _ (Op.call ⟨.value (.func 32), _, _⟩) _ _ _ _) _ _; exact ov_call Tryd.call32 rfl (by intro himp; first | rfl | (simp_all; done)) (by rfl) (fun _ _ h k => h.ext k) (fun hcg w hw => hsm hw.laid _))) | fail) ?_ | refine xl_alloc (fun _ => ?_) | refine xl_store rfl rfl ?_) | refine wc_ret rfl ?_)
  refine wc_split (α := { x : List UInt8 × Nat // x = st1 s }) (fun x => [(0, true, str s), (2, true, .pointer (some ⟨b2, 0, none⟩)), (4, true, i64 (x.1.2 : Int)), (5, true, str x.1.1)]) (fun x => St w [] [(b2, .cells [str [], str [], i64 0, str [], str [], .bool false].toArray 24 (0, 0))] M) ?_ ?_
  · refine wc_cond rfl (fun hc => ?_) (fun hc => ?_)
    · (simp only [decide_eq_true_eq, decide_eq_false_iff_not, Bool.and_eq_true, Bool.or_eq_true, Bool.and_eq_false_iff, Bool.or_eq_false_iff, Bool.not_eq_true', Bool.not_eq_false', Int.not_lt, Int.not_le] at hc)
      have he : st1 s = (sHttp, 7) := by unfold st1; rw [if_pos ⟨by omega, hc.2⟩]
      repeat' (first | refine wc_seq ?_ | refine wc_region ?_ | refine wl_nil ?_ | refine wn_seq ?_ | refine wn_blk ?_ | refine wc_skip ?_ | refine wc_block ?_ | refine wc_exit rfl ?_ | (show WL _ _ (_ :: _) _ _ _ _; first | refine yl_v rfl rfl rfl ?_ | refine wl_v rfl rfl rfl (by first  | fail) ?_ | refine xl_alloc (fun _ => ?_) | refine xl_store rfl rfl ?_) | refine wc_ret rfl ?_)
      exact wn_cut ⟨(sHttp, 7), he.symm⟩ trivial (by first | exact Sub.nil _ | (repeat (first | exact Sub.nil _ | refine Sub.cons (by first | rfl | (simp [look]; done)) ?_))) (fun _ h => h)
    · (simp only [decide_eq_true_eq, decide_eq_false_iff_not, Bool.and_eq_true, Bool.or_eq_true, Bool.and_eq_false_iff, Bool.or_eq_false_iff, Bool.not_eq_true', Bool.not_eq_false', Int.not_lt, Int.not_le] at hc)
      have he : st1 s = ([], 0) := by
        unfold st1
        rw [if_neg]
        rintro ⟨h1, h2⟩
        rcases hc with h | h
        · omega
        · exact h h2
      repeat' (first | refine wc_seq ?_ | refine wc_region ?_ | refine wl_nil ?_ | refine wn_seq ?_ | refine wn_blk ?_ | refine wc_skip ?_ | refine wc_block ?_ | refine wc_exit rfl ?_ | (show WL _ _ (_ :: _) _ _ _ _; first | refine yl_v rfl rfl rfl ?_ | refine wl_v rfl rfl rfl (by first  | fail) ?_ | refine xl_alloc (fun _ => ?_) | refine xl_store rfl rfl ?_) | refine wc_ret rfl ?_)
      exact wn_cut ⟨([], 0), he.symm⟩ trivial (by first | exact Sub.nil _ | (repeat (first | exact Sub.nil _ | refine Sub.cons (by first | rfl | (simp [look]; done)) ?_))) (fun _ h => h)
  rintro ⟨⟨sch, q⟩, h1⟩
  dsimp only
  repeat' (first | refine wc_seq ?_ | refine wc_region ?_ | refine wl_nil ?_ | refine wn_seq ?_ | refine wn_blk ?_ | refine wc_skip ?_ | refine wc_block ?_ | refine wc_exit rfl ?_ | (show WL _ _ (_ :: _) _ _ _ _; first | refine yl_v rfl rfl rfl ?_ | refine wl_v rfl rfl rfl (by first | ((show OpV _ _ _ _ (Oper.mk _ (Op.call ⟨.value (.func 32), _, _⟩) _ _ _ _) _ _; exact ov_call Tryd.call32 rfl (by intro himp; first | rfl | (simp_all; done)) (by rfl) (fun _ _ h k => h.ext k) (fun hcg w hw => hsm hw.laid _))) | fail) ?_ | refine xl_alloc (fun _ => ?_) | refine xl_store rfl rfl ?_) | refine wc_ret rfl ?_)
  refine wc_split (α := { x : List UInt8 × Nat // x = st2 s }) (fun x => [(0, true, str s), (2, true, .pointer (some ⟨b2, 0, none⟩)), (4, true, i64 (x.1.2 : Int)), (5, true, str x.1.1)]) (fun x => St w [] [(b2, .cells [str [], str [], i64 0, str [], str [], .bool false].toArray 24 (0, 0))] M) ?_ ?_
  · refine wc_cond rfl (fun hc => ?_) (fun hc => ?_)
    · (simp only [decide_eq_true_eq, decide_eq_false_iff_not, Bool.and_eq_true, Bool.or_eq_true, Bool.and_eq_false_iff, Bool.or_eq_false_iff, Bool.not_eq_true', Bool.not_eq_false', Int.not_lt, Int.not_le] at hc)
      have he : st2 s = (sHttps, 8) := by unfold st2; rw [if_pos ⟨by omega, hc.2⟩]
      repeat' (first | refine wc_seq ?_ | refine wc_region ?_ | refine wl_nil ?_ | refine wn_seq ?_ | refine wn_blk ?_ | refine wc_skip ?_ | refine wc_block ?_ | refine wc_exit rfl ?_ | (show WL _ _ (_ :: _) _ _ _ _; first | refine yl_v rfl rfl rfl ?_ | refine wl_v rfl rfl rfl (by first  | fail) ?_ | refine xl_alloc (fun _ => ?_) | refine xl_store rfl rfl ?_) | refine wc_ret rfl ?_)
      exact wn_cut ⟨(sHttps, 8), he.symm⟩ trivial (by first | exact Sub.nil _ | (repeat (first | exact Sub.nil _ | refine Sub.cons (by first | rfl | (simp [look]; done)) ?_))) (fun _ h => h)
    · (simp only [decide_eq_true_eq, decide_eq_false_iff_not, Bool.and_eq_true, Bool.or_eq_true, Bool.and_eq_false_iff, Bool.or_eq_false_iff, Bool.not_eq_true', Bool.not_eq_false', Int.not_lt, Int.not_le] at hc)
      have he : st2 s = (sch, q) := by
        unfold st2
        rw [if_neg, ← h1]
        rintro ⟨h1, h2⟩
        rcases hc with h | h
        · omega
        · exact h h2
      repeat' (first | refine wc_seq ?_ | refine wc_region ?_ | refine wl_nil ?_ | refine wn_seq ?_ | refine wn_blk ?_ | refine wc_skip ?_ | refine wc_block ?_ | refine wc_exit rfl ?_ | (show WL _ _ (_ :: _) _ _ _ _; first | refine yl_v rfl rfl rfl ?_ | refine wl_v rfl rfl rfl (by first  | fail) ?_ | refine xl_alloc (fun _ => ?_) | refine xl_store rfl rfl ?_) | refine wc_ret rfl ?_)
      exact wn_cut ⟨(sch, q), he.symm⟩ trivial (by first | exact Sub.nil _ | (repeat (first | exact Sub.nil _ | refine Sub.cons (by first | rfl | (simp [look]; done)) ?_))) (fun _ h => h)
  clear h1
  rintro ⟨⟨sch, q⟩, h1⟩
  dsimp only
  have hsp := st2_spec hl2
  rw [← h1] at hsp
  dsimp only at hsp
  clear h1 hsm
  rcases hsp with ⟨rfl, hpu⟩ | ⟨hq7, hql, hsch, hpu⟩
  · rw [hpu]
    repeat' (first | (first | refine wc_seq ?_ | refine wc_region ?_ | refine wl_nil ?_ | refine wn_seq ?_ | refine wn_blk ?_ | refine wc_skip ?_ | refine wc_block ?_ | refine wc_exit rfl ?_ | (show WL _ _ (_ :: _) _ _ _ _; first | refine yl_v rfl rfl rfl ?_ | refine wl_v rfl rfl rfl (by first  | fail) ?_ | refine xl_alloc (fun _ => ?_) | refine xl_store rfl rfl ?_) | refine wc_ret rfl ?_) | (show WC _ (Code.cond _ _ _) _ _ _ _; (refine wc_cond rfl (fun hc => ?_) (fun hc => ?_) <;> (try (simp only [decide_eq_true_eq, decide_eq_false_iff_not, Bool.and_eq_true, Bool.or_eq_true, Bool.and_eq_false_iff, Bool.or_eq_false_iff, Bool.not_eq_true', Bool.not_eq_false', Int.not_lt, Int.not_le] at hc)) <;> (try (exfalso; first | omega | contradiction)))))
    exact yr_cellS rfl rfl rfl rfl rfl rfl rfl
  rw [hpu]
  clear hpu
  have hfi := fun {w : World} (hw : Laid M w) => rfind_ok hw s [47, 63, 35, 58] q isHost (by intro c; revert c; apply all_bytes; decide +kernel) (by omega) hql (by decide)
  have hhl := rs_length isHost (s.drop q)
  rw [List.length_drop] at hhl
  have hat1 := rs_at isHost s q
  have htk := wd_take isHost (s.drop q)
  have hsl : (s.drop q).take (q + (wd isHost (s.drop q)).length - q) = wd isHost (s.drop q) := by rw [Nat.add_sub_cancel_left]; exact htk
  have hlo := fun {w : World} (hw : Laid M w) => rsmall_ok hw (wd isHost (s.drop q)) (by omega)
  rw [← hsl] at hlo
  repeat' (first | (first | refine wc_seq ?_ | refine wc_region ?_ | refine wl_nil ?_ | refine wn_seq ?_ | refine wn_blk ?_ | refine wc_skip ?_ | refine wc_block ?_ | refine wc_exit rfl ?_ | (show WL _ _ (_ :: _) _ _ _ _; first | refine yl_v rfl rfl rfl ?_ | refine wl_v rfl rfl rfl (by first | ((show OpV _ _ _ _ (Oper.mk _ (Op.call ⟨.value (.func 33), _, _⟩) _ _ _ _) _ _; exact ov_call Tryd.call33 rfl (by intro himp; first | rfl | (simp_all; done)) (by rfl) (fun _ _ h k => h.ext k) (fun hcg w hw => hfi hw.laid))) | ((show OpV _ _ _ _ (Oper.mk _ (Op.call ⟨.value (.func 32), _, _⟩) _ _ _ _) _ _; exact ov_call Tryd.call32 rfl (by intro himp; first | rfl | (simp_all; done)) (by rfl) (fun _ _ h k => h.ext k) (fun hcg w hw => hlo hw.laid))) | fail) ?_ | refine xl_alloc (fun _ => ?_) | refine xl_store rfl rfl ?_) | refine wc_ret rfl ?_) | (show WC _ (Code.cond _ _ _) _ _ _ _; (refine wc_cond rfl (fun hc => ?_) (fun hc => ?_) <;> (try (simp only [decide_eq_true_eq, decide_eq_false_iff_not, Bool.and_eq_true, Bool.or_eq_true, Bool.and_eq_false_iff, Bool.or_eq_false_iff, Bool.not_eq_true', Bool.not_eq_false', Int.not_lt, Int.not_le] at hc)) <;> (try (exfalso; first | omega | contradiction)))))
  · have hno : hostB (low (wd isHost (s.drop q))) = false := by
      rw [Bool.eq_false_iff]
      intro h
      unfold hostB at h
      simp only [Bool.and_eq_true, decide_eq_true_eq] at h
      have hl := low_length (wd isHost (s.drop q))
      rcases hc with hc | hc
      · have h0 : (wd isHost (s.drop q)).length = 0 := by omega
        exact h.1.1 (List.eq_nil_of_length_eq_zero (by omega))
      · omega
    unfold hostP
    rw [hno, if_neg (by decide)]
    exact yr_cellS rfl rfl rfl rfl rfl rfl rfl
  have hll := low_length (wd isHost (s.drop q))
  have h64 : 1 ≤ (low (wd isHost (s.drop q))).length ∧ (low (wd isHost (s.drop q))).length ≤ 64 := by omega
  refine wc_loop (α := { i : Nat // i ≤ (low (wd isHost (s.drop q))).length ∧ ∀ j, j < i → hostC ((low (wd isHost (s.drop q))).getD j 0) = true }) (fun x => [(0, true, str s), (2, true, .pointer (some ⟨b2, 0, none⟩)), (5, true, str sch), (6, true, i64 ((q + (wd isHost (s.drop q)).length : Nat) : Int)), (7, true, str (low (wd isHost (s.drop q)))), (8, true, i64 (x.1 : Int))]) (fun x => St w [] [(b2, .cells [str [], str [], i64 0, str [], str [], .bool false].toArray 24 (0, 0))] M) (fun x => (low (wd isHost (s.drop q))).length - x.1) ⟨0, Nat.zero_le _, fun j hj => absurd hj (by omega)⟩ (Eng.Sub.cons rfl (Eng.Sub.cons rfl (Eng.Sub.cons rfl (Eng.Sub.cons rfl (Eng.Sub.cons (by show some (true, str (low ((s.drop q).take (q + (wd isHost (s.drop q)).length - q)))) = _; rw [hsl]) (by first | exact Sub.nil _ | (repeat (first | exact Sub.nil _ | refine Sub.cons (by first | rfl | (simp [look]; done)) ?_)))))))) (fun _ h => h) ?_
  rintro ⟨i, hi, hall⟩
  dsimp only
  clear hfi hlo hc
  by_cases hlt : i < (low (wd isHost (s.drop q))).length
  · have hci := hostc_no ((low (wd isHost (s.drop q))).getD i 0)
    repeat' (first | refine wc_seq ?_ | refine wc_region ?_ | refine wl_nil ?_ | refine wn_seq ?_ | refine wn_blk ?_ | refine wc_skip ?_ | refine wc_block ?_ | refine wc_exit rfl ?_ | (show WL _ _ (_ :: _) _ _ _ _; first | refine yl_v rfl rfl rfl ?_ | refine wl_v rfl rfl rfl (by first  | fail) ?_ | refine xl_alloc (fun _ => ?_) | refine xl_store rfl rfl ?_) | refine wc_ret rfl ?_)
    refine wc_cond rfl (fun hc => ?_) (fun hc => by exfalso; simp at hc; omega)
    clear hc
    repeat' (first | refine wc_seq ?_ | refine wc_region ?_ | refine wl_nil ?_ | refine wn_seq ?_ | refine wn_blk ?_ | refine wc_skip ?_ | refine wc_block ?_ | refine wc_exit rfl ?_ | (show WL _ _ (_ :: _) _ _ _ _; first | refine yl_v rfl rfl rfl ?_ | refine wl_v rfl rfl rfl (by first  | fail) ?_ | refine xl_alloc (fun _ => ?_) | refine xl_store rfl rfl ?_) | refine wc_ret rfl ?_)
    refine wc_cond rfl (fun hc => ?_) (fun hc => ?_)
    · (simp only [decide_eq_true_eq, decide_eq_false_iff_not, Bool.and_eq_true, Bool.or_eq_true, Bool.and_eq_false_iff, Bool.or_eq_false_iff, Bool.not_eq_true', Bool.not_eq_false', Int.not_lt, Int.not_le] at hc)
      have hno : hostB (low (wd isHost (s.drop q))) = false := by
        unfold hostB
        rw [all_no (p := hostC) hlt (hci.1 hc)]; simp
      unfold hostP
      rw [hno, if_neg (by decide)]
      repeat' (first | (first | refine wc_seq ?_ | refine wc_region ?_ | refine wl_nil ?_ | refine wn_seq ?_ | refine wn_blk ?_ | refine wc_skip ?_ | refine wc_block ?_ | refine wc_exit rfl ?_ | (show WL _ _ (_ :: _) _ _ _ _; first | refine yl_v rfl rfl rfl ?_ | refine wl_v rfl rfl rfl (by first  | fail) ?_ | refine xl_alloc (fun _ => ?_) | refine xl_store rfl rfl ?_) | refine wc_ret rfl ?_) | (show WC _ (Code.cond _ _ _) _ _ _ _; (refine wc_cond rfl (fun hc => ?_) (fun hc => ?_) <;> (try (simp only [decide_eq_true_eq, decide_eq_false_iff_not, Bool.and_eq_true, Bool.or_eq_true, Bool.and_eq_false_iff, Bool.or_eq_false_iff, Bool.not_eq_true', Bool.not_eq_false', Int.not_lt, Int.not_le] at hc)) <;> (try (exfalso; first | omega | contradiction)))))
      exact yr_cellS rfl rfl rfl rfl rfl rfl rfl
    · (simp only [decide_eq_true_eq, decide_eq_false_iff_not, Bool.and_eq_true, Bool.or_eq_true, Bool.and_eq_false_iff, Bool.or_eq_false_iff, Bool.not_eq_true', Bool.not_eq_false', Int.not_lt, Int.not_le] at hc)
      have hyes : hostC ((low (wd isHost (s.drop q))).getD i 0) = true := by
        cases hq : hostC ((low (wd isHost (s.drop q))).getD i 0) with
        | true => rfl
        | false =>
          exfalso
          have h3 := hci.2 hq
          omega
      repeat' (first | refine wc_seq ?_ | refine wc_region ?_ | refine wl_nil ?_ | refine wn_seq ?_ | refine wn_blk ?_ | refine wc_skip ?_ | refine wc_block ?_ | refine wc_exit rfl ?_ | (show WL _ _ (_ :: _) _ _ _ _; first | refine yl_v rfl rfl rfl ?_ | refine wl_v rfl rfl rfl (by first  | fail) ?_ | refine xl_alloc (fun _ => ?_) | refine xl_store rfl rfl ?_) | refine wc_ret rfl ?_)
      refine wn_cut ⟨i + 1, by omega, fun j hj => ?_⟩ (by show (low (wd isHost (s.drop q))).length - (i + 1) < (low (wd isHost (s.drop q))).length - i; omega) (by first | exact Sub.nil _ | (repeat (first | exact Sub.nil _ | refine Sub.cons (by first | rfl | (simp [look]; done)) ?_))) (fun _ h => h)
      by_cases e : j = i
      · subst e; exact hyes
      · exact hall j (by omega)
  repeat' (first | refine wc_seq ?_ | refine wc_region ?_ | refine wl_nil ?_ | refine wn_seq ?_ | refine wn_blk ?_ | refine wc_skip ?_ | refine wc_block ?_ | refine wc_exit rfl ?_ | (show WL _ _ (_ :: _) _ _ _ _; first | refine yl_v rfl rfl rfl ?_ | refine wl_v rfl rfl rfl (by first  | fail) ?_ | refine xl_alloc (fun _ => ?_) | refine xl_store rfl rfl ?_) | refine wc_ret rfl ?_)
  refine wc_cond rfl (fun hc => by exfalso; simp at hc; omega) (fun hc => ?_)
  clear hc
  have hhb : hostB (low (wd isHost (s.drop q))) = true := by
    unfold hostB
    rw [all_getD (p := hostC) (fun j hj => hall j (by omega))]
    have h1 : low (wd isHost (s.drop q)) ≠ [] := by intro e; rw [e] at h64; simp at h64
    simp [h1, h64.2]
  have hph : hostP sch (s.drop q) = afterHost sch (low (wd isHost (s.drop q))) (rs isHost (s.drop q)) := by unfold hostP; rw [hhb, if_pos rfl]
  rw [hph, ← hat1]
  have hq1 : q + (wd isHost (s.drop q)).length ≤ s.length := by omega
  clear hph hhb hat1 htk hsl hhl hll h64 hall hi hlt
  generalize low (wd isHost (s.drop q)) = h at *
  generalize q + (wd isHost (s.drop q)).length = q1 at *
  repeat' (first | refine wc_seq ?_ | refine wc_region ?_ | refine wl_nil ?_ | refine wn_seq ?_ | refine wn_blk ?_ | refine wc_skip ?_ | refine wc_block ?_ | refine wc_exit rfl ?_ | (show WL _ _ (_ :: _) _ _ _ _; first | refine yl_v rfl rfl rfl ?_ | refine wl_v rfl rfl rfl (by first  | fail) ?_ | refine xl_alloc (fun _ => ?_) | refine xl_store rfl rfl ?_) | refine wc_ret rfl ?_)
  rename_i b10
  refine wc_split (α := { x : Nat × Nat // tailP sch h x.1 (s.drop x.2) = afterHost sch h (s.drop q1) ∧ x.2 ≤ s.length ∧ x.1 ≤ 65535 }) (fun x => [(0, true, str s), (2, true, .pointer (some ⟨b2, 0, none⟩)), (6, true, i64 (x.1.2 : Int)), (10, true, .pointer (some ⟨b10, 0, none⟩))]) (fun x => St w [] [(b10, .cells [str sch, str h, i64 (x.1.1 : Int), str [], str [], .bool false].toArray 24 (0, 0)), (b2, .cells [str [], str [], i64 0, str [], str [], .bool false].toArray 24 (0, 0))] M) ?_ ?_
  · refine wc_cond rfl (fun hc => ?_) (fun hc => ?_)
    · (simp only [decide_eq_true_eq, decide_eq_false_iff_not, Bool.and_eq_true, Bool.or_eq_true, Bool.and_eq_false_iff, Bool.or_eq_false_iff, Bool.not_eq_true', Bool.not_eq_false', Int.not_lt, Int.not_le] at hc)
      obtain ⟨hc1, hc2⟩ := hc
      have h58 : s.drop q1 = 58 :: s.drop (q1 + 1) := at_cons.2 ⟨by omega, (getD_cast _ 58).1 hc2, rfl⟩
      have hah : afterHost sch h (s.drop q1) = if portB (wd isPort (s.drop (q1 + 1))) = true then tailP sch h (if valD (wd isPort (s.drop (q1 + 1))) = ownP sch then 0 else valD (wd isPort (s.drop (q1 + 1)))) (rs isPort (s.drop (q1 + 1))) else (uz, 14) := by rw [h58]; rfl
      have hfi := fun {w : World} (hw : Laid M w) => rfind_ok hw s [47, 63, 35] (q1 + 1) isPort (by intro c; revert c; apply all_bytes; decide +kernel) (by omega) (by omega) (by decide)
      have hbl := rs_length isPort (s.drop (q1 + 1))
      rw [List.length_drop] at hbl
      have hat := rs_at isPort s (q1 + 1)
      have htk := wd_take isPort (s.drop (q1 + 1))
      have hsl : (s.drop (q1 + 1)).take (q1 + 1 + (wd isPort (s.drop (q1 + 1))).length - (q1 + 1)) = wd isPort (s.drop (q1 + 1)) := by rw [Nat.add_sub_cancel_left]; exact htk
      rw [← hat] at hah
      have hq2 : q1 + 1 + (wd isPort (s.drop (q1 + 1))).length ≤ s.length := by omega
      clear hat htk h58
      generalize hd : wd isPort (s.drop (q1 + 1)) = d at *
      repeat' (first | refine wc_seq ?_ | refine wc_region ?_ | refine wl_nil ?_ | refine wn_seq ?_ | refine wn_blk ?_ | refine wc_skip ?_ | refine wc_block ?_ | refine wc_exit rfl ?_ | (show WL _ _ (_ :: _) _ _ _ _; first | refine yl_v rfl rfl rfl ?_ | refine wl_v rfl rfl rfl (by first | ((show OpV _ _ _ _ (Oper.mk _ (Op.call ⟨.value (.func 33), _, _⟩) _ _ _ _) _ _; exact ov_call Tryd.call33 rfl (by intro himp; first | rfl | (simp_all; done)) (by rfl) (fun _ _ h k => h.ext k) (fun hcg w hw => hfi hw.laid))) | fail) ?_ | refine xl_alloc (fun _ => ?_) | refine xl_store rfl rfl ?_) | refine wc_ret rfl ?_)
      refine wc_loop (α := { i : Nat // i ≤ d.length ∧ (∀ j, j < i → digC (d.getD j 0) = true) ∧ valD (d.take i) ≤ 700000 }) (fun x => [(0, true, str s), (2, true, .pointer (some ⟨b2, 0, none⟩)), (5, true, str sch), (10, true, .pointer (some ⟨b10, 0, none⟩)), (11, true, i64 ((q1 + 1 + d.length : Nat) : Int)), (12, true, str d), (13, true, i64 (valD (d.take x.1) : Int)), (14, true, i64 (x.1 : Int))]) (fun _ => St w [] [(b10, .cells [str sch, str h, i64 0, str [], str [], .bool false].toArray 24 (0, 0)), (b2, .cells [str [], str [], i64 0, str [], str [], .bool false].toArray 24 (0, 0))] M) (fun x => d.length - x.1) ⟨0, Nat.zero_le _, fun j hj => absurd hj (by omega), by simp [valD]⟩ (Eng.Sub.cons rfl (Eng.Sub.cons rfl (Eng.Sub.cons rfl (Eng.Sub.cons rfl (Eng.Sub.cons rfl (Eng.Sub.cons (by show some (true, str ((s.drop (q1 + 1)).take (q1 + 1 + d.length - (q1 + 1)))) = _; rw [hsl]) (Eng.Sub.cons rfl (by first | exact Sub.nil _ | (repeat (first | exact Sub.nil _ | refine Sub.cons (by first | rfl | (simp [look]; done)) ?_)))))))))) (fun _ h => h) ?_
      rintro ⟨i, hi, hdig, h7⟩
      dsimp only
      clear hfi
      by_cases hlt : i < d.length
      · have hu := u8_lt (d.getD i 0)
        have hvt := valD_take hlt
        have hdy := dig_yes (d.getD i 0)
        repeat' (first | refine wc_seq ?_ | refine wc_region ?_ | refine wl_nil ?_ | refine wn_seq ?_ | refine wn_blk ?_ | refine wc_skip ?_ | refine wc_block ?_ | refine wc_exit rfl ?_ | (show WL _ _ (_ :: _) _ _ _ _; first | refine yl_v rfl rfl rfl ?_ | refine wl_v rfl rfl rfl (by first  | fail) ?_ | refine xl_alloc (fun _ => ?_) | refine xl_store rfl rfl ?_) | refine wc_ret rfl ?_)
        refine wc_cond rfl (fun hc => ?_) (fun hc => by exfalso; simp at hc; omega)
        clear hc
        repeat' (first | refine wc_seq ?_ | refine wc_region ?_ | refine wl_nil ?_ | refine wn_seq ?_ | refine wn_blk ?_ | refine wc_skip ?_ | refine wc_block ?_ | refine wc_exit rfl ?_ | (show WL _ _ (_ :: _) _ _ _ _; first | refine yl_v rfl rfl rfl ?_ | refine wl_v rfl rfl rfl (by first  | fail) ?_ | refine xl_alloc (fun _ => ?_) | refine xl_store rfl rfl ?_) | refine wc_ret rfl ?_)
        refine wc_cond rfl (fun hc => ?_) (fun hc => ?_)
        · (simp only [decide_eq_true_eq, decide_eq_false_iff_not, Bool.and_eq_true, Bool.or_eq_true, Bool.and_eq_false_iff, Bool.or_eq_false_iff, Bool.not_eq_true', Bool.not_eq_false', Int.not_lt, Int.not_le] at hc)
          have hno : portB d = false := by
            rcases hc with hc | hc
            · exact port_no1 hlt (dig_no _ hc)
            · have := valD_le d i
              exact port_no4 (.inr (by omega))
          rw [hah, hno, if_neg (by decide)]
          repeat' (first | (first | refine wc_seq ?_ | refine wc_region ?_ | refine wl_nil ?_ | refine wn_seq ?_ | refine wn_blk ?_ | refine wc_skip ?_ | refine wc_block ?_ | refine wc_exit rfl ?_ | (show WL _ _ (_ :: _) _ _ _ _; first | refine yl_v rfl rfl rfl ?_ | refine wl_v rfl rfl rfl (by first  | fail) ?_ | refine xl_alloc (fun _ => ?_) | refine xl_store rfl rfl ?_) | refine wc_ret rfl ?_) | (show WC _ (Code.cond _ _ _) _ _ _ _; (refine wc_cond rfl (fun hc => ?_) (fun hc => ?_) <;> (try (simp only [decide_eq_true_eq, decide_eq_false_iff_not, Bool.and_eq_true, Bool.or_eq_true, Bool.and_eq_false_iff, Bool.or_eq_false_iff, Bool.not_eq_true', Bool.not_eq_false', Int.not_lt, Int.not_le] at hc)) <;> (try (exfalso; first | omega | contradiction)))))
          exact yr_cellS rfl rfl rfl rfl rfl rfl rfl
        · (simp only [decide_eq_true_eq, decide_eq_false_iff_not, Bool.and_eq_true, Bool.or_eq_true, Bool.and_eq_false_iff, Bool.or_eq_false_iff, Bool.not_eq_true', Bool.not_eq_false', Int.not_lt, Int.not_le] at hc)
          have hdi := hdy ⟨by omega, by omega⟩
          repeat' (first | refine wc_seq ?_ | refine wc_region ?_ | refine wl_nil ?_ | refine wn_seq ?_ | refine wn_blk ?_ | refine wc_skip ?_ | refine wc_block ?_ | refine wc_exit rfl ?_ | (show WL _ _ (_ :: _) _ _ _ _; first | refine yl_v rfl rfl rfl ?_ | refine wl_v rfl rfl rfl (by first  | fail) ?_ | refine xl_alloc (fun _ => ?_) | refine xl_store rfl rfl ?_) | refine wc_ret rfl ?_)
          refine wn_cut ⟨i + 1, by omega, fun j hj => ?_, ?_⟩ (by show d.length - (i + 1) < d.length - i; omega) (Eng.Sub.cons rfl (Eng.Sub.cons rfl (Eng.Sub.cons rfl (Eng.Sub.cons rfl (Eng.Sub.cons rfl (Eng.Sub.cons rfl (Eng.Sub.cons ?_ (by first | exact Sub.nil _ | (repeat (first | exact Sub.nil _ | refine Sub.cons (by first | rfl | (simp [look]; done)) ?_)))))))))) (fun _ h => h)
          · by_cases e : j = i
            · subst e; exact hdi
            · exact hdig j (by omega)
          · rw [hvt]; omega
          · show some (true, Value.int .i64 ((valD (d.take i) : Int) * 10 + (((d.getD i 0).toNat : Int) - 48))) = some (true, i64 (valD (d.take (i + 1)) : Int))
            rw [hvt]
            have : ((valD (d.take i) : Int) * 10 + (((d.getD i 0).toNat : Int) - 48)) = ((10 * valD (d.take i) + ((d.getD i 0).toNat - 48) : Nat) : Int) := by omega
            rw [this]
      obtain rfl : i = d.length := by omega
      rw [List.take_length] at h7 ⊢
      repeat' (first | refine wc_seq ?_ | refine wc_region ?_ | refine wl_nil ?_ | refine wn_seq ?_ | refine wn_blk ?_ | refine wc_skip ?_ | refine wc_block ?_ | refine wc_exit rfl ?_ | (show WL _ _ (_ :: _) _ _ _ _; first | refine yl_v rfl rfl rfl ?_ | refine wl_v rfl rfl rfl (by first  | fail) ?_ | refine xl_alloc (fun _ => ?_) | refine xl_store rfl rfl ?_) | refine wc_ret rfl ?_)
      refine wc_cond rfl (fun hc => by exfalso; simp at hc) (fun hc => ?_)
      clear hc
      by_cases hv : valD d < 1
      · rw [hah, port_no4 (.inl hv), if_neg (by decide)]
        repeat' (first | (first | refine wc_seq ?_ | refine wc_region ?_ | refine wl_nil ?_ | refine wn_seq ?_ | refine wn_blk ?_ | refine wc_skip ?_ | refine wc_block ?_ | refine wc_exit rfl ?_ | (show WL _ _ (_ :: _) _ _ _ _; first | refine yl_v rfl rfl rfl ?_ | refine wl_v rfl rfl rfl (by first  | fail) ?_ | refine xl_alloc (fun _ => ?_) | refine xl_store rfl rfl ?_) | refine wc_ret rfl ?_) | (show WC _ (Code.cond _ _ _) _ _ _ _; (refine wc_cond rfl (fun hc => ?_) (fun hc => ?_) <;> (try (simp only [decide_eq_true_eq, decide_eq_false_iff_not, Bool.and_eq_true, Bool.or_eq_true, Bool.and_eq_false_iff, Bool.or_eq_false_iff, Bool.not_eq_true', Bool.not_eq_false', Int.not_lt, Int.not_le] at hc)) <;> (try (exfalso; first | omega | contradiction)))))
        exact yr_cellS rfl rfl rfl rfl rfl rfl rfl
      have hd0 : 0 < d.length := by
        rcases Nat.eq_zero_or_pos d.length with h | h
        · exfalso; rw [List.eq_nil_of_length_eq_zero h] at hv; exact hv (by simp [valD])
        · exact h
      repeat' (first | refine wc_seq ?_ | refine wc_region ?_ | refine wl_nil ?_ | refine wn_seq ?_ | refine wn_blk ?_ | refine wc_skip ?_ | refine wc_block ?_ | refine wc_exit rfl ?_ | (show WL _ _ (_ :: _) _ _ _ _; first | refine yl_v rfl rfl rfl ?_ | refine wl_v rfl rfl rfl (by first  | fail) ?_ | refine xl_alloc (fun _ => ?_) | refine xl_store rfl rfl ?_) | refine wc_ret rfl ?_)
      refine wc_cond rfl (fun hc => ?_) (fun hc => ?_)
      · (simp only [decide_eq_true_eq, decide_eq_false_iff_not, Bool.and_eq_true, Bool.or_eq_true, Bool.and_eq_false_iff, Bool.or_eq_false_iff, Bool.not_eq_true', Bool.not_eq_false', Int.not_lt, Int.not_le] at hc)
        have hno : portB d = false := by
          rcases hc with hc | hc
          · exact port_no4 (by omega)
          · exact port_no2 hd0 ((getD_cast _ 48).1 hc)
        rw [hah, hno, if_neg (by decide)]
        repeat' (first | (first | refine wc_seq ?_ | refine wc_region ?_ | refine wl_nil ?_ | refine wn_seq ?_ | refine wn_blk ?_ | refine wc_skip ?_ | refine wc_block ?_ | refine wc_exit rfl ?_ | (show WL _ _ (_ :: _) _ _ _ _; first | refine yl_v rfl rfl rfl ?_ | refine wl_v rfl rfl rfl (by first  | fail) ?_ | refine xl_alloc (fun _ => ?_) | refine xl_store rfl rfl ?_) | refine wc_ret rfl ?_) | (show WC _ (Code.cond _ _ _) _ _ _ _; (refine wc_cond rfl (fun hc => ?_) (fun hc => ?_) <;> (try (simp only [decide_eq_true_eq, decide_eq_false_iff_not, Bool.and_eq_true, Bool.or_eq_true, Bool.and_eq_false_iff, Bool.or_eq_false_iff, Bool.not_eq_true', Bool.not_eq_false', Int.not_lt, Int.not_le] at hc)) <;> (try (exfalso; first | omega | contradiction)))))
        exact yr_cellS rfl rfl rfl rfl rfl rfl rfl
      · (simp only [decide_eq_true_eq, decide_eq_false_iff_not, Bool.and_eq_true, Bool.or_eq_true, Bool.and_eq_false_iff, Bool.or_eq_false_iff, Bool.not_eq_true', Bool.not_eq_false', Int.not_lt, Int.not_le] at hc)
        have hy := port_yes hdig (fun _ e => hc.2 ((getD_cast _ 48).2 e)) (by omega) (by omega)
        rw [hy, if_pos rfl] at hah
        by_cases ho : valD d = ownP sch
        · rw [if_pos ho] at hah
          rcases hsch with rfl | rfl
          · have ho : valD d = 80 := ho
            repeat' (first | refine wc_seq ?_ | refine wc_region ?_ | refine wl_nil ?_ | refine wn_seq ?_ | refine wn_blk ?_ | refine wc_skip ?_ | refine wc_block ?_ | refine wc_exit rfl ?_ | (show WL _ _ (_ :: _) _ _ _ _; first | refine yl_v rfl rfl rfl ?_ | refine wl_v rfl rfl rfl (by first  | fail) ?_ | refine xl_alloc (fun _ => ?_) | refine xl_store rfl rfl ?_) | refine wc_ret rfl ?_)
            refine wc_cond rfl (fun hc => by exfalso; simp [sHttp, ho] at hc) (fun hc => ?_)
            clear hc
            repeat' (first | refine wc_seq ?_ | refine wc_region ?_ | refine wl_nil ?_ | refine wn_seq ?_ | refine wn_blk ?_ | refine wc_skip ?_ | refine wc_block ?_ | refine wc_exit rfl ?_ | (show WL _ _ (_ :: _) _ _ _ _; first | refine yl_v rfl rfl rfl ?_ | refine wl_v rfl rfl rfl (by first  | fail) ?_ | refine xl_alloc (fun _ => ?_) | refine xl_store rfl rfl ?_) | refine wc_ret rfl ?_)
            exact wn_cut ⟨(0, q1 + 1 + d.length), hah.symm, hq2, Nat.zero_le _⟩ trivial (by first | exact Sub.nil _ | (repeat (first | exact Sub.nil _ | refine Sub.cons (by first | rfl | (simp [look]; done)) ?_))) (fun _ h => h)
          · have ho : valD d = 443 := ho
            repeat' (first | refine wc_seq ?_ | refine wc_region ?_ | refine wl_nil ?_ | refine wn_seq ?_ | refine wn_blk ?_ | refine wc_skip ?_ | refine wc_block ?_ | refine wc_exit rfl ?_ | (show WL _ _ (_ :: _) _ _ _ _; first | refine yl_v rfl rfl rfl ?_ | refine wl_v rfl rfl rfl (by first  | fail) ?_ | refine xl_alloc (fun _ => ?_) | refine xl_store rfl rfl ?_) | refine wc_ret rfl ?_)
            refine wc_cond rfl (fun hc => by exfalso; simp [sHttps, ho] at hc) (fun hc => ?_)
            clear hc
            repeat' (first | refine wc_seq ?_ | refine wc_region ?_ | refine wl_nil ?_ | refine wn_seq ?_ | refine wn_blk ?_ | refine wc_skip ?_ | refine wc_block ?_ | refine wc_exit rfl ?_ | (show WL _ _ (_ :: _) _ _ _ _; first | refine yl_v rfl rfl rfl ?_ | refine wl_v rfl rfl rfl (by first  | fail) ?_ | refine xl_alloc (fun _ => ?_) | refine xl_store rfl rfl ?_) | refine wc_ret rfl ?_)
            exact wn_cut ⟨(0, q1 + 1 + d.length), hah.symm, hq2, Nat.zero_le _⟩ trivial (by first | exact Sub.nil _ | (repeat (first | exact Sub.nil _ | refine Sub.cons (by first | rfl | (simp [look]; done)) ?_))) (fun _ h => h)
        · rw [if_neg ho] at hah
          rcases hsch with rfl | rfl
          · have ho : ¬ valD d = 80 := ho
            repeat' (first | refine wc_seq ?_ | refine wc_region ?_ | refine wl_nil ?_ | refine wn_seq ?_ | refine wn_blk ?_ | refine wc_skip ?_ | refine wc_block ?_ | refine wc_exit rfl ?_ | (show WL _ _ (_ :: _) _ _ _ _; first | refine yl_v rfl rfl rfl ?_ | refine wl_v rfl rfl rfl (by first  | fail) ?_ | refine xl_alloc (fun _ => ?_) | refine xl_store rfl rfl ?_) | refine wc_ret rfl ?_)
            refine wc_cond rfl (fun hc => ?_) (fun hc => by exfalso; simp [sHttp] at hc; omega)
            clear hc
            repeat' (first | refine wc_seq ?_ | refine wc_region ?_ | refine wl_nil ?_ | refine wn_seq ?_ | refine wn_blk ?_ | refine wc_skip ?_ | refine wc_block ?_ | refine wc_exit rfl ?_ | (show WL _ _ (_ :: _) _ _ _ _; first | refine yl_v rfl rfl rfl ?_ | refine wl_v rfl rfl rfl (by first  | fail) ?_ | refine xl_alloc (fun _ => ?_) | refine xl_store rfl rfl ?_) | refine wc_ret rfl ?_)
            exact wn_cut ⟨(valD d, q1 + 1 + d.length), hah.symm, hq2, by omega⟩ trivial (by first | exact Sub.nil _ | (repeat (first | exact Sub.nil _ | refine Sub.cons (by first | rfl | (simp [look]; done)) ?_))) (fun _ h => h)
          · have ho : ¬ valD d = 443 := ho
            repeat' (first | refine wc_seq ?_ | refine wc_region ?_ | refine wl_nil ?_ | refine wn_seq ?_ | refine wn_blk ?_ | refine wc_skip ?_ | refine wc_block ?_ | refine wc_exit rfl ?_ | (show WL _ _ (_ :: _) _ _ _ _; first | refine yl_v rfl rfl rfl ?_ | refine wl_v rfl rfl rfl (by first  | fail) ?_ | refine xl_alloc (fun _ => ?_) | refine xl_store rfl rfl ?_) | refine wc_ret rfl ?_)
            refine wc_cond rfl (fun hc => ?_) (fun hc => by exfalso; simp [sHttps] at hc; omega)
            clear hc
            repeat' (first | refine wc_seq ?_ | refine wc_region ?_ | refine wl_nil ?_ | refine wn_seq ?_ | refine wn_blk ?_ | refine wc_skip ?_ | refine wc_block ?_ | refine wc_exit rfl ?_ | (show WL _ _ (_ :: _) _ _ _ _; first | refine yl_v rfl rfl rfl ?_ | refine wl_v rfl rfl rfl (by first  | fail) ?_ | refine xl_alloc (fun _ => ?_) | refine xl_store rfl rfl ?_) | refine wc_ret rfl ?_)
            exact wn_cut ⟨(valD d, q1 + 1 + d.length), hah.symm, hq2, by omega⟩ trivial (by first | exact Sub.nil _ | (repeat (first | exact Sub.nil _ | refine Sub.cons (by first | rfl | (simp [look]; done)) ?_))) (fun _ h => h)
    · (simp only [decide_eq_true_eq, decide_eq_false_iff_not, Bool.and_eq_true, Bool.or_eq_true, Bool.and_eq_false_iff, Bool.or_eq_false_iff, Bool.not_eq_true', Bool.not_eq_false', Int.not_lt, Int.not_le] at hc)
      have hah : afterHost sch h (s.drop q1) = tailP sch h 0 (s.drop q1) := by
        unfold afterHost
        split
        · rename_i r hr
          obtain ⟨g1, g2, g3⟩ := at_cons.1 hr
          exfalso
          rcases hc with hc | hc
          · omega
          · exact hc (by rw [g2]; rfl)
        · rfl
      repeat' (first | refine wc_seq ?_ | refine wc_region ?_ | refine wl_nil ?_ | refine wn_seq ?_ | refine wn_blk ?_ | refine wc_skip ?_ | refine wc_block ?_ | refine wc_exit rfl ?_ | (show WL _ _ (_ :: _) _ _ _ _; first | refine yl_v rfl rfl rfl ?_ | refine wl_v rfl rfl rfl (by first  | fail) ?_ | refine xl_alloc (fun _ => ?_) | refine xl_store rfl rfl ?_) | refine wc_ret rfl ?_)
      exact wn_cut ⟨(0, q1), hah.symm, hq1, Nat.zero_le _⟩ trivial (by first | exact Sub.nil _ | (repeat (first | exact Sub.nil _ | refine Sub.cons (by first | rfl | (simp [look]; done)) ?_))) (fun _ h => h)
  rintro ⟨⟨pn, q2⟩, ht, hq2, hpn⟩
  dsimp only at ht hq2 hpn ⊢
  rw [← ht]
  clear ht
  have hfi := fun {w : World} (hw : Laid M w) => rfind_ok hw s [63] q2 isAsk (by intro c; revert c; apply all_bytes; decide +kernel) (by omega) hq2 (by decide)
  have hal := rs_length isAsk (s.drop q2)
  rw [List.length_drop] at hal
  have hat := rs_at isAsk s q2
  have htk := wd_take isAsk (s.drop q2)
  have hsl : (s.drop q2).take (q2 + (wd isAsk (s.drop q2)).length - q2) = wd isAsk (s.drop q2) := by rw [Nat.add_sub_cancel_left]; exact htk
  have hpa := fun {w : World} (hw : Laid M w) => rpart_ok hw (wd isAsk (s.drop q2)) (by omega)
  have hpq := fun {w : World} (hw : Laid M w) => rpart_ok hw ((rs isAsk (s.drop q2)).drop 1) (by rw [List.length_drop]; omega)
  have hdm : s.drop (q2 + (wd isAsk (s.drop q2)).length + 1) = (rs isAsk (s.drop q2)).drop 1 := by rw [← hat, List.drop_drop]
  have hpl := fun {t : List UInt8} => partP_length (s := wd isAsk (s.drop q2)) (t := t)
  unfold tailP
  cases hp : partP (wd isAsk (s.drop q2)) with
  | none =>
    rw [hp] at hpa
    have hpa : ∀ {w : World}, Laid M w → Calls Tryd.prog 34 #[str ((s.drop q2).take (q2 + (wd isAsk (s.drop q2)).length - q2))] w (RetE w (.tuple #[str [], .bool false])) := fun hw => by rw [hsl]; exact hpa hw
    repeat' (first | (first | refine wc_seq ?_ | refine wc_region ?_ | refine wl_nil ?_ | refine wn_seq ?_ | refine wn_blk ?_ | refine wc_skip ?_ | refine wc_block ?_ | refine wc_exit rfl ?_ | (show WL _ _ (_ :: _) _ _ _ _; first | refine yl_v rfl rfl rfl ?_ | refine wl_v rfl rfl rfl (by first | ((show OpV _ _ _ _ (Oper.mk _ (Op.call ⟨.value (.func 33), _, _⟩) _ _ _ _) _ _; exact ov_call Tryd.call33 rfl (by intro himp; first | rfl | (simp_all; done)) (by rfl) (fun _ _ h k => h.ext k) (fun hcg w hw => hfi hw.laid))) | ((show OpV _ _ _ _ (Oper.mk _ (Op.call ⟨.value (.func 34), _, _⟩) _ _ _ _) _ _; exact ov_call Tryd.call34 rfl (by intro himp; first | rfl | (simp_all; done)) (by rfl) (fun _ _ h k => h.ext k) (fun hcg w hw => hpa hw.laid))) | fail) ?_ | refine xl_alloc (fun _ => ?_) | refine xl_store rfl rfl ?_) | refine wc_ret rfl ?_) | (show WC _ (Code.cond _ _ _) _ _ _ _; (refine wc_cond rfl (fun hc => ?_) (fun hc => ?_) <;> (try (simp only [decide_eq_true_eq, decide_eq_false_iff_not, Bool.and_eq_true, Bool.or_eq_true, Bool.and_eq_false_iff, Bool.or_eq_false_iff, Bool.not_eq_true', Bool.not_eq_false', Int.not_lt, Int.not_le] at hc)) <;> (try (exfalso; first | omega | contradiction)))))
    exact yr_cellS rfl rfl rfl rfl rfl rfl rfl
  | some p =>
    rw [hp] at hpa
    have hpa : ∀ {w : World}, Laid M w → Calls Tryd.prog 34 #[str ((s.drop q2).take (q2 + (wd isAsk (s.drop q2)).length - q2))] w (RetE w (.tuple #[str p, .bool true])) := fun hw => by rw [hsl]; exact hpa hw
    have hpl2 := hpl hp
    have hdo := fun {w : World} (hw : Laid M w) => rdots_ok hw p (by omega)
    simp only
    repeat' (first | refine wc_seq ?_ | refine wc_region ?_ | refine wl_nil ?_ | refine wn_seq ?_ | refine wn_blk ?_ | refine wc_skip ?_ | refine wc_block ?_ | refine wc_exit rfl ?_ | (show WL _ _ (_ :: _) _ _ _ _; first | refine yl_v rfl rfl rfl ?_ | refine wl_v rfl rfl rfl (by first | ((show OpV _ _ _ _ (Oper.mk _ (Op.call ⟨.value (.func 33), _, _⟩) _ _ _ _) _ _; exact ov_call Tryd.call33 rfl (by intro himp; first | rfl | (simp_all; done)) (by rfl) (fun _ _ h k => h.ext k) (fun hcg w hw => hfi hw.laid))) | ((show OpV _ _ _ _ (Oper.mk _ (Op.call ⟨.value (.func 34), _, _⟩) _ _ _ _) _ _; exact ov_call Tryd.call34 rfl (by intro himp; first | rfl | (simp_all; done)) (by rfl) (fun _ _ h k => h.ext k) (fun hcg w hw => hpa hw.laid))) | fail) ?_ | refine xl_alloc (fun _ => ?_) | refine xl_store rfl rfl ?_) | refine wc_ret rfl ?_)
    refine wc_cond rfl (fun hc => absurd hc (by decide)) (fun hc => ?_)
    clear hc
    repeat' (first | refine wc_seq ?_ | refine wc_region ?_ | refine wl_nil ?_ | refine wn_seq ?_ | refine wn_blk ?_ | refine wc_skip ?_ | refine wc_block ?_ | refine wc_exit rfl ?_ | (show WL _ _ (_ :: _) _ _ _ _; first | refine yl_v rfl rfl rfl ?_ | refine wl_v rfl rfl rfl (by first  | fail) ?_ | refine xl_alloc (fun _ => ?_) | refine xl_store rfl rfl ?_) | refine wc_ret rfl ?_)
    by_cases hmk : rs isAsk (s.drop q2) = []
    · have hm2 : q2 + (wd isAsk (s.drop q2)).length = s.length := by rw [hmk] at hal; simp at hal; omega
      rw [hmk]
      refine wc_cond rfl (fun hc => by exfalso; simp at hc; omega) (fun hc => ?_)
      clear hc
      have hpe : partP (List.drop 1 ([] : List UInt8)) = some [] := rfl
      rw [hpe]
      simp only
      repeat' (first | (first | refine wc_seq ?_ | refine wc_region ?_ | refine wl_nil ?_ | refine wn_seq ?_ | refine wn_blk ?_ | refine wc_skip ?_ | refine wc_block ?_ | refine wc_exit rfl ?_ | (show WL _ _ (_ :: _) _ _ _ _; first | refine yl_v rfl rfl rfl ?_ | refine wl_v rfl rfl rfl (by first | ((show OpV _ _ _ _ (Oper.mk _ (Op.call ⟨.value (.func 22), _, _⟩) _ _ _ _) _ _; exact ov_call Tryd.call22 rfl (by intro himp; first | rfl | (simp_all; done)) (by rfl) (fun _ _ h k => h.ext k) (fun hcg w hw => hdo hw.laid))) | fail) ?_ | refine xl_alloc (fun _ => ?_) | refine xl_store rfl rfl ?_) | refine wc_ret rfl ?_) | (show WC _ (Code.cond _ _ _) _ _ _ _; (refine wc_cond rfl (fun hc => ?_) (fun hc => ?_) <;> (try (simp only [decide_eq_true_eq, decide_eq_false_iff_not, Bool.and_eq_true, Bool.or_eq_true, Bool.and_eq_false_iff, Bool.or_eq_false_iff, Bool.not_eq_true', Bool.not_eq_false', Int.not_lt, Int.not_le] at hc)) <;> (try (exfalso; first | omega | contradiction)))))
      · rw [if_pos (dots_nil.2 hc)]
        exact yr_cellS rfl rfl rfl rfl rfl rfl rfl
      · rw [if_neg (fun e => hc (dots_nil.1 e))]
        exact yr_cellS rfl rfl rfl rfl rfl rfl rfl
    have hlt : 0 < (rs isAsk (s.drop q2)).length := List.length_pos_iff.2 hmk
    refine wc_cond rfl (fun hc => ?_) (fun hc => by exfalso; simp at hc; omega)
    clear hc
    have hask : decide (rs isAsk (s.drop q2) ≠ []) = true := decide_eq_true hmk
    cases hq : partP ((rs isAsk (s.drop q2)).drop 1) with
    | none =>
      rw [hq] at hpq
      have hpq : ∀ {w : World}, Laid M w → Calls Tryd.prog 34 #[str (s.drop (q2 + (wd isAsk (s.drop q2)).length + 1))] w (RetE w (.tuple #[str [], .bool false])) := fun hw => by rw [hdm]; exact hpq hw
      simp only
      repeat' (first | (first | refine wc_seq ?_ | refine wc_region ?_ | refine wl_nil ?_ | refine wn_seq ?_ | refine wn_blk ?_ | refine wc_skip ?_ | refine wc_block ?_ | refine wc_exit rfl ?_ | (show WL _ _ (_ :: _) _ _ _ _; first | refine yl_v rfl rfl rfl ?_ | refine wl_v rfl rfl rfl (by first | ((show OpV _ _ _ _ (Oper.mk _ (Op.call ⟨.value (.func 34), _, _⟩) _ _ _ _) _ _; exact ov_call Tryd.call34 rfl (by intro himp; first | rfl | (simp_all; done)) (by rfl) (fun _ _ h k => h.ext k) (fun hcg w hw => hpq hw.laid))) | fail) ?_ | refine xl_alloc (fun _ => ?_) | refine xl_store rfl rfl ?_) | refine wc_ret rfl ?_) | (show WC _ (Code.cond _ _ _) _ _ _ _; (refine wc_cond rfl (fun hc => ?_) (fun hc => ?_) <;> (try (simp only [decide_eq_true_eq, decide_eq_false_iff_not, Bool.and_eq_true, Bool.or_eq_true, Bool.and_eq_false_iff, Bool.or_eq_false_iff, Bool.not_eq_true', Bool.not_eq_false', Int.not_lt, Int.not_le] at hc)) <;> (try (exfalso; first | omega | contradiction)))))
      exact yr_cellS rfl rfl rfl rfl rfl rfl rfl
    | some qq =>
      rw [hq] at hpq
      have hpq : ∀ {w : World}, Laid M w → Calls Tryd.prog 34 #[str (s.drop (q2 + (wd isAsk (s.drop q2)).length + 1))] w (RetE w (.tuple #[str qq, .bool true])) := fun hw => by rw [hdm]; exact hpq hw
      simp only
      rw [hask]
      repeat' (first | (first | refine wc_seq ?_ | refine wc_region ?_ | refine wl_nil ?_ | refine wn_seq ?_ | refine wn_blk ?_ | refine wc_skip ?_ | refine wc_block ?_ | refine wc_exit rfl ?_ | (show WL _ _ (_ :: _) _ _ _ _; first | refine yl_v rfl rfl rfl ?_ | refine wl_v rfl rfl rfl (by first | ((show OpV _ _ _ _ (Oper.mk _ (Op.call ⟨.value (.func 34), _, _⟩) _ _ _ _) _ _; exact ov_call Tryd.call34 rfl (by intro himp; first | rfl | (simp_all; done)) (by rfl) (fun _ _ h k => h.ext k) (fun hcg w hw => hpq hw.laid))) | ((show OpV _ _ _ _ (Oper.mk _ (Op.call ⟨.value (.func 22), _, _⟩) _ _ _ _) _ _; exact ov_call Tryd.call22 rfl (by intro himp; first | rfl | (simp_all; done)) (by rfl) (fun _ _ h k => h.ext k) (fun hcg w hw => hdo hw.laid))) | fail) ?_ | refine xl_alloc (fun _ => ?_) | refine xl_store rfl rfl ?_) | refine wc_ret rfl ?_) | (show WC _ (Code.cond _ _ _) _ _ _ _; (refine wc_cond rfl (fun hc => ?_) (fun hc => ?_) <;> (try (simp only [decide_eq_true_eq, decide_eq_false_iff_not, Bool.and_eq_true, Bool.or_eq_true, Bool.and_eq_false_iff, Bool.or_eq_false_iff, Bool.not_eq_true', Bool.not_eq_false', Int.not_lt, Int.not_le] at hc)) <;> (try (exfalso; first | omega | contradiction)))))
      · rw [if_pos (dots_nil.2 hc)]
        exact yr_cellS rfl rfl rfl rfl rfl rfl rfl
      · rw [if_neg (fun e => hc (dots_nil.1 e))]
        exact yr_cellS rfl rfl rfl rfl rfl rfl rfl
end Go.Proofs.YtmmoglgagifdfaaDoor
/-
  The document's Normal, a pair more, a query's pairs, a clean path.
-/
namespace Go.Proofs.YtmmoglgagifdfaaDoor
open Go.Eng Go.Pct Go.Txt Go.Url
set_option maxRecDepth 10000
set_option linter.unusedSimpArgs false
set_option linter.unusedVariables false

section
variable {P : Program} {n : Nat} {E : Env} {dst : Option Tmp} {ty : TypeId} {pos : String} {af : Array Edge} {w0 : World} {bs : List Nat} {H : List (Nat × Obj)} {M : Ghost}
/-- a call that takes a slice that was laid in the same region -/
theorem or_callF {f : FuncId} {s len : Nat} {o : Obj} {v : Value} {ats : Array TypeId} (hf : ∀ args w, (callFunc f args).run P w = .ok (.enter f args) w)
    (hc : ∀ b w, St w0 bs ((b, o) :: H) M w → Calls P f #[.slice (some ⟨b, 0, none⟩) len len] w (RetE w v)) (u : Value) :
    OpR P n ((s, true, u) :: E) (St w0 bs H M) (Fresh w0 bs H M len o u) ⟨dst, .call ⟨.value (.func f), #[.tmp s], ats⟩, ty, pos, af, none⟩ (exact1 true v) := ⟨fun a ha w hw ⟨b, hu, hst⟩ => by
  subst hu
  have hx : a.eval (.tmp s) = .slice (some ⟨b, 0, none⟩) len len := ha.eval (by simp [ev, Eng.look])
  unfold Tells
  rw [run_callf hf (args := #[.slice (some ⟨b, 0, none⟩) len len]) (by simp [hx])]
  exact ⟨rfl, (hc b w hst).mono fun e w' he => ⟨v, he.1, rfl, he.2, hw.ext he.2⟩⟩⟩
end

variable {M : Ghost} {w : World}
theorem slP_lit {e b : Nat} {l : List Pr} (h : M b (.cells (cellsP l).toArray e (0, 0))) (hl : l.length ≤ 1000) : SlP M (.slice (some ⟨b, 0, none⟩) l.length l.length) l :=
  (OwnS.lit (e := e) (b := b) (cellsP_length l) (Nat.le_trans hl (by decide))).slP (fun p hp => by
    rw [List.mem_singleton] at hp; subst hp; exact h) (by omega)
theorem rnorm_ok (hM : Laid M w) (s : List UInt8) (hs : s.length ≤ 9223372036854775807) : Calls Tryd.prog 13 #[str s] w (RetE w (.tuple #[str (normU s).1, i64 (normU s).2])) := by
  have hpa := fun {w : World} (hw : Laid M w) => rparse_ok hw s hs
  have hsm := parse_small s
  unfold normU
  generalize parseU s = q at *
  obtain ⟨u, e⟩ := q
  dsimp only at *
  have hst := fun {w : World} (hw : Laid M w) => rstring_ok hw u hsm
  unfold resUrl at hpa
  unfold urlCells at hpa hst
  dsimp only at hpa
  refine calls_st (l := [str s]) hM Tryd.func13 rfl rfl rfl (E0 := [(0, true, str s)]) (params_cons rfl (params_nil _)) ?_
  repeat' (first | (first | refine wc_seq ?_ | refine wc_region ?_ | refine wl_nil ?_ | refine wn_seq ?_ | refine wn_blk ?_ | refine wc_skip ?_ | refine wc_block ?_ | refine wc_exit rfl ?_ | (show WL _ _ (_ :: _) _ _ _ _; first | refine yl_v rfl rfl rfl ?_ | refine wl_v rfl rfl rfl (by first | ((show OpV _ _ _ _ (Oper.mk _ (Op.call ⟨.value (.func 11), _, _⟩) _ _ _ _) _ _; exact ov_call Tryd.call11 rfl (by intro himp; first | rfl | (simp_all; done)) (by rfl) (fun _ _ h k => h.ext k) (fun hcg w hw => hpa hw.laid))) | ((show OpV _ _ _ _ (Oper.mk _ (Op.call ⟨.value (.func 18), _, _⟩) _ _ _ _) _ _; exact ov_call Tryd.call18 rfl (by intro himp; first | rfl | (simp_all; done)) (by rfl) (fun _ _ h k => h.ext k) (fun hcg w hw => hst hw.laid))) | fail) ?_ | refine xl_alloc (fun _ => ?_) | refine xl_store rfl rfl ?_) | refine wc_ret rfl ?_) | (show WC _ (Code.cond _ _ _) _ _ _ _; (refine wc_cond rfl (fun hc => ?_) (fun hc => ?_) <;> (try (simp only [decide_eq_true_eq, decide_eq_false_iff_not, Bool.and_eq_true, Bool.or_eq_true, Bool.and_eq_false_iff, Bool.or_eq_false_iff, Bool.not_eq_true', Bool.not_eq_false', Int.not_lt, Int.not_le] at hc)) <;> (try (exfalso; first | omega | contradiction)))))
  · rw [if_pos hc]
    exact wr_weak (fun _ h => h.drop (List.nil_sublist _)) (wr_tmp2 rfl rfl rfl rfl rfl)
  · rw [if_neg (by omega)]
    exact wr_weak (fun _ h => h.drop (List.nil_sublist _)) (wr_tmp2 rfl rfl rfl rfl rfl)
theorem radd_ok (hM : Laid M w) (u : Ur) (n v : List UInt8) (h : SmU u) (hn : n.length ≤ 1000000) (hv : v.length ≤ 1000000) : Calls Tryd.prog 21 #[.agg (urlCells u).toArray, str n, str v] w (RetE w (.agg (urlCells (addU u n v)).toArray)) := by
  have hen := (encode_length n).2
  have hev := (encode_length v).2
  obtain ⟨h1, h2, h3, h4, h5⟩ := h
  obtain ⟨sch, host, port, path, query, ask⟩ := u
  dsimp only at *
  unfold urlCells addU
  dsimp only
  refine calls_st (l := [.agg [str sch, str host, i64 (port : Int), str path, str query, .bool ask].toArray, str n, str v]) hM Tryd.func21 rfl rfl rfl (E0 := [(0, true, .agg [str sch, str host, i64 (port : Int), str path, str query, .bool ask].toArray), (1, true, str n), (2, true, str v)]) (params_cons rfl (params_cons rfl (params_cons rfl (params_nil _)))) ?_
  repeat' (first | (first | refine wc_seq ?_ | refine wc_region ?_ | refine wl_nil ?_ | refine wn_seq ?_ | refine wn_blk ?_ | refine wc_skip ?_ | refine wc_block ?_ | refine wc_exit rfl ?_ | (show WL _ _ (_ :: _) _ _ _ _; first | refine yl_v rfl rfl rfl ?_ | refine wl_v rfl rfl rfl (by first | ((show OpV _ _ _ _ (Oper.mk _ (Op.call ⟨.value (.func 40), _, _⟩) _ _ _ _) _ _; exact ov_call Tryd.call40 rfl (by intro himp; first | rfl | (simp_all; done)) (by rfl) (fun _ _ h k => h.ext k) (fun hcg w hw => rencode_ok hw.laid _ (by omega)))) | fail) ?_ | refine xl_alloc (fun _ => ?_) | refine xl_box rfl (fun _ => ?_) | refine xl_store rfl rfl ?_) | refine wc_ret rfl ?_) | (show WC _ (Code.cond _ _ _) _ _ _ _; (refine wc_cond rfl (fun hc => ?_) (fun hc => ?_) <;> (try (simp only [decide_eq_true_eq, decide_eq_false_iff_not, Bool.and_eq_true, Bool.or_eq_true, Bool.and_eq_false_iff, Bool.or_eq_false_iff, Bool.not_eq_true', Bool.not_eq_false', Int.not_lt, Int.not_le] at hc)) <;> (try (exfalso; first | omega | contradiction)))))
  · have e : (if query = [] then [] else query ++ [38]) ++ w1 (n, v) = query ++ [38] ++ (encode n ++ [61] ++ encode v) := by rw [if_neg hc]; simp [w1]
    rw [e]
    exact wr_cell1 rfl rfl rfl (List.Mem.head _) rfl rfl
  · have e : (if query = [] then [] else query ++ [38]) ++ w1 (n, v) = encode n ++ [61] ++ encode v := by rw [if_pos hc]; simp [w1]
    rw [e]
    exact wr_cell1 rfl rfl rfl (List.Mem.head _) rfl rfl
theorem uadd_ok (hG : Glob M) (hM : Laid M w) (u : Ur) (n v : List UInt8) (h : SmU u) (hn : n.length ≤ 1000000) (hv : v.length ≤ 1000000) : Calls Tryd.prog 20 #[.agg (urlCells u).toArray, str n, str v] w (RetE w (.agg (urlCells (addU u n v)).toArray)) := by
  have hwl := w1_length (m := 1000000) (p := (n, v)) ⟨hn, hv⟩
  have hw0 : writeP [(n, v)] = w1 (n, v) := by simp [writeP]
  obtain ⟨h1, h2, h3, h4, h5⟩ := h
  obtain ⟨sch, host, port, path, query, ask⟩ := u
  dsimp only at *
  unfold urlCells addU
  dsimp only
  refine calls_st (l := [.agg [str sch, str host, i64 (port : Int), str path, str query, .bool ask].toArray, str n, str v]) hM Tryd.func20 rfl rfl rfl (E0 := [(0, true, .agg [str sch, str host, i64 (port : Int), str path, str query, .bool ask].toArray), (1, true, str n), (2, true, str v)]) (params_cons rfl (params_cons rfl (params_cons rfl (params_nil _)))) ?_
  repeat' (first | refine wc_seq ?_ | refine wc_region ?_ | refine wl_nil ?_ | refine wn_seq ?_ | refine wn_blk ?_ | refine wc_skip ?_ | refine wc_block ?_ | refine wc_exit rfl ?_ | (show WL _ _ (_ :: _) _ _ _ _; first | refine yl_v rfl rfl rfl ?_ | refine wl_v rfl rfl rfl (by first  | fail) ?_ | refine xl_alloc (fun _ => ?_) | refine xl_box rfl (fun _ => ?_) | refine xl_store rfl rfl ?_ | refine xl_buildSlice rfl (fun _ => ?_)) | refine wc_ret rfl ?_)
  rename_i b3 b6
  refine wc_split (α := { q : List UInt8 // (if query = [] then [] else query ++ [38]) = q }) (fun x => [(1, true, str n), (2, true, str v), (3, true, .pointer (some ⟨b3, 0, none⟩)), (6, true, .pointer (some ⟨b6, 0, none⟩))]) (fun x => St w [] [(b6, .cells [str [], str [], i64 0, str [], str [], .bool false].toArray 24 (0, 0)), (b3, .cells [str sch, str host, i64 (port : Int), str path, str x.1, .bool ask].toArray 24 (0, 0))] M) ?_ ?_
  · repeat' (first | (first | refine wc_seq ?_ | refine wc_region ?_ | refine wl_nil ?_ | refine wn_seq ?_ | refine wn_blk ?_ | refine wc_skip ?_ | refine wc_block ?_ | refine wc_exit rfl ?_ | (show WL _ _ (_ :: _) _ _ _ _; first | refine yl_v rfl rfl rfl ?_ | refine wl_v rfl rfl rfl (by first  | fail) ?_ | refine xl_alloc (fun _ => ?_) | refine xl_box rfl (fun _ => ?_) | refine xl_store rfl rfl ?_ | refine xl_buildSlice rfl (fun _ => ?_)) | refine wc_ret rfl ?_) | (show WC _ (Code.cond _ _ _) _ _ _ _; (refine wc_cond rfl (fun hc => ?_) (fun hc => ?_) <;> (try (simp only [decide_eq_true_eq, decide_eq_false_iff_not, Bool.and_eq_true, Bool.or_eq_true, Bool.and_eq_false_iff, Bool.or_eq_false_iff, Bool.not_eq_true', Bool.not_eq_false', Int.not_lt, Int.not_le] at hc)) <;> (try (exfalso; first | omega | contradiction)))))
    · exact wn_cut ⟨query ++ [38], if_neg hc⟩ trivial (by first | exact Sub.nil _ | (repeat (first | exact Sub.nil _ | refine Sub.cons (by first | rfl | (simp [look]; done)) ?_))) (fun _ h => h)
    · subst hc
      exact wn_cut ⟨[], rfl⟩ trivial (by first | exact Sub.nil _ | (repeat (first | exact Sub.nil _ | refine Sub.cons (by first | rfl | (simp [look]; done)) ?_))) (fun _ h => h)
  rintro ⟨q, hq⟩
  dsimp only
  have hql : q.length ≤ 100000001 := by
    rw [← hq]
    split
    · simp
    · rw [List.length_append]; simp only [List.length_cons, List.length_nil]; omega
  rw [hq]
  repeat' (first | refine wc_seq ?_ | refine wc_region ?_ | refine wl_nil ?_ | refine wn_seq ?_ | refine wn_blk ?_ | refine wc_skip ?_ | refine wc_block ?_ | refine wc_exit rfl ?_ | (show WL _ _ (_ :: _) _ _ _ _; first | refine yl_v rfl rfl rfl ?_ | refine wl_v rfl rfl rfl (by first  | fail) ?_ | refine xl_alloc (fun _ => ?_) | refine xl_box rfl (fun _ => ?_) | refine xl_store rfl rfl ?_ | refine xl_buildSlice rfl (fun _ => ?_)) | refine wc_ret rfl ?_)
  refine wc_draw 8 (by kernel_rfl) rfl (by kernel_rfl) (fun _ _ h k => h.ext k) ?_
  repeat' (first | (show WD _ _ (_ :: _) _ _ _ _ _ _; first | refine yd_v rfl rfl rfl rfl rfl rfl ?_ | refine wd_v rfl rfl rfl rfl rfl rfl (by first  | fail) ?_ | refine yd_new rfl rfl rfl rfl rfl rfl ?_ | refine wd_conv rfl rfl rfl rfl rfl rfl rfl rfl rfl rfl ?_) | (show WD _ _ _ _ _ _ _ _ _; first | refine wd_nil ?_ | refine wd_nil1 (wl_fresh (fun _ => ?_))) | (first | refine wc_seq ?_ | refine wc_region ?_ | refine wl_nil ?_ | refine wn_seq ?_ | refine wn_blk ?_ | refine wc_skip ?_ | refine wc_block ?_ | refine wc_exit rfl ?_ | (show WL _ _ (_ :: _) _ _ _ _; first | refine yl_v rfl rfl rfl ?_ | refine wl_v rfl rfl rfl (by first  | fail) ?_ | refine xl_alloc (fun _ => ?_) | refine xl_box rfl (fun _ => ?_) | refine xl_store rfl rfl ?_ | refine xl_buildSlice rfl (fun _ => ?_)) | refine wc_ret rfl ?_))
  refine wd_rel (s := 19) rfl rfl rfl rfl rfl rfl rfl rfl (fun u => or_callF (v := str (w1 (n, v))) Tryd.call39 (fun b w' hw' => by
    have := write_ok (hG.mono (fun _ _ h => Or.inl h)) (hw'.lay (H1 := [(b, _)])).laid (slP_lit (l := [(n, v)]) (.inr (List.mem_singleton.2 rfl)) (by simp)) (fun p hp => by rw [List.mem_singleton] at hp; subst hp; exact ⟨hn, hv⟩) (by simp)
    rw [hw0] at this; exact this) u) (looks_of rfl) ?_
  repeat' (first | (show WD _ _ (_ :: _) _ _ _ _ _ _; first | refine yd_v rfl rfl rfl rfl rfl rfl ?_ | refine wd_v rfl rfl rfl rfl rfl rfl (by first  | fail) ?_ | refine yd_new rfl rfl rfl rfl rfl rfl ?_ | refine wd_conv rfl rfl rfl rfl rfl rfl rfl rfl rfl rfl ?_) | (show WD _ _ _ _ _ _ _ _ _; first | refine wd_nil ?_ | refine wd_nil1 (wl_fresh (fun _ => ?_))) | (first | refine wc_seq ?_ | refine wc_region ?_ | refine wl_nil ?_ | refine wn_seq ?_ | refine wn_blk ?_ | refine wc_skip ?_ | refine wc_block ?_ | refine wc_exit rfl ?_ | (show WL _ _ (_ :: _) _ _ _ _; first | refine yl_v rfl rfl rfl ?_ | refine wl_v rfl rfl rfl (by first  | fail) ?_ | refine xl_alloc (fun _ => ?_) | refine xl_box rfl (fun _ => ?_) | refine xl_store rfl rfl ?_ | refine xl_buildSlice rfl (fun _ => ?_)) | refine wc_ret rfl ?_))
  repeat' (first | (first | refine wc_seq ?_ | refine wc_region ?_ | refine wl_nil ?_ | refine wn_seq ?_ | refine wn_blk ?_ | refine wc_skip ?_ | refine wc_block ?_ | refine wc_exit rfl ?_ | (show WL _ _ (_ :: _) _ _ _ _; first | refine yl_v rfl rfl rfl ?_ | refine wl_v rfl rfl rfl (by first  | fail) ?_ | refine xl_alloc (fun _ => ?_) | refine xl_box rfl (fun _ => ?_) | refine xl_store rfl rfl ?_ | refine xl_buildSlice rfl (fun _ => ?_)) | refine wc_ret rfl ?_) | (show WC _ (Code.cond _ _ _) _ _ _ _; (refine wc_cond rfl (fun hc => ?_) (fun hc => ?_) <;> (try (simp only [decide_eq_true_eq, decide_eq_false_iff_not, Bool.and_eq_true, Bool.or_eq_true, Bool.and_eq_false_iff, Bool.or_eq_false_iff, Bool.not_eq_true', Bool.not_eq_false', Int.not_lt, Int.not_le] at hc)) <;> (try (exfalso; first | omega | contradiction)))))
  exact wr_cell1 rfl rfl rfl (List.Mem.tail _ (List.Mem.head _)) rfl rfl
theorem upairs_ok (hG : Glob M) (hM : Laid M w) (u : Ur) (h : SmU u) : Calls Tryd.prog 23 #[.agg (urlCells u).toArray] w (RetS M w (fun M' H v => H = [] ∧ ∃ sv, v = .tuple #[sv, i64 ((form u.query).2 : Int)] ∧ SlP M' sv (form u.query).1)) := by
  obtain ⟨h1, h2, h3, h4, h5⟩ := h
  obtain ⟨sch, host, port, path, query, ask⟩ := u
  dsimp only at *
  unfold urlCells
  dsimp only
  refine calls_st (l := [.agg [str sch, str host, i64 (port : Int), str path, str query, .bool ask].toArray]) hM Tryd.func23 rfl rfl rfl (E0 := [(0, true, .agg [str sch, str host, i64 (port : Int), str path, str query, .bool ask].toArray)]) (params_cons rfl (params_nil _)) ?_
  repeat' (first | (first | refine wc_seq ?_ | refine wc_region ?_ | refine wl_nil ?_ | refine wn_seq ?_ | refine wn_blk ?_ | refine wc_skip ?_ | refine wc_block ?_ | refine wc_exit rfl ?_ | (show WL _ _ (_ :: _) _ _ _ _; first | refine yl_v rfl rfl rfl ?_ | refine wl_v rfl rfl rfl (by first  | fail) ?_ | refine xl_box rfl (fun _ => ?_)) | refine wc_ret rfl ?_) | (show WC _ (Code.cond _ _ _) _ _ _ _; (refine wc_cond rfl (fun hc => ?_) (fun hc => ?_) <;> (try (simp only [decide_eq_true_eq, decide_eq_false_iff_not, Bool.and_eq_true, Bool.or_eq_true, Bool.and_eq_false_iff, Bool.or_eq_false_iff, Bool.not_eq_true', Bool.not_eq_false', Int.not_lt, Int.not_le] at hc)) <;> (try (exfalso; first | omega | contradiction)))))
  refine wl_callS rfl Tryd.call41 rfl rfl rfl rfl (fun w hw => form_ok hG hw.laid query (by omega)) ?_
  rintro _ H1 M1 hm1 hn1 ⟨rfl, sv, rfl, hS⟩
  repeat' (first | (first | refine wc_seq ?_ | refine wc_region ?_ | refine wl_nil ?_ | refine wn_seq ?_ | refine wn_blk ?_ | refine wc_skip ?_ | refine wc_block ?_ | refine wc_exit rfl ?_ | (show WL _ _ (_ :: _) _ _ _ _; first | refine yl_v rfl rfl rfl ?_ | refine wl_v rfl rfl rfl (by first  | fail) ?_ | refine xl_box rfl (fun _ => ?_)) | refine wc_ret rfl ?_) | (show WC _ (Code.cond _ _ _) _ _ _ _; (refine wc_cond rfl (fun hc => ?_) (fun hc => ?_) <;> (try (simp only [decide_eq_true_eq, decide_eq_false_iff_not, Bool.and_eq_true, Bool.or_eq_true, Bool.and_eq_false_iff, Bool.or_eq_false_iff, Bool.not_eq_true', Bool.not_eq_false', Int.not_lt, Int.not_le] at hc)) <;> (try (exfalso; first | omega | contradiction)))))
  refine wr_S2 (Hn := []) rfl rfl rfl (Since.refl.step hm1 hn1) (List.nil_sublist _) ⟨rfl, sv, rfl, hS⟩
/-- a path that begins with a /, of which no piece is . or .. -/
def cleanP (x : List UInt8) : Bool := decide (x ≠ [46]) && decide (x ≠ [46, 46])
def cleanB (s : List UInt8) : Bool := decide (s.head? = some 47) && (pieces 47 s).all cleanP
theorem clean_ok (hM : Laid M w) (s : List UInt8) (hs : s.length ≤ 1000000) : Calls Tryd.prog 15 #[str s] w (RetE w (.bool (cleanB s))) := by
  refine calls_st (l := [str s]) hM Tryd.func15 rfl rfl rfl (E0 := [(0, true, str s)]) (params_cons rfl (params_nil _)) ?_
  by_cases hp : ∃ r, s = 47 :: r
  · obtain ⟨r, rfl⟩ := hp
    repeat' (first | refine wc_seq ?_ | refine wc_region ?_ | refine wl_nil ?_ | refine wn_seq ?_ | refine wn_blk ?_ | refine wc_skip ?_ | refine wc_block ?_ | refine wc_exit rfl ?_ | (show WL _ _ (_ :: _) _ _ _ _; first | refine yl_v rfl rfl rfl ?_ | refine wl_v rfl rfl rfl (by first | (show OpV _ _ _ _ (Oper.mk _ (Op.index _ _ _) _ _ _ _) _ _; exact ov_sindex (s := 47 :: r) (i := 0) rfl rfl rfl (by first | with_reducible exact fun _ => rfl | with_reducible exact fun h => h | exact fun _ => rfl | exact fun h => h | (intro himp; simp_all; done)) (by first | with_reducible exact fun _ => rfl | with_reducible exact fun h => h | exact fun _ => rfl | exact fun h => h | (intro himp; simp_all; done)) rfl (fun _ => by simp)) | fail) ?_) | refine wc_ret rfl ?_)
    refine wc_cond rfl (fun hc => ?_) (fun hc => ?_)
    · exfalso
      (simp only [decide_eq_true_eq, decide_eq_false_iff_not, Bool.and_eq_true, Bool.or_eq_true, Bool.and_eq_false_iff, Bool.or_eq_false_iff, Bool.not_eq_true', Bool.not_eq_false', Int.not_lt, Int.not_le] at hc)
      rcases hc with hc | hc
      · cases hc
      · exact hc rfl
    clear hc
    repeat' (first | refine wc_seq ?_ | refine wc_region ?_ | refine wl_nil ?_ | refine wn_seq ?_ | refine wn_blk ?_ | refine wc_skip ?_ | refine wc_block ?_ | refine wc_exit rfl ?_ | (show WL _ _ (_ :: _) _ _ _ _; first | refine yl_v rfl rfl rfl ?_ | refine wl_v rfl rfl rfl (by first  | fail) ?_) | refine wc_ret rfl ?_)
    refine wl_callS rfl Tryd.call36 rfl rfl rfl rfl (fun w hw => rcut_ok hw.laid (47 :: r) 47 (by omega)) ?_
    rintro v1 H1 M1 hm1 hn1 ⟨rfl, hS⟩
    have hpn := pieces_ne 47 (47 :: r)
    have hpl := pieces_length 47 (47 :: r)
    have hcb : cleanB (47 :: r) = (pieces 47 (47 :: r)).all cleanP := by unfold cleanB; simp [cleanP]
    rw [hcb]
    clear hcb
    generalize pieces 47 (47 :: r) = l at *
    obtain ⟨a, cap, b, o, cs, T, fz, rfl, h1, h2, h3, h4⟩ := hS.open
    obtain ⟨rfl, hMb⟩ := h3 hpn
    repeat' (first | refine wc_seq ?_ | refine wc_region ?_ | refine wl_nil ?_ | refine wn_seq ?_ | refine wn_blk ?_ | refine wc_skip ?_ | refine wc_block ?_ | refine wc_exit rfl ?_ | (show WL _ _ (_ :: _) _ _ _ _; first | refine yl_v rfl rfl rfl ?_ | refine wl_v rfl rfl rfl (by first  | fail) ?_) | refine wc_ret rfl ?_)
    refine wc_loop (α := { i : Nat // i ≤ l.length ∧ ∀ j, j < i → cleanP (l.getD j default) = true }) (fun x => [(3, true, .slice (some ⟨b, o, none⟩) l.length cap), (4, true, i64 (x.1 : Int))]) (fun _ => St w [] [] M1) (fun x => l.length - x.1) ⟨0, Nat.zero_le _, fun j hj => absurd hj (by omega)⟩ (by first | exact Sub.nil _ | (repeat (first | exact Sub.nil _ | refine Sub.cons (by first | rfl | (simp [look]; done)) ?_))) (fun _ h => h) ?_
    rintro ⟨i, hi, hall⟩
    dsimp only
    by_cases hlt : i < l.length
    · have hcell := h4 i hlt
      repeat' (first | refine wc_seq ?_ | refine wc_region ?_ | refine wl_nil ?_ | refine wn_seq ?_ | refine wn_blk ?_ | refine wc_skip ?_ | refine wc_block ?_ | refine wc_exit rfl ?_ | (show WL _ _ (_ :: _) _ _ _ _; first | refine yl_v rfl rfl rfl ?_ | refine wl_v rfl rfl rfl (by first  | fail) ?_) | refine wc_ret rfl ?_)
      refine wc_cond rfl (fun hc => ?_) (fun hc => by exfalso; simp at hc; omega)
      clear hc
      repeat' (first | refine wc_seq ?_ | refine wc_region ?_ | refine wl_nil ?_ | refine wn_seq ?_ | refine wn_blk ?_ | refine wc_skip ?_ | refine wc_block ?_ | refine wc_exit rfl ?_ | (show WL _ _ (_ :: _) _ _ _ _; first | refine yl_v rfl rfl rfl ?_ | refine wl_v rfl rfl rfl (by first | (show OpV _ _ _ _ (Oper.mk _ (Op.indexAddr _ _ _) _ _ _ _) _ _; exact ov_indexAddr (i := i) (b := b) (o := o) rfl rfl rfl (by first | with_reducible exact fun _ => rfl | with_reducible exact fun h => h | exact fun _ => rfl | exact fun h => h | (intro himp; simp_all; done)) (by first | with_reducible exact fun _ => rfl | with_reducible exact fun h => h | exact fun _ => rfl | exact fun h => h | (intro himp; simp_all; done)) rfl (by first | exact (rfl : _ = some 1) | exact (rfl : _ = some 2) | exact (rfl : _ = some 3) | exact (rfl : _ = some 4) | exact (rfl : _ = some 6) | exact rfl) (fun _ => rfl) (by intro hcg; first | omega | (simp at hcg; omega))) | (show OpV _ _ _ _ (Oper.mk _ (Op.load _ _) _ _ _ _) _ _; exact ov_load1M rfl (by first | with_reducible exact fun _ => rfl | with_reducible exact fun h => h | exact fun _ => rfl | exact fun h => h | (intro himp; simp_all; done)) rfl rfl (fun _ => hMb) (fun _ => hcell)) | fail) ?_) | refine wc_ret rfl ?_)
      refine wc_cond rfl (fun hc => ?_) (fun hc => ?_)
      · (simp only [decide_eq_true_eq, decide_eq_false_iff_not, Bool.and_eq_true, Bool.or_eq_true, Bool.and_eq_false_iff, Bool.or_eq_false_iff, Bool.not_eq_true', Bool.not_eq_false', Int.not_lt, Int.not_le] at hc)
        have hno : l.all cleanP = false := by
          rw [List.all_eq_false]
          refine ⟨l[i], List.getElem_mem _, ?_⟩
          have e : l.getD i default = l[i] := by simp [hlt]
          rw [← e]
          rcases hc with hc | hc <;> rw [hc] <;> decide
        rw [hno]
        repeat' (first | refine wc_seq ?_ | refine wc_region ?_ | refine wl_nil ?_ | refine wn_seq ?_ | refine wn_blk ?_ | refine wc_skip ?_ | refine wc_block ?_ | refine wc_exit rfl ?_ | (show WL _ _ (_ :: _) _ _ _ _; first | refine yl_v rfl rfl rfl ?_ | refine wl_v rfl rfl rfl (by first  | fail) ?_) | refine wc_ret rfl ?_)
        exact wr_tmp rfl rfl rfl
      · (simp only [decide_eq_true_eq, decide_eq_false_iff_not, Bool.and_eq_true, Bool.or_eq_true, Bool.and_eq_false_iff, Bool.or_eq_false_iff, Bool.not_eq_true', Bool.not_eq_false', Int.not_lt, Int.not_le] at hc)
        repeat' (first | refine wc_seq ?_ | refine wc_region ?_ | refine wl_nil ?_ | refine wn_seq ?_ | refine wn_blk ?_ | refine wc_skip ?_ | refine wc_block ?_ | refine wc_exit rfl ?_ | (show WL _ _ (_ :: _) _ _ _ _; first | refine yl_v rfl rfl rfl ?_ | refine wl_v rfl rfl rfl (by first  | fail) ?_) | refine wc_ret rfl ?_)
        refine wn_cut ⟨i + 1, by omega, fun j hj => ?_⟩ (by show l.length - (i + 1) < l.length - i; omega) (by first | exact Sub.nil _ | (repeat (first | exact Sub.nil _ | refine Sub.cons (by first | rfl | (simp [look]; done)) ?_))) (fun _ h => h)
        by_cases e : j = i
        · subst e
          unfold cleanP
          rw [decide_eq_true hc.1, decide_eq_true hc.2]; rfl
        · exact hall j (by omega)
    have hyes : l.all cleanP = true := by
      rw [List.all_eq_true]
      intro x hx
      obtain ⟨j, hj, rfl⟩ := List.getElem_of_mem hx
      have := hall j (by omega)
      rwa [show l.getD j default = l[j] by simp [hj]] at this
    rw [hyes]
    repeat' (first | refine wc_seq ?_ | refine wc_region ?_ | refine wl_nil ?_ | refine wn_seq ?_ | refine wn_blk ?_ | refine wc_skip ?_ | refine wc_block ?_ | refine wc_exit rfl ?_ | (show WL _ _ (_ :: _) _ _ _ _; first | refine yl_v rfl rfl rfl ?_ | refine wl_v rfl rfl rfl (by first  | fail) ?_) | refine wc_ret rfl ?_)
    refine wc_cond rfl (fun hc => by exfalso; simp at hc; omega) (fun hc => ?_)
    clear hc
    repeat' (first | refine wc_seq ?_ | refine wc_region ?_ | refine wl_nil ?_ | refine wn_seq ?_ | refine wn_blk ?_ | refine wc_skip ?_ | refine wc_block ?_ | refine wc_exit rfl ?_ | (show WL _ _ (_ :: _) _ _ _ _; first | refine yl_v rfl rfl rfl ?_ | refine wl_v rfl rfl rfl (by first  | fail) ?_) | refine wc_ret rfl ?_)
    exact wr_tmp rfl rfl rfl
  · have hno : cleanB s = false := by
      unfold cleanB
      match s, hp with
      | [], _ => rfl
      | c :: r, hp => simp only [List.head?_cons, Option.some.injEq]; rw [decide_eq_false (fun e => hp ⟨r, by rw [e]⟩)]; rfl
    rw [hno]
    repeat' (first | refine wc_seq ?_ | refine wc_region ?_ | refine wl_nil ?_ | refine wn_seq ?_ | refine wn_blk ?_ | refine wc_skip ?_ | refine wc_block ?_ | refine wc_exit rfl ?_ | (show WL _ _ (_ :: _) _ _ _ _; first | refine yl_v rfl rfl rfl ?_ | refine wl_v rfl rfl rfl (by first | (show OpV _ _ _ _ (Oper.mk _ (Op.index _ _ _) _ _ _ _) _ _; exact ov_sindex (i := 0) rfl rfl rfl (by first | with_reducible exact fun _ => rfl | with_reducible exact fun h => h | exact fun _ => rfl | exact fun h => h | (intro himp; simp_all; done)) (by first | with_reducible exact fun _ => rfl | with_reducible exact fun h => h | exact fun _ => rfl | exact fun h => h | (intro himp; simp_all; done)) rfl (fun hcg => by simp at hcg; exact List.length_pos_iff.2 hcg)) | fail) ?_) | refine wc_ret rfl ?_)
    refine wc_cond rfl (fun hc => ?_) (fun hc => ?_)
    · repeat' (first | refine wc_seq ?_ | refine wc_region ?_ | refine wl_nil ?_ | refine wn_seq ?_ | refine wn_blk ?_ | refine wc_skip ?_ | refine wc_block ?_ | refine wc_exit rfl ?_ | (show WL _ _ (_ :: _) _ _ _ _; first | refine yl_v rfl rfl rfl ?_ | refine wl_v rfl rfl rfl (by first  | fail) ?_) | refine wc_ret rfl ?_)
      exact wr_tmp rfl rfl rfl
    · exfalso
      (simp only [decide_eq_true_eq, decide_eq_false_iff_not, Bool.and_eq_true, Bool.or_eq_true, Bool.and_eq_false_iff, Bool.or_eq_false_iff, Bool.not_eq_true', Bool.not_eq_false', Int.not_lt, Int.not_le] at hc)
      match s, hp with
      | [], _ => exact hc.1 rfl
      | c :: r, hp => exact hp ⟨r, by have := (getD_cast c 47).1 hc.2; rw [this]⟩
end Go.Proofs.YtmmoglgagifdfaaDoor
/-
  Paths without dots, parts in one way, plainly: done twice they are as done once. No program stands here.
-/
namespace Go.Pct
open Go.Txt
set_option linter.unusedVariables false
set_option linter.unusedSimpArgs false
theorem told_cons {r r' : List UInt8} {d : UInt8} (h : told r = some (d, r')) : ∃ a b, r = a :: b :: r' ∧ told2 a b = some d := by
  match r, h with
  | a :: b :: r, h =>
    simp only [told, Option.map_eq_some_iff, Prod.mk.injEq] at h
    obtain ⟨x, h1, rfl, rfl⟩ := h
    exact ⟨a, b, rfl, h1⟩
theorem each_append {by1 : UInt8 → Bool → List UInt8} : ∀ (n : Nat) (a b x y : List UInt8), a.length ≤ n → each by1 a = some x → each by1 b = some y → each by1 (a ++ b) = some (x ++ y)
  | _, [], b, x, y, _, ha, hb => by simp [each] at ha; subst ha; simpa using hb
  | 0, c :: r, b, x, y, hn, _, _ => by simp at hn
  | n + 1, c :: r, b, x, y, hn, ha, hb => by
    rw [each_cons] at ha
    rw [List.cons_append, each_cons]
    split at ha
    · rename_i hc
      rw [if_pos hc]
      cases ht : told r with
      | none => rw [ht] at ha; cases ha
      | some q =>
        obtain ⟨d, r'⟩ := q
        rw [ht] at ha; simp only at ha
        obtain ⟨a1, b1, rfl, h2⟩ := told_cons ht
        obtain ⟨u, hu, rfl⟩ := Option.map_eq_some_iff.1 ha
        have := each_append n r' b u y (by simp at hn; omega) hu hb
        have ht2 : told (a1 :: b1 :: r' ++ b) = some (d, r' ++ b) := by simp [told, h2]
        rw [ht2]; simp only; rw [this]; simp
    · rename_i hc
      rw [if_neg hc]
      obtain ⟨u, hu, rfl⟩ := Option.map_eq_some_iff.1 ha
      rw [each_append n r b u y (by simpa using hn) hu hb]; simp
theorem normal_append {a b x y : List UInt8} (ha : normal a = some x) (hb : normal b = some y) : normal (a ++ b) = some (x ++ y) := each_append _ a b x y (Nat.le_refl _) ha hb
theorem each_all {by1 : UInt8 → Bool → List UInt8} {Q : UInt8 → Bool} (h1 : ∀ c, Q c = true → (by1 c false).all Q = true) (h2 : ∀ c, (by1 c true).all Q = true) : ∀ (n : Nat) (s t : List UInt8), s.length ≤ n → each by1 s = some t → s.all Q = true → t.all Q = true
  | _, [], t, _, h, _ => by simp [each] at h; subst h; rfl
  | 0, c :: r, t, hn, _, _ => by simp at hn
  | n + 1, c :: r, t, hn, h, hq => by
    rw [List.all_cons, Bool.and_eq_true] at hq
    rw [each_cons] at h
    split at h
    · cases ht : told r with
      | none => rw [ht] at h; cases h
      | some q =>
        obtain ⟨d, r'⟩ := q
        rw [ht] at h; simp only at h
        obtain ⟨a1, b1, rfl, _⟩ := told_cons ht
        obtain ⟨u, hu, rfl⟩ := Option.map_eq_some_iff.1 h
        have hq2 := hq.2
        simp only [List.all_cons, Bool.and_eq_true] at hq2
        rw [List.all_append, h2, each_all h1 h2 n r' u (by simp at hn; omega) hu hq2.2.2]; rfl
    · obtain ⟨u, hu, rfl⟩ := Option.map_eq_some_iff.1 h
      rw [List.all_append, h1 c hq.1, each_all h1 h2 n r u (by simpa using hn) hu hq.2]; rfl
theorem told2_slash (a : UInt8) : told2 47 a = none ∧ told2 a 47 = none := by revert a; apply all_bytes; decide +kernel
theorem normal_split : ∀ (n : Nat) (a b t : List UInt8), a.length ≤ n → normal (a ++ 47 :: b) = some t → 47 ∉ a → ∃ x y, normal a = some x ∧ normal b = some y ∧ t = x ++ 47 :: y
  | _, [], b, t, _, h, _ => by
    unfold normal at h
    rw [List.nil_append, each_plain _ _ _ (by decide)] at h
    obtain ⟨y, hy, rfl⟩ := Option.map_eq_some_iff.1 h
    exact ⟨[], y, rfl, hy, rfl⟩
  | 0, c :: r, b, t, hn, _, _ => by simp at hn
  | n + 1, c :: r, b, t, hn, h, hm => by
    simp only [List.mem_cons, not_or] at hm
    unfold normal at h ⊢
    rw [List.cons_append, each_cons] at h
    split at h
    · rename_i hc
      cases ht : told (r ++ 47 :: b) with
      | none => rw [ht] at h; cases h
      | some q =>
        obtain ⟨d, r'⟩ := q
        rw [ht] at h; simp only at h
        obtain ⟨p, q, e, h2⟩ := told_cons ht
        match r, e, hm, hn with
        | [], e, _, _ => simp only [List.nil_append, List.cons.injEq] at e; rw [← e.1, (told2_slash q).1] at h2; cases h2
        | [p'], e, _, _ => simp only [List.cons_append, List.nil_append, List.cons.injEq] at e; rw [← e.2.1, (told2_slash p).2] at h2; cases h2
        | p' :: q' :: r2, e, hm, hn =>
          simp only [List.cons_append, List.cons.injEq] at e
          obtain ⟨rfl, rfl, rfl⟩ := e
          simp only [List.mem_cons, not_or] at hm
          obtain ⟨u, hu, rfl⟩ := Option.map_eq_some_iff.1 h
          obtain ⟨x, y, hx, hy, rfl⟩ := normal_split n r2 b u (by simp at hn; omega) hu hm.2.2.2
          refine ⟨byNorm d true ++ x, y, ?_, hy, by simp⟩
          have ht2 : told (p' :: q' :: r2) = some (d, r2) := by simp [told, h2]
          unfold normal at hx
          rw [each_cons, if_pos hc, ht2]; simp only; rw [hx]; rfl
    · rename_i hc
      obtain ⟨u, hu, rfl⟩ := Option.map_eq_some_iff.1 h
      obtain ⟨x, y, hx, hy, rfl⟩ := normal_split n r b u (by simpa using hn) hu hm.2
      refine ⟨byNorm c false ++ x, y, ?_, hy, by simp⟩
      unfold normal at hx
      rw [each_cons, if_neg hc, hx]; rfl
theorem normal_self {a b : List UInt8} (hm : 47 ∉ a) (h : normal (a ++ 47 :: b) = some (a ++ 47 :: b)) : normal a = some a ∧ normal b = some b := by
  obtain ⟨x, y, hx, hy, e⟩ := normal_split _ a b _ (Nat.le_refl _) h hm
  have l1 := normal_length hx
  have l2 := normal_length hy
  have l3 := congrArg List.length e
  simp only [List.length_append, List.length_cons] at l3
  obtain ⟨e1, e2⟩ := List.append_inj e (by omega)
  injection e2 with _ e2
  rw [e1, e2]; exact ⟨by rw [← e1]; exact e1 ▸ hx, by rw [← e2]; exact e2 ▸ hy⟩
theorem at_idx {c : UInt8} {s : List UInt8} (h : idx c s < s.length) : s = s.take (idx c s) ++ c :: s.drop (idx c s + 1) := by
  have h1 := Txt.drop_getD h
  rw [idx_at c s h] at h1
  rw [← h1, List.take_append_drop]
theorem normal_pieces : ∀ (n : Nat) (r : List UInt8), r.length ≤ n → normal r = some r → ∀ x ∈ pieces 47 r, normal x = some x
  | n, r, hn, h, x, hx => by
    rw [pieces_idx] at hx
    split at hx
    · rename_i hi
      have e := at_idx hi
      have hf := idx_before 47 r
      have hl : (r.drop (idx 47 r + 1)).length < r.length := by rw [List.length_drop]; omega
      generalize r.take (idx 47 r) = a at *
      generalize r.drop (idx 47 r + 1) = b at *
      rw [e] at h
      obtain ⟨h1, h2⟩ := normal_self hf h
      rcases List.mem_cons.1 hx with rfl | hx
      · exact h1
      · match n, hn with
        | 0, hn => omega
        | n + 1, hn => exact normal_pieces n b (by omega) h2 x hx
    · rw [List.mem_singleton] at hx; subst hx; exact h
theorem encode_normal (s : List UInt8) : normal (encode s) = some (encode s) := by
  have h1 := decode_encode false s
  cases hn : normal (encode s) with
  | none =>
    rw [decode_tokens] at h1
    rw [normal_tokens] at hn
    cases ht : tokens (encode s) with
    | none => rw [ht] at h1; cases h1
    | some l => rw [ht] at hn; cases hn
  | some a =>
    obtain ⟨x, _, h2, _, h4⟩ := normal_law hn
    rw [h1] at h2
    injection h2 with h2
    rw [h4 (enc_bytes s), ← h2]
end Go.Pct
namespace Go.Txt
theorem pieces_free (c : UInt8) : ∀ s : List UInt8, ∀ x ∈ pieces c s, c ∉ x
  | [], x, h => by simp [pieces] at h; subst h; simp
  | y :: s, x, h => by
    have ih := pieces_free c s
    simp only [pieces] at h
    split at h
    · rcases List.mem_cons.1 h with rfl | h
      · simp
      · exact ih x h
    · rename_i hy
      cases hp : pieces c s with
      | nil => exact absurd hp (pieces_ne c s)
      | cons p ps =>
        rw [hp] at h ih
        rcases List.mem_cons.1 h with rfl | h
        · simp only [List.mem_cons, not_or]; exact ⟨fun e => hy e.symm, ih p (List.mem_cons_self ..)⟩
        · exact ih x (List.mem_cons_of_mem _ h)
theorem pieces_all (c : UInt8) {Q : UInt8 → Bool} : ∀ s : List UInt8, s.all Q = true → ∀ x ∈ pieces c s, x.all Q = true
  | [], _, x, h => by simp [pieces] at h; subst h; rfl
  | y :: s, hq, x, h => by
    rw [List.all_cons, Bool.and_eq_true] at hq
    have ih := pieces_all c s hq.2
    simp only [pieces] at h
    split at h
    · rcases List.mem_cons.1 h with rfl | h
      · rfl
      · exact ih x h
    · cases hp : pieces c s with
      | nil => exact absurd hp (pieces_ne c s)
      | cons p ps =>
        rw [hp] at h ih
        rcases List.mem_cons.1 h with rfl | h
        · rw [List.all_cons, hq.1, ih p (List.mem_cons_self ..)]; rfl
        · exact ih x (List.mem_cons_of_mem _ h)
end Go.Txt
namespace Go.Url
open Go.Pct Go.Txt
set_option linter.unusedVariables false
set_option linter.unusedSimpArgs false

/-! ### dots -/
theorem slashed_cons (x : List UInt8) (l : List (List UInt8)) : slashed (x :: l) = 47 :: (x ++ slashed l) := by simp [slashed]
theorem slashed_append (a b : List (List UInt8)) : slashed (a ++ b) = slashed a ++ slashed b := by simp [slashed]
theorem pieces_slashed : ∀ (K : List (List UInt8)) (k : List UInt8), 47 ∉ k → (∀ x ∈ K, 47 ∉ x) → pieces 47 (k ++ slashed K) = k :: K
  | [], k, hk, _ => by rw [show slashed [] = [] from rfl, List.append_nil]; exact pieces_no hk
  | x :: K, k, hk, h => by
    rw [slashed_cons, pieces_hit hk, pieces_slashed K x (h x (List.mem_cons_self ..)) (fun y hy => h y (List.mem_cons_of_mem _ hy))]
theorem slashed_pieces : ∀ s : List UInt8, slashed (pieces 47 s) = 47 :: s
  | [] => rfl
  | x :: s => by
    have ih := slashed_pieces s
    simp only [pieces]
    split
    · rename_i h; rw [slashed_cons, ih, h]; rfl
    · cases hp : pieces 47 s with
      | nil => exact absurd hp (pieces_ne 47 s)
      | cons p ps =>
        rw [hp, slashed_cons] at ih
        injection ih with _ ih
        rw [slashed_cons, List.cons_append, ih]
def GoodP (x : List UInt8) : Prop := 47 ∉ x ∧ x ≠ [46] ∧ x ≠ [46, 46]
theorem dotGo_good : ∀ (l : List (List UInt8)) (k : List (List UInt8)), (∀ x ∈ l, x ≠ [46] ∧ x ≠ [46, 46]) → l.foldl dotStep (k, false) = (k ++ l, false)
  | [], k, _ => by simp
  | x :: l, k, h => by
    have hx := h x (List.mem_cons_self ..)
    rw [List.foldl_cons]
    have : dotStep (k, false) x = (k ++ [x], false) := by unfold dotStep; rw [if_neg hx.1, if_neg hx.2]
    rw [this, dotGo_good l (k ++ [x]) (fun y hy => h y (List.mem_cons_of_mem _ hy))]
    simp
theorem dotStep_kept {Q : List UInt8 → Prop} {k : List (List UInt8) × Bool} {x : List UInt8} (hk : ∀ y ∈ k.1, Q y) (hx : x ≠ [46] → x ≠ [46, 46] → Q x) : ∀ y ∈ (dotStep k x).1, Q y := by
  intro y hy
  unfold dotStep at hy
  split at hy
  · exact hk y hy
  · rename_i h1
    split at hy
    · exact hk y ((List.dropLast_sublist _).subset hy)
    · rename_i h2
      rcases List.mem_append.1 hy with hy | hy
      · exact hk y hy
      · rw [List.mem_singleton] at hy; subst hy; exact hx h1 h2
theorem dotGo_kept {Q : List UInt8 → Prop} : ∀ (l : List (List UInt8)) (k : List (List UInt8) × Bool), (∀ y ∈ k.1, Q y) → (∀ x ∈ l, x ≠ [46] → x ≠ [46, 46] → Q x) → ∀ y ∈ (l.foldl dotStep k).1, Q y
  | [], k, hk, _ => hk
  | x :: l, k, hk, h => by
    rw [List.foldl_cons]
    exact dotGo_kept l _ (dotStep_kept hk (h x (List.mem_cons_self ..))) (fun y hy => h y (List.mem_cons_of_mem _ hy))
theorem dropLast_slashed (l : List (List UInt8)) : (slashed l.dropLast).length ≤ (slashed l).length := by
  rcases List.eq_nil_or_concat l with rfl | ⟨a, b, rfl⟩
  · simp
  · rw [List.concat_eq_append, List.dropLast_concat, slashed_append, List.length_append]; omega
def flen (b : Bool) : Nat := if b = true then 1 else 0
theorem dotGo_size : ∀ (l : List (List UInt8)) (k : List (List UInt8) × Bool) (m : Nat), (slashed k.1).length + flen k.2 ≤ m → (slashed (l.foldl dotStep k).1).length + flen (l.foldl dotStep k).2 ≤ m + (slashed l).length
  | [], k, m, h => by simpa [slashed] using h
  | x :: l, k, m, h => by
    rw [List.foldl_cons, slashed_cons]
    have h1 : (slashed (dotStep k x).1).length + flen (dotStep k x).2 ≤ m + 1 + x.length := by
      unfold dotStep
      split
      · rename_i e; subst e; simp [flen] at *; omega
      · split
        · rename_i e; subst e
          have := dropLast_slashed k.1
          simp [flen] at *; omega
        · have e1 : (slashed [x]).length = x.length + 1 := by simp [slashed]
          have e2 : flen false = 0 := rfl
          rw [slashed_append, List.length_append, e1, e2]
          omega
    have := dotGo_size l (dotStep k x) (m + 1 + x.length) h1
    simp only [List.length_cons, List.length_append]; omega
theorem dots_form (r : List UInt8) : ∃ K, K ≠ [] ∧ (∀ x ∈ K, GoodP x ∧ (x = [] ∨ x ∈ pieces 47 r)) ∧ dots (47 :: r) = slashed K ∧ (slashed K).length ≤ r.length + 1 := by
  have hk := dotGo_kept (Q := fun x => GoodP x ∧ (x = [] ∨ x ∈ pieces 47 r)) (pieces 47 r) ([], false) (by simp) (fun x hx h1 h2 => ⟨⟨pieces_free 47 r x hx, h1, h2⟩, .inr hx⟩)
  have hz := dotGo_size (pieces 47 r) ([], false) 0 (by simp [slashed, flen])
  rw [slashed_pieces, List.length_cons] at hz
  have hd : dots (47 :: r) = slashed (dotGo (pieces 47 r)).1 ++ (if (dotGo (pieces 47 r)).2 = true ∨ (dotGo (pieces 47 r)).1 = [] then [47] else []) := rfl
  rw [hd]
  unfold dotGo
  generalize List.foldl dotStep ([], false) (pieces 47 r) = K at *
  by_cases hc : K.2 = true ∨ K.1 = []
  · rw [if_pos hc]
    refine ⟨K.1 ++ [[]], by simp, fun x hx => ?_, by simp [slashed], ?_⟩
    · rcases List.mem_append.1 hx with hx | hx
      · exact hk x hx
      · rw [List.mem_singleton] at hx; subst hx; exact ⟨⟨by simp, by simp, by simp⟩, .inl rfl⟩
    · rw [slashed_append, List.length_append]
      have : (slashed [[]]).length = 1 := rfl
      rcases hc with hc | hc
      · rw [hc] at hz; simp [flen] at hz; omega
      · rw [hc]; simp [slashed]
  · rw [if_neg hc, List.append_nil]
    rw [not_or] at hc
    exact ⟨K.1, hc.2, hk, rfl, by omega⟩
theorem dots_slashed {K : List (List UInt8)} (hne : K ≠ []) (hg : ∀ x ∈ K, GoodP x) : dots (slashed K) = slashed K := by
  cases K with
  | nil => exact absurd rfl hne
  | cons k K =>
    have hp : pieces 47 (k ++ slashed K) = k :: K := pieces_slashed K k (hg k (List.mem_cons_self ..)).1 (fun x hx => (hg x (List.mem_cons_of_mem _ hx)).1)
    rw [slashed_cons]
    show slashed (dotGo (pieces 47 (k ++ slashed K))).1 ++ (if (dotGo (pieces 47 (k ++ slashed K))).2 = true ∨ (dotGo (pieces 47 (k ++ slashed K))).1 = [] then [47] else []) = _
    rw [hp]
    have hd : dotGo (k :: K) = (k :: K, false) := by
      unfold dotGo
      rw [dotGo_good (k :: K) [] (fun x hx => ⟨(hg x hx).2.1, (hg x hx).2.2⟩), List.nil_append]
    rw [hd, if_neg (by simp), List.append_nil, slashed_cons]
theorem slashed_pieces2 {K : List (List UInt8)} (hne : K ≠ []) (hg : ∀ x ∈ K, GoodP x) : pieces 47 (slashed K) = [] :: K := by
  have := pieces_slashed K [] (by simp) (fun x hx => (hg x hx).1)
  rwa [List.nil_append] at this

/-! ### parts -/
theorem norm_stand1 (c : UInt8) : standC c = true → (byNorm c false).all standC = true := by intro h; simp [byNorm, h]
theorem norm_stand2 (c : UInt8) : (byNorm c true).all standC = true := by revert c; apply all_bytes; decide +kernel
theorem norm_ask1 (c : UInt8) : (c != 63) = true → (byNorm c false).all (fun d => d != 63) = true := by intro h; simp [byNorm] at *; exact h
theorem norm_ask2 (c : UInt8) : (byNorm c true).all (fun d => d != 63) = true := by revert c; apply all_bytes; decide +kernel
theorem part_iff {s t : List UInt8} : partP s = some t ↔ s.all standC = true ∧ normal s = some t := by
  unfold partP
  split
  · rename_i h; exact ⟨fun k => ⟨h, k⟩, fun k => k.2⟩
  · rename_i h; exact ⟨fun k => (nomatch k), fun k => absurd k.1 h⟩
theorem part_back {s t : List UInt8} (h : partP s = some t) : partP t = some t := by
  obtain ⟨h1, h2⟩ := part_iff.1 h
  obtain ⟨_, h3, _⟩ := normal_law h2
  exact part_iff.2 ⟨each_all norm_stand1 norm_stand2 _ s t (Nat.le_refl _) h2 h1, h3⟩
theorem part_len {s t : List UInt8} (h : partP s = some t) : t.length ≤ s.length := normal_length (part_iff.1 h).2
theorem not_ask {s : List UInt8} : s.all (fun d => d != 63) = true ↔ 63 ∉ s := by
  rw [List.all_eq_true]
  constructor
  · intro h hm; have := h 63 hm; simp at this
  · intro h x hx; simp only [bne_iff_ne, ne_eq]; rintro rfl; exact h hx
theorem part_ask {s t : List UInt8} (h : partP s = some t) (hn : 63 ∉ s) : 63 ∉ t :=
  not_ask.1 (each_all norm_ask1 norm_ask2 _ s t (Nat.le_refl _) (part_iff.1 h).2 (not_ask.2 hn))
/-- the first byte stays, if it is a / -/
theorem part_slash {r t : List UInt8} (h : partP (47 :: r) = some t) : ∃ t', t = 47 :: t' := by
  have := (part_iff.1 h).2
  unfold normal at this
  rw [each_plain _ _ _ (by decide)] at this
  obtain ⟨u, _, rfl⟩ := Option.map_eq_some_iff.1 this
  exact ⟨u, rfl⟩
theorem slashed_normal : ∀ {K : List (List UInt8)}, (∀ x ∈ K, normal x = some x) → normal (slashed K) = some (slashed K)
  | [], _ => rfl
  | x :: K, h => by
    rw [slashed_cons]
    have h1 : normal [47] = some [47] := rfl
    exact normal_append (a := [47]) h1 (normal_append (h x (List.mem_cons_self ..)) (slashed_normal (fun y hy => h y (List.mem_cons_of_mem _ hy))))
theorem slashed_all {Q : UInt8 → Bool} (h47 : Q 47 = true) : ∀ {K : List (List UInt8)}, (∀ x ∈ K, x.all Q = true) → (slashed K).all Q = true
  | [], _ => rfl
  | x :: K, h => by
    rw [slashed_cons, List.all_cons, List.all_append, h47, h x (List.mem_cons_self ..), slashed_all h47 (fun y hy => h y (List.mem_cons_of_mem _ hy))]; rfl
/-- the path of a URL that was read -/
structure PathP (q : List UInt8) : Prop where
  form : ∃ K, K ≠ [] ∧ (∀ x ∈ K, GoodP x) ∧ q = slashed K
  part : partP q = some q
  ask : 63 ∉ q
theorem dots_part {p : List UInt8} (h : partP p = some p) (ha : 63 ∉ p) (hs : p = [] ∨ ∃ r, p = 47 :: r) : PathP (if dots p = [] then [47] else dots p) ∧ (if dots p = [] then [47] else dots p).length ≤ p.length + 1 := by
  rcases hs with rfl | ⟨r, rfl⟩
  · exact ⟨⟨⟨[[]], by simp, fun x hx => by rw [List.mem_singleton] at hx; subst hx; exact ⟨by simp, by simp, by simp⟩, rfl⟩, rfl, by decide⟩, by decide⟩
  · rw [if_neg (by rw [dots_nil]; simp)]
    obtain ⟨K, h1, h2, h3, h4⟩ := dots_form r
    obtain ⟨hst, hno⟩ := part_iff.1 h
    have hr : normal r = some r := (normal_self (a := []) (by simp) (by simpa using hno)).2
    have hp := normal_pieces _ r (Nat.le_refl _) hr
    have hst2 : r.all standC = true := by rw [List.all_cons, Bool.and_eq_true] at hst; exact hst.2
    have hpa := pieces_all 47 r hst2
    have hpb := pieces_all 47 (Q := fun d => d != 63) r (not_ask.2 (fun hm => ha (List.mem_cons_of_mem _ hm)))
    rw [h3]
    refine ⟨⟨⟨K, h1, fun x hx => (h2 x hx).1, rfl⟩, part_iff.2 ⟨slashed_all (by decide) fun x hx => ?_, slashed_normal fun x hx => ?_⟩, not_ask.1 (slashed_all (by decide) fun x hx => ?_)⟩, by simp only [List.length_cons]; omega⟩
    · rcases (h2 x hx).2 with rfl | hx
      · rfl
      · exact hpa x hx
    · rcases (h2 x hx).2 with rfl | hx
      · rfl
      · exact hp x hx
    · rcases (h2 x hx).2 with rfl | hx
      · rfl
      · exact hpb x hx
end Go.Url
/-
  A URL's text reads as that URL, plainly. No program stands here.
-/
namespace Go.Url
open Go.Pct Go.Txt
set_option linter.unusedVariables false
set_option linter.unusedSimpArgs false

/-! ### numbers -/
theorem valD_end (a : List UInt8) (c : UInt8) : valD (a ++ [c]) = 10 * valD a + (c.toNat - 48) := by simp [valD]
theorem dec_one : ∀ n, n < 10 → ([UInt8.ofNat (48 + n)] : List UInt8).all digC = true ∧ valD [UInt8.ofNat (48 + n)] = n ∧ (0 < n → ([UInt8.ofNat (48 + n)] : List UInt8).head? ≠ some 48) := by decide
theorem dec_dig : ∀ n, n < 10 → digC (UInt8.ofNat (48 + n)) = true ∧ (UInt8.ofNat (48 + n)).toNat - 48 = n := by decide
theorem dec_all (n : Nat) : (Lib.decDigits n).all digC = true ∧ valD (Lib.decDigits n) = n ∧ (0 < n → (Lib.decDigits n).head? ≠ some 48) ∧ Lib.decDigits n ≠ [] := by
  induction n using Nat.strongRecOn with
  | ind n ih =>
    rw [Lib.decDigits]
    split
    · rename_i h
      obtain ⟨h1, h2, h3⟩ := dec_one n h
      exact ⟨h1, h2, h3, by simp⟩
    · rename_i h
      obtain ⟨h1, h2, h3, h4⟩ := ih (n / 10) (by omega)
      obtain ⟨g1, g2⟩ := dec_dig (n % 10) (by omega)
      refine ⟨by rw [List.all_append, h1, List.all_cons, g1]; rfl, by rw [valD_end, h2, g2]; omega, fun _ => ?_, by simp⟩
      have h3 := h3 (by omega)
      cases hd : Lib.decDigits (n / 10) with
      | nil => exact absurd hd h4
      | cons x t => rw [hd] at h3; simpa using h3
theorem dec_five : ∀ (k u : Nat), u < 10 ^ (k + 1) → (Lib.decDigits u).length ≤ k + 1
  | 0, u, h => by
    rw [Lib.decDigits, dif_pos (by omega)]; simp
  | k + 1, u, h => by
    rw [Lib.decDigits]
    split
    · simp
    · have := dec_five k (u / 10) (by rw [Nat.pow_succ] at h; omega)
      simp; omega
theorem dec_port {n : Nat} (h1 : 1 ≤ n) (h2 : n ≤ 65535) : portB (Lib.decDigits n) = true := by
  obtain ⟨g1, g2, g3, _⟩ := dec_all n
  unfold portB
  rw [g1, g2, decide_eq_true (g3 h1), decide_eq_true h1, decide_eq_true h2]; rfl

/-! ### a URL that can be read -/
structure Okay (u : Ur) : Prop where
  sch : u.scheme = sHttp ∨ u.scheme = sHttps
  host : hostB u.host = true
  port : u.port ≤ 65535 ∧ u.port ≠ ownP u.scheme
  path : PathP u.path
  query : partP u.query = some u.query
  ask : u.ask = false → u.query = []
theorem wd_nil (p : UInt8 → Bool) : wd p [] = [] := rfl
theorem rs_nil (p : UInt8 → Bool) : rs p [] = [] := rfl
theorem wd_cons_no {p : UInt8 → Bool} {c : UInt8} {r : List UInt8} (h : p c = false) : wd p (c :: r) = c :: wd p r ∧ rs p (c :: r) = rs p r := by
  unfold wd rs; simp [h]
theorem wd_cons_yes {p : UInt8 → Bool} {c : UInt8} {r : List UInt8} (h : p c = true) : wd p (c :: r) = [] ∧ rs p (c :: r) = c :: r := by
  unfold wd rs; simp [h]
theorem part_nil : partP [] = some [] := rfl
theorem port_byte (c : UInt8) : isPort c = true → c = 47 ∨ c = 63 ∨ c = 35 := by revert c; apply all_bytes; decide +kernel
theorem host_byte (c : UInt8) : isHost c = true → c = 58 ∨ c = 47 ∨ c = 63 ∨ c = 35 := by revert c; apply all_bytes; decide +kernel
theorem tail_okay {sch h r : List UInt8} {pn : Nat} {u : Ur} (ht : tailP sch h pn r = (u, 0)) (hr : r = [] ∨ ∃ c t, r = c :: t ∧ (c = 47 ∨ c = 63 ∨ c = 35)) :
    u.scheme = sch ∧ u.host = h ∧ u.port = pn ∧ PathP u.path ∧ partP u.query = some u.query ∧ (u.ask = false → u.query = []) ∧ u.path.length ≤ r.length + 1 ∧ u.query.length ≤ r.length := by
  have hl := rs_length isAsk r
  unfold tailP at ht
  cases hp : partP (wd isAsk r) with
  | none => rw [hp] at ht; simp at ht
  | some p =>
    rw [hp] at ht
    simp only at ht
    cases hq : partP ((rs isAsk r).drop 1) with
    | none => rw [hq] at ht; simp at ht
    | some q =>
      rw [hq] at ht
      simp only [Prod.mk.injEq, and_true] at ht
      subst ht
      have hna : 63 ∉ wd isAsk r := fun hm => by have := wd_mem hm; revert this; decide
      have hs : p = [] ∨ ∃ t, p = 47 :: t := by
        rcases hr with rfl | ⟨c, t, rfl, rfl | rfl | rfl⟩
        · rw [wd_nil, part_nil] at hp; injection hp with hp; exact .inl hp.symm
        · rw [(wd_cons_no (p := isAsk) (c := 47) (by decide)).1] at hp; exact .inr (part_slash hp)
        · rw [(wd_cons_yes (p := isAsk) (c := 63) (by decide)).1, part_nil] at hp; injection hp with hp; exact .inl hp.symm
        · rw [(wd_cons_no (p := isAsk) (c := 35) (by decide)).1] at hp
          have := (part_iff.1 hp).1
          rw [List.all_cons, show standC 35 = false by decide] at this
          cases this
      have l1 := part_len hp
      have l2 := part_len hq
      rw [List.length_drop] at l2
      obtain ⟨g1, g2⟩ := dots_part (part_back hp) (part_ask hp hna) hs
      refine ⟨rfl, rfl, rfl, g1, part_back hq, fun ha => ?_, by simp only; omega, by simp only; omega⟩
      have ha : rs isAsk r = [] := by
        simp only [ne_eq, decide_eq_false_iff_not, Decidable.not_not] at ha; exact ha
      rw [ha] at hq
      rw [show List.drop 1 ([] : List UInt8) = [] from rfl, part_nil] at hq
      injection hq with hq
      exact hq.symm
theorem stop_head {p : UInt8 → Bool} (r : List UInt8) : rs p r = [] ∨ ∃ c t, rs p r = c :: t ∧ p c = true := rs_stop p r
theorem parse_okay {s : List UInt8} {u : Ur} (h : parseU s = (u, 0)) : Okay u ∧ u.path.length ≤ s.length + 1 ∧ u.query.length ≤ s.length := by
  unfold parseU at h
  split at h
  · simp at h
  · split at h
    · simp at h
    · rename_i a b hcs
      have hcl := cutS_length hcs
      split at h
      · rename_i hsch
        unfold hostP at h
        split at h
        · rename_i hh
          have hl := rs_length isHost b
          rcases rs_stop isHost b with he | ⟨c, t, he, hc⟩
          · rw [he] at h
            have h : tailP (low a) (low (wd isHost b)) 0 [] = (u, 0) := h
            obtain ⟨e1, e2, e3, e4, e5, e6, e7, e8⟩ := tail_okay h (.inl rfl)
            simp only [List.length_nil] at e7 e8
            exact ⟨⟨by rw [e1]; exact hsch, by rw [e2]; exact hh, by rw [e3, e1]; refine ⟨by omega, ?_⟩; unfold ownP; split <;> decide, e4, e5, e6⟩, by omega, by omega⟩
          · rw [he] at h hl
            simp only [List.length_cons] at hl
            rcases host_byte c hc with rfl | hc
            · have h : (if portB (wd isPort t) = true then tailP (low a) (low (wd isHost b)) (if valD (wd isPort t) = ownP (low a) then 0 else valD (wd isPort t)) (rs isPort t) else (uz, 14)) = (u, 0) := h
              split at h
              · rename_i hpb
                have hl2 := rs_length isPort t
                have hv : valD (wd isPort t) ≤ 65535 := by
                  unfold portB at hpb; simp only [Bool.and_eq_true, decide_eq_true_eq] at hpb; exact hpb.2
                obtain ⟨e1, e2, e3, e4, e5, e6, e7, e8⟩ := tail_okay h (by
                  rcases rs_stop isPort t with he | ⟨c, t', he, hc⟩
                  · exact .inl he
                  · exact .inr ⟨c, t', he, port_byte c hc⟩)
                refine ⟨⟨by rw [e1]; exact hsch, by rw [e2]; exact hh, ?_, e4, e5, e6⟩, by omega, by omega⟩
                rw [e3, e1]
                split
                · refine ⟨by omega, ?_⟩; unfold ownP; split <;> decide
                · exact ⟨hv, by assumption⟩
              · simp at h
            · have h : tailP (low a) (low (wd isHost b)) 0 (c :: t) = (u, 0) := by
                rcases hc with rfl | rfl | rfl <;> exact h
              obtain ⟨e1, e2, e3, e4, e5, e6, e7, e8⟩ := tail_okay h (.inr ⟨c, t, rfl, by simpa using hc⟩)
              simp only [List.length_cons] at e7 e8
              exact ⟨⟨by rw [e1]; exact hsch, by rw [e2]; exact hh, by rw [e3, e1]; refine ⟨by omega, ?_⟩; unfold ownP; split <;> decide, e4, e5, e6⟩, by omega, by omega⟩
        · simp at h
      · simp at h

/-! ### .. and back -/
theorem hostC_low (c : UInt8) : hostC c = true → lowC c = c ∧ isHost c = false ∧ c ≠ 58 := by revert c; apply all_bytes; decide +kernel
theorem digC_port (c : UInt8) : digC c = true → isPort c = false := by revert c; apply all_bytes; decide +kernel
theorem low_host {h : List UInt8} (hh : h.all hostC = true) : low h = h := by
  unfold low
  rw [List.all_eq_true] at hh
  exact (List.map_congr_left fun c hc => (hostC_low c (hh c hc)).1).trans (List.map_id h)
theorem hostB_all {h : List UInt8} (hh : hostB h = true) : h.all hostC = true ∧ h.length ≤ 64 := by
  unfold hostB at hh; simp only [Bool.and_eq_true, decide_eq_true_eq] at hh; exact ⟨hh.2, hh.1.2⟩
def askT (ask : Bool) (q : List UInt8) : List UInt8 := if ask = true then [63] ++ q else []
theorem tail_back (sch h : List UInt8) (pn : Nat) {path q : List UInt8} {ask : Bool} (hp : PathP path) (hq : partP q = some q) (ha : ask = false → q = []) : tailP sch h pn (path ++ askT ask q) = (⟨sch, h, pn, path, q, ask⟩, 0) := by
  obtain ⟨⟨K, k1, k2, k3⟩, p2, p3⟩ := hp
  have hd : dots path = path := by rw [k3]; exact dots_slashed k1 k2
  have hne : path ≠ [] := by
    rw [k3]; cases K with
    | nil => exact absurd rfl k1
    | cons x K => rw [slashed_cons]; simp
  have hna : ∀ x ∈ path, isAsk x = false := fun x hx => by
    cases hc : isAsk x with
    | false => rfl
    | true => have : x = 63 := by simpa [isAsk] using hc
              subst this; exact absurd hx p3
  unfold tailP askT
  cases ask with
  | true =>
    rw [if_pos rfl, List.singleton_append]
    obtain ⟨w1, w2⟩ := wd_stop (p := isAsk) (a := path) (c := 63) (r := q) hna (by decide)
    rw [w1, w2, p2]
    simp only [List.drop_one, List.tail_cons]
    rw [hq]
    simp only
    rw [hd, if_neg hne]; rfl
  | false =>
    rw [if_neg (by decide), List.append_nil]
    obtain ⟨w1, w2⟩ := wd_all (p := isAsk) (a := path) hna
    rw [w1, w2, p2]
    simp only
    rw [show List.drop 1 ([] : List UInt8) = [] from rfl, part_nil]
    simp only
    rw [hd, if_neg hne, ha rfl]; rfl
def portT (n : Nat) : List UInt8 := if n = 0 then [] else [58] ++ Lib.decDigits n
theorem string_parts (u : Ur) : stringU u = u.scheme ++ sCss ++ (u.host ++ (portT u.port ++ (u.path ++ askT u.ask u.query))) := by
  unfold stringU originU portT askT sCss; simp only [List.append_assoc]
theorem host_back {sch h bh rest : List UInt8} (hb : low bh = h) (hh : hostB h = true) (hr : ∃ c t, rest = c :: t ∧ isHost c = true) (hbh : ∀ c ∈ bh, isHost c = false) : hostP sch (bh ++ rest) = afterHost sch h rest := by
  obtain ⟨c, t, rfl, hc⟩ := hr
  obtain ⟨w1, w2⟩ := wd_stop (p := isHost) (a := bh) (c := c) (r := t) hbh hc
  unfold hostP
  rw [w1, w2, hb, hh, if_pos rfl]
theorem parse_at {sch bs b : List UInt8} (hs : sch = sHttp ∨ sch = sHttps) (hb : low bs = sch) (hl : (bs ++ sCss ++ b).length ≤ 2000) : parseU (bs ++ sCss ++ b) = hostP sch b := by
  have hlet : ∀ c ∈ bs, c ≠ 58 := low_letters hb (by rcases hs with rfl | rfl <;> decide)
  unfold parseU
  rw [if_neg (by omega), cut_letters b hlet]
  simp only
  rw [hb, if_pos hs]
theorem after_port (sch h r : List UInt8) : afterHost sch h (58 :: r) = if portB (wd isPort r) = true then tailP sch h (if valD (wd isPort r) = ownP sch then 0 else valD (wd isPort r)) (rs isPort r) else (uz, 14) := rfl
theorem slashed_head {p : List UInt8} (hp : PathP p) : ∃ t, p = 47 :: t := by
  obtain ⟨⟨K, k1, k2, k3⟩, _, _⟩ := hp
  cases K with
  | nil => exact absurd rfl k1
  | cons x K => exact ⟨_, by rw [k3, slashed_cons]⟩
theorem parse_back {u : Ur} (h : Okay u) (hl : (stringU u).length ≤ 2000) : parseU (stringU u) = (u, 0) := by
  obtain ⟨t, ht⟩ := slashed_head h.path
  obtain ⟨ha, h64⟩ := hostB_all h.host
  have hlow := low_host ha
  have hnh : ∀ c ∈ u.host, isHost c = false := fun c hc => (hostC_low c (List.all_eq_true.1 ha c hc)).2.1
  have hls : low u.scheme = u.scheme := by rcases h.sch with e | e <;> rw [e] <;> decide
  rw [string_parts] at hl ⊢
  rw [parse_at h.sch hls hl]
  have hfin : ∀ pn, pn = u.port → tailP u.scheme u.host pn (u.path ++ askT u.ask u.query) = (u, 0) := fun pn e => by
    rw [tail_back u.scheme u.host pn h.path h.query h.ask, e]
  unfold portT
  by_cases h0 : u.port = 0
  · rw [if_pos h0, List.nil_append, host_back hlow h.host ⟨47, t ++ askT u.ask u.query, by rw [ht]; rfl, by decide⟩ hnh]
    have := hfin 0 h0.symm
    rw [ht] at this ⊢
    exact this
  · rw [if_neg h0, host_back hlow h.host ⟨58, Lib.decDigits u.port ++ (u.path ++ askT u.ask u.query), by simp, by decide⟩ hnh]
    have hdp : ∀ c ∈ Lib.decDigits u.port, isPort c = false := fun c hc => digC_port c (List.all_eq_true.1 (dec_all u.port).1 c hc)
    have hwd := wd_stop (p := isPort) (a := Lib.decDigits u.port) (c := 47) (r := t ++ askT u.ask u.query) hdp (by decide)
    have e : u.path ++ askT u.ask u.query = 47 :: (t ++ askT u.ask u.query) := by rw [ht]; rfl
    rw [show [58] ++ Lib.decDigits u.port ++ (u.path ++ askT u.ask u.query) = 58 :: (Lib.decDigits u.port ++ (u.path ++ askT u.ask u.query)) by simp, after_port]
    have hf := hfin u.port rfl
    rw [e] at hf ⊢
    rw [hwd.1, hwd.2, dec_port (by omega) h.port.1, if_pos rfl, (dec_all u.port).2.1, if_neg h.port.2]
    exact hf
theorem string_len {u : Ur} (h : Okay u) : (stringU u).length ≤ u.path.length + u.query.length + 100 := by
  have h1 := (hostB_all h.host).2
  have h2 : u.scheme.length ≤ 5 := by rcases h.sch with e | e <;> rw [e] <;> decide
  have h3 : (portT u.port).length ≤ 6 := by
    unfold portT
    split
    · simp
    · have := dec_five 4 u.port (by have := h.port.1; omega)
      simp; omega
  have h4 : (askT u.ask u.query).length ≤ u.query.length + 1 := by unfold askT; split <;> simp
  rw [string_parts]
  simp only [List.length_append]
  have : sCss.length = 3 := rfl
  omega
theorem string_inj {u v : Ur} (hu : Okay u) (hv : Okay v) (lu : (stringU u).length ≤ 2000) (h : stringU u = stringU v) : u = v := by
  have h1 := parse_back hu lu
  rw [h] at lu h1
  have h2 := parse_back hv lu
  rw [h1] at h2
  exact congrArg Prod.fst h2
/-- what was read is written so that it reads as it was -/
theorem read_again {s : List UInt8} {u : Ur} (hs : s.length ≤ 200) (h : parseU s = (u, 0)) : Okay u ∧ (stringU u).length ≤ 600 ∧ parseU (stringU u) = (u, 0) := by
  obtain ⟨h1, h2, h3⟩ := parse_okay h
  have h4 := string_len h1
  exact ⟨h1, by omega, parse_back h1 (by omega)⟩

/-! ### a pair more -/
theorem enc_stand (s : List UInt8) : (encode s).all standC = true := by
  have h := enc_bytes s
  rw [List.all_eq_true] at h ⊢
  intro c hc
  have := h c hc
  revert this; revert c; intro c hc
  have key : ∀ c : UInt8, (c == 37 || plainB c) = true → standC c = true := by intro c; revert c; apply all_bytes; decide +kernel
  exact key c
theorem w1_part (n v : List UInt8) : (w1 (n, v)).all standC = true ∧ normal (w1 (n, v)) = some (w1 (n, v)) := by
  have e : w1 (n, v) = encode n ++ ([61] ++ encode v) := by simp [w1]
  rw [e]
  constructor
  · rw [List.all_append, List.all_append, enc_stand, enc_stand]; rfl
  · exact normal_append (encode_normal n) (normal_append rfl (encode_normal v))
theorem add_okay {u : Ur} (h : Okay u) (n v : List UInt8) : Okay (addU u n v) := by
  obtain ⟨w1, w2⟩ := w1_part n v
  refine ⟨h.sch, h.host, h.port, h.path, ?_, fun e => by cases e⟩
  obtain ⟨q1, q2⟩ := part_iff.1 h.query
  show partP ((if u.query = [] then [] else u.query ++ [38]) ++ Pct.w1 (n, v)) = some ((if u.query = [] then [] else u.query ++ [38]) ++ Pct.w1 (n, v))
  split
  · rw [List.nil_append]; exact part_iff.2 ⟨w1, w2⟩
  · exact part_iff.2 ⟨by rw [List.all_append, List.all_append, q1, w1]; decide, normal_append (normal_append q2 rfl) w2⟩
theorem add_len (u : Ur) (n v : List UInt8) : (addU u n v).query.length ≤ u.query.length + 3 * n.length + 3 * v.length + 2 := by
  have h1 := (encode_length n).2
  have h2 := (encode_length v).2
  show ((if u.query = [] then [] else u.query ++ [38]) ++ w1 (n, v)).length ≤ _
  unfold w1
  split <;> simp <;> omega
theorem formGo_bad : ∀ (l1 l2 : List (List UInt8)) (out : List Pr), (formGo l1 out).2 ≠ 0 → formGo (l1 ++ l2) out = formGo l1 out
  | [], l2, out, h => by simp [formGo] at h
  | x :: l1, l2, out, h => by
    simp only [List.cons_append, formGo] at *
    split at h
    · rename_i hx; rw [if_pos hx, if_pos hx]; exact formGo_bad l1 l2 out h
    · rename_i hx; rw [if_neg hx, if_neg hx]
      split at h
      · rename_i hf; rw [if_pos hf, if_pos hf]
      · rename_i hf; rw [if_neg hf, if_neg hf]
        cases hp : pairOf x with
        | none => rfl
        | some p => rw [hp] at h; exact formGo_bad l1 l2 _ h
theorem form_add (u : Ur) (n v : List UInt8) : ((form u.query).2 ≠ 0 → (form (addU u n v).query).2 = (form u.query).2) ∧
    ((form u.query).2 = 0 → form (addU u n v).query = if (form u.query).1.length = 32 then ([], 5) else ((form u.query).1 ++ [(n, v)], 0)) := by
  have hsh := form_short u.query
  have e : (addU u n v).query = (if u.query = [] then [] else u.query ++ [38]) ++ w1 (n, v) := rfl
  have h1 := formGo_w1 [(n, v)]
  simp only [List.map_cons, List.map_nil, List.length_cons, List.length_nil] at h1
  have hp : pieces 38 (addU u n v).query = pieces 38 u.query ++ [w1 (n, v)] ∨ (u.query = [] ∧ pieces 38 (addU u n v).query = [w1 (n, v)]) := by
    rw [e]
    split
    · rename_i h; exact .inr ⟨h, by rw [List.nil_append, pieces_no (w1_amp _)]⟩
    · left
      have : u.query ++ [38] ++ w1 (n, v) = u.query ++ 38 :: w1 (n, v) := by simp
      rw [this, pieces_append, pieces_no (w1_amp _)]
  rcases hp with hp | ⟨hq, hp⟩
  · unfold form at *
    rw [hp]
    constructor
    · intro h; rw [formGo_bad _ _ _ h]
    · intro h
      rw [formGo_append (pieces 38 u.query) [w1 (n, v)] [] (formGo (pieces 38 u.query) []).1 (by rw [← h]), h1 _ hsh]
      by_cases h32 : (formGo (pieces 38 u.query) []).1.length = 32
      · rw [if_pos h32, if_neg (by omega)]
      · rw [if_neg h32, if_pos (by omega)]
  · have h0 : form u.query = ([], 0) := by rw [hq]; rfl
    rw [h0]
    unfold form at *
    rw [hp]
    exact ⟨fun h => absurd rfl h, fun _ => by rw [h1 [] (by simp)]; rfl⟩

/-! ### cases -/
theorem letter_host (c : UInt8) : (97 ≤ c.toNat ∧ c.toNat ≤ 122) → hostC c = true := by revert c; apply all_bytes; decide +kernel
theorem low_letter_host (c : UInt8) : (97 ≤ (lowC c).toNat ∧ (lowC c).toNat ≤ 122) → isHost c = false := by revert c; apply all_bytes; decide +kernel
theorem parse_case {sch bs bh h path : List UInt8} (hs : sch = sHttp ∨ sch = sHttps) (hb : low bs = sch) (hh : low bh = h) (hl : ∀ c ∈ h, 97 ≤ c.toNat ∧ c.toNat ≤ 122) (h1 : 1 ≤ h.length) (h2 : h.length ≤ 64) (hp : path.length ≤ 1000) :
    parseU (bs ++ sCss ++ (bh ++ 47 :: path)) = tailP sch h 0 (47 :: path) ∧ parseU (bs ++ sCss ++ (bh ++ 58 :: (Lib.decDigits (ownP sch) ++ 47 :: path))) = tailP sch h 0 (47 :: path) := by
  have hbs : bs.length ≤ 5 := by rw [← low_length bs, hb]; rcases hs with rfl | rfl <;> decide
  have hbl : bh.length = h.length := by rw [← hh, low_length]
  have hB : hostB h = true := by
    unfold hostB
    have hne : h ≠ [] := by rintro rfl; simp at h1
    rw [decide_eq_true hne, decide_eq_true h2]
    simp only [Bool.true_and]
    rw [List.all_eq_true]
    exact fun c hc => letter_host c (hl c hc)
  have hnb : ∀ c ∈ bh, isHost c = false := fun c hc => low_letter_host c (hl _ (by rw [← hh]; exact List.mem_map_of_mem hc))
  have hd : (Lib.decDigits (ownP sch)).length ≤ 3 := dec_five 2 _ (by unfold ownP; split <;> decide)
  have hcs : sCss.length = 3 := rfl
  constructor
  · rw [parse_at hs hb (by simp only [List.length_append, List.length_cons]; omega), host_back hh hB ⟨47, path, rfl, by decide⟩ hnb]
    rfl
  · rw [parse_at hs hb (by simp only [List.length_append, List.length_cons]; omega), host_back hh hB ⟨58, _, rfl, by decide⟩ hnb]
    have hdp : ∀ c ∈ Lib.decDigits (ownP sch), isPort c = false := fun c hc => digC_port c (List.all_eq_true.1 (dec_all _).1 c hc)
    obtain ⟨w1, w2⟩ := wd_stop (p := isPort) (a := Lib.decDigits (ownP sch)) (c := 47) (r := path) hdp (by decide)
    rw [after_port, w1, w2, dec_port (by unfold ownP; split <;> decide) (by unfold ownP; split <;> decide), if_pos rfl, (dec_all _).2.1, if_pos rfl]
theorem tail_origin {sch h r : List UInt8} {u : Ur} (ht : tailP sch h 0 (47 :: r) = (u, 0)) : u.port = 0 ∧ originU u = sch ++ sCss ++ h := by
  obtain ⟨e1, e2, e3, _⟩ := tail_okay ht (.inr ⟨47, r, rfl, .inl rfl⟩)
  refine ⟨e3, ?_⟩
  unfold originU
  rw [e1, e2, e3, if_pos rfl, List.append_nil]; rfl
end Go.Url
/-
  The statements UrlReads, UrlNormal, UrlPaths, UrlTells.
-/
namespace Go.Proofs.YtmmoglgagifdfaaDoor
open Go.Eng Go.Pct Go.Txt Go.Url
set_option maxRecDepth 10000
set_option linter.unusedSimpArgs false
set_option linter.unusedVariables false

variable {M : Ghost} {w : World}
theorem aw1 : normU [72, 84, 84, 80, 58, 47, 47, 69, 120, 97, 109, 112, 108, 101, 46, 99, 111, 109, 58, 56, 48, 47, 97, 47, 46, 47, 98, 47, 46, 46, 47, 37, 54, 51, 63, 120, 61, 37, 50, 102] = ([104, 116, 116, 112, 58, 47, 47, 101, 120, 97, 109, 112, 108, 101, 46, 99, 111, 109, 47, 97, 47, 99, 63, 120, 61, 37, 50, 70], 0) := by decide +kernel
theorem aw2 : normU [104, 116, 116, 112, 115, 58, 47, 47, 104, 58, 52, 52, 51] = ([104, 116, 116, 112, 115, 58, 47, 47, 104, 47], 0) := by decide +kernel
theorem aw3 : normU [104, 116, 116, 112, 58, 47, 47, 104, 47, 97, 47, 46, 46] = ([104, 116, 116, 112, 58, 47, 47, 104, 47], 0) := by decide +kernel
theorem aw4 : normU [102, 116, 112, 58, 47, 47, 104, 47] = ([], 12) := by decide +kernel
theorem aw5 : normU [104, 116, 116, 112, 58, 47, 47, 104, 58, 48, 47] = ([], 14) := by decide +kernel
theorem aw6 : normU [104, 116, 116, 112, 58, 47, 47, 104, 47, 35] = ([], 15) := by decide +kernel
set_option maxHeartbeats 1000000 in
theorem awake_ok (hG : Glob M) (hM : Laid M w) : Calls Tryd.prog 9 #[] w (RetE w (.bool true)) := by
  have h1 := fun {w : World} (hw : Laid M w) => unorm_ok hG hw [72, 84, 84, 80, 58, 47, 47, 69, 120, 97, 109, 112, 108, 101, 46, 99, 111, 109, 58, 56, 48, 47, 97, 47, 46, 47, 98, 47, 46, 46, 47, 37, 54, 51, 63, 120, 61, 37, 50, 102] (by decide)
  rw [aw1] at h1
  have h2 := fun {w : World} (hw : Laid M w) => unorm_ok hG hw [104, 116, 116, 112, 115, 58, 47, 47, 104, 58, 52, 52, 51] (by decide)
  rw [aw2] at h2
  have h3 := fun {w : World} (hw : Laid M w) => unorm_ok hG hw [104, 116, 116, 112, 58, 47, 47, 104, 47, 97, 47, 46, 46] (by decide)
  rw [aw3] at h3
  have h4 := fun {w : World} (hw : Laid M w) => unorm_ok hG hw [102, 116, 112, 58, 47, 47, 104, 47] (by decide)
  rw [aw4] at h4
  have h5 := fun {w : World} (hw : Laid M w) => unorm_ok hG hw [104, 116, 116, 112, 58, 47, 47, 104, 58, 48, 47] (by decide)
  rw [aw5] at h5
  have h6 := fun {w : World} (hw : Laid M w) => unorm_ok hG hw [104, 116, 116, 112, 58, 47, 47, 104, 47, 35] (by decide)
  rw [aw6] at h6
  refine calls_st (l := []) hM Tryd.func9 rfl rfl rfl (E0 := []) (params_nil _) ?_
  repeat' (first | refine wc_seq ?_ | refine wc_region ?_ | refine wl_nil ?_ | refine wn_seq ?_ | refine wn_blk ?_ | refine wc_skip ?_ | refine wc_block ?_ | refine wc_exit rfl ?_ | (show WL _ _ (_ :: _) _ _ _ _; first | refine yl_v rfl rfl rfl ?_ | refine wl_v rfl rfl rfl (by first | ((show OpV _ _ _ _ (Oper.mk _ (Op.call ⟨.value (.func 12), _, _⟩) _ _ _ _) _ _; exact ov_call Tryd.call12 rfl (by intro himp; first | rfl | (simp_all; done)) (by rfl) (fun _ _ h k => h.ext k) (fun hcg w hw => h1 hw.laid))) | ((show OpV _ _ _ _ (Oper.mk _ (Op.call ⟨.value (.func 12), _, _⟩) _ _ _ _) _ _; exact ov_call Tryd.call12 rfl (by intro himp; first | rfl | (simp_all; done)) (by rfl) (fun _ _ h k => h.ext k) (fun hcg w hw => h2 hw.laid))) | ((show OpV _ _ _ _ (Oper.mk _ (Op.call ⟨.value (.func 12), _, _⟩) _ _ _ _) _ _; exact ov_call Tryd.call12 rfl (by intro himp; first | rfl | (simp_all; done)) (by rfl) (fun _ _ h k => h.ext k) (fun hcg w hw => h3 hw.laid))) | ((show OpV _ _ _ _ (Oper.mk _ (Op.call ⟨.value (.func 12), _, _⟩) _ _ _ _) _ _; exact ov_call Tryd.call12 rfl (by intro himp; first | rfl | (simp_all; done)) (by rfl) (fun _ _ h k => h.ext k) (fun hcg w hw => h4 hw.laid))) | ((show OpV _ _ _ _ (Oper.mk _ (Op.call ⟨.value (.func 12), _, _⟩) _ _ _ _) _ _; exact ov_call Tryd.call12 rfl (by intro himp; first | rfl | (simp_all; done)) (by rfl) (fun _ _ h k => h.ext k) (fun hcg w hw => h5 hw.laid))) | ((show OpV _ _ _ _ (Oper.mk _ (Op.call ⟨.value (.func 12), _, _⟩) _ _ _ _) _ _; exact ov_call Tryd.call12 rfl (by intro himp; first | rfl | (simp_all; done)) (by rfl) (fun _ _ h k => h.ext k) (fun hcg w hw => h6 hw.laid))) | fail) ?_) | refine wc_ret rfl ?_)
  exact wr_tmp rfl rfl rfl
theorem urlReads_ok (hG : Glob M) (hM : Laid M w) (s : List UInt8) (hs : s.length ≤ 9223372036854775807) : Calls Tryd.prog 3 #[str s] w (RetE w (.bool true)) := by
  have h1 := fun {w : World} (hw : Laid M w) => uparse_ok hG hw s hs
  have h2 := fun {w : World} (hw : Laid M w) => rparse_ok hw s hs
  have h3 := fun {w : World} (hw : Laid M w) => unorm_ok hG hw s hs
  have h4 := fun {w : World} (hw : Laid M w) => rnorm_ok hw s hs
  generalize parseU s = q at *
  generalize normU s = nq at *
  obtain ⟨⟨sch, host, port, path, query, ask⟩, e⟩ := q
  obtain ⟨t, f⟩ := nq
  unfold resUrl urlCells at h1 h2
  dsimp only at *
  refine calls_st (l := [str s]) hM Tryd.func3 rfl rfl rfl (E0 := [(0, true, str s)]) (params_cons rfl (params_nil _)) ?_
  repeat' (first | (first | refine wc_seq ?_ | refine wc_region ?_ | refine wl_nil ?_ | refine wn_seq ?_ | refine wn_blk ?_ | refine wc_skip ?_ | refine wc_block ?_ | refine wc_exit rfl ?_ | (show WL _ _ (_ :: _) _ _ _ _; first | refine yl_v rfl rfl rfl ?_ | refine wl_v rfl rfl rfl (by first | ((show OpV _ _ _ _ (Oper.mk _ (Op.call ⟨.value (.func 9), _, _⟩) _ _ _ _) _ _; exact ov_call Tryd.call9 rfl (by intro himp; first | rfl | (simp_all; done)) (by rfl) (fun _ _ h k => h.ext k) (fun hcg w hw => awake_ok hG hw.laid))) | ((show OpV _ _ _ _ (Oper.mk _ (Op.call ⟨.value (.func 10), _, _⟩) _ _ _ _) _ _; exact ov_call Tryd.call10 rfl (by intro himp; first | rfl | (simp_all; done)) (by rfl) (fun _ _ h k => h.ext k) (fun hcg w hw => h1 hw.laid))) | ((show OpV _ _ _ _ (Oper.mk _ (Op.call ⟨.value (.func 11), _, _⟩) _ _ _ _) _ _; exact ov_call Tryd.call11 rfl (by intro himp; first | rfl | (simp_all; done)) (by rfl) (fun _ _ h k => h.ext k) (fun hcg w hw => h2 hw.laid))) | ((show OpV _ _ _ _ (Oper.mk _ (Op.call ⟨.value (.func 12), _, _⟩) _ _ _ _) _ _; exact ov_call Tryd.call12 rfl (by intro himp; first | rfl | (simp_all; done)) (by rfl) (fun _ _ h k => h.ext k) (fun hcg w hw => h3 hw.laid))) | ((show OpV _ _ _ _ (Oper.mk _ (Op.call ⟨.value (.func 13), _, _⟩) _ _ _ _) _ _; exact ov_call Tryd.call13 rfl (by intro himp; first | rfl | (simp_all; done)) (by rfl) (fun _ _ h k => h.ext k) (fun hcg w hw => h4 hw.laid))) | fail) ?_ | refine xl_alloc (fun _ => ?_) | refine xl_store rfl rfl ?_) | refine wc_ret rfl ?_) | (show WC _ (Code.cond _ _ _) _ _ _ _; (refine wc_cond rfl (fun hc => ?_) (fun hc => ?_) <;> (try (simp only [decide_eq_true_eq, decide_eq_false_iff_not, Bool.and_eq_true, Bool.or_eq_true, Bool.and_eq_false_iff, Bool.or_eq_false_iff, Bool.not_eq_true', Bool.not_eq_false', Int.not_lt, Int.not_le] at hc)) <;> (try (exfalso; first | omega | contradiction)))))
  · exact wr_weak (fun _ h => h.drop (List.nil_sublist _)) (wr_tmp rfl rfl rfl)
  · exact wr_weak (fun _ h => h.drop (List.nil_sublist _)) (wr_tmp rfl rfl (congrArg Value.bool (by simp)))
theorem cleanB_slashed {K : List (List UInt8)} (hne : K ≠ []) (hg : ∀ x ∈ K, GoodP x) : cleanB (slashed K) = true := by
  unfold cleanB
  rw [slashed_pieces2 hne hg, List.all_cons]
  have h1 : (slashed K).head? = some 47 := by
    cases K with
    | nil => exact absurd rfl hne
    | cons x K => rw [slashed_cons]; rfl
  have h2 : K.all cleanP = true := by
    rw [List.all_eq_true]
    intro x hx
    unfold cleanP
    rw [decide_eq_true (hg x hx).2.1, decide_eq_true (hg x hx).2.2]; rfl
  rw [h1, h2]; rfl
theorem urlPaths_ok (hG : Glob M) (hM : Laid M w) (s path : List UInt8) (hs : s.length ≤ 9223372036854775807) (hs2 : path.length ≤ 9223372036854775807) : Calls Tryd.prog 5 #[str s, str path] w (RetE w (.bool true)) := by
  refine calls_st (l := [str s, str path]) hM Tryd.func5 rfl rfl rfl (E0 := [(0, true, str s), (1, true, str path)]) (params_cons rfl (params_cons rfl (params_nil _))) ?_
  repeat' (first | refine wc_seq ?_ | refine wc_region ?_ | refine wl_nil ?_ | refine wn_seq ?_ | refine wn_blk ?_ | refine wc_skip ?_ | refine wc_block ?_ | refine wc_exit rfl ?_ | (show WL _ _ (_ :: _) _ _ _ _; first | refine yl_v rfl rfl rfl ?_ | refine wl_v rfl rfl rfl (by first | ((show OpV _ _ _ _ (Oper.mk _ (Op.call ⟨.value (.func 9), _, _⟩) _ _ _ _) _ _; exact ov_call Tryd.call9 rfl (by intro himp; first | rfl | (simp_all; done)) (by rfl) (fun _ _ h k => h.ext k) (fun hcg w hw => awake_ok hG hw.laid))) | fail) ?_ | refine xl_alloc (fun _ => ?_) | refine xl_store rfl rfl ?_) | refine wc_ret rfl ?_)
  refine wc_cond rfl (fun hc => ?_) (fun hc => ?_)
  · repeat' (first | refine wc_seq ?_ | refine wc_region ?_ | refine wl_nil ?_ | refine wn_seq ?_ | refine wn_blk ?_ | refine wc_skip ?_ | refine wc_block ?_ | refine wc_exit rfl ?_ | (show WL _ _ (_ :: _) _ _ _ _; first | refine yl_v rfl rfl rfl ?_ | refine wl_v rfl rfl rfl (by first  | fail) ?_ | refine xl_alloc (fun _ => ?_) | refine xl_store rfl rfl ?_) | refine wc_ret rfl ?_)
    exact wr_tmp rfl rfl rfl
  (simp only [decide_eq_true_eq, decide_eq_false_iff_not, Bool.and_eq_true, Bool.or_eq_true, Bool.and_eq_false_iff, Bool.or_eq_false_iff, Bool.not_eq_true', Bool.not_eq_false', Int.not_lt, Int.not_le] at hc)
  obtain ⟨K, k1, k2, k3, k4⟩ := dots_form path
  have kg : ∀ x ∈ K, GoodP x := fun x hx => (k2 x hx).1
  have hdd := dots_slashed k1 kg
  have hcl := cleanB_slashed k1 kg
  have h1 := fun {w : World} (hw : Laid M w) => udots_ok hG hw ([47] ++ path) (by simp; omega)
  have e1 : dots ([47] ++ path) = slashed K := k3
  rw [e1] at h1
  have h2 := fun {w : World} (hw : Laid M w) => udots_ok hG hw (slashed K) (by omega)
  rw [hdd] at h2
  have h3 := fun {w : World} (hw : Laid M w) => clean_ok hw (slashed K) (by omega)
  rw [hcl] at h3
  have h4 := fun {w : World} (hw : Laid M w) => uparse_ok hG hw s hs
  have h5 : (parseU s).2 = 0 → cleanB (parseU s).1.path = true ∧ (parseU s).1.path.length ≤ 1000 := fun he => by
    obtain ⟨hok, hl, _⟩ := parse_okay (s := s) (u := (parseU s).1) (by rw [← he])
    obtain ⟨K', q1, q2, q3⟩ := hok.path.form
    rw [q3] at hl ⊢
    exact ⟨cleanB_slashed q1 q2, by omega⟩
  generalize parseU s = q at *
  obtain ⟨⟨sch, host, port, pth, query, ask⟩, e⟩ := q
  unfold resUrl urlCells at h4
  dsimp only at *
  generalize slashed K = D at *
  have h6 : e = 0 → ∀ {w : World}, Laid M w → Calls Tryd.prog 15 #[str pth] w (RetE w (.bool true)) := fun he w hw => by
    obtain ⟨g1, g2⟩ := h5 he
    have := clean_ok hw pth (by omega)
    rwa [g1] at this
  repeat' (first | refine wc_seq ?_ | refine wc_region ?_ | refine wl_nil ?_ | refine wn_seq ?_ | refine wn_blk ?_ | refine wc_skip ?_ | refine wc_block ?_ | refine wc_exit rfl ?_ | (show WL _ _ (_ :: _) _ _ _ _; first | refine yl_v rfl rfl rfl ?_ | refine wl_v rfl rfl rfl (by first | ((show OpV _ _ _ _ (Oper.mk _ (Op.call ⟨.value (.func 14), _, _⟩) _ _ _ _) _ _; exact ov_call Tryd.call14 rfl (by intro himp; first | rfl | (simp_all; done)) (by rfl) (fun _ _ h k => h.ext k) (fun hcg w hw => h1 hw.laid))) | ((show OpV _ _ _ _ (Oper.mk _ (Op.call ⟨.value (.func 10), _, _⟩) _ _ _ _) _ _; exact ov_call Tryd.call10 rfl (by intro himp; first | rfl | (simp_all; done)) (by rfl) (fun _ _ h k => h.ext k) (fun hcg w hw => h4 hw.laid))) | ((show OpV _ _ _ _ (Oper.mk _ (Op.call ⟨.value (.func 15), _, _⟩) _ _ _ _) _ _; exact ov_call Tryd.call15 rfl (by intro himp; first | rfl | (simp_all; done)) (by rfl) (fun _ _ h k => h.ext k) (fun hcg w hw => h6 (by simpa using hcg) hw.laid))) | fail) ?_ | refine xl_alloc (fun _ => ?_) | refine xl_store rfl rfl ?_) | refine wc_ret rfl ?_)
  refine wc_cond rfl (fun hc => by exfalso; simp at hc) (fun hc => ?_)
  repeat' (first | refine wc_seq ?_ | refine wc_region ?_ | refine wl_nil ?_ | refine wn_seq ?_ | refine wn_blk ?_ | refine wc_skip ?_ | refine wc_block ?_ | refine wc_exit rfl ?_ | (show WL _ _ (_ :: _) _ _ _ _; first | refine yl_v rfl rfl rfl ?_ | refine wl_v rfl rfl rfl (by first | ((show OpV _ _ _ _ (Oper.mk _ (Op.call ⟨.value (.func 14), _, _⟩) _ _ _ _) _ _; exact ov_call Tryd.call14 rfl (by intro himp; first | rfl | (simp_all; done)) (by rfl) (fun _ _ h k => h.ext k) (fun hcg w hw => h2 hw.laid))) | ((show OpV _ _ _ _ (Oper.mk _ (Op.call ⟨.value (.func 15), _, _⟩) _ _ _ _) _ _; exact ov_call Tryd.call15 rfl (by intro himp; first | rfl | (simp_all; done)) (by rfl) (fun _ _ h k => h.ext k) (fun hcg w hw => h3 hw.laid))) | fail) ?_ | refine xl_alloc (fun _ => ?_) | refine xl_store rfl rfl ?_) | refine wc_ret rfl ?_)
  exact wr_weak (fun _ h => h.drop (List.nil_sublist _)) (wr_tmp rfl rfl (congrArg Value.bool (by simp)))
set_option maxHeartbeats 1000000 in
theorem urlTells_ok (hG : Glob M) (hM : Laid M w) (sch host : List UInt8) (z : Int) (pth query : List UInt8) (ask : Bool) (name value path : List UInt8) (l1 : sch.length ≤ 9223372036854775807) (l2 : host.length ≤ 9223372036854775807) (l3 : pth.length ≤ 9223372036854775807) (l4 : query.length ≤ 9223372036854775807) (l5 : name.length ≤ 9223372036854775807) (l6 : value.length ≤ 9223372036854775807) (l7 : path.length ≤ 9223372036854775807) (hz : z ≤ 9223372036854775807) : Calls Tryd.prog 7 #[.agg #[str sch, str host, i64 z, str pth, str query, .bool ask], str name, str value, str path] w (RetE w (.bool true)) := by
  refine calls_st (l := [.agg #[str sch, str host, i64 z, str pth, str query, .bool ask], str name, str value, str path]) hM Tryd.func7 rfl rfl rfl (E0 := [(0, true, .agg #[str sch, str host, i64 z, str pth, str query, .bool ask]), (1, true, str name), (2, true, str value), (3, true, str path)]) (params_cons rfl (params_cons rfl (params_cons rfl (params_cons rfl (params_nil _))))) ?_
  repeat' (first | refine wc_seq ?_ | refine wc_region ?_ | refine wl_nil ?_ | refine wn_seq ?_ | refine wn_blk ?_ | refine wc_skip ?_ | refine wc_block ?_ | refine wc_exit rfl ?_ | (show WL _ _ (_ :: _) _ _ _ _; first | refine yl_v rfl rfl rfl ?_ | refine wl_v rfl rfl rfl (by first | ((show OpV _ _ _ _ (Oper.mk _ (Op.call ⟨.value (.func 9), _, _⟩) _ _ _ _) _ _; exact ov_call Tryd.call9 rfl (by intro himp; first | rfl | (simp_all; done)) (by rfl) (fun _ _ h k => h.ext k) (fun hcg w hw => awake_ok hG hw.laid))) | fail) ?_ | refine xl_box rfl (fun _ => ?_)) | refine wc_ret rfl ?_)
  refine wc_cond rfl (fun hc => ?_) (fun hc => ?_)
  · repeat' (first | refine wc_seq ?_ | refine wc_region ?_ | refine wl_nil ?_ | refine wn_seq ?_ | refine wn_blk ?_ | refine wc_skip ?_ | refine wc_block ?_ | refine wc_exit rfl ?_ | (show WL _ _ (_ :: _) _ _ _ _; first | refine yl_v rfl rfl rfl ?_ | refine wl_v rfl rfl rfl (by first  | fail) ?_ | refine xl_box rfl (fun _ => ?_)) | refine wc_ret rfl ?_)
    exact wr_weak (fun _ h => h.drop (List.nil_sublist _)) (wr_tmp rfl rfl rfl)
  (simp only [decide_eq_true_eq, decide_eq_false_iff_not, Bool.and_eq_true, Bool.or_eq_true, Bool.and_eq_false_iff, Bool.or_eq_false_iff, Bool.not_eq_true', Bool.not_eq_false', Int.not_lt, Int.not_le] at hc)
  obtain ⟨n, rfl⟩ : ∃ n : Nat, z = (n : Int) := ⟨z.toNat, by omega⟩
  have hsm : SmU ⟨sch, host, n, pth, query, ask⟩ := ⟨by show sch.length ≤ _; omega, by show host.length ≤ _; omega, by show pth.length ≤ _; omega, by show query.length ≤ _; omega, by show n ≤ _; omega⟩
  have h1 := fun {w : World} (hw : Laid M w) => ustring_ok hG hw _ hsm
  have h2 := fun {w : World} (hw : Laid M w) => rstring_ok hw _ hsm
  have h3 := fun {w : World} (hw : Laid M w) => uorigin_ok hG hw _ hsm
  have h4 := fun {w : World} (hw : Laid M w) => rorigin_ok hw _ hsm
  have h5 := fun {w : World} (hw : Laid M w) => uadd_ok hG hw _ name value hsm (by omega) (by omega)
  have h6 := fun {w : World} (hw : Laid M w) => radd_ok hw _ name value hsm (by omega) (by omega)
  have h7 := fun {w : World} (hw : Laid M w) => udots_ok hG hw path (by omega)
  have h8 := fun {w : World} (hw : Laid M w) => rdots_ok hw path (by omega)
  unfold urlCells addU at h5 h6
  unfold urlCells at h1 h2 h3 h4
  dsimp only at *
  generalize stringU ⟨sch, host, n, pth, query, ask⟩ = st at *
  generalize originU ⟨sch, host, n, pth, query, ask⟩ = og at *
  generalize (if query = [] then [] else query ++ [38]) ++ w1 (name, value) = q2 at *
  generalize dots path = dp at *
  repeat' (first | refine wc_seq ?_ | refine wc_region ?_ | refine wl_nil ?_ | refine wn_seq ?_ | refine wn_blk ?_ | refine wc_skip ?_ | refine wc_block ?_ | refine wc_exit rfl ?_ | (show WL _ _ (_ :: _) _ _ _ _; first | refine yl_v rfl rfl rfl ?_ | refine wl_v rfl rfl rfl (by first  | fail) ?_ | refine xl_box rfl (fun _ => ?_)) | refine wc_ret rfl ?_)
  refine wc_draw 33 (by kernel_rfl) rfl (by kernel_rfl) (fun _ _ h k => h.ext k) ?_
  repeat' (first | (show WD _ _ (_ :: _) _ _ _ _ _ _; first | refine yd_v rfl rfl rfl rfl rfl rfl ?_ | refine wd_v rfl rfl rfl rfl rfl rfl (by first | ((show OpV _ _ _ _ (Oper.mk _ (Op.call ⟨.value (.func 17), _, _⟩) _ _ _ _) _ _; exact ov_call Tryd.call17 rfl (by intro himp; first | rfl | (simp_all; done)) (by rfl) (fun _ _ h k => h.ext k) (fun hcg w hw => h1 hw.laid))) | ((show OpV _ _ _ _ (Oper.mk _ (Op.call ⟨.value (.func 18), _, _⟩) _ _ _ _) _ _; exact ov_call Tryd.call18 rfl (by intro himp; first | rfl | (simp_all; done)) (by rfl) (fun _ _ h k => h.ext k) (fun hcg w hw => h2 hw.laid))) | ((show OpV _ _ _ _ (Oper.mk _ (Op.call ⟨.value (.func 16), _, _⟩) _ _ _ _) _ _; exact ov_call Tryd.call16 rfl (by intro himp; first | rfl | (simp_all; done)) (by rfl) (fun _ _ h k => h.ext k) (fun hcg w hw => h3 hw.laid))) | ((show OpV _ _ _ _ (Oper.mk _ (Op.call ⟨.value (.func 19), _, _⟩) _ _ _ _) _ _; exact ov_call Tryd.call19 rfl (by intro himp; first | rfl | (simp_all; done)) (by rfl) (fun _ _ h k => h.ext k) (fun hcg w hw => h4 hw.laid))) | ((show OpV _ _ _ _ (Oper.mk _ (Op.call ⟨.value (.func 20), _, _⟩) _ _ _ _) _ _; exact ov_call Tryd.call20 rfl (by intro himp; first | rfl | (simp_all; done)) (by rfl) (fun _ _ h k => h.ext k) (fun hcg w hw => h5 hw.laid))) | ((show OpV _ _ _ _ (Oper.mk _ (Op.call ⟨.value (.func 21), _, _⟩) _ _ _ _) _ _; exact ov_call Tryd.call21 rfl (by intro himp; first | rfl | (simp_all; done)) (by rfl) (fun _ _ h k => h.ext k) (fun hcg w hw => h6 hw.laid))) | ((show OpV _ _ _ _ (Oper.mk _ (Op.call ⟨.value (.func 14), _, _⟩) _ _ _ _) _ _; exact ov_call Tryd.call14 rfl (by intro himp; first | rfl | (simp_all; done)) (by rfl) (fun _ _ h k => h.ext k) (fun hcg w hw => h7 hw.laid))) | ((show OpV _ _ _ _ (Oper.mk _ (Op.call ⟨.value (.func 22), _, _⟩) _ _ _ _) _ _; exact ov_call Tryd.call22 rfl (by intro himp; first | rfl | (simp_all; done)) (by rfl) (fun _ _ h k => h.ext k) (fun hcg w hw => h8 hw.laid))) | fail) ?_ | refine yd_new rfl rfl rfl rfl rfl rfl ?_ | refine wd_conv rfl rfl rfl rfl rfl rfl rfl rfl rfl rfl ?_) | (show WD _ _ _ _ _ _ _ _ _; first | refine wd_nil ?_ | refine wd_nil1 (wl_fresh (fun _ => ?_))) | (first | refine wc_seq ?_ | refine wc_region ?_ | refine wl_nil ?_ | refine wn_seq ?_ | refine wn_blk ?_ | refine wc_skip ?_ | refine wc_block ?_ | refine wc_exit rfl ?_ | (show WL _ _ (_ :: _) _ _ _ _; first | refine yl_v rfl rfl rfl ?_ | refine wl_v rfl rfl rfl (by first | ((show OpV _ _ _ _ (Oper.mk _ (Op.call ⟨.value (.func 17), _, _⟩) _ _ _ _) _ _; exact ov_call Tryd.call17 rfl (by intro himp; first | rfl | (simp_all; done)) (by rfl) (fun _ _ h k => h.ext k) (fun hcg w hw => h1 hw.laid))) | ((show OpV _ _ _ _ (Oper.mk _ (Op.call ⟨.value (.func 18), _, _⟩) _ _ _ _) _ _; exact ov_call Tryd.call18 rfl (by intro himp; first | rfl | (simp_all; done)) (by rfl) (fun _ _ h k => h.ext k) (fun hcg w hw => h2 hw.laid))) | ((show OpV _ _ _ _ (Oper.mk _ (Op.call ⟨.value (.func 16), _, _⟩) _ _ _ _) _ _; exact ov_call Tryd.call16 rfl (by intro himp; first | rfl | (simp_all; done)) (by rfl) (fun _ _ h k => h.ext k) (fun hcg w hw => h3 hw.laid))) | ((show OpV _ _ _ _ (Oper.mk _ (Op.call ⟨.value (.func 19), _, _⟩) _ _ _ _) _ _; exact ov_call Tryd.call19 rfl (by intro himp; first | rfl | (simp_all; done)) (by rfl) (fun _ _ h k => h.ext k) (fun hcg w hw => h4 hw.laid))) | ((show OpV _ _ _ _ (Oper.mk _ (Op.call ⟨.value (.func 20), _, _⟩) _ _ _ _) _ _; exact ov_call Tryd.call20 rfl (by intro himp; first | rfl | (simp_all; done)) (by rfl) (fun _ _ h k => h.ext k) (fun hcg w hw => h5 hw.laid))) | ((show OpV _ _ _ _ (Oper.mk _ (Op.call ⟨.value (.func 21), _, _⟩) _ _ _ _) _ _; exact ov_call Tryd.call21 rfl (by intro himp; first | rfl | (simp_all; done)) (by rfl) (fun _ _ h k => h.ext k) (fun hcg w hw => h6 hw.laid))) | ((show OpV _ _ _ _ (Oper.mk _ (Op.call ⟨.value (.func 14), _, _⟩) _ _ _ _) _ _; exact ov_call Tryd.call14 rfl (by intro himp; first | rfl | (simp_all; done)) (by rfl) (fun _ _ h k => h.ext k) (fun hcg w hw => h7 hw.laid))) | ((show OpV _ _ _ _ (Oper.mk _ (Op.call ⟨.value (.func 22), _, _⟩) _ _ _ _) _ _; exact ov_call Tryd.call22 rfl (by intro himp; first | rfl | (simp_all; done)) (by rfl) (fun _ _ h k => h.ext k) (fun hcg w hw => h8 hw.laid))) | fail) ?_ | refine xl_box rfl (fun _ => ?_)) | refine wc_ret rfl ?_))
  repeat' (first | (first | refine wc_seq ?_ | refine wc_region ?_ | refine wl_nil ?_ | refine wn_seq ?_ | refine wn_blk ?_ | refine wc_skip ?_ | refine wc_block ?_ | refine wc_exit rfl ?_ | (show WL _ _ (_ :: _) _ _ _ _; first | refine yl_v rfl rfl rfl ?_ | refine wl_v rfl rfl rfl (by first  | fail) ?_ | refine xl_box rfl (fun _ => ?_)) | refine wc_ret rfl ?_) | (show WC _ (Code.cond _ _ _) _ _ _ _; (refine wc_cond rfl (fun hc => ?_) (fun hc => ?_) <;> (try (simp only [decide_eq_true_eq, decide_eq_false_iff_not, Bool.and_eq_true, Bool.or_eq_true, Bool.and_eq_false_iff, Bool.or_eq_false_iff, Bool.not_eq_true', Bool.not_eq_false', Int.not_lt, Int.not_le] at hc)) <;> (try (exfalso; first | omega | contradiction)))))
  exact wr_weak (fun _ h => h.drop (List.nil_sublist _)) (wr_tmp rfl rfl (congrArg Value.bool (by simp)))
end Go.Proofs.YtmmoglgagifdfaaDoor
/-
  The statement UrlCases.
-/
namespace Go.Url
open Go.Pct Go.Txt
def letC (h : UInt8) : UInt8 := UInt8.ofNat (97 + h.toNat % 26)
def upC (g : Bool) (c : UInt8) : UInt8 := if g = true ∧ 97 ≤ c.toNat ∧ c.toNat ≤ 122 then c - 32 else c
def upS (g : List Bool) (a : List UInt8) : List UInt8 := a.mapIdx fun i c => upC (g.getD i false) c
theorem let_let (h : UInt8) : 97 ≤ (letC h).toNat ∧ (letC h).toNat ≤ 122 := by revert h; apply all_bytes; decide +kernel
theorem let_int (h : UInt8) : UInt8.ofNat (97 + (h.toNat : Int) % 26).toNat = letC h := by revert h; apply all_bytes; decide +kernel
theorem up_low (g : Bool) (c : UInt8) : lowC c = c → lowC (upC g c) = c := by cases g <;> (revert c; apply all_bytes; decide +kernel)
theorem up_int (c : UInt8) : 97 ≤ c.toNat ∧ c.toNat ≤ 122 → UInt8.ofNat ((c.toNat : Int) - 32).toNat = upC true c := by revert c; apply all_bytes; decide +kernel
theorem upS_length (g : List Bool) (a : List UInt8) : (upS g a).length = a.length := by simp [upS]
theorem upS_take {g : List Bool} {a : List UInt8} {i : Nat} (h : i < a.length) : (upS g a).take (i + 1) = (upS g a).take i ++ [upC (g.getD i false) (a.getD i 0)] := by
  rw [Txt.take_getD (by rw [upS_length]; exact h)]
  congr 2
  simp [upS, h]
theorem upS_low {g : List Bool} {a : List UInt8} (h : low a = a) : low (upS g a) = a := by
  apply List.ext_getElem
  · rw [low_length, upS_length]
  · intro i h1 h2
    have : lowC a[i] = a[i] := by
      have := congrArg (fun l => l[i]?) h
      simpa [low, h2] using this
    simp only [low, upS, List.getElem_map, List.getElem_mapIdx]
    exact up_low _ _ this
theorem low_lets (hl : List UInt8) : low (hl.map letC) = hl.map letC := by
  unfold low
  rw [List.map_map]
  apply List.map_congr_left
  intro c _
  show lowC (letC c) = letC c
  have key : ∀ c : UInt8, lowC (letC c) = letC c := by intro c; revert c; apply all_bytes; decide +kernel
  exact key c
theorem low_css2 {m : List UInt8} (h : low m = sCss) : m = sCss := by
  have hl : m.length = 3 := by have := congrArg List.length h; rw [low_length] at this; exact this
  match m, hl, h with
  | [a, b, c], _, h =>
    simp only [low, sCss, List.map_cons, List.map_nil, List.cons.injEq, and_true] at h
    rw [low_58 a h.1, low_47 b h.2.1, low_47 c h.2.2]; rfl
theorem up_parts {sch H B : List UInt8} (h : low B = sch ++ sCss ++ H) : ∃ bs bh, B = bs ++ sCss ++ bh ∧ low bs = sch ∧ low bh = H := by
  have e1 : low (B.take sch.length) = sch := by
    unfold low at *; rw [List.map_take, h, List.append_assoc, List.take_left]
  have e2 : low (B.drop sch.length) = sCss ++ H := by
    unfold low at *; rw [List.map_drop, h, List.append_assoc, List.drop_left]
  have e3 : low ((B.drop sch.length).take 3) = sCss := by
    unfold low at *; rw [List.map_take, e2]; rfl
  have e4 : low ((B.drop sch.length).drop 3) = H := by
    unfold low at *; rw [List.map_drop, e2]; rfl
  refine ⟨B.take sch.length, (B.drop sch.length).drop 3, ?_, e1, e4⟩
  rw [← low_css2 e3, List.append_assoc, List.take_append_drop, List.take_append_drop]
theorem css_len : sCss.length = 3 := rfl
theorem dec80 : Lib.decDigits 80 = [56, 48] := by decide +kernel
theorem dec443 : Lib.decDigits 443 = [52, 52, 51] := by decide +kernel
end Go.Url
namespace Go.Proofs.YtmmoglgagifdfaaDoor
open Go.Eng Go.Pct Go.Txt Go.Url
set_option maxRecDepth 10000
set_option linter.unusedSimpArgs false
set_option linter.unusedVariables false

variable {M : Ghost} {w : World}
set_option maxHeartbeats 1000000 in
theorem urlCases_ok (hG : Glob M) (hM : Laid M w) {hv gv : Value} {hl : List UInt8} {gl : List Bool} (hh : Sl M 1 (fun c vs => vs = [byt c]) hv hl) (hg : Sl M 1 (fun b vs => vs = [.bool b]) gv gl) (path : List UInt8) (safe : Bool) (hp : path.length ≤ 9223372036854775807) : Calls Tryd.prog 6 #[hv, str path, gv, .bool safe] w (RetE w (.bool true)) := by
  obtain ⟨ha, hcap, hb, ho, hcs, hT, hfz, rfl, i1, i2, i3, i4⟩ := Sl.open hh
  obtain ⟨ga, gcap, gb, go, gcs, gT, gfz, rfl, j1, j2, j3, j4⟩ := Sl.open hg
  refine calls_st (l := [.slice ha hl.length hcap, str path, .slice ga gl.length gcap, .bool safe]) hM Tryd.func6 rfl rfl rfl (E0 := [(0, true, .slice ha hl.length hcap), (1, true, str path), (2, true, .slice ga gl.length gcap), (3, true, .bool safe)]) (params_cons rfl (params_cons rfl (params_cons rfl (params_cons rfl (params_nil _))))) ?_
  repeat' (first | refine wc_seq ?_ | refine wc_region ?_ | refine wl_nil ?_ | refine wn_seq ?_ | refine wn_blk ?_ | refine wc_skip ?_ | refine wc_block ?_ | refine wc_exit rfl ?_ | (show WL _ _ (_ :: _) _ _ _ _; first | refine yl_v rfl rfl rfl ?_ | refine wl_v rfl rfl rfl (by first | ((show OpV _ _ _ _ (Oper.mk _ (Op.call ⟨.value (.func 9), _, _⟩) _ _ _ _) _ _; exact ov_call Tryd.call9 rfl (by intro himp; first | rfl | (simp_all; done)) (by rfl) (fun _ _ h k => h.ext k) (fun hcg w hw => awake_ok hG hw.laid))) | (show OpV _ _ _ _ (Oper.mk _ (Op.binOp BinOp.add _ _ _ _) _ _ _ _) _ _; exact ov_sadd rfl rfl (by first | with_reducible exact fun _ => rfl | with_reducible exact fun h => h | exact fun _ => rfl | exact fun h => h | (intro himp; simp_all; done)) (by first | with_reducible exact fun _ => rfl | with_reducible exact fun h => h | exact fun _ => rfl | exact fun h => h | (intro himp; simp_all; done)) (by intro hcg; first | omega | (simp only [List.length_append, List.length_take, List.length_drop, List.length_cons, List.length_nil, upS_length, css_len]; omega)))) ?_ | refine xl_alloc (fun _ => ?_) | refine xl_store rfl rfl ?_ | refine xl_buildSlice rfl (fun _ => ?_)) | refine wc_ret rfl ?_)
  refine wc_cond rfl (fun hc => ?_) (fun hc => ?_)
  · repeat' (first | refine wc_seq ?_ | refine wc_region ?_ | refine wl_nil ?_ | refine wn_seq ?_ | refine wn_blk ?_ | refine wc_skip ?_ | refine wc_block ?_ | refine wc_exit rfl ?_ | (show WL _ _ (_ :: _) _ _ _ _; first | refine yl_v rfl rfl rfl ?_ | refine wl_v rfl rfl rfl (by first  | (show OpV _ _ _ _ (Oper.mk _ (Op.binOp BinOp.add _ _ _ _) _ _ _ _) _ _; exact ov_sadd rfl rfl (by first | with_reducible exact fun _ => rfl | with_reducible exact fun h => h | exact fun _ => rfl | exact fun h => h | (intro himp; simp_all; done)) (by first | with_reducible exact fun _ => rfl | with_reducible exact fun h => h | exact fun _ => rfl | exact fun h => h | (intro himp; simp_all; done)) (by intro hcg; first | omega | (simp only [List.length_append, List.length_take, List.length_drop, List.length_cons, List.length_nil, upS_length, css_len]; omega)))) ?_ | refine xl_alloc (fun _ => ?_) | refine xl_store rfl rfl ?_ | refine xl_buildSlice rfl (fun _ => ?_)) | refine wc_ret rfl ?_)
    exact wr_tmp rfl rfl rfl
  (simp only [decide_eq_true_eq, decide_eq_false_iff_not, Bool.and_eq_true, Bool.or_eq_true, Bool.and_eq_false_iff, Bool.or_eq_false_iff, Bool.not_eq_true', Bool.not_eq_false', Int.not_lt, Int.not_le] at hc)
  have k1 : 1 ≤ hl.length ∧ hl.length ≤ 30 ∧ path.length ≤ 100 := by omega
  clear hc
  repeat' (first | refine wc_seq ?_ | refine wc_region ?_ | refine wl_nil ?_ | refine wn_seq ?_ | refine wn_blk ?_ | refine wc_skip ?_ | refine wc_block ?_ | refine wc_exit rfl ?_ | (show WL _ _ (_ :: _) _ _ _ _; first | refine yl_v rfl rfl rfl ?_ | refine wl_v rfl rfl rfl (by first  | (show OpV _ _ _ _ (Oper.mk _ (Op.binOp BinOp.add _ _ _ _) _ _ _ _) _ _; exact ov_sadd rfl rfl (by first | with_reducible exact fun _ => rfl | with_reducible exact fun h => h | exact fun _ => rfl | exact fun h => h | (intro himp; simp_all; done)) (by first | with_reducible exact fun _ => rfl | with_reducible exact fun h => h | exact fun _ => rfl | exact fun h => h | (intro himp; simp_all; done)) (by intro hcg; first | omega | (simp only [List.length_append, List.length_take, List.length_drop, List.length_cons, List.length_nil, upS_length, css_len]; omega)))) ?_ | refine xl_alloc (fun _ => ?_) | refine xl_store rfl rfl ?_ | refine xl_buildSlice rfl (fun _ => ?_)) | refine wc_ret rfl ?_)
  refine wc_split (α := { p : List UInt8 × List UInt8 // (p.1 = sHttp ∨ p.1 = sHttps) ∧ p.2 = 58 :: Lib.decDigits (ownP p.1) }) (fun p => [(0, true, .slice ha hl.length hcap), (1, true, str path), (2, true, .slice ga gl.length gcap), (9, true, .bool true), (10, true, str p.1.1), (11, true, str p.1.2)]) (fun _ => St w [] [] M) ?_ ?_
  · refine wc_cond rfl (fun hc => ?_) (fun hc => ?_)
    · repeat' (first | refine wc_seq ?_ | refine wc_region ?_ | refine wl_nil ?_ | refine wn_seq ?_ | refine wn_blk ?_ | refine wc_skip ?_ | refine wc_block ?_ | refine wc_exit rfl ?_ | (show WL _ _ (_ :: _) _ _ _ _; first | refine yl_v rfl rfl rfl ?_ | refine wl_v rfl rfl rfl (by first  | (show OpV _ _ _ _ (Oper.mk _ (Op.binOp BinOp.add _ _ _ _) _ _ _ _) _ _; exact ov_sadd rfl rfl (by first | with_reducible exact fun _ => rfl | with_reducible exact fun h => h | exact fun _ => rfl | exact fun h => h | (intro himp; simp_all; done)) (by first | with_reducible exact fun _ => rfl | with_reducible exact fun h => h | exact fun _ => rfl | exact fun h => h | (intro himp; simp_all; done)) (by intro hcg; first | omega | (simp only [List.length_append, List.length_take, List.length_drop, List.length_cons, List.length_nil, upS_length, css_len]; omega)))) ?_ | refine xl_alloc (fun _ => ?_) | refine xl_store rfl rfl ?_ | refine xl_buildSlice rfl (fun _ => ?_)) | refine wc_ret rfl ?_)
      exact wn_cut ⟨(sHttps, [58, 52, 52, 51]), .inr rfl, by show _ = 58 :: Lib.decDigits 443; rw [dec443]⟩ trivial (by first | exact Sub.nil _ | (repeat (first | exact Sub.nil _ | refine Sub.cons (by first | rfl | (simp [look]; done)) ?_))) (fun _ h => h)
    · repeat' (first | refine wc_seq ?_ | refine wc_region ?_ | refine wl_nil ?_ | refine wn_seq ?_ | refine wn_blk ?_ | refine wc_skip ?_ | refine wc_block ?_ | refine wc_exit rfl ?_ | (show WL _ _ (_ :: _) _ _ _ _; first | refine yl_v rfl rfl rfl ?_ | refine wl_v rfl rfl rfl (by first  | (show OpV _ _ _ _ (Oper.mk _ (Op.binOp BinOp.add _ _ _ _) _ _ _ _) _ _; exact ov_sadd rfl rfl (by first | with_reducible exact fun _ => rfl | with_reducible exact fun h => h | exact fun _ => rfl | exact fun h => h | (intro himp; simp_all; done)) (by first | with_reducible exact fun _ => rfl | with_reducible exact fun h => h | exact fun _ => rfl | exact fun h => h | (intro himp; simp_all; done)) (by intro hcg; first | omega | (simp only [List.length_append, List.length_take, List.length_drop, List.length_cons, List.length_nil, upS_length, css_len]; omega)))) ?_ | refine xl_alloc (fun _ => ?_) | refine xl_store rfl rfl ?_ | refine xl_buildSlice rfl (fun _ => ?_)) | refine wc_ret rfl ?_)
      exact wn_cut ⟨(sHttp, [58, 56, 48]), .inl rfl, by show _ = 58 :: Lib.decDigits 80; rw [dec80]⟩ trivial (by first | exact Sub.nil _ | (repeat (first | exact Sub.nil _ | refine Sub.cons (by first | rfl | (simp [look]; done)) ?_))) (fun _ h => h)
  rintro ⟨⟨sch, pt⟩, hs, hpt⟩
  dsimp only at hs hpt ⊢
  have hsl : sch.length ≤ 5 := by rcases hs with rfl | rfl <;> decide
  have hptl : pt.length ≤ 4 := by
    have : (Lib.decDigits (ownP sch)).length ≤ 3 := dec_five 2 _ (by unfold ownP; split <;> decide)
    rw [hpt]; simp only [List.length_cons]; omega
  repeat' (first | refine wc_seq ?_ | refine wc_region ?_ | refine wl_nil ?_ | refine wn_seq ?_ | refine wn_blk ?_ | refine wc_skip ?_ | refine wc_block ?_ | refine wc_exit rfl ?_ | (show WL _ _ (_ :: _) _ _ _ _; first | refine yl_v rfl rfl rfl ?_ | refine wl_v rfl rfl rfl (by first  | (show OpV _ _ _ _ (Oper.mk _ (Op.binOp BinOp.add _ _ _ _) _ _ _ _) _ _; exact ov_sadd rfl rfl (by first | with_reducible exact fun _ => rfl | with_reducible exact fun h => h | exact fun _ => rfl | exact fun h => h | (intro himp; simp_all; done)) (by first | with_reducible exact fun _ => rfl | with_reducible exact fun h => h | exact fun _ => rfl | exact fun h => h | (intro himp; simp_all; done)) (by intro hcg; first | omega | (simp only [List.length_append, List.length_take, List.length_drop, List.length_cons, List.length_nil, upS_length, css_len]; omega)))) ?_ | refine xl_alloc (fun _ => ?_) | refine xl_store rfl rfl ?_ | refine xl_buildSlice rfl (fun _ => ?_)) | refine wc_ret rfl ?_)
  refine wc_loop (α := { i : Nat // i ≤ hl.length }) (fun x => [(0, true, .slice ha hl.length hcap), (1, true, str path), (2, true, .slice ga gl.length gcap), (9, true, .bool true), (10, true, str (sch ++ sCss ++ (hl.take x.1).map letC)), (11, true, str pt), (12, true, i64 (x.1 : Int))]) (fun _ => St w [] [] M) (fun x => hl.length - x.1) ⟨0, Nat.zero_le _⟩ (Eng.Sub.cons rfl (Eng.Sub.cons rfl (Eng.Sub.cons rfl (Eng.Sub.cons rfl (Eng.Sub.cons (by show some (true, str (sch ++ [58, 47, 47])) = _; simp [sCss]) (by first | exact Sub.nil _ | (repeat (first | exact Sub.nil _ | refine Sub.cons (by first | rfl | (simp [look]; done)) ?_)))))))) (fun _ h => h) ?_
  rintro ⟨i, hi⟩
  dsimp only
  by_cases hlt : i < hl.length
  · have hne : hl ≠ [] := by rintro rfl; simp at hlt
    obtain ⟨rfl, hMb⟩ := i3 hne
    obtain ⟨vs, _, rfl, hcell⟩ := i4 i hlt
    have hcell := hcell 0 (by decide)
    have hu := u8_lt hl[i]
    have hmap : (hl.take (i + 1)).map letC = (hl.take i).map letC ++ [UInt8.ofNat (97 + (hl[i].toNat : Int) % 26).toNat] := by
      rw [let_int, List.take_succ_eq_append_getElem hlt, List.map_append]; rfl
    have htl : ((hl.take i).map letC).length ≤ 30 := by rw [List.length_map, List.length_take]; omega
    repeat' (first | refine wc_seq ?_ | refine wc_region ?_ | refine wl_nil ?_ | refine wn_seq ?_ | refine wn_blk ?_ | refine wc_skip ?_ | refine wc_block ?_ | refine wc_exit rfl ?_ | (show WL _ _ (_ :: _) _ _ _ _; first | refine yl_v rfl rfl rfl ?_ | refine wl_v rfl rfl rfl (by first  | (show OpV _ _ _ _ (Oper.mk _ (Op.binOp BinOp.add _ _ _ _) _ _ _ _) _ _; exact ov_sadd rfl rfl (by first | with_reducible exact fun _ => rfl | with_reducible exact fun h => h | exact fun _ => rfl | exact fun h => h | (intro himp; simp_all; done)) (by first | with_reducible exact fun _ => rfl | with_reducible exact fun h => h | exact fun _ => rfl | exact fun h => h | (intro himp; simp_all; done)) (by intro hcg; first | omega | (simp only [List.length_append, List.length_take, List.length_drop, List.length_cons, List.length_nil, upS_length, css_len]; omega)))) ?_ | refine xl_alloc (fun _ => ?_) | refine xl_store rfl rfl ?_ | refine xl_buildSlice rfl (fun _ => ?_)) | refine wc_ret rfl ?_)
    refine wc_cond rfl (fun hc => ?_) (fun hc => by exfalso; simp at hc; omega)
    clear hc
    repeat' (first | refine wc_seq ?_ | refine wc_region ?_ | refine wl_nil ?_ | refine wn_seq ?_ | refine wn_blk ?_ | refine wc_skip ?_ | refine wc_block ?_ | refine wc_exit rfl ?_ | (show WL _ _ (_ :: _) _ _ _ _; first | refine yl_v rfl rfl rfl ?_ | refine wl_v rfl rfl rfl (by first | (show OpV _ _ _ _ (Oper.mk _ (Op.indexAddr _ _ _) _ _ _ _) _ _; exact ov_indexAddr (i := i) (b := hb) (o := ho) rfl rfl rfl (by first | with_reducible exact fun _ => rfl | with_reducible exact fun h => h | exact fun _ => rfl | exact fun h => h | (intro himp; simp_all; done)) (by first | with_reducible exact fun _ => rfl | with_reducible exact fun h => h | exact fun _ => rfl | exact fun h => h | (intro himp; simp_all; done)) rfl (by first | exact (rfl : _ = some 1) | exact (rfl : _ = some 2) | exact (rfl : _ = some 3) | exact (rfl : _ = some 4) | exact (rfl : _ = some 6) | exact rfl) (fun _ => rfl) (by intro hcg; first | omega | (simp at hcg; omega))) | (show OpV _ _ _ _ (Oper.mk _ (Op.load _ _) _ _ _ _) _ _; exact ov_load1M rfl (by first | with_reducible exact fun _ => rfl | with_reducible exact fun h => h | exact fun _ => rfl | exact fun h => h | (intro himp; simp_all; done)) rfl rfl (fun _ => hMb) (fun _ => hcell)) | (show OpV _ _ _ _ (Oper.mk _ (Op.binOp BinOp.add _ _ _ _) _ _ _ _) _ _; exact ov_sadd rfl rfl (by first | with_reducible exact fun _ => rfl | with_reducible exact fun h => h | exact fun _ => rfl | exact fun h => h | (intro himp; simp_all; done)) (by first | with_reducible exact fun _ => rfl | with_reducible exact fun h => h | exact fun _ => rfl | exact fun h => h | (intro himp; simp_all; done)) (by intro hcg; first | omega | (simp only [List.length_append, List.length_take, List.length_drop, List.length_cons, List.length_nil, upS_length, css_len]; omega)))) ?_ | refine xl_alloc (fun _ => ?_) | refine xl_store rfl rfl ?_ | refine xl_buildSlice rfl (fun _ => ?_)) | refine wc_ret rfl ?_)
    refine wn_cut ⟨i + 1, by omega⟩ (by show hl.length - (i + 1) < hl.length - i; omega) (Eng.Sub.cons rfl (Eng.Sub.cons rfl (Eng.Sub.cons rfl (Eng.Sub.cons rfl (Eng.Sub.cons (by show some (true, str (sch ++ sCss ++ (hl.take i).map letC ++ [UInt8.ofNat (97 + (hl[i].toNat : Int) % 26).toNat])) = some (true, str (sch ++ sCss ++ (hl.take (i + 1)).map letC)); rw [hmap, List.append_assoc]) (by first | exact Sub.nil _ | (repeat (first | exact Sub.nil _ | refine Sub.cons (by first | rfl | (simp [look]; done)) ?_)))))))) (fun _ h => h.drop (List.nil_sublist _))
  obtain rfl : i = hl.length := by omega
  rw [List.take_length]
  have hHl : (hl.map letC).length = hl.length := List.length_map _
  have hHlet : ∀ c ∈ hl.map letC, 97 ≤ c.toNat ∧ c.toNat ≤ 122 := fun c hc => by
    obtain ⟨x, _, rfl⟩ := List.mem_map.1 hc; exact let_let x
  have hHlow := low_lets hl
  have hAlow : low (sch ++ sCss ++ hl.map letC) = sch ++ sCss ++ hl.map letC := by
    rw [low_append, low_append, hHlow, low_css]
    rcases hs with rfl | rfl <;> rfl
  generalize hl.map letC = H at *
  have hAl : (sch ++ sCss ++ H).length ≤ 38 := by simp only [List.length_append, css_len]; omega
  have hBlow := upS_low (g := gl) hAlow
  have hBl := upS_length gl (sch ++ sCss ++ H)
  have htake := fun i (h : i < (sch ++ sCss ++ H).length) => upS_take (g := gl) h
  have hAlw : ∀ i, lowC ((sch ++ sCss ++ H).getD i 0) = (sch ++ sCss ++ H).getD i 0 ∨ True := fun i => .inr trivial
  obtain ⟨A, hA⟩ : ∃ A, A = sch ++ sCss ++ H := ⟨_, rfl⟩
  rw [← hA] at hAl hBlow hBl htake ⊢
  obtain ⟨B, hB⟩ : ∃ B, B = upS gl A := ⟨_, rfl⟩
  rw [← hB] at hBl hBlow htake
  clear hB hAlow hAlw i4 i3
  repeat' (first | refine wc_seq ?_ | refine wc_region ?_ | refine wl_nil ?_ | refine wn_seq ?_ | refine wn_blk ?_ | refine wc_skip ?_ | refine wc_block ?_ | refine wc_exit rfl ?_ | (show WL _ _ (_ :: _) _ _ _ _; first | refine yl_v rfl rfl rfl ?_ | refine wl_v rfl rfl rfl (by first  | (show OpV _ _ _ _ (Oper.mk _ (Op.binOp BinOp.add _ _ _ _) _ _ _ _) _ _; exact ov_sadd rfl rfl (by first | with_reducible exact fun _ => rfl | with_reducible exact fun h => h | exact fun _ => rfl | exact fun h => h | (intro himp; simp_all; done)) (by first | with_reducible exact fun _ => rfl | with_reducible exact fun h => h | exact fun _ => rfl | exact fun h => h | (intro himp; simp_all; done)) (by intro hcg; first | omega | (simp only [List.length_append, List.length_take, List.length_drop, List.length_cons, List.length_nil, upS_length, css_len]; omega)))) ?_ | refine xl_alloc (fun _ => ?_) | refine xl_store rfl rfl ?_ | refine xl_buildSlice rfl (fun _ => ?_)) | refine wc_ret rfl ?_)
  refine wc_cond rfl (fun hc => by exfalso; simp at hc) (fun hc => ?_)
  clear hc
  repeat' (first | refine wc_seq ?_ | refine wc_region ?_ | refine wl_nil ?_ | refine wn_seq ?_ | refine wn_blk ?_ | refine wc_skip ?_ | refine wc_block ?_ | refine wc_exit rfl ?_ | (show WL _ _ (_ :: _) _ _ _ _; first | refine yl_v rfl rfl rfl ?_ | refine wl_v rfl rfl rfl (by first  | (show OpV _ _ _ _ (Oper.mk _ (Op.binOp BinOp.add _ _ _ _) _ _ _ _) _ _; exact ov_sadd rfl rfl (by first | with_reducible exact fun _ => rfl | with_reducible exact fun h => h | exact fun _ => rfl | exact fun h => h | (intro himp; simp_all; done)) (by first | with_reducible exact fun _ => rfl | with_reducible exact fun h => h | exact fun _ => rfl | exact fun h => h | (intro himp; simp_all; done)) (by intro hcg; first | omega | (simp only [List.length_append, List.length_take, List.length_drop, List.length_cons, List.length_nil, upS_length, css_len]; omega)))) ?_ | refine xl_alloc (fun _ => ?_) | refine xl_store rfl rfl ?_ | refine xl_buildSlice rfl (fun _ => ?_)) | refine wc_ret rfl ?_)
  refine wc_loop (α := { i : Nat // i ≤ A.length }) (fun x => [(1, true, str path), (2, true, .slice ga gl.length gcap), (9, true, .bool true), (10, true, str A), (11, true, str pt), (13, true, str (B.take x.1)), (14, true, i64 (x.1 : Int))]) (fun _ => St w [] [] M) (fun x => A.length - x.1) ⟨0, Nat.zero_le _⟩ (by first | exact Sub.nil _ | (repeat (first | exact Sub.nil _ | refine Sub.cons (by first | rfl | (simp [look]; done)) ?_))) (fun _ h => h) ?_
  rintro ⟨i, hi⟩
  dsimp only
  by_cases hlt : i < A.length
  · have hst := htake i hlt
    have hu := u8_lt (A.getD i 0)
    have htl : (B.take i).length ≤ 38 := by rw [List.length_take]; omega
    have hrow : i < gl.length → ga = some ⟨gb, go, none⟩ ∧ M gb (.cells gcs gT gfz) ∧ gcs[go + i * 1]? = some (.bool (gl.getD i false)) := fun hgi => by
      have hne : gl ≠ [] := by rintro rfl; simp at hgi
      obtain ⟨vs, _, rfl, hcell⟩ := j4 i hgi
      have e : gl.getD i false = gl[i] := by simp [hgi]
      rw [e]
      exact ⟨(j3 hne).1, (j3 hne).2, hcell 0 (by decide)⟩
    have hg0 : ¬ i < gl.length → gl.getD i false = false := fun h => by
      rw [List.getD_eq_getElem?_getD, List.getElem?_eq_none (by omega)]; rfl
    generalize gl.getD i false = g at *
    repeat' (first | refine wc_seq ?_ | refine wc_region ?_ | refine wl_nil ?_ | refine wn_seq ?_ | refine wn_blk ?_ | refine wc_skip ?_ | refine wc_block ?_ | refine wc_exit rfl ?_ | (show WL _ _ (_ :: _) _ _ _ _; first | refine yl_v rfl rfl rfl ?_ | refine wl_v rfl rfl rfl (by first  | (show OpV _ _ _ _ (Oper.mk _ (Op.binOp BinOp.add _ _ _ _) _ _ _ _) _ _; exact ov_sadd rfl rfl (by first | with_reducible exact fun _ => rfl | with_reducible exact fun h => h | exact fun _ => rfl | exact fun h => h | (intro himp; simp_all; done)) (by first | with_reducible exact fun _ => rfl | with_reducible exact fun h => h | exact fun _ => rfl | exact fun h => h | (intro himp; simp_all; done)) (by intro hcg; first | omega | (simp only [List.length_append, List.length_take, List.length_drop, List.length_cons, List.length_nil, upS_length, css_len]; omega)))) ?_ | refine xl_alloc (fun _ => ?_) | refine xl_store rfl rfl ?_ | refine xl_buildSlice rfl (fun _ => ?_)) | refine wc_ret rfl ?_)
    refine wc_cond rfl (fun hc => ?_) (fun hc => by exfalso; simp at hc; omega)
    clear hc
    repeat' (first | refine wc_seq ?_ | refine wc_region ?_ | refine wl_nil ?_ | refine wn_seq ?_ | refine wn_blk ?_ | refine wc_skip ?_ | refine wc_block ?_ | refine wc_exit rfl ?_ | (show WL _ _ (_ :: _) _ _ _ _; first | refine yl_v rfl rfl rfl ?_ | refine wl_v rfl rfl rfl (by first | (show OpV _ _ _ _ (Oper.mk _ (Op.indexAddr _ _ _) _ _ _ _) _ _; exact ov_indexAddr (i := i) (b := gb) (o := go) rfl rfl rfl (by first | with_reducible exact fun _ => rfl | with_reducible exact fun h => h | exact fun _ => rfl | exact fun h => h | (intro himp; simp_all; done)) (by first | with_reducible exact fun _ => rfl | with_reducible exact fun h => h | exact fun _ => rfl | exact fun h => h | (intro himp; simp_all; done)) rfl (by first | exact (rfl : _ = some 1) | exact (rfl : _ = some 2) | exact (rfl : _ = some 3) | exact (rfl : _ = some 4) | exact (rfl : _ = some 6) | exact rfl) (fun hcg => (hrow (by simp at hcg; omega)).1) (fun hcg => by simp at hcg; omega)) | (show OpV _ _ _ _ (Oper.mk _ (Op.load _ _) _ _ _ _) _ _; exact ov_load1M rfl (by first | with_reducible exact fun _ => rfl | with_reducible exact fun h => h | exact fun _ => rfl | exact fun h => h | (intro himp; simp_all; done)) rfl rfl (fun hcg => (hrow (by simp at hcg; omega)).2.1) (fun hcg => (hrow (by simp at hcg; omega)).2.2)) | (show OpV _ _ _ _ (Oper.mk _ (Op.binOp BinOp.add _ _ _ _) _ _ _ _) _ _; exact ov_sadd rfl rfl (by first | with_reducible exact fun _ => rfl | with_reducible exact fun h => h | exact fun _ => rfl | exact fun h => h | (intro himp; simp_all; done)) (by first | with_reducible exact fun _ => rfl | with_reducible exact fun h => h | exact fun _ => rfl | exact fun h => h | (intro himp; simp_all; done)) (by intro hcg; first | omega | (simp only [List.length_append, List.length_take, List.length_drop, List.length_cons, List.length_nil, upS_length, css_len]; omega)))) ?_ | refine xl_alloc (fun _ => ?_) | refine xl_store rfl rfl ?_ | refine xl_buildSlice rfl (fun _ => ?_)) | refine wc_ret rfl ?_)
    refine wc_cond rfl (fun hc => ?_) (fun hc => ?_)
    · (simp only [decide_eq_true_eq, decide_eq_false_iff_not, Bool.and_eq_true, Bool.or_eq_true, Bool.and_eq_false_iff, Bool.or_eq_false_iff, Bool.not_eq_true', Bool.not_eq_false', Int.not_lt, Int.not_le] at hc)
      have hup : upC g (A.getD i 0) = UInt8.ofNat (((A.getD i 0).toNat : Int) - 32).toNat := by
        rw [hc.1.1.2, up_int (A.getD i 0) (by omega)]
      repeat' (first | refine wc_seq ?_ | refine wc_region ?_ | refine wl_nil ?_ | refine wn_seq ?_ | refine wn_blk ?_ | refine wc_skip ?_ | refine wc_block ?_ | refine wc_exit rfl ?_ | (show WL _ _ (_ :: _) _ _ _ _; first | refine yl_v rfl rfl rfl ?_ | refine wl_v rfl rfl rfl (by first  | (show OpV _ _ _ _ (Oper.mk _ (Op.binOp BinOp.add _ _ _ _) _ _ _ _) _ _; exact ov_sadd rfl rfl (by first | with_reducible exact fun _ => rfl | with_reducible exact fun h => h | exact fun _ => rfl | exact fun h => h | (intro himp; simp_all; done)) (by first | with_reducible exact fun _ => rfl | with_reducible exact fun h => h | exact fun _ => rfl | exact fun h => h | (intro himp; simp_all; done)) (by intro hcg; first | omega | (simp only [List.length_append, List.length_take, List.length_drop, List.length_cons, List.length_nil, upS_length, css_len]; omega)))) ?_ | refine xl_alloc (fun _ => ?_) | refine xl_store rfl rfl ?_ | refine xl_buildSlice rfl (fun _ => ?_)) | refine wc_ret rfl ?_)
      refine wn_cut ⟨i + 1, by omega⟩ (by show A.length - (i + 1) < A.length - i; omega) (Eng.Sub.cons rfl (Eng.Sub.cons rfl (Eng.Sub.cons rfl (Eng.Sub.cons rfl (Eng.Sub.cons rfl (Eng.Sub.cons (by show some (true, str (B.take i ++ [UInt8.ofNat (((A.getD i 0).toNat : Int) - 32).toNat])) = some (true, str (B.take (i + 1))); rw [hst, hup]) (by first | exact Sub.nil _ | (repeat (first | exact Sub.nil _ | refine Sub.cons (by first | rfl | (simp [look]; done)) ?_))))))))) (fun _ h => h.drop (List.nil_sublist _))
    · have hup : upC g (A.getD i 0) = UInt8.ofNat ((A.getD i 0).toNat : Int).toNat := by
        have e : UInt8.ofNat ((A.getD i 0).toNat : Int).toNat = A.getD i 0 := by simp
        rw [e]
        unfold upC
        rw [if_neg]
        rintro ⟨g1, g2, g3⟩
        have hl2 : i < gl.length := Decidable.byContradiction fun h => by rw [hg0 h] at g1; cases g1
        rw [g1, Bool.and_true] at hc
        (simp only [decide_eq_true_eq, decide_eq_false_iff_not, Bool.and_eq_true, Bool.or_eq_true, Bool.and_eq_false_iff, Bool.or_eq_false_iff, Bool.not_eq_true', Bool.not_eq_false', Int.not_lt, Int.not_le] at hc)
        omega
      repeat' (first | refine wc_seq ?_ | refine wc_region ?_ | refine wl_nil ?_ | refine wn_seq ?_ | refine wn_blk ?_ | refine wc_skip ?_ | refine wc_block ?_ | refine wc_exit rfl ?_ | (show WL _ _ (_ :: _) _ _ _ _; first | refine yl_v rfl rfl rfl ?_ | refine wl_v rfl rfl rfl (by first  | (show OpV _ _ _ _ (Oper.mk _ (Op.binOp BinOp.add _ _ _ _) _ _ _ _) _ _; exact ov_sadd rfl rfl (by first | with_reducible exact fun _ => rfl | with_reducible exact fun h => h | exact fun _ => rfl | exact fun h => h | (intro himp; simp_all; done)) (by first | with_reducible exact fun _ => rfl | with_reducible exact fun h => h | exact fun _ => rfl | exact fun h => h | (intro himp; simp_all; done)) (by intro hcg; first | omega | (simp only [List.length_append, List.length_take, List.length_drop, List.length_cons, List.length_nil, upS_length, css_len]; omega)))) ?_ | refine xl_alloc (fun _ => ?_) | refine xl_store rfl rfl ?_ | refine xl_buildSlice rfl (fun _ => ?_)) | refine wc_ret rfl ?_)
      refine wn_cut ⟨i + 1, by omega⟩ (by show A.length - (i + 1) < A.length - i; omega) (Eng.Sub.cons rfl (Eng.Sub.cons rfl (Eng.Sub.cons rfl (Eng.Sub.cons rfl (Eng.Sub.cons rfl (Eng.Sub.cons (by show some (true, str (B.take i ++ [UInt8.ofNat ((A.getD i 0).toNat : Int).toNat])) = some (true, str (B.take (i + 1))); rw [hst, hup]) (by first | exact Sub.nil _ | (repeat (first | exact Sub.nil _ | refine Sub.cons (by first | rfl | (simp [look]; done)) ?_))))))))) (fun _ h => h.drop (List.nil_sublist _))
  obtain rfl : i = A.length := by omega
  rw [show B.take A.length = B by rw [← hBl, List.take_length]]
  obtain ⟨bs, bh, hBe, hbs, hbh⟩ := up_parts (sch := sch) (H := H) (B := B) (by rw [hBlow, hA])
  have hls : low sch = sch := by rcases hs with rfl | rfl <;> rfl
  have p1 := (parse_case (path := path) hs hls hHlow hHlet (by omega) (by omega) (by omega)).1
  obtain ⟨p2, p3⟩ := parse_case (path := path) hs hbs hbh hHlet (by omega) (by omega) (by omega)
  have q1 : A ++ [47] ++ path = sch ++ sCss ++ (H ++ 47 :: path) := by rw [hA]; simp
  have q2 : B ++ [47] ++ path = bs ++ sCss ++ (bh ++ 47 :: path) := by rw [hBe]; simp
  have q3 : B ++ pt ++ [47] ++ path = bs ++ sCss ++ (bh ++ 58 :: (Lib.decDigits (ownP sch) ++ 47 :: path)) := by rw [hBe, hpt]; simp
  have h1 := fun {w : World} (hw : Laid M w) => uparse_ok hG hw (A ++ [47] ++ path) (by simp only [List.length_append, List.length_cons, List.length_nil]; omega)
  have h2 := fun {w : World} (hw : Laid M w) => uparse_ok hG hw (B ++ [47] ++ path) (by simp only [List.length_append, List.length_cons, List.length_nil]; omega)
  have h3 := fun {w : World} (hw : Laid M w) => uparse_ok hG hw (B ++ pt ++ [47] ++ path) (by simp only [List.length_append, List.length_cons, List.length_nil]; omega)
  have hsm := parse_small (A ++ [47] ++ path)
  rw [q1, p1] at hsm
  have e1 : parseU (A ++ [47] ++ path) = tailP sch H 0 (47 :: path) := by rw [q1, p1]
  have e2 : parseU (B ++ [47] ++ path) = tailP sch H 0 (47 :: path) := by rw [q2, p2]
  have e3 : parseU (B ++ pt ++ [47] ++ path) = tailP sch H 0 (47 :: path) := by rw [q3, p3]
  rw [e1] at h1
  rw [e2] at h2
  rw [e3] at h3
  have hor : ∀ u, tailP sch H 0 (47 :: path) = (u, 0) → u.port = 0 ∧ originU u = A := fun u h => by rw [hA]; exact tail_origin h
  clear e1 e2 e3 p1 p2 p3 q1 q2 q3
  generalize tailP sch H 0 (47 :: path) = q at *
  obtain ⟨u, e⟩ := q
  have h4 := fun {w : World} (hw : Laid M w) => uorigin_ok hG hw u hsm
  have hor : e = 0 → u.port = 0 ∧ originU u = A := fun h => hor u (by rw [h])
  unfold resUrl at h1 h2 h3
  unfold urlCells at h1 h2 h3 h4
  generalize originU u = og at *
  obtain ⟨sc, ho, port, pa, qu, ask⟩ := u
  dsimp only at *
  repeat' (first | refine wc_seq ?_ | refine wc_region ?_ | refine wl_nil ?_ | refine wn_seq ?_ | refine wn_blk ?_ | refine wc_skip ?_ | refine wc_block ?_ | refine wc_exit rfl ?_ | (show WL _ _ (_ :: _) _ _ _ _; first | refine yl_v rfl rfl rfl ?_ | refine wl_v rfl rfl rfl (by first  | (show OpV _ _ _ _ (Oper.mk _ (Op.binOp BinOp.add _ _ _ _) _ _ _ _) _ _; exact ov_sadd rfl rfl (by first | with_reducible exact fun _ => rfl | with_reducible exact fun h => h | exact fun _ => rfl | exact fun h => h | (intro himp; simp_all; done)) (by first | with_reducible exact fun _ => rfl | with_reducible exact fun h => h | exact fun _ => rfl | exact fun h => h | (intro himp; simp_all; done)) (by intro hcg; first | omega | (simp only [List.length_append, List.length_take, List.length_drop, List.length_cons, List.length_nil, upS_length, css_len]; omega)))) ?_ | refine xl_alloc (fun _ => ?_) | refine xl_store rfl rfl ?_ | refine xl_buildSlice rfl (fun _ => ?_)) | refine wc_ret rfl ?_)
  refine wc_cond rfl (fun hc => by exfalso; simp at hc) (fun hc => ?_)
  clear hc
  repeat' (first | refine wc_seq ?_ | refine wc_region ?_ | refine wl_nil ?_ | refine wn_seq ?_ | refine wn_blk ?_ | refine wc_skip ?_ | refine wc_block ?_ | refine wc_exit rfl ?_ | (show WL _ _ (_ :: _) _ _ _ _; first | refine yl_v rfl rfl rfl ?_ | refine wl_v rfl rfl rfl (by first | ((show OpV _ _ _ _ (Oper.mk _ (Op.call ⟨.value (.func 10), _, _⟩) _ _ _ _) _ _; exact ov_call Tryd.call10 rfl (by intro himp; first | rfl | (simp_all; done)) (by rfl) (fun _ _ h k => h.ext k) (fun hcg w hw => h1 hw.laid))) | ((show OpV _ _ _ _ (Oper.mk _ (Op.call ⟨.value (.func 10), _, _⟩) _ _ _ _) _ _; exact ov_call Tryd.call10 rfl (by intro himp; first | rfl | (simp_all; done)) (by rfl) (fun _ _ h k => h.ext k) (fun hcg w hw => h2 hw.laid))) | ((show OpV _ _ _ _ (Oper.mk _ (Op.call ⟨.value (.func 10), _, _⟩) _ _ _ _) _ _; exact ov_call Tryd.call10 rfl (by intro himp; first | rfl | (simp_all; done)) (by rfl) (fun _ _ h k => h.ext k) (fun hcg w hw => h3 hw.laid))) | ((show OpV _ _ _ _ (Oper.mk _ (Op.call ⟨.value (.func 16), _, _⟩) _ _ _ _) _ _; exact ov_call Tryd.call16 rfl (by intro himp; first | rfl | (simp_all; done)) (by rfl) (fun _ _ h k => h.ext k) (fun hcg w hw => h4 hw.laid))) | (show OpV _ _ _ _ (Oper.mk _ (Op.binOp BinOp.add _ _ _ _) _ _ _ _) _ _; exact ov_sadd rfl rfl (by first | with_reducible exact fun _ => rfl | with_reducible exact fun h => h | exact fun _ => rfl | exact fun h => h | (intro himp; simp_all; done)) (by first | with_reducible exact fun _ => rfl | with_reducible exact fun h => h | exact fun _ => rfl | exact fun h => h | (intro himp; simp_all; done)) (by intro hcg; first | omega | (simp only [List.length_append, List.length_take, List.length_drop, List.length_cons, List.length_nil, upS_length, css_len]; omega)))) ?_ | refine xl_alloc (fun _ => ?_) | refine xl_store rfl rfl ?_ | refine xl_buildSlice rfl (fun _ => ?_)) | refine wc_ret rfl ?_)
  refine wr_weak (fun _ h => h.drop (List.nil_sublist _)) (wr_tmp rfl rfl (congrArg Value.bool ?_))
  by_cases he : e = 0
  · obtain ⟨rfl, rfl⟩ := hor he
    simp
  · simp [he]
end Go.Proofs.YtmmoglgagifdfaaDoor
/-
  Arguments opened: what the reading of an argument says of memory, with the sizes that a row allows. Nothing of the program stands here.
-/
namespace Go.Eng
open Go.RowKit Go.ChangeShapes Go.WideShapes

/-- all that stands in a world -/
def All (W : World) : Ghost := fun b o => W.heap[b]? = some o
theorem all_laid (W : World) : Laid (All W) W := fun _ _ h => h
theorem cell_inv {W : World} {g i : Nat} {v : Value} (h : W.cell? ⟨g, i, none⟩ = some v) : ∃ cs T fz, W.heap[g]? = some (.cells cs T fz) ∧ cs[i]? = some v := by
  unfold World.cell? at h
  split at h
  · rename_i cs T fz e; exact ⟨cs, T, fz, e, by simpa using h⟩
  · cases h
/-- a datum's sizes -/
def Wt {H : Type} (P : Program) (t : TypeId) (d : DataW H) : Prop := ∀ n ∈ d.weights P t, n ≤ reachBytes
/-- how the cells of a type open -/
structure Opens (P : Program) (w : World) (t : TypeId) {α : Type} (R : α → List Value → Prop) : Prop where
  go : ∀ {H : Type} (enc : TypeId × Value → H) (fuel : Nat) (cs : List Value) (d : DataW H) (ps : List MemPlace), DataW.trod enc P w 0 (fun _ => true) true fuel t cs = some (d, ps) → Wt P t d → ∃ x, R x cs
section
variable {P : Program} {w : World} {t : TypeId}
theorem str_of (s : ByteArray) : Value.string s = str s.data.toList := by cases s; simp
theorem opens_str (ht : P.underlying t = some .string) : Opens P w t (fun s vs => vs = [str s] ∧ s.length ≤ reachBytes) := ⟨fun enc fuel cs d ps h hw => by
  obtain ⟨s, e1, e2, _⟩ := DataW.trod_string ht h
  simp only [Prod.mk.injEq] at e2
  refine ⟨s.data.toList, by rw [e1, str_of], ?_⟩
  exact hw _ (by rw [e2.1]; simp [DataW.weights])⟩
theorem opens_bool (ht : P.underlying t = some .bool) : Opens P w t (fun b vs => vs = [.bool b]) := ⟨fun enc fuel cs d ps h hw => by
  cases fuel with
  | zero => simp [DataW.trod] at h
  | succ n =>
    unfold DataW.trod at h
    rw [ht] at h
    split at h <;> simp_all⟩
theorem opens_int {k : IntKind} (ht : P.underlying t = some (.int k)) : Opens P w t (fun z vs => vs = [.int k z] ∧ k.min ≤ z ∧ z ≤ k.max) := ⟨fun enc fuel cs d ps h hw => by
  obtain ⟨z, e1, _, hwf⟩ := DataW.trod_int ht h
  refine ⟨z, e1, ?_⟩
  simpa [Lit.wf] using hwf⟩
theorem wt_all {H : Type} {e : TypeId} {d : DataW H} : ∀ {ds : List (DataW H)}, d ∈ ds → ∀ n ∈ d.weights P e, n ∈ DataW.weightsAll P e ds
  | x :: ds, hd, n, hn => by
    simp only [DataW.weightsAll, List.mem_append]
    rcases List.mem_cons.1 hd with rfl | hd
    · exact .inl hn
    · exact .inr (wt_all hd n hn)
theorem opens_slice {e : TypeId} {m : Nat} {α : Type} {R : α → List Value → Prop} (ht : P.underlying t = some (.slice e)) (hc : P.cellsOf e = m) (hm : 0 < m) (he : Opens P w e R) :
    Opens P w t (fun (l : List α) vs => ∃ v, vs = [v] ∧ Sl (All w) m R v l ∧ l.length * P.bytesOf e ≤ reachBytes) := ⟨fun enc fuel cs d ps h hw => by
  rcases Go.Deep.open_slice ht h with ⟨rfl, _⟩ | ⟨a, len, cap, q, n, D, Pl, rfl, _, hl, hcm, hq, hx, hel⟩
  · exact ⟨[], _, rfl, sl_nil, by simp⟩
  · simp only [if_true] at hq
    subst hq
    simp only [Prod.mk.injEq] at hx
    have hwt : ∀ i, i < len → Wt P e (D i) := by
      intro i hi k hk
      refine hw k ?_
      rw [hx.1]
      simp only [DataW.weights, ht, List.mem_cons, List.mem_append]
      exact .inr (.inl (wt_all (List.mem_map.2 ⟨i, by simpa using hi, rfl⟩) k hk))
    have hbytes : len * P.bytesOf e ≤ reachBytes := by
      refine Nat.le_trans (Nat.mul_le_mul_right _ (Nat.le_add_right len (q - len))) (hw ((len + (q - len)) * P.bytesOf e) ?_)
      rw [hx.1]
      simp [DataW.weights, ht]
    have each : ∀ i, i < len → ∃ y : α, ∃ cs' : List Value, cs'.length = m ∧ R y cs' ∧ ∀ j, j < m → w.cell? (a.add (i * m + j)) = cs'[j]? := by
      intro i hi
      obtain ⟨cs', h1, h2⟩ := hel i (by omega)
      rw [hc] at h1
      obtain ⟨_, hlen, hcell⟩ := World.cells?_some h1
      obtain ⟨y, hy⟩ := he.go enc n cs' (D i) (Pl i) h2 (hwt i hi)
      exact ⟨y, cs', hlen, hy, fun j hj => by rw [← hcell j hj, Go.Deep.add_add]⟩
    have hmax : len ≤ 9223372036854775807 := by unfold maxLen at hcm; omega
    by_cases h0 : len = 0
    · subst h0
      exact ⟨[], _, rfl, ⟨some a, q, rfl, Nat.zero_le _, by simp, fun h => absurd rfl h⟩, by simp⟩
    · obtain ⟨y0, cs0, hl0, _, hc0⟩ := each 0 (by omega)
      have hc00 := hc0 0 hm
      have hsome : ∃ v, cs0[0]? = some v := ⟨cs0[0]'(by omega), by simp [show 0 < cs0.length by omega]⟩
      obtain ⟨v0, hv0⟩ := hsome
      rw [hv0] at hc00
      simp only [Nat.zero_mul, Nat.add_zero, Addr.add, if_true] at hc00
      obtain ⟨b, o, spot⟩ := a
      cases spot with
      | some x =>
        simp only [World.cell?] at hc00
        split at hc00
        · simp at hc00
        · cases hc00
      | none =>
        obtain ⟨cells, T, fz, hh, _⟩ := cell_inv hc00
        have : ∀ n, n ≤ len → ∃ l : List α, l.length = n ∧ ∀ i (hi : i < l.length), ∃ vs, vs.length = m ∧ R l[i] vs ∧ ∀ j, j < m → cells[o + i * m + j]? = vs[j]? := by
          intro n
          induction n with
          | zero => intro _; exact ⟨[], rfl, fun i hi => absurd hi (by simp)⟩
          | succ n ih =>
            intro hn
            obtain ⟨l, hl', hall⟩ := ih (by omega)
            obtain ⟨y, cs', h1, h2, h3⟩ := each n (by omega)
            refine ⟨l ++ [y], by simp [hl'], fun i hi => ?_⟩
            by_cases hin : i < l.length
            · obtain ⟨vs, g1, g2, g3⟩ := hall i hin
              exact ⟨vs, g1, by rw [List.getElem_append_left hin]; exact g2, g3⟩
            · have : i = n := by simp at hi; omega
              subst this
              refine ⟨cs', h1, ?_, fun j hj => ?_⟩
              · rw [List.getElem_append_right (by omega)]; simpa using h2
              · rw [← h3 j hj]
                have hadd : ∀ k, (⟨b, o, none⟩ : Addr).add k = ⟨b, o + k, none⟩ := by
                  intro k; unfold Addr.add; split
                  · simp_all
                  · rfl
                rw [hadd, cell_of hh, Nat.add_assoc]
        obtain ⟨l, hl', hall⟩ := this len (Nat.le_refl _)
        subst hl'
        exact ⟨l, _, rfl, ⟨some ⟨b, o, none⟩, q, rfl, hl, hmax, fun _ => ⟨b, o, cells, T, fz, rfl, hh, hall⟩⟩, hbytes⟩⟩
theorem wt_each {H : Type} : ∀ {ts : List TypeId} {ds : List (DataW H)} {j : Nat} {t : TypeId} {d : DataW H}, ts[j]? = some t → ds[j]? = some d → (∀ n ∈ DataW.weightsEach P ts ds, n ≤ reachBytes) → Wt P t d :=
  fun ht hd h n hn => h n (DataW.weights_mem_each ht hd n hn)
/-- a struct whose fields are of one cell each -/
theorem open_fields {fs : Array Field} (ht : P.underlying t = some (.struct fs)) (hone : (fs.toList.zipIdx.all fun x => Nat.beq x.1.offset x.2 && Nat.beq (P.cellsOf x.1.type) 1) = true) (hct : P.cellsOf t = fs.size)
    {H : Type} (enc : TypeId × Value → H) (fuel : Nat) (cs : List Value) (d : DataW H) (ps : List MemPlace) (h : DataW.trod enc P w 0 (fun _ => true) true fuel t cs = some (d, ps)) (hw : Wt P t d) :
    cs.length = fs.size ∧ ∀ (i : Nat) (f : Field), fs[i]? = some f → ∃ v, cs[i]? = some v ∧ ∀ {α : Type} {R : α → List Value → Prop}, Opens P w f.type R → ∃ x, R x [v] := by
  obtain ⟨xs, n, rfl, e, hl, hxl, hf⟩ := DataW.trod_struct ht h
  simp only [Prod.mk.injEq] at e
  rw [hct] at hl
  refine ⟨hl, fun i f hfi => ?_⟩
  have hi : i < fs.size := by
    rcases Nat.lt_or_ge i fs.size with h' | h'
    · exact h'
    · simp [Array.getElem?_eq_none h'] at hfi
  have h1 := List.all_eq_true.1 hone (f, i) (by
    rw [List.mem_zipIdx_iff_getElem?]
    simpa using hfi)
  simp only [Bool.and_eq_true] at h1
  have ho : f.offset = i := Nat.eq_of_beq_eq_true h1.1
  have hc1 : P.cellsOf f.type = 1 := Nat.eq_of_beq_eq_true h1.2
  have hg := hf i f hfi
  have hcs : i < cs.length := by omega
  rw [ho, hc1, List.drop_eq_getElem_cons hcs, List.take_succ_cons, List.take_zero] at hg
  refine ⟨cs[i], by simp [hcs], fun {α R} hR => ?_⟩
  have hxi : i < xs.length := by omega
  rw [List.getElem?_eq_getElem hxi] at hg
  refine hR.go enc n [cs[i]] (xs[i]).1 (xs[i]).2 hg ?_
  intro k hk
  refine hw k ?_
  rw [e.1]
  simp only [DataW.weights, ht]
  exact DataW.weights_mem_each (j := i) (t := f.type) (d := (xs[i]).1) (by simp [hfi]) (by simp [hxi]) k hk
/-- a pair of texts -/
def IsPr (p : List UInt8 × List UInt8) (vs : List Value) : Prop := vs = [str p.1, str p.2] ∧ p.1.length ≤ reachBytes ∧ p.2.length ≤ reachBytes
theorem two_cells {cs : List Value} {v0 v1 : Value} (hl : cs.length = 2) (h0 : cs[0]? = some v0) (h1 : cs[1]? = some v1) : cs = [v0, v1] := by
  match cs, hl with
  | [a, b], _ => simp at h0 h1; rw [h0, h1]
theorem opens_pr {f0 f1 : Field} (ht : P.underlying t = some (.struct #[f0, f1])) (hone : ((#[f0, f1] : Array Field).toList.zipIdx.all fun x => Nat.beq x.1.offset x.2 && Nat.beq (P.cellsOf x.1.type) 1) = true) (hct : P.cellsOf t = 2)
    (t0 : P.underlying f0.type = some .string) (t1 : P.underlying f1.type = some .string) : Opens P w t IsPr := ⟨fun enc fuel cs d ps h hw => by
  obtain ⟨hl, hf⟩ := open_fields ht hone hct enc fuel cs d ps h hw
  obtain ⟨v0, e0, g0⟩ := hf 0 f0 rfl
  obtain ⟨v1, e1, g1⟩ := hf 1 f1 rfl
  obtain ⟨s0, k0, b0⟩ := g0 (opens_str t0)
  obtain ⟨s1, k1, b1⟩ := g1 (opens_str t1)
  simp only [List.cons.injEq, and_true] at k0 k1
  refine ⟨(s0, s1), ?_, b0, b1⟩
  rw [two_cells hl e0 e1, k0, k1]⟩
/-- an argument -/
theorem open_arg {α : Type} {R : α → List Value → Prop} (hR : Opens P w t R) {H : Type} {enc : TypeId × Value → H} {v : Value} {d : DataW H} {ps : List MemPlace} (h : DataW.Trod enc P w 0 (fun _ => true) true t v d ps) (hw : Wt P t d) : ∃ x, R x v.cells.toList := by
  obtain ⟨fuel, hf⟩ := h
  exact hR.go enc fuel _ d ps hf hw
theorem sl_slS {M : Ghost} {v : Value} {l : List (List UInt8)} (h : Sl M 1 (fun s vs => vs = [str s] ∧ s.length ≤ reachBytes) v l) : SlS M v l ∧ ∀ s ∈ l, s.length ≤ reachBytes := by
  refine ⟨h.mono (fun _ _ h => h) (fun _ _ _ h => h.1), fun s hs => ?_⟩
  obtain ⟨_, _, _, _, _, h4⟩ := h
  obtain ⟨b, o, cs, T, fz, _, _, h7⟩ := h4 (by rintro rfl; cases hs)
  obtain ⟨i, hi, rfl⟩ := List.mem_iff_getElem.1 hs
  obtain ⟨vs, _, hR, _⟩ := h7 i hi
  exact hR.2
theorem sl_slP {M : Ghost} {v : Value} {l : List (List UInt8 × List UInt8)} (h : Sl M 2 IsPr v l) : SlP M v l ∧ ∀ p ∈ l, p.1.length ≤ reachBytes ∧ p.2.length ≤ reachBytes := by
  refine ⟨h.mono (fun _ _ h => h) (fun _ _ _ h => h.1), fun s hs => ?_⟩
  obtain ⟨_, _, _, _, _, h4⟩ := h
  obtain ⟨b, o, cs, T, fz, _, _, h7⟩ := h4 (by rintro rfl; cases hs)
  obtain ⟨i, hi, rfl⟩ := List.mem_iff_getElem.1 hs
  obtain ⟨vs, _, hR, _⟩ := h7 i hi
  exact hR.2
end
end Go.Eng
/-
  The arguments of this program's laws, opened, with the sizes that a row allows.
-/
namespace Go.Proofs.YtmmoglgagifdfaaDoor
open Go.ChangeShapes Go.WideShapes Go.RowKit Go.Eng Go.Pct
set_option maxRecDepth 100000
set_option linter.unusedVariables false
set_option linter.unusedSimpArgs false

variable {H : Type} {enc : TypeId × Value → H} {W : World} {base : Nat} {v : Value} {d : DataW H} {ps : List MemPlace}
theorem reach_le {n : Nat} (h : n ≤ reachBytes) : n ≤ 140737488355328 := Nat.le_trans h (by decide)
theorem small_of {l : List Pr} (h : ∀ p ∈ l, p.1.length ≤ reachBytes ∧ p.2.length ≤ reachBytes) : Small 140737488355328 l := fun p hp => ⟨reach_le (h p hp).1, reach_le (h p hp).2⟩
theorem opn_str : Opens Tryd.prog W 9 (fun s vs => vs = [str s] ∧ s.length ≤ reachBytes) := opens_str Tryd.underlying9
theorem opn_pr : Opens Tryd.prog W 44 IsPr := opens_pr Tryd.underlying44 (by kernel_rfl) (by kernel_rfl) Tryd.underlying9 Tryd.underlying9
theorem opn_prs : Opens Tryd.prog W 39 (fun (l : List Pr) vs => ∃ v, vs = [v] ∧ Sl (All W) 2 IsPr v l ∧ l.length * Tryd.prog.bytesOf 44 ≤ reachBytes) := opens_slice Tryd.underlying39 (by kernel_rfl) (by decide) opn_pr
theorem opn_strs : Opens Tryd.prog W 55 (fun (l : List (List UInt8)) vs => ∃ v, vs = [v] ∧ Sl (All W) 1 (fun s vs => vs = [str s] ∧ s.length ≤ reachBytes) v l ∧ l.length * Tryd.prog.bytesOf 9 ≤ reachBytes) := opens_slice Tryd.underlying55 (by kernel_rfl) (by decide) opn_str

theorem arg_str (hval : Value.okWide Tryd.prog W .any base 9 v) (hd : DataW.Trod enc Tryd.prog W 0 (fun _ => true) true 9 v d ps) (hw : Wt Tryd.prog 9 d) : ∃ s, v = str s ∧ s.length ≤ reachBytes := by
  obtain ⟨s0, rfl⟩ := okWide_string Tryd.underlying9 hval
  obtain ⟨s, hs, hl⟩ := open_arg opn_str hd hw
  simp only [Value.cells, List.cons.injEq, and_true] at hs
  exact ⟨s, hs, hl⟩
theorem arg_bool (hval : Value.okWide Tryd.prog W .any base 4 v) : ∃ b, v = .bool b := okWide_bool Tryd.underlying4 hval
theorem arg_int (hval : Value.okWide Tryd.prog W .any base 3 v) (hd : DataW.Trod enc Tryd.prog W 0 (fun _ => true) true 3 v d ps) (hw : Wt Tryd.prog 3 d) : ∃ z : Int, v = i64 z ∧ -9223372036854775808 ≤ z ∧ z ≤ 9223372036854775807 := by
  obtain ⟨z0, rfl⟩ := okWide_int Tryd.underlying3 hval
  obtain ⟨z, hz, h1, h2⟩ := open_arg (opens_int Tryd.underlying3) hd hw
  simp only [Value.cells, List.cons.injEq, and_true] at hz
  exact ⟨z, hz, h1, h2⟩
theorem arg_u8 (hval : Value.okWide Tryd.prog W .any base 5 v) (hd : DataW.Trod enc Tryd.prog W 0 (fun _ => true) true 5 v d ps) (hw : Wt Tryd.prog 5 d) : ∃ c : UInt8, v = byt c := by
  obtain ⟨z0, rfl⟩ := okWide_int Tryd.underlying5 hval
  obtain ⟨z, hz, h1, h2⟩ := open_arg (opens_int Tryd.underlying5) hd hw
  simp only [Value.cells, List.cons.injEq, and_true] at hz
  rw [hz]
  have h1 : (0 : Int) ≤ z := h1
  have h2 : z ≤ 255 := h2
  refine ⟨UInt8.ofNat z.toNat, ?_⟩
  have h3 : ((UInt8.ofNat z.toNat).toNat : Int) = z := by
    have : z.toNat < 256 := by omega
    simp [Nat.mod_eq_of_lt this]; omega
  rw [byt, h3]
theorem arg_prs (hval : Value.okWide Tryd.prog W .any base 39 v) (hd : DataW.Trod enc Tryd.prog W 0 (fun _ => true) true 39 v d ps) (hw : Wt Tryd.prog 39 d) : ∃ l : List Pr, SlP (All W) v l ∧ Small 140737488355328 l := by
  obtain ⟨a0, len, cap, rfl⟩ := okWide_slice Tryd.underlying39 hval
  obtain ⟨l, u, hu, hl, _⟩ := open_arg opn_prs hd hw
  simp only [Value.cells, List.cons.injEq, and_true] at hu
  subst hu
  exact ⟨l, (sl_slP hl).1, small_of (sl_slP hl).2⟩
theorem arg_strs (hval : Value.okWide Tryd.prog W .any base 55 v) (hd : DataW.Trod enc Tryd.prog W 0 (fun _ => true) true 55 v d ps) (hw : Wt Tryd.prog 55 d) : ∃ l : List (List UInt8), SlS (All W) v l ∧ ∀ s ∈ l, s.length ≤ 140737488355328 := by
  obtain ⟨a0, len, cap, rfl⟩ := okWide_slice Tryd.underlying55 hval
  obtain ⟨l, u, hu, hl, _⟩ := open_arg opn_strs hd hw
  simp only [Value.cells, List.cons.injEq, and_true] at hu
  subst hu
  exact ⟨l, (sl_slS hl).1, fun s hs => reach_le ((sl_slS hl).2 s hs)⟩
theorem arg_agg {t : TypeId} {fs : Array Field} (ht : Tryd.prog.underlying t = some (.struct fs)) (hval : Value.okWide Tryd.prog W .any base t v) : ∃ cs, v = .agg cs := by
  simp only [Value.okWide, ht] at hval
  obtain ⟨cs, h, _⟩ := hval
  exact ⟨cs, h⟩
theorem three_cells {cs : List Value} {v0 v1 v2 : Value} (hl : cs.length = 3) (h0 : cs[0]? = some v0) (h1 : cs[1]? = some v1) (h2 : cs[2]? = some v2) : cs = [v0, v1, v2] := by
  match cs, hl with
  | [a, b, c], _ => simp at h0 h1 h2; rw [h0, h1, h2]
theorem four_cells {cs : List Value} {v0 v1 v2 v3 : Value} (hl : cs.length = 4) (h0 : cs[0]? = some v0) (h1 : cs[1]? = some v1) (h2 : cs[2]? = some v2) (h3 : cs[3]? = some v3) : cs = [v0, v1, v2, v3] := by
  match cs, hl with
  | [a, b, c, d], _ => simp at h0 h1 h2 h3; rw [h0, h1, h2, h3]
end Go.Proofs.YtmmoglgagifdfaaDoor
/-
  Arguments: slices of bytes, of truth values; URLs.
-/
namespace Go.Proofs.YtmmoglgagifdfaaDoor
open Go.ChangeShapes Go.WideShapes Go.RowKit Go.Eng Go.Pct
set_option maxRecDepth 100000
set_option linter.unusedSimpArgs false
set_option linter.unusedVariables false
variable {H : Type} {enc : TypeId × Value → H} {W : World} {base : Nat} {v : Value} {d : DataW H} {ps : List MemPlace}

theorem sl_conv {M : Ghost} {α β : Type} {m : Nat} {R : α → List Value → Prop} {R' : β → List Value → Prop} {v : Value} {l : List α} (f : α → β) (h : Sl M m R v l) (hf : ∀ x vs, R x vs → R' (f x) vs) : Sl M m R' v (l.map f) := by
  obtain ⟨a, cap, h1, h2, h3, h4⟩ := h
  refine ⟨a, cap, by rw [List.length_map]; exact h1, by rw [List.length_map]; exact h2, by rw [List.length_map]; exact h3, fun hne => ?_⟩
  obtain ⟨b, o, cs, T, fz, h5, h6, h7⟩ := h4 (by rintro rfl; exact hne rfl)
  refine ⟨b, o, cs, T, fz, h5, h6, fun i hi => ?_⟩
  rw [List.length_map] at hi
  obtain ⟨vs, g1, g2, g3⟩ := h7 i hi
  exact ⟨vs, g1, by rw [List.getElem_map]; exact hf _ _ g2, g3⟩
theorem u8_back {z : Int} (h1 : 0 ≤ z) (h2 : z ≤ 255) : Value.int .u8 z = byt (UInt8.ofNat z.toNat) := by
  have h3 : ((UInt8.ofNat z.toNat).toNat : Int) = z := by
    have : z.toNat < 256 := by omega
    simp [Nat.mod_eq_of_lt this]; omega
  rw [byt, h3]
theorem arg_u8s (hval : Value.okWide Tryd.prog W .any base 33 v) (hd : DataW.Trod enc Tryd.prog W 0 (fun _ => true) true 33 v d ps) (hw : Wt Tryd.prog 33 d) : ∃ l : List UInt8, Sl (All W) 1 (fun c vs => vs = [byt c]) v l := by
  obtain ⟨a0, len, cap, rfl⟩ := okWide_slice Tryd.underlying33 hval
  obtain ⟨l, u, hu, hl, _⟩ := open_arg (opens_slice (m := 1) Tryd.underlying33 (by kernel_rfl) (by decide) (opens_int Tryd.underlying5)) hd hw
  simp only [Value.cells, List.cons.injEq, and_true] at hu
  subst hu
  exact ⟨_, sl_conv (fun z : Int => UInt8.ofNat z.toNat) hl (fun z vs h => by rw [h.1, u8_back h.2.1 h.2.2])⟩
theorem arg_bools (hval : Value.okWide Tryd.prog W .any base 34 v) (hd : DataW.Trod enc Tryd.prog W 0 (fun _ => true) true 34 v d ps) (hw : Wt Tryd.prog 34 d) : ∃ l : List Bool, Sl (All W) 1 (fun b vs => vs = [.bool b]) v l := by
  obtain ⟨a0, len, cap, rfl⟩ := okWide_slice Tryd.underlying34 hval
  obtain ⟨l, u, hu, hl, _⟩ := open_arg (opens_slice (m := 1) Tryd.underlying34 (by kernel_rfl) (by decide) (opens_bool Tryd.underlying4)) hd hw
  simp only [Value.cells, List.cons.injEq, and_true] at hu
  subst hu
  exact ⟨l, hl⟩
theorem six_cells {cs : List Value} {v0 v1 v2 v3 v4 v5 : Value} (hl : cs.length = 6) (h0 : cs[0]? = some v0) (h1 : cs[1]? = some v1) (h2 : cs[2]? = some v2) (h3 : cs[3]? = some v3) (h4 : cs[4]? = some v4) (h5 : cs[5]? = some v5) : cs = [v0, v1, v2, v3, v4, v5] := by
  match cs, hl with
  | [a, b, c, d, e, f], _ => simp at h0 h1 h2 h3 h4 h5; rw [h0, h1, h2, h3, h4, h5]
theorem arg_url (hval : Value.okWide Tryd.prog W .any base 24 v) (hd : DataW.Trod enc Tryd.prog W 0 (fun _ => true) true 24 v d ps) (hw : Wt Tryd.prog 24 d) :
    ∃ (a b : List UInt8) (z : Int) (c d : List UInt8) (k : Bool), v = .agg #[str a, str b, i64 z, str c, str d, .bool k] ∧ a.length ≤ reachBytes ∧ b.length ≤ reachBytes ∧ c.length ≤ reachBytes ∧ d.length ≤ reachBytes ∧ z ≤ 9223372036854775807 := by
  obtain ⟨cs, rfl⟩ := arg_agg Tryd.underlying24 hval
  obtain ⟨fuel, hf⟩ := hd
  obtain ⟨hlen, hfs⟩ := open_fields Tryd.underlying24 (by kernel_rfl) (by kernel_rfl) enc fuel _ d ps hf hw
  obtain ⟨v0, e0, g0⟩ := hfs 0 _ rfl
  obtain ⟨v1, e1, g1⟩ := hfs 1 _ rfl
  obtain ⟨v2, e2, g2⟩ := hfs 2 _ rfl
  obtain ⟨v3, e3, g3⟩ := hfs 3 _ rfl
  obtain ⟨v4, e4, g4⟩ := hfs 4 _ rfl
  obtain ⟨v5, e5, g5⟩ := hfs 5 _ rfl
  obtain ⟨a, ha, ha2⟩ := g0 opn_str
  obtain ⟨b, hb, hb2⟩ := g1 opn_str
  obtain ⟨z, hz, _, hz2⟩ := g2 (opens_int Tryd.underlying3)
  obtain ⟨c, hc, hc2⟩ := g3 opn_str
  obtain ⟨q, hq, hq2⟩ := g4 opn_str
  obtain ⟨k, hk⟩ := g5 (opens_bool Tryd.underlying4)
  simp only [List.cons.injEq, and_true] at ha hb hz hc hq hk
  have h3 := six_cells hlen e0 e1 e2 e3 e4 e5
  refine ⟨a, b, z, c, q, k, ?_, ha2, hb2, hc2, hq2, hz2⟩
  rw [ha, hb, hz, hc, hq, hk] at h3
  have h4 : cs.toList = [str a, str b, i64 z, str c, str q, .bool k] := h3
  have h5 : cs = #[str a, str b, i64 z, str c, str q, .bool k] := by rw [← Array.toArray_toList (xs := cs), h4]
  rw [h5]
end Go.Proofs.YtmmoglgagifdfaaDoor
/-
  The frames' common part: what a row's world holds; a world for the witness.
-/
namespace Go.Proofs.YtmmoglgagifdfaaDoor
open Go.ChangeShapes Go.WideShapes Go.ChangeAt Go.RowKit Go.Eng Go.Pct
set_option maxRecDepth 100000

theorem own : ownKnob Tryd.prog.godebug = none := by kernel_rfl
theorem gPowT : (Tryd.prog.globals[2]?).map (·.type) = some 113 := by kernel_rfl
theorem cellsPow : Tryd.prog.cellsOf 113 = 20 := by kernel_rfl
theorem cellsU64 : Tryd.prog.cellsOf 103 = 1 := by kernel_rfl
def digitZ : List Int := [48, 49, 50, 51, 52, 53, 54, 55, 56, 57, 65, 66, 67, 68, 69, 70]
theorem digitZ_int : ∀ i, i < 16 → digitZ.getD i 0 = ((highS.getD i 0).toNat : Int) := by decide
theorem digitZ_at (i : Nat) (h : i < 16) : Value.int .u8 (digitZ.getD i 0) = byt (highS.getD i 0) := by rw [digitZ_int i h]
theorem gDig : Tryd.prog.globalNamed "matricula/pct.digits" = some 1 := by kernel_rfl
theorem gDigT : (Tryd.prog.globals[1]?).map (·.type) = some 98 := by kernel_rfl
theorem cellsDig : Tryd.prog.cellsOf 98 = 16 := by kernel_rfl
theorem cellsU8 : Tryd.prog.cellsOf 5 = 1 := by kernel_rfl
/-- what is asked of a row's list -/
structure Lists (l : List (String × DataW Unit)) : Prop where
  pow : l.filter (fun x => x.1 == "internal/strconv.uint64pow10") = [("internal/strconv.uint64pow10", Lib.tabData .u64 Lib.pow10Tab)]
  dig : l.filter (fun x => x.1 == "matricula/pct.digits") = [("matricula/pct.digits", Lib.tabData .u8 digitZ)]
theorem glob_of {W : World} {l : List (String × DataW Unit)} (hl : Lists l) (h : laidMetH Tryd.prog l W) (hsh : W.ShapedOpen Tryd.prog) : Glob (All W) := by
  constructor
  · have h1 := h.filter (fun x => x.1 == "matricula/pct.digits")
    rw [hl.dig, Go.MakeChecks.laidMetH_plain _ _ _ (by rfl)] at h1
    have ht := Lib.tabIs_of_head (rest := []) gDig gDigT Tryd.underlying98 Tryd.underlying5 cellsU8 cellsDig h1
    obtain ⟨cs, T, fz, hh, _⟩ := cell_inv (ht.cell gDig 0 (by decide))
    refine ⟨cs, T, fz, hh, fun i hi => ?_⟩
    have := ht.cell gDig i (by simpa [digitZ] using hi)
    rw [← digitZ_at i hi, ← this, cell_of hh]
  · obtain ⟨m, hm⟩ := (Tryd.laysM219).s1_3 W hsh
    obtain ⟨cs, T, fz, hh, h2⟩ := cell_inv hm
    exact ⟨cs, T, fz, m, hh, h2⟩
  · have h1 := h.filter (fun x => x.1 == "internal/strconv.uint64pow10")
    rw [hl.pow, Go.MakeChecks.laidMetH_plain _ _ _ (by rfl)] at h1
    have ht := Lib.tabIs_of_head (rest := []) gPow gPowT Tryd.underlying113 Tryd.underlying103 cellsU64 cellsPow h1
    unfold Lib.TabIs World.var? at ht
    rw [gPow, Option.bind_some] at ht
    split at ht
    · rename_i cs T fz hh
      simp only [Option.some.injEq] at ht
      exact ⟨T, fz, by rw [← ht]; exact hh⟩
    · cases ht

theorem laidOut : laidOutB Tryd.prog = true := by kernel_rfl
theorem trodAll_below {H : Type} {enc : TypeId × Value → H} {P : Program} (hl : laidOutB P = true) {W W' : World} (hb : Below W.heap.size W W') : ∀ {ts : List TypeId} {vs : List Value} {ds : List (DataW H)} {ps : List MemPlace},
    (ts.all fun t => P.readableRec t && decide (t < P.types.size)) = true → DataW.TrodAll enc P W 0 (fun _ => true) true ts vs ds ps → (∀ x ∈ ps, x.block < W.heap.size) → DataW.TrodAll enc P W' 0 (fun b => decide (b < W.heap.size)) true ts vs ds ps
  | [], [], [], _, _, h, _ => h
  | _ :: _, _ :: _, _ :: _, _, hT, ⟨p, q, h1, h2, e⟩, hs => by
    simp only [List.all_cons, Bool.and_eq_true, decide_eq_true_eq] at hT
    exact ⟨p, q, Below.trod hl hT.1.1 hT.1.2 h1 hb (fun x hx => hs x (by rw [e]; exact List.mem_append_left _ hx)), trodAll_below hl hb hT.2 h2 (fun x hx => hs x (by rw [e]; exact List.mem_append_right _ hx)), e⟩
/-- what a table's datum lays -/
def cellsD : Nat → DataW Unit → List Value
  | 0, _ => []
  | n + 1, .agg l => l.flatMap (cellsD n)
  | _ + 1, .lit (.int k z) => [.int k z]
  | _ + 1, .lit (.string s) => [.string ⟨s.toArray⟩]
  | _, _ => []
def layAt (d : DataW Unit) : Obj → Obj
  | .cells _ t fz => .cells (cellsD 5 d).toArray t fz
  | o => o
/-- A world for the witness: the settled one, the tables holding what their initialisers lay. -/
noncomputable def laidWorld (os : Os) (l : List (String × DataW Unit)) : World :=
  { World.holding Tryd.prog os ⟨#[], #[], []⟩ with heap := l.foldl (fun h x => match Tryd.prog.globalNamed x.1 with | some g => h.modify g (layAt x.2) | none => h) (World.holding Tryd.prog os ⟨#[], #[], []⟩).heap }
theorem noStand (t : TypeId) (ts : Array TypeId) (h : ts.all (fun t => !Tryd.prog.wantsStandIn t) = true) (j : Nat) (ht : ts[j]? = some t) : Tryd.prog.wantsStandIn t = false := by
  have := (Array.all_eq_true'.1 h) t (Array.mem_of_getElem? ht)
  simpa using this
theorem sizes_of {H : Type} {ts us : List TypeId} {ds gs : List (DataW H)} (h : (DataW.weightsEach Tryd.prog (ts ++ us) (ds ++ gs)).all (· ≤ reachBytes) = true) {j : Nat} {t : TypeId} {d : DataW H} (ht : (ts ++ us)[j]? = some t) (hd : (ds ++ gs)[j]? = some d) : Wt Tryd.prog t d :=
  wt_each ht hd (fun n hn => by simpa using List.all_eq_true.1 h n hn)
end Go.Proofs.YtmmoglgagifdfaaDoor
/-
  The given statement of UrlCases: from the walk of UrlCases to the card.
-/
namespace Go.Proofs.YtmmoglgagifdfaaDoor
open Go.ChangeShapes Go.WideShapes Go.ChangeAt Go.RowKit Go.Eng Go.Pct
set_option maxRecDepth 100000
set_option linter.unusedSimpArgs false

theorem urlCases_lists : Lists Rows.urlCasesRow.laid := by constructor <;> kernel_rfl
theorem urlCases_contract (H : Type) (enc : TypeId × Value → H) (W : World) (base : Nat) (args : Array Value) (ds gs : List (DataW H)) (before : List MemPlace)
    (hval : ∀ (j : Nat) t v, Tryd.f6.params[j]? = some t → args[j]? = some v → Value.okWide Tryd.prog W .any base t v)
    (hW : DataW.Whole enc Tryd.prog Tryd.f6.params.toList Rows.urlCasesSpec.vars false W args.toList ds gs before)
    (hz : (DataW.weightsEach Tryd.prog (Tryd.f6.params.toList ++ (OpenSpec.ofChange Rows.urlCasesSpec).bare.plain.varTypes Tryd.prog) (ds ++ gs)).all (· ≤ reachBytes) = true) (hL : laidMetH Tryd.prog Rows.urlCasesRow.laid W) (hsh : W.ShapedOpen Tryd.prog) :
    Calls Tryd.prog 6 args W fun e W' => ∃ v, e = .returned v ∧ Rows.urlCasesSpec.post enc Tryd.prog Tryd.f6 false true false false W args v W' := by
  have hW' := hW
  obtain ⟨p, q, hA0, hV, rfl, hfz, hnd⟩ := hW
  have hAk : DataW.TrodAll enc Tryd.prog W 0 (fun _ => true) true Tryd.f6.params.toList args.toList ds p := hA0
  have hA := hAk
  rw [Tryd.params6] at hA hval hz
  obtain ⟨rfl, rfl⟩ := trodVars_none hV
  obtain ⟨v0, vs0, d0, ds0, p0, q0, hargs, rfl, hq0, h0, r0⟩ := trodAll_cons hA
  obtain ⟨v1, vs1, d1, ds1, p1, q1, rfl, rfl, hq1, h1, r1⟩ := trodAll_cons r0
  obtain ⟨v2, vs2, d2, ds2, p2, q2, rfl, rfl, hq2, h2, r2⟩ := trodAll_cons r1
  obtain ⟨v3, vs3, d3, ds3, p3, q3, rfl, rfl, hq3, h3, r3⟩ := trodAll_cons r2
  obtain ⟨rfl, rfl, hqn⟩ := trodAll_nil r3
  obtain rfl : args = #[v0, v1, v2, v3] := by cases args; simp_all
  obtain ⟨l0, h0⟩ := arg_u8s (hval 0 33 v0 rfl rfl) h0 (sizes_of (j := 0) hz rfl rfl)
  obtain ⟨s1, rfl, ks1⟩ := arg_str (hval 1 9 v1 rfl rfl) h1 (sizes_of (j := 1) hz rfl rfl)
  obtain ⟨l2, h2⟩ := arg_bools (hval 2 34 v2 rfl rfl) h2 (sizes_of (j := 2) hz rfl rfl)
  obtain ⟨b3, rfl⟩ := arg_bool (hval 3 4 v3 rfl rfl)
  have hG := glob_of (W := W) urlCases_lists hL hsh
  have walk := urlCases_ok hG (all_laid W) h0 h2 s1 b3 (Nat.le_trans ks1 (by decide))
  refine walk.mono fun e W' ⟨he, hg⟩ => ?_
  subst he
  have hb := hg.below
  refine ⟨_, rfl, ⟨_, _, _, [], _, [], hW', trodAll_mk1 (shut_bool Tryd.underlying4 _), trodAll_below laidOut hb (by kernel_rfl) hAk (fun x hx => ?_), rfl, hb.frame _, fun h => by cases h⟩⟩
  have := hW'.lt x (by simpa using hx)
  simpa using this

theorem urlCases_laid (os : Os) : laidMet Tryd.prog Rows.urlCasesRow.laid ((laidWorld os Rows.urlCasesRow.laid).forCall (fun _ _ => 0) ⟨#[], #[.slice none 0 0, .string ⟨#[]⟩, .slice none 0 0, .bool false], []⟩).memory :=
  laidMet_of_run' 8 (by kernel_rfl) (by kernel_rfl)
theorem urlCases_reads (os : Os) {H : Type} (enc : TypeId × Value → H) : ∃ places, DataW.whole enc Tryd.prog ((laidWorld os Rows.urlCasesRow.laid).forCall (fun _ _ => 0) ⟨#[], #[.slice none 0 0, .string ⟨#[]⟩, .slice none 0 0, .bool false], []⟩).memory Tryd.f6.params.toList Rows.urlCasesSpec.vars false (#[Value.slice none 0 0, Value.string ⟨#[]⟩, Value.slice none 0 0, Value.bool false] : Array Value).toList 8 = some ([.nil, .lit (.string []), .nil, .lit (.bool false)], [], places) :=
  ⟨[], by kernel_rfl⟩
theorem urlCases_lifted (os : Os) (started : os.Started) (H : Type) (enc : TypeId × Value → H) (F : Stop.Interp) :
    ReturnsInHanded {} Tryd.checked os 6 .any ((OpenSpec.ofChange Rows.urlCasesSpec).preRow enc Tryd.prog Tryd.f6 Rows.urlCasesRow.domain false Rows.urlCasesRow.laid) (((OpenSpec.ofChange Rows.urlCasesSpec).at F).post enc Tryd.prog Tryd.f6 false true false false) := by
  obtain ⟨places, hx⟩ := urlCases_reads os enc
  refine returnsInHanded_of_row (C := Tryd.checked) (s := OpenSpec.ofChange Rows.urlCasesSpec) own started (by kernel_rfl) Tryd.func6
    (witness_row_at (enc := enc) (C := Tryd.checked) false (laidWorld os Rows.urlCasesRow.laid) #[.slice none 0 0, .string ⟨#[]⟩, .slice none 0 0, .bool false] rfl (by kernel_rfl) (by kernel_rfl) (by kernel_rfl)
      (OpenSpec.preRow_of_cond 8 hx (by kernel_rfl) (fun k hk => by cases hk) (by kernel_rfl) (urlCases_laid os))) ?_
  intro W base args ds gs before hval hW _ _ hz hL hsh _
  exact urlCases_contract H enc W base args ds gs before hval hW hz hL hsh
theorem urlCases_said : Rows.UrlCasesSaid :=
  OpenClaim.holds_of_cond 6 Tryd.f6 rfl rfl rfl rfl rfl rfl rfl ⟨rfl, rfl, rfl, rfl, rfl⟩ rfl rfl rfl rfl rfl (by kernel_rfl) Tryd.func6 (by kernel_rfl)
    (of_decide_eq_true (by kernel_rfl)) (by unfold Func.isWrapper; first | (rw [if_pos (by decide +kernel)]; kernel_rfl) | (rw [if_neg (by decide +kernel)]; exact ⟨rfl, rfl⟩))
    (fun os started H enc _ F => by rw [OpenClaim.pre_eq_preRow]; exact urlCases_lifted os started H enc F)
theorem urlCases_plain (f : FuncId) (fn : Func) (hf : Tryd.pinned.checked.prog.funcNamed "matricula/matriculalaw02.UrlCases" = some f) (hfn : Tryd.pinned.checked.prog.funcs[f]? = some fn) :
    false = Tryd.pinned.checked.prog.looks [] ∧ ∀ (j : Nat) t, fn.params[j]? = some t → Tryd.pinned.checked.prog.wantsStandIn t = false := by
  obtain rfl : f = 6 := Option.some.inj ((show Tryd.prog.funcNamed "matricula/matriculalaw02.UrlCases" = some 6 by kernel_rfl).symm.trans hf) |>.symm
  obtain rfl : fn = Tryd.f6 := (Option.some.inj (Tryd.func6.symm.trans hfn)).symm
  refine ⟨by kernel_rfl, fun j t ht => ?_⟩
  rw [Tryd.params6] at ht
  exact noStand t _ (by kernel_rfl) j ht
/-- The given statement. -/
theorem urlCases_card : Rows.UrlCasesCardSaid :=
  Claim7.holds_tied_plain_at .later [] _ _ _ _ urlCases_said (fun _ h => by cases h) (by kernel_rfl) (fun _ h => by cases h) urlCases_row_tie rfl ⟨rfl, rfl⟩ (by kernel_rfl) rfl urlCases_plain (by kernel_rfl)
end Go.Proofs.YtmmoglgagifdfaaDoor
