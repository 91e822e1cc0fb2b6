/-
  The given statement XmlDeepCardSaid of layer texts: it holds of the given program, for every input that the row speaks of; no further condition.
-/
import Derived.Deep.Slices
import Derived.ChangeSame
import Derived.SizedLaws
import Derived.WideShapes
import Derived.DataReads
import Derived.Test.YtnfkbbkojgbbeaaDoorProg
import Derived.Test.YtnfkbbkojgbbeaaDoorCards
import Derived.Test.YtnfkbbkojgbbeaaDoorTie
import Derived.WalkKit
import Derived.ProofKit
import Derived.OpenShut
import Derived.ReadAgain
import Derived.MakeChecks
import Derived.LaidSub
import Derived.Deep.DeepHandedRow
import Derived.Carry
import Derived.SevenTiedAt
import Derived.Lib.LaidTab
import Derived.Lib.LaidU8
import Derived.Test.YtnfkbbkojgbbeaaDoorJFXDeep1
import Derived.Test.YtnfkbbkojgbbeaaDoorJFXDeep2
import Derived.Test.YtnfkbbkojgbbeaaDoorJFXDeep3
/-
  The reader's element.
-/
namespace Go.Proofs.YtnfkbbkojgbbeaaDoor
open Go.Eng Go.Pct Go.Xml Go.Rsp
set_option maxRecDepth 10000
set_option linter.unusedSimpArgs false
set_option linter.unusedVariables false

variable {M : Ghost} {w0 w : World} {bs : List Nat} {H : List (Nat × Obj)}
/-- an element of as many as are left; how many are left then -/
def elemX (D : Nat) (s : List UInt8) (left : Int) : Option (Nd × List UInt8 × Int) := match elemP D s with
  | some (x, r) => if (cntN x : Int) ≤ left then some (x, r, left - cntN x) else none
  | none => none
theorem sp_at (c : UInt8) : ([32, 62] : List UInt8).contains c = isSp c := by revert c; apply all_bytes; decide +kernel
theorem cnt_pos (x : Nd) : 1 ≤ cntN x := by cases x; rw [cntN]; omega
theorem cntL_append (k l : List Nd) : cntL (k ++ l) = cntL k + cntL l := by
  induction k with
  | nil => simp [cntL]
  | cons x k ih => rw [List.cons_append, cntL, cntL, ih]; omega
/-- where a kid can't be, or is more than are left, the whole is none or more than are left -/
theorem kids_fail {e : List UInt8 → Option (Nd × List UInt8)} {F f : Nat} {s0 cur : List UInt8} {acc : List Nd} {left0 : Int} (inv : kidsP e F s0 = (kidsP e (f + 1) cur).map fun y => (acc ++ y.1, y.2)) (hp : [60, 47].isPrefixOf cur = false) (hx : ∀ x r, e cur = some (x, r) → left0 < cntL acc + cntN x) : ∀ k r5, kidsP e F s0 = some (k, r5) → left0 < cntL k := by
  intro k r5 h
  rw [inv, kidsP, if_neg (by rw [hp]; decide)] at h
  cases he : e cur with
  | none => rw [he] at h; cases h
  | some p =>
    obtain ⟨x, r⟩ := p
    rw [he] at h
    simp only at h
    cases hk : kidsP e f r with
    | none => rw [hk] at h; cases h
    | some q =>
      rw [hk] at h
      simp only [Option.map_some, Option.some.injEq, Prod.mk.injEq] at h
      have := hx x r he
      rw [← h.1, cntL_append, cntL]
      omega
theorem esc_long (u : List UInt8) : u.length ≤ (esc u).length := by
  have key : ∀ c : UInt8, 1 ≤ (esc1 c).length := by apply all_bytes; decide +kernel
  unfold esc
  induction u with
  | nil => simp
  | cons c u ih => rw [List.flatMap_cons, List.length_append, List.length_cons]; have := key c; omega
theorem attrT_small : ∀ {l : List Pr} {p : Pr}, p ∈ l → p.1.length + p.2.length ≤ (attrT l).length
  | q :: l, p, h => by
    unfold attrT
    rw [List.flatMap_cons, List.length_append]
    rcases List.mem_cons.1 h with rfl | h
    · have := esc_long p.2
      simp only [List.length_append, List.length_cons, List.length_nil]
      omega
    · have := attrT_small h
      unfold attrT at this
      omega
/-- as far as the kids have been read -/
structure KQ (D : Nat) (M1 : Ghost) (s0 : List UInt8) (left0 : Int) (w0 : World) where
  f : Nat
  cur : List UInt8
  acc : List Nd
  v : Value
  Hs : List (Nat × Obj)
  xs : List Value
  M' : Ghost
  fuel : cur.length < f
  len : acc.length + cur.length ≤ s0.length
  inv : kidsP (elemP D) (s0.length + 1) s0 = (kidsP (elemP D) f cur).map fun y => (acc ++ y.1, y.2)
  own : OwnS 31 4 v Hs xs
  xlen : xs.length = acc.length * 4
  nodes : ∀ i (hi : i < acc.length), NodeC M' D acc[i] ((xs.drop (i * 4)).take 4)
  left : (cntL acc : Int) ≤ left0
  since : Since w0 M1 M'
/-- what an element's reading yields -/
def ElemIs (D : Nat) (s : List UInt8) (left : Int) (M' : Ghost) (s' : List UInt8) (left' : Int) (v : Value) : Prop :=
  match elemX D s left with
  | some (x, r, l') => ∃ vs : List Value, v = .tuple #[.agg vs.toArray, .bool true] ∧ NodeC M' D x vs ∧ s' = r ∧ left' = l'
  | none => ∃ n a1 l1 c1 t a2 l2 c2, v = .tuple #[.agg #[str n, .slice a1 l1 c1, str t, .slice a2 l2 c2], .bool false]
theorem elemIs_no {D : Nat} {s s' : List UInt8} {left left' : Int} {M' : Ghost} {n : List UInt8} {a1 l1 c1 t a2 l2 c2} (h : elemX D s left = none) : ElemIs D s left M' s' left' (.tuple #[.agg #[str n, .slice a1 l1 c1, str t, .slice a2 l2 c2], .bool false]) := by
  unfold ElemIs; rw [h]; exact ⟨_, _, _, _, _, _, _, _, rfl⟩
set_option maxHeartbeats 4000000 in
theorem relem_ok : ∀ (D : Nat) (deep : Int), deep = 9 - (D : Int) → D ≤ 8 → ∀ (M : Ghost) (H : List (Nat × Obj)) (b : Nat) (s : List UInt8) (left : Int) (w0 w : World), Glob M → s.length ≤ 100000000 → 0 ≤ left → left ≤ 200 → St w0 [] ((b, readO s left) :: H) M w → Calls Tryd.prog 29 #[.pointer (some ⟨b, 0, none⟩), i64 deep] w (RetX w0 H M b (ElemIs D s left))
  | 0, deep, hD, hD8 => by
    intro M H b s left w0 w hG hs hl0 hl2 hw
    refine calls_lent (C := St w0 [] ((b, readO s left) :: H) M) (l := [.pointer (some ⟨b, 0, none⟩), i64 deep]) hw Tryd.func29 rfl rfl rfl (E0 := [(0, true, .pointer (some ⟨b, 0, none⟩)), (1, true, i64 deep)]) (params_cons rfl (params_cons rfl (params_nil _))) ?_
    clear hw
    unfold readO
    obtain rfl : deep = 9 := by omega
    repeat' (first | (first | refine wc_seq ?_ | refine wc_region ?_ | refine wl_nil ?_ | refine wn_seq ?_ | refine wn_blk ?_ | refine wc_skip ?_ | refine wc_scope ?_ | refine wc_label ?_ | refine wn_noGoto ?_ | refine wc_block ?_ | refine wc_exit rfl ?_ | (show WL _ _ (_ :: _) _ _ _ _; first | refine yl_v rfl rfl rfl ?_ | refine wl_v rfl rfl rfl (by first | (show OpV _ _ _ _ (Oper.mk _ (Op.call _) _ _ _ _) _ _; exact ov_off (v := .bool false) rfl) | fail) ?_ | refine xl_alloc (fun _ => ?_) | refine xl_box rfl (fun _ => ?_) | refine xl_store rfl rfl ?_ | refine xl_buildSlice rfl (fun _ => ?_) | refine wl_makeMap rfl rfl (fun _ => ?_) | refine wl_insert rfl rfl rfl rfl rfl rfl (by first | exact rfl | exact trivial) (by first | exact Upd.here | exact Upd.there Upd.here | exact Upd.there (Upd.there Upd.here) | exact Upd.there (Upd.there (Upd.there Upd.here)) | exact Upd.there (Upd.there (Upd.there (Upd.there Upd.here))) | exact Upd.app _ (Upd.here) | exact Upd.app _ (Upd.there Upd.here) | exact Upd.app _ (Upd.there (Upd.there Upd.here)) | exact Upd.app _ (Upd.there (Upd.there (Upd.there Upd.here))) | exact Upd.there (Upd.app _ (Upd.here)) | exact Upd.there (Upd.app _ (Upd.there Upd.here)) | exact Upd.there (Upd.app _ (Upd.there (Upd.there Upd.here))) | exact Upd.there (Upd.app _ (Upd.there (Upd.there (Upd.there Upd.here)))) | exact Upd.there (Upd.there (Upd.app _ (Upd.here))) | exact Upd.there (Upd.there (Upd.app _ (Upd.there Upd.here))) | exact Upd.there (Upd.there (Upd.app _ (Upd.there (Upd.there Upd.here))))) (by rfl) ?_) | refine wc_ret rfl ?_) | (show WC _ (Code.cond _ _ _) _ _ _ _; (refine wc_cond rfl (fun hc => ?_) (fun hc => ?_) <;> (try (simp only [decide_eq_true_eq, decide_eq_false_iff_not, Bool.and_eq_true, Bool.or_eq_true, Bool.and_eq_false_iff, Bool.or_eq_false_iff, Bool.not_eq_true', Bool.not_eq_false', Int.not_lt, Int.not_le] at hc)) <;> (try (exfalso; first | omega | contradiction)))))
    exact wrx_layC2 (Hn := []) (l := [str [], .slice none 0 0, str [], .slice none 0 0]) (s' := s) (left' := left - 1) rfl rfl rfl rfl (List.Mem.head _) rfl Since.refl (List.Sublist.cons _ (List.Sublist.refl _)) (elemIs_no rfl)
  | D + 1, deep, hD, hD8 => by
    intro M H b s left w0 w hG hs hl0 hl2 hw
    refine calls_lent (C := St w0 [] ((b, readO s left) :: H) M) (l := [.pointer (some ⟨b, 0, none⟩), i64 deep]) hw Tryd.func29 rfl rfl rfl (E0 := [(0, true, .pointer (some ⟨b, 0, none⟩)), (1, true, i64 deep)]) (params_cons rfl (params_cons rfl (params_nil _))) ?_
    clear hw
    unfold readO
    by_cases h0 : left - 1 < 0
    · have hn : elemX (D + 1) s left = none := by
        unfold elemX
        cases he : elemP (D + 1) s with
        | none => rfl
        | some p =>
          have := cnt_pos p.1
          show (if (cntN p.1 : Int) ≤ left then _ else none) = none
          rw [if_neg (by omega)]
      repeat' (first | (first | refine wc_seq ?_ | refine wc_region ?_ | refine wl_nil ?_ | refine wn_seq ?_ | refine wn_blk ?_ | refine wc_skip ?_ | refine wc_scope ?_ | refine wc_label ?_ | refine wn_noGoto ?_ | refine wc_block ?_ | refine wc_exit rfl ?_ | (show WL _ _ (_ :: _) _ _ _ _; first | refine yl_v rfl rfl rfl ?_ | refine wl_v rfl rfl rfl (by first  | fail) ?_ | refine xl_alloc (fun _ => ?_) | refine xl_box rfl (fun _ => ?_) | refine xl_store rfl rfl ?_ | refine xl_buildSlice rfl (fun _ => ?_) | refine wl_makeMap rfl rfl (fun _ => ?_) | refine wl_insert rfl rfl rfl rfl rfl rfl (by first | exact rfl | exact trivial) (by first | exact Upd.here | exact Upd.there Upd.here | exact Upd.there (Upd.there Upd.here) | exact Upd.there (Upd.there (Upd.there Upd.here)) | exact Upd.there (Upd.there (Upd.there (Upd.there Upd.here))) | exact Upd.app _ (Upd.here) | exact Upd.app _ (Upd.there Upd.here) | exact Upd.app _ (Upd.there (Upd.there Upd.here)) | exact Upd.app _ (Upd.there (Upd.there (Upd.there Upd.here))) | exact Upd.there (Upd.app _ (Upd.here)) | exact Upd.there (Upd.app _ (Upd.there Upd.here)) | exact Upd.there (Upd.app _ (Upd.there (Upd.there Upd.here))) | exact Upd.there (Upd.app _ (Upd.there (Upd.there (Upd.there Upd.here)))) | exact Upd.there (Upd.there (Upd.app _ (Upd.here))) | exact Upd.there (Upd.there (Upd.app _ (Upd.there Upd.here))) | exact Upd.there (Upd.there (Upd.app _ (Upd.there (Upd.there Upd.here))))) (by rfl) ?_) | refine wc_ret rfl ?_) | (show WC _ (Code.cond _ _ _) _ _ _ _; (refine wc_cond rfl (fun hc => ?_) (fun hc => ?_) <;> (try (simp only [decide_eq_true_eq, decide_eq_false_iff_not, Bool.and_eq_true, Bool.or_eq_true, Bool.and_eq_false_iff, Bool.or_eq_false_iff, Bool.not_eq_true', Bool.not_eq_false', Int.not_lt, Int.not_le] at hc)) <;> (try (exfalso; first | omega | contradiction)))))
      rename_i b4
      refine wl_weak (E' := [(28, true, .bool true), (0, true, .pointer (some ⟨b, 0, none⟩)), (1, true, i64 deep), (4, true, .pointer (some ⟨b4, 0, none⟩))]) (Eng.Sub.cons (by show some (true, Value.bool (decide (8 < deep) || decide (left - 1 < 0))) = _; rw [decide_eq_true h0, Bool.or_true]) (by first | exact Sub.nil _ | (repeat (first | exact Sub.nil _ | refine Sub.cons (by first | rfl | (simp [look]; done)) ?_)))) (fun _ h => h) ?_
      repeat' (first | (first | refine wc_seq ?_ | refine wc_region ?_ | refine wl_nil ?_ | refine wn_seq ?_ | refine wn_blk ?_ | refine wc_skip ?_ | refine wc_scope ?_ | refine wc_label ?_ | refine wn_noGoto ?_ | refine wc_block ?_ | refine wc_exit rfl ?_ | (show WL _ _ (_ :: _) _ _ _ _; first | refine yl_v rfl rfl rfl ?_ | refine wl_v rfl rfl rfl (by first | (show OpV _ _ _ _ (Oper.mk _ (Op.call _) _ _ _ _) _ _; exact ov_off (v := .bool false) rfl) | fail) ?_ | refine xl_alloc (fun _ => ?_) | refine xl_box rfl (fun _ => ?_) | refine xl_store rfl rfl ?_ | refine xl_buildSlice rfl (fun _ => ?_) | refine wl_makeMap rfl rfl (fun _ => ?_) | refine wl_insert rfl rfl rfl rfl rfl rfl (by first | exact rfl | exact trivial) (by first | exact Upd.here | exact Upd.there Upd.here | exact Upd.there (Upd.there Upd.here) | exact Upd.there (Upd.there (Upd.there Upd.here)) | exact Upd.there (Upd.there (Upd.there (Upd.there Upd.here))) | exact Upd.app _ (Upd.here) | exact Upd.app _ (Upd.there Upd.here) | exact Upd.app _ (Upd.there (Upd.there Upd.here)) | exact Upd.app _ (Upd.there (Upd.there (Upd.there Upd.here))) | exact Upd.there (Upd.app _ (Upd.here)) | exact Upd.there (Upd.app _ (Upd.there Upd.here)) | exact Upd.there (Upd.app _ (Upd.there (Upd.there Upd.here))) | exact Upd.there (Upd.app _ (Upd.there (Upd.there (Upd.there Upd.here)))) | exact Upd.there (Upd.there (Upd.app _ (Upd.here))) | exact Upd.there (Upd.there (Upd.app _ (Upd.there Upd.here))) | exact Upd.there (Upd.there (Upd.app _ (Upd.there (Upd.there Upd.here))))) (by rfl) ?_) | refine wc_ret rfl ?_) | (show WC _ (Code.cond _ _ _) _ _ _ _; (refine wc_cond rfl (fun hc => ?_) (fun hc => ?_) <;> (try (simp only [decide_eq_true_eq, decide_eq_false_iff_not, Bool.and_eq_true, Bool.or_eq_true, Bool.and_eq_false_iff, Bool.or_eq_false_iff, Bool.not_eq_true', Bool.not_eq_false', Int.not_lt, Int.not_le] at hc)) <;> (try (exfalso; first | omega | contradiction)))))
      exact wrx_layC2 (Hn := []) (l := [str [], .slice none 0 0, str [], .slice none 0 0]) (s' := s) (left' := left - 1) rfl rfl rfl rfl (List.Mem.head _) rfl Since.refl (List.Sublist.cons _ (List.Sublist.refl _)) (elemIs_no hn)
    · repeat' (first | (first | refine wc_seq ?_ | refine wc_region ?_ | refine wl_nil ?_ | refine wn_seq ?_ | refine wn_blk ?_ | refine wc_skip ?_ | refine wc_scope ?_ | refine wc_label ?_ | refine wn_noGoto ?_ | refine wc_block ?_ | refine wc_exit rfl ?_ | (show WL _ _ (_ :: _) _ _ _ _; first | refine yl_v rfl rfl rfl ?_ | refine wl_v rfl rfl rfl (by first  | fail) ?_ | refine xl_alloc (fun _ => ?_) | refine xl_box rfl (fun _ => ?_) | refine xl_store rfl rfl ?_ | refine xl_buildSlice rfl (fun _ => ?_) | refine wl_makeMap rfl rfl (fun _ => ?_) | refine wl_insert rfl rfl rfl rfl rfl rfl (by first | exact rfl | exact trivial) (by first | exact Upd.here | exact Upd.there Upd.here | exact Upd.there (Upd.there Upd.here) | exact Upd.there (Upd.there (Upd.there Upd.here)) | exact Upd.there (Upd.there (Upd.there (Upd.there Upd.here))) | exact Upd.app _ (Upd.here) | exact Upd.app _ (Upd.there Upd.here) | exact Upd.app _ (Upd.there (Upd.there Upd.here)) | exact Upd.app _ (Upd.there (Upd.there (Upd.there Upd.here))) | exact Upd.there (Upd.app _ (Upd.here)) | exact Upd.there (Upd.app _ (Upd.there Upd.here)) | exact Upd.there (Upd.app _ (Upd.there (Upd.there Upd.here))) | exact Upd.there (Upd.app _ (Upd.there (Upd.there (Upd.there Upd.here)))) | exact Upd.there (Upd.there (Upd.app _ (Upd.here))) | exact Upd.there (Upd.there (Upd.app _ (Upd.there Upd.here))) | exact Upd.there (Upd.there (Upd.app _ (Upd.there (Upd.there Upd.here))))) (by rfl) ?_) | refine wc_ret rfl ?_) | (show WC _ (Code.cond _ _ _) _ _ _ _; (refine wc_cond rfl (fun hc => ?_) (fun hc => ?_) <;> (try (simp only [decide_eq_true_eq, decide_eq_false_iff_not, Bool.and_eq_true, Bool.or_eq_true, Bool.and_eq_false_iff, Bool.or_eq_false_iff, Bool.not_eq_true', Bool.not_eq_false', Int.not_lt, Int.not_le] at hc)) <;> (try (exfalso; first | omega | contradiction)))))
      rename_i b4
      have h8 : ¬ 8 < deep := by omega
      refine wl_weak (E' := [(28, true, .bool false), (29, true, .pointer (some ⟨b, 0, none⟩)), (0, true, .pointer (some ⟨b, 0, none⟩)), (1, true, i64 deep), (4, true, .pointer (some ⟨b4, 0, none⟩))]) (C' := St w0 [] ((b, readO s (left - 1)) :: (b4, .cells [str [], .slice none 0 0, str [], .slice none 0 0].toArray 31 (0, 0)) :: H) M) (Eng.Sub.cons (by show some (true, Value.bool (decide (8 < deep) || decide (left - 1 < 0))) = _; rw [decide_eq_false h8, decide_eq_false h0]; rfl) (Eng.Sub.cons (by show some ((bif true then (decide (8 < deep) || decide (left - 1 < 0)) == false else false), Value.pointer (some ⟨b, 0, none⟩)) = _; rw [decide_eq_false h8, decide_eq_false h0]; rfl) (by first | exact Sub.nil _ | (repeat (first | exact Sub.nil _ | refine Sub.cons (by first | rfl | (simp [look]; done)) ?_))))) (fun _ h => h.perm (List.Perm.swap _ _ _)) ?_
      rcases pre1 (d := 60) (s := s) with ⟨hp, r1, rfl⟩ | ⟨hp, hno⟩
      · refine wl_callL rfl Tryd.call41 rfl rfl rfl rfl (fun w hw => take_yes (x := [60]) (r := r1) rfl hw) ?_
        have hrl := rs_length isSp r1
        simp only [List.length_cons] at hs
        repeat' (first | (first | refine wc_seq ?_ | refine wc_region ?_ | refine wl_nil ?_ | refine wn_seq ?_ | refine wn_blk ?_ | refine wc_skip ?_ | refine wc_scope ?_ | refine wc_label ?_ | refine wn_noGoto ?_ | refine wc_block ?_ | refine wc_exit rfl ?_ | (show WL _ _ (_ :: _) _ _ _ _; first | refine yl_v rfl rfl rfl ?_ | refine wl_v rfl rfl rfl (by first  | fail) ?_ | refine xl_alloc (fun _ => ?_) | refine xl_box rfl (fun _ => ?_) | refine xl_store rfl rfl ?_ | refine xl_buildSlice rfl (fun _ => ?_) | refine wl_makeMap rfl rfl (fun _ => ?_) | refine wl_insert rfl rfl rfl rfl rfl rfl (by first | exact rfl | exact trivial) (by first | exact Upd.here | exact Upd.there Upd.here | exact Upd.there (Upd.there Upd.here) | exact Upd.there (Upd.there (Upd.there Upd.here)) | exact Upd.there (Upd.there (Upd.there (Upd.there Upd.here))) | exact Upd.app _ (Upd.here) | exact Upd.app _ (Upd.there Upd.here) | exact Upd.app _ (Upd.there (Upd.there Upd.here)) | exact Upd.app _ (Upd.there (Upd.there (Upd.there Upd.here))) | exact Upd.there (Upd.app _ (Upd.here)) | exact Upd.there (Upd.app _ (Upd.there Upd.here)) | exact Upd.there (Upd.app _ (Upd.there (Upd.there Upd.here))) | exact Upd.there (Upd.app _ (Upd.there (Upd.there (Upd.there Upd.here)))) | exact Upd.there (Upd.there (Upd.app _ (Upd.here))) | exact Upd.there (Upd.there (Upd.app _ (Upd.there Upd.here))) | exact Upd.there (Upd.there (Upd.app _ (Upd.there (Upd.there Upd.here))))) (by rfl) ?_) | refine wc_ret rfl ?_) | (show WC _ (Code.cond _ _ _) _ _ _ _; (refine wc_cond rfl (fun hc => ?_) (fun hc => ?_) <;> (try (simp only [decide_eq_true_eq, decide_eq_false_iff_not, Bool.and_eq_true, Bool.or_eq_true, Bool.and_eq_false_iff, Bool.or_eq_false_iff, Bool.not_eq_true', Bool.not_eq_false', Int.not_lt, Int.not_le] at hc)) <;> (try (exfalso; first | omega | contradiction)))))
        refine wl_callL rfl Tryd.call42 rfl rfl rfl rfl (fun w hw => word_ok (s := r1) isSp sp_at (by omega) (by decide) (by decide) (by decide) hw) ?_
        repeat' (first | (first | refine wc_seq ?_ | refine wc_region ?_ | refine wl_nil ?_ | refine wn_seq ?_ | refine wn_blk ?_ | refine wc_skip ?_ | refine wc_scope ?_ | refine wc_label ?_ | refine wn_noGoto ?_ | refine wc_block ?_ | refine wc_exit rfl ?_ | (show WL _ _ (_ :: _) _ _ _ _; first | refine yl_v rfl rfl rfl ?_ | refine wl_v rfl rfl rfl (by first  | fail) ?_ | refine xl_alloc (fun _ => ?_) | refine xl_box rfl (fun _ => ?_) | refine xl_store rfl rfl ?_ | refine xl_buildSlice rfl (fun _ => ?_) | refine wl_makeMap rfl rfl (fun _ => ?_) | refine wl_insert rfl rfl rfl rfl rfl rfl (by first | exact rfl | exact trivial) (by first | exact Upd.here | exact Upd.there Upd.here | exact Upd.there (Upd.there Upd.here) | exact Upd.there (Upd.there (Upd.there Upd.here)) | exact Upd.there (Upd.there (Upd.there (Upd.there Upd.here))) | exact Upd.app _ (Upd.here) | exact Upd.app _ (Upd.there Upd.here) | exact Upd.app _ (Upd.there (Upd.there Upd.here)) | exact Upd.app _ (Upd.there (Upd.there (Upd.there Upd.here))) | exact Upd.there (Upd.app _ (Upd.here)) | exact Upd.there (Upd.app _ (Upd.there Upd.here)) | exact Upd.there (Upd.app _ (Upd.there (Upd.there Upd.here))) | exact Upd.there (Upd.app _ (Upd.there (Upd.there (Upd.there Upd.here)))) | exact Upd.there (Upd.there (Upd.app _ (Upd.here))) | exact Upd.there (Upd.there (Upd.app _ (Upd.there Upd.here))) | exact Upd.there (Upd.there (Upd.app _ (Upd.there (Upd.there Upd.here))))) (by rfl) ?_) | refine wc_ret rfl ?_) | (show WC _ (Code.cond _ _ _) _ _ _ _; (refine wc_cond rfl (fun hc => ?_) (fun hc => ?_) <;> (try (simp only [decide_eq_true_eq, decide_eq_false_iff_not, Bool.and_eq_true, Bool.or_eq_true, Bool.and_eq_false_iff, Bool.or_eq_false_iff, Bool.not_eq_true', Bool.not_eq_false', Int.not_lt, Int.not_le] at hc)) <;> (try (exfalso; first | omega | contradiction)))))
        rename_i b6
        have hel : elemP (D + 1) (60 :: r1) = match headP (rs isSp r1) with
          | none => none
          | some (a, t, r4) => match kidsP (elemP D) (r4.length + 1) r4 with
            | none => none
            | some (k, r5) => if (closeT (wd isSp r1)).isPrefixOf r5 = true then some (.mk (wd isSp r1) a t k, r5.drop (closeT (wd isSp r1)).length) else none := rfl
        generalize wd isSp r1 = nm at *
        generalize rs isSp r1 = r2 at *
        refine wl_weak (C' := St w0 [] ((b, readO r2 (left - 1)) :: (b6, .cells [str nm, .slice none 0 0, str [], .slice none 0 0].toArray 31 (0, 0)) :: (b4, .cells [str [], .slice none 0 0, str [], .slice none 0 0].toArray 31 (0, 0)) :: H) M) (Eng.Sub.refl _) (fun _ h => h.perm (List.Perm.swap _ _ _)) ?_
        refine wl_callX rfl Tryd.call43 rfl rfl rfl rfl (fun w hw => rattrs_ok hG (by omega) hw) (fun v M1 s1 left1 hm1 hn1 hR => ?_)
        unfold AttrsIs at hR
        cases hat : attrsP (r2.length + 1) r2 with
        | none =>
          rw [hat] at hR
          simp only at hR
          subst hR
          have hn : elemX (D + 1) (60 :: r1) left = none := by
            unfold elemX; rw [hel]; unfold headP; rw [hat]
          repeat' (first | (first | refine wc_seq ?_ | refine wc_region ?_ | refine wl_nil ?_ | refine wn_seq ?_ | refine wn_blk ?_ | refine wc_skip ?_ | refine wc_scope ?_ | refine wc_label ?_ | refine wn_noGoto ?_ | refine wc_block ?_ | refine wc_exit rfl ?_ | (show WL _ _ (_ :: _) _ _ _ _; first | refine yl_v rfl rfl rfl ?_ | refine wl_v rfl rfl rfl (by first | (show OpV _ _ _ _ (Oper.mk _ (Op.call _) _ _ _ _) _ _; exact ov_off (v := .bool false) rfl) | fail) ?_ | refine xl_alloc (fun _ => ?_) | refine xl_box rfl (fun _ => ?_) | refine xl_store rfl rfl ?_ | refine xl_buildSlice rfl (fun _ => ?_) | refine wl_makeMap rfl rfl (fun _ => ?_) | refine wl_insert rfl rfl rfl rfl rfl rfl (by first | exact rfl | exact trivial) (by first | exact Upd.here | exact Upd.there Upd.here | exact Upd.there (Upd.there Upd.here) | exact Upd.there (Upd.there (Upd.there Upd.here)) | exact Upd.there (Upd.there (Upd.there (Upd.there Upd.here))) | exact Upd.app _ (Upd.here) | exact Upd.app _ (Upd.there Upd.here) | exact Upd.app _ (Upd.there (Upd.there Upd.here)) | exact Upd.app _ (Upd.there (Upd.there (Upd.there Upd.here))) | exact Upd.there (Upd.app _ (Upd.here)) | exact Upd.there (Upd.app _ (Upd.there Upd.here)) | exact Upd.there (Upd.app _ (Upd.there (Upd.there Upd.here))) | exact Upd.there (Upd.app _ (Upd.there (Upd.there (Upd.there Upd.here)))) | exact Upd.there (Upd.there (Upd.app _ (Upd.here))) | exact Upd.there (Upd.there (Upd.app _ (Upd.there Upd.here))) | exact Upd.there (Upd.there (Upd.app _ (Upd.there (Upd.there Upd.here))))) (by rfl) ?_) | refine wc_ret rfl ?_) | (show WC _ (Code.cond _ _ _) _ _ _ _; (refine wc_cond rfl (fun hc => ?_) (fun hc => ?_) <;> (try (simp only [decide_eq_true_eq, decide_eq_false_iff_not, Bool.and_eq_true, Bool.or_eq_true, Bool.and_eq_false_iff, Bool.or_eq_false_iff, Bool.not_eq_true', Bool.not_eq_false', Int.not_lt, Int.not_le] at hc)) <;> (try (exfalso; first | omega | contradiction)))))
          exact wrx_layC2 (Hn := []) (l := [str [], .slice none 0 0, str [], .slice none 0 0]) rfl rfl rfl rfl (by first | exact List.Mem.head _ | exact List.Mem.tail _ (List.Mem.head _) | exact List.Mem.tail _ (List.Mem.tail _ (List.Mem.head _)) | exact List.Mem.tail _ (List.Mem.tail _ (List.Mem.tail _ (List.Mem.head _))) | exact List.Mem.tail _ (List.Mem.tail _ (List.Mem.tail _ (List.Mem.tail _ (List.Mem.head _)))) | exact List.mem_append_right _ (List.Mem.head _) | exact List.mem_append_right _ (List.Mem.tail _ (List.Mem.head _)) | exact List.mem_append_right _ (List.Mem.tail _ (List.Mem.tail _ (List.Mem.head _))) | exact List.mem_append_right _ (List.Mem.tail _ (List.Mem.tail _ (List.Mem.tail _ (List.Mem.head _)))) | exact List.Mem.tail _ (List.mem_append_right _ (List.Mem.head _)) | exact List.Mem.tail _ (List.mem_append_right _ (List.Mem.tail _ (List.Mem.head _))) | exact List.Mem.tail _ (List.mem_append_right _ (List.Mem.tail _ (List.Mem.tail _ (List.Mem.head _)))) | exact List.Mem.tail _ (List.mem_append_right _ (List.Mem.tail _ (List.Mem.tail _ (List.Mem.tail _ (List.Mem.head _))))) | exact List.Mem.tail _ (List.Mem.tail _ (List.mem_append_right _ (List.Mem.head _))) | exact List.Mem.tail _ (List.Mem.tail _ (List.mem_append_right _ (List.Mem.tail _ (List.Mem.head _)))) | exact List.Mem.tail _ (List.Mem.tail _ (List.mem_append_right _ (List.Mem.tail _ (List.Mem.tail _ (List.Mem.head _)))))) rfl (Since.refl.step hm1 hn1) (List.Sublist.cons_cons _ (List.Sublist.cons _ (List.Sublist.cons _ (List.Sublist.refl _)))) (elemIs_no hn)
        | some lr =>
          obtain ⟨l, r3⟩ := lr
          rw [hat] at hR
          simp only at hR
          obtain ⟨hv, rfl, hsl, e1, e2⟩ := hR
          subst e1 e2
          have hal := attrsP_len hat
          have hs2 : r2.length ≤ 100000000 := by omega
          have hsl' := hsl
          obtain ⟨va, vcap, vb, vo, vcs, vT, vfz, rfl, _⟩ := hsl'.open
          have hM1 : Since w0 M M1 := Since.refl.step hm1 hn1
          have hG1 : Glob M1 := hG.mono hm1
          have failH : headP r2 = none → elemX (D + 1) (60 :: r1) left = none := fun h => by unfold elemX; rw [hel, h]
          have hsub : ∀ {x y z : Nat × Obj}, List.Sublist (([] : List (Nat × Obj)) ++ (x :: H)) (x :: y :: z :: H) := List.Sublist.cons_cons _ (List.Sublist.cons _ (List.Sublist.cons _ (List.Sublist.refl _)))
          repeat' (first | (first | refine wc_seq ?_ | refine wc_region ?_ | refine wl_nil ?_ | refine wn_seq ?_ | refine wn_blk ?_ | refine wc_skip ?_ | refine wc_scope ?_ | refine wc_label ?_ | refine wn_noGoto ?_ | refine wc_block ?_ | refine wc_exit rfl ?_ | (show WL _ _ (_ :: _) _ _ _ _; first | refine yl_v rfl rfl rfl ?_ | refine wl_v rfl rfl rfl (by first  | fail) ?_ | refine xl_alloc (fun _ => ?_) | refine xl_box rfl (fun _ => ?_) | refine xl_store rfl rfl ?_ | refine xl_buildSlice rfl (fun _ => ?_) | refine wl_makeMap rfl rfl (fun _ => ?_) | refine wl_insert rfl rfl rfl rfl rfl rfl (by first | exact rfl | exact trivial) (by first | exact Upd.here | exact Upd.there Upd.here | exact Upd.there (Upd.there Upd.here) | exact Upd.there (Upd.there (Upd.there Upd.here)) | exact Upd.there (Upd.there (Upd.there (Upd.there Upd.here))) | exact Upd.app _ (Upd.here) | exact Upd.app _ (Upd.there Upd.here) | exact Upd.app _ (Upd.there (Upd.there Upd.here)) | exact Upd.app _ (Upd.there (Upd.there (Upd.there Upd.here))) | exact Upd.there (Upd.app _ (Upd.here)) | exact Upd.there (Upd.app _ (Upd.there Upd.here)) | exact Upd.there (Upd.app _ (Upd.there (Upd.there Upd.here))) | exact Upd.there (Upd.app _ (Upd.there (Upd.there (Upd.there Upd.here)))) | exact Upd.there (Upd.there (Upd.app _ (Upd.here))) | exact Upd.there (Upd.there (Upd.app _ (Upd.there Upd.here))) | exact Upd.there (Upd.there (Upd.app _ (Upd.there (Upd.there Upd.here))))) (by rfl) ?_) | refine wc_ret rfl ?_) | (show WC _ (Code.cond _ _ _) _ _ _ _; (refine wc_cond rfl (fun hc => ?_) (fun hc => ?_) <;> (try (simp only [decide_eq_true_eq, decide_eq_false_iff_not, Bool.and_eq_true, Bool.or_eq_true, Bool.and_eq_false_iff, Bool.or_eq_false_iff, Bool.not_eq_true', Bool.not_eq_false', Int.not_lt, Int.not_le] at hc)) <;> (try (exfalso; first | omega | contradiction)))))
          rcases pre1 (d := 62) (s := s1) with ⟨hp3, r3, rfl⟩ | ⟨hp3, hno3⟩
          · refine wl_callL rfl Tryd.call41 rfl rfl rfl rfl (fun w hw => take_yes (x := [62]) (r := r3) rfl hw) ?_
            have hr3 := rs_length (isC 60) r3
            simp only [List.length_cons] at hal
            repeat' (first | (first | refine wc_seq ?_ | refine wc_region ?_ | refine wl_nil ?_ | refine wn_seq ?_ | refine wn_blk ?_ | refine wc_skip ?_ | refine wc_scope ?_ | refine wc_label ?_ | refine wn_noGoto ?_ | refine wc_block ?_ | refine wc_exit rfl ?_ | (show WL _ _ (_ :: _) _ _ _ _; first | refine yl_v rfl rfl rfl ?_ | refine wl_v rfl rfl rfl (by first  | fail) ?_ | refine xl_alloc (fun _ => ?_) | refine xl_box rfl (fun _ => ?_) | refine xl_store rfl rfl ?_ | refine xl_buildSlice rfl (fun _ => ?_) | refine wl_makeMap rfl rfl (fun _ => ?_) | refine wl_insert rfl rfl rfl rfl rfl rfl (by first | exact rfl | exact trivial) (by first | exact Upd.here | exact Upd.there Upd.here | exact Upd.there (Upd.there Upd.here) | exact Upd.there (Upd.there (Upd.there Upd.here)) | exact Upd.there (Upd.there (Upd.there (Upd.there Upd.here))) | exact Upd.app _ (Upd.here) | exact Upd.app _ (Upd.there Upd.here) | exact Upd.app _ (Upd.there (Upd.there Upd.here)) | exact Upd.app _ (Upd.there (Upd.there (Upd.there Upd.here))) | exact Upd.there (Upd.app _ (Upd.here)) | exact Upd.there (Upd.app _ (Upd.there Upd.here)) | exact Upd.there (Upd.app _ (Upd.there (Upd.there Upd.here))) | exact Upd.there (Upd.app _ (Upd.there (Upd.there (Upd.there Upd.here)))) | exact Upd.there (Upd.there (Upd.app _ (Upd.here))) | exact Upd.there (Upd.there (Upd.app _ (Upd.there Upd.here))) | exact Upd.there (Upd.there (Upd.app _ (Upd.there (Upd.there Upd.here))))) (by rfl) ?_) | refine wc_ret rfl ?_) | (show WC _ (Code.cond _ _ _) _ _ _ _; (refine wc_cond rfl (fun hc => ?_) (fun hc => ?_) <;> (try (simp only [decide_eq_true_eq, decide_eq_false_iff_not, Bool.and_eq_true, Bool.or_eq_true, Bool.and_eq_false_iff, Bool.or_eq_false_iff, Bool.not_eq_true', Bool.not_eq_false', Int.not_lt, Int.not_le] at hc)) <;> (try (exfalso; first | omega | contradiction)))))
            refine wl_callL rfl Tryd.call42 rfl rfl rfl rfl (fun w hw => word_ok (s := r3) (isC 60) (isC_at 60) (by omega) (by decide) (by decide) (by decide) hw) ?_
            have hun := fun {w : World} (hw : Laid M1 w) => unescape_ok hG1 hw (wd (isC 60) r3) (by omega)
            cases hu : unescQ (wd (isC 60) r3) with
            | none =>
              have hn := failH (by unfold headP; rw [hat]; simp only [hu])
              have hun : ∀ {w : World}, Laid M1 w → Calls Tryd.prog 9 #[str (wd (isC 60) r3)] w (RetE w (.tuple #[str [], i64 10])) := fun h => by have := hun h; rw [hu] at this; exact this
              repeat' (first | (first | refine wc_seq ?_ | refine wc_region ?_ | refine wl_nil ?_ | refine wn_seq ?_ | refine wn_blk ?_ | refine wc_skip ?_ | refine wc_scope ?_ | refine wc_label ?_ | refine wn_noGoto ?_ | refine wc_block ?_ | refine wc_exit rfl ?_ | (show WL _ _ (_ :: _) _ _ _ _; first | refine yl_v rfl rfl rfl ?_ | refine wl_v rfl rfl rfl (by first | ((show OpV _ _ _ _ (Oper.mk _ (Op.call ⟨.value (.func 9), _, _⟩) _ _ _ _) _ _; exact ov_call Tryd.call9 rfl (by intro himp; first | rfl | (simp_all; done)) (by rfl) (fun _ _ h k => h.ext k) (fun hcg w hw => hun hw.laid))) | fail) ?_ | refine xl_alloc (fun _ => ?_) | refine xl_box rfl (fun _ => ?_) | refine xl_store rfl rfl ?_ | refine xl_buildSlice rfl (fun _ => ?_) | refine wl_makeMap rfl rfl (fun _ => ?_) | refine wl_insert rfl rfl rfl rfl rfl rfl (by first | exact rfl | exact trivial) (by first | exact Upd.here | exact Upd.there Upd.here | exact Upd.there (Upd.there Upd.here) | exact Upd.there (Upd.there (Upd.there Upd.here)) | exact Upd.there (Upd.there (Upd.there (Upd.there Upd.here))) | exact Upd.app _ (Upd.here) | exact Upd.app _ (Upd.there Upd.here) | exact Upd.app _ (Upd.there (Upd.there Upd.here)) | exact Upd.app _ (Upd.there (Upd.there (Upd.there Upd.here))) | exact Upd.there (Upd.app _ (Upd.here)) | exact Upd.there (Upd.app _ (Upd.there Upd.here)) | exact Upd.there (Upd.app _ (Upd.there (Upd.there Upd.here))) | exact Upd.there (Upd.app _ (Upd.there (Upd.there (Upd.there Upd.here)))) | exact Upd.there (Upd.there (Upd.app _ (Upd.here))) | exact Upd.there (Upd.there (Upd.app _ (Upd.there Upd.here))) | exact Upd.there (Upd.there (Upd.app _ (Upd.there (Upd.there Upd.here))))) (by rfl) ?_) | refine wc_ret rfl ?_) | (show WC _ (Code.cond _ _ _) _ _ _ _; (refine wc_cond rfl (fun hc => ?_) (fun hc => ?_) <;> (try (simp only [decide_eq_true_eq, decide_eq_false_iff_not, Bool.and_eq_true, Bool.or_eq_true, Bool.and_eq_false_iff, Bool.or_eq_false_iff, Bool.not_eq_true', Bool.not_eq_false', Int.not_lt, Int.not_le] at hc)) <;> (try (exfalso; first | omega | contradiction)))))
              exact wrx_layC2 (Hn := []) (l := [str [], .slice none 0 0, str [], .slice none 0 0]) rfl rfl rfl rfl (by first | exact List.Mem.head _ | exact List.Mem.tail _ (List.Mem.head _) | exact List.Mem.tail _ (List.Mem.tail _ (List.Mem.head _)) | exact List.Mem.tail _ (List.Mem.tail _ (List.Mem.tail _ (List.Mem.head _))) | exact List.Mem.tail _ (List.Mem.tail _ (List.Mem.tail _ (List.Mem.tail _ (List.Mem.head _)))) | exact List.mem_append_right _ (List.Mem.head _) | exact List.mem_append_right _ (List.Mem.tail _ (List.Mem.head _)) | exact List.mem_append_right _ (List.Mem.tail _ (List.Mem.tail _ (List.Mem.head _))) | exact List.mem_append_right _ (List.Mem.tail _ (List.Mem.tail _ (List.Mem.tail _ (List.Mem.head _)))) | exact List.Mem.tail _ (List.mem_append_right _ (List.Mem.head _)) | exact List.Mem.tail _ (List.mem_append_right _ (List.Mem.tail _ (List.Mem.head _))) | exact List.Mem.tail _ (List.mem_append_right _ (List.Mem.tail _ (List.Mem.tail _ (List.Mem.head _)))) | exact List.Mem.tail _ (List.mem_append_right _ (List.Mem.tail _ (List.Mem.tail _ (List.Mem.tail _ (List.Mem.head _))))) | exact List.Mem.tail _ (List.Mem.tail _ (List.mem_append_right _ (List.Mem.head _))) | exact List.Mem.tail _ (List.Mem.tail _ (List.mem_append_right _ (List.Mem.tail _ (List.Mem.head _)))) | exact List.Mem.tail _ (List.Mem.tail _ (List.mem_append_right _ (List.Mem.tail _ (List.Mem.tail _ (List.Mem.head _)))))) rfl hM1 hsub (elemIs_no hn)
            | some tx =>
              have hun : ∀ {w : World}, Laid M1 w → Calls Tryd.prog 9 #[str (wd (isC 60) r3)] w (RetE w (.tuple #[str tx, i64 0])) := fun h => by have := hun h; rw [hu] at this; exact this
              have htx := unescQ_len hu
              have hhd : headP r2 = some (l, tx, rs (isC 60) r3) := by unfold headP; rw [hat]; simp only [hu]
              rw [hhd] at hel
              simp only at hel
              repeat' (first | (first | refine wc_seq ?_ | refine wc_region ?_ | refine wl_nil ?_ | refine wn_seq ?_ | refine wn_blk ?_ | refine wc_skip ?_ | refine wc_scope ?_ | refine wc_label ?_ | refine wn_noGoto ?_ | refine wc_block ?_ | refine wc_exit rfl ?_ | (show WL _ _ (_ :: _) _ _ _ _; first | refine yl_v rfl rfl rfl ?_ | refine wl_v rfl rfl rfl (by first | ((show OpV _ _ _ _ (Oper.mk _ (Op.call ⟨.value (.func 9), _, _⟩) _ _ _ _) _ _; exact ov_call Tryd.call9 rfl (by intro himp; first | rfl | (simp_all; done)) (by rfl) (fun _ _ h k => h.ext k) (fun hcg w hw => hun hw.laid))) | fail) ?_ | refine xl_alloc (fun _ => ?_) | refine xl_box rfl (fun _ => ?_) | refine xl_store rfl rfl ?_ | refine xl_buildSlice rfl (fun _ => ?_) | refine wl_makeMap rfl rfl (fun _ => ?_) | refine wl_insert rfl rfl rfl rfl rfl rfl (by first | exact rfl | exact trivial) (by first | exact Upd.here | exact Upd.there Upd.here | exact Upd.there (Upd.there Upd.here) | exact Upd.there (Upd.there (Upd.there Upd.here)) | exact Upd.there (Upd.there (Upd.there (Upd.there Upd.here))) | exact Upd.app _ (Upd.here) | exact Upd.app _ (Upd.there Upd.here) | exact Upd.app _ (Upd.there (Upd.there Upd.here)) | exact Upd.app _ (Upd.there (Upd.there (Upd.there Upd.here))) | exact Upd.there (Upd.app _ (Upd.here)) | exact Upd.there (Upd.app _ (Upd.there Upd.here)) | exact Upd.there (Upd.app _ (Upd.there (Upd.there Upd.here))) | exact Upd.there (Upd.app _ (Upd.there (Upd.there (Upd.there Upd.here)))) | exact Upd.there (Upd.there (Upd.app _ (Upd.here))) | exact Upd.there (Upd.there (Upd.app _ (Upd.there Upd.here))) | exact Upd.there (Upd.there (Upd.app _ (Upd.there (Upd.there Upd.here))))) (by rfl) ?_) | refine wc_ret rfl ?_) | (show WC _ (Code.cond _ _ _) _ _ _ _; (refine wc_cond rfl (fun hc => ?_) (fun hc => ?_) <;> (try (simp only [decide_eq_true_eq, decide_eq_false_iff_not, Bool.and_eq_true, Bool.or_eq_true, Bool.and_eq_false_iff, Bool.or_eq_false_iff, Bool.not_eq_true', Bool.not_eq_false', Int.not_lt, Int.not_le] at hc)) <;> (try (exfalso; first | omega | contradiction)))))
              have hs0l : (rs (isC 60) r3).length ≤ 100000000 := by omega
              generalize rs (isC 60) r3 = s0 at *
              refine wc_loop (α := KQ D M1 s0 (left - 1) w0) (fun x => [(0, true, .pointer (some ⟨b, 0, none⟩)), (1, true, i64 deep), (4, true, .pointer (some ⟨b4, 0, none⟩)), (6, true, .pointer (some ⟨b6, 0, none⟩))]) (fun x => St w0 [] ((b, .cells [str x.cur, i64 (left - 1 - (cntL x.acc : Int))].toArray 60 (0, 0)) :: (b6, .cells [str nm, .slice va l.length vcap, str tx, x.v].toArray 31 (0, 0)) :: (b4, .cells [str [], .slice none 0 0, str [], .slice none 0 0].toArray 31 (0, 0)) :: (x.Hs ++ H)) x.M') (fun x => x.f) ⟨s0.length + 1, s0, [], .slice none 0 0, [], [], M1, by omega, by simp, by simp, OwnS.nil, rfl, fun i hi => absurd hi (by simp), by simp [cntL]; omega, Since.refl⟩ (by first | exact Sub.nil _ | (repeat (first | exact Sub.nil _ | refine Sub.cons (by first | rfl | (simp [look]; done)) ?_))) (fun _ h => by
                show St w0 [] ((b, .cells [str s0, i64 (left - 1 - ((cntL [] : Nat) : Int))].toArray 60 (0, 0)) :: _) M1 _
                rw [show left - 1 - ((cntL [] : Nat) : Int) = left - 1 by simp [cntL]]
                exact h) ?_
              rintro ⟨f, cur, acc, v, Hs, xs, M2, fuel, len, inv, own, xlen, nodes, hleft, since⟩
              dsimp only
              obtain ⟨va2, vcap2, rfl⟩ := own.slice (k := acc.length) (by decide) xlen
              have hpx := fun {w : World} (hw : Laid M2 w) => prefix_ok hw cur [60, 47]
              match f, fuel, inv with
              | 0, fuel, _ => exfalso; omega
              | f + 1, fuel, inv =>
              rcases pre2 (d := 60) (e := 47) (s := cur) with ⟨hp, rr, hcur⟩ | ⟨hp, hno⟩
              · rw [hp] at hpx
                have hk : kidsP (elemP D) (s0.length + 1) s0 = some (acc, cur) := by
                  rw [inv, kidsP, if_pos (by unfold Lib.hasPrefix at hp; exact hp)]; simp
                rw [hk] at hel
                simp only at hel
                repeat' (first | (first | refine wc_seq ?_ | refine wc_region ?_ | refine wl_nil ?_ | refine wn_seq ?_ | refine wn_blk ?_ | refine wc_skip ?_ | refine wc_scope ?_ | refine wc_label ?_ | refine wn_noGoto ?_ | refine wc_block ?_ | refine wc_exit rfl ?_ | (show WL _ _ (_ :: _) _ _ _ _; first | refine yl_v rfl rfl rfl ?_ | refine wl_v rfl rfl rfl (by first | ((show OpV _ _ _ _ (Oper.mk _ (Op.call ⟨.value (.func 25), _, _⟩) _ _ _ _) _ _; exact ov_call Tryd.call25 rfl (by intro himp; first | rfl | (simp_all; done)) (by rfl) (fun _ _ h k => h.ext k) (fun hcg w hw => hpx hw.laid))) | fail) ?_ | refine xl_alloc (fun _ => ?_) | refine xl_box rfl (fun _ => ?_) | refine xl_store rfl rfl ?_ | refine xl_buildSlice rfl (fun _ => ?_) | refine wl_makeMap rfl rfl (fun _ => ?_) | refine wl_insert rfl rfl rfl rfl rfl rfl (by first | exact rfl | exact trivial) (by first | exact Upd.here | exact Upd.there Upd.here | exact Upd.there (Upd.there Upd.here) | exact Upd.there (Upd.there (Upd.there Upd.here)) | exact Upd.there (Upd.there (Upd.there (Upd.there Upd.here))) | exact Upd.app _ (Upd.here) | exact Upd.app _ (Upd.there Upd.here) | exact Upd.app _ (Upd.there (Upd.there Upd.here)) | exact Upd.app _ (Upd.there (Upd.there (Upd.there Upd.here))) | exact Upd.there (Upd.app _ (Upd.here)) | exact Upd.there (Upd.app _ (Upd.there Upd.here)) | exact Upd.there (Upd.app _ (Upd.there (Upd.there Upd.here))) | exact Upd.there (Upd.app _ (Upd.there (Upd.there (Upd.there Upd.here)))) | exact Upd.there (Upd.there (Upd.app _ (Upd.here))) | exact Upd.there (Upd.there (Upd.app _ (Upd.there Upd.here))) | exact Upd.there (Upd.there (Upd.app _ (Upd.there (Upd.there Upd.here))))) (by rfl) ?_) | refine wc_ret rfl ?_) | (show WC _ (Code.cond _ _ _) _ _ _ _; (refine wc_cond rfl (fun hc => ?_) (fun hc => ?_) <;> (try (simp only [decide_eq_true_eq, decide_eq_false_iff_not, Bool.and_eq_true, Bool.or_eq_true, Bool.and_eq_false_iff, Bool.or_eq_false_iff, Bool.not_eq_true', Bool.not_eq_false', Int.not_lt, Int.not_le] at hc)) <;> (try (exfalso; first | omega | contradiction)))))
                have htk := fun {w : World} {H : List (Nat × Obj)} (hw : St w0 [] ((b, readO cur (left - 1 - (cntL acc : Int))) :: H) M2 w) => take_ok (x := [60, 47] ++ nm ++ [62]) hw
                have helX : elemX (D + 1) (60 :: r1) left = if Lib.hasPrefix cur ([60, 47] ++ nm ++ [62]) = true then some (.mk nm l tx acc, cutP cur ([60, 47] ++ nm ++ [62]), left - 1 - (cntL acc : Int)) else none := by
                  unfold elemX
                  rw [hel]
                  show (match (if Lib.hasPrefix cur (closeT nm) = true then some (Nd.mk nm l tx acc, cur.drop (closeT nm).length) else none) with | some (x, r) => if (cntN x : Int) ≤ left then some (x, r, left - cntN x) else none | none => none) = _
                  by_cases hcl : Lib.hasPrefix cur (closeT nm) = true
                  · have hcl' : Lib.hasPrefix cur ([60, 47] ++ nm ++ [62]) = true := hcl
                    unfold cutP
                    rw [if_pos hcl, if_pos hcl', if_pos hcl']
                    show (if (cntN (Nd.mk nm l tx acc) : Int) ≤ left then some (Nd.mk nm l tx acc, cur.drop (closeT nm).length, left - (cntN (Nd.mk nm l tx acc) : Int)) else none) = _
                    have hc1 : cntN (Nd.mk nm l tx acc) = 1 + cntL acc := by rw [cntN]
                    rw [if_pos (by rw [hc1]; omega), hc1]
                    have : left - ((1 + cntL acc : Nat) : Int) = left - 1 - (cntL acc : Int) := by omega
                    rw [this]; rfl
                  · have hcl' : ¬ Lib.hasPrefix cur ([60, 47] ++ nm ++ [62]) = true := hcl
                    rw [if_neg hcl, if_neg hcl']
                generalize cutP cur ([60, 47] ++ nm ++ [62]) = cur' at *
                generalize Lib.hasPrefix cur ([60, 47] ++ nm ++ [62]) = q at *
                refine wc_drawP 6 (St w0 [] ((b, readO cur (left - 1 - (cntL acc : Int))) :: (b6, .cells [str nm, .slice va l.length vcap, str tx, .slice va2 acc.length vcap2].toArray 31 (0, 0)) :: (b4, .cells [str [], .slice none 0 0, str [], .slice none 0 0].toArray 31 (0, 0)) :: (Hs ++ H)) M2) (St w0 [] ((b, readO cur' (left - 1 - (cntL acc : Int))) :: (b6, .cells [str nm, .slice va l.length vcap, str tx, .slice va2 acc.length vcap2].toArray 31 (0, 0)) :: (b4, .cells [str [], .slice none 0 0, str [], .slice none 0 0].toArray 31 (0, 0)) :: (Hs ++ H)) M2) (by kernel_rfl) rfl (by kernel_rfl) (fun w' h => h.ext (Ext.drew w' 1)) ?_
                iterate 6 refine wpv_v (fun _ _ h hx => h.ext hx) (fun _ _ h hx => h.ext hx) rfl rfl rfl rfl rfl (by first | (show OpV _ _ _ _ (Oper.mk _ (Op.move _) _ _ _ _) _ _; exact xo_move rfl) | (show OpV _ _ _ _ (Oper.mk _ (Op.assign _) _ _ _ _) _ _; exact xo_assign rfl) | (show OpV _ _ _ _ (Oper.mk _ (Op.pick _ _ _) _ _ _ _) _ _; first | exact xo_and rfl rfl | exact xo_or rfl rfl) | (show OpV _ _ _ _ (Oper.mk _ (Op.extract _ _) _ _ _ _) _ _; exact xo_extract rfl) | (show OpV _ _ _ _ (Oper.mk _ (Op.call ⟨.builtin .len, _, _⟩) _ _ _ _) _ _; first | exact xo_slen rfl | exact xo_len rfl) | (show OpV _ _ _ _ (Oper.mk _ (Op.unOp _ _ _) _ _ _ _) _ _; exact xo_not rfl) | (show OpV _ _ _ _ (Oper.mk _ (Op.binOp BinOp.eql _ _ _ _) _ _ _ _) _ _; first | exact xo_eql rfl rfl | exact xo_seql rfl rfl | exact xo_beql rfl rfl | exact xo_aeql rfl rfl) | (show OpV _ _ _ _ (Oper.mk _ (Op.binOp BinOp.neq _ _ _ _) _ _ _ _) _ _; first | exact xo_neq rfl rfl | exact xo_sneq rfl rfl | exact xo_bneq rfl rfl | exact xo_aneq rfl rfl) | (show OpV _ _ _ _ (Oper.mk _ (Op.binOp BinOp.lss _ _ _ _) _ _ _ _) _ _; exact xo_lss rfl rfl) | (show OpV _ _ _ _ (Oper.mk _ (Op.binOp BinOp.leq _ _ _ _) _ _ _ _) _ _; exact xo_leq rfl rfl) | (show OpV _ _ _ _ (Oper.mk _ (Op.binOp BinOp.gtr _ _ _ _) _ _ _ _) _ _; exact xo_gtr rfl rfl) | (show OpV _ _ _ _ (Oper.mk _ (Op.binOp BinOp.geq _ _ _ _) _ _ _ _) _ _; exact xo_geq rfl rfl) | (show OpV _ _ _ _ (Oper.mk _ (Op.binOp BinOp.add _ _ _ _) _ _ _ _) _ _; first | exact xo_add rfl rfl | exact ov_sadd rfl rfl (by first | with_reducible exact fun _ => rfl | with_reducible exact fun h => h | exact fun _ => rfl | exact fun h => h | (intro himp; simp_all; done)) (by first | with_reducible exact fun _ => rfl | with_reducible exact fun h => h | exact fun _ => rfl | exact fun h => h | (intro himp; simp_all; done)) (by intro hcg; first | omega | (simp only [List.length_append, List.length_take, List.length_drop, List.length_cons, List.length_nil, List.length_nil]; omega))) | (show OpV _ _ _ _ (Oper.mk _ (Op.binOp BinOp.sub _ _ _ _) _ _ _ _) _ _; exact xo_sub rfl rfl) | (show OpV _ _ _ _ (Oper.mk _ (Op.binOp BinOp.mul _ _ _ _) _ _ _ _) _ _; exact xo_mul rfl rfl) | (show OpV _ _ _ _ (Oper.mk _ (Op.binOp BinOp.quo _ _ _ _) _ _ _ _) _ _; exact xo_quo rfl rfl) | (show OpV _ _ _ _ (Oper.mk _ (Op.binOp BinOp.rem _ _ _ _) _ _ _ _) _ _; exact xo_rem rfl rfl) | (show OpV _ _ _ _ (Oper.mk _ (Op.index _ _ _) _ _ _ _) _ _; exact xo_sindex rfl rfl) | (show OpV _ _ _ _ (Oper.mk _ (Op.slice _ _ (some _) (some _) none) _ _ _ _) _ _; first | exact xo_slice rfl rfl rfl | exact xo_slcB rfl rfl rfl) | (show OpV _ _ _ _ (Oper.mk _ (Op.slice _ _ (some _) none none) _ _ _ _) _ _; first | exact xo_from rfl rfl | exact xo_slcFrom rfl rfl) | (show OpV _ _ _ _ (Oper.mk _ (Op.slice _ _ none (some _) none) _ _ _ _) _ _; first | exact xo_to rfl rfl | exact xo_slcTo rfl rfl) | (show OpV _ _ _ _ (Oper.mk _ (Op.slice _ _ none (some _) (some _)) _ _ _ _) _ _; exact xo_slc3 rfl rfl rfl) | (show OpV _ _ _ _ (Oper.mk _ (Op.convert _ _ _) _ _ _ _) _ _; first | exact xo_conv rfl | exact xo_convBytes rfl) | (show OpV _ _ _ _ (Oper.mk _ (Op.fieldAddr _ _ _) _ _ _ _) _ _; exact xo_fieldAddr rfl) | (show OpV _ _ _ _ (Oper.mk _ (Op.load _ _) _ _ _ _) _ _; first | exact xo_load1 rfl | exact xo_loadS rfl) | (show OpV _ _ _ _ (Oper.mk _ (Op.field _ _ _) _ _ _ _) _ _; exact xo_field rfl) | (show OpV _ _ _ _ (Oper.mk _ (Op.build _ _) _ _ _ _) _ _; exact xo_build rfl) | (show OpV _ _ _ _ (Oper.mk _ (Op.makeFunc _ _ _) _ _ _ _) _ _; exact ov_makeFunc rfl rfl) | (show OpV _ _ _ _ (Oper.mk _ (Op.nilCheck _) _ _ _ _) _ _; exact xo_nilCheck rfl)) (by first | (show OpV _ _ _ _ (Oper.mk _ (Op.move _) _ _ _ _) _ _; exact xo_move rfl) | (show OpV _ _ _ _ (Oper.mk _ (Op.assign _) _ _ _ _) _ _; exact xo_assign rfl) | (show OpV _ _ _ _ (Oper.mk _ (Op.pick _ _ _) _ _ _ _) _ _; first | exact xo_and rfl rfl | exact xo_or rfl rfl) | (show OpV _ _ _ _ (Oper.mk _ (Op.extract _ _) _ _ _ _) _ _; exact xo_extract rfl) | (show OpV _ _ _ _ (Oper.mk _ (Op.call ⟨.builtin .len, _, _⟩) _ _ _ _) _ _; first | exact xo_slen rfl | exact xo_len rfl) | (show OpV _ _ _ _ (Oper.mk _ (Op.unOp _ _ _) _ _ _ _) _ _; exact xo_not rfl) | (show OpV _ _ _ _ (Oper.mk _ (Op.binOp BinOp.eql _ _ _ _) _ _ _ _) _ _; first | exact xo_eql rfl rfl | exact xo_seql rfl rfl | exact xo_beql rfl rfl | exact xo_aeql rfl rfl) | (show OpV _ _ _ _ (Oper.mk _ (Op.binOp BinOp.neq _ _ _ _) _ _ _ _) _ _; first | exact xo_neq rfl rfl | exact xo_sneq rfl rfl | exact xo_bneq rfl rfl | exact xo_aneq rfl rfl) | (show OpV _ _ _ _ (Oper.mk _ (Op.binOp BinOp.lss _ _ _ _) _ _ _ _) _ _; exact xo_lss rfl rfl) | (show OpV _ _ _ _ (Oper.mk _ (Op.binOp BinOp.leq _ _ _ _) _ _ _ _) _ _; exact xo_leq rfl rfl) | (show OpV _ _ _ _ (Oper.mk _ (Op.binOp BinOp.gtr _ _ _ _) _ _ _ _) _ _; exact xo_gtr rfl rfl) | (show OpV _ _ _ _ (Oper.mk _ (Op.binOp BinOp.geq _ _ _ _) _ _ _ _) _ _; exact xo_geq rfl rfl) | (show OpV _ _ _ _ (Oper.mk _ (Op.binOp BinOp.add _ _ _ _) _ _ _ _) _ _; first | exact xo_add rfl rfl | exact ov_sadd rfl rfl (by first | with_reducible exact fun _ => rfl | with_reducible exact fun h => h | exact fun _ => rfl | exact fun h => h | (intro himp; simp_all; done)) (by first | with_reducible exact fun _ => rfl | with_reducible exact fun h => h | exact fun _ => rfl | exact fun h => h | (intro himp; simp_all; done)) (by intro hcg; first | omega | (simp only [List.length_append, List.length_take, List.length_drop, List.length_cons, List.length_nil, List.length_nil]; omega))) | (show OpV _ _ _ _ (Oper.mk _ (Op.binOp BinOp.sub _ _ _ _) _ _ _ _) _ _; exact xo_sub rfl rfl) | (show OpV _ _ _ _ (Oper.mk _ (Op.binOp BinOp.mul _ _ _ _) _ _ _ _) _ _; exact xo_mul rfl rfl) | (show OpV _ _ _ _ (Oper.mk _ (Op.binOp BinOp.quo _ _ _ _) _ _ _ _) _ _; exact xo_quo rfl rfl) | (show OpV _ _ _ _ (Oper.mk _ (Op.binOp BinOp.rem _ _ _ _) _ _ _ _) _ _; exact xo_rem rfl rfl) | (show OpV _ _ _ _ (Oper.mk _ (Op.index _ _ _) _ _ _ _) _ _; exact xo_sindex rfl rfl) | (show OpV _ _ _ _ (Oper.mk _ (Op.slice _ _ (some _) (some _) none) _ _ _ _) _ _; first | exact xo_slice rfl rfl rfl | exact xo_slcB rfl rfl rfl) | (show OpV _ _ _ _ (Oper.mk _ (Op.slice _ _ (some _) none none) _ _ _ _) _ _; first | exact xo_from rfl rfl | exact xo_slcFrom rfl rfl) | (show OpV _ _ _ _ (Oper.mk _ (Op.slice _ _ none (some _) none) _ _ _ _) _ _; first | exact xo_to rfl rfl | exact xo_slcTo rfl rfl) | (show OpV _ _ _ _ (Oper.mk _ (Op.slice _ _ none (some _) (some _)) _ _ _ _) _ _; exact xo_slc3 rfl rfl rfl) | (show OpV _ _ _ _ (Oper.mk _ (Op.convert _ _ _) _ _ _ _) _ _; first | exact xo_conv rfl | exact xo_convBytes rfl) | (show OpV _ _ _ _ (Oper.mk _ (Op.fieldAddr _ _ _) _ _ _ _) _ _; exact xo_fieldAddr rfl) | (show OpV _ _ _ _ (Oper.mk _ (Op.load _ _) _ _ _ _) _ _; first | exact xo_load1 rfl | exact xo_loadS rfl) | (show OpV _ _ _ _ (Oper.mk _ (Op.field _ _ _) _ _ _ _) _ _; exact xo_field rfl) | (show OpV _ _ _ _ (Oper.mk _ (Op.build _ _) _ _ _ _) _ _; exact xo_build rfl) | (show OpV _ _ _ _ (Oper.mk _ (Op.makeFunc _ _ _) _ _ _ _) _ _; exact ov_makeFunc rfl rfl) | (show OpV _ _ _ _ (Oper.mk _ (Op.nilCheck _) _ _ _ _) _ _; exact xo_nilCheck rfl)) ?_
                refine wpv_call rfl Tryd.call41 rfl rfl rfl rfl rfl (fun w hw => htk hw) ?_
                repeat' (first | (first | refine wc_seq ?_ | refine wc_region ?_ | refine wl_nil ?_ | refine wn_seq ?_ | refine wn_blk ?_ | refine wc_skip ?_ | refine wc_scope ?_ | refine wc_label ?_ | refine wn_noGoto ?_ | refine wc_block ?_ | refine wc_exit rfl ?_ | (show WL _ _ (_ :: _) _ _ _ _; first | refine yl_v rfl rfl rfl ?_ | refine wl_v rfl rfl rfl (by first  | fail) ?_ | refine xl_alloc (fun _ => ?_) | refine xl_box rfl (fun _ => ?_) | refine xl_store rfl rfl ?_ | refine xl_buildSlice rfl (fun _ => ?_) | refine wl_makeMap rfl rfl (fun _ => ?_) | refine wl_insert rfl rfl rfl rfl rfl rfl (by first | exact rfl | exact trivial) (by first | exact Upd.here | exact Upd.there Upd.here | exact Upd.there (Upd.there Upd.here) | exact Upd.there (Upd.there (Upd.there Upd.here)) | exact Upd.there (Upd.there (Upd.there (Upd.there Upd.here))) | exact Upd.app _ (Upd.here) | exact Upd.app _ (Upd.there Upd.here) | exact Upd.app _ (Upd.there (Upd.there Upd.here)) | exact Upd.app _ (Upd.there (Upd.there (Upd.there Upd.here))) | exact Upd.there (Upd.app _ (Upd.here)) | exact Upd.there (Upd.app _ (Upd.there Upd.here)) | exact Upd.there (Upd.app _ (Upd.there (Upd.there Upd.here))) | exact Upd.there (Upd.app _ (Upd.there (Upd.there (Upd.there Upd.here)))) | exact Upd.there (Upd.there (Upd.app _ (Upd.here))) | exact Upd.there (Upd.there (Upd.app _ (Upd.there Upd.here))) | exact Upd.there (Upd.there (Upd.app _ (Upd.there (Upd.there Upd.here))))) (by rfl) ?_) | refine wc_ret rfl ?_) | (show WC _ (Code.cond _ _ _) _ _ _ _; (refine wc_cond rfl (fun hc => ?_) (fun hc => ?_) <;> (try (simp only [decide_eq_true_eq, decide_eq_false_iff_not, Bool.and_eq_true, Bool.or_eq_true, Bool.and_eq_false_iff, Bool.or_eq_false_iff, Bool.not_eq_true', Bool.not_eq_false', Int.not_lt, Int.not_le] at hc)) <;> (try (exfalso; first | omega | contradiction)))))
                refine wr_weak (fun w' h => h.perm (H' := (b6, .cells [str nm, .slice va l.length vcap, str tx, .slice va2 acc.length vcap2].toArray 31 (0, 0)) :: (b4, .cells [str nm, .slice va l.length vcap, str tx, .slice va2 acc.length vcap2].toArray 31 (0, 0)) :: (Hs ++ ((b, readO cur' (left - 1 - (cntL acc : Int))) :: H))) (((List.perm_middle.cons _).cons _).trans (((List.Perm.swap _ _ _).cons _).trans (List.Perm.swap _ _ _)))) ?_
                refine wrx_layC2 (Hn := Hs) (l := [str nm, .slice va l.length vcap, str tx, .slice va2 acc.length vcap2]) (s' := cur') (left' := left - 1 - (cntL acc : Int)) rfl rfl rfl rfl (List.Mem.tail _ (List.Mem.head _)) rfl (hM1.step since.1 since.2) (List.Sublist.cons _ (List.Sublist.cons _ (List.Sublist.refl _))) ?_
                · unfold ElemIs
                  rw [helX]
                  cases q with
                  | false => exact ⟨_, _, _, _, _, _, _, _, rfl⟩
                  | true =>
                    rw [if_pos rfl]
                    refine ⟨_, rfl, ⟨_, _, rfl, Sl.mono hsl (fun _ _ h => .inl (since.1 _ _ h)) (fun _ _ _ h => h), own.sl (by decide) (fun p hp => .inr hp) xlen (by omega) (fun i hi => NodeC.mono (fun _ _ => .inl) (nodes i hi)), by omega, by omega, ?_⟩, rfl, rfl⟩
                    intro p hp
                    have := attrT_small hp
                    rw [attrsP_text hat] at hs2
                    simp only [List.length_append] at hs2
                    omega
              · rw [hp] at hpx
                have ih := fun (H : List (Nat × Obj)) (w : World) (hw : St w0 [] ((b, readO cur (left - 1 - (cntL acc : Int))) :: H) M2 w) => relem_ok D (deep + 1) (by omega) (by omega) M2 H b cur (left - 1 - (cntL acc : Int)) w0 w (hG1.mono since.1) (by omega) (by omega) (by omega) hw
                repeat' (first | (first | refine wc_seq ?_ | refine wc_region ?_ | refine wl_nil ?_ | refine wn_seq ?_ | refine wn_blk ?_ | refine wc_skip ?_ | refine wc_scope ?_ | refine wc_label ?_ | refine wn_noGoto ?_ | refine wc_block ?_ | refine wc_exit rfl ?_ | (show WL _ _ (_ :: _) _ _ _ _; first | refine yl_v rfl rfl rfl ?_ | refine wl_v rfl rfl rfl (by first | ((show OpV _ _ _ _ (Oper.mk _ (Op.call ⟨.value (.func 25), _, _⟩) _ _ _ _) _ _; exact ov_call Tryd.call25 rfl (by intro himp; first | rfl | (simp_all; done)) (by rfl) (fun _ _ h k => h.ext k) (fun hcg w hw => hpx hw.laid))) | fail) ?_ | refine xl_alloc (fun _ => ?_) | refine xl_box rfl (fun _ => ?_) | refine xl_store rfl rfl ?_ | refine xl_buildSlice rfl (fun _ => ?_) | refine wl_makeMap rfl rfl (fun _ => ?_) | refine wl_insert rfl rfl rfl rfl rfl rfl (by first | exact rfl | exact trivial) (by first | exact Upd.here | exact Upd.there Upd.here | exact Upd.there (Upd.there Upd.here) | exact Upd.there (Upd.there (Upd.there Upd.here)) | exact Upd.there (Upd.there (Upd.there (Upd.there Upd.here))) | exact Upd.app _ (Upd.here) | exact Upd.app _ (Upd.there Upd.here) | exact Upd.app _ (Upd.there (Upd.there Upd.here)) | exact Upd.app _ (Upd.there (Upd.there (Upd.there Upd.here))) | exact Upd.there (Upd.app _ (Upd.here)) | exact Upd.there (Upd.app _ (Upd.there Upd.here)) | exact Upd.there (Upd.app _ (Upd.there (Upd.there Upd.here))) | exact Upd.there (Upd.app _ (Upd.there (Upd.there (Upd.there Upd.here)))) | exact Upd.there (Upd.there (Upd.app _ (Upd.here))) | exact Upd.there (Upd.there (Upd.app _ (Upd.there Upd.here))) | exact Upd.there (Upd.there (Upd.app _ (Upd.there (Upd.there Upd.here))))) (by rfl) ?_) | refine wc_ret rfl ?_) | (show WC _ (Code.cond _ _ _) _ _ _ _; (refine wc_cond rfl (fun hc => ?_) (fun hc => ?_) <;> (try (simp only [decide_eq_true_eq, decide_eq_false_iff_not, Bool.and_eq_true, Bool.or_eq_true, Bool.and_eq_false_iff, Bool.or_eq_false_iff, Bool.not_eq_true', Bool.not_eq_false', Int.not_lt, Int.not_le] at hc)) <;> (try (exfalso; first | omega | contradiction)))))
                refine wl_callX rfl Tryd.call29 rfl rfl rfl rfl (fun w hw => ih _ w hw) (fun v M3 s3 left3 hm3 hn3 hR => ?_)
                have hpf : [60, 47].isPrefixOf cur = false := by unfold Lib.hasPrefix at hp; exact hp
                have hM3 : Since w0 M M3 := (hM1.step since.1 since.2).step hm3 hn3
                unfold ElemIs at hR
                cases hx : elemX D cur (left - 1 - (cntL acc : Int)) with
                | none =>
                  rw [hx] at hR
                  simp only at hR
                  obtain ⟨n', a1, l1, c1, t', a2, l2, c2, rfl⟩ := hR
                  have hn : elemX (D + 1) (60 :: r1) left = none := by
                    unfold elemX
                    rw [hel]
                    cases hk : kidsP (elemP D) (s0.length + 1) s0 with
                    | none => rfl
                    | some q =>
                      obtain ⟨k, r5⟩ := q
                      have hlt := kids_fail inv hpf (left0 := left - 1) (fun x r he => by
                        unfold elemX at hx
                        rw [he] at hx
                        simp only at hx
                        split at hx
                        · cases hx
                        · omega) k r5 hk
                      simp only
                      split
                      · rename_i x r e
                        split at e
                        · cases e
                          rw [if_neg (by simp only [cntN]; omega)]
                        · cases e
                      · rfl
                  repeat' (first | (first | refine wc_seq ?_ | refine wc_region ?_ | refine wl_nil ?_ | refine wn_seq ?_ | refine wn_blk ?_ | refine wc_skip ?_ | refine wc_scope ?_ | refine wc_label ?_ | refine wn_noGoto ?_ | refine wc_block ?_ | refine wc_exit rfl ?_ | (show WL _ _ (_ :: _) _ _ _ _; first | refine yl_v rfl rfl rfl ?_ | refine wl_v rfl rfl rfl (by first  | fail) ?_ | refine xl_alloc (fun _ => ?_) | refine xl_box rfl (fun _ => ?_) | refine xl_store rfl rfl ?_ | refine xl_buildSlice rfl (fun _ => ?_) | refine wl_makeMap rfl rfl (fun _ => ?_) | refine wl_insert rfl rfl rfl rfl rfl rfl (by first | exact rfl | exact trivial) (by first | exact Upd.here | exact Upd.there Upd.here | exact Upd.there (Upd.there Upd.here) | exact Upd.there (Upd.there (Upd.there Upd.here)) | exact Upd.there (Upd.there (Upd.there (Upd.there Upd.here))) | exact Upd.app _ (Upd.here) | exact Upd.app _ (Upd.there Upd.here) | exact Upd.app _ (Upd.there (Upd.there Upd.here)) | exact Upd.app _ (Upd.there (Upd.there (Upd.there Upd.here))) | exact Upd.there (Upd.app _ (Upd.here)) | exact Upd.there (Upd.app _ (Upd.there Upd.here)) | exact Upd.there (Upd.app _ (Upd.there (Upd.there Upd.here))) | exact Upd.there (Upd.app _ (Upd.there (Upd.there (Upd.there Upd.here)))) | exact Upd.there (Upd.there (Upd.app _ (Upd.here))) | exact Upd.there (Upd.there (Upd.app _ (Upd.there Upd.here))) | exact Upd.there (Upd.there (Upd.app _ (Upd.there (Upd.there Upd.here))))) (by rfl) ?_) | refine wc_ret rfl ?_) | (show WC _ (Code.cond _ _ _) _ _ _ _; (refine wc_cond rfl (fun hc => ?_) (fun hc => ?_) <;> (try (simp only [decide_eq_true_eq, decide_eq_false_iff_not, Bool.and_eq_true, Bool.or_eq_true, Bool.and_eq_false_iff, Bool.or_eq_false_iff, Bool.not_eq_true', Bool.not_eq_false', Int.not_lt, Int.not_le] at hc)) <;> (try (exfalso; first | omega | contradiction)))))
                  exact wrx_layC2 (Hn := []) (l := [str [], .slice none 0 0, str [], .slice none 0 0]) rfl rfl rfl rfl (by first | exact List.Mem.head _ | exact List.Mem.tail _ (List.Mem.head _) | exact List.Mem.tail _ (List.Mem.tail _ (List.Mem.head _)) | exact List.Mem.tail _ (List.Mem.tail _ (List.Mem.tail _ (List.Mem.head _))) | exact List.Mem.tail _ (List.Mem.tail _ (List.Mem.tail _ (List.Mem.tail _ (List.Mem.head _)))) | exact List.mem_append_right _ (List.Mem.head _) | exact List.mem_append_right _ (List.Mem.tail _ (List.Mem.head _)) | exact List.mem_append_right _ (List.Mem.tail _ (List.Mem.tail _ (List.Mem.head _))) | exact List.mem_append_right _ (List.Mem.tail _ (List.Mem.tail _ (List.Mem.tail _ (List.Mem.head _)))) | exact List.Mem.tail _ (List.mem_append_right _ (List.Mem.head _)) | exact List.Mem.tail _ (List.mem_append_right _ (List.Mem.tail _ (List.Mem.head _))) | exact List.Mem.tail _ (List.mem_append_right _ (List.Mem.tail _ (List.Mem.tail _ (List.Mem.head _)))) | exact List.Mem.tail _ (List.mem_append_right _ (List.Mem.tail _ (List.Mem.tail _ (List.Mem.tail _ (List.Mem.head _))))) | exact List.Mem.tail _ (List.Mem.tail _ (List.mem_append_right _ (List.Mem.head _))) | exact List.Mem.tail _ (List.Mem.tail _ (List.mem_append_right _ (List.Mem.tail _ (List.Mem.head _)))) | exact List.Mem.tail _ (List.Mem.tail _ (List.mem_append_right _ (List.Mem.tail _ (List.Mem.tail _ (List.Mem.head _)))))) rfl hM3 (List.Sublist.cons _ (List.Sublist.cons_cons _ (List.Sublist.cons _ (List.Sublist.cons _ (List.sublist_append_right Hs H))))) (elemIs_no hn)
                | some p =>
                  obtain ⟨x, r, l'⟩ := p
                  rw [hx] at hR
                  simp only at hR
                  obtain ⟨vs, rfl, hnode, rfl, rfl⟩ := hR
                  obtain ⟨un, ua1, ul1, uc1, ut, ua2, ul2, uc2, rfl⟩ := node_open hnode
                  repeat' (first | (first | refine wc_seq ?_ | refine wc_region ?_ | refine wl_nil ?_ | refine wn_seq ?_ | refine wn_blk ?_ | refine wc_skip ?_ | refine wc_scope ?_ | refine wc_label ?_ | refine wn_noGoto ?_ | refine wc_block ?_ | refine wc_exit rfl ?_ | (show WL _ _ (_ :: _) _ _ _ _; first | refine yl_v rfl rfl rfl ?_ | refine wl_v rfl rfl rfl (by first  | fail) ?_ | refine xl_alloc (fun _ => ?_) | refine xl_box rfl (fun _ => ?_) | refine xl_store rfl rfl ?_ | refine xl_buildSlice rfl (fun _ => ?_) | refine wl_makeMap rfl rfl (fun _ => ?_) | refine wl_insert rfl rfl rfl rfl rfl rfl (by first | exact rfl | exact trivial) (by first | exact Upd.here | exact Upd.there Upd.here | exact Upd.there (Upd.there Upd.here) | exact Upd.there (Upd.there (Upd.there Upd.here)) | exact Upd.there (Upd.there (Upd.there (Upd.there Upd.here))) | exact Upd.app _ (Upd.here) | exact Upd.app _ (Upd.there Upd.here) | exact Upd.app _ (Upd.there (Upd.there Upd.here)) | exact Upd.app _ (Upd.there (Upd.there (Upd.there Upd.here))) | exact Upd.there (Upd.app _ (Upd.here)) | exact Upd.there (Upd.app _ (Upd.there Upd.here)) | exact Upd.there (Upd.app _ (Upd.there (Upd.there Upd.here))) | exact Upd.there (Upd.app _ (Upd.there (Upd.there (Upd.there Upd.here)))) | exact Upd.there (Upd.there (Upd.app _ (Upd.here))) | exact Upd.there (Upd.there (Upd.app _ (Upd.there Upd.here))) | exact Upd.there (Upd.there (Upd.app _ (Upd.there (Upd.there Upd.here))))) (by rfl) ?_) | refine wc_ret rfl ?_) | (show WC _ (Code.cond _ _ _) _ _ _ _; (refine wc_cond rfl (fun hc => ?_) (fun hc => ?_) <;> (try (simp only [decide_eq_true_eq, decide_eq_false_iff_not, Bool.and_eq_true, Bool.or_eq_true, Bool.and_eq_false_iff, Bool.or_eq_false_iff, Bool.not_eq_true', Bool.not_eq_false', Int.not_lt, Int.not_le] at hc)) <;> (try (exfalso; first | omega | contradiction)))))
                  rename_i b10 b80
                  have hx2 : elemP D cur = some (x, s3) ∧ (cntN x : Int) ≤ left - 1 - (cntL acc : Int) ∧ left3 = left - 1 - (cntL acc : Int) - (cntN x : Int) := by
                    unfold elemX at hx
                    cases he : elemP D cur with
                    | none => rw [he] at hx; cases hx
                    | some q =>
                      obtain ⟨y, u⟩ := q
                      rw [he] at hx
                      simp only at hx
                      split at hx
                      · cases hx; exact ⟨rfl, by assumption, rfl⟩
                      · cases hx
                  obtain ⟨hx2, hx3, rfl⟩ := hx2
                  refine wl_weak (C' := St w0 [] ((b80, .cells [str un, .slice ua1 ul1 uc1, str ut, .slice ua2 ul2 uc2].toArray 31 (0, 0)) :: (Hs ++ ((b10, .cells [str un, .slice ua1 ul1 uc1, str ut, .slice ua2 ul2 uc2].toArray 31 (0, 0)) :: (b, readO s3 (left - 1 - (cntL acc : Int) - (cntN x : Int))) :: (b6, .cells [str nm, .slice va l.length vcap, str tx, .slice va2 acc.length vcap2].toArray 31 (0, 0)) :: (b4, .cells [str [], .slice none 0 0, str [], .slice none 0 0].toArray 31 (0, 0)) :: H))) M3) (Eng.Sub.refl _) (fun w' h => h.perm (List.Perm.cons _ (List.perm_middle.trans (List.Perm.cons _ (List.perm_middle.trans (List.Perm.cons _ (List.perm_middle.trans (List.Perm.cons _ List.perm_middle)))))))) ?_
                  refine y_append (news := [str un, .slice ua1 ul1 uc1, str ut, .slice ua2 ul2 uc2]) (H0 := (b10, .cells [str un, .slice ua1 ul1 uc1, str ut, .slice ua2 ul2 uc2].toArray 31 (0, 0)) :: (b, readO s3 (left - 1 - (cntL acc : Int) - (cntN x : Int))) :: (b6, .cells [str nm, .slice va l.length vcap, str tx, .slice va2 acc.length vcap2].toArray 31 (0, 0)) :: (b4, .cells [str [], .slice none 0 0, str [], .slice none 0 0].toArray 31 (0, 0)) :: H) rfl own rfl rfl rfl rfl rfl rfl rfl rfl rfl rfl rfl rfl (by rw [xlen]; omega) rfl ?_
                  intro v' Hs' ho'
                  obtain ⟨va3, vcap3, rfl⟩ := ho'.slice (k := acc.length + 1) (by decide) (by simp; omega)
                  refine wl_weak (C' := St w0 [] ((b, readO s3 (left - 1 - (cntL acc : Int) - (cntN x : Int))) :: (b6, .cells [str nm, .slice va l.length vcap, str tx, .slice va2 acc.length vcap2].toArray 31 (0, 0)) :: (b4, .cells [str [], .slice none 0 0, str [], .slice none 0 0].toArray 31 (0, 0)) :: (Hs' ++ H)) M3) (Eng.Sub.refl _) (fun w' h => (h.drop (H' := Hs' ++ ((b, readO s3 (left - 1 - (cntL acc : Int) - (cntN x : Int))) :: (b6, .cells [str nm, .slice va l.length vcap, str tx, .slice va2 acc.length vcap2].toArray 31 (0, 0)) :: (b4, .cells [str [], .slice none 0 0, str [], .slice none 0 0].toArray 31 (0, 0)) :: H)) (List.Sublist.append (List.Sublist.refl _) (List.Sublist.cons _ (List.Sublist.refl _)))).perm ((List.perm_middle.trans (List.Perm.cons _ (List.perm_middle.trans (List.Perm.cons _ List.perm_middle)))).symm)) ?_
                  repeat' (first | (first | refine wc_seq ?_ | refine wc_region ?_ | refine wl_nil ?_ | refine wn_seq ?_ | refine wn_blk ?_ | refine wc_skip ?_ | refine wc_scope ?_ | refine wc_label ?_ | refine wn_noGoto ?_ | refine wc_block ?_ | refine wc_exit rfl ?_ | (show WL _ _ (_ :: _) _ _ _ _; first | refine yl_v rfl rfl rfl ?_ | refine wl_v rfl rfl rfl (by first  | fail) ?_ | refine xl_alloc (fun _ => ?_) | refine xl_box rfl (fun _ => ?_) | refine xl_store rfl rfl ?_ | refine xl_buildSlice rfl (fun _ => ?_) | refine wl_makeMap rfl rfl (fun _ => ?_) | refine wl_insert rfl rfl rfl rfl rfl rfl (by first | exact rfl | exact trivial) (by first | exact Upd.here | exact Upd.there Upd.here | exact Upd.there (Upd.there Upd.here) | exact Upd.there (Upd.there (Upd.there Upd.here)) | exact Upd.there (Upd.there (Upd.there (Upd.there Upd.here))) | exact Upd.app _ (Upd.here) | exact Upd.app _ (Upd.there Upd.here) | exact Upd.app _ (Upd.there (Upd.there Upd.here)) | exact Upd.app _ (Upd.there (Upd.there (Upd.there Upd.here))) | exact Upd.there (Upd.app _ (Upd.here)) | exact Upd.there (Upd.app _ (Upd.there Upd.here)) | exact Upd.there (Upd.app _ (Upd.there (Upd.there Upd.here))) | exact Upd.there (Upd.app _ (Upd.there (Upd.there (Upd.there Upd.here)))) | exact Upd.there (Upd.there (Upd.app _ (Upd.here))) | exact Upd.there (Upd.there (Upd.app _ (Upd.there Upd.here))) | exact Upd.there (Upd.there (Upd.app _ (Upd.there (Upd.there Upd.here))))) (by rfl) ?_) | refine wc_ret rfl ?_) | (show WC _ (Code.cond _ _ _) _ _ _ _; (refine wc_cond rfl (fun hc => ?_) (fun hc => ?_) <;> (try (simp only [decide_eq_true_eq, decide_eq_false_iff_not, Bool.and_eq_true, Bool.or_eq_true, Bool.and_eq_false_iff, Bool.or_eq_false_iff, Bool.not_eq_true', Bool.not_eq_false', Int.not_lt, Int.not_le] at hc)) <;> (try (exfalso; first | omega | contradiction)))))
                  have hsl3 := elemP_len hx2
                  refine wn_cut ⟨f, s3, acc ++ [x], .slice va3 (acc.length + 1) vcap3, Hs', xs ++ [str un, .slice ua1 ul1 uc1, str ut, .slice ua2 ul2 uc2], M3, by omega, by rw [List.length_append]; simp only [List.length_cons, List.length_nil]; omega, ?_, ho', by simp only [List.length_append, List.length_cons, List.length_nil]; omega, ?_, by rw [cntL_append]; simp only [cntL]; omega, since.step hm3 hn3⟩ (by show f < f + 1; omega) (by first | exact Sub.nil _ | (repeat (first | exact Sub.nil _ | refine Sub.cons (by first | rfl | (simp [look]; done)) ?_))) (fun w' h => ?_)
                  · rw [inv, kidsP, if_neg (by rw [hpf]; decide), hx2]
                    show Option.map _ (Option.map _ (kidsP (elemP D) f s3)) = _
                    rw [Option.map_map]
                    congr 1
                    funext y
                    simp
                  · intro i hi
                    rw [List.length_append, List.length_cons, List.length_nil] at hi
                    rcases Nat.lt_or_ge i acc.length with hlt | hge
                    · rw [List.getElem_append_left hlt, List.drop_append_of_le_length (by omega), List.take_append_of_le_length (by rw [List.length_drop]; omega)]
                      exact NodeC.mono hm3 (nodes i hlt)
                    · obtain rfl : i = acc.length := by omega
                      rw [List.getElem_append_right (Nat.le_refl _), ← xlen, List.drop_left]
                      simpa using hnode
                  · dsimp only
                    rw [show left - 1 - ((cntL (acc ++ [x]) : Nat) : Int) = left - 1 - (cntL acc : Int) - (cntN x : Int) by rw [cntL_append]; simp only [cntL]; omega]
                    unfold readO at h
                    exact h
          · have hn := failH (by
              unfold headP; rw [hat]
              simp only)
            refine wl_callL rfl Tryd.call41 rfl rfl rfl rfl (fun w hw => take_no hp3 hw) ?_
            repeat' (first | (first | refine wc_seq ?_ | refine wc_region ?_ | refine wl_nil ?_ | refine wn_seq ?_ | refine wn_blk ?_ | refine wc_skip ?_ | refine wc_scope ?_ | refine wc_label ?_ | refine wn_noGoto ?_ | refine wc_block ?_ | refine wc_exit rfl ?_ | (show WL _ _ (_ :: _) _ _ _ _; first | refine yl_v rfl rfl rfl ?_ | refine wl_v rfl rfl rfl (by first  | fail) ?_ | refine xl_alloc (fun _ => ?_) | refine xl_box rfl (fun _ => ?_) | refine xl_store rfl rfl ?_ | refine xl_buildSlice rfl (fun _ => ?_) | refine wl_makeMap rfl rfl (fun _ => ?_) | refine wl_insert rfl rfl rfl rfl rfl rfl (by first | exact rfl | exact trivial) (by first | exact Upd.here | exact Upd.there Upd.here | exact Upd.there (Upd.there Upd.here) | exact Upd.there (Upd.there (Upd.there Upd.here)) | exact Upd.there (Upd.there (Upd.there (Upd.there Upd.here))) | exact Upd.app _ (Upd.here) | exact Upd.app _ (Upd.there Upd.here) | exact Upd.app _ (Upd.there (Upd.there Upd.here)) | exact Upd.app _ (Upd.there (Upd.there (Upd.there Upd.here))) | exact Upd.there (Upd.app _ (Upd.here)) | exact Upd.there (Upd.app _ (Upd.there Upd.here)) | exact Upd.there (Upd.app _ (Upd.there (Upd.there Upd.here))) | exact Upd.there (Upd.app _ (Upd.there (Upd.there (Upd.there Upd.here)))) | exact Upd.there (Upd.there (Upd.app _ (Upd.here))) | exact Upd.there (Upd.there (Upd.app _ (Upd.there Upd.here))) | exact Upd.there (Upd.there (Upd.app _ (Upd.there (Upd.there Upd.here))))) (by rfl) ?_) | refine wc_ret rfl ?_) | (show WC _ (Code.cond _ _ _) _ _ _ _; (refine wc_cond rfl (fun hc => ?_) (fun hc => ?_) <;> (try (simp only [decide_eq_true_eq, decide_eq_false_iff_not, Bool.and_eq_true, Bool.or_eq_true, Bool.and_eq_false_iff, Bool.or_eq_false_iff, Bool.not_eq_true', Bool.not_eq_false', Int.not_lt, Int.not_le] at hc)) <;> (try (exfalso; first | omega | contradiction)))))
            exact wrx_layC2 (Hn := []) (l := [str [], .slice none 0 0, str [], .slice none 0 0]) rfl rfl rfl rfl (by first | exact List.Mem.head _ | exact List.Mem.tail _ (List.Mem.head _) | exact List.Mem.tail _ (List.Mem.tail _ (List.Mem.head _)) | exact List.Mem.tail _ (List.Mem.tail _ (List.Mem.tail _ (List.Mem.head _))) | exact List.Mem.tail _ (List.Mem.tail _ (List.Mem.tail _ (List.Mem.tail _ (List.Mem.head _)))) | exact List.mem_append_right _ (List.Mem.head _) | exact List.mem_append_right _ (List.Mem.tail _ (List.Mem.head _)) | exact List.mem_append_right _ (List.Mem.tail _ (List.Mem.tail _ (List.Mem.head _))) | exact List.mem_append_right _ (List.Mem.tail _ (List.Mem.tail _ (List.Mem.tail _ (List.Mem.head _)))) | exact List.Mem.tail _ (List.mem_append_right _ (List.Mem.head _)) | exact List.Mem.tail _ (List.mem_append_right _ (List.Mem.tail _ (List.Mem.head _))) | exact List.Mem.tail _ (List.mem_append_right _ (List.Mem.tail _ (List.Mem.tail _ (List.Mem.head _)))) | exact List.Mem.tail _ (List.mem_append_right _ (List.Mem.tail _ (List.Mem.tail _ (List.Mem.tail _ (List.Mem.head _))))) | exact List.Mem.tail _ (List.Mem.tail _ (List.mem_append_right _ (List.Mem.head _))) | exact List.Mem.tail _ (List.Mem.tail _ (List.mem_append_right _ (List.Mem.tail _ (List.Mem.head _)))) | exact List.Mem.tail _ (List.Mem.tail _ (List.mem_append_right _ (List.Mem.tail _ (List.Mem.tail _ (List.Mem.head _)))))) rfl hM1 hsub (elemIs_no hn)
      · have hn : elemX (D + 1) s left = none := by
          have : elemP (D + 1) s = none := by
            unfold elemP
            split
            · rename_i q; exact absurd rfl (hno q)
            · rfl
          unfold elemX; rw [this]
        refine wl_callL rfl Tryd.call41 rfl rfl rfl rfl (fun w hw => take_no hp hw) ?_
        repeat' (first | (first | refine wc_seq ?_ | refine wc_region ?_ | refine wl_nil ?_ | refine wn_seq ?_ | refine wn_blk ?_ | refine wc_skip ?_ | refine wc_scope ?_ | refine wc_label ?_ | refine wn_noGoto ?_ | refine wc_block ?_ | refine wc_exit rfl ?_ | (show WL _ _ (_ :: _) _ _ _ _; first | refine yl_v rfl rfl rfl ?_ | refine wl_v rfl rfl rfl (by first  | fail) ?_ | refine xl_alloc (fun _ => ?_) | refine xl_box rfl (fun _ => ?_) | refine xl_store rfl rfl ?_ | refine xl_buildSlice rfl (fun _ => ?_) | refine wl_makeMap rfl rfl (fun _ => ?_) | refine wl_insert rfl rfl rfl rfl rfl rfl (by first | exact rfl | exact trivial) (by first | exact Upd.here | exact Upd.there Upd.here | exact Upd.there (Upd.there Upd.here) | exact Upd.there (Upd.there (Upd.there Upd.here)) | exact Upd.there (Upd.there (Upd.there (Upd.there Upd.here))) | exact Upd.app _ (Upd.here) | exact Upd.app _ (Upd.there Upd.here) | exact Upd.app _ (Upd.there (Upd.there Upd.here)) | exact Upd.app _ (Upd.there (Upd.there (Upd.there Upd.here))) | exact Upd.there (Upd.app _ (Upd.here)) | exact Upd.there (Upd.app _ (Upd.there Upd.here)) | exact Upd.there (Upd.app _ (Upd.there (Upd.there Upd.here))) | exact Upd.there (Upd.app _ (Upd.there (Upd.there (Upd.there Upd.here)))) | exact Upd.there (Upd.there (Upd.app _ (Upd.here))) | exact Upd.there (Upd.there (Upd.app _ (Upd.there Upd.here))) | exact Upd.there (Upd.there (Upd.app _ (Upd.there (Upd.there Upd.here))))) (by rfl) ?_) | refine wc_ret rfl ?_) | (show WC _ (Code.cond _ _ _) _ _ _ _; (refine wc_cond rfl (fun hc => ?_) (fun hc => ?_) <;> (try (simp only [decide_eq_true_eq, decide_eq_false_iff_not, Bool.and_eq_true, Bool.or_eq_true, Bool.and_eq_false_iff, Bool.or_eq_false_iff, Bool.not_eq_true', Bool.not_eq_false', Int.not_lt, Int.not_le] at hc)) <;> (try (exfalso; first | omega | contradiction)))))
        refine wr_weak (fun w' h => h.perm (List.Perm.swap _ _ _)) ?_
        exact wrx_layC2 (Hn := []) (l := [str [], .slice none 0 0, str [], .slice none 0 0]) (s' := s) (left' := left - 1) rfl rfl rfl rfl (List.Mem.head _) rfl Since.refl (List.Sublist.cons _ (List.Sublist.refl _)) (elemIs_no hn)
end Go.Proofs.YtnfkbbkojgbbeaaDoor
/-
  The document's reading of an element: to, element.
-/
namespace Go.Proofs.YtnfkbbkojgbbeaaDoor
open Go.Eng Go.Pct Go.Xml Go.Rsp
set_option maxRecDepth 10000
set_option linter.unusedSimpArgs false
set_option linter.unusedVariables false

variable {M : Ghost} {w0 w : World} {bs : List Nat} {H : List (Nat × Obj)}
theorem wd_go0 {p : UInt8 → Bool} : ∀ (r : List UInt8) (i : Nat), i ≤ (wd p r).length → ((i < r.length ∧ p (r.getD i 0) = false) ↔ i < (wd p r).length)
  | [], i, h => by simp [wd]
  | c :: r, i, h => by
    unfold wd at *
    cases hc : p c
    · rw [List.takeWhile_cons, hc] at h ⊢
      simp only [Bool.not_false, if_true, List.length_cons] at h ⊢
      cases i with
      | zero => simp [hc]
      | succ i =>
        have := wd_go0 (p := p) r i (by unfold wd; omega)
        unfold wd at this
        simp only [List.getD_cons_succ]
        constructor
        · rintro ⟨a, b⟩; have := this.1 ⟨by omega, b⟩; omega
        · intro a; have := this.2 (by omega); exact ⟨by omega, this.2⟩
    · rw [List.takeWhile_cons, hc] at h ⊢
      simp only [Bool.not_true, Bool.false_eq_true, if_false, List.length_nil, List.length_cons] at h ⊢
      obtain rfl : i = 0 := by omega
      simp [hc]
theorem wd_go {p : UInt8 → Bool} {s : List UInt8} {i0 e : Nat} (h1 : i0 ≤ e) (h2 : e ≤ i0 + (wd p (s.drop i0)).length) : (e < s.length ∧ p (s.getD e 0) = false) ↔ e < i0 + (wd p (s.drop i0)).length := by
  have key := wd_go0 (p := p) (s.drop i0) (e - i0) (by omega)
  have hg : (s.drop i0).getD (e - i0) 0 = s.getD e 0 := by
    rw [List.getD_eq_getElem?_getD, List.getD_eq_getElem?_getD, List.getElem?_drop]
    congr 2; omega
  rw [hg, List.length_drop] at key
  constructor
  · rintro ⟨a, b⟩; have := key.1 ⟨by omega, b⟩; omega
  · intro a; have := key.2 (by omega); exact ⟨by omega, this.2⟩
theorem wd_take (p : UInt8 → Bool) (r : List UInt8) : r.take (wd p r).length = wd p r := by
  have := List.take_left (l₁ := wd p r) (l₂ := rs p r)
  rw [wd_rs] at this; exact this
theorem rs_drop (p : UInt8 → Bool) (r : List UInt8) : r.drop (wd p r).length = rs p r := by
  have := List.drop_left (l₁ := wd p r) (l₂ := rs p r)
  rw [wd_rs] at this; exact this
theorem rs_at (p : UInt8 → Bool) (s : List UInt8) (i : Nat) : s.drop (i + (wd p (s.drop i)).length) = rs p (s.drop i) := by
  rw [← List.drop_drop, rs_drop]
theorem rs_stop (p : UInt8 → Bool) : ∀ r : List UInt8, rs p r = [] ∨ ∃ c t, rs p r = c :: t ∧ p c = true
  | [] => .inl rfl
  | c :: r => by
    cases hc : p c
    · rcases rs_stop p r with h | h
      · left; unfold rs at *; rw [List.dropWhile_cons, hc]; simpa using h
      · right; unfold rs at *; rw [List.dropWhile_cons, hc]; simpa using h
    · right; exact ⟨c, r, by unfold rs; rw [List.dropWhile_cons, hc]; simp, hc⟩
theorem at_cons {s r : List UInt8} {i : Nat} {c : UInt8} : s.drop i = c :: r ↔ (i < s.length ∧ s.getD i 0 = c ∧ s.drop (i + 1) = r) := by
  constructor
  · intro h
    have hl : i < s.length := by
      rcases Nat.lt_or_ge i s.length with h' | h'
      · exact h'
      · rw [List.drop_eq_nil_of_le h'] at h; cases h
    rw [drop_getD hl] at h
    injection h with h1 h2
    exact ⟨hl, h1, h2⟩
  · rintro ⟨hl, rfl, rfl⟩; exact drop_getD hl
theorem isC_iff {c d : UInt8} : isC c d = false ↔ ¬ ((d.toNat : Int) = (c.toNat : Int)) := by
  rw [getD_cast]; unfold isC; simp
theorem isC_self {c d : UInt8} (h : isC c d = true) : d = c := by unfold isC at h; simpa using h
theorem isSp_iff {d : UInt8} : isSp d = false ↔ (¬ ((d.toNat : Int) = 32) ∧ ¬ ((d.toNat : Int) = 62)) := by
  revert d; apply all_bytes; decide +kernel
theorem b60 {d : UInt8} : ((d.toNat : Int) = 60) ↔ d = 60 := u8_eq d 60 (by decide)
theorem b62 {d : UInt8} : ((d.toNat : Int) = 62) ↔ d = 62 := u8_eq d 62 (by decide)
theorem b47 {d : UInt8} : ((d.toNat : Int) = 47) ↔ d = 47 := u8_eq d 47 (by decide)
theorem b34 {d : UInt8} : ((d.toNat : Int) = 34) ↔ d = 34 := u8_eq d 34 (by decide)
theorem b32 {d : UInt8} : ((d.toNat : Int) = 32) ↔ d = 32 := u8_eq d 32 (by decide)
theorem elemP_short : ∀ D : Nat, elemP D [60] = none
  | 0 => rfl
  | D + 1 => rfl
theorem elemP_head {D : Nat} {s : List UInt8} (h : ∀ r, s ≠ 60 :: r) : elemP D s = none := by
  match D with
  | 0 => rfl
  | D + 1 =>
    unfold elemP
    split
    · rename_i r; exact absurd rfl (h r)
    · rfl
theorem rto_ok (hM : Laid M w) (s : List UInt8) (i0 : Nat) (c : UInt8) (hs : s.length ≤ 100000000) (hi0 : i0 ≤ s.length) : Calls Tryd.prog 44 #[str s, i64 (i0 : Int), byt c] w (RetE w (i64 ((i0 + (wd (isC c) (s.drop i0)).length : Nat) : Int))) := by
  have hbd := rs_length (isC c) (s.drop i0)
  rw [List.length_drop] at hbd
  refine calls_st (l := [str s, i64 (i0 : Int), byt c]) hM Tryd.func44 rfl rfl rfl (E0 := [(0, true, str s), (1, true, i64 (i0 : Int)), (2, true, byt c)]) (params_cons rfl (params_cons rfl (params_cons rfl (params_nil _)))) ?_
  repeat' (first | (first | refine wc_seq ?_ | refine wc_region ?_ | refine wl_nil ?_ | refine wn_seq ?_ | refine wn_blk ?_ | refine wc_skip ?_ | refine wc_block ?_ | refine wc_exit rfl ?_ | (show WL _ _ (_ :: _) _ _ _ _; first | refine yl_v rfl rfl rfl ?_ | refine wl_v rfl rfl rfl (by first  | fail) ?_) | refine wc_ret rfl ?_) | (show WC _ (Code.cond _ _ _) _ _ _ _; (refine wc_cond rfl (fun hc => ?_) (fun hc => ?_) <;> (try (simp only [decide_eq_true_eq, decide_eq_false_iff_not, Bool.and_eq_true, Bool.or_eq_true, Bool.and_eq_false_iff, Bool.or_eq_false_iff, Bool.not_eq_true', Bool.not_eq_false', Int.not_lt, Int.not_le] at hc)) <;> (try (exfalso; first | omega | contradiction)))))
  refine wc_loop (α := { e : Nat // i0 ≤ e ∧ e ≤ i0 + (wd (isC c) (s.drop i0)).length }) (fun x => [(0, true, str s), (1, true, i64 (x.1 : Int)), (2, true, byt c)]) (fun _ => St w [] [] M) (fun x => s.length - x.1) ⟨i0, by omega, by omega⟩ (by first | exact Sub.nil _ | (repeat (first | exact Sub.nil _ | refine Sub.cons (by first | rfl | (simp [look]; done)) ?_))) (fun _ h => h) ?_
  rintro ⟨e, h1, h2⟩
  dsimp only
  have hg := wd_go (p := isC c) (s := s) h1 h2
  rw [isC_iff] at hg
  repeat' (first | (first | refine wc_seq ?_ | refine wc_region ?_ | refine wl_nil ?_ | refine wn_seq ?_ | refine wn_blk ?_ | refine wc_skip ?_ | refine wc_block ?_ | refine wc_exit rfl ?_ | (show WL _ _ (_ :: _) _ _ _ _; first | refine yl_v rfl rfl rfl ?_ | refine wl_v rfl rfl rfl (by first  | fail) ?_) | refine wc_ret rfl ?_) | (show WC _ (Code.cond _ _ _) _ _ _ _; (refine wc_cond rfl (fun hc => ?_) (fun hc => ?_) <;> (try (simp only [decide_eq_true_eq, decide_eq_false_iff_not, Bool.and_eq_true, Bool.or_eq_true, Bool.and_eq_false_iff, Bool.or_eq_false_iff, Bool.not_eq_true', Bool.not_eq_false', Int.not_lt, Int.not_le] at hc)) <;> (try (exfalso; first | omega | contradiction)))))
  · refine wn_cut ⟨e + 1, by omega, by have := hg.1 ⟨by omega, hc.2⟩; omega⟩ (by show s.length - (e + 1) < s.length - e; omega) (by first | exact Sub.nil _ | (repeat (first | exact Sub.nil _ | refine Sub.cons (by first | rfl | (simp [look]; done)) ?_))) (fun _ h => h.drop (by repeat (first | exact List.Sublist.refl _ | apply List.Sublist.cons)))
  · have : e = i0 + (wd (isC c) (s.drop i0)).length := by
      rcases Nat.lt_or_ge e (i0 + (wd (isC c) (s.drop i0)).length) with h | h
      · exfalso
        have h3 := hg.2 h
        rcases hc with hc | hc
        · omega
        · exact h3.2 hc
      · omega
    exact wr_tmp rfl rfl (by rw [this])
end Go.Proofs.YtnfkbbkojgbbeaaDoor
/-
  The document's reading of an element: element.
-/
namespace Go.Proofs.YtnfkbbkojgbbeaaDoor
open Go.Eng Go.Pct Go.Xml Go.Rsp
set_option maxRecDepth 10000
set_option linter.unusedSimpArgs false
set_option linter.unusedVariables false

variable {M : Ghost} {w0 w : World} {bs : List Nat} {H : List (Nat × Obj)}
/-- what the document's reading of an element yields -/
def RelemIs (D : Nat) (s : List UInt8) (i0 : Nat) (M' : Ghost) (v : Value) : Prop :=
  match elemP D (s.drop i0) with
  | some (x, r) => ∃ (vs : List Value) (n : Nat), v = .tuple #[.agg vs.toArray, i64 (n : Int)] ∧ NodeC M' D x vs ∧ n ≤ s.length ∧ s.drop n = r
  | none => ∃ n a1 l1 c1 t a2 l2 c2, v = .tuple #[.agg #[str n, .slice a1 l1 c1, str t, .slice a2 l2 c2], i64 (-1)]
theorem relemIs_no {D : Nat} {s : List UInt8} {i0 : Nat} {M' : Ghost} {n : List UInt8} {a1 l1 c1 t a2 l2 c2} (h : elemP D (s.drop i0) = none) : RelemIs D s i0 M' (.tuple #[.agg #[str n, .slice a1 l1 c1, str t, .slice a2 l2 c2], i64 (-1)]) := by
  unfold RelemIs; rw [h]; exact ⟨_, _, _, _, _, _, _, _, rfl⟩
/-- as far as the attributes have been read -/
structure RA (s r2 : List UInt8) where
  f : Nat
  i : Nat
  acc : List Pr
  v : Value
  Hs : List (Nat × Obj)
  le : i ≤ s.length
  fuel : s.length - i ≤ f
  inv : attrsP (r2.length + 1) r2 = (attrsP (f + 1) (s.drop i)).map fun x => (acc ++ x.1, x.2)
  len : acc.length + (s.length - i) ≤ s.length
  own : OwnS 39 2 v Hs (cellsP acc)
/-- as far as the kids have been read -/
structure RK (D : Nat) (M1 : Ghost) (s r4 : List UInt8) (w0 : World) where
  f : Nat
  i : Nat
  acc : List Nd
  v : Value
  Hs : List (Nat × Obj)
  xs : List Value
  M' : Ghost
  le : i ≤ s.length
  fuel : s.length - i < f
  len : acc.length + (s.length - i) ≤ s.length
  inv : kidsP (elemP D) (r4.length + 1) r4 = (kidsP (elemP D) f (s.drop i)).map fun y => (acc ++ y.1, y.2)
  own : OwnS 31 4 v Hs xs
  xlen : xs.length = acc.length * 4
  nodes : ∀ j (hj : j < acc.length), NodeC M' D acc[j] ((xs.drop (j * 4)).take 4)
  since : Since w0 M1 M'
theorem take_prefix {s p : List UInt8} (h : p.length ≤ s.length) : s.take p.length = p ↔ p.isPrefixOf s = true := by
  rw [List.isPrefixOf_iff_prefix, List.prefix_iff_eq_take]
  exact ⟨fun h => h.symm, fun h => h.symm⟩
set_option maxHeartbeats 8000000 in
theorem refelem_ok : ∀ (D : Nat) (deep : Int), deep = 9 - (D : Int) → D ≤ 8 → ∀ (M : Ghost) (s : List UInt8) (i0 : Nat) (w : World), Laid M w → s.length ≤ 100000000 → i0 ≤ s.length → Calls Tryd.prog 30 #[str s, i64 (i0 : Int), i64 deep] w (RetS M w (fun M' H v => H = [] ∧ RelemIs D s i0 M' v))
  | 0, deep, hD, hD8 => by
    intro M s i0 w hM hs hi0
    refine calls_st (l := [str s, i64 (i0 : Int), i64 deep]) hM Tryd.func30 rfl rfl rfl (E0 := [(0, true, str s), (1, true, i64 (i0 : Int)), (2, true, i64 deep)]) (params_cons rfl (params_cons rfl (params_cons rfl (params_nil _)))) ?_
    obtain rfl : deep = 9 := by omega
    repeat' (first | (first | refine wc_seq ?_ | refine wc_region ?_ | refine wl_nil ?_ | refine wn_seq ?_ | refine wn_blk ?_ | refine wc_skip ?_ | refine wc_block ?_ | refine wc_exit rfl ?_ | (show WL _ _ (_ :: _) _ _ _ _; first | refine yl_v rfl rfl rfl ?_ | refine wl_v rfl rfl rfl (by first | (show OpV _ _ _ _ (Oper.mk _ (Op.index _ _ _) _ _ _ _) _ _; exact ov_off (v := .int .u8 0) rfl) | fail) ?_ | refine xl_alloc (fun _ => ?_) | refine xl_store rfl rfl ?_ | refine xl_buildSlice rfl (fun _ => ?_)) | refine wc_ret rfl ?_) | (show WC _ (Code.cond _ _ _) _ _ _ _; (refine wc_cond rfl (fun hc => ?_) (fun hc => ?_) <;> (try (simp only [decide_eq_true_eq, decide_eq_false_iff_not, Bool.and_eq_true, Bool.or_eq_true, Bool.and_eq_false_iff, Bool.or_eq_false_iff, Bool.not_eq_true', Bool.not_eq_false', Int.not_lt, Int.not_le] at hc)) <;> (try (exfalso; first | omega | contradiction)))))
    exact yr_layC2 (Hn := []) rfl rfl rfl rfl rfl Since.refl (List.nil_sublist _) ⟨rfl, relemIs_no rfl⟩
  | D + 1, deep, hD, hD8 => by
    intro M s i0 w hM hs hi0
    refine calls_st (l := [str s, i64 (i0 : Int), i64 deep]) hM Tryd.func30 rfl rfl rfl (E0 := [(0, true, str s), (1, true, i64 (i0 : Int)), (2, true, i64 deep)]) (params_cons rfl (params_cons rfl (params_cons rfl (params_nil _)))) ?_
    repeat' (first | refine wc_seq ?_ | refine wc_region ?_ | refine wl_nil ?_ | refine wn_seq ?_ | refine wn_blk ?_ | refine wc_skip ?_ | refine wc_block ?_ | refine wc_exit rfl ?_ | (show WL _ _ (_ :: _) _ _ _ _; first | refine yl_v rfl rfl rfl ?_ | refine wl_v rfl rfl rfl (by first  | fail) ?_ | refine xl_alloc (fun _ => ?_) | refine xl_store rfl rfl ?_ | refine xl_buildSlice rfl (fun _ => ?_)) | refine wc_ret rfl ?_)
    refine wc_cond rfl (fun hc => ?_) (fun hc => ?_)
    · (simp only [decide_eq_true_eq, decide_eq_false_iff_not, Bool.and_eq_true, Bool.or_eq_true, Bool.and_eq_false_iff, Bool.or_eq_false_iff, Bool.not_eq_true', Bool.not_eq_false', Int.not_lt, Int.not_le] at hc)
      have hn : elemP (D + 1) (s.drop i0) = none := elemP_head (fun r e => by
        obtain ⟨h1, h2, h3⟩ := at_cons.1 e
        rcases hc with (hc | hc) | hc
        · omega
        · omega
        · exact hc (b60.2 h2))
      repeat' (first | (first | refine wc_seq ?_ | refine wc_region ?_ | refine wl_nil ?_ | refine wn_seq ?_ | refine wn_blk ?_ | refine wc_skip ?_ | refine wc_block ?_ | refine wc_exit rfl ?_ | (show WL _ _ (_ :: _) _ _ _ _; first | refine yl_v rfl rfl rfl ?_ | refine wl_v rfl rfl rfl (by first  | fail) ?_ | refine xl_alloc (fun _ => ?_) | refine xl_store rfl rfl ?_ | refine xl_buildSlice rfl (fun _ => ?_)) | refine wc_ret rfl ?_) | (show WC _ (Code.cond _ _ _) _ _ _ _; (refine wc_cond rfl (fun hc => ?_) (fun hc => ?_) <;> (try (simp only [decide_eq_true_eq, decide_eq_false_iff_not, Bool.and_eq_true, Bool.or_eq_true, Bool.and_eq_false_iff, Bool.or_eq_false_iff, Bool.not_eq_true', Bool.not_eq_false', Int.not_lt, Int.not_le] at hc)) <;> (try (exfalso; first | omega | contradiction)))))
      exact yr_layC2 (Hn := []) rfl rfl rfl rfl rfl Since.refl (List.nil_sublist _) ⟨rfl, relemIs_no hn⟩
    (simp only [decide_eq_true_eq, decide_eq_false_iff_not, Bool.and_eq_true, Bool.or_eq_true, Bool.and_eq_false_iff, Bool.or_eq_false_iff, Bool.not_eq_true', Bool.not_eq_false', Int.not_lt, Int.not_le] at hc)
    obtain ⟨⟨hc1, hc2⟩, hc3⟩ := hc
    have hlt : i0 < s.length := by omega
    have h60 : s.getD i0 0 = 60 := by
      refine b60.1 ?_
      exact hc3
    clear hc1 hc2 hc3
    have hr0 : s.drop i0 = 60 :: s.drop (i0 + 1) := at_cons.2 ⟨hlt, h60, rfl⟩
    have hel : elemP (D + 1) (s.drop i0) = match headP (rs isSp (s.drop (i0 + 1))) with
      | none => none
      | some (a, t, r4) => match kidsP (elemP D) (r4.length + 1) r4 with
        | none => none
        | some (k, r5) => if (closeT (wd isSp (s.drop (i0 + 1)))).isPrefixOf r5 = true then some (.mk (wd isSp (s.drop (i0 + 1))) a t k, r5.drop (closeT (wd isSp (s.drop (i0 + 1)))).length) else none := by rw [hr0]; rfl
    have hbd := rs_length isSp (s.drop (i0 + 1))
    rw [List.length_drop] at hbd
    have hat2 := rs_at isSp s (i0 + 1)
    have hnm := wd_take isSp (s.drop (i0 + 1))
    repeat' (first | refine wc_seq ?_ | refine wc_region ?_ | refine wl_nil ?_ | refine wn_seq ?_ | refine wn_blk ?_ | refine wc_skip ?_ | refine wc_block ?_ | refine wc_exit rfl ?_ | (show WL _ _ (_ :: _) _ _ _ _; first | refine yl_v rfl rfl rfl ?_ | refine wl_v rfl rfl rfl (by first  | fail) ?_ | refine xl_alloc (fun _ => ?_) | refine xl_store rfl rfl ?_ | refine xl_buildSlice rfl (fun _ => ?_)) | refine wc_ret rfl ?_)
    rename_i b6 b8
    refine wc_loop (α := { e : Nat // i0 + 1 ≤ e ∧ e ≤ i0 + 1 + (wd isSp (s.drop (i0 + 1))).length }) (fun x => [(0, true, str s), (1, true, i64 ((i0 + 1 : Nat) : Int)), (2, true, i64 deep), (6, true, .pointer (some ⟨b6, 0, none⟩)), (8, true, .pointer (some ⟨b8, 0, none⟩)), (9, true, i64 (x.1 : Int))]) (fun _ => St w [] [(b8, .cells [str [], .slice none 0 0, str [], .slice none 0 0].toArray 31 (0, 0)), (b6, .cells [str [], .slice none 0 0, str [], .slice none 0 0].toArray 31 (0, 0))] M) (fun x => s.length - x.1) ⟨i0 + 1, by omega, by omega⟩ (by first | exact Sub.nil _ | (repeat (first | exact Sub.nil _ | refine Sub.cons (by first | rfl | (simp [look]; done)) ?_))) (fun _ h => h) ?_
    rintro ⟨e1, he1, he2⟩
    dsimp only
    have hg := wd_go (p := isSp) (s := s) he1 he2
    rw [isSp_iff] at hg
    repeat' (first | refine wc_seq ?_ | refine wc_region ?_ | refine wl_nil ?_ | refine wn_seq ?_ | refine wn_blk ?_ | refine wc_skip ?_ | refine wc_block ?_ | refine wc_exit rfl ?_ | (show WL _ _ (_ :: _) _ _ _ _; first | refine yl_v rfl rfl rfl ?_ | refine wl_v rfl rfl rfl (by first  | fail) ?_ | refine xl_alloc (fun _ => ?_) | refine xl_store rfl rfl ?_ | refine xl_buildSlice rfl (fun _ => ?_)) | refine wc_ret rfl ?_)
    refine wc_cond rfl (fun hc => ?_) (fun hc => ?_)
    · (simp only [decide_eq_true_eq, decide_eq_false_iff_not, Bool.and_eq_true, Bool.or_eq_true, Bool.and_eq_false_iff, Bool.or_eq_false_iff, Bool.not_eq_true', Bool.not_eq_false', Int.not_lt, Int.not_le] at hc)
      have hlt1 := hg.1 ⟨by omega, hc.1.2, hc.2⟩
      repeat' (first | refine wc_seq ?_ | refine wc_region ?_ | refine wl_nil ?_ | refine wn_seq ?_ | refine wn_blk ?_ | refine wc_skip ?_ | refine wc_block ?_ | refine wc_exit rfl ?_ | (show WL _ _ (_ :: _) _ _ _ _; first | refine yl_v rfl rfl rfl ?_ | refine wl_v rfl rfl rfl (by first  | fail) ?_ | refine xl_alloc (fun _ => ?_) | refine xl_store rfl rfl ?_ | refine xl_buildSlice rfl (fun _ => ?_)) | refine wc_ret rfl ?_)
      exact wn_cut ⟨e1 + 1, by omega, by omega⟩ (by show s.length - (e1 + 1) < s.length - e1; omega) (by first | exact Sub.nil _ | (repeat (first | exact Sub.nil _ | refine Sub.cons (by first | rfl | (simp [look]; done)) ?_))) (fun _ h => h.drop (by repeat (first | exact List.Sublist.refl _ | apply List.Sublist.cons)))
    (simp only [decide_eq_true_eq, decide_eq_false_iff_not, Bool.and_eq_true, Bool.or_eq_true, Bool.and_eq_false_iff, Bool.or_eq_false_iff, Bool.not_eq_true', Bool.not_eq_false', Int.not_lt, Int.not_le] at hc)
    obtain rfl : e1 = i0 + 1 + (wd isSp (s.drop (i0 + 1))).length := by
      rcases Nat.lt_or_ge e1 (i0 + 1 + (wd isSp (s.drop (i0 + 1))).length) with h | h
      · exfalso
        have h3 := hg.2 h
        rcases hc with (hc | hc) | hc
        · omega
        · exact h3.2.1 hc
        · exact h3.2.2 hc
      · omega
    clear hg hc he1 he2
    rw [← hat2] at hel
    have hi1 : i0 + 1 + (wd isSp (s.drop (i0 + 1))).length ≤ s.length := by omega
    have hsl : (s.drop (i0 + 1)).take (i0 + 1 + (wd isSp (s.drop (i0 + 1))).length - (i0 + 1)) = wd isSp (s.drop (i0 + 1)) := by
      rw [Nat.add_sub_cancel_left]; exact hnm
    repeat' (first | refine wc_seq ?_ | refine wc_region ?_ | refine wl_nil ?_ | refine wn_seq ?_ | refine wn_blk ?_ | refine wc_skip ?_ | refine wc_block ?_ | refine wc_exit rfl ?_ | (show WL _ _ (_ :: _) _ _ _ _; first | refine yl_v rfl rfl rfl ?_ | refine wl_v rfl rfl rfl (by first  | fail) ?_ | refine xl_alloc (fun _ => ?_) | refine xl_store rfl rfl ?_ | refine xl_buildSlice rfl (fun _ => ?_)) | refine wc_ret rfl ?_)
    refine wc_weak (E' := [(0, true, str s), (1, true, i64 ((i0 + 1 + (wd isSp (s.drop (i0 + 1))).length : Nat) : Int)), (2, true, i64 deep), (6, true, .pointer (some ⟨b6, 0, none⟩)), (8, true, .pointer (some ⟨b8, 0, none⟩))]) (C' := St w [] [(b8, .cells [str (wd isSp (s.drop (i0 + 1))), .slice none 0 0, str [], .slice none 0 0].toArray 31 (0, 0)), (b6, .cells [str [], .slice none 0 0, str [], .slice none 0 0].toArray 31 (0, 0))] M) (by first | exact Sub.nil _ | (repeat (first | exact Sub.nil _ | refine Sub.cons (by first | rfl | (simp [look]; done)) ?_))) (fun w' h => by rw [hsl] at h; exact h) ?_
    have hnml : (wd isSp (s.drop (i0 + 1))).length ≤ s.length := by omega
    clear hsl hat2 hnm hbd
    generalize wd isSp (s.drop (i0 + 1)) = nm at *
    generalize i0 + 1 + nm.length = i1 at *
    refine wc_loop (α := RA s (s.drop i1)) (fun x => [(0, true, str s), (1, true, i64 (x.i : Int)), (2, true, i64 deep), (6, true, .pointer (some ⟨b6, 0, none⟩)), (8, true, .pointer (some ⟨b8, 0, none⟩))]) (fun x => St w [] ((b8, .cells [str nm, x.v, str [], .slice none 0 0].toArray 31 (0, 0)) :: (b6, .cells [str [], .slice none 0 0, str [], .slice none 0 0].toArray 31 (0, 0)) :: x.Hs) M) (fun x => x.f) ⟨s.length - i1, i1, [], .slice none 0 0, [], hi1, Nat.le_refl _, by rw [List.length_drop]; simp, by simp, OwnS.nil⟩ (by first | exact Sub.nil _ | (repeat (first | exact Sub.nil _ | refine Sub.cons (by first | rfl | (simp [look]; done)) ?_))) (fun _ h => h) ?_
    rintro ⟨f, i, acc, v, Hs, le, fuel, inv, len, own⟩
    dsimp only
    obtain ⟨va, vcap, rfl⟩ := own.slice (k := acc.length) (by decide) (cellsP_length _)
    have failA : attrsP ((s.drop i1).length + 1) (s.drop i1) = none → elemP (D + 1) (s.drop i0) = none := fun h => by rw [hel]; unfold headP; rw [h]
    repeat' (first | refine wc_seq ?_ | refine wc_region ?_ | refine wl_nil ?_ | refine wn_seq ?_ | refine wn_blk ?_ | refine wc_skip ?_ | refine wc_block ?_ | refine wc_exit rfl ?_ | (show WL _ _ (_ :: _) _ _ _ _; first | refine yl_v rfl rfl rfl ?_ | refine wl_v rfl rfl rfl (by first  | fail) ?_ | refine xl_alloc (fun _ => ?_) | refine xl_store rfl rfl ?_ | refine xl_buildSlice rfl (fun _ => ?_)) | refine wc_ret rfl ?_)
    refine wc_cond rfl (fun hc => ?_) (fun hc => ?_)
    · (simp only [decide_eq_true_eq, decide_eq_false_iff_not, Bool.and_eq_true, Bool.or_eq_true, Bool.and_eq_false_iff, Bool.or_eq_false_iff, Bool.not_eq_true', Bool.not_eq_false', Int.not_lt, Int.not_le] at hc)
      have hli : i < s.length := by omega
      have h32 : s.drop i = 32 :: s.drop (i + 1) := at_cons.2 ⟨hli, b32.1 hc.2, rfl⟩
      rw [h32, attrsP] at inv
      have hk0 : i + (wd (isC 61) (s.drop i)).length = i + 1 + (wd (isC 61) (s.drop (i + 1))).length := by
        rw [h32]
        show i + (32 :: wd (isC 61) (s.drop (i + 1))).length = _
        rw [List.length_cons]; omega
      have hto := fun {w : World} (hw : Laid M w) => rto_ok hw s i 61 hs le
      rw [hk0] at hto
      have hkl := rs_length (isC 61) (s.drop (i + 1))
      rw [List.length_drop] at hkl
      have hat3 := rs_at (isC 61) s (i + 1)
      have hkey := wd_take (isC 61) (s.drop (i + 1))
      have hkx : i + 1 + (wd (isC 61) (s.drop (i + 1))).length ≤ s.length := by omega
      have hslk : (s.drop (i + 1)).take (i + 1 + (wd (isC 61) (s.drop (i + 1))).length - (i + 1)) = wd (isC 61) (s.drop (i + 1)) := by rw [Nat.add_sub_cancel_left]; exact hkey
      have hst := rs_stop (isC 61) (s.drop (i + 1))
      rw [← hat3] at hst
      clear hkey hk0 hkl
      repeat' (first | refine wc_seq ?_ | refine wc_region ?_ | refine wl_nil ?_ | refine wn_seq ?_ | refine wn_blk ?_ | refine wc_skip ?_ | refine wc_block ?_ | refine wc_exit rfl ?_ | (show WL _ _ (_ :: _) _ _ _ _; first | refine yl_v rfl rfl rfl ?_ | refine wl_v rfl rfl rfl (by first | ((show OpV _ _ _ _ (Oper.mk _ (Op.call ⟨.value (.func 44), _, _⟩) _ _ _ _) _ _; exact ov_call Tryd.call44 rfl (by intro himp; first | rfl | (simp_all; done)) (by rfl) (fun _ _ h k => h.ext k) (fun hcg w hw => hto hw.laid))) | fail) ?_ | refine xl_alloc (fun _ => ?_) | refine xl_store rfl rfl ?_ | refine xl_buildSlice rfl (fun _ => ?_)) | refine wc_ret rfl ?_)
      have hno1 := attrP_no1 (r := s.drop (i + 1))
      have hno2 := fun {r2 : List UInt8} => attrP_no2 (r := s.drop (i + 1)) (r2 := r2)
      have hno3 := fun {r2 v : List UInt8} => attrP_no3 (r := s.drop (i + 1)) (r2 := r2) (v := v)
      have hyes := fun {r2 v r4 : List UInt8} => attrP_yes (r := s.drop (i + 1)) (r2 := r2) (v := v) (r4 := r4)
      rw [← hat3] at hno1 hno2 hno3 hyes
      clear hat3
      clear hto
      have failP : attrP (s.drop (i + 1)) = none → elemP (D + 1) (s.drop i0) = none := fun h => failA (by rw [inv, h]; rfl)
      have hik : i + 1 ≤ i + 1 + (wd (isC 61) (s.drop (i + 1))).length := by omega
      have hklen : (wd (isC 61) (s.drop (i + 1))).length ≤ s.length := by omega
      generalize wd (isC 61) (s.drop (i + 1)) = key at *
      generalize i + 1 + key.length = k at *
      refine wc_cond rfl (fun hc => ?_) (fun hc => ?_)
      · (simp only [decide_eq_true_eq, decide_eq_false_iff_not, Bool.and_eq_true, Bool.or_eq_true, Bool.and_eq_false_iff, Bool.or_eq_false_iff, Bool.not_eq_true', Bool.not_eq_false', Int.not_lt, Int.not_le] at hc)
        have hn := failP (hno1 (fun q e => by
          obtain ⟨g1, g2, g3⟩ := at_cons.1 e
          obtain ⟨g4, g5, g6⟩ := at_cons.1 g3
          rcases hc with hc | hc
          · omega
          · exact hc (b34.2 g5)))
        repeat' (first | (first | refine wc_seq ?_ | refine wc_region ?_ | refine wl_nil ?_ | refine wn_seq ?_ | refine wn_blk ?_ | refine wc_skip ?_ | refine wc_block ?_ | refine wc_exit rfl ?_ | (show WL _ _ (_ :: _) _ _ _ _; first | refine yl_v rfl rfl rfl ?_ | refine wl_v rfl rfl rfl (by first  | fail) ?_ | refine xl_alloc (fun _ => ?_) | refine xl_store rfl rfl ?_ | refine xl_buildSlice rfl (fun _ => ?_)) | refine wc_ret rfl ?_) | (show WC _ (Code.cond _ _ _) _ _ _ _; (refine wc_cond rfl (fun hc => ?_) (fun hc => ?_) <;> (try (simp only [decide_eq_true_eq, decide_eq_false_iff_not, Bool.and_eq_true, Bool.or_eq_true, Bool.and_eq_false_iff, Bool.or_eq_false_iff, Bool.not_eq_true', Bool.not_eq_false', Int.not_lt, Int.not_le] at hc)) <;> (try (exfalso; first | omega | contradiction)))))
        exact yr_layC2 (Hn := []) rfl rfl rfl rfl rfl Since.refl (List.nil_sublist _) ⟨rfl, relemIs_no hn⟩
      (simp only [decide_eq_true_eq, decide_eq_false_iff_not, Bool.and_eq_true, Bool.or_eq_true, Bool.and_eq_false_iff, Bool.or_eq_false_iff, Bool.not_eq_true', Bool.not_eq_false', Int.not_lt, Int.not_le] at hc)
      have hk1 : k + 1 < s.length := by omega
      have hk34 : s.getD (k + 1) 0 = 34 := b34.1 hc.2
      have h61 : s.drop k = 61 :: 34 :: s.drop (k + 2) := by
        have h2 : s.drop (k + 1) = 34 :: s.drop (k + 2) := at_cons.2 ⟨hk1, hk34, rfl⟩
        rcases hst with h | ⟨c, t, h, hcc⟩
        · have := congrArg List.length h
          rw [List.length_drop, List.length_nil] at this; omega
        · obtain ⟨g1, g2, g3⟩ := at_cons.1 h
          rw [isC_self hcc] at g2
          rw [← h2]; exact at_cons.2 ⟨g1, g2, rfl⟩
      have hto := fun {w : World} (hw : Laid M w) => rto_ok hw s (k + 2) 34 hs (by omega)
      have hql := rs_length (isC 34) (s.drop (k + 2))
      rw [List.length_drop] at hql
      have hat4 := rs_at (isC 34) s (k + 2)
      have hval := wd_take (isC 34) (s.drop (k + 2))
      have hslv : (s.drop (k + 2)).take (k + 2 + (wd (isC 34) (s.drop (k + 2))).length - (k + 2)) = wd (isC 34) (s.drop (k + 2)) := by rw [Nat.add_sub_cancel_left]; exact hval
      have hst4 := rs_stop (isC 34) (s.drop (k + 2))
      have hno2 := hno2 h61
      have hno3 := fun {v : List UInt8} => hno3 (v := v) h61
      have hyes := fun {v r4 : List UInt8} => hyes (v := v) (r4 := r4) h61
      rw [← hat4] at hst4 hno3 hyes
      have hqx : k + 2 + (wd (isC 34) (s.drop (k + 2))).length ≤ s.length := by omega
      have hvl : (wd (isC 34) (s.drop (k + 2))).length ≤ s.length := by omega
      clear hat4 hval hql hno1 hst
      repeat' (first | refine wc_seq ?_ | refine wc_region ?_ | refine wl_nil ?_ | refine wn_seq ?_ | refine wn_blk ?_ | refine wc_skip ?_ | refine wc_block ?_ | refine wc_exit rfl ?_ | (show WL _ _ (_ :: _) _ _ _ _; first | refine yl_v rfl rfl rfl ?_ | refine wl_v rfl rfl rfl (by first | ((show OpV _ _ _ _ (Oper.mk _ (Op.call ⟨.value (.func 44), _, _⟩) _ _ _ _) _ _; exact ov_call Tryd.call44 rfl (by intro himp; first | rfl | (simp_all; done)) (by rfl) (fun _ _ h k => h.ext k) (fun hcg w hw => hto hw.laid))) | fail) ?_ | refine xl_alloc (fun _ => ?_) | refine xl_store rfl rfl ?_ | refine xl_buildSlice rfl (fun _ => ?_)) | refine wc_ret rfl ?_)
      clear hto
      have hkq : k + 2 ≤ k + 2 + (wd (isC 34) (s.drop (k + 2))).length := by omega
      generalize wd (isC 34) (s.drop (k + 2)) = vv at *
      generalize k + 2 + vv.length = q at *
      refine wc_cond rfl (fun hc => ?_) (fun hc => ?_)
      · (simp only [decide_eq_true_eq, decide_eq_false_iff_not, Bool.and_eq_true, Bool.or_eq_true, Bool.and_eq_false_iff, Bool.or_eq_false_iff, Bool.not_eq_true', Bool.not_eq_false', Int.not_lt, Int.not_le] at hc)
        have hn : elemP (D + 1) (s.drop i0) = none := by
          refine failP ?_
          cases hu : unescQ vv with
          | none => exact hno2 hu
          | some x =>
            refine hno3 hu (fun t e => ?_)
            have := congrArg List.length e
            rw [List.length_drop, List.length_cons] at this; omega
        repeat' (first | (first | refine wc_seq ?_ | refine wc_region ?_ | refine wl_nil ?_ | refine wn_seq ?_ | refine wn_blk ?_ | refine wc_skip ?_ | refine wc_block ?_ | refine wc_exit rfl ?_ | (show WL _ _ (_ :: _) _ _ _ _; first | refine yl_v rfl rfl rfl ?_ | refine wl_v rfl rfl rfl (by first  | fail) ?_ | refine xl_alloc (fun _ => ?_) | refine xl_store rfl rfl ?_ | refine xl_buildSlice rfl (fun _ => ?_)) | refine wc_ret rfl ?_) | (show WC _ (Code.cond _ _ _) _ _ _ _; (refine wc_cond rfl (fun hc => ?_) (fun hc => ?_) <;> (try (simp only [decide_eq_true_eq, decide_eq_false_iff_not, Bool.and_eq_true, Bool.or_eq_true, Bool.and_eq_false_iff, Bool.or_eq_false_iff, Bool.not_eq_true', Bool.not_eq_false', Int.not_lt, Int.not_le] at hc)) <;> (try (exfalso; first | omega | contradiction)))))
        exact yr_layC2 (Hn := []) rfl rfl rfl rfl rfl Since.refl (List.nil_sublist _) ⟨rfl, relemIs_no hn⟩
      (simp only [decide_eq_true_eq, decide_eq_false_iff_not, Bool.and_eq_true, Bool.or_eq_true, Bool.and_eq_false_iff, Bool.or_eq_false_iff, Bool.not_eq_true', Bool.not_eq_false', Int.not_lt, Int.not_le] at hc)
      have hqlt : q < s.length := by omega
      have h34 : s.drop q = 34 :: s.drop (q + 1) := by
        rcases hst4 with h | ⟨c, t, h, hcc⟩
        · have := congrArg List.length h
          rw [List.length_drop, List.length_nil] at this; omega
        · obtain ⟨g1, g2, g3⟩ := at_cons.1 h
          rw [isC_self hcc] at g2
          exact at_cons.2 ⟨g1, g2, rfl⟩
      have hun := fun {w : World} (hw : Laid M w) => runescape_ok hw vv (by omega)
      rw [← hslv] at hun
      cases hu : unescQ vv with
      | none =>
        have hn := failP (hno2 hu)
        have hun : ∀ {w : World}, Laid M w → Calls Tryd.prog 10 #[str ((s.drop (k + 2)).take (q - (k + 2)))] w (RetE w (.tuple #[str [], i64 10])) := fun h => by have := hun h; rw [hslv, hu] at this; rw [hslv]; exact this
        repeat' (first | (first | refine wc_seq ?_ | refine wc_region ?_ | refine wl_nil ?_ | refine wn_seq ?_ | refine wn_blk ?_ | refine wc_skip ?_ | refine wc_block ?_ | refine wc_exit rfl ?_ | (show WL _ _ (_ :: _) _ _ _ _; first | refine yl_v rfl rfl rfl ?_ | refine wl_v rfl rfl rfl (by first | ((show OpV _ _ _ _ (Oper.mk _ (Op.call ⟨.value (.func 10), _, _⟩) _ _ _ _) _ _; exact ov_call Tryd.call10 rfl (by intro himp; first | rfl | (simp_all; done)) (by rfl) (fun _ _ h k => h.ext k) (fun hcg w hw => hun hw.laid))) | fail) ?_ | refine xl_alloc (fun _ => ?_) | refine xl_store rfl rfl ?_ | refine xl_buildSlice rfl (fun _ => ?_)) | refine wc_ret rfl ?_) | (show WC _ (Code.cond _ _ _) _ _ _ _; (refine wc_cond rfl (fun hc => ?_) (fun hc => ?_) <;> (try (simp only [decide_eq_true_eq, decide_eq_false_iff_not, Bool.and_eq_true, Bool.or_eq_true, Bool.and_eq_false_iff, Bool.or_eq_false_iff, Bool.not_eq_true', Bool.not_eq_false', Int.not_lt, Int.not_le] at hc)) <;> (try (exfalso; first | omega | contradiction)))))
        exact yr_layC2 (Hn := []) rfl rfl rfl rfl rfl Since.refl (List.nil_sublist _) ⟨rfl, relemIs_no hn⟩
      | some val =>
        have hvl2 := unescQ_len hu
        have hun : ∀ {w : World}, Laid M w → Calls Tryd.prog 10 #[str ((s.drop (k + 2)).take (q - (k + 2)))] w (RetE w (.tuple #[str val, i64 0])) := fun h => by have := hun h; rw [hslv, hu] at this; rw [hslv]; exact this
        have hy := hyes hu h34
        rw [hy] at inv
        repeat' (first | (first | refine wc_seq ?_ | refine wc_region ?_ | refine wl_nil ?_ | refine wn_seq ?_ | refine wn_blk ?_ | refine wc_skip ?_ | refine wc_block ?_ | refine wc_exit rfl ?_ | (show WL _ _ (_ :: _) _ _ _ _; first | refine yl_v rfl rfl rfl ?_ | refine wl_v rfl rfl rfl (by first | ((show OpV _ _ _ _ (Oper.mk _ (Op.call ⟨.value (.func 10), _, _⟩) _ _ _ _) _ _; exact ov_call Tryd.call10 rfl (by intro himp; first | rfl | (simp_all; done)) (by rfl) (fun _ _ h k => h.ext k) (fun hcg w hw => hun hw.laid))) | fail) ?_ | refine xl_alloc (fun _ => ?_) | refine xl_store rfl rfl ?_ | refine xl_buildSlice rfl (fun _ => ?_)) | refine wc_ret rfl ?_) | (show WC _ (Code.cond _ _ _) _ _ _ _; (refine wc_cond rfl (fun hc => ?_) (fun hc => ?_) <;> (try (simp only [decide_eq_true_eq, decide_eq_false_iff_not, Bool.and_eq_true, Bool.or_eq_true, Bool.and_eq_false_iff, Bool.or_eq_false_iff, Bool.not_eq_true', Bool.not_eq_false', Int.not_lt, Int.not_le] at hc)) <;> (try (exfalso; first | omega | contradiction)))))
        match f, fuel, inv with
        | 0, fuel, _ => exfalso; omega
        | f + 1, fuel, inv =>
          refine wc_weak (E' := [(0, true, str s), (1, true, i64 (i : Int)), (2, true, i64 deep), (6, true, .pointer (some ⟨b6, 0, none⟩)), (8, true, .pointer (some ⟨b8, 0, none⟩)), (10, true, i64 (k : Int)), (11, true, i64 (q : Int)), (12, true, str val)]) (C' := St w [] (Hs ++ [(b8, .cells [str nm, .slice va acc.length vcap, str [], .slice none 0 0].toArray 31 (0, 0)), (b6, .cells [str [], .slice none 0 0, str [], .slice none 0 0].toArray 31 (0, 0))]) M) (by first | exact Sub.nil _ | (repeat (first | exact Sub.nil _ | refine Sub.cons (by first | rfl | (simp [look]; done)) ?_))) (fun _ h => h.perm (List.perm_append_comm (l₂ := [_, _]))) ?_
          refine wc_draw 10 (by kernel_rfl) rfl (by kernel_rfl) (fun _ _ h k => h.ext k) ?_
          repeat' (first | (show WD _ _ (_ :: _) _ _ _ _ _ _; first | refine yd_v rfl rfl rfl rfl rfl rfl ?_ | refine wd_v rfl rfl rfl rfl rfl rfl (by first  | fail) ?_ | refine yd_new rfl rfl rfl rfl rfl rfl ?_ | refine wd_conv rfl rfl rfl rfl rfl rfl rfl rfl rfl rfl ?_) | (show WD _ _ _ _ _ _ _ _ _; first | refine wd_nil ?_ | refine wd_nil1 (wl_fresh (fun _ => ?_))) | (first | refine wc_seq ?_ | refine wc_region ?_ | refine wl_nil ?_ | refine wn_seq ?_ | refine wn_blk ?_ | refine wc_skip ?_ | refine wc_block ?_ | refine wc_exit rfl ?_ | (show WL _ _ (_ :: _) _ _ _ _; first | refine yl_v rfl rfl rfl ?_ | refine wl_v rfl rfl rfl (by first  | fail) ?_ | refine xl_alloc (fun _ => ?_) | refine xl_store rfl rfl ?_ | refine xl_buildSlice rfl (fun _ => ?_)) | refine wc_ret rfl ?_))
          refine y_append (news := [str ((s.drop (i + 1)).take (k - (i + 1))), str val]) (H0 := [(b8, .cells [str nm, .slice va acc.length vcap, str [], .slice none 0 0].toArray 31 (0, 0)), (b6, .cells [str [], .slice none 0 0, str [], .slice none 0 0].toArray 31 (0, 0))]) rfl own rfl rfl rfl rfl rfl rfl rfl rfl rfl rfl rfl rfl (by rw [cellsP_length]; omega) rfl ?_
          intro v' Hs' ho'
          rw [hslk, ← cellsP_snoc acc (key, val)] at ho'
          refine wl_weak (C' := St w [] ((b8, .cells [str nm, .slice va acc.length vcap, str [], .slice none 0 0].toArray 31 (0, 0)) :: (b6, .cells [str [], .slice none 0 0, str [], .slice none 0 0].toArray 31 (0, 0)) :: Hs') M) (Eng.Sub.refl _) (fun w' h => (h.drop (H' := Hs' ++ [(b8, .cells [str nm, .slice va acc.length vcap, str [], .slice none 0 0].toArray 31 (0, 0)), (b6, .cells [str [], .slice none 0 0, str [], .slice none 0 0].toArray 31 (0, 0))]) (List.Sublist.append (List.Sublist.refl _) (by repeat (first | exact List.Sublist.refl _ | apply List.Sublist.cons)))).perm (List.perm_append_comm (l₁ := [_, _]))) ?_
          obtain ⟨va2, vcap2, rfl⟩ := ho'.slice (k := acc.length + 1) (by decide) (by rw [cellsP_length]; simp)
          repeat' (first | (first | refine wc_seq ?_ | refine wc_region ?_ | refine wl_nil ?_ | refine wn_seq ?_ | refine wn_blk ?_ | refine wc_skip ?_ | refine wc_block ?_ | refine wc_exit rfl ?_ | (show WL _ _ (_ :: _) _ _ _ _; first | refine yl_v rfl rfl rfl ?_ | refine wl_v rfl rfl rfl (by first  | fail) ?_ | refine xl_alloc (fun _ => ?_) | refine xl_store rfl rfl ?_ | refine xl_buildSlice rfl (fun _ => ?_)) | refine wc_ret rfl ?_) | (show WC _ (Code.cond _ _ _) _ _ _ _; (refine wc_cond rfl (fun hc => ?_) (fun hc => ?_) <;> (try (simp only [decide_eq_true_eq, decide_eq_false_iff_not, Bool.and_eq_true, Bool.or_eq_true, Bool.and_eq_false_iff, Bool.or_eq_false_iff, Bool.not_eq_true', Bool.not_eq_false', Int.not_lt, Int.not_le] at hc)) <;> (try (exfalso; first | omega | contradiction)))))
          refine wn_cut ⟨f, q + 1, acc ++ [(key, val)], .slice va2 (acc.length + 1) vcap2, Hs', by omega, by omega, ?_, by rw [List.length_append, List.length_singleton]; omega, ho'⟩ (by show f < f + 1; omega) (by first | exact Sub.nil _ | (repeat (first | exact Sub.nil _ | refine Sub.cons (by first | rfl | (simp [look]; done)) ?_))) (fun _ h => h)
          rw [inv]
          show Option.map _ (Option.map _ (attrsP (f + 1) (s.drop (q + 1)))) = _
          rw [Option.map_map]
          congr 1
          funext x
          simp
    (simp only [decide_eq_true_eq, decide_eq_false_iff_not, Bool.and_eq_true, Bool.or_eq_true, Bool.and_eq_false_iff, Bool.or_eq_false_iff, Bool.not_eq_true', Bool.not_eq_false', Int.not_lt, Int.not_le] at hc)
    have hex : attrsP ((s.drop i1).length + 1) (s.drop i1) = some (acc, s.drop i) := by
      rw [inv]
      have : attrsP (f + 1) (s.drop i) = some ([], s.drop i) := by
        unfold attrsP
        split
        · rename_i r e
          obtain ⟨g1, g2, g3⟩ := at_cons.1 e
          exfalso
          rcases hc with hc | hc
          · omega
          · exact hc (b32.2 g2)
        · rfl
      rw [this]; simp
    have hsmall : ∀ p ∈ acc, p.1.length + p.2.length ≤ s.length := fun p hp => by
      have h1 := attrT_small hp
      have h2 := congrArg List.length (attrsP_text hex)
      rw [List.length_drop, List.length_append] at h2
      omega
    clear inv failA fuel hc
    repeat' (first | refine wc_seq ?_ | refine wc_region ?_ | refine wl_nil ?_ | refine wn_seq ?_ | refine wn_blk ?_ | refine wc_skip ?_ | refine wc_block ?_ | refine wc_exit rfl ?_ | (show WL _ _ (_ :: _) _ _ _ _; first | refine yl_v rfl rfl rfl ?_ | refine wl_v rfl rfl rfl (by first  | fail) ?_ | refine xl_alloc (fun _ => ?_) | refine xl_store rfl rfl ?_ | refine xl_buildSlice rfl (fun _ => ?_)) | refine wc_ret rfl ?_)
    refine wc_weak (C' := St w [] (Hs ++ [(b8, .cells [str nm, .slice va acc.length vcap, str [], .slice none 0 0].toArray 31 (0, 0)), (b6, .cells [str [], .slice none 0 0, str [], .slice none 0 0].toArray 31 (0, 0))]) M) (Eng.Sub.refl _) (fun _ h => h.perm (List.perm_append_comm (l₂ := [_, _]))) ?_
    refine wc_publish (fun hnew => ?_)
    have hsl : SlP (With M Hs) (.slice va acc.length vcap) acc := own.slP (fun p hp => .inr hp) (by omega)
    have hM1 : Since w M (With M Hs) := since_new Since.refl hnew
    clear own hnew
    generalize With M Hs = M1 at *
    refine wc_cond rfl (fun hc => ?_) (fun hc => ?_)
    · (simp only [decide_eq_true_eq, decide_eq_false_iff_not, Bool.and_eq_true, Bool.or_eq_true, Bool.and_eq_false_iff, Bool.or_eq_false_iff, Bool.not_eq_true', Bool.not_eq_false', Int.not_lt, Int.not_le] at hc)
      have hn : elemP (D + 1) (s.drop i0) = none := by
        have : headP (s.drop i1) = none := by
          unfold headP; rw [hex]
          simp only
          split
          · rename_i r3 e
            obtain ⟨g1, g2, g3⟩ := at_cons.1 e
            exfalso
            rcases hc with hc | hc
            · omega
            · exact hc (b62.2 g2)
          · rfl
        rw [hel, this]
      repeat' (first | (first | refine wc_seq ?_ | refine wc_region ?_ | refine wl_nil ?_ | refine wn_seq ?_ | refine wn_blk ?_ | refine wc_skip ?_ | refine wc_block ?_ | refine wc_exit rfl ?_ | (show WL _ _ (_ :: _) _ _ _ _; first | refine yl_v rfl rfl rfl ?_ | refine wl_v rfl rfl rfl (by first  | fail) ?_ | refine xl_alloc (fun _ => ?_) | refine xl_store rfl rfl ?_ | refine xl_buildSlice rfl (fun _ => ?_)) | refine wc_ret rfl ?_) | (show WC _ (Code.cond _ _ _) _ _ _ _; (refine wc_cond rfl (fun hc => ?_) (fun hc => ?_) <;> (try (simp only [decide_eq_true_eq, decide_eq_false_iff_not, Bool.and_eq_true, Bool.or_eq_true, Bool.and_eq_false_iff, Bool.or_eq_false_iff, Bool.not_eq_true', Bool.not_eq_false', Int.not_lt, Int.not_le] at hc)) <;> (try (exfalso; first | omega | contradiction)))))
      exact yr_layC2 (Hn := []) rfl rfl rfl rfl rfl hM1 (List.nil_sublist _) ⟨rfl, relemIs_no hn⟩
    (simp only [decide_eq_true_eq, decide_eq_false_iff_not, Bool.and_eq_true, Bool.or_eq_true, Bool.and_eq_false_iff, Bool.or_eq_false_iff, Bool.not_eq_true', Bool.not_eq_false', Int.not_lt, Int.not_le] at hc)
    have hil : i < s.length := by omega
    have h62 : s.drop i = 62 :: s.drop (i + 1) := at_cons.2 ⟨hil, b62.1 hc.2, rfl⟩
    rw [h62] at hex
    clear hc h62
    have hto := fun {w : World} (hw : Laid M1 w) => rto_ok hw s (i + 1) 60 hs (by omega)
    have hjl := rs_length (isC 60) (s.drop (i + 1))
    rw [List.length_drop] at hjl
    have hat5 := rs_at (isC 60) s (i + 1)
    have htake := wd_take (isC 60) (s.drop (i + 1))
    have hslt : (s.drop (i + 1)).take (i + 1 + (wd (isC 60) (s.drop (i + 1))).length - (i + 1)) = wd (isC 60) (s.drop (i + 1)) := by rw [Nat.add_sub_cancel_left]; exact htake
    have hun := fun {w : World} (hw : Laid M1 w) => runescape_ok hw (wd (isC 60) (s.drop (i + 1))) (by omega)
    rw [← hslt] at hun
    have hjx : i + 1 + (wd (isC 60) (s.drop (i + 1))).length ≤ s.length := by omega
    have hij : i + 1 ≤ i + 1 + (wd (isC 60) (s.drop (i + 1))).length := by omega
    have hvl : (wd (isC 60) (s.drop (i + 1))).length ≤ s.length := by omega
    cases hu : unescQ (wd (isC 60) (s.drop (i + 1))) with
    | none =>
      have hn : elemP (D + 1) (s.drop i0) = none := by
        have : headP (s.drop i1) = none := by
          unfold headP; rw [hex]
          simp only [hu]
        rw [hel, this]
      have hun : ∀ {w : World}, Laid M1 w → Calls Tryd.prog 10 #[str ((s.drop (i + 1)).take (i + 1 + (wd (isC 60) (s.drop (i + 1))).length - (i + 1)))] w (RetE w (.tuple #[str [], i64 10])) := fun h => by have := hun h; rw [hslt, hu] at this; rw [hslt]; exact this
      clear hslt htake hat5 hu
      generalize wd (isC 60) (s.drop (i + 1)) = vv at *
      generalize i + 1 + vv.length = j at *
      repeat' (first | (first | refine wc_seq ?_ | refine wc_region ?_ | refine wl_nil ?_ | refine wn_seq ?_ | refine wn_blk ?_ | refine wc_skip ?_ | refine wc_block ?_ | refine wc_exit rfl ?_ | (show WL _ _ (_ :: _) _ _ _ _; first | refine yl_v rfl rfl rfl ?_ | refine wl_v rfl rfl rfl (by first | ((show OpV _ _ _ _ (Oper.mk _ (Op.call ⟨.value (.func 44), _, _⟩) _ _ _ _) _ _; exact ov_call Tryd.call44 rfl (by intro himp; first | rfl | (simp_all; done)) (by rfl) (fun _ _ h k => h.ext k) (fun hcg w hw => hto hw.laid))) | ((show OpV _ _ _ _ (Oper.mk _ (Op.call ⟨.value (.func 10), _, _⟩) _ _ _ _) _ _; exact ov_call Tryd.call10 rfl (by intro himp; first | rfl | (simp_all; done)) (by rfl) (fun _ _ h k => h.ext k) (fun hcg w hw => hun hw.laid))) | fail) ?_ | refine xl_alloc (fun _ => ?_) | refine xl_store rfl rfl ?_ | refine xl_buildSlice rfl (fun _ => ?_)) | refine wc_ret rfl ?_) | (show WC _ (Code.cond _ _ _) _ _ _ _; (refine wc_cond rfl (fun hc => ?_) (fun hc => ?_) <;> (try (simp only [decide_eq_true_eq, decide_eq_false_iff_not, Bool.and_eq_true, Bool.or_eq_true, Bool.and_eq_false_iff, Bool.or_eq_false_iff, Bool.not_eq_true', Bool.not_eq_false', Int.not_lt, Int.not_le] at hc)) <;> (try (exfalso; first | omega | contradiction)))))
      exact yr_layC2 (Hn := []) rfl rfl rfl rfl rfl hM1 (List.nil_sublist _) ⟨rfl, relemIs_no hn⟩
    | some tx =>
      have htx := unescQ_len hu
      have hun : ∀ {w : World}, Laid M1 w → Calls Tryd.prog 10 #[str ((s.drop (i + 1)).take (i + 1 + (wd (isC 60) (s.drop (i + 1))).length - (i + 1)))] w (RetE w (.tuple #[str tx, i64 0])) := fun h => by have := hun h; rw [hslt, hu] at this; rw [hslt]; exact this
      have hhd : headP (s.drop i1) = some (acc, tx, rs (isC 60) (s.drop (i + 1))) := by
        unfold headP; rw [hex]
        simp only [hu]
      rw [hhd, ← hat5] at hel
      simp only at hel
      clear hslt htake hat5 hu hhd hex
      generalize wd (isC 60) (s.drop (i + 1)) = vv at *
      generalize i + 1 + vv.length = j at *
      repeat' (first | (first | refine wc_seq ?_ | refine wc_region ?_ | refine wl_nil ?_ | refine wn_seq ?_ | refine wn_blk ?_ | refine wc_skip ?_ | refine wc_block ?_ | refine wc_exit rfl ?_ | (show WL _ _ (_ :: _) _ _ _ _; first | refine yl_v rfl rfl rfl ?_ | refine wl_v rfl rfl rfl (by first | ((show OpV _ _ _ _ (Oper.mk _ (Op.call ⟨.value (.func 44), _, _⟩) _ _ _ _) _ _; exact ov_call Tryd.call44 rfl (by intro himp; first | rfl | (simp_all; done)) (by rfl) (fun _ _ h k => h.ext k) (fun hcg w hw => hto hw.laid))) | ((show OpV _ _ _ _ (Oper.mk _ (Op.call ⟨.value (.func 10), _, _⟩) _ _ _ _) _ _; exact ov_call Tryd.call10 rfl (by intro himp; first | rfl | (simp_all; done)) (by rfl) (fun _ _ h k => h.ext k) (fun hcg w hw => hun hw.laid))) | fail) ?_ | refine xl_alloc (fun _ => ?_) | refine xl_store rfl rfl ?_ | refine xl_buildSlice rfl (fun _ => ?_)) | refine wc_ret rfl ?_) | (show WC _ (Code.cond _ _ _) _ _ _ _; (refine wc_cond rfl (fun hc => ?_) (fun hc => ?_) <;> (try (simp only [decide_eq_true_eq, decide_eq_false_iff_not, Bool.and_eq_true, Bool.or_eq_true, Bool.and_eq_false_iff, Bool.or_eq_false_iff, Bool.not_eq_true', Bool.not_eq_false', Int.not_lt, Int.not_le] at hc)) <;> (try (exfalso; first | omega | contradiction)))))
      refine wc_loop (α := RK D M1 s (s.drop j) w) (fun x => [(0, true, str s), (1, true, i64 (x.i : Int)), (2, true, i64 deep), (6, true, .pointer (some ⟨b6, 0, none⟩)), (8, true, .pointer (some ⟨b8, 0, none⟩))]) (fun x => St w [] ((b8, .cells [str nm, .slice va acc.length vcap, str tx, x.v].toArray 31 (0, 0)) :: (b6, .cells [str [], .slice none 0 0, str [], .slice none 0 0].toArray 31 (0, 0)) :: x.Hs) x.M') (fun x => x.f) ⟨s.length - j + 1, j, [], .slice none 0 0, [], [], M1, hjx, by omega, by simp, by rw [List.length_drop]; simp, OwnS.nil, rfl, fun q hq => absurd hq (by simp), Since.refl⟩ (by first | exact Sub.nil _ | (repeat (first | exact Sub.nil _ | refine Sub.cons (by first | rfl | (simp [look]; done)) ?_))) (fun _ h => h) ?_
      rintro ⟨f, i2, kacc, v, Hk, xs, M2, le2, fuel, len2, inv, own, xlen, nodes, since⟩
      dsimp only
      obtain ⟨va2, vcap2, rfl⟩ := own.slice (k := kacc.length) (by decide) xlen
      have hM2 : Since w M M2 := hM1.step since.1 since.2
      match f, fuel, inv with
      | 0, fuel, _ => exfalso; omega
      | f + 1, fuel, inv =>
      repeat' (first | refine wc_seq ?_ | refine wc_region ?_ | refine wl_nil ?_ | refine wn_seq ?_ | refine wn_blk ?_ | refine wc_skip ?_ | refine wc_block ?_ | refine wc_exit rfl ?_ | (show WL _ _ (_ :: _) _ _ _ _; first | refine yl_v rfl rfl rfl ?_ | refine wl_v rfl rfl rfl (by first  | fail) ?_ | refine xl_alloc (fun _ => ?_) | refine xl_store rfl rfl ?_ | refine xl_buildSlice rfl (fun _ => ?_)) | refine wc_ret rfl ?_)
      refine wc_cond rfl (fun hc => ?_) (fun hc => ?_)
      · (simp only [decide_eq_true_eq, decide_eq_false_iff_not, Bool.and_eq_true, Bool.or_eq_true, Bool.and_eq_false_iff, Bool.or_eq_false_iff, Bool.not_eq_true', Bool.not_eq_false', Int.not_lt, Int.not_le] at hc)
        have hpf : [60, 47].isPrefixOf (s.drop i2) = false := by
          rw [Bool.eq_false_iff]
          intro h
          obtain ⟨t, ht⟩ := List.isPrefixOf_iff_prefix.1 h
          obtain ⟨g1, g2, g3⟩ := at_cons.1 ht.symm
          obtain ⟨g4, g5, g6⟩ := at_cons.1 g3
          exact hc.2 (b47.2 g5)
        have hks : kidsP (elemP D) (f + 1) (s.drop i2) = match elemP D (s.drop i2) with
          | none => none
          | some (x, r) => (kidsP (elemP D) f r).map fun y => (x :: y.1, y.2) := by
          rw [kidsP, if_neg (by rw [hpf]; decide)]
          cases elemP D (s.drop i2) <;> rfl
        repeat' (first | refine wc_seq ?_ | refine wc_region ?_ | refine wl_nil ?_ | refine wn_seq ?_ | refine wn_blk ?_ | refine wc_skip ?_ | refine wc_block ?_ | refine wc_exit rfl ?_ | (show WL _ _ (_ :: _) _ _ _ _; first | refine yl_v rfl rfl rfl ?_ | refine wl_v rfl rfl rfl (by first  | fail) ?_ | refine xl_alloc (fun _ => ?_) | refine xl_store rfl rfl ?_ | refine xl_buildSlice rfl (fun _ => ?_)) | refine wc_ret rfl ?_)
        refine wl_callS rfl Tryd.call30 rfl rfl rfl rfl (fun w hw => refelem_ok D (deep + 1) (by omega) (by omega) M2 s i2 w hw.laid hs le2) ?_
        rintro v3 H3 M3 hm3 hn3 ⟨rfl, hR⟩
        have hM3 : Since w M M3 := hM2.step hm3 hn3
        unfold RelemIs at hR
        cases hx : elemP D (s.drop i2) with
        | none =>
          rw [hx] at hR
          simp only at hR
          obtain ⟨n', a1, l1, c1, t', a2, l2, c2, rfl⟩ := hR
          have hn : elemP (D + 1) (s.drop i0) = none := by rw [hel, inv, hks, hx]; rfl
          repeat' (first | (first | refine wc_seq ?_ | refine wc_region ?_ | refine wl_nil ?_ | refine wn_seq ?_ | refine wn_blk ?_ | refine wc_skip ?_ | refine wc_block ?_ | refine wc_exit rfl ?_ | (show WL _ _ (_ :: _) _ _ _ _; first | refine yl_v rfl rfl rfl ?_ | refine wl_v rfl rfl rfl (by first  | fail) ?_ | refine xl_alloc (fun _ => ?_) | refine xl_store rfl rfl ?_ | refine xl_buildSlice rfl (fun _ => ?_)) | refine wc_ret rfl ?_) | (show WC _ (Code.cond _ _ _) _ _ _ _; (refine wc_cond rfl (fun hc => ?_) (fun hc => ?_) <;> (try (simp only [decide_eq_true_eq, decide_eq_false_iff_not, Bool.and_eq_true, Bool.or_eq_true, Bool.and_eq_false_iff, Bool.or_eq_false_iff, Bool.not_eq_true', Bool.not_eq_false', Int.not_lt, Int.not_le] at hc)) <;> (try (exfalso; first | omega | contradiction)))))
          exact yr_layC2 (Hn := []) rfl rfl rfl rfl rfl hM3 (List.nil_sublist _) ⟨rfl, relemIs_no hn⟩
        | some p =>
          obtain ⟨x, r⟩ := p
          rw [hx] at hR
          simp only at hR
          obtain ⟨vs, n, rfl, hnode, hnl, rfl⟩ := hR
          obtain ⟨un, ua1, ul1, uc1, ut, ua2, ul2, uc2, rfl⟩ := node_open hnode
          have hdl := elemP_len hx
          rw [List.length_drop, List.length_drop] at hdl
          rw [hx] at hks
          simp only at hks
          repeat' (first | (first | refine wc_seq ?_ | refine wc_region ?_ | refine wl_nil ?_ | refine wn_seq ?_ | refine wn_blk ?_ | refine wc_skip ?_ | refine wc_block ?_ | refine wc_exit rfl ?_ | (show WL _ _ (_ :: _) _ _ _ _; first | refine yl_v rfl rfl rfl ?_ | refine wl_v rfl rfl rfl (by first  | fail) ?_ | refine xl_alloc (fun _ => ?_) | refine xl_store rfl rfl ?_ | refine xl_buildSlice rfl (fun _ => ?_)) | refine wc_ret rfl ?_) | (show WC _ (Code.cond _ _ _) _ _ _ _; (refine wc_cond rfl (fun hc => ?_) (fun hc => ?_) <;> (try (simp only [decide_eq_true_eq, decide_eq_false_iff_not, Bool.and_eq_true, Bool.or_eq_true, Bool.and_eq_false_iff, Bool.or_eq_false_iff, Bool.not_eq_true', Bool.not_eq_false', Int.not_lt, Int.not_le] at hc)) <;> (try (exfalso; first | omega | contradiction)))))
          rename_i b16 b185
          refine wl_weak (C' := St w [] ((b185, .cells [str un, .slice ua1 ul1 uc1, str ut, .slice ua2 ul2 uc2].toArray 31 (0, 0)) :: (Hk ++ [(b16, .cells [str un, .slice ua1 ul1 uc1, str ut, .slice ua2 ul2 uc2].toArray 31 (0, 0)), (b8, .cells [str nm, .slice va acc.length vcap, str tx, .slice va2 kacc.length vcap2].toArray 31 (0, 0)), (b6, .cells [str [], .slice none 0 0, str [], .slice none 0 0].toArray 31 (0, 0))])) M3) (Eng.Sub.refl _) (fun w' h => h.perm (List.Perm.cons _ (List.perm_append_comm (l₂ := [_, _, _])))) ?_
          refine y_append (news := [str un, .slice ua1 ul1 uc1, str ut, .slice ua2 ul2 uc2]) (H0 := [(b16, .cells [str un, .slice ua1 ul1 uc1, str ut, .slice ua2 ul2 uc2].toArray 31 (0, 0)), (b8, .cells [str nm, .slice va acc.length vcap, str tx, .slice va2 kacc.length vcap2].toArray 31 (0, 0)), (b6, .cells [str [], .slice none 0 0, str [], .slice none 0 0].toArray 31 (0, 0))]) rfl own rfl rfl rfl rfl rfl rfl rfl rfl rfl rfl rfl rfl (by rw [xlen]; omega) rfl ?_
          intro v' Hs' ho'
          obtain ⟨va3, vcap3, rfl⟩ := ho'.slice (k := kacc.length + 1) (by decide) (by simp; omega)
          refine wl_weak (C' := St w [] ((b8, .cells [str nm, .slice va acc.length vcap, str tx, .slice va2 kacc.length vcap2].toArray 31 (0, 0)) :: (b6, .cells [str [], .slice none 0 0, str [], .slice none 0 0].toArray 31 (0, 0)) :: Hs') M3) (Eng.Sub.refl _) (fun w' h => (h.drop (H' := Hs' ++ [(b8, .cells [str nm, .slice va acc.length vcap, str tx, .slice va2 kacc.length vcap2].toArray 31 (0, 0)), (b6, .cells [str [], .slice none 0 0, str [], .slice none 0 0].toArray 31 (0, 0))]) (List.Sublist.append (List.Sublist.refl _) (by repeat (first | exact List.Sublist.refl _ | apply List.Sublist.cons)))).perm (List.perm_append_comm (l₁ := [_, _]))) ?_
          repeat' (first | (first | refine wc_seq ?_ | refine wc_region ?_ | refine wl_nil ?_ | refine wn_seq ?_ | refine wn_blk ?_ | refine wc_skip ?_ | refine wc_block ?_ | refine wc_exit rfl ?_ | (show WL _ _ (_ :: _) _ _ _ _; first | refine yl_v rfl rfl rfl ?_ | refine wl_v rfl rfl rfl (by first  | fail) ?_ | refine xl_alloc (fun _ => ?_) | refine xl_store rfl rfl ?_ | refine xl_buildSlice rfl (fun _ => ?_)) | refine wc_ret rfl ?_) | (show WC _ (Code.cond _ _ _) _ _ _ _; (refine wc_cond rfl (fun hc => ?_) (fun hc => ?_) <;> (try (simp only [decide_eq_true_eq, decide_eq_false_iff_not, Bool.and_eq_true, Bool.or_eq_true, Bool.and_eq_false_iff, Bool.or_eq_false_iff, Bool.not_eq_true', Bool.not_eq_false', Int.not_lt, Int.not_le] at hc)) <;> (try (exfalso; first | omega | contradiction)))))
          refine wn_cut ⟨f, n, kacc ++ [x], .slice va3 (kacc.length + 1) vcap3, Hs', xs ++ [str un, .slice ua1 ul1 uc1, str ut, .slice ua2 ul2 uc2], M3, hnl, by omega, by rw [List.length_append, List.length_singleton]; omega, ?_, ho', by simp only [List.length_append, List.length_cons, List.length_nil]; omega, ?_, since.step hm3 hn3⟩ (by show f < f + 1; omega) (by first | exact Sub.nil _ | (repeat (first | exact Sub.nil _ | refine Sub.cons (by first | rfl | (simp [look]; done)) ?_))) (fun _ h => h)
          · rw [inv, hks, Option.map_map]
            congr 1
            funext y
            simp
          · intro i hi
            rw [List.length_append, List.length_cons, List.length_nil] at hi
            rcases Nat.lt_or_ge i kacc.length with hlt | hge
            · rw [List.getElem_append_left hlt, List.drop_append_of_le_length (by omega), List.take_append_of_le_length (by rw [List.length_drop]; omega)]
              exact NodeC.mono hm3 (nodes i hlt)
            · obtain rfl : i = kacc.length := by omega
              rw [List.getElem_append_right (Nat.le_refl _), ← xlen, List.drop_left]
              simpa using hnode
      · (simp only [decide_eq_true_eq, decide_eq_false_iff_not, Bool.and_eq_true, Bool.or_eq_true, Bool.and_eq_false_iff, Bool.or_eq_false_iff, Bool.not_eq_true', Bool.not_eq_false', Int.not_lt, Int.not_le] at hc)
        have hcl : ([60, 47] ++ nm ++ [62]).length = nm.length + 3 := by simp only [List.length_append, List.length_cons, List.length_nil]; omega
        have hpa := pre_at (m := [60, 47] ++ nm ++ [62]) le2
        by_cases hpf : [60, 47].isPrefixOf (s.drop i2) = true
        · have hks : kidsP (elemP D) (f + 1) (s.drop i2) = some ([], s.drop i2) := by rw [kidsP, if_pos hpf]
          rw [inv, hks] at hel
          simp only [Option.map_some, List.append_nil] at hel
          repeat' (first | refine wc_seq ?_ | refine wc_region ?_ | refine wl_nil ?_ | refine wn_seq ?_ | refine wn_blk ?_ | refine wc_skip ?_ | refine wc_block ?_ | refine wc_exit rfl ?_ | (show WL _ _ (_ :: _) _ _ _ _; first | refine yl_v rfl rfl rfl ?_ | refine wl_v rfl rfl rfl (by first  | fail) ?_ | refine xl_alloc (fun _ => ?_) | refine xl_store rfl rfl ?_ | refine xl_buildSlice rfl (fun _ => ?_)) | refine wc_ret rfl ?_)
          refine wc_cond rfl (fun hc => ?_) (fun hc => ?_)
          · (simp only [decide_eq_true_eq, decide_eq_false_iff_not, Bool.and_eq_true, Bool.or_eq_true, Bool.and_eq_false_iff, Bool.or_eq_false_iff, Bool.not_eq_true', Bool.not_eq_false', Int.not_lt, Int.not_le] at hc)
            have hno : ¬ (closeT nm).isPrefixOf (s.drop i2) = true := fun h => by
              have h3 := hpa.2 h
              rcases hc with hc | hc
              · omega
              · exact hc h3.2
            rw [if_neg hno] at hel
            repeat' (first | (first | refine wc_seq ?_ | refine wc_region ?_ | refine wl_nil ?_ | refine wn_seq ?_ | refine wn_blk ?_ | refine wc_skip ?_ | refine wc_block ?_ | refine wc_exit rfl ?_ | (show WL _ _ (_ :: _) _ _ _ _; first | refine yl_v rfl rfl rfl ?_ | refine wl_v rfl rfl rfl (by first  | fail) ?_ | refine xl_alloc (fun _ => ?_) | refine xl_store rfl rfl ?_ | refine xl_buildSlice rfl (fun _ => ?_)) | refine wc_ret rfl ?_) | (show WC _ (Code.cond _ _ _) _ _ _ _; (refine wc_cond rfl (fun hc => ?_) (fun hc => ?_) <;> (try (simp only [decide_eq_true_eq, decide_eq_false_iff_not, Bool.and_eq_true, Bool.or_eq_true, Bool.and_eq_false_iff, Bool.or_eq_false_iff, Bool.not_eq_true', Bool.not_eq_false', Int.not_lt, Int.not_le] at hc)) <;> (try (exfalso; first | omega | contradiction)))))
            exact yr_layC2 (Hn := []) rfl rfl rfl rfl rfl hM2 (List.nil_sublist _) ⟨rfl, relemIs_no hel⟩
          · (simp only [decide_eq_true_eq, decide_eq_false_iff_not, Bool.and_eq_true, Bool.or_eq_true, Bool.and_eq_false_iff, Bool.or_eq_false_iff, Bool.not_eq_true', Bool.not_eq_false', Int.not_lt, Int.not_le] at hc)
            have hyes : (closeT nm).isPrefixOf (s.drop i2) = true := hpa.1 ⟨by omega, hc.2⟩
            rw [if_pos hyes] at hel
            repeat' (first | (first | refine wc_seq ?_ | refine wc_region ?_ | refine wl_nil ?_ | refine wn_seq ?_ | refine wn_blk ?_ | refine wc_skip ?_ | refine wc_block ?_ | refine wc_exit rfl ?_ | (show WL _ _ (_ :: _) _ _ _ _; first | refine yl_v rfl rfl rfl ?_ | refine wl_v rfl rfl rfl (by first  | fail) ?_ | refine xl_alloc (fun _ => ?_) | refine xl_store rfl rfl ?_ | refine xl_buildSlice rfl (fun _ => ?_)) | refine wc_ret rfl ?_) | (show WC _ (Code.cond _ _ _) _ _ _ _; (refine wc_cond rfl (fun hc => ?_) (fun hc => ?_) <;> (try (simp only [decide_eq_true_eq, decide_eq_false_iff_not, Bool.and_eq_true, Bool.or_eq_true, Bool.and_eq_false_iff, Bool.or_eq_false_iff, Bool.not_eq_true', Bool.not_eq_false', Int.not_lt, Int.not_le] at hc)) <;> (try (exfalso; first | omega | contradiction)))))
            refine wr_layC2 (Hn := Hk) rfl rfl rfl rfl (List.Mem.tail _ (List.Mem.head _)) rfl hM2 (List.Sublist.cons _ (List.Sublist.cons _ (List.Sublist.refl _))) ⟨rfl, ?_⟩
            unfold RelemIs
            rw [hel]
            refine ⟨_, i2 + ([60, 47] ++ nm ++ [62]).length, rfl, ⟨_, _, rfl, Sl.mono hsl (fun _ _ h => .inl (since.1 _ _ h)) (fun _ _ _ h => h), own.sl (by decide) (fun p hp => .inr hp) xlen (by omega) (fun q hq => NodeC.mono (fun _ _ => .inl) (nodes q hq)), by omega, by omega, fun p hp => ?_⟩, by omega, by rw [← List.drop_drop]; rfl⟩
            have := hsmall p hp
            omega
        · have hks : kidsP (elemP D) (f + 1) (s.drop i2) = none := by
            rw [kidsP, if_neg hpf]
            have : elemP D (s.drop i2) = none := by
              by_cases h1 : ∃ r, s.drop i2 = 60 :: r
              · obtain ⟨r, hr⟩ := h1
                obtain ⟨g1, g2, g3⟩ := at_cons.1 hr
                cases r with
                | nil => rw [hr]; exact elemP_short D
                | cons c r =>
                  exfalso
                  obtain ⟨g4, g5, g6⟩ := at_cons.1 g3
                  rcases hc with (hc | hc) | hc
                  · omega
                  · exact hc (b60.2 g2)
                  · have h47 := b47.1 hc
                    rw [g5] at h47
                    subst h47
                    exact hpf (by rw [hr]; simp [List.isPrefixOf])
              · exact elemP_head (fun r e => h1 ⟨r, e⟩)
            rw [this]
          have hn : elemP (D + 1) (s.drop i0) = none := by rw [hel, inv, hks]; rfl
          repeat' (first | refine wc_seq ?_ | refine wc_region ?_ | refine wl_nil ?_ | refine wn_seq ?_ | refine wn_blk ?_ | refine wc_skip ?_ | refine wc_block ?_ | refine wc_exit rfl ?_ | (show WL _ _ (_ :: _) _ _ _ _; first | refine yl_v rfl rfl rfl ?_ | refine wl_v rfl rfl rfl (by first  | fail) ?_ | refine xl_alloc (fun _ => ?_) | refine xl_store rfl rfl ?_ | refine xl_buildSlice rfl (fun _ => ?_)) | refine wc_ret rfl ?_)
          refine wc_cond rfl (fun hc => ?_) (fun hc => ?_)
          · repeat' (first | (first | refine wc_seq ?_ | refine wc_region ?_ | refine wl_nil ?_ | refine wn_seq ?_ | refine wn_blk ?_ | refine wc_skip ?_ | refine wc_block ?_ | refine wc_exit rfl ?_ | (show WL _ _ (_ :: _) _ _ _ _; first | refine yl_v rfl rfl rfl ?_ | refine wl_v rfl rfl rfl (by first  | fail) ?_ | refine xl_alloc (fun _ => ?_) | refine xl_store rfl rfl ?_ | refine xl_buildSlice rfl (fun _ => ?_)) | refine wc_ret rfl ?_) | (show WC _ (Code.cond _ _ _) _ _ _ _; (refine wc_cond rfl (fun hc => ?_) (fun hc => ?_) <;> (try (simp only [decide_eq_true_eq, decide_eq_false_iff_not, Bool.and_eq_true, Bool.or_eq_true, Bool.and_eq_false_iff, Bool.or_eq_false_iff, Bool.not_eq_true', Bool.not_eq_false', Int.not_lt, Int.not_le] at hc)) <;> (try (exfalso; first | omega | contradiction)))))
            exact yr_layC2 (Hn := []) rfl rfl rfl rfl rfl hM2 (List.nil_sublist _) ⟨rfl, relemIs_no hn⟩
          · exfalso
            (simp only [decide_eq_true_eq, decide_eq_false_iff_not, Bool.and_eq_true, Bool.or_eq_true, Bool.and_eq_false_iff, Bool.or_eq_false_iff, Bool.not_eq_true', Bool.not_eq_false', Int.not_lt, Int.not_le] at hc)
            have hyes := List.isPrefixOf_iff_prefix.1 (hpa.1 ⟨by omega, hc.2⟩)
            exact hpf (List.isPrefixOf_iff_prefix.2 (List.IsPrefix.trans (by rw [List.append_assoc]; exact List.prefix_append _ _) hyes))
end Go.Proofs.YtnfkbbkojgbbeaaDoor
/-
  Both readings of a text; the walks of XmlTexts and XmlReads.
-/
namespace Go.Proofs.YtnfkbbkojgbbeaaDoor
open Go.Eng Go.Pct Go.Xml Go.Rsp
set_option maxRecDepth 10000
set_option linter.unusedSimpArgs false
set_option linter.unusedVariables false

variable {M : Ghost} {w0 w : World} {bs : List Nat} {H : List (Nat × Obj)}
def nodeZ : Nd := .mk [] [] [] []
/-- a text's element -/
def readP (s : List UInt8) : Option Nd := match elemP 8 s with
  | some (x, r) => if r = [] ∧ rightN x = true then some x else none
  | none => none
theorem readP_back {x : Nd} (h : rightN x = true) : readP (textN x) = some x := by
  have h' := h
  unfold rightN at h'
  simp only [Bool.and_eq_true, decide_eq_true_eq] at h'
  have hd := (fewN_no x 200 8 h'.1).1
  have := elemP_back (D := 8) (x := x) (by omega) h'.2 []
  rw [List.append_nil] at this
  unfold readP
  rw [this]
  simp only
  rw [if_pos ⟨by first | trivial | rfl, h⟩]
theorem readP_text {s : List UInt8} {x : Nd} (h : readP s = some x) : textN x = s ∧ rightN x = true := by
  unfold readP at h
  split at h
  · rename_i y r e
    split at h
    · rename_i hc
      cases h
      obtain ⟨rfl, hr⟩ := hc
      have := elemP_text e
      rw [List.append_nil] at this
      exact ⟨this.symm, hr⟩
    · cases h
  · cases h
theorem nodeZ_ok {D : Nat} : NodeC M (D + 1) nodeZ [str [], .slice none 0 0, str [], .slice none 0 0] :=
  ⟨_, _, rfl, sl_nil, sl_nil, by simp, by simp, fun p hp => absurd hp (by simp)⟩
/-- what a reading yields -/
def ReadN (s : List UInt8) (M' : Ghost) (v : Value) : Prop := ∃ vs : List Value, v = .tuple #[.agg vs.toArray, i64 (if (readP s).isSome then 0 else 10)] ∧ NodeC M' 8 ((readP s).getD nodeZ) vs
theorem readN_no {s : List UInt8} {M' : Ghost} (h : readP s = none) : ReadN s M' (.tuple #[.agg [str [], .slice none 0 0, str [], .slice none 0 0].toArray, i64 10]) := by
  unfold ReadN; rw [h]; exact ⟨_, rfl, nodeZ_ok⟩
set_option maxHeartbeats 1000000 in
theorem xread_ok (hG : Glob M) (hM : Laid M w) (s : List UInt8) (hs : s.length ≤ 100000000) : Calls Tryd.prog 13 #[str s] w (RetS M w (fun M' H v => H = [] ∧ ReadN s M' v)) := by
  refine calls_st (l := [str s]) hM Tryd.func13 rfl rfl rfl (E0 := [(0, true, str s)]) (params_cons rfl (params_nil _)) ?_
  repeat' (first | (first | refine wc_seq ?_ | refine wc_region ?_ | refine wl_nil ?_ | refine wn_seq ?_ | refine wn_blk ?_ | refine wc_skip ?_ | refine wc_block ?_ | refine wc_exit rfl ?_ | (show WL _ _ (_ :: _) _ _ _ _; first | refine yl_v rfl rfl rfl ?_ | refine wl_v rfl rfl rfl (by first  | fail) ?_ | refine xl_alloc (fun _ => ?_) | refine xl_box rfl (fun _ => ?_) | refine xl_store rfl rfl ?_) | refine wc_ret rfl ?_) | (show WC _ (Code.cond _ _ _) _ _ _ _; (refine wc_cond rfl (fun hc => ?_) (fun hc => ?_) <;> (try (simp only [decide_eq_true_eq, decide_eq_false_iff_not, Bool.and_eq_true, Bool.or_eq_true, Bool.and_eq_false_iff, Bool.or_eq_false_iff, Bool.not_eq_true', Bool.not_eq_false', Int.not_lt, Int.not_le] at hc)) <;> (try (exfalso; first | omega | contradiction)))))
  rename_i b2 b9
  refine wl_callX rfl Tryd.call29 rfl rfl rfl rfl (fun w hw => relem_ok 8 1 rfl (by omega) M [(b2, .cells [str [], .slice none 0 0, str [], .slice none 0 0].toArray 31 (0, 0))] b9 s 200 _ w hG hs (by omega) (by omega) hw) (fun v M1 s1 left1 hm1 hn1 hR => ?_)
  have hM1 : Since w M M1 := Since.refl.step hm1 hn1
  unfold ElemIs at hR
  cases hx : elemX 8 s 200 with
  | none =>
    rw [hx] at hR
    simp only at hR
    obtain ⟨n', a1, l1, c1, t', a2, l2, c2, rfl⟩ := hR
    have hn : readP s = none := by
      unfold readP
      unfold elemX at hx
      cases he : elemP 8 s with
      | none => rfl
      | some p =>
        obtain ⟨y, r⟩ := p
        rw [he] at hx
        simp only at hx ⊢
        split at hx
        · cases hx
        · rename_i h1
          rw [if_neg]
          rintro ⟨_, h2⟩
          unfold rightN at h2
          simp only [Bool.and_eq_true, decide_eq_true_eq] at h2
          exact h1 (fewN_no y 200 8 h2.1).2
    repeat' (first | (first | refine wc_seq ?_ | refine wc_region ?_ | refine wl_nil ?_ | refine wn_seq ?_ | refine wn_blk ?_ | refine wc_skip ?_ | refine wc_block ?_ | refine wc_exit rfl ?_ | (show WL _ _ (_ :: _) _ _ _ _; first | refine yl_v rfl rfl rfl ?_ | refine wl_v rfl rfl rfl (by first | (show OpV _ _ _ _ (Oper.mk _ (Op.call _) _ _ _ _) _ _; exact ov_off (v := .bool false) rfl) | fail) ?_ | refine xl_alloc (fun _ => ?_) | refine xl_box rfl (fun _ => ?_) | refine xl_store rfl rfl ?_) | refine wc_ret rfl ?_) | (show WC _ (Code.cond _ _ _) _ _ _ _; (refine wc_cond rfl (fun hc => ?_) (fun hc => ?_) <;> (try (simp only [decide_eq_true_eq, decide_eq_false_iff_not, Bool.and_eq_true, Bool.or_eq_true, Bool.and_eq_false_iff, Bool.or_eq_false_iff, Bool.not_eq_true', Bool.not_eq_false', Int.not_lt, Int.not_le] at hc)) <;> (try (exfalso; first | omega | contradiction)))))
    exact yr_layC2 (Hn := []) rfl rfl rfl rfl rfl hM1 (List.nil_sublist _) ⟨rfl, readN_no hn⟩
  | some p =>
    obtain ⟨x, r, l'⟩ := p
    rw [hx] at hR
    simp only at hR
    obtain ⟨vs, rfl, hnode, rfl, rfl⟩ := hR
    have he : ∃ q, elemP 8 s = some (x, q) ∧ q = s1 := by
      unfold elemX at hx
      cases he : elemP 8 s with
      | none => rw [he] at hx; cases hx
      | some p =>
        obtain ⟨y, r⟩ := p
        rw [he] at hx
        simp only at hx
        split at hx
        · cases hx; exact ⟨_, rfl, rfl⟩
        · cases hx
    obtain ⟨q, he, rfl⟩ := he
    have hrd : readP s = if q = [] ∧ rightN x = true then some x else none := by unfold readP; rw [he]
    have hri := fun {w : World} (hw : Laid M1 w) => right_ok hw hnode
    obtain ⟨un, ua1, ul1, uc1, ut, ua2, ul2, uc2, rfl⟩ := node_open hnode
    repeat' (first | refine wc_seq ?_ | refine wc_region ?_ | refine wl_nil ?_ | refine wn_seq ?_ | refine wn_blk ?_ | refine wc_skip ?_ | refine wc_block ?_ | refine wc_exit rfl ?_ | (show WL _ _ (_ :: _) _ _ _ _; first | refine yl_v rfl rfl rfl ?_ | refine wl_v rfl rfl rfl (by first | ((show OpV _ _ _ _ (Oper.mk _ (Op.call ⟨.value (.func 17), _, _⟩) _ _ _ _) _ _; exact ov_call Tryd.call17 rfl (by intro himp; first | rfl | (simp_all; done)) (by rfl) (fun _ _ h k => h.ext k) (fun hcg w hw => hri hw.laid))) | fail) ?_ | refine xl_alloc (fun _ => ?_) | refine xl_box rfl (fun _ => ?_) | refine xl_store rfl rfl ?_) | refine wc_ret rfl ?_)
    refine wc_cond rfl (fun hc => ?_) (fun hc => ?_)
    · have hn : readP s = none := by
        rw [hrd, if_neg]
        rintro ⟨h1, h2⟩
        rw [h1, h2] at hc
        revert hc
        decide
      repeat' (first | (first | refine wc_seq ?_ | refine wc_region ?_ | refine wl_nil ?_ | refine wn_seq ?_ | refine wn_blk ?_ | refine wc_skip ?_ | refine wc_block ?_ | refine wc_exit rfl ?_ | (show WL _ _ (_ :: _) _ _ _ _; first | refine yl_v rfl rfl rfl ?_ | refine wl_v rfl rfl rfl (by first  | fail) ?_ | refine xl_alloc (fun _ => ?_) | refine xl_box rfl (fun _ => ?_) | refine xl_store rfl rfl ?_) | refine wc_ret rfl ?_) | (show WC _ (Code.cond _ _ _) _ _ _ _; (refine wc_cond rfl (fun hc => ?_) (fun hc => ?_) <;> (try (simp only [decide_eq_true_eq, decide_eq_false_iff_not, Bool.and_eq_true, Bool.or_eq_true, Bool.and_eq_false_iff, Bool.or_eq_false_iff, Bool.not_eq_true', Bool.not_eq_false', Int.not_lt, Int.not_le] at hc)) <;> (try (exfalso; first | omega | contradiction)))))
      exact yr_layC2 (Hn := []) rfl rfl rfl rfl rfl hM1 (List.nil_sublist _) ⟨rfl, readN_no hn⟩
    · have hy : readP s = some x := by
        rw [hrd, if_pos]
        simp only [Bool.or_eq_false_iff, Bool.not_eq_false', decide_eq_true_eq, Bool.not_true, true_and] at hc
        exact hc
      repeat' (first | (first | refine wc_seq ?_ | refine wc_region ?_ | refine wl_nil ?_ | refine wn_seq ?_ | refine wn_blk ?_ | refine wc_skip ?_ | refine wc_block ?_ | refine wc_exit rfl ?_ | (show WL _ _ (_ :: _) _ _ _ _; first | refine yl_v rfl rfl rfl ?_ | refine wl_v rfl rfl rfl (by first  | fail) ?_ | refine xl_alloc (fun _ => ?_) | refine xl_box rfl (fun _ => ?_) | refine xl_store rfl rfl ?_) | refine wc_ret rfl ?_) | (show WC _ (Code.cond _ _ _) _ _ _ _; (refine wc_cond rfl (fun hc => ?_) (fun hc => ?_) <;> (try (simp only [decide_eq_true_eq, decide_eq_false_iff_not, Bool.and_eq_true, Bool.or_eq_true, Bool.and_eq_false_iff, Bool.or_eq_false_iff, Bool.not_eq_true', Bool.not_eq_false', Int.not_lt, Int.not_le] at hc)) <;> (try (exfalso; first | omega | contradiction)))))
      refine yr_layC2 (Hn := []) rfl rfl rfl rfl rfl hM1 (List.nil_sublist _) ⟨rfl, ?_⟩
      unfold ReadN
      rw [hy]
      exact ⟨_, rfl, NodeC.mono (fun _ _ => .inl) hnode⟩
set_option maxHeartbeats 1000000 in
theorem rread_ok (hM : Laid M w) (s : List UInt8) (hs : s.length ≤ 100000000) : Calls Tryd.prog 14 #[str s] w (RetS M w (fun M' H v => H = [] ∧ ReadN s M' v)) := by
  refine calls_st (l := [str s]) hM Tryd.func14 rfl rfl rfl (E0 := [(0, true, str s)]) (params_cons rfl (params_nil _)) ?_
  repeat' (first | (first | refine wc_seq ?_ | refine wc_region ?_ | refine wl_nil ?_ | refine wn_seq ?_ | refine wn_blk ?_ | refine wc_skip ?_ | refine wc_block ?_ | refine wc_exit rfl ?_ | (show WL _ _ (_ :: _) _ _ _ _; first | refine yl_v rfl rfl rfl ?_ | refine wl_v rfl rfl rfl (by first  | fail) ?_ | refine xl_alloc (fun _ => ?_) | refine xl_store rfl rfl ?_) | refine wc_ret rfl ?_) | (show WC _ (Code.cond _ _ _) _ _ _ _; (refine wc_cond rfl (fun hc => ?_) (fun hc => ?_) <;> (try (simp only [decide_eq_true_eq, decide_eq_false_iff_not, Bool.and_eq_true, Bool.or_eq_true, Bool.and_eq_false_iff, Bool.or_eq_false_iff, Bool.not_eq_true', Bool.not_eq_false', Int.not_lt, Int.not_le] at hc)) <;> (try (exfalso; first | omega | contradiction)))))
  refine wl_callS rfl Tryd.call30 rfl rfl rfl rfl (fun w hw => refelem_ok 8 1 rfl (by omega) M s 0 w hw.laid hs (by omega)) ?_
  rintro v3 H3 M1 hm3 hn3 ⟨rfl, hR⟩
  have hM1 : Since w M M1 := Since.refl.step hm3 hn3
  unfold RelemIs at hR
  rw [List.drop_zero] at hR
  cases hx : elemP 8 s with
  | none =>
    rw [hx] at hR
    simp only at hR
    obtain ⟨n', a1, l1, c1, t', a2, l2, c2, rfl⟩ := hR
    have hn : readP s = none := by unfold readP; rw [hx]
    repeat' (first | (first | refine wc_seq ?_ | refine wc_region ?_ | refine wl_nil ?_ | refine wn_seq ?_ | refine wn_blk ?_ | refine wc_skip ?_ | refine wc_block ?_ | refine wc_exit rfl ?_ | (show WL _ _ (_ :: _) _ _ _ _; first | refine yl_v rfl rfl rfl ?_ | refine wl_v rfl rfl rfl (by first  | fail) ?_ | refine xl_alloc (fun _ => ?_) | refine xl_store rfl rfl ?_) | refine wc_ret rfl ?_) | (show WC _ (Code.cond _ _ _) _ _ _ _; (refine wc_cond rfl (fun hc => ?_) (fun hc => ?_) <;> (try (simp only [decide_eq_true_eq, decide_eq_false_iff_not, Bool.and_eq_true, Bool.or_eq_true, Bool.and_eq_false_iff, Bool.or_eq_false_iff, Bool.not_eq_true', Bool.not_eq_false', Int.not_lt, Int.not_le] at hc)) <;> (try (exfalso; first | omega | contradiction)))))
    exact yr_layC2 (Hn := []) rfl rfl rfl rfl rfl hM1 (List.nil_sublist _) ⟨rfl, readN_no hn⟩
  | some p =>
    obtain ⟨x, r⟩ := p
    rw [hx] at hR
    simp only at hR
    obtain ⟨vs, n, rfl, hnode, hnl, rfl⟩ := hR
    have hrd : readP s = if s.drop n = [] ∧ rightN x = true then some x else none := by unfold readP; rw [hx]
    have hri := fun {w : World} (hw : Laid M1 w) => rright_ok hw hnode
    obtain ⟨un, ua1, ul1, uc1, ut, ua2, ul2, uc2, rfl⟩ := node_open hnode
    repeat' (first | (first | refine wc_seq ?_ | refine wc_region ?_ | refine wl_nil ?_ | refine wn_seq ?_ | refine wn_blk ?_ | refine wc_skip ?_ | refine wc_block ?_ | refine wc_exit rfl ?_ | (show WL _ _ (_ :: _) _ _ _ _; first | refine yl_v rfl rfl rfl ?_ | refine wl_v rfl rfl rfl (by first | ((show OpV _ _ _ _ (Oper.mk _ (Op.call ⟨.value (.func 31), _, _⟩) _ _ _ _) _ _; exact ov_call Tryd.call31 rfl (by intro himp; first | rfl | (simp_all; done)) (by rfl) (fun _ _ h k => h.ext k) (fun hcg w hw => hri hw.laid))) | fail) ?_ | refine xl_alloc (fun _ => ?_) | refine xl_store rfl rfl ?_) | refine wc_ret rfl ?_) | (show WC _ (Code.cond _ _ _) _ _ _ _; (refine wc_cond rfl (fun hc => ?_) (fun hc => ?_) <;> (try (simp only [decide_eq_true_eq, decide_eq_false_iff_not, Bool.and_eq_true, Bool.or_eq_true, Bool.and_eq_false_iff, Bool.or_eq_false_iff, Bool.not_eq_true', Bool.not_eq_false', Int.not_lt, Int.not_le] at hc)) <;> (try (exfalso; first | omega | contradiction)))))
    · have hn : readP s = none := by
        rw [hrd, if_neg]
        rintro ⟨h1, h2⟩
        have := congrArg List.length h1
        rw [List.length_drop, List.length_nil] at this
        omega
      exact yr_layC2 (Hn := []) rfl rfl rfl rfl rfl hM1 (List.nil_sublist _) ⟨rfl, readN_no hn⟩
    · have hn : readP s = none := by
        rw [hrd, if_neg]
        rintro ⟨h1, h2⟩
        rw [h2] at hc; cases hc
      exact yr_layC2 (Hn := []) rfl rfl rfl rfl rfl hM1 (List.nil_sublist _) ⟨rfl, readN_no hn⟩
    · have hy : readP s = some x := by
        rw [hrd, if_pos ⟨List.drop_eq_nil_of_le (by omega), hc⟩]
      refine yr_layC2 (Hn := []) rfl rfl rfl rfl rfl hM1 (List.nil_sublist _) ⟨rfl, ?_⟩
      unfold ReadN
      rw [hy]
      exact ⟨_, rfl, NodeC.mono (fun _ _ => .inl) hnode⟩
end Go.Proofs.YtnfkbbkojgbbeaaDoor
/-
  The chapter's example; the walks of XmlTexts, XmlReads.
-/
namespace Go.Proofs.YtnfkbbkojgbbeaaDoor
open Go.Eng Go.Pct Go.Xml Go.Rsp
set_option maxRecDepth 10000
set_option linter.unusedSimpArgs false
set_option linter.unusedVariables false

variable {M : Ghost} {w0 w : World} {bs : List Nat} {H : List (Nat × Obj)}
theorem readN_open {s : List UInt8} {M' : Ghost} {v : Value} (h : ReadN s M' v) : ∃ n a1 l1 c1 t a2 l2 c2 e, v = .tuple #[.agg [str n, .slice a1 l1 c1, str t, .slice a2 l2 c2].toArray, i64 e] ∧ NodeC M' 8 ((readP s).getD nodeZ) [str n, .slice a1 l1 c1, str t, .slice a2 l2 c2] ∧ e = (if (readP s).isSome then 0 else 10) := by
  obtain ⟨vs, rfl, hn⟩ := h
  obtain ⟨un, ua1, ul1, uc1, ut, ua2, ul2, uc2, rfl⟩ := node_open hn
  exact ⟨_, _, _, _, _, _, _, _, _, rfl, hn, rfl⟩
theorem readN_yes {s : List UInt8} {x : Nd} {M' : Ghost} {v : Value} (hx : readP s = some x) (h : ReadN s M' v) : ∃ n a1 l1 c1 t a2 l2 c2, v = .tuple #[.agg [str n, .slice a1 l1 c1, str t, .slice a2 l2 c2].toArray, i64 0] ∧ NodeC M' 8 x [str n, .slice a1 l1 c1, str t, .slice a2 l2 c2] := by
  obtain ⟨n, a1, l1, c1, t, a2, l2, c2, e, h1, h2, h3⟩ := readN_open h
  rw [hx] at h2 h3
  subst h3
  exact ⟨_, _, _, _, _, _, _, _, h1, h2⟩
theorem slP_lit {e b : Nat} {l : List Pr} (h : M b (.cells (cellsP l).toArray e (0, 0))) (hl : l.length ≤ 1000) : SlP M (.slice (some ⟨b, 0, none⟩) l.length l.length) l :=
  (OwnS.lit (e := e) (b := b) (cellsP_length l) (Nat.le_trans hl (by decide))).slP (fun p hp => by
    rw [List.mem_singleton] at hp; subst hp; exact h) (by omega)
def xa : Nd := .mk [97] [([120], [49])] [60, 38] []
def xaT : List UInt8 := [60, 97, 32, 120, 61, 34, 49, 34, 62, 38, 108, 116, 59, 38, 97, 109, 112, 59, 60, 47, 97, 62]
theorem xa_right : rightN xa = true := by decide +kernel
theorem xa_text : textN xa = xaT := by decide +kernel
theorem xa_read : readP xaT = some xa := by rw [← xa_text]; exact readP_back xa_right
theorem xa_res : resW xa = .tuple #[str xaT, i64 0] := by unfold resW; rw [xa_right, xa_text]; rfl
theorem sameN_self (x : Nd) : sameN x x = true := sameN_refl x
set_option maxHeartbeats 1000000 in
theorem awake_ok (hG : Glob M) (hM : Laid M w) : Calls Tryd.prog 8 #[] w (RetE w (.bool true)) := by
  refine calls_st (l := []) hM Tryd.func8 rfl rfl rfl (E0 := []) (params_nil _) ?_
  repeat' (first | refine wc_seq ?_ | refine wc_region ?_ | refine wl_nil ?_ | refine wn_seq ?_ | refine wn_blk ?_ | refine wc_skip ?_ | refine wc_block ?_ | refine wc_exit rfl ?_ | (show WL _ _ (_ :: _) _ _ _ _; first | refine yl_v rfl rfl rfl ?_ | refine wl_v rfl rfl rfl (by first  | fail) ?_ | refine xl_alloc (fun _ => ?_) | refine xl_store rfl rfl ?_ | refine xl_buildSlice rfl (fun _ => ?_)) | refine wc_ret rfl ?_)
  rename_i b7 b1
  refine wl_weak (C' := St w [] ([(b7, .cells [str [120], str [49]].toArray 39 (0, 0))] ++ [(b1, .cells [str [97], .slice (some ⟨b7, 0, none⟩) 1 1, str [60, 38], .slice none 0 0].toArray 31 (0, 0))]) M) (Eng.Sub.refl _) (fun _ h => h.perm (List.Perm.swap _ _ _)) ?_
  refine wl_publish (fun hn => ?_)
  have hM1 : ∀ b o, M b o → With M [(b7, .cells [str [120], str [49]].toArray 39 (0, 0))] b o := fun _ _ => .inl
  have hsl : SlP (With M [(b7, .cells [str [120], str [49]].toArray 39 (0, 0))]) (.slice (some ⟨b7, 0, none⟩) 1 1) [([120], [49])] := slP_lit (e := 39) (l := [([120], [49])]) (.inr (List.Mem.head _)) (by decide)
  have hG1 := hG.mono hM1
  generalize With M [(b7, .cells [str [120], str [49]].toArray 39 (0, 0))] = M1 at *
  have hx : NodeC M1 8 xa [str [97], .slice (some ⟨b7, 0, none⟩) 1 1, str [60, 38], .slice none 0 0] := ⟨_, _, rfl, hsl, sl_nil, by decide, by decide, by decide⟩
  have hwr := fun {w : World} (hw : Laid M1 w) => write_ok hG1 hw hx (by rw [xa_text]; decide)
  rw [xa_res] at hwr
  repeat' (first | refine wc_seq ?_ | refine wc_region ?_ | refine wl_nil ?_ | refine wn_seq ?_ | refine wn_blk ?_ | refine wc_skip ?_ | refine wc_block ?_ | refine wc_exit rfl ?_ | (show WL _ _ (_ :: _) _ _ _ _; first | refine yl_v rfl rfl rfl ?_ | refine wl_v rfl rfl rfl (by first | ((show OpV _ _ _ _ (Oper.mk _ (Op.call ⟨.value (.func 18), _, _⟩) _ _ _ _) _ _; exact ov_call Tryd.call18 rfl (by intro himp; first | rfl | (simp_all; done)) (by rfl) (fun _ _ h k => h.ext k) (fun hcg w hw => hwr hw.laid))) | fail) ?_ | refine xl_alloc (fun _ => ?_) | refine xl_store rfl rfl ?_ | refine xl_buildSlice rfl (fun _ => ?_)) | refine wc_ret rfl ?_)
  refine wl_callS rfl Tryd.call13 rfl rfl rfl rfl (fun w hw => xread_ok hG1 hw.laid xaT (by decide)) ?_
  rintro v2 H2 M2 hm2 hn2 ⟨rfl, hR⟩
  obtain ⟨n, a1, l1, c1, t, a2, l2, c2, rfl, hy⟩ := readN_yes xa_read hR
  have hsm := fun {w : World} (hw : Laid M2 w) => rsame_ok hy (NodeC.mono hm2 hx) w hw
  rw [sameN_self] at hsm
  repeat' (first | (first | refine wc_seq ?_ | refine wc_region ?_ | refine wl_nil ?_ | refine wn_seq ?_ | refine wn_blk ?_ | refine wc_skip ?_ | refine wc_block ?_ | refine wc_exit rfl ?_ | (show WL _ _ (_ :: _) _ _ _ _; first | refine yl_v rfl rfl rfl ?_ | refine wl_v rfl rfl rfl (by first | ((show OpV _ _ _ _ (Oper.mk _ (Op.call ⟨.value (.func 15), _, _⟩) _ _ _ _) _ _; exact ov_call Tryd.call15 rfl (by intro himp; first | rfl | (simp_all; done)) (by rfl) (fun _ _ h k => h.ext k) (fun hcg w hw => hsm hw.laid))) | fail) ?_ | refine xl_alloc (fun _ => ?_) | refine xl_store rfl rfl ?_ | refine xl_buildSlice rfl (fun _ => ?_)) | refine wc_ret rfl ?_) | (show WC _ (Code.cond _ _ _) _ _ _ _; (refine wc_cond rfl (fun hc => ?_) (fun hc => ?_) <;> (try (simp only [decide_eq_true_eq, decide_eq_false_iff_not, Bool.and_eq_true, Bool.or_eq_true, Bool.and_eq_false_iff, Bool.or_eq_false_iff, Bool.not_eq_true', Bool.not_eq_false', Int.not_lt, Int.not_le] at hc)) <;> (try (exfalso; first | omega | contradiction)))))
  exact wr_weak (fun _ h => h.drop (List.nil_sublist _)) (wr_weak (fun _ h => St.less h (fun b o hb => hm2 b o hb)) (wr_tmp rfl rfl rfl))
theorem texts_ok (hG : Glob M) (hM : Laid M w) (s : List UInt8) : Calls Tryd.prog 3 #[str s] w (RetE w (.bool true)) := by
  refine calls_st (l := [str s]) hM Tryd.func3 rfl rfl rfl (E0 := [(0, true, str s)]) (params_cons rfl (params_nil _)) ?_
  repeat' (first | (first | refine wc_seq ?_ | refine wc_region ?_ | refine wl_nil ?_ | refine wn_seq ?_ | refine wn_blk ?_ | refine wc_skip ?_ | refine wc_block ?_ | refine wc_exit rfl ?_ | (show WL _ _ (_ :: _) _ _ _ _; first | refine yl_v rfl rfl rfl ?_ | refine wl_v rfl rfl rfl (by first | ((show OpV _ _ _ _ (Oper.mk _ (Op.call ⟨.value (.func 8), _, _⟩) _ _ _ _) _ _; exact ov_call Tryd.call8 rfl (by intro himp; first | rfl | (simp_all; done)) (by rfl) (fun _ _ h k => h.ext k) (fun hcg w hw => awake_ok hG hw.laid))) | fail) ?_) | refine wc_ret rfl ?_) | (show WC _ (Code.cond _ _ _) _ _ _ _; (refine wc_cond rfl (fun hc => ?_) (fun hc => ?_) <;> (try (simp only [decide_eq_true_eq, decide_eq_false_iff_not, Bool.and_eq_true, Bool.or_eq_true, Bool.and_eq_false_iff, Bool.or_eq_false_iff, Bool.not_eq_true', Bool.not_eq_false', Int.not_lt, Int.not_le] at hc)) <;> (try (exfalso; first | omega | contradiction)))))
  · exact wr_tmp rfl rfl rfl
  have h1 := fun {w : World} (hw : Laid M w) => unescape_ok hG hw s (by omega)
  have h2 := fun {w : World} (hw : Laid M w) => runescape_ok hw s (by omega)
  have h3 := fun {w : World} (hw : Laid M w) => escape_ok hG hw s (by omega)
  have h4 := fun {w : World} (hw : Laid M w) => rescape_ok hw s (by omega)
  unfold resU at h1 h2
  generalize (unescQ s).getD [] = u at *
  generalize (if (unescQ s).isSome then (0 : Int) else 10) = e at *
  generalize esc s = x at *
  repeat' (first | (first | refine wc_seq ?_ | refine wc_region ?_ | refine wl_nil ?_ | refine wn_seq ?_ | refine wn_blk ?_ | refine wc_skip ?_ | refine wc_block ?_ | refine wc_exit rfl ?_ | (show WL _ _ (_ :: _) _ _ _ _; first | refine yl_v rfl rfl rfl ?_ | refine wl_v rfl rfl rfl (by first | ((show OpV _ _ _ _ (Oper.mk _ (Op.call ⟨.value (.func 9), _, _⟩) _ _ _ _) _ _; exact ov_call Tryd.call9 rfl (by intro himp; first | rfl | (simp_all; done)) (by rfl) (fun _ _ h k => h.ext k) (fun hcg w hw => h1 hw.laid))) | ((show OpV _ _ _ _ (Oper.mk _ (Op.call ⟨.value (.func 10), _, _⟩) _ _ _ _) _ _; exact ov_call Tryd.call10 rfl (by intro himp; first | rfl | (simp_all; done)) (by rfl) (fun _ _ h k => h.ext k) (fun hcg w hw => h2 hw.laid))) | ((show OpV _ _ _ _ (Oper.mk _ (Op.call ⟨.value (.func 11), _, _⟩) _ _ _ _) _ _; exact ov_call Tryd.call11 rfl (by intro himp; first | rfl | (simp_all; done)) (by rfl) (fun _ _ h k => h.ext k) (fun hcg w hw => h3 hw.laid))) | ((show OpV _ _ _ _ (Oper.mk _ (Op.call ⟨.value (.func 12), _, _⟩) _ _ _ _) _ _; exact ov_call Tryd.call12 rfl (by intro himp; first | rfl | (simp_all; done)) (by rfl) (fun _ _ h k => h.ext k) (fun hcg w hw => h4 hw.laid))) | fail) ?_) | refine wc_ret rfl ?_) | (show WC _ (Code.cond _ _ _) _ _ _ _; (refine wc_cond rfl (fun hc => ?_) (fun hc => ?_) <;> (try (simp only [decide_eq_true_eq, decide_eq_false_iff_not, Bool.and_eq_true, Bool.or_eq_true, Bool.and_eq_false_iff, Bool.or_eq_false_iff, Bool.not_eq_true', Bool.not_eq_false', Int.not_lt, Int.not_le] at hc)) <;> (try (exfalso; first | omega | contradiction)))))
  exact wr_tmp rfl rfl rfl
theorem reads_ok (hG : Glob M) (hM : Laid M w) (s : List UInt8) : Calls Tryd.prog 4 #[str s] w (RetE w (.bool true)) := by
  refine calls_st (l := [str s]) hM Tryd.func4 rfl rfl rfl (E0 := [(0, true, str s)]) (params_cons rfl (params_nil _)) ?_
  repeat' (first | (first | refine wc_seq ?_ | refine wc_region ?_ | refine wl_nil ?_ | refine wn_seq ?_ | refine wn_blk ?_ | refine wc_skip ?_ | refine wc_block ?_ | refine wc_exit rfl ?_ | (show WL _ _ (_ :: _) _ _ _ _; first | refine yl_v rfl rfl rfl ?_ | refine wl_v rfl rfl rfl (by first | ((show OpV _ _ _ _ (Oper.mk _ (Op.call ⟨.value (.func 8), _, _⟩) _ _ _ _) _ _; exact ov_call Tryd.call8 rfl (by intro himp; first | rfl | (simp_all; done)) (by rfl) (fun _ _ h k => h.ext k) (fun hcg w hw => awake_ok hG hw.laid))) | fail) ?_ | refine xl_alloc (fun _ => ?_) | refine xl_store rfl rfl ?_) | refine wc_ret rfl ?_) | (show WC _ (Code.cond _ _ _) _ _ _ _; (refine wc_cond rfl (fun hc => ?_) (fun hc => ?_) <;> (try (simp only [decide_eq_true_eq, decide_eq_false_iff_not, Bool.and_eq_true, Bool.or_eq_true, Bool.and_eq_false_iff, Bool.or_eq_false_iff, Bool.not_eq_true', Bool.not_eq_false', Int.not_lt, Int.not_le] at hc)) <;> (try (exfalso; first | omega | contradiction)))))
  · exact wr_tmp rfl rfl rfl
  refine wl_callS rfl Tryd.call13 rfl rfl rfl rfl (fun w hw => xread_ok hG hw.laid s (by omega)) ?_
  rintro v1 H1 M1 hm1 hn1 ⟨rfl, hR1⟩
  obtain ⟨n, a1, l1, c1, t, a2, l2, c2, e, rfl, hx, he⟩ := readN_open hR1
  repeat' (first | (first | refine wc_seq ?_ | refine wc_region ?_ | refine wl_nil ?_ | refine wn_seq ?_ | refine wn_blk ?_ | refine wc_skip ?_ | refine wc_block ?_ | refine wc_exit rfl ?_ | (show WL _ _ (_ :: _) _ _ _ _; first | refine yl_v rfl rfl rfl ?_ | refine wl_v rfl rfl rfl (by first  | fail) ?_ | refine xl_alloc (fun _ => ?_) | refine xl_store rfl rfl ?_) | refine wc_ret rfl ?_) | (show WC _ (Code.cond _ _ _) _ _ _ _; (refine wc_cond rfl (fun hc => ?_) (fun hc => ?_) <;> (try (simp only [decide_eq_true_eq, decide_eq_false_iff_not, Bool.and_eq_true, Bool.or_eq_true, Bool.and_eq_false_iff, Bool.or_eq_false_iff, Bool.not_eq_true', Bool.not_eq_false', Int.not_lt, Int.not_le] at hc)) <;> (try (exfalso; first | omega | contradiction)))))
  refine wl_callS rfl Tryd.call14 rfl rfl rfl rfl (fun w hw => rread_ok hw.laid s (by omega)) ?_
  rintro v2 H2 M2 hm2 hn2 ⟨rfl, hR2⟩
  obtain ⟨n', b1, m1, d1, t', b2, m2, d2, e', rfl, hy, he'⟩ := readN_open hR2
  obtain rfl : e' = e := by rw [he, he']
  clear he he'
  have hsm := fun {w : World} (hw : Laid M2 w) => rsame_ok (NodeC.mono hm2 hx) hy w hw
  rw [sameN_self] at hsm
  repeat' (first | (first | refine wc_seq ?_ | refine wc_region ?_ | refine wl_nil ?_ | refine wn_seq ?_ | refine wn_blk ?_ | refine wc_skip ?_ | refine wc_block ?_ | refine wc_exit rfl ?_ | (show WL _ _ (_ :: _) _ _ _ _; first | refine yl_v rfl rfl rfl ?_ | refine wl_v rfl rfl rfl (by first | ((show OpV _ _ _ _ (Oper.mk _ (Op.call ⟨.value (.func 15), _, _⟩) _ _ _ _) _ _; exact ov_call Tryd.call15 rfl (by intro himp; first | rfl | (simp_all; done)) (by rfl) (fun _ _ h k => h.ext k) (fun hcg w hw => hsm hw.laid))) | fail) ?_ | refine xl_alloc (fun _ => ?_) | refine xl_store rfl rfl ?_) | refine wc_ret rfl ?_) | (show WC _ (Code.cond _ _ _) _ _ _ _; (refine wc_cond rfl (fun hc => ?_) (fun hc => ?_) <;> (try (simp only [decide_eq_true_eq, decide_eq_false_iff_not, Bool.and_eq_true, Bool.or_eq_true, Bool.and_eq_false_iff, Bool.or_eq_false_iff, Bool.not_eq_true', Bool.not_eq_false', Int.not_lt, Int.not_le] at hc)) <;> (try (exfalso; first | omega | contradiction)))))
  exact wr_weak (fun _ h => h.drop (List.nil_sublist _)) (wr_tmp rfl rfl rfl)
end Go.Proofs.YtnfkbbkojgbbeaaDoor
/-
  The walk of XmlBack.
-/
namespace Go.Proofs.YtnfkbbkojgbbeaaDoor
open Go.Eng Go.Pct Go.Xml Go.Rsp
set_option maxRecDepth 10000
set_option linter.unusedSimpArgs false
set_option linter.unusedVariables false

variable {M : Ghost} {w0 w : World} {bs : List Nat} {H : List (Nat × Obj)}
theorem resW_yes {x : Nd} (h : rightN x = true) : resW x = .tuple #[str (textN x), i64 0] := by unfold resW; rw [h]; rfl
theorem resW_no {x : Nd} (h : rightN x = false) : resW x = .tuple #[str [], i64 1] := by unfold resW; rw [h]; rfl
set_option maxHeartbeats 1000000 in
theorem back_ok (hG : Glob M) (hM : Laid M w) {D : Nat} {x : Nd} {un a1 l1 c1 ut a2 l2 c2} (hx : NodeC M D x [str un, .slice a1 l1 c1, str ut, .slice a2 l2 c2]) (s : List UInt8) (hlen : (textN x).length ≤ 100000000) : Calls Tryd.prog 5 #[.agg [str un, .slice a1 l1 c1, str ut, .slice a2 l2 c2].toArray, str s] w (RetE w (.bool true)) := by
  refine calls_st (l := [.agg [str un, .slice a1 l1 c1, str ut, .slice a2 l2 c2].toArray, str s]) hM Tryd.func5 rfl rfl rfl (E0 := [(0, true, .agg [str un, .slice a1 l1 c1, str ut, .slice a2 l2 c2].toArray), (1, true, str s)]) (params_cons rfl (params_cons rfl (params_nil _))) ?_
  have hfew := fun {w : World} (hw : Laid M w) => few_ok hw hx
  have hri := fun {w : World} (hw : Laid M w) => right_ok hw hx
  have hwr := fun {w : World} (hw : Laid M w) => write_ok hG hw hx (by omega)
  generalize decide (0 ≤ fewN x 250 12) = few at *
  repeat' (first | (first | refine wc_seq ?_ | refine wc_region ?_ | refine wl_nil ?_ | refine wn_seq ?_ | refine wn_blk ?_ | refine wc_skip ?_ | refine wc_block ?_ | refine wc_exit rfl ?_ | (show WL _ _ (_ :: _) _ _ _ _; first | refine yl_v rfl rfl rfl ?_ | refine wl_v rfl rfl rfl (by first | ((show OpV _ _ _ _ (Oper.mk _ (Op.call ⟨.value (.func 8), _, _⟩) _ _ _ _) _ _; exact ov_call Tryd.call8 rfl (by intro himp; first | rfl | (simp_all; done)) (by rfl) (fun _ _ h k => h.ext k) (fun hcg w hw => awake_ok hG hw.laid))) | ((show OpV _ _ _ _ (Oper.mk _ (Op.call ⟨.value (.func 16), _, _⟩) _ _ _ _) _ _; exact ov_call Tryd.call16 rfl (by intro himp; first | rfl | (simp_all; done)) (by rfl) (fun _ _ h k => h.ext k) (fun hcg w hw => hfew hw.laid))) | fail) ?_ | refine xl_alloc (fun _ => ?_) | refine xl_box rfl (fun _ => ?_) | refine xl_store rfl rfl ?_) | refine wc_ret rfl ?_) | (show WC _ (Code.cond _ _ _) _ _ _ _; (refine wc_cond rfl (fun hc => ?_) (fun hc => ?_) <;> (try (simp only [decide_eq_true_eq, decide_eq_false_iff_not, Bool.and_eq_true, Bool.or_eq_true, Bool.and_eq_false_iff, Bool.or_eq_false_iff, Bool.not_eq_true', Bool.not_eq_false', Int.not_lt, Int.not_le] at hc)) <;> (try (exfalso; first | omega | contradiction)))))
  · exact wr_weak (fun _ h => h.drop (List.nil_sublist _)) (wr_tmp rfl rfl rfl)
  rename_i b2
  have hs5 : s.length ≤ 500 := by omega
  clear hc hfew
  cases hr : rightN x with
  | true =>
    rw [hr] at hri
    rw [resW_yes hr] at hwr
    repeat' (first | (first | refine wc_seq ?_ | refine wc_region ?_ | refine wl_nil ?_ | refine wn_seq ?_ | refine wn_blk ?_ | refine wc_skip ?_ | refine wc_block ?_ | refine wc_exit rfl ?_ | (show WL _ _ (_ :: _) _ _ _ _; first | refine yl_v rfl rfl rfl ?_ | refine wl_v rfl rfl rfl (by first | ((show OpV _ _ _ _ (Oper.mk _ (Op.call ⟨.value (.func 17), _, _⟩) _ _ _ _) _ _; exact ov_call Tryd.call17 rfl (by intro himp; first | rfl | (simp_all; done)) (by rfl) (fun _ _ h k => h.ext k) (fun hcg w hw => hri hw.laid))) | ((show OpV _ _ _ _ (Oper.mk _ (Op.call ⟨.value (.func 18), _, _⟩) _ _ _ _) _ _; exact ov_call Tryd.call18 rfl (by intro himp; first | rfl | (simp_all; done)) (by rfl) (fun _ _ h k => h.ext k) (fun hcg w hw => hwr hw.laid))) | fail) ?_ | refine xl_alloc (fun _ => ?_) | refine xl_box rfl (fun _ => ?_) | refine xl_store rfl rfl ?_) | refine wc_ret rfl ?_) | (show WC _ (Code.cond _ _ _) _ _ _ _; (refine wc_cond rfl (fun hc => ?_) (fun hc => ?_) <;> (try (simp only [decide_eq_true_eq, decide_eq_false_iff_not, Bool.and_eq_true, Bool.or_eq_true, Bool.and_eq_false_iff, Bool.or_eq_false_iff, Bool.not_eq_true', Bool.not_eq_false', Int.not_lt, Int.not_le] at hc)) <;> (try (exfalso; first | omega | contradiction)))))
    refine wl_callS rfl Tryd.call13 rfl rfl rfl rfl (fun w hw => xread_ok hG hw.laid (textN x) hlen) ?_
    rintro v1 H1 M1 hm1 hn1 ⟨rfl, hR1⟩
    obtain ⟨n1, b1, m1, d1, t1, b2', m2, d2, rfl, hy1⟩ := readN_yes (readP_back hr) hR1
    have hsm1 := fun {w : World} (hw : Laid M1 w) => rsame_ok hy1 (NodeC.mono hm1 hx) w hw
    rw [sameN_self] at hsm1
    repeat' (first | (first | refine wc_seq ?_ | refine wc_region ?_ | refine wl_nil ?_ | refine wn_seq ?_ | refine wn_blk ?_ | refine wc_skip ?_ | refine wc_block ?_ | refine wc_exit rfl ?_ | (show WL _ _ (_ :: _) _ _ _ _; first | refine yl_v rfl rfl rfl ?_ | refine wl_v rfl rfl rfl (by first | ((show OpV _ _ _ _ (Oper.mk _ (Op.call ⟨.value (.func 15), _, _⟩) _ _ _ _) _ _; exact ov_call Tryd.call15 rfl (by intro himp; first | rfl | (simp_all; done)) (by rfl) (fun _ _ h k => h.ext k) (fun hcg w hw => hsm1 hw.laid))) | fail) ?_ | refine xl_alloc (fun _ => ?_) | refine xl_box rfl (fun _ => ?_) | refine xl_store rfl rfl ?_) | refine wc_ret rfl ?_) | (show WC _ (Code.cond _ _ _) _ _ _ _; (refine wc_cond rfl (fun hc => ?_) (fun hc => ?_) <;> (try (simp only [decide_eq_true_eq, decide_eq_false_iff_not, Bool.and_eq_true, Bool.or_eq_true, Bool.and_eq_false_iff, Bool.or_eq_false_iff, Bool.not_eq_true', Bool.not_eq_false', Int.not_lt, Int.not_le] at hc)) <;> (try (exfalso; first | omega | contradiction)))))
    refine wl_callS rfl Tryd.call13 rfl rfl rfl rfl (fun w hw => xread_ok (hG.mono hm1) hw.laid s (by omega)) ?_
    rintro v3 H3 M3 hm3 hn3 ⟨rfl, hR3⟩
    obtain ⟨n3, p1, q1, r1, t3, p2, q2, r2, e3, rfl, hy3, he3⟩ := readN_open hR3
    have hG3 := ((hG.mono hm1)).mono hm3
    cases hs3 : readP s with
    | none =>
      rw [hs3] at hy3 he3
      obtain rfl : e3 = 10 := he3
      have hsm3 := fun {w : World} (hw : Laid M3 w) => rsame_ok hy3 (nodeZ_ok (M := M3) (D := 0)) w hw
      have hsm3 : ∀ {w : World}, Laid M3 w → Calls Tryd.prog 15 #[.agg [str n3, .slice p1 q1 r1, str t3, .slice p2 q2 r2].toArray, .agg [str [], .slice none 0 0, str [], .slice none 0 0].toArray] w (RetE w (.bool true)) := fun h => by have := hsm3 h; rw [show sameN (Option.getD none nodeZ) nodeZ = true from sameN_self _] at this; exact this
      repeat' (first | (first | refine wc_seq ?_ | refine wc_region ?_ | refine wl_nil ?_ | refine wn_seq ?_ | refine wn_blk ?_ | refine wc_skip ?_ | refine wc_block ?_ | refine wc_exit rfl ?_ | (show WL _ _ (_ :: _) _ _ _ _; first | refine yl_v rfl rfl rfl ?_ | refine wl_v rfl rfl rfl (by first | ((show OpV _ _ _ _ (Oper.mk _ (Op.call ⟨.value (.func 15), _, _⟩) _ _ _ _) _ _; exact ov_call Tryd.call15 rfl (by intro himp; first | rfl | (simp_all; done)) (by rfl) (fun _ _ h k => h.ext k) (fun hcg w hw => hsm3 hw.laid))) | fail) ?_ | refine xl_alloc (fun _ => ?_) | refine xl_box rfl (fun _ => ?_) | refine xl_store rfl rfl ?_) | refine wc_ret rfl ?_) | (show WC _ (Code.cond _ _ _) _ _ _ _; (refine wc_cond rfl (fun hc => ?_) (fun hc => ?_) <;> (try (simp only [decide_eq_true_eq, decide_eq_false_iff_not, Bool.and_eq_true, Bool.or_eq_true, Bool.and_eq_false_iff, Bool.or_eq_false_iff, Bool.not_eq_true', Bool.not_eq_false', Int.not_lt, Int.not_le] at hc)) <;> (try (exfalso; first | omega | contradiction)))))
      exact wr_weak (fun _ h => h.drop (List.nil_sublist _)) (wr_tmp rfl rfl rfl)
    | some y =>
      rw [hs3] at hy3 he3
      obtain rfl : e3 = 0 := he3
      obtain ⟨hy4, hy5⟩ := readP_text hs3
      have hwr3 := fun {w : World} (hw : Laid M3 w) => write_ok hG3 hw hy3 (show (textN y).length ≤ _ by rw [hy4]; omega)
      rw [show Option.getD (some y) nodeZ = y from rfl, resW_yes hy5, hy4] at hwr3
      repeat' (first | (first | refine wc_seq ?_ | refine wc_region ?_ | refine wl_nil ?_ | refine wn_seq ?_ | refine wn_blk ?_ | refine wc_skip ?_ | refine wc_block ?_ | refine wc_exit rfl ?_ | (show WL _ _ (_ :: _) _ _ _ _; first | refine yl_v rfl rfl rfl ?_ | refine wl_v rfl rfl rfl (by first | ((show OpV _ _ _ _ (Oper.mk _ (Op.call ⟨.value (.func 18), _, _⟩) _ _ _ _) _ _; exact ov_call Tryd.call18 rfl (by intro himp; first | rfl | (simp_all; done)) (by rfl) (fun _ _ h k => h.ext k) (fun hcg w hw => hwr3 hw.laid))) | fail) ?_ | refine xl_alloc (fun _ => ?_) | refine xl_box rfl (fun _ => ?_) | refine xl_store rfl rfl ?_) | refine wc_ret rfl ?_) | (show WC _ (Code.cond _ _ _) _ _ _ _; (refine wc_cond rfl (fun hc => ?_) (fun hc => ?_) <;> (try (simp only [decide_eq_true_eq, decide_eq_false_iff_not, Bool.and_eq_true, Bool.or_eq_true, Bool.and_eq_false_iff, Bool.or_eq_false_iff, Bool.not_eq_true', Bool.not_eq_false', Int.not_lt, Int.not_le] at hc)) <;> (try (exfalso; first | omega | contradiction)))))
      exact wr_weak (fun _ h => h.drop (List.nil_sublist _)) (wr_tmp rfl rfl rfl)
  | false =>
    rw [hr] at hri
    rw [resW_no hr] at hwr
    repeat' (first | (first | refine wc_seq ?_ | refine wc_region ?_ | refine wl_nil ?_ | refine wn_seq ?_ | refine wn_blk ?_ | refine wc_skip ?_ | refine wc_block ?_ | refine wc_exit rfl ?_ | (show WL _ _ (_ :: _) _ _ _ _; first | refine yl_v rfl rfl rfl ?_ | refine wl_v rfl rfl rfl (by first | ((show OpV _ _ _ _ (Oper.mk _ (Op.call ⟨.value (.func 17), _, _⟩) _ _ _ _) _ _; exact ov_call Tryd.call17 rfl (by intro himp; first | rfl | (simp_all; done)) (by rfl) (fun _ _ h k => h.ext k) (fun hcg w hw => hri hw.laid))) | ((show OpV _ _ _ _ (Oper.mk _ (Op.call ⟨.value (.func 18), _, _⟩) _ _ _ _) _ _; exact ov_call Tryd.call18 rfl (by intro himp; first | rfl | (simp_all; done)) (by rfl) (fun _ _ h k => h.ext k) (fun hcg w hw => hwr hw.laid))) | fail) ?_ | refine xl_alloc (fun _ => ?_) | refine xl_box rfl (fun _ => ?_) | refine xl_store rfl rfl ?_) | refine wc_ret rfl ?_) | (show WC _ (Code.cond _ _ _) _ _ _ _; (refine wc_cond rfl (fun hc => ?_) (fun hc => ?_) <;> (try (simp only [decide_eq_true_eq, decide_eq_false_iff_not, Bool.and_eq_true, Bool.or_eq_true, Bool.and_eq_false_iff, Bool.or_eq_false_iff, Bool.not_eq_true', Bool.not_eq_false', Int.not_lt, Int.not_le] at hc)) <;> (try (exfalso; first | omega | contradiction)))))
    refine wl_callS rfl Tryd.call13 rfl rfl rfl rfl (fun w hw => xread_ok hG hw.laid s (by omega)) ?_
    rintro v3 H3 M3 hm3 hn3 ⟨rfl, hR3⟩
    obtain ⟨n3, p1, q1, r1, t3, p2, q2, r2, e3, rfl, hy3, he3⟩ := readN_open hR3
    have hG3 := (hG).mono hm3
    cases hs3 : readP s with
    | none =>
      rw [hs3] at hy3 he3
      obtain rfl : e3 = 10 := he3
      have hsm3 := fun {w : World} (hw : Laid M3 w) => rsame_ok hy3 (nodeZ_ok (M := M3) (D := 0)) w hw
      have hsm3 : ∀ {w : World}, Laid M3 w → Calls Tryd.prog 15 #[.agg [str n3, .slice p1 q1 r1, str t3, .slice p2 q2 r2].toArray, .agg [str [], .slice none 0 0, str [], .slice none 0 0].toArray] w (RetE w (.bool true)) := fun h => by have := hsm3 h; rw [show sameN (Option.getD none nodeZ) nodeZ = true from sameN_self _] at this; exact this
      repeat' (first | (first | refine wc_seq ?_ | refine wc_region ?_ | refine wl_nil ?_ | refine wn_seq ?_ | refine wn_blk ?_ | refine wc_skip ?_ | refine wc_block ?_ | refine wc_exit rfl ?_ | (show WL _ _ (_ :: _) _ _ _ _; first | refine yl_v rfl rfl rfl ?_ | refine wl_v rfl rfl rfl (by first | ((show OpV _ _ _ _ (Oper.mk _ (Op.call ⟨.value (.func 15), _, _⟩) _ _ _ _) _ _; exact ov_call Tryd.call15 rfl (by intro himp; first | rfl | (simp_all; done)) (by rfl) (fun _ _ h k => h.ext k) (fun hcg w hw => hsm3 hw.laid))) | fail) ?_ | refine xl_alloc (fun _ => ?_) | refine xl_box rfl (fun _ => ?_) | refine xl_store rfl rfl ?_) | refine wc_ret rfl ?_) | (show WC _ (Code.cond _ _ _) _ _ _ _; (refine wc_cond rfl (fun hc => ?_) (fun hc => ?_) <;> (try (simp only [decide_eq_true_eq, decide_eq_false_iff_not, Bool.and_eq_true, Bool.or_eq_true, Bool.and_eq_false_iff, Bool.or_eq_false_iff, Bool.not_eq_true', Bool.not_eq_false', Int.not_lt, Int.not_le] at hc)) <;> (try (exfalso; first | omega | contradiction)))))
      exact wr_weak (fun _ h => h.drop (List.nil_sublist _)) (wr_tmp rfl rfl rfl)
    | some y =>
      rw [hs3] at hy3 he3
      obtain rfl : e3 = 0 := he3
      obtain ⟨hy4, hy5⟩ := readP_text hs3
      have hwr3 := fun {w : World} (hw : Laid M3 w) => write_ok hG3 hw hy3 (show (textN y).length ≤ _ by rw [hy4]; omega)
      rw [show Option.getD (some y) nodeZ = y from rfl, resW_yes hy5, hy4] at hwr3
      repeat' (first | (first | refine wc_seq ?_ | refine wc_region ?_ | refine wl_nil ?_ | refine wn_seq ?_ | refine wn_blk ?_ | refine wc_skip ?_ | refine wc_block ?_ | refine wc_exit rfl ?_ | (show WL _ _ (_ :: _) _ _ _ _; first | refine yl_v rfl rfl rfl ?_ | refine wl_v rfl rfl rfl (by first | ((show OpV _ _ _ _ (Oper.mk _ (Op.call ⟨.value (.func 18), _, _⟩) _ _ _ _) _ _; exact ov_call Tryd.call18 rfl (by intro himp; first | rfl | (simp_all; done)) (by rfl) (fun _ _ h k => h.ext k) (fun hcg w hw => hwr3 hw.laid))) | fail) ?_ | refine xl_alloc (fun _ => ?_) | refine xl_box rfl (fun _ => ?_) | refine xl_store rfl rfl ?_) | refine wc_ret rfl ?_) | (show WC _ (Code.cond _ _ _) _ _ _ _; (refine wc_cond rfl (fun hc => ?_) (fun hc => ?_) <;> (try (simp only [decide_eq_true_eq, decide_eq_false_iff_not, Bool.and_eq_true, Bool.or_eq_true, Bool.and_eq_false_iff, Bool.or_eq_false_iff, Bool.not_eq_true', Bool.not_eq_false', Int.not_lt, Int.not_le] at hc)) <;> (try (exfalso; first | omega | contradiction)))))
      exact wr_weak (fun _ h => h.drop (List.nil_sublist _)) (wr_tmp rfl rfl rfl)
end Go.Proofs.YtnfkbbkojgbbeaaDoor
/-
  The walk of XmlDeep.
-/
namespace Go.Proofs.YtnfkbbkojgbbeaaDoor
open Go.Eng Go.Pct Go.Xml Go.Rsp
set_option maxRecDepth 10000
set_option linter.unusedSimpArgs false
set_option linter.unusedVariables false

variable {M : Ghost} {w0 w : World} {bs : List Nat} {H : List (Nat × Obj)}
/-- elements in one another; one behind the other -/
def nest : Nat → Nd
  | 0 => .mk [97] [] [] []
  | n + 1 => .mk [97] [] [] [nest n]
def leafC : Nd := .mk [99] [] [] []
def wide (n : Nat) : Nd := .mk [98] [] [] (List.replicate n leafC)
def nestT : Nat → List UInt8
  | 0 => [60, 97, 62, 60, 47, 97, 62]
  | n + 1 => [60, 97, 62] ++ nestT n ++ [60, 47, 97, 62]
def wideT : Nat → List UInt8
  | 0 => [60, 98, 62]
  | n + 1 => wideT n ++ [60, 99, 62, 60, 47, 99, 62]
theorem esc_nil : esc [] = [] := rfl
theorem nest_text : ∀ n, textN (nest n) = nestT n
  | 0 => by decide +kernel
  | n + 1 => by simp [nest, nestT, textN, textL, attrT, esc_nil, nest_text n]
theorem leaf_text : textN leafC = [60, 99, 62, 60, 47, 99, 62] := by decide +kernel
theorem wide_kids : ∀ n, [60, 98, 62] ++ textL (List.replicate n leafC) = wideT n
  | 0 => rfl
  | n + 1 => by
    rw [wideT, ← wide_kids n, ← leaf_text]
    rw [List.replicate_succ', List.append_assoc]
    congr 1
    generalize List.replicate n leafC = l
    induction l with
    | nil => simp [textL]
    | cons x l ih => simp only [List.cons_append, textL, ih, List.append_assoc]
theorem wide_text (n : Nat) : textN (wide n) = wideT n ++ [60, 47, 98, 62] := by
  rw [← wide_kids n]
  simp [wide, textN, attrT, esc_nil]
theorem nest_length : ∀ n, (nestT n).length = 7 * n + 7
  | 0 => rfl
  | n + 1 => by rw [nestT]; simp only [List.length_append, List.length_cons, List.length_nil, nest_length n]; omega
theorem wide_length : ∀ n, (wideT n).length = 7 * n + 3
  | 0 => rfl
  | n + 1 => by rw [wideT]; simp only [List.length_append, List.length_cons, List.length_nil, wide_length n]; omega
theorem nest_right : ∀ n, n < 20 → rightN (nest n) = decide (n < 8) := by decide +kernel
theorem nest_none : ∀ n, n < 20 → 8 ≤ n → (readP (nestT n)).isSome = false := by decide +kernel
theorem nest_read (n : Nat) (h : n < 20) : readP (nestT n) = if n < 8 then some (nest n) else none := by
  by_cases h8 : n < 8
  · rw [if_pos h8, ← nest_text]
    exact readP_back (by rw [nest_right n h]; exact decide_eq_true h8)
  · rw [if_neg h8]
    have := nest_none n h (by omega)
    cases hr : readP (nestT n) with
    | none => rfl
    | some x => rw [hr] at this; cases this
theorem leaf_own : ownN leafC = true := by decide +kernel
theorem wide_own (n : Nat) : ownN (wide n) = true := by
  have h1 : nameB [98] = true := by decide +kernel
  have h2 : attrsB [] = true := by decide
  have h3 : shwB [] = true := by decide
  have h4 : ownL (List.replicate n leafC) = true := by
    induction n with
    | zero => rfl
    | succ n ih => rw [List.replicate_succ, ownL, leaf_own, ih]; rfl
  simp [wide, ownN, h1, h2, h3, h4]
theorem wide_dp (n : Nat) : dpN (wide n) ≤ 2 := by
  have : dpL (List.replicate n leafC) ≤ 1 := by
    induction n with
    | zero => simp [dpL]
    | succ n ih => rw [List.replicate_succ, dpL]; simp [leafC, dpN, dpL] at *; omega
  rw [wide, dpN]; omega
theorem wide_cnt (n : Nat) : cntN (wide n) = n + 1 := by
  have : cntL (List.replicate n leafC) = n := by
    induction n with
    | zero => rfl
    | succ n ih => rw [List.replicate_succ, cntL, ih]; simp [leafC, cntN, cntL]; omega
  rw [wide, cntN, this]; omega
theorem wide_right (n : Nat) : rightN (wide n) = decide (n < 200) := by
  have hd := wide_dp n
  have hc := wide_cnt n
  unfold rightN
  rw [wide_own, Bool.and_true]
  by_cases h : n < 200
  · rw [fewN_yes _ _ _ (by omega) (by omega), decide_eq_true h]
    exact decide_eq_true (by omega)
  · rw [decide_eq_false h]
    refine decide_eq_false (fun h2 => ?_)
    have := (fewN_no _ _ _ h2).2
    omega
theorem wide_read (n : Nat) : readP (wideT n ++ [60, 47, 98, 62]) = if n < 200 then some (wide n) else none := by
  by_cases h : n < 200
  · rw [if_pos h, ← wide_text]
    exact readP_back (by rw [wide_right]; exact decide_eq_true h)
  · rw [if_neg h, ← wide_text]
    have hb := elemP_back (D := 8) (x := wide n) (by have := wide_dp n; omega) (wide_own n) []
    rw [List.append_nil] at hb
    unfold readP
    rw [hb]
    simp only
    rw [if_neg]
    rintro ⟨_, h2⟩
    rw [wide_right, decide_eq_true_eq] at h2
    exact h h2
/-- as far as the nesting has come -/
structure NQ (M : Ghost) (q : Nat) where
  i : Nat
  M' : Ghost
  a : Option Addr
  l : Nat
  c : Nat
  node : NodeC M' (i + 1) (nest i) [str [97], .slice none 0 0, str [], .slice a l c]
  le : i ≤ q
  sub : ∀ b o, M b o → M' b o
/-- as many as there are -/
structure WQ (n : Nat) where
  i : Nat
  v : Value
  Hs : List (Nat × Obj)
  xs : List Value
  own : OwnS 31 4 v Hs xs
  le : i ≤ n
  xs_eq : xs = (List.replicate i [str [99], .slice none 0 0, str [], .slice none 0 0]).flatten
theorem flat_len (n : Nat) (l : List Value) (h : l.length = 4) : (List.replicate n l).flatten.length = n * 4 := by
  induction n with
  | zero => rfl
  | succ n ih => rw [List.replicate_succ, List.flatten_cons, List.length_append, ih, h]; omega
theorem flat_at (l : List Value) (h : l.length = 4) : ∀ (n i : Nat), i < n → ((List.replicate n l).flatten.drop (i * 4)).take 4 = l
  | n + 1, 0, _ => by
    rw [List.replicate_succ, List.flatten_cons, Nat.zero_mul, List.drop_zero, ← h, List.take_left]
  | n + 1, i + 1, hi => by
    have := flat_at l h n i (by omega)
    rw [List.replicate_succ, List.flatten_cons, Nat.add_mul, Nat.one_mul, Nat.add_comm, ← List.drop_drop]
    have e : (l ++ (List.replicate n l).flatten).drop 4 = (List.replicate n l).flatten := by rw [← h, List.drop_left]
    rw [e]; exact this
theorem leaf_node {D : Nat} : NodeC M (D + 1) leafC [str [99], .slice none 0 0, str [], .slice none 0 0] := ⟨_, _, rfl, sl_nil, sl_nil, by simp, by simp, fun p hp => absurd hp (by simp)⟩
theorem nest_up {M' : Ghost} {i : Nat} {a : Option Addr} {l c b : Nat} (h : NodeC M (i + 1) (nest i) [str [97], .slice none 0 0, str [], .slice a l c]) (hm : ∀ b o, M b o → M' b o) (hb : M' b (.cells [str [97], .slice none 0 0, str [], .slice a l c].toArray 31 (0, 0))) : NodeC M' (i + 2) (nest (i + 1)) [str [97], .slice none 0 0, str [], .slice (some ⟨b, 0, none⟩) 1 1] := by
  refine ⟨_, _, rfl, sl_nil, ?_, by simp, by simp, fun p hp => absurd hp (by simp)⟩
  exact (OwnS.lit (e := 31) (m := 4) (b := b) (len := 1) (l := [str [97], .slice none 0 0, str [], .slice a l c]) rfl (by decide)).sl (by decide) (fun p hp => by rw [List.mem_singleton] at hp; subst hp; exact hb) rfl (by simp) (fun i hi => by
    match i, hi with
    | 0, _ => exact NodeC.mono hm h
    | i + 1, hi => exact absurd hi (by simp))
set_option maxHeartbeats 2000000 in
theorem deep_ok (hG : Glob M) (hM : Laid M w) (dp mn : UInt8) : Calls Tryd.prog 7 #[byt dp, byt mn] w (RetE w (.bool true)) := by
  have hd8 := u8_lt dp
  have hm8 := u8_lt mn
  refine calls_st (l := [byt dp, byt mn]) hM Tryd.func7 rfl rfl rfl (E0 := [(0, true, byt dp), (1, true, byt mn)]) (params_cons rfl (params_cons rfl (params_nil _))) ?_
  repeat' (first | refine wc_seq ?_ | refine wc_region ?_ | refine wl_nil ?_ | refine wn_seq ?_ | refine wn_blk ?_ | refine wc_skip ?_ | refine wc_block ?_ | refine wc_exit rfl ?_ | (show WL _ _ (_ :: _) _ _ _ _; first | refine yl_v rfl rfl rfl ?_ | refine wl_v rfl rfl rfl (by first | ((show OpV _ _ _ _ (Oper.mk _ (Op.call ⟨.value (.func 8), _, _⟩) _ _ _ _) _ _; exact ov_call Tryd.call8 rfl (by intro himp; first | rfl | (simp_all; done)) (by rfl) (fun _ _ h k => h.ext k) (fun hcg w hw => awake_ok hG hw.laid))) | fail) ?_ | refine xl_alloc (fun _ => ?_) | refine xl_store rfl rfl ?_ | refine xl_buildSlice rfl (fun _ => ?_)) | refine wc_ret rfl ?_)
  rename_i b6
  have hq : (1 : Int) + (dp.toNat : Int) % 20 = ((dp.toNat % 20 + 1 : Nat) : Int) := by omega
  have hq20 : dp.toNat % 20 < 20 := Nat.mod_lt _ (by decide)
  refine wc_weak (E' := [(1, true, byt mn), (5, true, .bool true), (6, true, .pointer (some ⟨b6, 0, none⟩)), (7, true, str (nestT 0)), (8, true, i64 ((dp.toNat % 20 + 1 : Nat) : Int)), (9, true, i64 ((0 + 1 : Nat) : Int))]) (Eng.Sub.cons rfl (Eng.Sub.cons rfl (Eng.Sub.cons rfl (Eng.Sub.cons rfl (Eng.Sub.cons (by show some (true, Value.int .i64 (1 + (dp.toNat : Int) % 20)) = _; rw [hq]) (Eng.Sub.cons rfl (Eng.Sub.nil _))))))) (fun _ h => h) ?_
  clear hq
  generalize dp.toNat % 20 = q at *
  refine wc_loop (α := NQ M q) (fun x => [(1, true, byt mn), (5, true, .bool true), (6, true, .pointer (some ⟨b6, 0, none⟩)), (7, true, str (nestT x.i)), (8, true, i64 ((q + 1 : Nat) : Int)), (9, true, i64 ((x.i + 1 : Nat) : Int))]) (fun x => St w [] [(b6, .cells [str [97], .slice none 0 0, str [], .slice x.a x.l x.c].toArray 31 (0, 0))] x.M') (fun x => q - x.i) ⟨0, M, none, 0, 0, ⟨_, _, rfl, sl_nil, sl_nil, by simp, by simp, fun p hp => absurd hp (by simp)⟩, Nat.zero_le _, fun _ _ h => h⟩ (by first | exact Sub.nil _ | (repeat (first | exact Sub.nil _ | refine Sub.cons (by first | rfl | (simp [look]; done)) ?_))) (fun _ h => h) ?_
  rintro ⟨i, M1, va, vl, vc, node, le, sub⟩
  dsimp only
  have hnl := nest_length i
  by_cases hlt : i < q
  · repeat' (first | (first | refine wc_seq ?_ | refine wc_region ?_ | refine wl_nil ?_ | refine wn_seq ?_ | refine wn_blk ?_ | refine wc_skip ?_ | refine wc_block ?_ | refine wc_exit rfl ?_ | (show WL _ _ (_ :: _) _ _ _ _; first | refine yl_v rfl rfl rfl ?_ | refine wl_v rfl rfl rfl (by first  | fail) ?_ | refine xl_alloc (fun _ => ?_) | refine xl_store rfl rfl ?_ | refine xl_buildSlice rfl (fun _ => ?_)) | refine wc_ret rfl ?_) | (show WC _ (Code.cond _ _ _) _ _ _ _; (refine wc_cond rfl (fun hc => ?_) (fun hc => ?_) <;> (try (simp only [decide_eq_true_eq, decide_eq_false_iff_not, Bool.and_eq_true, Bool.or_eq_true, Bool.and_eq_false_iff, Bool.or_eq_false_iff, Bool.not_eq_true', Bool.not_eq_false', Int.not_lt, Int.not_le] at hc)) <;> (try (exfalso; first | omega | contradiction)))))
    rename_i b29
    exact wn_cut ⟨i + 1, With M1 [(b29, .cells [str [97], .slice none 0 0, str [], .slice va vl vc].toArray 31 (0, 0))], some ⟨b29, 0, none⟩, 1, 1, nest_up node (fun _ _ => .inl) (.inr (List.Mem.head _)), by omega, fun b o h => .inl (sub b o h)⟩ (by show q - (i + 1) < q - i; omega) (by first | exact Sub.nil _ | (repeat (first | exact Sub.nil _ | refine Sub.cons (by first | rfl | (simp [look]; done)) ?_))) (fun _ h => (h.perm (H' := [(b29, .cells [str [97], .slice none 0 0, str [], .slice va vl vc].toArray 31 (0, 0))] ++ [(b6, .cells [str [97], .slice none 0 0, str [], .slice (some ⟨b29, 0, none⟩) 1 1].toArray 31 (0, 0))]) (List.Perm.refl _)).publish)
  obtain rfl : i = q := by omega
  repeat' (first | (first | refine wc_seq ?_ | refine wc_region ?_ | refine wl_nil ?_ | refine wn_seq ?_ | refine wn_blk ?_ | refine wc_skip ?_ | refine wc_block ?_ | refine wc_exit rfl ?_ | (show WL _ _ (_ :: _) _ _ _ _; first | refine yl_v rfl rfl rfl ?_ | refine wl_v rfl rfl rfl (by first  | fail) ?_ | refine xl_alloc (fun _ => ?_) | refine xl_store rfl rfl ?_ | refine xl_buildSlice rfl (fun _ => ?_)) | refine wc_ret rfl ?_) | (show WC _ (Code.cond _ _ _) _ _ _ _; (refine wc_cond rfl (fun hc => ?_) (fun hc => ?_) <;> (try (simp only [decide_eq_true_eq, decide_eq_false_iff_not, Bool.and_eq_true, Bool.or_eq_true, Bool.and_eq_false_iff, Bool.or_eq_false_iff, Bool.not_eq_true', Bool.not_eq_false', Int.not_lt, Int.not_le] at hc)) <;> (try (exfalso; first | omega | contradiction)))))
  rename_i b10
  refine wc_loop (α := WQ mn.toNat) (fun x => [(1, true, byt mn), (5, true, .bool true), (6, true, .pointer (some ⟨b6, 0, none⟩)), (7, true, str (nestT i)), (8, true, i64 ((i + 1 : Nat) : Int)), (10, true, .pointer (some ⟨b10, 0, none⟩)), (11, true, str (wideT x.i)), (12, true, i64 (x.i : Int))]) (fun x => St w [] ((b10, .cells [str [98], .slice none 0 0, str [], x.v].toArray 31 (0, 0)) :: (b6, .cells [str [97], .slice none 0 0, str [], .slice va vl vc].toArray 31 (0, 0)) :: x.Hs) M1) (fun x => mn.toNat - x.i) ⟨0, .slice none 0 0, [], [], OwnS.nil, Nat.zero_le _, rfl⟩ (by first | exact Sub.nil _ | (repeat (first | exact Sub.nil _ | refine Sub.cons (by first | rfl | (simp [look]; done)) ?_))) (fun _ h => h) ?_
  rintro ⟨j, v, Hs, xs, own, lej, xeq⟩
  dsimp only
  have hxl : xs.length = j * 4 := by rw [xeq]; exact flat_len _ _ rfl
  obtain ⟨va2, vcap2, rfl⟩ := own.slice (k := j) (by decide) hxl
  have hwl := wide_length j
  by_cases hlt2 : j < mn.toNat
  · repeat' (first | (first | refine wc_seq ?_ | refine wc_region ?_ | refine wl_nil ?_ | refine wn_seq ?_ | refine wn_blk ?_ | refine wc_skip ?_ | refine wc_block ?_ | refine wc_exit rfl ?_ | (show WL _ _ (_ :: _) _ _ _ _; first | refine yl_v rfl rfl rfl ?_ | refine wl_v rfl rfl rfl (by first  | fail) ?_ | refine xl_alloc (fun _ => ?_) | refine xl_store rfl rfl ?_ | refine xl_buildSlice rfl (fun _ => ?_)) | refine wc_ret rfl ?_) | (show WC _ (Code.cond _ _ _) _ _ _ _; (refine wc_cond rfl (fun hc => ?_) (fun hc => ?_) <;> (try (simp only [decide_eq_true_eq, decide_eq_false_iff_not, Bool.and_eq_true, Bool.or_eq_true, Bool.and_eq_false_iff, Bool.or_eq_false_iff, Bool.not_eq_true', Bool.not_eq_false', Int.not_lt, Int.not_le] at hc)) <;> (try (exfalso; first | omega | contradiction)))))
    rename_i b44
    refine wl_weak (C' := St w [] ((b44, .cells [str [99], .slice none 0 0, str [], .slice none 0 0].toArray 31 (0, 0)) :: (Hs ++ [(b10, .cells [str [98], .slice none 0 0, str [], .slice va2 j vcap2].toArray 31 (0, 0)), (b6, .cells [str [97], .slice none 0 0, str [], .slice va vl vc].toArray 31 (0, 0))])) M1) (Eng.Sub.refl _) (fun w' h => h.perm (List.Perm.cons _ (List.perm_append_comm (l₂ := [_, _])))) ?_
    refine y_append (news := [str [99], .slice none 0 0, str [], .slice none 0 0]) (H0 := [(b10, .cells [str [98], .slice none 0 0, str [], .slice va2 j vcap2].toArray 31 (0, 0)), (b6, .cells [str [97], .slice none 0 0, str [], .slice va vl vc].toArray 31 (0, 0))]) rfl own rfl rfl rfl rfl rfl rfl rfl rfl rfl rfl rfl rfl (by rw [hxl]; omega) rfl ?_
    intro v' Hs' ho'
    obtain ⟨va3, vcap3, rfl⟩ := ho'.slice (k := j + 1) (by decide) (by rw [List.length_append, hxl]; simp; omega)
    refine wl_weak (C' := St w [] ((b10, .cells [str [98], .slice none 0 0, str [], .slice va2 j vcap2].toArray 31 (0, 0)) :: (b6, .cells [str [97], .slice none 0 0, str [], .slice va vl vc].toArray 31 (0, 0)) :: Hs') M1) (Eng.Sub.refl _) (fun w' h => (h.drop (H' := Hs' ++ [(b10, .cells [str [98], .slice none 0 0, str [], .slice va2 j vcap2].toArray 31 (0, 0)), (b6, .cells [str [97], .slice none 0 0, str [], .slice va vl vc].toArray 31 (0, 0))]) (List.Sublist.append (List.Sublist.refl _) (by repeat (first | exact List.Sublist.refl _ | apply List.Sublist.cons)))).perm (List.perm_append_comm (l₁ := [_, _]))) ?_
    repeat' (first | (first | refine wc_seq ?_ | refine wc_region ?_ | refine wl_nil ?_ | refine wn_seq ?_ | refine wn_blk ?_ | refine wc_skip ?_ | refine wc_block ?_ | refine wc_exit rfl ?_ | (show WL _ _ (_ :: _) _ _ _ _; first | refine yl_v rfl rfl rfl ?_ | refine wl_v rfl rfl rfl (by first  | fail) ?_ | refine xl_alloc (fun _ => ?_) | refine xl_store rfl rfl ?_ | refine xl_buildSlice rfl (fun _ => ?_)) | refine wc_ret rfl ?_) | (show WC _ (Code.cond _ _ _) _ _ _ _; (refine wc_cond rfl (fun hc => ?_) (fun hc => ?_) <;> (try (simp only [decide_eq_true_eq, decide_eq_false_iff_not, Bool.and_eq_true, Bool.or_eq_true, Bool.and_eq_false_iff, Bool.or_eq_false_iff, Bool.not_eq_true', Bool.not_eq_false', Int.not_lt, Int.not_le] at hc)) <;> (try (exfalso; first | omega | contradiction)))))
    exact wn_cut ⟨j + 1, .slice va3 (j + 1) vcap3, Hs', xs ++ [str [99], .slice none 0 0, str [], .slice none 0 0], ho', by omega, by rw [xeq, List.replicate_succ', List.flatten_append]; simp⟩ (by show mn.toNat - (j + 1) < mn.toNat - j; omega) (by first | exact Sub.nil _ | (repeat (first | exact Sub.nil _ | refine Sub.cons (by first | rfl | (simp [look]; done)) ?_))) (fun _ h => h)
  obtain rfl : j = mn.toNat := by omega
  repeat' (first | (first | refine wc_seq ?_ | refine wc_region ?_ | refine wl_nil ?_ | refine wn_seq ?_ | refine wn_blk ?_ | refine wc_skip ?_ | refine wc_block ?_ | refine wc_exit rfl ?_ | (show WL _ _ (_ :: _) _ _ _ _; first | refine yl_v rfl rfl rfl ?_ | refine wl_v rfl rfl rfl (by first  | fail) ?_ | refine xl_alloc (fun _ => ?_) | refine xl_store rfl rfl ?_ | refine xl_buildSlice rfl (fun _ => ?_)) | refine wc_ret rfl ?_) | (show WC _ (Code.cond _ _ _) _ _ _ _; (refine wc_cond rfl (fun hc => ?_) (fun hc => ?_) <;> (try (simp only [decide_eq_true_eq, decide_eq_false_iff_not, Bool.and_eq_true, Bool.or_eq_true, Bool.and_eq_false_iff, Bool.or_eq_false_iff, Bool.not_eq_true', Bool.not_eq_false', Int.not_lt, Int.not_le] at hc)) <;> (try (exfalso; first | omega | contradiction)))))
  refine wl_weak (C' := St w [] (Hs ++ [(b10, .cells [str [98], .slice none 0 0, str [], .slice va2 mn.toNat vcap2].toArray 31 (0, 0)), (b6, .cells [str [97], .slice none 0 0, str [], .slice va vl vc].toArray 31 (0, 0))]) M1) (Eng.Sub.refl _) (fun w' h => h.perm (List.perm_append_comm (l₂ := [_, _]))) ?_
  refine wl_publish (fun hn => ?_)
  have hG2 := hG.mono (M' := With M1 Hs) (fun b o h => .inl (sub b o h))
  have node2 := NodeC.mono (M' := With M1 Hs) (fun _ _ => .inl) node
  have wnode : NodeC (With M1 Hs) 2 (wide mn.toNat) [str [98], .slice none 0 0, str [], .slice va2 mn.toNat vcap2] := by
    refine ⟨_, _, rfl, sl_nil, ?_, by simp, by simp, fun p hp => absurd hp (by simp)⟩
    have hl : (List.replicate mn.toNat leafC).length = mn.toNat := List.length_replicate
    refine own.sl (R := NodeC (With M1 Hs) 1) (l := List.replicate mn.toNat leafC) (by decide) (fun p hp => .inr hp) (by rw [hl]; exact hxl) (by rw [hl]; omega) (fun i hi => ?_)
    rw [hl] at hi
    rw [List.getElem_replicate, xeq, flat_at _ rfl _ _ hi]
    exact leaf_node
  generalize With M1 Hs = M2 at *
  clear own hn node sub
  refine wl_callS rfl Tryd.call13 rfl rfl rfl rfl (fun w hw => xread_ok hG2 hw.laid (nestT i) (by omega)) ?_
  rintro v3 H3 M3 hm3 hn3 ⟨rfl, hR3⟩
  obtain ⟨n3, p1, q1, r1, t3, p2, q2, r2, e3, rfl, hy3, he3⟩ := readN_open hR3
  repeat' (first | (first | refine wc_seq ?_ | refine wc_region ?_ | refine wl_nil ?_ | refine wn_seq ?_ | refine wn_blk ?_ | refine wc_skip ?_ | refine wc_block ?_ | refine wc_exit rfl ?_ | (show WL _ _ (_ :: _) _ _ _ _; first | refine yl_v rfl rfl rfl ?_ | refine wl_v rfl rfl rfl (by first  | fail) ?_ | refine xl_alloc (fun _ => ?_) | refine xl_store rfl rfl ?_ | refine xl_buildSlice rfl (fun _ => ?_)) | refine wc_ret rfl ?_) | (show WC _ (Code.cond _ _ _) _ _ _ _; (refine wc_cond rfl (fun hc => ?_) (fun hc => ?_) <;> (try (simp only [decide_eq_true_eq, decide_eq_false_iff_not, Bool.and_eq_true, Bool.or_eq_true, Bool.and_eq_false_iff, Bool.or_eq_false_iff, Bool.not_eq_true', Bool.not_eq_false', Int.not_lt, Int.not_le] at hc)) <;> (try (exfalso; first | omega | contradiction)))))
  refine wl_callS rfl Tryd.call13 rfl rfl rfl rfl (fun w hw => xread_ok (hG2.mono hm3) hw.laid (wideT mn.toNat ++ [60, 47, 98, 62]) (by rw [List.length_append, hwl]; simp; omega)) ?_
  rintro v4 H4 M4 hm4 hn4 ⟨rfl, hR4⟩
  obtain ⟨n4, s1, u1, x1, t4, s2, u2, x2, e4, rfl, hy4, he4⟩ := readN_open hR4
  have hsm3 := fun {w : World} (hw : Laid M4 w) => rsame_ok (NodeC.mono hm4 hy3) (NodeC.mono (fun b o h => hm4 b o (hm3 b o h)) node2) w hw
  have hsm4 := fun {w : World} (hw : Laid M4 w) => rsame_ok hy4 (NodeC.mono (fun b o h => hm4 b o (hm3 b o h)) wnode) w hw
  have hri3 := fun {w : World} (hw : Laid M4 w) => right_ok hw (NodeC.mono (fun b o h => hm4 b o (hm3 b o h)) node2)
  have hri4 := fun {w : World} (hw : Laid M4 w) => right_ok hw (NodeC.mono (fun b o h => hm4 b o (hm3 b o h)) wnode)
  rw [nest_right i hq20] at hri3
  rw [wide_right] at hri4
  rw [nest_read i hq20] at he3 hsm3
  rw [wide_read] at he4 hsm4
  clear hR3 hR4 hy3 hy4 node2 wnode xeq hxl hwl hnl hlt hlt2 hm3 hm4 hn3 hn4 hG2 hc hd8
  rename_i b13
  refine wl_weak (E' := [(57, true, .tuple #[.agg [str n4, .slice s1 u1 x1, str t4, .slice s2 u2 x2].toArray, i64 e4]), (1, true, byt mn), (5, true, .bool true), (6, true, .pointer (some ⟨b6, 0, none⟩)), (8, true, i64 ((i + 1 : Nat) : Int)), (10, true, .pointer (some ⟨b10, 0, none⟩)), (13, true, .pointer (some ⟨b13, 0, none⟩)), (14, true, i64 e3)]) (by first | exact Sub.nil _ | (repeat (first | exact Sub.nil _ | refine Sub.cons (by first | rfl | (simp [look]; done)) ?_))) (fun _ h => h) ?_
  by_cases h8 : i < 8
  · rw [decide_eq_true h8] at hri3
    rw [if_pos h8] at he3 hsm3
    obtain rfl : e3 = 0 := he3
    rw [show sameN (Option.getD (some (nest i)) nodeZ) (nest i) = true from sameN_self _] at hsm3
    by_cases h2 : mn.toNat < 200
    · rw [decide_eq_true h2] at hri4
      rw [if_pos h2] at he4 hsm4
      obtain rfl : e4 = 0 := he4
      rw [show sameN (Option.getD (some (wide mn.toNat)) nodeZ) (wide mn.toNat) = true from sameN_self _] at hsm4
      repeat' (first | (first | (show WL _ _ (Oper.mk _ (Op.binOp BinOp.leq _ _ _ _) _ _ _ _ :: _) _ _ _ _; refine wl_v rfl rfl rfl (opv_eq (ov_leq rfl rfl (by first | with_reducible exact fun _ => rfl | with_reducible exact fun h => h | exact fun _ => rfl | exact fun h => h | (intro himp; simp_all; done)) (by first | with_reducible exact fun _ => rfl | with_reducible exact fun h => h | exact fun _ => rfl | exact fun h => h | (intro himp; simp_all; done))) (decide_eq_true (by omega))) ?_) | (show WL _ _ (Oper.mk _ (Op.binOp BinOp.lss _ _ _ _) _ _ _ _ :: _) _ _ _ _; refine wl_v rfl rfl rfl (opv_eq (ov_lss rfl rfl (by first | with_reducible exact fun _ => rfl | with_reducible exact fun h => h | exact fun _ => rfl | exact fun h => h | (intro himp; simp_all; done)) (by first | with_reducible exact fun _ => rfl | with_reducible exact fun h => h | exact fun _ => rfl | exact fun h => h | (intro himp; simp_all; done))) (decide_eq_true (by omega))) ?_)) | (first | refine wc_seq ?_ | refine wc_region ?_ | refine wl_nil ?_ | refine wn_seq ?_ | refine wn_blk ?_ | refine wc_skip ?_ | refine wc_block ?_ | refine wc_exit rfl ?_ | (show WL _ _ (_ :: _) _ _ _ _; first | refine yl_v rfl rfl rfl ?_ | refine wl_v rfl rfl rfl (by first | ((show OpV _ _ _ _ (Oper.mk _ (Op.call ⟨.value (.func 15), _, _⟩) _ _ _ _) _ _; exact ov_call Tryd.call15 rfl (by intro himp; first | rfl | (simp_all; done)) (by rfl) (fun _ _ h k => h.ext k) (fun hcg w hw => hsm3 hw.laid))) | ((show OpV _ _ _ _ (Oper.mk _ (Op.call ⟨.value (.func 15), _, _⟩) _ _ _ _) _ _; exact ov_call Tryd.call15 rfl (by intro himp; first | rfl | (simp_all; done)) (by rfl) (fun _ _ h k => h.ext k) (fun hcg w hw => hsm4 hw.laid))) | ((show OpV _ _ _ _ (Oper.mk _ (Op.call ⟨.value (.func 17), _, _⟩) _ _ _ _) _ _; exact ov_call Tryd.call17 rfl (by intro himp; first | rfl | (simp_all; done)) (by rfl) (fun _ _ h k => h.ext k) (fun hcg w hw => hri3 hw.laid))) | ((show OpV _ _ _ _ (Oper.mk _ (Op.call ⟨.value (.func 17), _, _⟩) _ _ _ _) _ _; exact ov_call Tryd.call17 rfl (by intro himp; first | rfl | (simp_all; done)) (by rfl) (fun _ _ h k => h.ext k) (fun hcg w hw => hri4 hw.laid))) | fail) ?_ | refine xl_alloc (fun _ => ?_) | refine xl_store rfl rfl ?_ | refine xl_buildSlice rfl (fun _ => ?_)) | refine wc_ret rfl ?_) | (show WC _ (Code.cond _ _ _) _ _ _ _; (refine wc_cond rfl (fun hc => ?_) (fun hc => ?_) <;> (try (simp only [decide_eq_true_eq, decide_eq_false_iff_not, Bool.and_eq_true, Bool.or_eq_true, Bool.and_eq_false_iff, Bool.or_eq_false_iff, Bool.not_eq_true', Bool.not_eq_false', Int.not_lt, Int.not_le] at hc)) <;> (try (exfalso; first | omega | contradiction)))))
      exact wr_weak (fun _ h => h.drop (List.nil_sublist _)) (wr_tmp rfl rfl rfl)
    · rw [decide_eq_false h2] at hri4
      rw [if_neg h2] at he4 hsm4
      obtain rfl : e4 = 10 := he4
      repeat' (first | (first | (show WL _ _ (Oper.mk _ (Op.binOp BinOp.leq _ _ _ _) _ _ _ _ :: _) _ _ _ _; refine wl_v rfl rfl rfl (opv_eq (ov_leq rfl rfl (by first | with_reducible exact fun _ => rfl | with_reducible exact fun h => h | exact fun _ => rfl | exact fun h => h | (intro himp; simp_all; done)) (by first | with_reducible exact fun _ => rfl | with_reducible exact fun h => h | exact fun _ => rfl | exact fun h => h | (intro himp; simp_all; done))) (decide_eq_true (by omega))) ?_) | (show WL _ _ (Oper.mk _ (Op.binOp BinOp.lss _ _ _ _) _ _ _ _ :: _) _ _ _ _; refine wl_v rfl rfl rfl (opv_eq (ov_lss rfl rfl (by first | with_reducible exact fun _ => rfl | with_reducible exact fun h => h | exact fun _ => rfl | exact fun h => h | (intro himp; simp_all; done)) (by first | with_reducible exact fun _ => rfl | with_reducible exact fun h => h | exact fun _ => rfl | exact fun h => h | (intro himp; simp_all; done))) (decide_eq_false (by omega))) ?_)) | (first | refine wc_seq ?_ | refine wc_region ?_ | refine wl_nil ?_ | refine wn_seq ?_ | refine wn_blk ?_ | refine wc_skip ?_ | refine wc_block ?_ | refine wc_exit rfl ?_ | (show WL _ _ (_ :: _) _ _ _ _; first | refine yl_v rfl rfl rfl ?_ | refine wl_v rfl rfl rfl (by first | ((show OpV _ _ _ _ (Oper.mk _ (Op.call ⟨.value (.func 15), _, _⟩) _ _ _ _) _ _; exact ov_call Tryd.call15 rfl (by intro himp; first | rfl | (simp_all; done)) (by rfl) (fun _ _ h k => h.ext k) (fun hcg w hw => hsm3 hw.laid))) | ((show OpV _ _ _ _ (Oper.mk _ (Op.call ⟨.value (.func 17), _, _⟩) _ _ _ _) _ _; exact ov_call Tryd.call17 rfl (by intro himp; first | rfl | (simp_all; done)) (by rfl) (fun _ _ h k => h.ext k) (fun hcg w hw => hri3 hw.laid))) | ((show OpV _ _ _ _ (Oper.mk _ (Op.call ⟨.value (.func 17), _, _⟩) _ _ _ _) _ _; exact ov_call Tryd.call17 rfl (by intro himp; first | rfl | (simp_all; done)) (by rfl) (fun _ _ h k => h.ext k) (fun hcg w hw => hri4 hw.laid))) | (show OpV _ _ _ _ (Oper.mk _ (Op.call _) _ _ _ _) _ _; exact ov_off (v := .bool false) rfl) | fail) ?_ | refine xl_alloc (fun _ => ?_) | refine xl_store rfl rfl ?_ | refine xl_buildSlice rfl (fun _ => ?_)) | refine wc_ret rfl ?_) | (show WC _ (Code.cond _ _ _) _ _ _ _; (refine wc_cond rfl (fun hc => ?_) (fun hc => ?_) <;> (try (simp only [decide_eq_true_eq, decide_eq_false_iff_not, Bool.and_eq_true, Bool.or_eq_true, Bool.and_eq_false_iff, Bool.or_eq_false_iff, Bool.not_eq_true', Bool.not_eq_false', Int.not_lt, Int.not_le] at hc)) <;> (try (exfalso; first | omega | contradiction)))))
      exact wr_weak (fun _ h => h.drop (List.nil_sublist _)) (wr_tmp rfl rfl rfl)
  · rw [decide_eq_false h8] at hri3
    rw [if_neg h8] at he3 hsm3
    obtain rfl : e3 = 10 := he3
    by_cases h2 : mn.toNat < 200
    · rw [decide_eq_true h2] at hri4
      rw [if_pos h2] at he4 hsm4
      obtain rfl : e4 = 0 := he4
      rw [show sameN (Option.getD (some (wide mn.toNat)) nodeZ) (wide mn.toNat) = true from sameN_self _] at hsm4
      repeat' (first | (first | (show WL _ _ (Oper.mk _ (Op.binOp BinOp.leq _ _ _ _) _ _ _ _ :: _) _ _ _ _; refine wl_v rfl rfl rfl (opv_eq (ov_leq rfl rfl (by first | with_reducible exact fun _ => rfl | with_reducible exact fun h => h | exact fun _ => rfl | exact fun h => h | (intro himp; simp_all; done)) (by first | with_reducible exact fun _ => rfl | with_reducible exact fun h => h | exact fun _ => rfl | exact fun h => h | (intro himp; simp_all; done))) (decide_eq_false (by omega))) ?_) | (show WL _ _ (Oper.mk _ (Op.binOp BinOp.lss _ _ _ _) _ _ _ _ :: _) _ _ _ _; refine wl_v rfl rfl rfl (opv_eq (ov_lss rfl rfl (by first | with_reducible exact fun _ => rfl | with_reducible exact fun h => h | exact fun _ => rfl | exact fun h => h | (intro himp; simp_all; done)) (by first | with_reducible exact fun _ => rfl | with_reducible exact fun h => h | exact fun _ => rfl | exact fun h => h | (intro himp; simp_all; done))) (decide_eq_true (by omega))) ?_)) | (first | refine wc_seq ?_ | refine wc_region ?_ | refine wl_nil ?_ | refine wn_seq ?_ | refine wn_blk ?_ | refine wc_skip ?_ | refine wc_block ?_ | refine wc_exit rfl ?_ | (show WL _ _ (_ :: _) _ _ _ _; first | refine yl_v rfl rfl rfl ?_ | refine wl_v rfl rfl rfl (by first | ((show OpV _ _ _ _ (Oper.mk _ (Op.call ⟨.value (.func 15), _, _⟩) _ _ _ _) _ _; exact ov_call Tryd.call15 rfl (by intro himp; first | rfl | (simp_all; done)) (by rfl) (fun _ _ h k => h.ext k) (fun hcg w hw => hsm4 hw.laid))) | ((show OpV _ _ _ _ (Oper.mk _ (Op.call ⟨.value (.func 17), _, _⟩) _ _ _ _) _ _; exact ov_call Tryd.call17 rfl (by intro himp; first | rfl | (simp_all; done)) (by rfl) (fun _ _ h k => h.ext k) (fun hcg w hw => hri3 hw.laid))) | ((show OpV _ _ _ _ (Oper.mk _ (Op.call ⟨.value (.func 17), _, _⟩) _ _ _ _) _ _; exact ov_call Tryd.call17 rfl (by intro himp; first | rfl | (simp_all; done)) (by rfl) (fun _ _ h k => h.ext k) (fun hcg w hw => hri4 hw.laid))) | (show OpV _ _ _ _ (Oper.mk _ (Op.call _) _ _ _ _) _ _; exact ov_off (v := .bool false) rfl) | fail) ?_ | refine xl_alloc (fun _ => ?_) | refine xl_store rfl rfl ?_ | refine xl_buildSlice rfl (fun _ => ?_)) | refine wc_ret rfl ?_) | (show WC _ (Code.cond _ _ _) _ _ _ _; (refine wc_cond rfl (fun hc => ?_) (fun hc => ?_) <;> (try (simp only [decide_eq_true_eq, decide_eq_false_iff_not, Bool.and_eq_true, Bool.or_eq_true, Bool.and_eq_false_iff, Bool.or_eq_false_iff, Bool.not_eq_true', Bool.not_eq_false', Int.not_lt, Int.not_le] at hc)) <;> (try (exfalso; first | omega | contradiction)))))
      exact wr_weak (fun _ h => h.drop (List.nil_sublist _)) (wr_tmp rfl rfl rfl)
    · rw [decide_eq_false h2] at hri4
      rw [if_neg h2] at he4 hsm4
      obtain rfl : e4 = 10 := he4
      repeat' (first | (first | (show WL _ _ (Oper.mk _ (Op.binOp BinOp.leq _ _ _ _) _ _ _ _ :: _) _ _ _ _; refine wl_v rfl rfl rfl (opv_eq (ov_leq rfl rfl (by first | with_reducible exact fun _ => rfl | with_reducible exact fun h => h | exact fun _ => rfl | exact fun h => h | (intro himp; simp_all; done)) (by first | with_reducible exact fun _ => rfl | with_reducible exact fun h => h | exact fun _ => rfl | exact fun h => h | (intro himp; simp_all; done))) (decide_eq_false (by omega))) ?_) | (show WL _ _ (Oper.mk _ (Op.binOp BinOp.lss _ _ _ _) _ _ _ _ :: _) _ _ _ _; refine wl_v rfl rfl rfl (opv_eq (ov_lss rfl rfl (by first | with_reducible exact fun _ => rfl | with_reducible exact fun h => h | exact fun _ => rfl | exact fun h => h | (intro himp; simp_all; done)) (by first | with_reducible exact fun _ => rfl | with_reducible exact fun h => h | exact fun _ => rfl | exact fun h => h | (intro himp; simp_all; done))) (decide_eq_false (by omega))) ?_)) | (first | refine wc_seq ?_ | refine wc_region ?_ | refine wl_nil ?_ | refine wn_seq ?_ | refine wn_blk ?_ | refine wc_skip ?_ | refine wc_block ?_ | refine wc_exit rfl ?_ | (show WL _ _ (_ :: _) _ _ _ _; first | refine yl_v rfl rfl rfl ?_ | refine wl_v rfl rfl rfl (by first | ((show OpV _ _ _ _ (Oper.mk _ (Op.call ⟨.value (.func 17), _, _⟩) _ _ _ _) _ _; exact ov_call Tryd.call17 rfl (by intro himp; first | rfl | (simp_all; done)) (by rfl) (fun _ _ h k => h.ext k) (fun hcg w hw => hri3 hw.laid))) | ((show OpV _ _ _ _ (Oper.mk _ (Op.call ⟨.value (.func 17), _, _⟩) _ _ _ _) _ _; exact ov_call Tryd.call17 rfl (by intro himp; first | rfl | (simp_all; done)) (by rfl) (fun _ _ h k => h.ext k) (fun hcg w hw => hri4 hw.laid))) | (show OpV _ _ _ _ (Oper.mk _ (Op.call _) _ _ _ _) _ _; exact ov_off (v := .bool false) rfl) | fail) ?_ | refine xl_alloc (fun _ => ?_) | refine xl_store rfl rfl ?_ | refine xl_buildSlice rfl (fun _ => ?_)) | refine wc_ret rfl ?_) | (show WC _ (Code.cond _ _ _) _ _ _ _; (refine wc_cond rfl (fun hc => ?_) (fun hc => ?_) <;> (try (simp only [decide_eq_true_eq, decide_eq_false_iff_not, Bool.and_eq_true, Bool.or_eq_true, Bool.and_eq_false_iff, Bool.or_eq_false_iff, Bool.not_eq_true', Bool.not_eq_false', Int.not_lt, Int.not_le] at hc)) <;> (try (exfalso; first | omega | contradiction)))))
      exact wr_weak (fun _ h => h.drop (List.nil_sublist _)) (wr_tmp rfl rfl rfl)
end Go.Proofs.YtnfkbbkojgbbeaaDoor
/-
  Arguments opened: what the reading of an argument says of memory, with the sizes that a row allows. Nothing of the program stands here.
-/
namespace Go.Eng
open Go.RowKit Go.ChangeShapes Go.WideShapes

/-- all that stands in a world -/
def All (W : World) : Ghost := fun b o => W.heap[b]? = some o
theorem all_laid (W : World) : Laid (All W) W := fun _ _ h => h
theorem cell_inv {W : World} {g i : Nat} {v : Value} (h : W.cell? ⟨g, i, none⟩ = some v) : ∃ cs T fz, W.heap[g]? = some (.cells cs T fz) ∧ cs[i]? = some v := by
  unfold World.cell? at h
  split at h
  · rename_i cs T fz e; exact ⟨cs, T, fz, e, by simpa using h⟩
  · cases h
/-- a datum's sizes -/
def Wt {H : Type} (P : Program) (t : TypeId) (d : DataW H) : Prop := ∀ n ∈ d.weights P t, n ≤ reachBytes
/-- how the cells of a type open -/
structure Opens (P : Program) (w : World) (t : TypeId) {α : Type} (R : α → List Value → Prop) : Prop where
  go : ∀ {H : Type} (enc : TypeId × Value → H) (fuel : Nat) (cs : List Value) (d : DataW H) (ps : List MemPlace), DataW.trod enc P w 0 (fun _ => true) true fuel t cs = some (d, ps) → Wt P t d → ∃ x, R x cs
section
variable {P : Program} {w : World} {t : TypeId}
theorem str_of (s : ByteArray) : Value.string s = str s.data.toList := by cases s; simp
theorem opens_str (ht : P.underlying t = some .string) : Opens P w t (fun s vs => vs = [str s] ∧ s.length ≤ reachBytes) := ⟨fun enc fuel cs d ps h hw => by
  obtain ⟨s, e1, e2, _⟩ := DataW.trod_string ht h
  simp only [Prod.mk.injEq] at e2
  refine ⟨s.data.toList, by rw [e1, str_of], ?_⟩
  exact hw _ (by rw [e2.1]; simp [DataW.weights])⟩
theorem opens_bool (ht : P.underlying t = some .bool) : Opens P w t (fun b vs => vs = [.bool b]) := ⟨fun enc fuel cs d ps h hw => by
  cases fuel with
  | zero => simp [DataW.trod] at h
  | succ n =>
    unfold DataW.trod at h
    rw [ht] at h
    split at h <;> simp_all⟩
theorem opens_int {k : IntKind} (ht : P.underlying t = some (.int k)) : Opens P w t (fun z vs => vs = [.int k z] ∧ k.min ≤ z ∧ z ≤ k.max) := ⟨fun enc fuel cs d ps h hw => by
  obtain ⟨z, e1, _, hwf⟩ := DataW.trod_int ht h
  refine ⟨z, e1, ?_⟩
  simpa [Lit.wf] using hwf⟩
theorem wt_all {H : Type} {e : TypeId} {d : DataW H} : ∀ {ds : List (DataW H)}, d ∈ ds → ∀ n ∈ d.weights P e, n ∈ DataW.weightsAll P e ds
  | x :: ds, hd, n, hn => by
    simp only [DataW.weightsAll, List.mem_append]
    rcases List.mem_cons.1 hd with rfl | hd
    · exact .inl hn
    · exact .inr (wt_all hd n hn)
theorem opens_slice {e : TypeId} {m : Nat} {α : Type} {R : α → List Value → Prop} (ht : P.underlying t = some (.slice e)) (hc : P.cellsOf e = m) (hm : 0 < m) (he : Opens P w e R) :
    Opens P w t (fun (l : List α) vs => ∃ v, vs = [v] ∧ Sl (All w) m R v l ∧ l.length * P.bytesOf e ≤ reachBytes) := ⟨fun enc fuel cs d ps h hw => by
  rcases Go.Deep.open_slice ht h with ⟨rfl, _⟩ | ⟨a, len, cap, q, n, D, Pl, rfl, _, hl, hcm, hq, hx, hel⟩
  · exact ⟨[], _, rfl, sl_nil, by simp⟩
  · simp only [if_true] at hq
    subst hq
    simp only [Prod.mk.injEq] at hx
    have hwt : ∀ i, i < len → Wt P e (D i) := by
      intro i hi k hk
      refine hw k ?_
      rw [hx.1]
      simp only [DataW.weights, ht, List.mem_cons, List.mem_append]
      exact .inr (.inl (wt_all (List.mem_map.2 ⟨i, by simpa using hi, rfl⟩) k hk))
    have hbytes : len * P.bytesOf e ≤ reachBytes := by
      refine Nat.le_trans (Nat.mul_le_mul_right _ (Nat.le_add_right len (q - len))) (hw ((len + (q - len)) * P.bytesOf e) ?_)
      rw [hx.1]
      simp [DataW.weights, ht]
    have each : ∀ i, i < len → ∃ y : α, ∃ cs' : List Value, cs'.length = m ∧ R y cs' ∧ ∀ j, j < m → w.cell? (a.add (i * m + j)) = cs'[j]? := by
      intro i hi
      obtain ⟨cs', h1, h2⟩ := hel i (by omega)
      rw [hc] at h1
      obtain ⟨_, hlen, hcell⟩ := World.cells?_some h1
      obtain ⟨y, hy⟩ := he.go enc n cs' (D i) (Pl i) h2 (hwt i hi)
      exact ⟨y, cs', hlen, hy, fun j hj => by rw [← hcell j hj, Go.Deep.add_add]⟩
    have hmax : len ≤ 9223372036854775807 := by unfold maxLen at hcm; omega
    by_cases h0 : len = 0
    · subst h0
      exact ⟨[], _, rfl, ⟨some a, q, rfl, Nat.zero_le _, by simp, fun h => absurd rfl h⟩, by simp⟩
    · obtain ⟨y0, cs0, hl0, _, hc0⟩ := each 0 (by omega)
      have hc00 := hc0 0 hm
      have hsome : ∃ v, cs0[0]? = some v := ⟨cs0[0]'(by omega), by simp [show 0 < cs0.length by omega]⟩
      obtain ⟨v0, hv0⟩ := hsome
      rw [hv0] at hc00
      simp only [Nat.zero_mul, Nat.add_zero, Addr.add, if_true] at hc00
      obtain ⟨b, o, spot⟩ := a
      cases spot with
      | some x =>
        simp only [World.cell?] at hc00
        split at hc00
        · simp at hc00
        · cases hc00
      | none =>
        obtain ⟨cells, T, fz, hh, _⟩ := cell_inv hc00
        have : ∀ n, n ≤ len → ∃ l : List α, l.length = n ∧ ∀ i (hi : i < l.length), ∃ vs, vs.length = m ∧ R l[i] vs ∧ ∀ j, j < m → cells[o + i * m + j]? = vs[j]? := by
          intro n
          induction n with
          | zero => intro _; exact ⟨[], rfl, fun i hi => absurd hi (by simp)⟩
          | succ n ih =>
            intro hn
            obtain ⟨l, hl', hall⟩ := ih (by omega)
            obtain ⟨y, cs', h1, h2, h3⟩ := each n (by omega)
            refine ⟨l ++ [y], by simp [hl'], fun i hi => ?_⟩
            by_cases hin : i < l.length
            · obtain ⟨vs, g1, g2, g3⟩ := hall i hin
              exact ⟨vs, g1, by rw [List.getElem_append_left hin]; exact g2, g3⟩
            · have : i = n := by simp at hi; omega
              subst this
              refine ⟨cs', h1, ?_, fun j hj => ?_⟩
              · rw [List.getElem_append_right (by omega)]; simpa using h2
              · rw [← h3 j hj]
                have hadd : ∀ k, (⟨b, o, none⟩ : Addr).add k = ⟨b, o + k, none⟩ := by
                  intro k; unfold Addr.add; split
                  · simp_all
                  · rfl
                rw [hadd, cell_of hh, Nat.add_assoc]
        obtain ⟨l, hl', hall⟩ := this len (Nat.le_refl _)
        subst hl'
        exact ⟨l, _, rfl, ⟨some ⟨b, o, none⟩, q, rfl, hl, hmax, fun _ => ⟨b, o, cells, T, fz, rfl, hh, hall⟩⟩, hbytes⟩⟩
theorem wt_each {H : Type} : ∀ {ts : List TypeId} {ds : List (DataW H)} {j : Nat} {t : TypeId} {d : DataW H}, ts[j]? = some t → ds[j]? = some d → (∀ n ∈ DataW.weightsEach P ts ds, n ≤ reachBytes) → Wt P t d :=
  fun ht hd h n hn => h n (DataW.weights_mem_each ht hd n hn)
/-- a struct whose fields are of one cell each -/
theorem open_fields {fs : Array Field} (ht : P.underlying t = some (.struct fs)) (hone : (fs.toList.zipIdx.all fun x => Nat.beq x.1.offset x.2 && Nat.beq (P.cellsOf x.1.type) 1) = true) (hct : P.cellsOf t = fs.size)
    {H : Type} (enc : TypeId × Value → H) (fuel : Nat) (cs : List Value) (d : DataW H) (ps : List MemPlace) (h : DataW.trod enc P w 0 (fun _ => true) true fuel t cs = some (d, ps)) (hw : Wt P t d) :
    cs.length = fs.size ∧ ∀ (i : Nat) (f : Field), fs[i]? = some f → ∃ v, cs[i]? = some v ∧ ∀ {α : Type} {R : α → List Value → Prop}, Opens P w f.type R → ∃ x, R x [v] := by
  obtain ⟨xs, n, rfl, e, hl, hxl, hf⟩ := DataW.trod_struct ht h
  simp only [Prod.mk.injEq] at e
  rw [hct] at hl
  refine ⟨hl, fun i f hfi => ?_⟩
  have hi : i < fs.size := by
    rcases Nat.lt_or_ge i fs.size with h' | h'
    · exact h'
    · simp [Array.getElem?_eq_none h'] at hfi
  have h1 := List.all_eq_true.1 hone (f, i) (by
    rw [List.mem_zipIdx_iff_getElem?]
    simpa using hfi)
  simp only [Bool.and_eq_true] at h1
  have ho : f.offset = i := Nat.eq_of_beq_eq_true h1.1
  have hc1 : P.cellsOf f.type = 1 := Nat.eq_of_beq_eq_true h1.2
  have hg := hf i f hfi
  have hcs : i < cs.length := by omega
  rw [ho, hc1, List.drop_eq_getElem_cons hcs, List.take_succ_cons, List.take_zero] at hg
  refine ⟨cs[i], by simp [hcs], fun {α R} hR => ?_⟩
  have hxi : i < xs.length := by omega
  rw [List.getElem?_eq_getElem hxi] at hg
  refine hR.go enc n [cs[i]] (xs[i]).1 (xs[i]).2 hg ?_
  intro k hk
  refine hw k ?_
  rw [e.1]
  simp only [DataW.weights, ht]
  exact DataW.weights_mem_each (j := i) (t := f.type) (d := (xs[i]).1) (by simp [hfi]) (by simp [hxi]) k hk
/-- a pair of texts -/
def IsPr (p : List UInt8 × List UInt8) (vs : List Value) : Prop := vs = [str p.1, str p.2] ∧ p.1.length ≤ reachBytes ∧ p.2.length ≤ reachBytes
theorem two_cells {cs : List Value} {v0 v1 : Value} (hl : cs.length = 2) (h0 : cs[0]? = some v0) (h1 : cs[1]? = some v1) : cs = [v0, v1] := by
  match cs, hl with
  | [a, b], _ => simp at h0 h1; rw [h0, h1]
theorem opens_pr {f0 f1 : Field} (ht : P.underlying t = some (.struct #[f0, f1])) (hone : ((#[f0, f1] : Array Field).toList.zipIdx.all fun x => Nat.beq x.1.offset x.2 && Nat.beq (P.cellsOf x.1.type) 1) = true) (hct : P.cellsOf t = 2)
    (t0 : P.underlying f0.type = some .string) (t1 : P.underlying f1.type = some .string) : Opens P w t IsPr := ⟨fun enc fuel cs d ps h hw => by
  obtain ⟨hl, hf⟩ := open_fields ht hone hct enc fuel cs d ps h hw
  obtain ⟨v0, e0, g0⟩ := hf 0 f0 rfl
  obtain ⟨v1, e1, g1⟩ := hf 1 f1 rfl
  obtain ⟨s0, k0, b0⟩ := g0 (opens_str t0)
  obtain ⟨s1, k1, b1⟩ := g1 (opens_str t1)
  simp only [List.cons.injEq, and_true] at k0 k1
  refine ⟨(s0, s1), ?_, b0, b1⟩
  rw [two_cells hl e0 e1, k0, k1]⟩
/-- an argument -/
theorem open_arg {α : Type} {R : α → List Value → Prop} (hR : Opens P w t R) {H : Type} {enc : TypeId × Value → H} {v : Value} {d : DataW H} {ps : List MemPlace} (h : DataW.Trod enc P w 0 (fun _ => true) true t v d ps) (hw : Wt P t d) : ∃ x, R x v.cells.toList := by
  obtain ⟨fuel, hf⟩ := h
  exact hR.go enc fuel _ d ps hf hw
theorem sl_slS {M : Ghost} {v : Value} {l : List (List UInt8)} (h : Sl M 1 (fun s vs => vs = [str s] ∧ s.length ≤ reachBytes) v l) : SlS M v l ∧ ∀ s ∈ l, s.length ≤ reachBytes := by
  refine ⟨h.mono (fun _ _ h => h) (fun _ _ _ h => h.1), fun s hs => ?_⟩
  obtain ⟨_, _, _, _, _, h4⟩ := h
  obtain ⟨b, o, cs, T, fz, _, _, h7⟩ := h4 (by rintro rfl; cases hs)
  obtain ⟨i, hi, rfl⟩ := List.mem_iff_getElem.1 hs
  obtain ⟨vs, _, hR, _⟩ := h7 i hi
  exact hR.2
theorem sl_slP {M : Ghost} {v : Value} {l : List (List UInt8 × List UInt8)} (h : Sl M 2 IsPr v l) : SlP M v l ∧ ∀ p ∈ l, p.1.length ≤ reachBytes ∧ p.2.length ≤ reachBytes := by
  refine ⟨h.mono (fun _ _ h => h) (fun _ _ _ h => h.1), fun s hs => ?_⟩
  obtain ⟨_, _, _, _, _, h4⟩ := h
  obtain ⟨b, o, cs, T, fz, _, _, h7⟩ := h4 (by rintro rfl; cases hs)
  obtain ⟨i, hi, rfl⟩ := List.mem_iff_getElem.1 hs
  obtain ⟨vs, _, hR, _⟩ := h7 i hi
  exact hR.2
end
end Go.Eng
/-
  The arguments of this program's laws, opened, with the sizes that a row allows.
-/
namespace Go.Proofs.YtnfkbbkojgbbeaaDoor
open Go.ChangeShapes Go.WideShapes Go.RowKit Go.Eng Go.Pct
set_option maxRecDepth 100000
set_option linter.unusedVariables false
set_option linter.unusedSimpArgs false

variable {H : Type} {enc : TypeId × Value → H} {W : World} {base : Nat} {v : Value} {d : DataW H} {ps : List MemPlace}
theorem reach_le {n : Nat} (h : n ≤ reachBytes) : n ≤ 140737488355328 := Nat.le_trans h (by decide)
theorem small_of {l : List Pr} (h : ∀ p ∈ l, p.1.length ≤ reachBytes ∧ p.2.length ≤ reachBytes) : Small 140737488355328 l := fun p hp => ⟨reach_le (h p hp).1, reach_le (h p hp).2⟩
theorem opn_str : Opens Tryd.prog W 9 (fun s vs => vs = [str s] ∧ s.length ≤ reachBytes) := opens_str Tryd.underlying9
theorem opn_pr : Opens Tryd.prog W 39 IsPr := opens_pr Tryd.underlying39 (by kernel_rfl) (by kernel_rfl) Tryd.underlying9 Tryd.underlying9
theorem opn_prs : Opens Tryd.prog W 28 (fun (l : List Pr) vs => ∃ v, vs = [v] ∧ Sl (All W) 2 IsPr v l ∧ l.length * Tryd.prog.bytesOf 39 ≤ reachBytes) := opens_slice Tryd.underlying28 (by kernel_rfl) (by decide) opn_pr

theorem arg_str (hval : Value.okWide Tryd.prog W .any base 9 v) (hd : DataW.Trod enc Tryd.prog W 0 (fun _ => true) true 9 v d ps) (hw : Wt Tryd.prog 9 d) : ∃ s, v = str s ∧ s.length ≤ reachBytes := by
  obtain ⟨s0, rfl⟩ := okWide_string Tryd.underlying9 hval
  obtain ⟨s, hs, hl⟩ := open_arg opn_str hd hw
  simp only [Value.cells, List.cons.injEq, and_true] at hs
  exact ⟨s, hs, hl⟩
theorem arg_bool (hval : Value.okWide Tryd.prog W .any base 4 v) : ∃ b, v = .bool b := okWide_bool Tryd.underlying4 hval
theorem arg_int (hval : Value.okWide Tryd.prog W .any base 3 v) (hd : DataW.Trod enc Tryd.prog W 0 (fun _ => true) true 3 v d ps) (hw : Wt Tryd.prog 3 d) : ∃ z : Int, v = i64 z ∧ -9223372036854775808 ≤ z ∧ z ≤ 9223372036854775807 := by
  obtain ⟨z0, rfl⟩ := okWide_int Tryd.underlying3 hval
  obtain ⟨z, hz, h1, h2⟩ := open_arg (opens_int Tryd.underlying3) hd hw
  simp only [Value.cells, List.cons.injEq, and_true] at hz
  exact ⟨z, hz, h1, h2⟩
theorem arg_u8 (hval : Value.okWide Tryd.prog W .any base 5 v) (hd : DataW.Trod enc Tryd.prog W 0 (fun _ => true) true 5 v d ps) (hw : Wt Tryd.prog 5 d) : ∃ c : UInt8, v = byt c := by
  obtain ⟨z0, rfl⟩ := okWide_int Tryd.underlying5 hval
  obtain ⟨z, hz, h1, h2⟩ := open_arg (opens_int Tryd.underlying5) hd hw
  simp only [Value.cells, List.cons.injEq, and_true] at hz
  rw [hz]
  have h1 : (0 : Int) ≤ z := h1
  have h2 : z ≤ 255 := h2
  refine ⟨UInt8.ofNat z.toNat, ?_⟩
  have h3 : ((UInt8.ofNat z.toNat).toNat : Int) = z := by
    have : z.toNat < 256 := by omega
    simp [Nat.mod_eq_of_lt this]; omega
  rw [byt, h3]
theorem arg_prs (hval : Value.okWide Tryd.prog W .any base 28 v) (hd : DataW.Trod enc Tryd.prog W 0 (fun _ => true) true 28 v d ps) (hw : Wt Tryd.prog 28 d) : ∃ l : List Pr, SlP (All W) v l ∧ Small 140737488355328 l := by
  obtain ⟨a0, len, cap, rfl⟩ := okWide_slice Tryd.underlying28 hval
  obtain ⟨l, u, hu, hl, _⟩ := open_arg opn_prs hd hw
  simp only [Value.cells, List.cons.injEq, and_true] at hu
  subst hu
  exact ⟨l, (sl_slP hl).1, small_of (sl_slP hl).2⟩
theorem arg_agg {t : TypeId} {fs : Array Field} (ht : Tryd.prog.underlying t = some (.struct fs)) (hval : Value.okWide Tryd.prog W .any base t v) : ∃ cs, v = .agg cs := by
  simp only [Value.okWide, ht] at hval
  obtain ⟨cs, h, _⟩ := hval
  exact ⟨cs, h⟩
theorem three_cells {cs : List Value} {v0 v1 v2 : Value} (hl : cs.length = 3) (h0 : cs[0]? = some v0) (h1 : cs[1]? = some v1) (h2 : cs[2]? = some v2) : cs = [v0, v1, v2] := by
  match cs, hl with
  | [a, b, c], _ => simp at h0 h1 h2; rw [h0, h1, h2]
theorem four_cells {cs : List Value} {v0 v1 v2 v3 : Value} (hl : cs.length = 4) (h0 : cs[0]? = some v0) (h1 : cs[1]? = some v1) (h2 : cs[2]? = some v2) (h3 : cs[3]? = some v3) : cs = [v0, v1, v2, v3] := by
  match cs, hl with
  | [a, b, c, d], _ => simp at h0 h1 h2 h3; rw [h0, h1, h2, h3]
end Go.Proofs.YtnfkbbkojgbbeaaDoor
/-
  The frames' common part: what a row's world holds; a world for the witness.
-/
namespace Go.Proofs.YtnfkbbkojgbbeaaDoor
open Go.ChangeShapes Go.WideShapes Go.ChangeAt Go.RowKit Go.Eng Go.Pct
set_option maxRecDepth 100000

theorem own : ownKnob Tryd.prog.godebug = none := by kernel_rfl
theorem gMarks : Tryd.prog.globalNamed "matricula/xml.marks" = some 0 := by kernel_rfl
theorem gMarksT : (Tryd.prog.globals[0]?).map (·.type) = some 53 := by kernel_rfl
theorem cellsPrM : Tryd.prog.cellsOf 39 = 2 := by kernel_rfl
theorem cellsStrM : Tryd.prog.cellsOf 9 = 1 := by kernel_rfl
def markD : DataW Unit := .agg [.agg [.lit (.string [38]), .lit (.string [38, 97, 109, 112, 59])], .agg [.lit (.string [60]), .lit (.string [38, 108, 116, 59])], .agg [.lit (.string [62]), .lit (.string [38, 103, 116, 59])], .agg [.lit (.string [34]), .lit (.string [38, 113, 117, 111, 116, 59])], .agg [.lit (.string [39]), .lit (.string [38, 35, 51, 57, 59])]]
theorem pair_cells {W : World} {fuel : Nat} {cs : List Value} {a b : List UInt8} {q : List MemPlace} (h : DataW.trod (fun _ => ()) Tryd.prog W 0 (fun _ => true) false fuel 39 cs = some (.agg [.lit (.string a), .lit (.string b)], q)) : cs[0]? = some (str a) ∧ cs[1]? = some (str b) := by
  obtain ⟨xs, n, rfl, hx, hl, hxl, hall⟩ := DataW.trod_struct Tryd.underlying39 h
  have hxs : xs.map (·.1) = [.lit (.string a), .lit (.string b)] := by
    have := congrArg Prod.fst hx
    simpa using this.symm
  match xs, hxs with
  | [x0, x1], hxs =>
    simp only [List.map_cons, List.map_nil, List.cons.injEq, and_true] at hxs
    have h0 := hall 0 _ rfl
    have h1 := hall 1 _ rfl
    obtain ⟨s0, e0, e0', _⟩ := DataW.trod_string Tryd.underlying9 h0
    obtain ⟨s1, e1, e1', _⟩ := DataW.trod_string Tryd.underlying9 h1
    have e0 : (cs.drop 0).take (Tryd.prog.cellsOf 9) = [.string s0] := e0
    have e1 : (cs.drop 1).take (Tryd.prog.cellsOf 9) = [.string s1] := e1
    rw [cellsStrM] at e0 e1
    obtain rfl : x0 = _ := e0'
    obtain rfl : x1 = _ := e1'
    simp only [DataW.lit.injEq, Lit.string.injEq] at hxs
    obtain ⟨rfl, rfl⟩ := hxs
    constructor
    · have := congrArg (·[0]?) e0
      simp only [List.getElem?_take, List.getElem?_drop] at this
      rw [if_pos (by decide)] at this
      rw [← str_of]
      simpa using this
    · have := congrArg (·[0]?) e1
      simp only [List.getElem?_take, List.getElem?_drop] at this
      rw [if_pos (by decide)] at this
      rw [← str_of]
      simpa using this
theorem marks_of {W : World} {rest : List (String × DataW Unit)} (h : laidMet Tryd.prog (("matricula/xml.marks", markD) :: rest) W) : ∃ cs T fz, All W 0 (.cells cs T fz) ∧ ∀ j, j < 10 → cs[j]? = markCells[j]? := by
  obtain ⟨ps, ⟨g', t', cs, fuel, p, q, hg', ht', hvar, hd, _, _⟩, _⟩ := h
  obtain rfl := Option.some.inj (gMarks.symm.trans hg')
  obtain rfl := Option.some.inj (gMarksT.symm.trans ht')
  have hcell : ∃ T fz, All W 0 (.cells cs T fz) := by
    unfold World.var? at hvar
    rw [gMarks, Option.bind_some] at hvar
    split at hvar
    · rename_i cs' T fz hh
      simp only [Option.some.injEq] at hvar
      exact ⟨T, fz, by rw [← hvar]; exact hh⟩
    · cases hvar
  obtain ⟨T, fz, hh⟩ := hcell
  refine ⟨cs, T, fz, hh, ?_⟩
  have key : ∀ i, i < 5 → cs[i * 2]? = markCells[i * 2]? ∧ cs[i * 2 + 1]? = markCells[i * 2 + 1]? := by
    intro i hi
    obtain ⟨f', d, q', h1, h2⟩ := Lib.array_elem Tryd.underlying53 hd i hi
    rw [cellsPrM] at h2
    have tail : ∀ (a b : List UInt8), d = .agg [.lit (.string a), .lit (.string b)] → cs[i * 2]? = some (str a) ∧ cs[i * 2 + 1]? = some (str b) := by
      rintro a b rfl
      obtain ⟨g0, g1⟩ := pair_cells h2
      simp only [List.getElem?_take, List.getElem?_drop] at g0 g1
      rw [if_pos (by decide)] at g0 g1
      exact ⟨by simpa using g0, by simpa using g1⟩
    match i, hi, h1, tail with
    | 0, _, h1, tail => cases h1; exact tail _ _ rfl
    | 1, _, h1, tail => cases h1; exact tail _ _ rfl
    | 2, _, h1, tail => cases h1; exact tail _ _ rfl
    | 3, _, h1, tail => cases h1; exact tail _ _ rfl
    | 4, _, h1, tail => cases h1; exact tail _ _ rfl
  intro j hj
  have e : j = j / 2 * 2 + j % 2 := by omega
  have h2 := key (j / 2) (by omega)
  rcases Nat.mod_two_eq_zero_or_one j with h | h
  · rw [h] at e; rw [e]; exact h2.1
  · rw [h] at e; rw [e]; exact h2.2
/-- what is asked of a row's list -/
structure Lists (l : List (String × DataW Unit)) : Prop where
  marks : l.filter (fun x => x.1 == "matricula/xml.marks") = [("matricula/xml.marks", markD)]
theorem glob_of {W : World} {l : List (String × DataW Unit)} (hl : Lists l) (h : laidMetH Tryd.prog l W) (hsh : W.ShapedOpen Tryd.prog) : Glob (All W) := by
  constructor
  · obtain ⟨m, hm⟩ := (Tryd.laysM219).s1_3 W hsh
    obtain ⟨cs, T, fz, hh, h2⟩ := cell_inv hm
    exact ⟨cs, T, fz, m, hh, h2⟩
  · have h1 := h.filter (fun x => x.1 == "matricula/xml.marks")
    rw [hl.marks, Go.MakeChecks.laidMetH_plain _ _ _ (by rfl)] at h1
    exact marks_of h1

theorem laidOut : laidOutB Tryd.prog = true := by kernel_rfl
theorem trodAll_below {H : Type} {enc : TypeId × Value → H} {P : Program} (hl : laidOutB P = true) {W W' : World} (hb : Below W.heap.size W W') : ∀ {ts : List TypeId} {vs : List Value} {ds : List (DataW H)} {ps : List MemPlace},
    (ts.all fun t => P.readableRec t && decide (t < P.types.size)) = true → DataW.TrodAll enc P W 0 (fun _ => true) true ts vs ds ps → (∀ x ∈ ps, x.block < W.heap.size) → DataW.TrodAll enc P W' 0 (fun b => decide (b < W.heap.size)) true ts vs ds ps
  | [], [], [], _, _, h, _ => h
  | _ :: _, _ :: _, _ :: _, _, hT, ⟨p, q, h1, h2, e⟩, hs => by
    simp only [List.all_cons, Bool.and_eq_true, decide_eq_true_eq] at hT
    exact ⟨p, q, Below.trod hl hT.1.1 hT.1.2 h1 hb (fun x hx => hs x (by rw [e]; exact List.mem_append_left _ hx)), trodAll_below hl hb hT.2 h2 (fun x hx => hs x (by rw [e]; exact List.mem_append_right _ hx)), e⟩
/-- what a table's datum lays -/
def cellsD : Nat → DataW Unit → List Value
  | 0, _ => []
  | n + 1, .agg l => l.flatMap (cellsD n)
  | _ + 1, .lit (.int k z) => [.int k z]
  | _ + 1, .lit (.string s) => [.string ⟨s.toArray⟩]
  | _, _ => []
def layAt (d : DataW Unit) : Obj → Obj
  | .cells _ t fz => .cells (cellsD 5 d).toArray t fz
  | o => o
/-- A world for the witness: the settled one, the tables holding what their initialisers lay. -/
noncomputable def laidWorld (os : Os) (l : List (String × DataW Unit)) : World :=
  { World.holding Tryd.prog os ⟨#[], #[], []⟩ with heap := l.foldl (fun h x => match Tryd.prog.globalNamed x.1 with | some g => h.modify g (layAt x.2) | none => h) (World.holding Tryd.prog os ⟨#[], #[], []⟩).heap }
theorem noStand (t : TypeId) (ts : Array TypeId) (h : ts.all (fun t => !Tryd.prog.wantsStandIn t) = true) (j : Nat) (ht : ts[j]? = some t) : Tryd.prog.wantsStandIn t = false := by
  have := (Array.all_eq_true'.1 h) t (Array.mem_of_getElem? ht)
  simpa using this
theorem sizes_of {H : Type} {ts us : List TypeId} {ds gs : List (DataW H)} (h : (DataW.weightsEach Tryd.prog (ts ++ us) (ds ++ gs)).all (· ≤ reachBytes) = true) {j : Nat} {t : TypeId} {d : DataW H} (ht : (ts ++ us)[j]? = some t) (hd : (ds ++ gs)[j]? = some d) : Wt Tryd.prog t d :=
  wt_each ht hd (fun n hn => by simpa using List.all_eq_true.1 h n hn)
end Go.Proofs.YtnfkbbkojgbbeaaDoor
/-
  The given statement of XmlDeep: from the walk of XmlDeep to the card.
-/
namespace Go.Proofs.YtnfkbbkojgbbeaaDoor
open Go.ChangeShapes Go.WideShapes Go.ChangeAt Go.RowKit Go.Eng Go.Pct
set_option maxRecDepth 100000
set_option linter.unusedSimpArgs false

theorem xmlDeep_lists : Lists Rows.xmlDeepRow.laid := by constructor <;> kernel_rfl
theorem xmlDeep_contract (H : Type) (enc : TypeId × Value → H) (W : World) (base : Nat) (args : Array Value) (ds gs : List (DataW H)) (before : List MemPlace)
    (hval : ∀ (j : Nat) t v, Tryd.f7.params[j]? = some t → args[j]? = some v → Value.okWide Tryd.prog W .any base t v)
    (hW : DataW.Whole enc Tryd.prog Tryd.f7.params.toList Rows.xmlDeepSpec.vars false W args.toList ds gs before)
    (hz : (DataW.weightsEach Tryd.prog (Tryd.f7.params.toList ++ (OpenSpec.ofChange Rows.xmlDeepSpec).bare.plain.varTypes Tryd.prog) (ds ++ gs)).all (· ≤ reachBytes) = true) (hL : laidMetH Tryd.prog Rows.xmlDeepRow.laid W) (hsh : W.ShapedOpen Tryd.prog) :
    Calls Tryd.prog 7 args W fun e W' => ∃ v, e = .returned v ∧ Rows.xmlDeepSpec.post enc Tryd.prog Tryd.f7 false true false false W args v W' := by
  have hW' := hW
  obtain ⟨p, q, hA0, hV, rfl, hfz, hnd⟩ := hW
  have hAk : DataW.TrodAll enc Tryd.prog W 0 (fun _ => true) true Tryd.f7.params.toList args.toList ds p := hA0
  have hA := hAk
  rw [Tryd.params7] at hA hval hz
  obtain ⟨rfl, rfl⟩ := trodVars_none hV
  obtain ⟨v0, vs0, d0, ds0, p0, q0, hargs, rfl, hq0, h0, r0⟩ := trodAll_cons hA
  obtain ⟨v1, vs1, d1, ds1, p1, q1, rfl, rfl, hq1, h1, r1⟩ := trodAll_cons r0
  obtain ⟨rfl, rfl, hqn⟩ := trodAll_nil r1
  obtain rfl : args = #[v0, v1] := by cases args; simp_all
  obtain ⟨c0, rfl⟩ := arg_u8 (hval 0 5 v0 rfl rfl) h0 (sizes_of (j := 0) hz rfl rfl)
  obtain ⟨c1, rfl⟩ := arg_u8 (hval 1 5 v1 rfl rfl) h1 (sizes_of (j := 1) hz rfl rfl)
  have hG := glob_of (W := W) xmlDeep_lists hL hsh
  have walk := deep_ok hG (all_laid W) c0 c1
  refine walk.mono fun e W' ⟨he, hg⟩ => ?_
  subst he
  have hb := hg.below
  refine ⟨_, rfl, ⟨_, _, _, [], _, [], hW', trodAll_mk1 (shut_bool Tryd.underlying4 _), trodAll_below laidOut hb (by kernel_rfl) hAk (fun x hx => ?_), rfl, hb.frame _, fun h => by cases h⟩⟩
  have := hW'.lt x (by simpa using hx)
  simpa using this

theorem xmlDeep_laid (os : Os) : laidMet Tryd.prog Rows.xmlDeepRow.laid ((laidWorld os Rows.xmlDeepRow.laid).forCall (fun _ _ => 0) ⟨#[], #[.int .u8 0, .int .u8 0], []⟩).memory :=
  laidMet_of_run' 8 (by kernel_rfl) (by kernel_rfl)
theorem xmlDeep_reads (os : Os) {H : Type} (enc : TypeId × Value → H) : ∃ places, DataW.whole enc Tryd.prog ((laidWorld os Rows.xmlDeepRow.laid).forCall (fun _ _ => 0) ⟨#[], #[.int .u8 0, .int .u8 0], []⟩).memory Tryd.f7.params.toList Rows.xmlDeepSpec.vars false (#[Value.int .u8 0, Value.int .u8 0] : Array Value).toList 8 = some ([.lit (.int .u8 0), .lit (.int .u8 0)], [], places) :=
  ⟨[], by kernel_rfl⟩
theorem xmlDeep_lifted (os : Os) (started : os.Started) (H : Type) (enc : TypeId × Value → H) (F : Stop.Interp) :
    ReturnsInHanded {} Tryd.checked os 7 .any ((OpenSpec.ofChange Rows.xmlDeepSpec).preRow enc Tryd.prog Tryd.f7 Rows.xmlDeepRow.domain false Rows.xmlDeepRow.laid) (((OpenSpec.ofChange Rows.xmlDeepSpec).at F).post enc Tryd.prog Tryd.f7 false true false false) := by
  obtain ⟨places, hx⟩ := xmlDeep_reads os enc
  refine returnsInHanded_of_row (C := Tryd.checked) (s := OpenSpec.ofChange Rows.xmlDeepSpec) own started (by kernel_rfl) Tryd.func7
    (witness_row_at (enc := enc) (C := Tryd.checked) false (laidWorld os Rows.xmlDeepRow.laid) #[.int .u8 0, .int .u8 0] rfl (by kernel_rfl) (by kernel_rfl) (by kernel_rfl)
      (OpenSpec.preRow_of_cond 8 hx (by kernel_rfl) (fun k hk => by cases hk) (by kernel_rfl) (xmlDeep_laid os))) ?_
  intro W base args ds gs before hval hW _ _ hz hL hsh _
  exact xmlDeep_contract H enc W base args ds gs before hval hW hz hL hsh
theorem xmlDeep_said : Rows.XmlDeepSaid :=
  OpenClaim.holds_of_cond 7 Tryd.f7 rfl rfl rfl rfl rfl rfl rfl ⟨rfl, rfl, rfl, rfl, rfl⟩ rfl rfl rfl rfl rfl (by kernel_rfl) Tryd.func7 (by kernel_rfl)
    (of_decide_eq_true (by kernel_rfl)) (by unfold Func.isWrapper; first | (rw [if_pos (by decide +kernel)]; kernel_rfl) | (rw [if_neg (by decide +kernel)]; exact ⟨rfl, rfl⟩))
    (fun os started H enc _ F => by rw [OpenClaim.pre_eq_preRow]; exact xmlDeep_lifted os started H enc F)
theorem xmlDeep_plain (f : FuncId) (fn : Func) (hf : Tryd.pinned.checked.prog.funcNamed "matricula/matriculalaw06.XmlDeep" = some f) (hfn : Tryd.pinned.checked.prog.funcs[f]? = some fn) :
    false = Tryd.pinned.checked.prog.looks [] ∧ ∀ (j : Nat) t, fn.params[j]? = some t → Tryd.pinned.checked.prog.wantsStandIn t = false := by
  obtain rfl : f = 7 := Option.some.inj ((show Tryd.prog.funcNamed "matricula/matriculalaw06.XmlDeep" = some 7 by kernel_rfl).symm.trans hf) |>.symm
  obtain rfl : fn = Tryd.f7 := (Option.some.inj (Tryd.func7.symm.trans hfn)).symm
  refine ⟨by kernel_rfl, fun j t ht => ?_⟩
  rw [Tryd.params7] at ht
  exact noStand t _ (by kernel_rfl) j ht
/-- The given statement. -/
theorem xmlDeep_card : Rows.XmlDeepCardSaid :=
  Claim7.holds_tied_plain_at .later [] _ _ _ _ xmlDeep_said (fun _ h => by cases h) (by kernel_rfl) (fun _ h => by cases h) xmlDeep_row_tie rfl ⟨rfl, rfl⟩ (by kernel_rfl) rfl xmlDeep_plain (by kernel_rfl)
end Go.Proofs.YtnfkbbkojgbbeaaDoor
