/-
  Texts of a proof, joined: XmlU, XmlV, XmlW, XmlX, CasS, EngO, RndA, RndB, RndC.
-/
import Derived.Lib.ConvBytes
import Derived.Laws.AppendOwn
import Derived.Test.YtgfbieplidpebaaDoorJFRndSafe1
import Derived.Test.YtgfbieplidpebaaDoorJFRndSafe2
import Derived.Test.YtgfbieplidpebaaDoorJFRndSafe3
/-
  The reader's element.
-/
namespace Go.Proofs.YtgfbieplidpebaaDoor
open Go.Eng Go.Pct Go.Xml Go.Rsp
set_option maxRecDepth 10000
set_option linter.unusedSimpArgs false
set_option linter.unusedVariables false

variable {M : Ghost} {w0 w : World} {bs : List Nat} {H : List (Nat × Obj)}
/-- an element of as many as are left; how many are left then -/
def elemX (D : Nat) (s : List UInt8) (left : Int) : Option (Nd × List UInt8 × Int) := match elemP D s with
  | some (x, r) => if (cntN x : Int) ≤ left then some (x, r, left - cntN x) else none
  | none => none
theorem sp_at (c : UInt8) : ([32, 62] : List UInt8).contains c = isSp c := by revert c; apply all_bytes; decide +kernel
theorem cnt_pos (x : Nd) : 1 ≤ cntN x := by cases x; rw [cntN]; omega
theorem cntL_append (k l : List Nd) : cntL (k ++ l) = cntL k + cntL l := by
  induction k with
  | nil => simp [cntL]
  | cons x k ih => rw [List.cons_append, cntL, cntL, ih]; omega
/-- where a kid can't be, or is more than are left, the whole is none or more than are left -/
theorem kids_fail {e : List UInt8 → Option (Nd × List UInt8)} {F f : Nat} {s0 cur : List UInt8} {acc : List Nd} {left0 : Int} (inv : kidsP e F s0 = (kidsP e (f + 1) cur).map fun y => (acc ++ y.1, y.2)) (hp : [60, 47].isPrefixOf cur = false) (hx : ∀ x r, e cur = some (x, r) → left0 < cntL acc + cntN x) : ∀ k r5, kidsP e F s0 = some (k, r5) → left0 < cntL k := by
  intro k r5 h
  rw [inv, kidsP, if_neg (by rw [hp]; decide)] at h
  cases he : e cur with
  | none => rw [he] at h; cases h
  | some p =>
    obtain ⟨x, r⟩ := p
    rw [he] at h
    simp only at h
    cases hk : kidsP e f r with
    | none => rw [hk] at h; cases h
    | some q =>
      rw [hk] at h
      simp only [Option.map_some, Option.some.injEq, Prod.mk.injEq] at h
      have := hx x r he
      rw [← h.1, cntL_append, cntL]
      omega
theorem esc_long (u : List UInt8) : u.length ≤ (esc u).length := by
  have key : ∀ c : UInt8, 1 ≤ (esc1 c).length := by apply all_bytes; decide +kernel
  unfold esc
  induction u with
  | nil => simp
  | cons c u ih => rw [List.flatMap_cons, List.length_append, List.length_cons]; have := key c; omega
theorem attrT_small : ∀ {l : List Pr} {p : Pr}, p ∈ l → p.1.length + p.2.length ≤ (attrT l).length
  | q :: l, p, h => by
    unfold attrT
    rw [List.flatMap_cons, List.length_append]
    rcases List.mem_cons.1 h with rfl | h
    · have := esc_long p.2
      simp only [List.length_append, List.length_cons, List.length_nil]
      omega
    · have := attrT_small h
      unfold attrT at this
      omega
/-- as far as the kids have been read -/
structure KQ (D : Nat) (M1 : Ghost) (s0 : List UInt8) (left0 : Int) (w0 : World) where
  f : Nat
  cur : List UInt8
  acc : List Nd
  v : Value
  Hs : List (Nat × Obj)
  xs : List Value
  M' : Ghost
  fuel : cur.length < f
  len : acc.length + cur.length ≤ s0.length
  inv : kidsP (elemP D) (s0.length + 1) s0 = (kidsP (elemP D) f cur).map fun y => (acc ++ y.1, y.2)
  own : OwnS 35 4 v Hs xs
  xlen : xs.length = acc.length * 4
  nodes : ∀ i (hi : i < acc.length), NodeC M' D acc[i] ((xs.drop (i * 4)).take 4)
  left : (cntL acc : Int) ≤ left0
  since : Since w0 M1 M'
/-- what an element's reading yields -/
def ElemIs (D : Nat) (s : List UInt8) (left : Int) (M' : Ghost) (s' : List UInt8) (left' : Int) (v : Value) : Prop :=
  match elemX D s left with
  | some (x, r, l') => ∃ vs : List Value, v = .tuple #[.agg vs.toArray, .bool true] ∧ NodeC M' D x vs ∧ s' = r ∧ left' = l'
  | none => ∃ n a1 l1 c1 t a2 l2 c2, v = .tuple #[.agg #[str n, .slice a1 l1 c1, str t, .slice a2 l2 c2], .bool false]
theorem elemIs_no {D : Nat} {s s' : List UInt8} {left left' : Int} {M' : Ghost} {n : List UInt8} {a1 l1 c1 t a2 l2 c2} (h : elemX D s left = none) : ElemIs D s left M' s' left' (.tuple #[.agg #[str n, .slice a1 l1 c1, str t, .slice a2 l2 c2], .bool false]) := by
  unfold ElemIs; rw [h]; exact ⟨_, _, _, _, _, _, _, _, rfl⟩
set_option maxHeartbeats 4000000 in
theorem relem_ok : ∀ (D : Nat) (deep : Int), deep = 9 - (D : Int) → D ≤ 8 → ∀ (M : Ghost) (H : List (Nat × Obj)) (b : Nat) (s : List UInt8) (left : Int) (w0 w : World), Glob M → s.length ≤ 100000000 → 0 ≤ left → left ≤ 200 → St w0 [] ((b, readO s left) :: H) M w → Calls Tryd.prog 47 #[.pointer (some ⟨b, 0, none⟩), i64 deep] w (RetX w0 H M b (ElemIs D s left))
  | 0, deep, hD, hD8 => by
    intro M H b s left w0 w hG hs hl0 hl2 hw
    refine calls_lent (C := St w0 [] ((b, readO s left) :: H) M) (l := [.pointer (some ⟨b, 0, none⟩), i64 deep]) hw Tryd.func47 rfl rfl rfl (E0 := [(0, true, .pointer (some ⟨b, 0, none⟩)), (1, true, i64 deep)]) (params_cons rfl (params_cons rfl (params_nil _))) ?_
    clear hw
    unfold readO
    obtain rfl : deep = 9 := by omega
    repeat' (first | (first | refine wc_seq ?_ | refine wc_region ?_ | refine wl_nil ?_ | refine wn_seq ?_ | refine wn_blk ?_ | refine wc_skip ?_ | refine wc_scope ?_ | refine wc_label ?_ | refine wn_noGoto ?_ | refine wc_block ?_ | refine wc_exit rfl ?_ | (show WL _ _ (_ :: _) _ _ _ _; first | refine yl_v rfl rfl rfl ?_ | refine wl_v rfl rfl rfl (by first | (show OpV _ _ _ _ (Oper.mk _ (Op.call _) _ _ _ _) _ _; exact ov_off (v := .bool false) rfl) | fail) ?_ | refine xl_alloc (fun _ => ?_) | refine xl_box rfl (fun _ => ?_) | refine xl_store rfl rfl ?_ | refine xl_buildSlice rfl (fun _ => ?_) | refine wl_makeMap rfl rfl (fun _ => ?_) | refine wl_insert rfl rfl rfl rfl rfl rfl (by first | exact rfl | exact trivial) (by first | exact Upd.here | exact Upd.there Upd.here | exact Upd.there (Upd.there Upd.here) | exact Upd.there (Upd.there (Upd.there Upd.here)) | exact Upd.there (Upd.there (Upd.there (Upd.there Upd.here))) | exact Upd.app _ (Upd.here) | exact Upd.app _ (Upd.there Upd.here) | exact Upd.app _ (Upd.there (Upd.there Upd.here)) | exact Upd.app _ (Upd.there (Upd.there (Upd.there Upd.here))) | exact Upd.there (Upd.app _ (Upd.here)) | exact Upd.there (Upd.app _ (Upd.there Upd.here)) | exact Upd.there (Upd.app _ (Upd.there (Upd.there Upd.here))) | exact Upd.there (Upd.app _ (Upd.there (Upd.there (Upd.there Upd.here)))) | exact Upd.there (Upd.there (Upd.app _ (Upd.here))) | exact Upd.there (Upd.there (Upd.app _ (Upd.there Upd.here))) | exact Upd.there (Upd.there (Upd.app _ (Upd.there (Upd.there Upd.here))))) (by rfl) ?_) | refine wc_ret rfl ?_) | (show WC _ (Code.cond _ _ _) _ _ _ _; (refine wc_cond rfl (fun hc => ?_) (fun hc => ?_) <;> (try (simp only [decide_eq_true_eq, decide_eq_false_iff_not, Bool.and_eq_true, Bool.or_eq_true, Bool.and_eq_false_iff, Bool.or_eq_false_iff, Bool.not_eq_true', Bool.not_eq_false', Int.not_lt, Int.not_le] at hc)) <;> (try (exfalso; first | omega | contradiction)))))
    exact wrx_layC2 (Hn := []) (l := [str [], .slice none 0 0, str [], .slice none 0 0]) (s' := s) (left' := left - 1) rfl rfl rfl rfl (List.Mem.head _) rfl Since.refl (List.Sublist.cons _ (List.Sublist.refl _)) (elemIs_no rfl)
  | D + 1, deep, hD, hD8 => by
    intro M H b s left w0 w hG hs hl0 hl2 hw
    refine calls_lent (C := St w0 [] ((b, readO s left) :: H) M) (l := [.pointer (some ⟨b, 0, none⟩), i64 deep]) hw Tryd.func47 rfl rfl rfl (E0 := [(0, true, .pointer (some ⟨b, 0, none⟩)), (1, true, i64 deep)]) (params_cons rfl (params_cons rfl (params_nil _))) ?_
    clear hw
    unfold readO
    by_cases h0 : left - 1 < 0
    · have hn : elemX (D + 1) s left = none := by
        unfold elemX
        cases he : elemP (D + 1) s with
        | none => rfl
        | some p =>
          have := cnt_pos p.1
          show (if (cntN p.1 : Int) ≤ left then _ else none) = none
          rw [if_neg (by omega)]
      repeat' (first | (first | refine wc_seq ?_ | refine wc_region ?_ | refine wl_nil ?_ | refine wn_seq ?_ | refine wn_blk ?_ | refine wc_skip ?_ | refine wc_scope ?_ | refine wc_label ?_ | refine wn_noGoto ?_ | refine wc_block ?_ | refine wc_exit rfl ?_ | (show WL _ _ (_ :: _) _ _ _ _; first | refine yl_v rfl rfl rfl ?_ | refine wl_v rfl rfl rfl (by first  | fail) ?_ | refine xl_alloc (fun _ => ?_) | refine xl_box rfl (fun _ => ?_) | refine xl_store rfl rfl ?_ | refine xl_buildSlice rfl (fun _ => ?_) | refine wl_makeMap rfl rfl (fun _ => ?_) | refine wl_insert rfl rfl rfl rfl rfl rfl (by first | exact rfl | exact trivial) (by first | exact Upd.here | exact Upd.there Upd.here | exact Upd.there (Upd.there Upd.here) | exact Upd.there (Upd.there (Upd.there Upd.here)) | exact Upd.there (Upd.there (Upd.there (Upd.there Upd.here))) | exact Upd.app _ (Upd.here) | exact Upd.app _ (Upd.there Upd.here) | exact Upd.app _ (Upd.there (Upd.there Upd.here)) | exact Upd.app _ (Upd.there (Upd.there (Upd.there Upd.here))) | exact Upd.there (Upd.app _ (Upd.here)) | exact Upd.there (Upd.app _ (Upd.there Upd.here)) | exact Upd.there (Upd.app _ (Upd.there (Upd.there Upd.here))) | exact Upd.there (Upd.app _ (Upd.there (Upd.there (Upd.there Upd.here)))) | exact Upd.there (Upd.there (Upd.app _ (Upd.here))) | exact Upd.there (Upd.there (Upd.app _ (Upd.there Upd.here))) | exact Upd.there (Upd.there (Upd.app _ (Upd.there (Upd.there Upd.here))))) (by rfl) ?_) | refine wc_ret rfl ?_) | (show WC _ (Code.cond _ _ _) _ _ _ _; (refine wc_cond rfl (fun hc => ?_) (fun hc => ?_) <;> (try (simp only [decide_eq_true_eq, decide_eq_false_iff_not, Bool.and_eq_true, Bool.or_eq_true, Bool.and_eq_false_iff, Bool.or_eq_false_iff, Bool.not_eq_true', Bool.not_eq_false', Int.not_lt, Int.not_le] at hc)) <;> (try (exfalso; first | omega | contradiction)))))
      rename_i b4
      refine wl_weak (E' := [(28, true, .bool true), (0, true, .pointer (some ⟨b, 0, none⟩)), (1, true, i64 deep), (4, true, .pointer (some ⟨b4, 0, none⟩))]) (Eng.Sub.cons (by show some (true, Value.bool (decide (8 < deep) || decide (left - 1 < 0))) = _; rw [decide_eq_true h0, Bool.or_true]) (by first | exact Sub.nil _ | (repeat (first | exact Sub.nil _ | refine Sub.cons (by first | rfl | (simp [look]; done)) ?_)))) (fun _ h => h) ?_
      repeat' (first | (first | refine wc_seq ?_ | refine wc_region ?_ | refine wl_nil ?_ | refine wn_seq ?_ | refine wn_blk ?_ | refine wc_skip ?_ | refine wc_scope ?_ | refine wc_label ?_ | refine wn_noGoto ?_ | refine wc_block ?_ | refine wc_exit rfl ?_ | (show WL _ _ (_ :: _) _ _ _ _; first | refine yl_v rfl rfl rfl ?_ | refine wl_v rfl rfl rfl (by first | (show OpV _ _ _ _ (Oper.mk _ (Op.call _) _ _ _ _) _ _; exact ov_off (v := .bool false) rfl) | fail) ?_ | refine xl_alloc (fun _ => ?_) | refine xl_box rfl (fun _ => ?_) | refine xl_store rfl rfl ?_ | refine xl_buildSlice rfl (fun _ => ?_) | refine wl_makeMap rfl rfl (fun _ => ?_) | refine wl_insert rfl rfl rfl rfl rfl rfl (by first | exact rfl | exact trivial) (by first | exact Upd.here | exact Upd.there Upd.here | exact Upd.there (Upd.there Upd.here) | exact Upd.there (Upd.there (Upd.there Upd.here)) | exact Upd.there (Upd.there (Upd.there (Upd.there Upd.here))) | exact Upd.app _ (Upd.here) | exact Upd.app _ (Upd.there Upd.here) | exact Upd.app _ (Upd.there (Upd.there Upd.here)) | exact Upd.app _ (Upd.there (Upd.there (Upd.there Upd.here))) | exact Upd.there (Upd.app _ (Upd.here)) | exact Upd.there (Upd.app _ (Upd.there Upd.here)) | exact Upd.there (Upd.app _ (Upd.there (Upd.there Upd.here))) | exact Upd.there (Upd.app _ (Upd.there (Upd.there (Upd.there Upd.here)))) | exact Upd.there (Upd.there (Upd.app _ (Upd.here))) | exact Upd.there (Upd.there (Upd.app _ (Upd.there Upd.here))) | exact Upd.there (Upd.there (Upd.app _ (Upd.there (Upd.there Upd.here))))) (by rfl) ?_) | refine wc_ret rfl ?_) | (show WC _ (Code.cond _ _ _) _ _ _ _; (refine wc_cond rfl (fun hc => ?_) (fun hc => ?_) <;> (try (simp only [decide_eq_true_eq, decide_eq_false_iff_not, Bool.and_eq_true, Bool.or_eq_true, Bool.and_eq_false_iff, Bool.or_eq_false_iff, Bool.not_eq_true', Bool.not_eq_false', Int.not_lt, Int.not_le] at hc)) <;> (try (exfalso; first | omega | contradiction)))))
      exact wrx_layC2 (Hn := []) (l := [str [], .slice none 0 0, str [], .slice none 0 0]) (s' := s) (left' := left - 1) rfl rfl rfl rfl (List.Mem.head _) rfl Since.refl (List.Sublist.cons _ (List.Sublist.refl _)) (elemIs_no hn)
    · repeat' (first | (first | refine wc_seq ?_ | refine wc_region ?_ | refine wl_nil ?_ | refine wn_seq ?_ | refine wn_blk ?_ | refine wc_skip ?_ | refine wc_scope ?_ | refine wc_label ?_ | refine wn_noGoto ?_ | refine wc_block ?_ | refine wc_exit rfl ?_ | (show WL _ _ (_ :: _) _ _ _ _; first | refine yl_v rfl rfl rfl ?_ | refine wl_v rfl rfl rfl (by first  | fail) ?_ | refine xl_alloc (fun _ => ?_) | refine xl_box rfl (fun _ => ?_) | refine xl_store rfl rfl ?_ | refine xl_buildSlice rfl (fun _ => ?_) | refine wl_makeMap rfl rfl (fun _ => ?_) | refine wl_insert rfl rfl rfl rfl rfl rfl (by first | exact rfl | exact trivial) (by first | exact Upd.here | exact Upd.there Upd.here | exact Upd.there (Upd.there Upd.here) | exact Upd.there (Upd.there (Upd.there Upd.here)) | exact Upd.there (Upd.there (Upd.there (Upd.there Upd.here))) | exact Upd.app _ (Upd.here) | exact Upd.app _ (Upd.there Upd.here) | exact Upd.app _ (Upd.there (Upd.there Upd.here)) | exact Upd.app _ (Upd.there (Upd.there (Upd.there Upd.here))) | exact Upd.there (Upd.app _ (Upd.here)) | exact Upd.there (Upd.app _ (Upd.there Upd.here)) | exact Upd.there (Upd.app _ (Upd.there (Upd.there Upd.here))) | exact Upd.there (Upd.app _ (Upd.there (Upd.there (Upd.there Upd.here)))) | exact Upd.there (Upd.there (Upd.app _ (Upd.here))) | exact Upd.there (Upd.there (Upd.app _ (Upd.there Upd.here))) | exact Upd.there (Upd.there (Upd.app _ (Upd.there (Upd.there Upd.here))))) (by rfl) ?_) | refine wc_ret rfl ?_) | (show WC _ (Code.cond _ _ _) _ _ _ _; (refine wc_cond rfl (fun hc => ?_) (fun hc => ?_) <;> (try (simp only [decide_eq_true_eq, decide_eq_false_iff_not, Bool.and_eq_true, Bool.or_eq_true, Bool.and_eq_false_iff, Bool.or_eq_false_iff, Bool.not_eq_true', Bool.not_eq_false', Int.not_lt, Int.not_le] at hc)) <;> (try (exfalso; first | omega | contradiction)))))
      rename_i b4
      have h8 : ¬ 8 < deep := by omega
      refine wl_weak (E' := [(28, true, .bool false), (29, true, .pointer (some ⟨b, 0, none⟩)), (0, true, .pointer (some ⟨b, 0, none⟩)), (1, true, i64 deep), (4, true, .pointer (some ⟨b4, 0, none⟩))]) (C' := St w0 [] ((b, readO s (left - 1)) :: (b4, .cells [str [], .slice none 0 0, str [], .slice none 0 0].toArray 35 (0, 0)) :: H) M) (Eng.Sub.cons (by show some (true, Value.bool (decide (8 < deep) || decide (left - 1 < 0))) = _; rw [decide_eq_false h8, decide_eq_false h0]; rfl) (Eng.Sub.cons (by show some ((bif true then (decide (8 < deep) || decide (left - 1 < 0)) == false else false), Value.pointer (some ⟨b, 0, none⟩)) = _; rw [decide_eq_false h8, decide_eq_false h0]; rfl) (by first | exact Sub.nil _ | (repeat (first | exact Sub.nil _ | refine Sub.cons (by first | rfl | (simp [look]; done)) ?_))))) (fun _ h => h.perm (List.Perm.swap _ _ _)) ?_
      rcases pre1 (d := 60) (s := s) with ⟨hp, r1, rfl⟩ | ⟨hp, hno⟩
      · refine wl_callL rfl Tryd.call57 rfl rfl rfl rfl (fun w hw => take_yes (x := [60]) (r := r1) rfl hw) ?_
        have hrl := rs_length isSp r1
        simp only [List.length_cons] at hs
        repeat' (first | (first | refine wc_seq ?_ | refine wc_region ?_ | refine wl_nil ?_ | refine wn_seq ?_ | refine wn_blk ?_ | refine wc_skip ?_ | refine wc_scope ?_ | refine wc_label ?_ | refine wn_noGoto ?_ | refine wc_block ?_ | refine wc_exit rfl ?_ | (show WL _ _ (_ :: _) _ _ _ _; first | refine yl_v rfl rfl rfl ?_ | refine wl_v rfl rfl rfl (by first  | fail) ?_ | refine xl_alloc (fun _ => ?_) | refine xl_box rfl (fun _ => ?_) | refine xl_store rfl rfl ?_ | refine xl_buildSlice rfl (fun _ => ?_) | refine wl_makeMap rfl rfl (fun _ => ?_) | refine wl_insert rfl rfl rfl rfl rfl rfl (by first | exact rfl | exact trivial) (by first | exact Upd.here | exact Upd.there Upd.here | exact Upd.there (Upd.there Upd.here) | exact Upd.there (Upd.there (Upd.there Upd.here)) | exact Upd.there (Upd.there (Upd.there (Upd.there Upd.here))) | exact Upd.app _ (Upd.here) | exact Upd.app _ (Upd.there Upd.here) | exact Upd.app _ (Upd.there (Upd.there Upd.here)) | exact Upd.app _ (Upd.there (Upd.there (Upd.there Upd.here))) | exact Upd.there (Upd.app _ (Upd.here)) | exact Upd.there (Upd.app _ (Upd.there Upd.here)) | exact Upd.there (Upd.app _ (Upd.there (Upd.there Upd.here))) | exact Upd.there (Upd.app _ (Upd.there (Upd.there (Upd.there Upd.here)))) | exact Upd.there (Upd.there (Upd.app _ (Upd.here))) | exact Upd.there (Upd.there (Upd.app _ (Upd.there Upd.here))) | exact Upd.there (Upd.there (Upd.app _ (Upd.there (Upd.there Upd.here))))) (by rfl) ?_) | refine wc_ret rfl ?_) | (show WC _ (Code.cond _ _ _) _ _ _ _; (refine wc_cond rfl (fun hc => ?_) (fun hc => ?_) <;> (try (simp only [decide_eq_true_eq, decide_eq_false_iff_not, Bool.and_eq_true, Bool.or_eq_true, Bool.and_eq_false_iff, Bool.or_eq_false_iff, Bool.not_eq_true', Bool.not_eq_false', Int.not_lt, Int.not_le] at hc)) <;> (try (exfalso; first | omega | contradiction)))))
        refine wl_callL rfl Tryd.call58 rfl rfl rfl rfl (fun w hw => word_ok (s := r1) isSp sp_at (by omega) (by decide) (by decide) (by decide) hw) ?_
        repeat' (first | (first | refine wc_seq ?_ | refine wc_region ?_ | refine wl_nil ?_ | refine wn_seq ?_ | refine wn_blk ?_ | refine wc_skip ?_ | refine wc_scope ?_ | refine wc_label ?_ | refine wn_noGoto ?_ | refine wc_block ?_ | refine wc_exit rfl ?_ | (show WL _ _ (_ :: _) _ _ _ _; first | refine yl_v rfl rfl rfl ?_ | refine wl_v rfl rfl rfl (by first  | fail) ?_ | refine xl_alloc (fun _ => ?_) | refine xl_box rfl (fun _ => ?_) | refine xl_store rfl rfl ?_ | refine xl_buildSlice rfl (fun _ => ?_) | refine wl_makeMap rfl rfl (fun _ => ?_) | refine wl_insert rfl rfl rfl rfl rfl rfl (by first | exact rfl | exact trivial) (by first | exact Upd.here | exact Upd.there Upd.here | exact Upd.there (Upd.there Upd.here) | exact Upd.there (Upd.there (Upd.there Upd.here)) | exact Upd.there (Upd.there (Upd.there (Upd.there Upd.here))) | exact Upd.app _ (Upd.here) | exact Upd.app _ (Upd.there Upd.here) | exact Upd.app _ (Upd.there (Upd.there Upd.here)) | exact Upd.app _ (Upd.there (Upd.there (Upd.there Upd.here))) | exact Upd.there (Upd.app _ (Upd.here)) | exact Upd.there (Upd.app _ (Upd.there Upd.here)) | exact Upd.there (Upd.app _ (Upd.there (Upd.there Upd.here))) | exact Upd.there (Upd.app _ (Upd.there (Upd.there (Upd.there Upd.here)))) | exact Upd.there (Upd.there (Upd.app _ (Upd.here))) | exact Upd.there (Upd.there (Upd.app _ (Upd.there Upd.here))) | exact Upd.there (Upd.there (Upd.app _ (Upd.there (Upd.there Upd.here))))) (by rfl) ?_) | refine wc_ret rfl ?_) | (show WC _ (Code.cond _ _ _) _ _ _ _; (refine wc_cond rfl (fun hc => ?_) (fun hc => ?_) <;> (try (simp only [decide_eq_true_eq, decide_eq_false_iff_not, Bool.and_eq_true, Bool.or_eq_true, Bool.and_eq_false_iff, Bool.or_eq_false_iff, Bool.not_eq_true', Bool.not_eq_false', Int.not_lt, Int.not_le] at hc)) <;> (try (exfalso; first | omega | contradiction)))))
        rename_i b6
        have hel : elemP (D + 1) (60 :: r1) = match headP (rs isSp r1) with
          | none => none
          | some (a, t, r4) => match kidsP (elemP D) (r4.length + 1) r4 with
            | none => none
            | some (k, r5) => if (closeT (wd isSp r1)).isPrefixOf r5 = true then some (.mk (wd isSp r1) a t k, r5.drop (closeT (wd isSp r1)).length) else none := rfl
        generalize wd isSp r1 = nm at *
        generalize rs isSp r1 = r2 at *
        refine wl_weak (C' := St w0 [] ((b, readO r2 (left - 1)) :: (b6, .cells [str nm, .slice none 0 0, str [], .slice none 0 0].toArray 35 (0, 0)) :: (b4, .cells [str [], .slice none 0 0, str [], .slice none 0 0].toArray 35 (0, 0)) :: H) M) (Eng.Sub.refl _) (fun _ h => h.perm (List.Perm.swap _ _ _)) ?_
        refine wl_callX rfl Tryd.call59 rfl rfl rfl rfl (fun w hw => rattrs_ok hG (by omega) hw) (fun v M1 s1 left1 hm1 hn1 hR => ?_)
        unfold AttrsIs at hR
        cases hat : attrsP (r2.length + 1) r2 with
        | none =>
          rw [hat] at hR
          simp only at hR
          subst hR
          have hn : elemX (D + 1) (60 :: r1) left = none := by
            unfold elemX; rw [hel]; unfold headP; rw [hat]
          repeat' (first | (first | refine wc_seq ?_ | refine wc_region ?_ | refine wl_nil ?_ | refine wn_seq ?_ | refine wn_blk ?_ | refine wc_skip ?_ | refine wc_scope ?_ | refine wc_label ?_ | refine wn_noGoto ?_ | refine wc_block ?_ | refine wc_exit rfl ?_ | (show WL _ _ (_ :: _) _ _ _ _; first | refine yl_v rfl rfl rfl ?_ | refine wl_v rfl rfl rfl (by first | (show OpV _ _ _ _ (Oper.mk _ (Op.call _) _ _ _ _) _ _; exact ov_off (v := .bool false) rfl) | fail) ?_ | refine xl_alloc (fun _ => ?_) | refine xl_box rfl (fun _ => ?_) | refine xl_store rfl rfl ?_ | refine xl_buildSlice rfl (fun _ => ?_) | refine wl_makeMap rfl rfl (fun _ => ?_) | refine wl_insert rfl rfl rfl rfl rfl rfl (by first | exact rfl | exact trivial) (by first | exact Upd.here | exact Upd.there Upd.here | exact Upd.there (Upd.there Upd.here) | exact Upd.there (Upd.there (Upd.there Upd.here)) | exact Upd.there (Upd.there (Upd.there (Upd.there Upd.here))) | exact Upd.app _ (Upd.here) | exact Upd.app _ (Upd.there Upd.here) | exact Upd.app _ (Upd.there (Upd.there Upd.here)) | exact Upd.app _ (Upd.there (Upd.there (Upd.there Upd.here))) | exact Upd.there (Upd.app _ (Upd.here)) | exact Upd.there (Upd.app _ (Upd.there Upd.here)) | exact Upd.there (Upd.app _ (Upd.there (Upd.there Upd.here))) | exact Upd.there (Upd.app _ (Upd.there (Upd.there (Upd.there Upd.here)))) | exact Upd.there (Upd.there (Upd.app _ (Upd.here))) | exact Upd.there (Upd.there (Upd.app _ (Upd.there Upd.here))) | exact Upd.there (Upd.there (Upd.app _ (Upd.there (Upd.there Upd.here))))) (by rfl) ?_) | refine wc_ret rfl ?_) | (show WC _ (Code.cond _ _ _) _ _ _ _; (refine wc_cond rfl (fun hc => ?_) (fun hc => ?_) <;> (try (simp only [decide_eq_true_eq, decide_eq_false_iff_not, Bool.and_eq_true, Bool.or_eq_true, Bool.and_eq_false_iff, Bool.or_eq_false_iff, Bool.not_eq_true', Bool.not_eq_false', Int.not_lt, Int.not_le] at hc)) <;> (try (exfalso; first | omega | contradiction)))))
          exact wrx_layC2 (Hn := []) (l := [str [], .slice none 0 0, str [], .slice none 0 0]) rfl rfl rfl rfl (by first | exact List.Mem.head _ | exact List.Mem.tail _ (List.Mem.head _) | exact List.Mem.tail _ (List.Mem.tail _ (List.Mem.head _)) | exact List.Mem.tail _ (List.Mem.tail _ (List.Mem.tail _ (List.Mem.head _))) | exact List.Mem.tail _ (List.Mem.tail _ (List.Mem.tail _ (List.Mem.tail _ (List.Mem.head _)))) | exact List.mem_append_right _ (List.Mem.head _) | exact List.mem_append_right _ (List.Mem.tail _ (List.Mem.head _)) | exact List.mem_append_right _ (List.Mem.tail _ (List.Mem.tail _ (List.Mem.head _))) | exact List.mem_append_right _ (List.Mem.tail _ (List.Mem.tail _ (List.Mem.tail _ (List.Mem.head _)))) | exact List.Mem.tail _ (List.mem_append_right _ (List.Mem.head _)) | exact List.Mem.tail _ (List.mem_append_right _ (List.Mem.tail _ (List.Mem.head _))) | exact List.Mem.tail _ (List.mem_append_right _ (List.Mem.tail _ (List.Mem.tail _ (List.Mem.head _)))) | exact List.Mem.tail _ (List.mem_append_right _ (List.Mem.tail _ (List.Mem.tail _ (List.Mem.tail _ (List.Mem.head _))))) | exact List.Mem.tail _ (List.Mem.tail _ (List.mem_append_right _ (List.Mem.head _))) | exact List.Mem.tail _ (List.Mem.tail _ (List.mem_append_right _ (List.Mem.tail _ (List.Mem.head _)))) | exact List.Mem.tail _ (List.Mem.tail _ (List.mem_append_right _ (List.Mem.tail _ (List.Mem.tail _ (List.Mem.head _)))))) rfl (Since.refl.step hm1 hn1) (List.Sublist.cons_cons _ (List.Sublist.cons _ (List.Sublist.cons _ (List.Sublist.refl _)))) (elemIs_no hn)
        | some lr =>
          obtain ⟨l, r3⟩ := lr
          rw [hat] at hR
          simp only at hR
          obtain ⟨hv, rfl, hsl, e1, e2⟩ := hR
          subst e1 e2
          have hal := attrsP_len hat
          have hs2 : r2.length ≤ 100000000 := by omega
          have hsl' := hsl
          obtain ⟨va, vcap, vb, vo, vcs, vT, vfz, rfl, _⟩ := hsl'.open
          have hM1 : Since w0 M M1 := Since.refl.step hm1 hn1
          have hG1 : Glob M1 := hG.mono hm1
          have failH : headP r2 = none → elemX (D + 1) (60 :: r1) left = none := fun h => by unfold elemX; rw [hel, h]
          have hsub : ∀ {x y z : Nat × Obj}, List.Sublist (([] : List (Nat × Obj)) ++ (x :: H)) (x :: y :: z :: H) := List.Sublist.cons_cons _ (List.Sublist.cons _ (List.Sublist.cons _ (List.Sublist.refl _)))
          repeat' (first | (first | refine wc_seq ?_ | refine wc_region ?_ | refine wl_nil ?_ | refine wn_seq ?_ | refine wn_blk ?_ | refine wc_skip ?_ | refine wc_scope ?_ | refine wc_label ?_ | refine wn_noGoto ?_ | refine wc_block ?_ | refine wc_exit rfl ?_ | (show WL _ _ (_ :: _) _ _ _ _; first | refine yl_v rfl rfl rfl ?_ | refine wl_v rfl rfl rfl (by first  | fail) ?_ | refine xl_alloc (fun _ => ?_) | refine xl_box rfl (fun _ => ?_) | refine xl_store rfl rfl ?_ | refine xl_buildSlice rfl (fun _ => ?_) | refine wl_makeMap rfl rfl (fun _ => ?_) | refine wl_insert rfl rfl rfl rfl rfl rfl (by first | exact rfl | exact trivial) (by first | exact Upd.here | exact Upd.there Upd.here | exact Upd.there (Upd.there Upd.here) | exact Upd.there (Upd.there (Upd.there Upd.here)) | exact Upd.there (Upd.there (Upd.there (Upd.there Upd.here))) | exact Upd.app _ (Upd.here) | exact Upd.app _ (Upd.there Upd.here) | exact Upd.app _ (Upd.there (Upd.there Upd.here)) | exact Upd.app _ (Upd.there (Upd.there (Upd.there Upd.here))) | exact Upd.there (Upd.app _ (Upd.here)) | exact Upd.there (Upd.app _ (Upd.there Upd.here)) | exact Upd.there (Upd.app _ (Upd.there (Upd.there Upd.here))) | exact Upd.there (Upd.app _ (Upd.there (Upd.there (Upd.there Upd.here)))) | exact Upd.there (Upd.there (Upd.app _ (Upd.here))) | exact Upd.there (Upd.there (Upd.app _ (Upd.there Upd.here))) | exact Upd.there (Upd.there (Upd.app _ (Upd.there (Upd.there Upd.here))))) (by rfl) ?_) | refine wc_ret rfl ?_) | (show WC _ (Code.cond _ _ _) _ _ _ _; (refine wc_cond rfl (fun hc => ?_) (fun hc => ?_) <;> (try (simp only [decide_eq_true_eq, decide_eq_false_iff_not, Bool.and_eq_true, Bool.or_eq_true, Bool.and_eq_false_iff, Bool.or_eq_false_iff, Bool.not_eq_true', Bool.not_eq_false', Int.not_lt, Int.not_le] at hc)) <;> (try (exfalso; first | omega | contradiction)))))
          rcases pre1 (d := 62) (s := s1) with ⟨hp3, r3, rfl⟩ | ⟨hp3, hno3⟩
          · refine wl_callL rfl Tryd.call57 rfl rfl rfl rfl (fun w hw => take_yes (x := [62]) (r := r3) rfl hw) ?_
            have hr3 := rs_length (isC 60) r3
            simp only [List.length_cons] at hal
            repeat' (first | (first | refine wc_seq ?_ | refine wc_region ?_ | refine wl_nil ?_ | refine wn_seq ?_ | refine wn_blk ?_ | refine wc_skip ?_ | refine wc_scope ?_ | refine wc_label ?_ | refine wn_noGoto ?_ | refine wc_block ?_ | refine wc_exit rfl ?_ | (show WL _ _ (_ :: _) _ _ _ _; first | refine yl_v rfl rfl rfl ?_ | refine wl_v rfl rfl rfl (by first  | fail) ?_ | refine xl_alloc (fun _ => ?_) | refine xl_box rfl (fun _ => ?_) | refine xl_store rfl rfl ?_ | refine xl_buildSlice rfl (fun _ => ?_) | refine wl_makeMap rfl rfl (fun _ => ?_) | refine wl_insert rfl rfl rfl rfl rfl rfl (by first | exact rfl | exact trivial) (by first | exact Upd.here | exact Upd.there Upd.here | exact Upd.there (Upd.there Upd.here) | exact Upd.there (Upd.there (Upd.there Upd.here)) | exact Upd.there (Upd.there (Upd.there (Upd.there Upd.here))) | exact Upd.app _ (Upd.here) | exact Upd.app _ (Upd.there Upd.here) | exact Upd.app _ (Upd.there (Upd.there Upd.here)) | exact Upd.app _ (Upd.there (Upd.there (Upd.there Upd.here))) | exact Upd.there (Upd.app _ (Upd.here)) | exact Upd.there (Upd.app _ (Upd.there Upd.here)) | exact Upd.there (Upd.app _ (Upd.there (Upd.there Upd.here))) | exact Upd.there (Upd.app _ (Upd.there (Upd.there (Upd.there Upd.here)))) | exact Upd.there (Upd.there (Upd.app _ (Upd.here))) | exact Upd.there (Upd.there (Upd.app _ (Upd.there Upd.here))) | exact Upd.there (Upd.there (Upd.app _ (Upd.there (Upd.there Upd.here))))) (by rfl) ?_) | refine wc_ret rfl ?_) | (show WC _ (Code.cond _ _ _) _ _ _ _; (refine wc_cond rfl (fun hc => ?_) (fun hc => ?_) <;> (try (simp only [decide_eq_true_eq, decide_eq_false_iff_not, Bool.and_eq_true, Bool.or_eq_true, Bool.and_eq_false_iff, Bool.or_eq_false_iff, Bool.not_eq_true', Bool.not_eq_false', Int.not_lt, Int.not_le] at hc)) <;> (try (exfalso; first | omega | contradiction)))))
            refine wl_callL rfl Tryd.call58 rfl rfl rfl rfl (fun w hw => word_ok (s := r3) (isC 60) (isC_at 60) (by omega) (by decide) (by decide) (by decide) hw) ?_
            have hun := fun {w : World} (hw : Laid M1 w) => unescape_ok hG1 hw (wd (isC 60) r3) (by omega)
            cases hu : unescQ (wd (isC 60) r3) with
            | none =>
              have hn := failH (by unfold headP; rw [hat]; simp only [hu])
              have hun : ∀ {w : World}, Laid M1 w → Calls Tryd.prog 60 #[str (wd (isC 60) r3)] w (RetE w (.tuple #[str [], i64 10])) := fun h => by have := hun h; rw [hu] at this; exact this
              repeat' (first | (first | refine wc_seq ?_ | refine wc_region ?_ | refine wl_nil ?_ | refine wn_seq ?_ | refine wn_blk ?_ | refine wc_skip ?_ | refine wc_scope ?_ | refine wc_label ?_ | refine wn_noGoto ?_ | refine wc_block ?_ | refine wc_exit rfl ?_ | (show WL _ _ (_ :: _) _ _ _ _; first | refine yl_v rfl rfl rfl ?_ | refine wl_v rfl rfl rfl (by first | ((show OpV _ _ _ _ (Oper.mk _ (Op.call ⟨.value (.func 60), _, _⟩) _ _ _ _) _ _; exact ov_call Tryd.call60 rfl (by intro himp; first | rfl | (simp_all; done)) (by rfl) (fun _ _ h k => h.ext k) (fun hcg w hw => hun hw.laid))) | fail) ?_ | refine xl_alloc (fun _ => ?_) | refine xl_box rfl (fun _ => ?_) | refine xl_store rfl rfl ?_ | refine xl_buildSlice rfl (fun _ => ?_) | refine wl_makeMap rfl rfl (fun _ => ?_) | refine wl_insert rfl rfl rfl rfl rfl rfl (by first | exact rfl | exact trivial) (by first | exact Upd.here | exact Upd.there Upd.here | exact Upd.there (Upd.there Upd.here) | exact Upd.there (Upd.there (Upd.there Upd.here)) | exact Upd.there (Upd.there (Upd.there (Upd.there Upd.here))) | exact Upd.app _ (Upd.here) | exact Upd.app _ (Upd.there Upd.here) | exact Upd.app _ (Upd.there (Upd.there Upd.here)) | exact Upd.app _ (Upd.there (Upd.there (Upd.there Upd.here))) | exact Upd.there (Upd.app _ (Upd.here)) | exact Upd.there (Upd.app _ (Upd.there Upd.here)) | exact Upd.there (Upd.app _ (Upd.there (Upd.there Upd.here))) | exact Upd.there (Upd.app _ (Upd.there (Upd.there (Upd.there Upd.here)))) | exact Upd.there (Upd.there (Upd.app _ (Upd.here))) | exact Upd.there (Upd.there (Upd.app _ (Upd.there Upd.here))) | exact Upd.there (Upd.there (Upd.app _ (Upd.there (Upd.there Upd.here))))) (by rfl) ?_) | refine wc_ret rfl ?_) | (show WC _ (Code.cond _ _ _) _ _ _ _; (refine wc_cond rfl (fun hc => ?_) (fun hc => ?_) <;> (try (simp only [decide_eq_true_eq, decide_eq_false_iff_not, Bool.and_eq_true, Bool.or_eq_true, Bool.and_eq_false_iff, Bool.or_eq_false_iff, Bool.not_eq_true', Bool.not_eq_false', Int.not_lt, Int.not_le] at hc)) <;> (try (exfalso; first | omega | contradiction)))))
              exact wrx_layC2 (Hn := []) (l := [str [], .slice none 0 0, str [], .slice none 0 0]) rfl rfl rfl rfl (by first | exact List.Mem.head _ | exact List.Mem.tail _ (List.Mem.head _) | exact List.Mem.tail _ (List.Mem.tail _ (List.Mem.head _)) | exact List.Mem.tail _ (List.Mem.tail _ (List.Mem.tail _ (List.Mem.head _))) | exact List.Mem.tail _ (List.Mem.tail _ (List.Mem.tail _ (List.Mem.tail _ (List.Mem.head _)))) | exact List.mem_append_right _ (List.Mem.head _) | exact List.mem_append_right _ (List.Mem.tail _ (List.Mem.head _)) | exact List.mem_append_right _ (List.Mem.tail _ (List.Mem.tail _ (List.Mem.head _))) | exact List.mem_append_right _ (List.Mem.tail _ (List.Mem.tail _ (List.Mem.tail _ (List.Mem.head _)))) | exact List.Mem.tail _ (List.mem_append_right _ (List.Mem.head _)) | exact List.Mem.tail _ (List.mem_append_right _ (List.Mem.tail _ (List.Mem.head _))) | exact List.Mem.tail _ (List.mem_append_right _ (List.Mem.tail _ (List.Mem.tail _ (List.Mem.head _)))) | exact List.Mem.tail _ (List.mem_append_right _ (List.Mem.tail _ (List.Mem.tail _ (List.Mem.tail _ (List.Mem.head _))))) | exact List.Mem.tail _ (List.Mem.tail _ (List.mem_append_right _ (List.Mem.head _))) | exact List.Mem.tail _ (List.Mem.tail _ (List.mem_append_right _ (List.Mem.tail _ (List.Mem.head _)))) | exact List.Mem.tail _ (List.Mem.tail _ (List.mem_append_right _ (List.Mem.tail _ (List.Mem.tail _ (List.Mem.head _)))))) rfl hM1 hsub (elemIs_no hn)
            | some tx =>
              have hun : ∀ {w : World}, Laid M1 w → Calls Tryd.prog 60 #[str (wd (isC 60) r3)] w (RetE w (.tuple #[str tx, i64 0])) := fun h => by have := hun h; rw [hu] at this; exact this
              have htx := unescQ_len hu
              have hhd : headP r2 = some (l, tx, rs (isC 60) r3) := by unfold headP; rw [hat]; simp only [hu]
              rw [hhd] at hel
              simp only at hel
              repeat' (first | (first | refine wc_seq ?_ | refine wc_region ?_ | refine wl_nil ?_ | refine wn_seq ?_ | refine wn_blk ?_ | refine wc_skip ?_ | refine wc_scope ?_ | refine wc_label ?_ | refine wn_noGoto ?_ | refine wc_block ?_ | refine wc_exit rfl ?_ | (show WL _ _ (_ :: _) _ _ _ _; first | refine yl_v rfl rfl rfl ?_ | refine wl_v rfl rfl rfl (by first | ((show OpV _ _ _ _ (Oper.mk _ (Op.call ⟨.value (.func 60), _, _⟩) _ _ _ _) _ _; exact ov_call Tryd.call60 rfl (by intro himp; first | rfl | (simp_all; done)) (by rfl) (fun _ _ h k => h.ext k) (fun hcg w hw => hun hw.laid))) | fail) ?_ | refine xl_alloc (fun _ => ?_) | refine xl_box rfl (fun _ => ?_) | refine xl_store rfl rfl ?_ | refine xl_buildSlice rfl (fun _ => ?_) | refine wl_makeMap rfl rfl (fun _ => ?_) | refine wl_insert rfl rfl rfl rfl rfl rfl (by first | exact rfl | exact trivial) (by first | exact Upd.here | exact Upd.there Upd.here | exact Upd.there (Upd.there Upd.here) | exact Upd.there (Upd.there (Upd.there Upd.here)) | exact Upd.there (Upd.there (Upd.there (Upd.there Upd.here))) | exact Upd.app _ (Upd.here) | exact Upd.app _ (Upd.there Upd.here) | exact Upd.app _ (Upd.there (Upd.there Upd.here)) | exact Upd.app _ (Upd.there (Upd.there (Upd.there Upd.here))) | exact Upd.there (Upd.app _ (Upd.here)) | exact Upd.there (Upd.app _ (Upd.there Upd.here)) | exact Upd.there (Upd.app _ (Upd.there (Upd.there Upd.here))) | exact Upd.there (Upd.app _ (Upd.there (Upd.there (Upd.there Upd.here)))) | exact Upd.there (Upd.there (Upd.app _ (Upd.here))) | exact Upd.there (Upd.there (Upd.app _ (Upd.there Upd.here))) | exact Upd.there (Upd.there (Upd.app _ (Upd.there (Upd.there Upd.here))))) (by rfl) ?_) | refine wc_ret rfl ?_) | (show WC _ (Code.cond _ _ _) _ _ _ _; (refine wc_cond rfl (fun hc => ?_) (fun hc => ?_) <;> (try (simp only [decide_eq_true_eq, decide_eq_false_iff_not, Bool.and_eq_true, Bool.or_eq_true, Bool.and_eq_false_iff, Bool.or_eq_false_iff, Bool.not_eq_true', Bool.not_eq_false', Int.not_lt, Int.not_le] at hc)) <;> (try (exfalso; first | omega | contradiction)))))
              have hs0l : (rs (isC 60) r3).length ≤ 100000000 := by omega
              generalize rs (isC 60) r3 = s0 at *
              refine wc_loop (α := KQ D M1 s0 (left - 1) w0) (fun x => [(0, true, .pointer (some ⟨b, 0, none⟩)), (1, true, i64 deep), (4, true, .pointer (some ⟨b4, 0, none⟩)), (6, true, .pointer (some ⟨b6, 0, none⟩))]) (fun x => St w0 [] ((b, .cells [str x.cur, i64 (left - 1 - (cntL x.acc : Int))].toArray 84 (0, 0)) :: (b6, .cells [str nm, .slice va l.length vcap, str tx, x.v].toArray 35 (0, 0)) :: (b4, .cells [str [], .slice none 0 0, str [], .slice none 0 0].toArray 35 (0, 0)) :: (x.Hs ++ H)) x.M') (fun x => x.f) ⟨s0.length + 1, s0, [], .slice none 0 0, [], [], M1, by omega, by simp, by simp, OwnS.nil, rfl, fun i hi => absurd hi (by simp), by simp [cntL]; omega, Since.refl⟩ (by first | exact Sub.nil _ | (repeat (first | exact Sub.nil _ | refine Sub.cons (by first | rfl | (simp [look]; done)) ?_))) (fun _ h => by
                show St w0 [] ((b, .cells [str s0, i64 (left - 1 - ((cntL [] : Nat) : Int))].toArray 84 (0, 0)) :: _) M1 _
                rw [show left - 1 - ((cntL [] : Nat) : Int) = left - 1 by simp [cntL]]
                exact h) ?_
              rintro ⟨f, cur, acc, v, Hs, xs, M2, fuel, len, inv, own, xlen, nodes, hleft, since⟩
              dsimp only
              obtain ⟨va2, vcap2, rfl⟩ := own.slice (k := acc.length) (by decide) xlen
              have hpx := fun {w : World} (hw : Laid M2 w) => prefix_ok hw cur [60, 47]
              match f, fuel, inv with
              | 0, fuel, _ => exfalso; omega
              | f + 1, fuel, inv =>
              rcases pre2 (d := 60) (e := 47) (s := cur) with ⟨hp, rr, hcur⟩ | ⟨hp, hno⟩
              · rw [hp] at hpx
                have hk : kidsP (elemP D) (s0.length + 1) s0 = some (acc, cur) := by
                  rw [inv, kidsP, if_pos (by unfold Lib.hasPrefix at hp; exact hp)]; simp
                rw [hk] at hel
                simp only at hel
                repeat' (first | (first | refine wc_seq ?_ | refine wc_region ?_ | refine wl_nil ?_ | refine wn_seq ?_ | refine wn_blk ?_ | refine wc_skip ?_ | refine wc_scope ?_ | refine wc_label ?_ | refine wn_noGoto ?_ | refine wc_block ?_ | refine wc_exit rfl ?_ | (show WL _ _ (_ :: _) _ _ _ _; first | refine yl_v rfl rfl rfl ?_ | refine wl_v rfl rfl rfl (by first | ((show OpV _ _ _ _ (Oper.mk _ (Op.call ⟨.value (.func 61), _, _⟩) _ _ _ _) _ _; exact ov_call Tryd.call61 rfl (by intro himp; first | rfl | (simp_all; done)) (by rfl) (fun _ _ h k => h.ext k) (fun hcg w hw => hpx hw.laid))) | fail) ?_ | refine xl_alloc (fun _ => ?_) | refine xl_box rfl (fun _ => ?_) | refine xl_store rfl rfl ?_ | refine xl_buildSlice rfl (fun _ => ?_) | refine wl_makeMap rfl rfl (fun _ => ?_) | refine wl_insert rfl rfl rfl rfl rfl rfl (by first | exact rfl | exact trivial) (by first | exact Upd.here | exact Upd.there Upd.here | exact Upd.there (Upd.there Upd.here) | exact Upd.there (Upd.there (Upd.there Upd.here)) | exact Upd.there (Upd.there (Upd.there (Upd.there Upd.here))) | exact Upd.app _ (Upd.here) | exact Upd.app _ (Upd.there Upd.here) | exact Upd.app _ (Upd.there (Upd.there Upd.here)) | exact Upd.app _ (Upd.there (Upd.there (Upd.there Upd.here))) | exact Upd.there (Upd.app _ (Upd.here)) | exact Upd.there (Upd.app _ (Upd.there Upd.here)) | exact Upd.there (Upd.app _ (Upd.there (Upd.there Upd.here))) | exact Upd.there (Upd.app _ (Upd.there (Upd.there (Upd.there Upd.here)))) | exact Upd.there (Upd.there (Upd.app _ (Upd.here))) | exact Upd.there (Upd.there (Upd.app _ (Upd.there Upd.here))) | exact Upd.there (Upd.there (Upd.app _ (Upd.there (Upd.there Upd.here))))) (by rfl) ?_) | refine wc_ret rfl ?_) | (show WC _ (Code.cond _ _ _) _ _ _ _; (refine wc_cond rfl (fun hc => ?_) (fun hc => ?_) <;> (try (simp only [decide_eq_true_eq, decide_eq_false_iff_not, Bool.and_eq_true, Bool.or_eq_true, Bool.and_eq_false_iff, Bool.or_eq_false_iff, Bool.not_eq_true', Bool.not_eq_false', Int.not_lt, Int.not_le] at hc)) <;> (try (exfalso; first | omega | contradiction)))))
                have htk := fun {w : World} {H : List (Nat × Obj)} (hw : St w0 [] ((b, readO cur (left - 1 - (cntL acc : Int))) :: H) M2 w) => take_ok (x := [60, 47] ++ nm ++ [62]) hw
                have helX : elemX (D + 1) (60 :: r1) left = if Lib.hasPrefix cur ([60, 47] ++ nm ++ [62]) = true then some (.mk nm l tx acc, cutP cur ([60, 47] ++ nm ++ [62]), left - 1 - (cntL acc : Int)) else none := by
                  unfold elemX
                  rw [hel]
                  show (match (if Lib.hasPrefix cur (closeT nm) = true then some (Nd.mk nm l tx acc, cur.drop (closeT nm).length) else none) with | some (x, r) => if (cntN x : Int) ≤ left then some (x, r, left - cntN x) else none | none => none) = _
                  by_cases hcl : Lib.hasPrefix cur (closeT nm) = true
                  · have hcl' : Lib.hasPrefix cur ([60, 47] ++ nm ++ [62]) = true := hcl
                    unfold cutP
                    rw [if_pos hcl, if_pos hcl', if_pos hcl']
                    show (if (cntN (Nd.mk nm l tx acc) : Int) ≤ left then some (Nd.mk nm l tx acc, cur.drop (closeT nm).length, left - (cntN (Nd.mk nm l tx acc) : Int)) else none) = _
                    have hc1 : cntN (Nd.mk nm l tx acc) = 1 + cntL acc := by rw [cntN]
                    rw [if_pos (by rw [hc1]; omega), hc1]
                    have : left - ((1 + cntL acc : Nat) : Int) = left - 1 - (cntL acc : Int) := by omega
                    rw [this]; rfl
                  · have hcl' : ¬ Lib.hasPrefix cur ([60, 47] ++ nm ++ [62]) = true := hcl
                    rw [if_neg hcl, if_neg hcl']
                generalize cutP cur ([60, 47] ++ nm ++ [62]) = cur' at *
                generalize Lib.hasPrefix cur ([60, 47] ++ nm ++ [62]) = q at *
                refine wc_drawP 6 (St w0 [] ((b, readO cur (left - 1 - (cntL acc : Int))) :: (b6, .cells [str nm, .slice va l.length vcap, str tx, .slice va2 acc.length vcap2].toArray 35 (0, 0)) :: (b4, .cells [str [], .slice none 0 0, str [], .slice none 0 0].toArray 35 (0, 0)) :: (Hs ++ H)) M2) (St w0 [] ((b, readO cur' (left - 1 - (cntL acc : Int))) :: (b6, .cells [str nm, .slice va l.length vcap, str tx, .slice va2 acc.length vcap2].toArray 35 (0, 0)) :: (b4, .cells [str [], .slice none 0 0, str [], .slice none 0 0].toArray 35 (0, 0)) :: (Hs ++ H)) M2) (by kernel_rfl) rfl (by kernel_rfl) (fun w' h => h.ext (Ext.drew w' 1)) ?_
                iterate 6 refine wpv_v (fun _ _ h hx => h.ext hx) (fun _ _ h hx => h.ext hx) rfl rfl rfl rfl rfl (by first | (show OpV _ _ _ _ (Oper.mk _ (Op.move _) _ _ _ _) _ _; exact xo_move rfl) | (show OpV _ _ _ _ (Oper.mk _ (Op.assign _) _ _ _ _) _ _; exact xo_assign rfl) | (show OpV _ _ _ _ (Oper.mk _ (Op.pick _ _ _) _ _ _ _) _ _; first | exact xo_and rfl rfl | exact xo_or rfl rfl) | (show OpV _ _ _ _ (Oper.mk _ (Op.extract _ _) _ _ _ _) _ _; exact xo_extract rfl) | (show OpV _ _ _ _ (Oper.mk _ (Op.call ⟨.builtin .len, _, _⟩) _ _ _ _) _ _; first | exact xo_slen rfl | exact xo_len rfl) | (show OpV _ _ _ _ (Oper.mk _ (Op.unOp _ _ _) _ _ _ _) _ _; exact xo_not rfl) | (show OpV _ _ _ _ (Oper.mk _ (Op.binOp BinOp.eql _ _ _ _) _ _ _ _) _ _; first | exact xo_eql rfl rfl | exact xo_seql rfl rfl | exact xo_beql rfl rfl | exact xo_aeql rfl rfl) | (show OpV _ _ _ _ (Oper.mk _ (Op.binOp BinOp.neq _ _ _ _) _ _ _ _) _ _; first | exact xo_neq rfl rfl | exact xo_sneq rfl rfl | exact xo_bneq rfl rfl | exact xo_aneq rfl rfl) | (show OpV _ _ _ _ (Oper.mk _ (Op.binOp BinOp.lss _ _ _ _) _ _ _ _) _ _; exact xo_lss rfl rfl) | (show OpV _ _ _ _ (Oper.mk _ (Op.binOp BinOp.leq _ _ _ _) _ _ _ _) _ _; exact xo_leq rfl rfl) | (show OpV _ _ _ _ (Oper.mk _ (Op.binOp BinOp.gtr _ _ _ _) _ _ _ _) _ _; exact xo_gtr rfl rfl) | (show OpV _ _ _ _ (Oper.mk _ (Op.binOp BinOp.geq _ _ _ _) _ _ _ _) _ _; exact xo_geq rfl rfl) | (show OpV _ _ _ _ (Oper.mk _ (Op.binOp BinOp.add _ _ _ _) _ _ _ _) _ _; first | exact xo_add rfl rfl | exact ov_sadd rfl rfl (by first | with_reducible exact fun _ => rfl | with_reducible exact fun h => h | exact fun _ => rfl | exact fun h => h | (intro himp; simp_all; done)) (by first | with_reducible exact fun _ => rfl | with_reducible exact fun h => h | exact fun _ => rfl | exact fun h => h | (intro himp; simp_all; done)) (by intro hcg; first | omega | (simp only [List.length_append, List.length_take, List.length_drop, List.length_cons, List.length_nil, List.length_nil]; omega))) | (show OpV _ _ _ _ (Oper.mk _ (Op.binOp BinOp.sub _ _ _ _) _ _ _ _) _ _; exact xo_sub rfl rfl) | (show OpV _ _ _ _ (Oper.mk _ (Op.binOp BinOp.mul _ _ _ _) _ _ _ _) _ _; exact xo_mul rfl rfl) | (show OpV _ _ _ _ (Oper.mk _ (Op.binOp BinOp.quo _ _ _ _) _ _ _ _) _ _; exact xo_quo rfl rfl) | (show OpV _ _ _ _ (Oper.mk _ (Op.binOp BinOp.rem _ _ _ _) _ _ _ _) _ _; exact xo_rem rfl rfl) | (show OpV _ _ _ _ (Oper.mk _ (Op.index _ _ _) _ _ _ _) _ _; exact xo_sindex rfl rfl) | (show OpV _ _ _ _ (Oper.mk _ (Op.slice _ _ (some _) (some _) none) _ _ _ _) _ _; first | exact xo_slice rfl rfl rfl | exact xo_slcB rfl rfl rfl) | (show OpV _ _ _ _ (Oper.mk _ (Op.slice _ _ (some _) none none) _ _ _ _) _ _; first | exact xo_from rfl rfl | exact xo_slcFrom rfl rfl) | (show OpV _ _ _ _ (Oper.mk _ (Op.slice _ _ none (some _) none) _ _ _ _) _ _; first | exact xo_to rfl rfl | exact xo_slcTo rfl rfl) | (show OpV _ _ _ _ (Oper.mk _ (Op.slice _ _ none (some _) (some _)) _ _ _ _) _ _; exact xo_slc3 rfl rfl rfl) | (show OpV _ _ _ _ (Oper.mk _ (Op.convert _ _ _) _ _ _ _) _ _; first | exact xo_conv rfl | exact xo_convBytes rfl) | (show OpV _ _ _ _ (Oper.mk _ (Op.fieldAddr _ _ _) _ _ _ _) _ _; exact xo_fieldAddr rfl) | (show OpV _ _ _ _ (Oper.mk _ (Op.load _ _) _ _ _ _) _ _; first | exact xo_load1 rfl | exact xo_loadS rfl) | (show OpV _ _ _ _ (Oper.mk _ (Op.field _ _ _) _ _ _ _) _ _; exact xo_field rfl) | (show OpV _ _ _ _ (Oper.mk _ (Op.build _ _) _ _ _ _) _ _; exact xo_build rfl) | (show OpV _ _ _ _ (Oper.mk _ (Op.makeFunc _ _ _) _ _ _ _) _ _; exact ov_makeFunc rfl rfl) | (show OpV _ _ _ _ (Oper.mk _ (Op.nilCheck _) _ _ _ _) _ _; exact xo_nilCheck rfl)) (by first | (show OpV _ _ _ _ (Oper.mk _ (Op.move _) _ _ _ _) _ _; exact xo_move rfl) | (show OpV _ _ _ _ (Oper.mk _ (Op.assign _) _ _ _ _) _ _; exact xo_assign rfl) | (show OpV _ _ _ _ (Oper.mk _ (Op.pick _ _ _) _ _ _ _) _ _; first | exact xo_and rfl rfl | exact xo_or rfl rfl) | (show OpV _ _ _ _ (Oper.mk _ (Op.extract _ _) _ _ _ _) _ _; exact xo_extract rfl) | (show OpV _ _ _ _ (Oper.mk _ (Op.call ⟨.builtin .len, _, _⟩) _ _ _ _) _ _; first | exact xo_slen rfl | exact xo_len rfl) | (show OpV _ _ _ _ (Oper.mk _ (Op.unOp _ _ _) _ _ _ _) _ _; exact xo_not rfl) | (show OpV _ _ _ _ (Oper.mk _ (Op.binOp BinOp.eql _ _ _ _) _ _ _ _) _ _; first | exact xo_eql rfl rfl | exact xo_seql rfl rfl | exact xo_beql rfl rfl | exact xo_aeql rfl rfl) | (show OpV _ _ _ _ (Oper.mk _ (Op.binOp BinOp.neq _ _ _ _) _ _ _ _) _ _; first | exact xo_neq rfl rfl | exact xo_sneq rfl rfl | exact xo_bneq rfl rfl | exact xo_aneq rfl rfl) | (show OpV _ _ _ _ (Oper.mk _ (Op.binOp BinOp.lss _ _ _ _) _ _ _ _) _ _; exact xo_lss rfl rfl) | (show OpV _ _ _ _ (Oper.mk _ (Op.binOp BinOp.leq _ _ _ _) _ _ _ _) _ _; exact xo_leq rfl rfl) | (show OpV _ _ _ _ (Oper.mk _ (Op.binOp BinOp.gtr _ _ _ _) _ _ _ _) _ _; exact xo_gtr rfl rfl) | (show OpV _ _ _ _ (Oper.mk _ (Op.binOp BinOp.geq _ _ _ _) _ _ _ _) _ _; exact xo_geq rfl rfl) | (show OpV _ _ _ _ (Oper.mk _ (Op.binOp BinOp.add _ _ _ _) _ _ _ _) _ _; first | exact xo_add rfl rfl | exact ov_sadd rfl rfl (by first | with_reducible exact fun _ => rfl | with_reducible exact fun h => h | exact fun _ => rfl | exact fun h => h | (intro himp; simp_all; done)) (by first | with_reducible exact fun _ => rfl | with_reducible exact fun h => h | exact fun _ => rfl | exact fun h => h | (intro himp; simp_all; done)) (by intro hcg; first | omega | (simp only [List.length_append, List.length_take, List.length_drop, List.length_cons, List.length_nil, List.length_nil]; omega))) | (show OpV _ _ _ _ (Oper.mk _ (Op.binOp BinOp.sub _ _ _ _) _ _ _ _) _ _; exact xo_sub rfl rfl) | (show OpV _ _ _ _ (Oper.mk _ (Op.binOp BinOp.mul _ _ _ _) _ _ _ _) _ _; exact xo_mul rfl rfl) | (show OpV _ _ _ _ (Oper.mk _ (Op.binOp BinOp.quo _ _ _ _) _ _ _ _) _ _; exact xo_quo rfl rfl) | (show OpV _ _ _ _ (Oper.mk _ (Op.binOp BinOp.rem _ _ _ _) _ _ _ _) _ _; exact xo_rem rfl rfl) | (show OpV _ _ _ _ (Oper.mk _ (Op.index _ _ _) _ _ _ _) _ _; exact xo_sindex rfl rfl) | (show OpV _ _ _ _ (Oper.mk _ (Op.slice _ _ (some _) (some _) none) _ _ _ _) _ _; first | exact xo_slice rfl rfl rfl | exact xo_slcB rfl rfl rfl) | (show OpV _ _ _ _ (Oper.mk _ (Op.slice _ _ (some _) none none) _ _ _ _) _ _; first | exact xo_from rfl rfl | exact xo_slcFrom rfl rfl) | (show OpV _ _ _ _ (Oper.mk _ (Op.slice _ _ none (some _) none) _ _ _ _) _ _; first | exact xo_to rfl rfl | exact xo_slcTo rfl rfl) | (show OpV _ _ _ _ (Oper.mk _ (Op.slice _ _ none (some _) (some _)) _ _ _ _) _ _; exact xo_slc3 rfl rfl rfl) | (show OpV _ _ _ _ (Oper.mk _ (Op.convert _ _ _) _ _ _ _) _ _; first | exact xo_conv rfl | exact xo_convBytes rfl) | (show OpV _ _ _ _ (Oper.mk _ (Op.fieldAddr _ _ _) _ _ _ _) _ _; exact xo_fieldAddr rfl) | (show OpV _ _ _ _ (Oper.mk _ (Op.load _ _) _ _ _ _) _ _; first | exact xo_load1 rfl | exact xo_loadS rfl) | (show OpV _ _ _ _ (Oper.mk _ (Op.field _ _ _) _ _ _ _) _ _; exact xo_field rfl) | (show OpV _ _ _ _ (Oper.mk _ (Op.build _ _) _ _ _ _) _ _; exact xo_build rfl) | (show OpV _ _ _ _ (Oper.mk _ (Op.makeFunc _ _ _) _ _ _ _) _ _; exact ov_makeFunc rfl rfl) | (show OpV _ _ _ _ (Oper.mk _ (Op.nilCheck _) _ _ _ _) _ _; exact xo_nilCheck rfl)) ?_
                refine wpv_call rfl Tryd.call57 rfl rfl rfl rfl rfl (fun w hw => htk hw) ?_
                repeat' (first | (first | refine wc_seq ?_ | refine wc_region ?_ | refine wl_nil ?_ | refine wn_seq ?_ | refine wn_blk ?_ | refine wc_skip ?_ | refine wc_scope ?_ | refine wc_label ?_ | refine wn_noGoto ?_ | refine wc_block ?_ | refine wc_exit rfl ?_ | (show WL _ _ (_ :: _) _ _ _ _; first | refine yl_v rfl rfl rfl ?_ | refine wl_v rfl rfl rfl (by first  | fail) ?_ | refine xl_alloc (fun _ => ?_) | refine xl_box rfl (fun _ => ?_) | refine xl_store rfl rfl ?_ | refine xl_buildSlice rfl (fun _ => ?_) | refine wl_makeMap rfl rfl (fun _ => ?_) | refine wl_insert rfl rfl rfl rfl rfl rfl (by first | exact rfl | exact trivial) (by first | exact Upd.here | exact Upd.there Upd.here | exact Upd.there (Upd.there Upd.here) | exact Upd.there (Upd.there (Upd.there Upd.here)) | exact Upd.there (Upd.there (Upd.there (Upd.there Upd.here))) | exact Upd.app _ (Upd.here) | exact Upd.app _ (Upd.there Upd.here) | exact Upd.app _ (Upd.there (Upd.there Upd.here)) | exact Upd.app _ (Upd.there (Upd.there (Upd.there Upd.here))) | exact Upd.there (Upd.app _ (Upd.here)) | exact Upd.there (Upd.app _ (Upd.there Upd.here)) | exact Upd.there (Upd.app _ (Upd.there (Upd.there Upd.here))) | exact Upd.there (Upd.app _ (Upd.there (Upd.there (Upd.there Upd.here)))) | exact Upd.there (Upd.there (Upd.app _ (Upd.here))) | exact Upd.there (Upd.there (Upd.app _ (Upd.there Upd.here))) | exact Upd.there (Upd.there (Upd.app _ (Upd.there (Upd.there Upd.here))))) (by rfl) ?_) | refine wc_ret rfl ?_) | (show WC _ (Code.cond _ _ _) _ _ _ _; (refine wc_cond rfl (fun hc => ?_) (fun hc => ?_) <;> (try (simp only [decide_eq_true_eq, decide_eq_false_iff_not, Bool.and_eq_true, Bool.or_eq_true, Bool.and_eq_false_iff, Bool.or_eq_false_iff, Bool.not_eq_true', Bool.not_eq_false', Int.not_lt, Int.not_le] at hc)) <;> (try (exfalso; first | omega | contradiction)))))
                refine wr_weak (fun w' h => h.perm (H' := (b6, .cells [str nm, .slice va l.length vcap, str tx, .slice va2 acc.length vcap2].toArray 35 (0, 0)) :: (b4, .cells [str nm, .slice va l.length vcap, str tx, .slice va2 acc.length vcap2].toArray 35 (0, 0)) :: (Hs ++ ((b, readO cur' (left - 1 - (cntL acc : Int))) :: H))) (((List.perm_middle.cons _).cons _).trans (((List.Perm.swap _ _ _).cons _).trans (List.Perm.swap _ _ _)))) ?_
                refine wrx_layC2 (Hn := Hs) (l := [str nm, .slice va l.length vcap, str tx, .slice va2 acc.length vcap2]) (s' := cur') (left' := left - 1 - (cntL acc : Int)) rfl rfl rfl rfl (List.Mem.tail _ (List.Mem.head _)) rfl (hM1.step since.1 since.2) (List.Sublist.cons _ (List.Sublist.cons _ (List.Sublist.refl _))) ?_
                · unfold ElemIs
                  rw [helX]
                  cases q with
                  | false => exact ⟨_, _, _, _, _, _, _, _, rfl⟩
                  | true =>
                    rw [if_pos rfl]
                    refine ⟨_, rfl, ⟨_, _, rfl, Sl.mono hsl (fun _ _ h => .inl (since.1 _ _ h)) (fun _ _ _ h => h), own.sl (by decide) (fun p hp => .inr hp) xlen (by omega) (fun i hi => NodeC.mono (fun _ _ => .inl) (nodes i hi)), by omega, by omega, ?_⟩, rfl, rfl⟩
                    intro p hp
                    have := attrT_small hp
                    rw [attrsP_text hat] at hs2
                    simp only [List.length_append] at hs2
                    omega
              · rw [hp] at hpx
                have ih := fun (H : List (Nat × Obj)) (w : World) (hw : St w0 [] ((b, readO cur (left - 1 - (cntL acc : Int))) :: H) M2 w) => relem_ok D (deep + 1) (by omega) (by omega) M2 H b cur (left - 1 - (cntL acc : Int)) w0 w (hG1.mono since.1) (by omega) (by omega) (by omega) hw
                repeat' (first | (first | refine wc_seq ?_ | refine wc_region ?_ | refine wl_nil ?_ | refine wn_seq ?_ | refine wn_blk ?_ | refine wc_skip ?_ | refine wc_scope ?_ | refine wc_label ?_ | refine wn_noGoto ?_ | refine wc_block ?_ | refine wc_exit rfl ?_ | (show WL _ _ (_ :: _) _ _ _ _; first | refine yl_v rfl rfl rfl ?_ | refine wl_v rfl rfl rfl (by first | ((show OpV _ _ _ _ (Oper.mk _ (Op.call ⟨.value (.func 61), _, _⟩) _ _ _ _) _ _; exact ov_call Tryd.call61 rfl (by intro himp; first | rfl | (simp_all; done)) (by rfl) (fun _ _ h k => h.ext k) (fun hcg w hw => hpx hw.laid))) | fail) ?_ | refine xl_alloc (fun _ => ?_) | refine xl_box rfl (fun _ => ?_) | refine xl_store rfl rfl ?_ | refine xl_buildSlice rfl (fun _ => ?_) | refine wl_makeMap rfl rfl (fun _ => ?_) | refine wl_insert rfl rfl rfl rfl rfl rfl (by first | exact rfl | exact trivial) (by first | exact Upd.here | exact Upd.there Upd.here | exact Upd.there (Upd.there Upd.here) | exact Upd.there (Upd.there (Upd.there Upd.here)) | exact Upd.there (Upd.there (Upd.there (Upd.there Upd.here))) | exact Upd.app _ (Upd.here) | exact Upd.app _ (Upd.there Upd.here) | exact Upd.app _ (Upd.there (Upd.there Upd.here)) | exact Upd.app _ (Upd.there (Upd.there (Upd.there Upd.here))) | exact Upd.there (Upd.app _ (Upd.here)) | exact Upd.there (Upd.app _ (Upd.there Upd.here)) | exact Upd.there (Upd.app _ (Upd.there (Upd.there Upd.here))) | exact Upd.there (Upd.app _ (Upd.there (Upd.there (Upd.there Upd.here)))) | exact Upd.there (Upd.there (Upd.app _ (Upd.here))) | exact Upd.there (Upd.there (Upd.app _ (Upd.there Upd.here))) | exact Upd.there (Upd.there (Upd.app _ (Upd.there (Upd.there Upd.here))))) (by rfl) ?_) | refine wc_ret rfl ?_) | (show WC _ (Code.cond _ _ _) _ _ _ _; (refine wc_cond rfl (fun hc => ?_) (fun hc => ?_) <;> (try (simp only [decide_eq_true_eq, decide_eq_false_iff_not, Bool.and_eq_true, Bool.or_eq_true, Bool.and_eq_false_iff, Bool.or_eq_false_iff, Bool.not_eq_true', Bool.not_eq_false', Int.not_lt, Int.not_le] at hc)) <;> (try (exfalso; first | omega | contradiction)))))
                refine wl_callX rfl Tryd.call47 rfl rfl rfl rfl (fun w hw => ih _ w hw) (fun v M3 s3 left3 hm3 hn3 hR => ?_)
                have hpf : [60, 47].isPrefixOf cur = false := by unfold Lib.hasPrefix at hp; exact hp
                have hM3 : Since w0 M M3 := (hM1.step since.1 since.2).step hm3 hn3
                unfold ElemIs at hR
                cases hx : elemX D cur (left - 1 - (cntL acc : Int)) with
                | none =>
                  rw [hx] at hR
                  simp only at hR
                  obtain ⟨n', a1, l1, c1, t', a2, l2, c2, rfl⟩ := hR
                  have hn : elemX (D + 1) (60 :: r1) left = none := by
                    unfold elemX
                    rw [hel]
                    cases hk : kidsP (elemP D) (s0.length + 1) s0 with
                    | none => rfl
                    | some q =>
                      obtain ⟨k, r5⟩ := q
                      have hlt := kids_fail inv hpf (left0 := left - 1) (fun x r he => by
                        unfold elemX at hx
                        rw [he] at hx
                        simp only at hx
                        split at hx
                        · cases hx
                        · omega) k r5 hk
                      simp only
                      split
                      · rename_i x r e
                        split at e
                        · cases e
                          rw [if_neg (by simp only [cntN]; omega)]
                        · cases e
                      · rfl
                  repeat' (first | (first | refine wc_seq ?_ | refine wc_region ?_ | refine wl_nil ?_ | refine wn_seq ?_ | refine wn_blk ?_ | refine wc_skip ?_ | refine wc_scope ?_ | refine wc_label ?_ | refine wn_noGoto ?_ | refine wc_block ?_ | refine wc_exit rfl ?_ | (show WL _ _ (_ :: _) _ _ _ _; first | refine yl_v rfl rfl rfl ?_ | refine wl_v rfl rfl rfl (by first  | fail) ?_ | refine xl_alloc (fun _ => ?_) | refine xl_box rfl (fun _ => ?_) | refine xl_store rfl rfl ?_ | refine xl_buildSlice rfl (fun _ => ?_) | refine wl_makeMap rfl rfl (fun _ => ?_) | refine wl_insert rfl rfl rfl rfl rfl rfl (by first | exact rfl | exact trivial) (by first | exact Upd.here | exact Upd.there Upd.here | exact Upd.there (Upd.there Upd.here) | exact Upd.there (Upd.there (Upd.there Upd.here)) | exact Upd.there (Upd.there (Upd.there (Upd.there Upd.here))) | exact Upd.app _ (Upd.here) | exact Upd.app _ (Upd.there Upd.here) | exact Upd.app _ (Upd.there (Upd.there Upd.here)) | exact Upd.app _ (Upd.there (Upd.there (Upd.there Upd.here))) | exact Upd.there (Upd.app _ (Upd.here)) | exact Upd.there (Upd.app _ (Upd.there Upd.here)) | exact Upd.there (Upd.app _ (Upd.there (Upd.there Upd.here))) | exact Upd.there (Upd.app _ (Upd.there (Upd.there (Upd.there Upd.here)))) | exact Upd.there (Upd.there (Upd.app _ (Upd.here))) | exact Upd.there (Upd.there (Upd.app _ (Upd.there Upd.here))) | exact Upd.there (Upd.there (Upd.app _ (Upd.there (Upd.there Upd.here))))) (by rfl) ?_) | refine wc_ret rfl ?_) | (show WC _ (Code.cond _ _ _) _ _ _ _; (refine wc_cond rfl (fun hc => ?_) (fun hc => ?_) <;> (try (simp only [decide_eq_true_eq, decide_eq_false_iff_not, Bool.and_eq_true, Bool.or_eq_true, Bool.and_eq_false_iff, Bool.or_eq_false_iff, Bool.not_eq_true', Bool.not_eq_false', Int.not_lt, Int.not_le] at hc)) <;> (try (exfalso; first | omega | contradiction)))))
                  exact wrx_layC2 (Hn := []) (l := [str [], .slice none 0 0, str [], .slice none 0 0]) rfl rfl rfl rfl (by first | exact List.Mem.head _ | exact List.Mem.tail _ (List.Mem.head _) | exact List.Mem.tail _ (List.Mem.tail _ (List.Mem.head _)) | exact List.Mem.tail _ (List.Mem.tail _ (List.Mem.tail _ (List.Mem.head _))) | exact List.Mem.tail _ (List.Mem.tail _ (List.Mem.tail _ (List.Mem.tail _ (List.Mem.head _)))) | exact List.mem_append_right _ (List.Mem.head _) | exact List.mem_append_right _ (List.Mem.tail _ (List.Mem.head _)) | exact List.mem_append_right _ (List.Mem.tail _ (List.Mem.tail _ (List.Mem.head _))) | exact List.mem_append_right _ (List.Mem.tail _ (List.Mem.tail _ (List.Mem.tail _ (List.Mem.head _)))) | exact List.Mem.tail _ (List.mem_append_right _ (List.Mem.head _)) | exact List.Mem.tail _ (List.mem_append_right _ (List.Mem.tail _ (List.Mem.head _))) | exact List.Mem.tail _ (List.mem_append_right _ (List.Mem.tail _ (List.Mem.tail _ (List.Mem.head _)))) | exact List.Mem.tail _ (List.mem_append_right _ (List.Mem.tail _ (List.Mem.tail _ (List.Mem.tail _ (List.Mem.head _))))) | exact List.Mem.tail _ (List.Mem.tail _ (List.mem_append_right _ (List.Mem.head _))) | exact List.Mem.tail _ (List.Mem.tail _ (List.mem_append_right _ (List.Mem.tail _ (List.Mem.head _)))) | exact List.Mem.tail _ (List.Mem.tail _ (List.mem_append_right _ (List.Mem.tail _ (List.Mem.tail _ (List.Mem.head _)))))) rfl hM3 (List.Sublist.cons _ (List.Sublist.cons_cons _ (List.Sublist.cons _ (List.Sublist.cons _ (List.sublist_append_right Hs H))))) (elemIs_no hn)
                | some p =>
                  obtain ⟨x, r, l'⟩ := p
                  rw [hx] at hR
                  simp only at hR
                  obtain ⟨vs, rfl, hnode, rfl, rfl⟩ := hR
                  obtain ⟨un, ua1, ul1, uc1, ut, ua2, ul2, uc2, rfl⟩ := node_open hnode
                  repeat' (first | (first | refine wc_seq ?_ | refine wc_region ?_ | refine wl_nil ?_ | refine wn_seq ?_ | refine wn_blk ?_ | refine wc_skip ?_ | refine wc_scope ?_ | refine wc_label ?_ | refine wn_noGoto ?_ | refine wc_block ?_ | refine wc_exit rfl ?_ | (show WL _ _ (_ :: _) _ _ _ _; first | refine yl_v rfl rfl rfl ?_ | refine wl_v rfl rfl rfl (by first  | fail) ?_ | refine xl_alloc (fun _ => ?_) | refine xl_box rfl (fun _ => ?_) | refine xl_store rfl rfl ?_ | refine xl_buildSlice rfl (fun _ => ?_) | refine wl_makeMap rfl rfl (fun _ => ?_) | refine wl_insert rfl rfl rfl rfl rfl rfl (by first | exact rfl | exact trivial) (by first | exact Upd.here | exact Upd.there Upd.here | exact Upd.there (Upd.there Upd.here) | exact Upd.there (Upd.there (Upd.there Upd.here)) | exact Upd.there (Upd.there (Upd.there (Upd.there Upd.here))) | exact Upd.app _ (Upd.here) | exact Upd.app _ (Upd.there Upd.here) | exact Upd.app _ (Upd.there (Upd.there Upd.here)) | exact Upd.app _ (Upd.there (Upd.there (Upd.there Upd.here))) | exact Upd.there (Upd.app _ (Upd.here)) | exact Upd.there (Upd.app _ (Upd.there Upd.here)) | exact Upd.there (Upd.app _ (Upd.there (Upd.there Upd.here))) | exact Upd.there (Upd.app _ (Upd.there (Upd.there (Upd.there Upd.here)))) | exact Upd.there (Upd.there (Upd.app _ (Upd.here))) | exact Upd.there (Upd.there (Upd.app _ (Upd.there Upd.here))) | exact Upd.there (Upd.there (Upd.app _ (Upd.there (Upd.there Upd.here))))) (by rfl) ?_) | refine wc_ret rfl ?_) | (show WC _ (Code.cond _ _ _) _ _ _ _; (refine wc_cond rfl (fun hc => ?_) (fun hc => ?_) <;> (try (simp only [decide_eq_true_eq, decide_eq_false_iff_not, Bool.and_eq_true, Bool.or_eq_true, Bool.and_eq_false_iff, Bool.or_eq_false_iff, Bool.not_eq_true', Bool.not_eq_false', Int.not_lt, Int.not_le] at hc)) <;> (try (exfalso; first | omega | contradiction)))))
                  rename_i b10 b80
                  have hx2 : elemP D cur = some (x, s3) ∧ (cntN x : Int) ≤ left - 1 - (cntL acc : Int) ∧ left3 = left - 1 - (cntL acc : Int) - (cntN x : Int) := by
                    unfold elemX at hx
                    cases he : elemP D cur with
                    | none => rw [he] at hx; cases hx
                    | some q =>
                      obtain ⟨y, u⟩ := q
                      rw [he] at hx
                      simp only at hx
                      split at hx
                      · cases hx; exact ⟨rfl, by assumption, rfl⟩
                      · cases hx
                  obtain ⟨hx2, hx3, rfl⟩ := hx2
                  refine wl_weak (C' := St w0 [] ((b80, .cells [str un, .slice ua1 ul1 uc1, str ut, .slice ua2 ul2 uc2].toArray 35 (0, 0)) :: (Hs ++ ((b10, .cells [str un, .slice ua1 ul1 uc1, str ut, .slice ua2 ul2 uc2].toArray 35 (0, 0)) :: (b, readO s3 (left - 1 - (cntL acc : Int) - (cntN x : Int))) :: (b6, .cells [str nm, .slice va l.length vcap, str tx, .slice va2 acc.length vcap2].toArray 35 (0, 0)) :: (b4, .cells [str [], .slice none 0 0, str [], .slice none 0 0].toArray 35 (0, 0)) :: H))) M3) (Eng.Sub.refl _) (fun w' h => h.perm (List.Perm.cons _ (List.perm_middle.trans (List.Perm.cons _ (List.perm_middle.trans (List.Perm.cons _ (List.perm_middle.trans (List.Perm.cons _ List.perm_middle)))))))) ?_
                  refine y_append (news := [str un, .slice ua1 ul1 uc1, str ut, .slice ua2 ul2 uc2]) (H0 := (b10, .cells [str un, .slice ua1 ul1 uc1, str ut, .slice ua2 ul2 uc2].toArray 35 (0, 0)) :: (b, readO s3 (left - 1 - (cntL acc : Int) - (cntN x : Int))) :: (b6, .cells [str nm, .slice va l.length vcap, str tx, .slice va2 acc.length vcap2].toArray 35 (0, 0)) :: (b4, .cells [str [], .slice none 0 0, str [], .slice none 0 0].toArray 35 (0, 0)) :: H) rfl own rfl rfl rfl rfl rfl rfl rfl rfl rfl rfl rfl rfl (by rw [xlen]; omega) rfl ?_
                  intro v' Hs' ho'
                  obtain ⟨va3, vcap3, rfl⟩ := ho'.slice (k := acc.length + 1) (by decide) (by simp; omega)
                  refine wl_weak (C' := St w0 [] ((b, readO s3 (left - 1 - (cntL acc : Int) - (cntN x : Int))) :: (b6, .cells [str nm, .slice va l.length vcap, str tx, .slice va2 acc.length vcap2].toArray 35 (0, 0)) :: (b4, .cells [str [], .slice none 0 0, str [], .slice none 0 0].toArray 35 (0, 0)) :: (Hs' ++ H)) M3) (Eng.Sub.refl _) (fun w' h => (h.drop (H' := Hs' ++ ((b, readO s3 (left - 1 - (cntL acc : Int) - (cntN x : Int))) :: (b6, .cells [str nm, .slice va l.length vcap, str tx, .slice va2 acc.length vcap2].toArray 35 (0, 0)) :: (b4, .cells [str [], .slice none 0 0, str [], .slice none 0 0].toArray 35 (0, 0)) :: H)) (List.Sublist.append (List.Sublist.refl _) (List.Sublist.cons _ (List.Sublist.refl _)))).perm ((List.perm_middle.trans (List.Perm.cons _ (List.perm_middle.trans (List.Perm.cons _ List.perm_middle)))).symm)) ?_
                  repeat' (first | (first | refine wc_seq ?_ | refine wc_region ?_ | refine wl_nil ?_ | refine wn_seq ?_ | refine wn_blk ?_ | refine wc_skip ?_ | refine wc_scope ?_ | refine wc_label ?_ | refine wn_noGoto ?_ | refine wc_block ?_ | refine wc_exit rfl ?_ | (show WL _ _ (_ :: _) _ _ _ _; first | refine yl_v rfl rfl rfl ?_ | refine wl_v rfl rfl rfl (by first  | fail) ?_ | refine xl_alloc (fun _ => ?_) | refine xl_box rfl (fun _ => ?_) | refine xl_store rfl rfl ?_ | refine xl_buildSlice rfl (fun _ => ?_) | refine wl_makeMap rfl rfl (fun _ => ?_) | refine wl_insert rfl rfl rfl rfl rfl rfl (by first | exact rfl | exact trivial) (by first | exact Upd.here | exact Upd.there Upd.here | exact Upd.there (Upd.there Upd.here) | exact Upd.there (Upd.there (Upd.there Upd.here)) | exact Upd.there (Upd.there (Upd.there (Upd.there Upd.here))) | exact Upd.app _ (Upd.here) | exact Upd.app _ (Upd.there Upd.here) | exact Upd.app _ (Upd.there (Upd.there Upd.here)) | exact Upd.app _ (Upd.there (Upd.there (Upd.there Upd.here))) | exact Upd.there (Upd.app _ (Upd.here)) | exact Upd.there (Upd.app _ (Upd.there Upd.here)) | exact Upd.there (Upd.app _ (Upd.there (Upd.there Upd.here))) | exact Upd.there (Upd.app _ (Upd.there (Upd.there (Upd.there Upd.here)))) | exact Upd.there (Upd.there (Upd.app _ (Upd.here))) | exact Upd.there (Upd.there (Upd.app _ (Upd.there Upd.here))) | exact Upd.there (Upd.there (Upd.app _ (Upd.there (Upd.there Upd.here))))) (by rfl) ?_) | refine wc_ret rfl ?_) | (show WC _ (Code.cond _ _ _) _ _ _ _; (refine wc_cond rfl (fun hc => ?_) (fun hc => ?_) <;> (try (simp only [decide_eq_true_eq, decide_eq_false_iff_not, Bool.and_eq_true, Bool.or_eq_true, Bool.and_eq_false_iff, Bool.or_eq_false_iff, Bool.not_eq_true', Bool.not_eq_false', Int.not_lt, Int.not_le] at hc)) <;> (try (exfalso; first | omega | contradiction)))))
                  have hsl3 := elemP_len hx2
                  refine wn_cut ⟨f, s3, acc ++ [x], .slice va3 (acc.length + 1) vcap3, Hs', xs ++ [str un, .slice ua1 ul1 uc1, str ut, .slice ua2 ul2 uc2], M3, by omega, by rw [List.length_append]; simp only [List.length_cons, List.length_nil]; omega, ?_, ho', by simp only [List.length_append, List.length_cons, List.length_nil]; omega, ?_, by rw [cntL_append]; simp only [cntL]; omega, since.step hm3 hn3⟩ (by show f < f + 1; omega) (by first | exact Sub.nil _ | (repeat (first | exact Sub.nil _ | refine Sub.cons (by first | rfl | (simp [look]; done)) ?_))) (fun w' h => ?_)
                  · rw [inv, kidsP, if_neg (by rw [hpf]; decide), hx2]
                    show Option.map _ (Option.map _ (kidsP (elemP D) f s3)) = _
                    rw [Option.map_map]
                    congr 1
                    funext y
                    simp
                  · intro i hi
                    rw [List.length_append, List.length_cons, List.length_nil] at hi
                    rcases Nat.lt_or_ge i acc.length with hlt | hge
                    · rw [List.getElem_append_left hlt, List.drop_append_of_le_length (by omega), List.take_append_of_le_length (by rw [List.length_drop]; omega)]
                      exact NodeC.mono hm3 (nodes i hlt)
                    · obtain rfl : i = acc.length := by omega
                      rw [List.getElem_append_right (Nat.le_refl _), ← xlen, List.drop_left]
                      simpa using hnode
                  · dsimp only
                    rw [show left - 1 - ((cntL (acc ++ [x]) : Nat) : Int) = left - 1 - (cntL acc : Int) - (cntN x : Int) by rw [cntL_append]; simp only [cntL]; omega]
                    unfold readO at h
                    exact h
          · have hn := failH (by
              unfold headP; rw [hat]
              simp only)
            refine wl_callL rfl Tryd.call57 rfl rfl rfl rfl (fun w hw => take_no hp3 hw) ?_
            repeat' (first | (first | refine wc_seq ?_ | refine wc_region ?_ | refine wl_nil ?_ | refine wn_seq ?_ | refine wn_blk ?_ | refine wc_skip ?_ | refine wc_scope ?_ | refine wc_label ?_ | refine wn_noGoto ?_ | refine wc_block ?_ | refine wc_exit rfl ?_ | (show WL _ _ (_ :: _) _ _ _ _; first | refine yl_v rfl rfl rfl ?_ | refine wl_v rfl rfl rfl (by first  | fail) ?_ | refine xl_alloc (fun _ => ?_) | refine xl_box rfl (fun _ => ?_) | refine xl_store rfl rfl ?_ | refine xl_buildSlice rfl (fun _ => ?_) | refine wl_makeMap rfl rfl (fun _ => ?_) | refine wl_insert rfl rfl rfl rfl rfl rfl (by first | exact rfl | exact trivial) (by first | exact Upd.here | exact Upd.there Upd.here | exact Upd.there (Upd.there Upd.here) | exact Upd.there (Upd.there (Upd.there Upd.here)) | exact Upd.there (Upd.there (Upd.there (Upd.there Upd.here))) | exact Upd.app _ (Upd.here) | exact Upd.app _ (Upd.there Upd.here) | exact Upd.app _ (Upd.there (Upd.there Upd.here)) | exact Upd.app _ (Upd.there (Upd.there (Upd.there Upd.here))) | exact Upd.there (Upd.app _ (Upd.here)) | exact Upd.there (Upd.app _ (Upd.there Upd.here)) | exact Upd.there (Upd.app _ (Upd.there (Upd.there Upd.here))) | exact Upd.there (Upd.app _ (Upd.there (Upd.there (Upd.there Upd.here)))) | exact Upd.there (Upd.there (Upd.app _ (Upd.here))) | exact Upd.there (Upd.there (Upd.app _ (Upd.there Upd.here))) | exact Upd.there (Upd.there (Upd.app _ (Upd.there (Upd.there Upd.here))))) (by rfl) ?_) | refine wc_ret rfl ?_) | (show WC _ (Code.cond _ _ _) _ _ _ _; (refine wc_cond rfl (fun hc => ?_) (fun hc => ?_) <;> (try (simp only [decide_eq_true_eq, decide_eq_false_iff_not, Bool.and_eq_true, Bool.or_eq_true, Bool.and_eq_false_iff, Bool.or_eq_false_iff, Bool.not_eq_true', Bool.not_eq_false', Int.not_lt, Int.not_le] at hc)) <;> (try (exfalso; first | omega | contradiction)))))
            exact wrx_layC2 (Hn := []) (l := [str [], .slice none 0 0, str [], .slice none 0 0]) rfl rfl rfl rfl (by first | exact List.Mem.head _ | exact List.Mem.tail _ (List.Mem.head _) | exact List.Mem.tail _ (List.Mem.tail _ (List.Mem.head _)) | exact List.Mem.tail _ (List.Mem.tail _ (List.Mem.tail _ (List.Mem.head _))) | exact List.Mem.tail _ (List.Mem.tail _ (List.Mem.tail _ (List.Mem.tail _ (List.Mem.head _)))) | exact List.mem_append_right _ (List.Mem.head _) | exact List.mem_append_right _ (List.Mem.tail _ (List.Mem.head _)) | exact List.mem_append_right _ (List.Mem.tail _ (List.Mem.tail _ (List.Mem.head _))) | exact List.mem_append_right _ (List.Mem.tail _ (List.Mem.tail _ (List.Mem.tail _ (List.Mem.head _)))) | exact List.Mem.tail _ (List.mem_append_right _ (List.Mem.head _)) | exact List.Mem.tail _ (List.mem_append_right _ (List.Mem.tail _ (List.Mem.head _))) | exact List.Mem.tail _ (List.mem_append_right _ (List.Mem.tail _ (List.Mem.tail _ (List.Mem.head _)))) | exact List.Mem.tail _ (List.mem_append_right _ (List.Mem.tail _ (List.Mem.tail _ (List.Mem.tail _ (List.Mem.head _))))) | exact List.Mem.tail _ (List.Mem.tail _ (List.mem_append_right _ (List.Mem.head _))) | exact List.Mem.tail _ (List.Mem.tail _ (List.mem_append_right _ (List.Mem.tail _ (List.Mem.head _)))) | exact List.Mem.tail _ (List.Mem.tail _ (List.mem_append_right _ (List.Mem.tail _ (List.Mem.tail _ (List.Mem.head _)))))) rfl hM1 hsub (elemIs_no hn)
      · have hn : elemX (D + 1) s left = none := by
          have : elemP (D + 1) s = none := by
            unfold elemP
            split
            · rename_i q; exact absurd rfl (hno q)
            · rfl
          unfold elemX; rw [this]
        refine wl_callL rfl Tryd.call57 rfl rfl rfl rfl (fun w hw => take_no hp hw) ?_
        repeat' (first | (first | refine wc_seq ?_ | refine wc_region ?_ | refine wl_nil ?_ | refine wn_seq ?_ | refine wn_blk ?_ | refine wc_skip ?_ | refine wc_scope ?_ | refine wc_label ?_ | refine wn_noGoto ?_ | refine wc_block ?_ | refine wc_exit rfl ?_ | (show WL _ _ (_ :: _) _ _ _ _; first | refine yl_v rfl rfl rfl ?_ | refine wl_v rfl rfl rfl (by first  | fail) ?_ | refine xl_alloc (fun _ => ?_) | refine xl_box rfl (fun _ => ?_) | refine xl_store rfl rfl ?_ | refine xl_buildSlice rfl (fun _ => ?_) | refine wl_makeMap rfl rfl (fun _ => ?_) | refine wl_insert rfl rfl rfl rfl rfl rfl (by first | exact rfl | exact trivial) (by first | exact Upd.here | exact Upd.there Upd.here | exact Upd.there (Upd.there Upd.here) | exact Upd.there (Upd.there (Upd.there Upd.here)) | exact Upd.there (Upd.there (Upd.there (Upd.there Upd.here))) | exact Upd.app _ (Upd.here) | exact Upd.app _ (Upd.there Upd.here) | exact Upd.app _ (Upd.there (Upd.there Upd.here)) | exact Upd.app _ (Upd.there (Upd.there (Upd.there Upd.here))) | exact Upd.there (Upd.app _ (Upd.here)) | exact Upd.there (Upd.app _ (Upd.there Upd.here)) | exact Upd.there (Upd.app _ (Upd.there (Upd.there Upd.here))) | exact Upd.there (Upd.app _ (Upd.there (Upd.there (Upd.there Upd.here)))) | exact Upd.there (Upd.there (Upd.app _ (Upd.here))) | exact Upd.there (Upd.there (Upd.app _ (Upd.there Upd.here))) | exact Upd.there (Upd.there (Upd.app _ (Upd.there (Upd.there Upd.here))))) (by rfl) ?_) | refine wc_ret rfl ?_) | (show WC _ (Code.cond _ _ _) _ _ _ _; (refine wc_cond rfl (fun hc => ?_) (fun hc => ?_) <;> (try (simp only [decide_eq_true_eq, decide_eq_false_iff_not, Bool.and_eq_true, Bool.or_eq_true, Bool.and_eq_false_iff, Bool.or_eq_false_iff, Bool.not_eq_true', Bool.not_eq_false', Int.not_lt, Int.not_le] at hc)) <;> (try (exfalso; first | omega | contradiction)))))
        refine wr_weak (fun w' h => h.perm (List.Perm.swap _ _ _)) ?_
        exact wrx_layC2 (Hn := []) (l := [str [], .slice none 0 0, str [], .slice none 0 0]) (s' := s) (left' := left - 1) rfl rfl rfl rfl (List.Mem.head _) rfl Since.refl (List.Sublist.cons _ (List.Sublist.refl _)) (elemIs_no hn)
end Go.Proofs.YtgfbieplidpebaaDoor
/-
  The document's reading of an element: to, element.
-/
namespace Go.Proofs.YtgfbieplidpebaaDoor
open Go.Eng Go.Pct Go.Xml Go.Rsp
set_option maxRecDepth 10000
set_option linter.unusedSimpArgs false
set_option linter.unusedVariables false

variable {M : Ghost} {w0 w : World} {bs : List Nat} {H : List (Nat × Obj)}
theorem wd_go0 {p : UInt8 → Bool} : ∀ (r : List UInt8) (i : Nat), i ≤ (wd p r).length → ((i < r.length ∧ p (r.getD i 0) = false) ↔ i < (wd p r).length)
  | [], i, h => by simp [wd]
  | c :: r, i, h => by
    unfold wd at *
    cases hc : p c
    · rw [List.takeWhile_cons, hc] at h ⊢
      simp only [Bool.not_false, if_true, List.length_cons] at h ⊢
      cases i with
      | zero => simp [hc]
      | succ i =>
        have := wd_go0 (p := p) r i (by unfold wd; omega)
        unfold wd at this
        simp only [List.getD_cons_succ]
        constructor
        · rintro ⟨a, b⟩; have := this.1 ⟨by omega, b⟩; omega
        · intro a; have := this.2 (by omega); exact ⟨by omega, this.2⟩
    · rw [List.takeWhile_cons, hc] at h ⊢
      simp only [Bool.not_true, Bool.false_eq_true, if_false, List.length_nil, List.length_cons] at h ⊢
      obtain rfl : i = 0 := by omega
      simp [hc]
theorem wd_go {p : UInt8 → Bool} {s : List UInt8} {i0 e : Nat} (h1 : i0 ≤ e) (h2 : e ≤ i0 + (wd p (s.drop i0)).length) : (e < s.length ∧ p (s.getD e 0) = false) ↔ e < i0 + (wd p (s.drop i0)).length := by
  have key := wd_go0 (p := p) (s.drop i0) (e - i0) (by omega)
  have hg : (s.drop i0).getD (e - i0) 0 = s.getD e 0 := by
    rw [List.getD_eq_getElem?_getD, List.getD_eq_getElem?_getD, List.getElem?_drop]
    congr 2; omega
  rw [hg, List.length_drop] at key
  constructor
  · rintro ⟨a, b⟩; have := key.1 ⟨by omega, b⟩; omega
  · intro a; have := key.2 (by omega); exact ⟨by omega, this.2⟩
theorem wd_take (p : UInt8 → Bool) (r : List UInt8) : r.take (wd p r).length = wd p r := by
  have := List.take_left (l₁ := wd p r) (l₂ := rs p r)
  rw [wd_rs] at this; exact this
theorem rs_drop (p : UInt8 → Bool) (r : List UInt8) : r.drop (wd p r).length = rs p r := by
  have := List.drop_left (l₁ := wd p r) (l₂ := rs p r)
  rw [wd_rs] at this; exact this
theorem rs_at (p : UInt8 → Bool) (s : List UInt8) (i : Nat) : s.drop (i + (wd p (s.drop i)).length) = rs p (s.drop i) := by
  rw [← List.drop_drop, rs_drop]
theorem rs_stop (p : UInt8 → Bool) : ∀ r : List UInt8, rs p r = [] ∨ ∃ c t, rs p r = c :: t ∧ p c = true
  | [] => .inl rfl
  | c :: r => by
    cases hc : p c
    · rcases rs_stop p r with h | h
      · left; unfold rs at *; rw [List.dropWhile_cons, hc]; simpa using h
      · right; unfold rs at *; rw [List.dropWhile_cons, hc]; simpa using h
    · right; exact ⟨c, r, by unfold rs; rw [List.dropWhile_cons, hc]; simp, hc⟩
theorem at_cons {s r : List UInt8} {i : Nat} {c : UInt8} : s.drop i = c :: r ↔ (i < s.length ∧ s.getD i 0 = c ∧ s.drop (i + 1) = r) := by
  constructor
  · intro h
    have hl : i < s.length := by
      rcases Nat.lt_or_ge i s.length with h' | h'
      · exact h'
      · rw [List.drop_eq_nil_of_le h'] at h; cases h
    rw [drop_getD hl] at h
    injection h with h1 h2
    exact ⟨hl, h1, h2⟩
  · rintro ⟨hl, rfl, rfl⟩; exact drop_getD hl
theorem isC_iff {c d : UInt8} : isC c d = false ↔ ¬ ((d.toNat : Int) = (c.toNat : Int)) := by
  rw [getD_cast]; unfold isC; simp
theorem isC_self {c d : UInt8} (h : isC c d = true) : d = c := by unfold isC at h; simpa using h
theorem isSp_iff {d : UInt8} : isSp d = false ↔ (¬ ((d.toNat : Int) = 32) ∧ ¬ ((d.toNat : Int) = 62)) := by
  revert d; apply all_bytes; decide +kernel
theorem b60 {d : UInt8} : ((d.toNat : Int) = 60) ↔ d = 60 := u8_eq d 60 (by decide)
theorem b62 {d : UInt8} : ((d.toNat : Int) = 62) ↔ d = 62 := u8_eq d 62 (by decide)
theorem b47 {d : UInt8} : ((d.toNat : Int) = 47) ↔ d = 47 := u8_eq d 47 (by decide)
theorem b34 {d : UInt8} : ((d.toNat : Int) = 34) ↔ d = 34 := u8_eq d 34 (by decide)
theorem b32 {d : UInt8} : ((d.toNat : Int) = 32) ↔ d = 32 := u8_eq d 32 (by decide)
theorem elemP_short : ∀ D : Nat, elemP D [60] = none
  | 0 => rfl
  | D + 1 => rfl
theorem elemP_head {D : Nat} {s : List UInt8} (h : ∀ r, s ≠ 60 :: r) : elemP D s = none := by
  match D with
  | 0 => rfl
  | D + 1 =>
    unfold elemP
    split
    · rename_i r; exact absurd rfl (h r)
    · rfl
theorem rto_ok (hM : Laid M w) (s : List UInt8) (i0 : Nat) (c : UInt8) (hs : s.length ≤ 100000000) (hi0 : i0 ≤ s.length) : Calls Tryd.prog 43 #[str s, i64 (i0 : Int), byt c] w (RetE w (i64 ((i0 + (wd (isC c) (s.drop i0)).length : Nat) : Int))) := by
  have hbd := rs_length (isC c) (s.drop i0)
  rw [List.length_drop] at hbd
  refine calls_st (l := [str s, i64 (i0 : Int), byt c]) hM Tryd.func43 rfl rfl rfl (E0 := [(0, true, str s), (1, true, i64 (i0 : Int)), (2, true, byt c)]) (params_cons rfl (params_cons rfl (params_cons rfl (params_nil _)))) ?_
  repeat' (first | (first | refine wc_seq ?_ | refine wc_region ?_ | refine wl_nil ?_ | refine wn_seq ?_ | refine wn_blk ?_ | refine wc_skip ?_ | refine wc_block ?_ | refine wc_exit rfl ?_ | (show WL _ _ (_ :: _) _ _ _ _; first | refine yl_v rfl rfl rfl ?_ | refine wl_v rfl rfl rfl (by first  | fail) ?_) | refine wc_ret rfl ?_) | (show WC _ (Code.cond _ _ _) _ _ _ _; (refine wc_cond rfl (fun hc => ?_) (fun hc => ?_) <;> (try (simp only [decide_eq_true_eq, decide_eq_false_iff_not, Bool.and_eq_true, Bool.or_eq_true, Bool.and_eq_false_iff, Bool.or_eq_false_iff, Bool.not_eq_true', Bool.not_eq_false', Int.not_lt, Int.not_le] at hc)) <;> (try (exfalso; first | omega | contradiction)))))
  refine wc_loop (α := { e : Nat // i0 ≤ e ∧ e ≤ i0 + (wd (isC c) (s.drop i0)).length }) (fun x => [(0, true, str s), (1, true, i64 (x.1 : Int)), (2, true, byt c)]) (fun _ => St w [] [] M) (fun x => s.length - x.1) ⟨i0, by omega, by omega⟩ (by first | exact Sub.nil _ | (repeat (first | exact Sub.nil _ | refine Sub.cons (by first | rfl | (simp [look]; done)) ?_))) (fun _ h => h) ?_
  rintro ⟨e, h1, h2⟩
  dsimp only
  have hg := wd_go (p := isC c) (s := s) h1 h2
  rw [isC_iff] at hg
  repeat' (first | (first | refine wc_seq ?_ | refine wc_region ?_ | refine wl_nil ?_ | refine wn_seq ?_ | refine wn_blk ?_ | refine wc_skip ?_ | refine wc_block ?_ | refine wc_exit rfl ?_ | (show WL _ _ (_ :: _) _ _ _ _; first | refine yl_v rfl rfl rfl ?_ | refine wl_v rfl rfl rfl (by first  | fail) ?_) | refine wc_ret rfl ?_) | (show WC _ (Code.cond _ _ _) _ _ _ _; (refine wc_cond rfl (fun hc => ?_) (fun hc => ?_) <;> (try (simp only [decide_eq_true_eq, decide_eq_false_iff_not, Bool.and_eq_true, Bool.or_eq_true, Bool.and_eq_false_iff, Bool.or_eq_false_iff, Bool.not_eq_true', Bool.not_eq_false', Int.not_lt, Int.not_le] at hc)) <;> (try (exfalso; first | omega | contradiction)))))
  · refine wn_cut ⟨e + 1, by omega, by have := hg.1 ⟨by omega, hc.2⟩; omega⟩ (by show s.length - (e + 1) < s.length - e; omega) (by first | exact Sub.nil _ | (repeat (first | exact Sub.nil _ | refine Sub.cons (by first | rfl | (simp [look]; done)) ?_))) (fun _ h => h.drop (by repeat (first | exact List.Sublist.refl _ | apply List.Sublist.cons)))
  · have : e = i0 + (wd (isC c) (s.drop i0)).length := by
      rcases Nat.lt_or_ge e (i0 + (wd (isC c) (s.drop i0)).length) with h | h
      · exfalso
        have h3 := hg.2 h
        rcases hc with hc | hc
        · omega
        · exact h3.2 hc
      · omega
    exact wr_tmp rfl rfl (by rw [this])
end Go.Proofs.YtgfbieplidpebaaDoor
/-
  The document's reading of an element: element.
-/
namespace Go.Proofs.YtgfbieplidpebaaDoor
open Go.Eng Go.Pct Go.Xml Go.Rsp
set_option maxRecDepth 10000
set_option linter.unusedSimpArgs false
set_option linter.unusedVariables false

variable {M : Ghost} {w0 w : World} {bs : List Nat} {H : List (Nat × Obj)}
/-- what the document's reading of an element yields -/
def RelemIs (D : Nat) (s : List UInt8) (i0 : Nat) (M' : Ghost) (v : Value) : Prop :=
  match elemP D (s.drop i0) with
  | some (x, r) => ∃ (vs : List Value) (n : Nat), v = .tuple #[.agg vs.toArray, i64 (n : Int)] ∧ NodeC M' D x vs ∧ n ≤ s.length ∧ s.drop n = r
  | none => ∃ n a1 l1 c1 t a2 l2 c2, v = .tuple #[.agg #[str n, .slice a1 l1 c1, str t, .slice a2 l2 c2], i64 (-1)]
theorem relemIs_no {D : Nat} {s : List UInt8} {i0 : Nat} {M' : Ghost} {n : List UInt8} {a1 l1 c1 t a2 l2 c2} (h : elemP D (s.drop i0) = none) : RelemIs D s i0 M' (.tuple #[.agg #[str n, .slice a1 l1 c1, str t, .slice a2 l2 c2], i64 (-1)]) := by
  unfold RelemIs; rw [h]; exact ⟨_, _, _, _, _, _, _, _, rfl⟩
/-- as far as the attributes have been read -/
structure RA (s r2 : List UInt8) where
  f : Nat
  i : Nat
  acc : List Pr
  v : Value
  Hs : List (Nat × Obj)
  le : i ≤ s.length
  fuel : s.length - i ≤ f
  inv : attrsP (r2.length + 1) r2 = (attrsP (f + 1) (s.drop i)).map fun x => (acc ++ x.1, x.2)
  len : acc.length + (s.length - i) ≤ s.length
  own : OwnS 57 2 v Hs (cellsP acc)
/-- as far as the kids have been read -/
structure RK (D : Nat) (M1 : Ghost) (s r4 : List UInt8) (w0 : World) where
  f : Nat
  i : Nat
  acc : List Nd
  v : Value
  Hs : List (Nat × Obj)
  xs : List Value
  M' : Ghost
  le : i ≤ s.length
  fuel : s.length - i < f
  len : acc.length + (s.length - i) ≤ s.length
  inv : kidsP (elemP D) (r4.length + 1) r4 = (kidsP (elemP D) f (s.drop i)).map fun y => (acc ++ y.1, y.2)
  own : OwnS 35 4 v Hs xs
  xlen : xs.length = acc.length * 4
  nodes : ∀ j (hj : j < acc.length), NodeC M' D acc[j] ((xs.drop (j * 4)).take 4)
  since : Since w0 M1 M'
theorem take_prefix {s p : List UInt8} (h : p.length ≤ s.length) : s.take p.length = p ↔ p.isPrefixOf s = true := by
  rw [List.isPrefixOf_iff_prefix, List.prefix_iff_eq_take]
  exact ⟨fun h => h.symm, fun h => h.symm⟩
set_option maxHeartbeats 8000000 in
theorem refelem_ok : ∀ (D : Nat) (deep : Int), deep = 9 - (D : Int) → D ≤ 8 → ∀ (M : Ghost) (s : List UInt8) (i0 : Nat) (w : World), Laid M w → s.length ≤ 100000000 → i0 ≤ s.length → Calls Tryd.prog 28 #[str s, i64 (i0 : Int), i64 deep] w (RetS M w (fun M' H v => H = [] ∧ RelemIs D s i0 M' v))
  | 0, deep, hD, hD8 => by
    intro M s i0 w hM hs hi0
    refine calls_st (l := [str s, i64 (i0 : Int), i64 deep]) hM Tryd.func28 rfl rfl rfl (E0 := [(0, true, str s), (1, true, i64 (i0 : Int)), (2, true, i64 deep)]) (params_cons rfl (params_cons rfl (params_cons rfl (params_nil _)))) ?_
    obtain rfl : deep = 9 := by omega
    repeat' (first | (first | refine wc_seq ?_ | refine wc_region ?_ | refine wl_nil ?_ | refine wn_seq ?_ | refine wn_blk ?_ | refine wc_skip ?_ | refine wc_block ?_ | refine wc_exit rfl ?_ | (show WL _ _ (_ :: _) _ _ _ _; first | refine yl_v rfl rfl rfl ?_ | refine wl_v rfl rfl rfl (by first | (show OpV _ _ _ _ (Oper.mk _ (Op.index _ _ _) _ _ _ _) _ _; exact ov_off (v := .int .u8 0) rfl) | fail) ?_ | refine xl_alloc (fun _ => ?_) | refine xl_store rfl rfl ?_ | refine xl_buildSlice rfl (fun _ => ?_)) | refine wc_ret rfl ?_) | (show WC _ (Code.cond _ _ _) _ _ _ _; (refine wc_cond rfl (fun hc => ?_) (fun hc => ?_) <;> (try (simp only [decide_eq_true_eq, decide_eq_false_iff_not, Bool.and_eq_true, Bool.or_eq_true, Bool.and_eq_false_iff, Bool.or_eq_false_iff, Bool.not_eq_true', Bool.not_eq_false', Int.not_lt, Int.not_le] at hc)) <;> (try (exfalso; first | omega | contradiction)))))
    exact yr_layC2 (Hn := []) rfl rfl rfl rfl rfl Since.refl (List.nil_sublist _) ⟨rfl, relemIs_no rfl⟩
  | D + 1, deep, hD, hD8 => by
    intro M s i0 w hM hs hi0
    refine calls_st (l := [str s, i64 (i0 : Int), i64 deep]) hM Tryd.func28 rfl rfl rfl (E0 := [(0, true, str s), (1, true, i64 (i0 : Int)), (2, true, i64 deep)]) (params_cons rfl (params_cons rfl (params_cons rfl (params_nil _)))) ?_
    repeat' (first | refine wc_seq ?_ | refine wc_region ?_ | refine wl_nil ?_ | refine wn_seq ?_ | refine wn_blk ?_ | refine wc_skip ?_ | refine wc_block ?_ | refine wc_exit rfl ?_ | (show WL _ _ (_ :: _) _ _ _ _; first | refine yl_v rfl rfl rfl ?_ | refine wl_v rfl rfl rfl (by first  | fail) ?_ | refine xl_alloc (fun _ => ?_) | refine xl_store rfl rfl ?_ | refine xl_buildSlice rfl (fun _ => ?_)) | refine wc_ret rfl ?_)
    refine wc_cond rfl (fun hc => ?_) (fun hc => ?_)
    · (simp only [decide_eq_true_eq, decide_eq_false_iff_not, Bool.and_eq_true, Bool.or_eq_true, Bool.and_eq_false_iff, Bool.or_eq_false_iff, Bool.not_eq_true', Bool.not_eq_false', Int.not_lt, Int.not_le] at hc)
      have hn : elemP (D + 1) (s.drop i0) = none := elemP_head (fun r e => by
        obtain ⟨h1, h2, h3⟩ := at_cons.1 e
        rcases hc with (hc | hc) | hc
        · omega
        · omega
        · exact hc (b60.2 h2))
      repeat' (first | (first | refine wc_seq ?_ | refine wc_region ?_ | refine wl_nil ?_ | refine wn_seq ?_ | refine wn_blk ?_ | refine wc_skip ?_ | refine wc_block ?_ | refine wc_exit rfl ?_ | (show WL _ _ (_ :: _) _ _ _ _; first | refine yl_v rfl rfl rfl ?_ | refine wl_v rfl rfl rfl (by first  | fail) ?_ | refine xl_alloc (fun _ => ?_) | refine xl_store rfl rfl ?_ | refine xl_buildSlice rfl (fun _ => ?_)) | refine wc_ret rfl ?_) | (show WC _ (Code.cond _ _ _) _ _ _ _; (refine wc_cond rfl (fun hc => ?_) (fun hc => ?_) <;> (try (simp only [decide_eq_true_eq, decide_eq_false_iff_not, Bool.and_eq_true, Bool.or_eq_true, Bool.and_eq_false_iff, Bool.or_eq_false_iff, Bool.not_eq_true', Bool.not_eq_false', Int.not_lt, Int.not_le] at hc)) <;> (try (exfalso; first | omega | contradiction)))))
      exact yr_layC2 (Hn := []) rfl rfl rfl rfl rfl Since.refl (List.nil_sublist _) ⟨rfl, relemIs_no hn⟩
    (simp only [decide_eq_true_eq, decide_eq_false_iff_not, Bool.and_eq_true, Bool.or_eq_true, Bool.and_eq_false_iff, Bool.or_eq_false_iff, Bool.not_eq_true', Bool.not_eq_false', Int.not_lt, Int.not_le] at hc)
    obtain ⟨⟨hc1, hc2⟩, hc3⟩ := hc
    have hlt : i0 < s.length := by omega
    have h60 : s.getD i0 0 = 60 := by
      refine b60.1 ?_
      exact hc3
    clear hc1 hc2 hc3
    have hr0 : s.drop i0 = 60 :: s.drop (i0 + 1) := at_cons.2 ⟨hlt, h60, rfl⟩
    have hel : elemP (D + 1) (s.drop i0) = match headP (rs isSp (s.drop (i0 + 1))) with
      | none => none
      | some (a, t, r4) => match kidsP (elemP D) (r4.length + 1) r4 with
        | none => none
        | some (k, r5) => if (closeT (wd isSp (s.drop (i0 + 1)))).isPrefixOf r5 = true then some (.mk (wd isSp (s.drop (i0 + 1))) a t k, r5.drop (closeT (wd isSp (s.drop (i0 + 1)))).length) else none := by rw [hr0]; rfl
    have hbd := rs_length isSp (s.drop (i0 + 1))
    rw [List.length_drop] at hbd
    have hat2 := rs_at isSp s (i0 + 1)
    have hnm := wd_take isSp (s.drop (i0 + 1))
    repeat' (first | refine wc_seq ?_ | refine wc_region ?_ | refine wl_nil ?_ | refine wn_seq ?_ | refine wn_blk ?_ | refine wc_skip ?_ | refine wc_block ?_ | refine wc_exit rfl ?_ | (show WL _ _ (_ :: _) _ _ _ _; first | refine yl_v rfl rfl rfl ?_ | refine wl_v rfl rfl rfl (by first  | fail) ?_ | refine xl_alloc (fun _ => ?_) | refine xl_store rfl rfl ?_ | refine xl_buildSlice rfl (fun _ => ?_)) | refine wc_ret rfl ?_)
    rename_i b6 b8
    refine wc_loop (α := { e : Nat // i0 + 1 ≤ e ∧ e ≤ i0 + 1 + (wd isSp (s.drop (i0 + 1))).length }) (fun x => [(0, true, str s), (1, true, i64 ((i0 + 1 : Nat) : Int)), (2, true, i64 deep), (6, true, .pointer (some ⟨b6, 0, none⟩)), (8, true, .pointer (some ⟨b8, 0, none⟩)), (9, true, i64 (x.1 : Int))]) (fun _ => St w [] [(b8, .cells [str [], .slice none 0 0, str [], .slice none 0 0].toArray 35 (0, 0)), (b6, .cells [str [], .slice none 0 0, str [], .slice none 0 0].toArray 35 (0, 0))] M) (fun x => s.length - x.1) ⟨i0 + 1, by omega, by omega⟩ (by first | exact Sub.nil _ | (repeat (first | exact Sub.nil _ | refine Sub.cons (by first | rfl | (simp [look]; done)) ?_))) (fun _ h => h) ?_
    rintro ⟨e1, he1, he2⟩
    dsimp only
    have hg := wd_go (p := isSp) (s := s) he1 he2
    rw [isSp_iff] at hg
    repeat' (first | refine wc_seq ?_ | refine wc_region ?_ | refine wl_nil ?_ | refine wn_seq ?_ | refine wn_blk ?_ | refine wc_skip ?_ | refine wc_block ?_ | refine wc_exit rfl ?_ | (show WL _ _ (_ :: _) _ _ _ _; first | refine yl_v rfl rfl rfl ?_ | refine wl_v rfl rfl rfl (by first  | fail) ?_ | refine xl_alloc (fun _ => ?_) | refine xl_store rfl rfl ?_ | refine xl_buildSlice rfl (fun _ => ?_)) | refine wc_ret rfl ?_)
    refine wc_cond rfl (fun hc => ?_) (fun hc => ?_)
    · (simp only [decide_eq_true_eq, decide_eq_false_iff_not, Bool.and_eq_true, Bool.or_eq_true, Bool.and_eq_false_iff, Bool.or_eq_false_iff, Bool.not_eq_true', Bool.not_eq_false', Int.not_lt, Int.not_le] at hc)
      have hlt1 := hg.1 ⟨by omega, hc.1.2, hc.2⟩
      repeat' (first | refine wc_seq ?_ | refine wc_region ?_ | refine wl_nil ?_ | refine wn_seq ?_ | refine wn_blk ?_ | refine wc_skip ?_ | refine wc_block ?_ | refine wc_exit rfl ?_ | (show WL _ _ (_ :: _) _ _ _ _; first | refine yl_v rfl rfl rfl ?_ | refine wl_v rfl rfl rfl (by first  | fail) ?_ | refine xl_alloc (fun _ => ?_) | refine xl_store rfl rfl ?_ | refine xl_buildSlice rfl (fun _ => ?_)) | refine wc_ret rfl ?_)
      exact wn_cut ⟨e1 + 1, by omega, by omega⟩ (by show s.length - (e1 + 1) < s.length - e1; omega) (by first | exact Sub.nil _ | (repeat (first | exact Sub.nil _ | refine Sub.cons (by first | rfl | (simp [look]; done)) ?_))) (fun _ h => h.drop (by repeat (first | exact List.Sublist.refl _ | apply List.Sublist.cons)))
    (simp only [decide_eq_true_eq, decide_eq_false_iff_not, Bool.and_eq_true, Bool.or_eq_true, Bool.and_eq_false_iff, Bool.or_eq_false_iff, Bool.not_eq_true', Bool.not_eq_false', Int.not_lt, Int.not_le] at hc)
    obtain rfl : e1 = i0 + 1 + (wd isSp (s.drop (i0 + 1))).length := by
      rcases Nat.lt_or_ge e1 (i0 + 1 + (wd isSp (s.drop (i0 + 1))).length) with h | h
      · exfalso
        have h3 := hg.2 h
        rcases hc with (hc | hc) | hc
        · omega
        · exact h3.2.1 hc
        · exact h3.2.2 hc
      · omega
    clear hg hc he1 he2
    rw [← hat2] at hel
    have hi1 : i0 + 1 + (wd isSp (s.drop (i0 + 1))).length ≤ s.length := by omega
    have hsl : (s.drop (i0 + 1)).take (i0 + 1 + (wd isSp (s.drop (i0 + 1))).length - (i0 + 1)) = wd isSp (s.drop (i0 + 1)) := by
      rw [Nat.add_sub_cancel_left]; exact hnm
    repeat' (first | refine wc_seq ?_ | refine wc_region ?_ | refine wl_nil ?_ | refine wn_seq ?_ | refine wn_blk ?_ | refine wc_skip ?_ | refine wc_block ?_ | refine wc_exit rfl ?_ | (show WL _ _ (_ :: _) _ _ _ _; first | refine yl_v rfl rfl rfl ?_ | refine wl_v rfl rfl rfl (by first  | fail) ?_ | refine xl_alloc (fun _ => ?_) | refine xl_store rfl rfl ?_ | refine xl_buildSlice rfl (fun _ => ?_)) | refine wc_ret rfl ?_)
    refine wc_weak (E' := [(0, true, str s), (1, true, i64 ((i0 + 1 + (wd isSp (s.drop (i0 + 1))).length : Nat) : Int)), (2, true, i64 deep), (6, true, .pointer (some ⟨b6, 0, none⟩)), (8, true, .pointer (some ⟨b8, 0, none⟩))]) (C' := St w [] [(b8, .cells [str (wd isSp (s.drop (i0 + 1))), .slice none 0 0, str [], .slice none 0 0].toArray 35 (0, 0)), (b6, .cells [str [], .slice none 0 0, str [], .slice none 0 0].toArray 35 (0, 0))] M) (by first | exact Sub.nil _ | (repeat (first | exact Sub.nil _ | refine Sub.cons (by first | rfl | (simp [look]; done)) ?_))) (fun w' h => by rw [hsl] at h; exact h) ?_
    have hnml : (wd isSp (s.drop (i0 + 1))).length ≤ s.length := by omega
    clear hsl hat2 hnm hbd
    generalize wd isSp (s.drop (i0 + 1)) = nm at *
    generalize i0 + 1 + nm.length = i1 at *
    refine wc_loop (α := RA s (s.drop i1)) (fun x => [(0, true, str s), (1, true, i64 (x.i : Int)), (2, true, i64 deep), (6, true, .pointer (some ⟨b6, 0, none⟩)), (8, true, .pointer (some ⟨b8, 0, none⟩))]) (fun x => St w [] ((b8, .cells [str nm, x.v, str [], .slice none 0 0].toArray 35 (0, 0)) :: (b6, .cells [str [], .slice none 0 0, str [], .slice none 0 0].toArray 35 (0, 0)) :: x.Hs) M) (fun x => x.f) ⟨s.length - i1, i1, [], .slice none 0 0, [], hi1, Nat.le_refl _, by rw [List.length_drop]; simp, by simp, OwnS.nil⟩ (by first | exact Sub.nil _ | (repeat (first | exact Sub.nil _ | refine Sub.cons (by first | rfl | (simp [look]; done)) ?_))) (fun _ h => h) ?_
    rintro ⟨f, i, acc, v, Hs, le, fuel, inv, len, own⟩
    dsimp only
    obtain ⟨va, vcap, rfl⟩ := own.slice (k := acc.length) (by decide) (cellsP_length _)
    have failA : attrsP ((s.drop i1).length + 1) (s.drop i1) = none → elemP (D + 1) (s.drop i0) = none := fun h => by rw [hel]; unfold headP; rw [h]
    repeat' (first | refine wc_seq ?_ | refine wc_region ?_ | refine wl_nil ?_ | refine wn_seq ?_ | refine wn_blk ?_ | refine wc_skip ?_ | refine wc_block ?_ | refine wc_exit rfl ?_ | (show WL _ _ (_ :: _) _ _ _ _; first | refine yl_v rfl rfl rfl ?_ | refine wl_v rfl rfl rfl (by first  | fail) ?_ | refine xl_alloc (fun _ => ?_) | refine xl_store rfl rfl ?_ | refine xl_buildSlice rfl (fun _ => ?_)) | refine wc_ret rfl ?_)
    refine wc_cond rfl (fun hc => ?_) (fun hc => ?_)
    · (simp only [decide_eq_true_eq, decide_eq_false_iff_not, Bool.and_eq_true, Bool.or_eq_true, Bool.and_eq_false_iff, Bool.or_eq_false_iff, Bool.not_eq_true', Bool.not_eq_false', Int.not_lt, Int.not_le] at hc)
      have hli : i < s.length := by omega
      have h32 : s.drop i = 32 :: s.drop (i + 1) := at_cons.2 ⟨hli, b32.1 hc.2, rfl⟩
      rw [h32, attrsP] at inv
      have hk0 : i + (wd (isC 61) (s.drop i)).length = i + 1 + (wd (isC 61) (s.drop (i + 1))).length := by
        rw [h32]
        show i + (32 :: wd (isC 61) (s.drop (i + 1))).length = _
        rw [List.length_cons]; omega
      have hto := fun {w : World} (hw : Laid M w) => rto_ok hw s i 61 hs le
      rw [hk0] at hto
      have hkl := rs_length (isC 61) (s.drop (i + 1))
      rw [List.length_drop] at hkl
      have hat3 := rs_at (isC 61) s (i + 1)
      have hkey := wd_take (isC 61) (s.drop (i + 1))
      have hkx : i + 1 + (wd (isC 61) (s.drop (i + 1))).length ≤ s.length := by omega
      have hslk : (s.drop (i + 1)).take (i + 1 + (wd (isC 61) (s.drop (i + 1))).length - (i + 1)) = wd (isC 61) (s.drop (i + 1)) := by rw [Nat.add_sub_cancel_left]; exact hkey
      have hst := rs_stop (isC 61) (s.drop (i + 1))
      rw [← hat3] at hst
      clear hkey hk0 hkl
      repeat' (first | refine wc_seq ?_ | refine wc_region ?_ | refine wl_nil ?_ | refine wn_seq ?_ | refine wn_blk ?_ | refine wc_skip ?_ | refine wc_block ?_ | refine wc_exit rfl ?_ | (show WL _ _ (_ :: _) _ _ _ _; first | refine yl_v rfl rfl rfl ?_ | refine wl_v rfl rfl rfl (by first | ((show OpV _ _ _ _ (Oper.mk _ (Op.call ⟨.value (.func 43), _, _⟩) _ _ _ _) _ _; exact ov_call Tryd.call43 rfl (by intro himp; first | rfl | (simp_all; done)) (by rfl) (fun _ _ h k => h.ext k) (fun hcg w hw => hto hw.laid))) | fail) ?_ | refine xl_alloc (fun _ => ?_) | refine xl_store rfl rfl ?_ | refine xl_buildSlice rfl (fun _ => ?_)) | refine wc_ret rfl ?_)
      have hno1 := attrP_no1 (r := s.drop (i + 1))
      have hno2 := fun {r2 : List UInt8} => attrP_no2 (r := s.drop (i + 1)) (r2 := r2)
      have hno3 := fun {r2 v : List UInt8} => attrP_no3 (r := s.drop (i + 1)) (r2 := r2) (v := v)
      have hyes := fun {r2 v r4 : List UInt8} => attrP_yes (r := s.drop (i + 1)) (r2 := r2) (v := v) (r4 := r4)
      rw [← hat3] at hno1 hno2 hno3 hyes
      clear hat3
      clear hto
      have failP : attrP (s.drop (i + 1)) = none → elemP (D + 1) (s.drop i0) = none := fun h => failA (by rw [inv, h]; rfl)
      have hik : i + 1 ≤ i + 1 + (wd (isC 61) (s.drop (i + 1))).length := by omega
      have hklen : (wd (isC 61) (s.drop (i + 1))).length ≤ s.length := by omega
      generalize wd (isC 61) (s.drop (i + 1)) = key at *
      generalize i + 1 + key.length = k at *
      refine wc_cond rfl (fun hc => ?_) (fun hc => ?_)
      · (simp only [decide_eq_true_eq, decide_eq_false_iff_not, Bool.and_eq_true, Bool.or_eq_true, Bool.and_eq_false_iff, Bool.or_eq_false_iff, Bool.not_eq_true', Bool.not_eq_false', Int.not_lt, Int.not_le] at hc)
        have hn := failP (hno1 (fun q e => by
          obtain ⟨g1, g2, g3⟩ := at_cons.1 e
          obtain ⟨g4, g5, g6⟩ := at_cons.1 g3
          rcases hc with hc | hc
          · omega
          · exact hc (b34.2 g5)))
        repeat' (first | (first | refine wc_seq ?_ | refine wc_region ?_ | refine wl_nil ?_ | refine wn_seq ?_ | refine wn_blk ?_ | refine wc_skip ?_ | refine wc_block ?_ | refine wc_exit rfl ?_ | (show WL _ _ (_ :: _) _ _ _ _; first | refine yl_v rfl rfl rfl ?_ | refine wl_v rfl rfl rfl (by first  | fail) ?_ | refine xl_alloc (fun _ => ?_) | refine xl_store rfl rfl ?_ | refine xl_buildSlice rfl (fun _ => ?_)) | refine wc_ret rfl ?_) | (show WC _ (Code.cond _ _ _) _ _ _ _; (refine wc_cond rfl (fun hc => ?_) (fun hc => ?_) <;> (try (simp only [decide_eq_true_eq, decide_eq_false_iff_not, Bool.and_eq_true, Bool.or_eq_true, Bool.and_eq_false_iff, Bool.or_eq_false_iff, Bool.not_eq_true', Bool.not_eq_false', Int.not_lt, Int.not_le] at hc)) <;> (try (exfalso; first | omega | contradiction)))))
        exact yr_layC2 (Hn := []) rfl rfl rfl rfl rfl Since.refl (List.nil_sublist _) ⟨rfl, relemIs_no hn⟩
      (simp only [decide_eq_true_eq, decide_eq_false_iff_not, Bool.and_eq_true, Bool.or_eq_true, Bool.and_eq_false_iff, Bool.or_eq_false_iff, Bool.not_eq_true', Bool.not_eq_false', Int.not_lt, Int.not_le] at hc)
      have hk1 : k + 1 < s.length := by omega
      have hk34 : s.getD (k + 1) 0 = 34 := b34.1 hc.2
      have h61 : s.drop k = 61 :: 34 :: s.drop (k + 2) := by
        have h2 : s.drop (k + 1) = 34 :: s.drop (k + 2) := at_cons.2 ⟨hk1, hk34, rfl⟩
        rcases hst with h | ⟨c, t, h, hcc⟩
        · have := congrArg List.length h
          rw [List.length_drop, List.length_nil] at this; omega
        · obtain ⟨g1, g2, g3⟩ := at_cons.1 h
          rw [isC_self hcc] at g2
          rw [← h2]; exact at_cons.2 ⟨g1, g2, rfl⟩
      have hto := fun {w : World} (hw : Laid M w) => rto_ok hw s (k + 2) 34 hs (by omega)
      have hql := rs_length (isC 34) (s.drop (k + 2))
      rw [List.length_drop] at hql
      have hat4 := rs_at (isC 34) s (k + 2)
      have hval := wd_take (isC 34) (s.drop (k + 2))
      have hslv : (s.drop (k + 2)).take (k + 2 + (wd (isC 34) (s.drop (k + 2))).length - (k + 2)) = wd (isC 34) (s.drop (k + 2)) := by rw [Nat.add_sub_cancel_left]; exact hval
      have hst4 := rs_stop (isC 34) (s.drop (k + 2))
      have hno2 := hno2 h61
      have hno3 := fun {v : List UInt8} => hno3 (v := v) h61
      have hyes := fun {v r4 : List UInt8} => hyes (v := v) (r4 := r4) h61
      rw [← hat4] at hst4 hno3 hyes
      have hqx : k + 2 + (wd (isC 34) (s.drop (k + 2))).length ≤ s.length := by omega
      have hvl : (wd (isC 34) (s.drop (k + 2))).length ≤ s.length := by omega
      clear hat4 hval hql hno1 hst
      repeat' (first | refine wc_seq ?_ | refine wc_region ?_ | refine wl_nil ?_ | refine wn_seq ?_ | refine wn_blk ?_ | refine wc_skip ?_ | refine wc_block ?_ | refine wc_exit rfl ?_ | (show WL _ _ (_ :: _) _ _ _ _; first | refine yl_v rfl rfl rfl ?_ | refine wl_v rfl rfl rfl (by first | ((show OpV _ _ _ _ (Oper.mk _ (Op.call ⟨.value (.func 43), _, _⟩) _ _ _ _) _ _; exact ov_call Tryd.call43 rfl (by intro himp; first | rfl | (simp_all; done)) (by rfl) (fun _ _ h k => h.ext k) (fun hcg w hw => hto hw.laid))) | fail) ?_ | refine xl_alloc (fun _ => ?_) | refine xl_store rfl rfl ?_ | refine xl_buildSlice rfl (fun _ => ?_)) | refine wc_ret rfl ?_)
      clear hto
      have hkq : k + 2 ≤ k + 2 + (wd (isC 34) (s.drop (k + 2))).length := by omega
      generalize wd (isC 34) (s.drop (k + 2)) = vv at *
      generalize k + 2 + vv.length = q at *
      refine wc_cond rfl (fun hc => ?_) (fun hc => ?_)
      · (simp only [decide_eq_true_eq, decide_eq_false_iff_not, Bool.and_eq_true, Bool.or_eq_true, Bool.and_eq_false_iff, Bool.or_eq_false_iff, Bool.not_eq_true', Bool.not_eq_false', Int.not_lt, Int.not_le] at hc)
        have hn : elemP (D + 1) (s.drop i0) = none := by
          refine failP ?_
          cases hu : unescQ vv with
          | none => exact hno2 hu
          | some x =>
            refine hno3 hu (fun t e => ?_)
            have := congrArg List.length e
            rw [List.length_drop, List.length_cons] at this; omega
        repeat' (first | (first | refine wc_seq ?_ | refine wc_region ?_ | refine wl_nil ?_ | refine wn_seq ?_ | refine wn_blk ?_ | refine wc_skip ?_ | refine wc_block ?_ | refine wc_exit rfl ?_ | (show WL _ _ (_ :: _) _ _ _ _; first | refine yl_v rfl rfl rfl ?_ | refine wl_v rfl rfl rfl (by first  | fail) ?_ | refine xl_alloc (fun _ => ?_) | refine xl_store rfl rfl ?_ | refine xl_buildSlice rfl (fun _ => ?_)) | refine wc_ret rfl ?_) | (show WC _ (Code.cond _ _ _) _ _ _ _; (refine wc_cond rfl (fun hc => ?_) (fun hc => ?_) <;> (try (simp only [decide_eq_true_eq, decide_eq_false_iff_not, Bool.and_eq_true, Bool.or_eq_true, Bool.and_eq_false_iff, Bool.or_eq_false_iff, Bool.not_eq_true', Bool.not_eq_false', Int.not_lt, Int.not_le] at hc)) <;> (try (exfalso; first | omega | contradiction)))))
        exact yr_layC2 (Hn := []) rfl rfl rfl rfl rfl Since.refl (List.nil_sublist _) ⟨rfl, relemIs_no hn⟩
      (simp only [decide_eq_true_eq, decide_eq_false_iff_not, Bool.and_eq_true, Bool.or_eq_true, Bool.and_eq_false_iff, Bool.or_eq_false_iff, Bool.not_eq_true', Bool.not_eq_false', Int.not_lt, Int.not_le] at hc)
      have hqlt : q < s.length := by omega
      have h34 : s.drop q = 34 :: s.drop (q + 1) := by
        rcases hst4 with h | ⟨c, t, h, hcc⟩
        · have := congrArg List.length h
          rw [List.length_drop, List.length_nil] at this; omega
        · obtain ⟨g1, g2, g3⟩ := at_cons.1 h
          rw [isC_self hcc] at g2
          exact at_cons.2 ⟨g1, g2, rfl⟩
      have hun := fun {w : World} (hw : Laid M w) => runescape_ok hw vv (by omega)
      rw [← hslv] at hun
      cases hu : unescQ vv with
      | none =>
        have hn := failP (hno2 hu)
        have hun : ∀ {w : World}, Laid M w → Calls Tryd.prog 44 #[str ((s.drop (k + 2)).take (q - (k + 2)))] w (RetE w (.tuple #[str [], i64 10])) := fun h => by have := hun h; rw [hslv, hu] at this; rw [hslv]; exact this
        repeat' (first | (first | refine wc_seq ?_ | refine wc_region ?_ | refine wl_nil ?_ | refine wn_seq ?_ | refine wn_blk ?_ | refine wc_skip ?_ | refine wc_block ?_ | refine wc_exit rfl ?_ | (show WL _ _ (_ :: _) _ _ _ _; first | refine yl_v rfl rfl rfl ?_ | refine wl_v rfl rfl rfl (by first | ((show OpV _ _ _ _ (Oper.mk _ (Op.call ⟨.value (.func 44), _, _⟩) _ _ _ _) _ _; exact ov_call Tryd.call44 rfl (by intro himp; first | rfl | (simp_all; done)) (by rfl) (fun _ _ h k => h.ext k) (fun hcg w hw => hun hw.laid))) | fail) ?_ | refine xl_alloc (fun _ => ?_) | refine xl_store rfl rfl ?_ | refine xl_buildSlice rfl (fun _ => ?_)) | refine wc_ret rfl ?_) | (show WC _ (Code.cond _ _ _) _ _ _ _; (refine wc_cond rfl (fun hc => ?_) (fun hc => ?_) <;> (try (simp only [decide_eq_true_eq, decide_eq_false_iff_not, Bool.and_eq_true, Bool.or_eq_true, Bool.and_eq_false_iff, Bool.or_eq_false_iff, Bool.not_eq_true', Bool.not_eq_false', Int.not_lt, Int.not_le] at hc)) <;> (try (exfalso; first | omega | contradiction)))))
        exact yr_layC2 (Hn := []) rfl rfl rfl rfl rfl Since.refl (List.nil_sublist _) ⟨rfl, relemIs_no hn⟩
      | some val =>
        have hvl2 := unescQ_len hu
        have hun : ∀ {w : World}, Laid M w → Calls Tryd.prog 44 #[str ((s.drop (k + 2)).take (q - (k + 2)))] w (RetE w (.tuple #[str val, i64 0])) := fun h => by have := hun h; rw [hslv, hu] at this; rw [hslv]; exact this
        have hy := hyes hu h34
        rw [hy] at inv
        repeat' (first | (first | refine wc_seq ?_ | refine wc_region ?_ | refine wl_nil ?_ | refine wn_seq ?_ | refine wn_blk ?_ | refine wc_skip ?_ | refine wc_block ?_ | refine wc_exit rfl ?_ | (show WL _ _ (_ :: _) _ _ _ _; first | refine yl_v rfl rfl rfl ?_ | refine wl_v rfl rfl rfl (by first | ((show OpV _ _ _ _ (Oper.mk _ (Op.call ⟨.value (.func 44), _, _⟩) _ _ _ _) _ _; exact ov_call Tryd.call44 rfl (by intro himp; first | rfl | (simp_all; done)) (by rfl) (fun _ _ h k => h.ext k) (fun hcg w hw => hun hw.laid))) | fail) ?_ | refine xl_alloc (fun _ => ?_) | refine xl_store rfl rfl ?_ | refine xl_buildSlice rfl (fun _ => ?_)) | refine wc_ret rfl ?_) | (show WC _ (Code.cond _ _ _) _ _ _ _; (refine wc_cond rfl (fun hc => ?_) (fun hc => ?_) <;> (try (simp only [decide_eq_true_eq, decide_eq_false_iff_not, Bool.and_eq_true, Bool.or_eq_true, Bool.and_eq_false_iff, Bool.or_eq_false_iff, Bool.not_eq_true', Bool.not_eq_false', Int.not_lt, Int.not_le] at hc)) <;> (try (exfalso; first | omega | contradiction)))))
        match f, fuel, inv with
        | 0, fuel, _ => exfalso; omega
        | f + 1, fuel, inv =>
          refine wc_weak (E' := [(0, true, str s), (1, true, i64 (i : Int)), (2, true, i64 deep), (6, true, .pointer (some ⟨b6, 0, none⟩)), (8, true, .pointer (some ⟨b8, 0, none⟩)), (10, true, i64 (k : Int)), (11, true, i64 (q : Int)), (12, true, str val)]) (C' := St w [] (Hs ++ [(b8, .cells [str nm, .slice va acc.length vcap, str [], .slice none 0 0].toArray 35 (0, 0)), (b6, .cells [str [], .slice none 0 0, str [], .slice none 0 0].toArray 35 (0, 0))]) M) (by first | exact Sub.nil _ | (repeat (first | exact Sub.nil _ | refine Sub.cons (by first | rfl | (simp [look]; done)) ?_))) (fun _ h => h.perm (List.perm_append_comm (l₂ := [_, _]))) ?_
          refine wc_draw 10 (by kernel_rfl) rfl (by kernel_rfl) (fun _ _ h k => h.ext k) ?_
          repeat' (first | (show WD _ _ (_ :: _) _ _ _ _ _ _; first | refine yd_v rfl rfl rfl rfl rfl rfl ?_ | refine wd_v rfl rfl rfl rfl rfl rfl (by first  | fail) ?_ | refine yd_new rfl rfl rfl rfl rfl rfl ?_ | refine wd_conv rfl rfl rfl rfl rfl rfl rfl rfl rfl rfl ?_) | (show WD _ _ _ _ _ _ _ _ _; first | refine wd_nil ?_ | refine wd_nil1 (wl_fresh (fun _ => ?_))) | (first | refine wc_seq ?_ | refine wc_region ?_ | refine wl_nil ?_ | refine wn_seq ?_ | refine wn_blk ?_ | refine wc_skip ?_ | refine wc_block ?_ | refine wc_exit rfl ?_ | (show WL _ _ (_ :: _) _ _ _ _; first | refine yl_v rfl rfl rfl ?_ | refine wl_v rfl rfl rfl (by first  | fail) ?_ | refine xl_alloc (fun _ => ?_) | refine xl_store rfl rfl ?_ | refine xl_buildSlice rfl (fun _ => ?_)) | refine wc_ret rfl ?_))
          refine y_append (news := [str ((s.drop (i + 1)).take (k - (i + 1))), str val]) (H0 := [(b8, .cells [str nm, .slice va acc.length vcap, str [], .slice none 0 0].toArray 35 (0, 0)), (b6, .cells [str [], .slice none 0 0, str [], .slice none 0 0].toArray 35 (0, 0))]) rfl own rfl rfl rfl rfl rfl rfl rfl rfl rfl rfl rfl rfl (by rw [cellsP_length]; omega) rfl ?_
          intro v' Hs' ho'
          rw [hslk, ← cellsP_snoc acc (key, val)] at ho'
          refine wl_weak (C' := St w [] ((b8, .cells [str nm, .slice va acc.length vcap, str [], .slice none 0 0].toArray 35 (0, 0)) :: (b6, .cells [str [], .slice none 0 0, str [], .slice none 0 0].toArray 35 (0, 0)) :: Hs') M) (Eng.Sub.refl _) (fun w' h => (h.drop (H' := Hs' ++ [(b8, .cells [str nm, .slice va acc.length vcap, str [], .slice none 0 0].toArray 35 (0, 0)), (b6, .cells [str [], .slice none 0 0, str [], .slice none 0 0].toArray 35 (0, 0))]) (List.Sublist.append (List.Sublist.refl _) (by repeat (first | exact List.Sublist.refl _ | apply List.Sublist.cons)))).perm (List.perm_append_comm (l₁ := [_, _]))) ?_
          obtain ⟨va2, vcap2, rfl⟩ := ho'.slice (k := acc.length + 1) (by decide) (by rw [cellsP_length]; simp)
          repeat' (first | (first | refine wc_seq ?_ | refine wc_region ?_ | refine wl_nil ?_ | refine wn_seq ?_ | refine wn_blk ?_ | refine wc_skip ?_ | refine wc_block ?_ | refine wc_exit rfl ?_ | (show WL _ _ (_ :: _) _ _ _ _; first | refine yl_v rfl rfl rfl ?_ | refine wl_v rfl rfl rfl (by first  | fail) ?_ | refine xl_alloc (fun _ => ?_) | refine xl_store rfl rfl ?_ | refine xl_buildSlice rfl (fun _ => ?_)) | refine wc_ret rfl ?_) | (show WC _ (Code.cond _ _ _) _ _ _ _; (refine wc_cond rfl (fun hc => ?_) (fun hc => ?_) <;> (try (simp only [decide_eq_true_eq, decide_eq_false_iff_not, Bool.and_eq_true, Bool.or_eq_true, Bool.and_eq_false_iff, Bool.or_eq_false_iff, Bool.not_eq_true', Bool.not_eq_false', Int.not_lt, Int.not_le] at hc)) <;> (try (exfalso; first | omega | contradiction)))))
          refine wn_cut ⟨f, q + 1, acc ++ [(key, val)], .slice va2 (acc.length + 1) vcap2, Hs', by omega, by omega, ?_, by rw [List.length_append, List.length_singleton]; omega, ho'⟩ (by show f < f + 1; omega) (by first | exact Sub.nil _ | (repeat (first | exact Sub.nil _ | refine Sub.cons (by first | rfl | (simp [look]; done)) ?_))) (fun _ h => h)
          rw [inv]
          show Option.map _ (Option.map _ (attrsP (f + 1) (s.drop (q + 1)))) = _
          rw [Option.map_map]
          congr 1
          funext x
          simp
    (simp only [decide_eq_true_eq, decide_eq_false_iff_not, Bool.and_eq_true, Bool.or_eq_true, Bool.and_eq_false_iff, Bool.or_eq_false_iff, Bool.not_eq_true', Bool.not_eq_false', Int.not_lt, Int.not_le] at hc)
    have hex : attrsP ((s.drop i1).length + 1) (s.drop i1) = some (acc, s.drop i) := by
      rw [inv]
      have : attrsP (f + 1) (s.drop i) = some ([], s.drop i) := by
        unfold attrsP
        split
        · rename_i r e
          obtain ⟨g1, g2, g3⟩ := at_cons.1 e
          exfalso
          rcases hc with hc | hc
          · omega
          · exact hc (b32.2 g2)
        · rfl
      rw [this]; simp
    have hsmall : ∀ p ∈ acc, p.1.length + p.2.length ≤ s.length := fun p hp => by
      have h1 := attrT_small hp
      have h2 := congrArg List.length (attrsP_text hex)
      rw [List.length_drop, List.length_append] at h2
      omega
    clear inv failA fuel hc
    repeat' (first | refine wc_seq ?_ | refine wc_region ?_ | refine wl_nil ?_ | refine wn_seq ?_ | refine wn_blk ?_ | refine wc_skip ?_ | refine wc_block ?_ | refine wc_exit rfl ?_ | (show WL _ _ (_ :: _) _ _ _ _; first | refine yl_v rfl rfl rfl ?_ | refine wl_v rfl rfl rfl (by first  | fail) ?_ | refine xl_alloc (fun _ => ?_) | refine xl_store rfl rfl ?_ | refine xl_buildSlice rfl (fun _ => ?_)) | refine wc_ret rfl ?_)
    refine wc_weak (C' := St w [] (Hs ++ [(b8, .cells [str nm, .slice va acc.length vcap, str [], .slice none 0 0].toArray 35 (0, 0)), (b6, .cells [str [], .slice none 0 0, str [], .slice none 0 0].toArray 35 (0, 0))]) M) (Eng.Sub.refl _) (fun _ h => h.perm (List.perm_append_comm (l₂ := [_, _]))) ?_
    refine wc_publish (fun hnew => ?_)
    have hsl : SlP (With M Hs) (.slice va acc.length vcap) acc := own.slP (fun p hp => .inr hp) (by omega)
    have hM1 : Since w M (With M Hs) := since_new Since.refl hnew
    clear own hnew
    generalize With M Hs = M1 at *
    refine wc_cond rfl (fun hc => ?_) (fun hc => ?_)
    · (simp only [decide_eq_true_eq, decide_eq_false_iff_not, Bool.and_eq_true, Bool.or_eq_true, Bool.and_eq_false_iff, Bool.or_eq_false_iff, Bool.not_eq_true', Bool.not_eq_false', Int.not_lt, Int.not_le] at hc)
      have hn : elemP (D + 1) (s.drop i0) = none := by
        have : headP (s.drop i1) = none := by
          unfold headP; rw [hex]
          simp only
          split
          · rename_i r3 e
            obtain ⟨g1, g2, g3⟩ := at_cons.1 e
            exfalso
            rcases hc with hc | hc
            · omega
            · exact hc (b62.2 g2)
          · rfl
        rw [hel, this]
      repeat' (first | (first | refine wc_seq ?_ | refine wc_region ?_ | refine wl_nil ?_ | refine wn_seq ?_ | refine wn_blk ?_ | refine wc_skip ?_ | refine wc_block ?_ | refine wc_exit rfl ?_ | (show WL _ _ (_ :: _) _ _ _ _; first | refine yl_v rfl rfl rfl ?_ | refine wl_v rfl rfl rfl (by first  | fail) ?_ | refine xl_alloc (fun _ => ?_) | refine xl_store rfl rfl ?_ | refine xl_buildSlice rfl (fun _ => ?_)) | refine wc_ret rfl ?_) | (show WC _ (Code.cond _ _ _) _ _ _ _; (refine wc_cond rfl (fun hc => ?_) (fun hc => ?_) <;> (try (simp only [decide_eq_true_eq, decide_eq_false_iff_not, Bool.and_eq_true, Bool.or_eq_true, Bool.and_eq_false_iff, Bool.or_eq_false_iff, Bool.not_eq_true', Bool.not_eq_false', Int.not_lt, Int.not_le] at hc)) <;> (try (exfalso; first | omega | contradiction)))))
      exact yr_layC2 (Hn := []) rfl rfl rfl rfl rfl hM1 (List.nil_sublist _) ⟨rfl, relemIs_no hn⟩
    (simp only [decide_eq_true_eq, decide_eq_false_iff_not, Bool.and_eq_true, Bool.or_eq_true, Bool.and_eq_false_iff, Bool.or_eq_false_iff, Bool.not_eq_true', Bool.not_eq_false', Int.not_lt, Int.not_le] at hc)
    have hil : i < s.length := by omega
    have h62 : s.drop i = 62 :: s.drop (i + 1) := at_cons.2 ⟨hil, b62.1 hc.2, rfl⟩
    rw [h62] at hex
    clear hc h62
    have hto := fun {w : World} (hw : Laid M1 w) => rto_ok hw s (i + 1) 60 hs (by omega)
    have hjl := rs_length (isC 60) (s.drop (i + 1))
    rw [List.length_drop] at hjl
    have hat5 := rs_at (isC 60) s (i + 1)
    have htake := wd_take (isC 60) (s.drop (i + 1))
    have hslt : (s.drop (i + 1)).take (i + 1 + (wd (isC 60) (s.drop (i + 1))).length - (i + 1)) = wd (isC 60) (s.drop (i + 1)) := by rw [Nat.add_sub_cancel_left]; exact htake
    have hun := fun {w : World} (hw : Laid M1 w) => runescape_ok hw (wd (isC 60) (s.drop (i + 1))) (by omega)
    rw [← hslt] at hun
    have hjx : i + 1 + (wd (isC 60) (s.drop (i + 1))).length ≤ s.length := by omega
    have hij : i + 1 ≤ i + 1 + (wd (isC 60) (s.drop (i + 1))).length := by omega
    have hvl : (wd (isC 60) (s.drop (i + 1))).length ≤ s.length := by omega
    cases hu : unescQ (wd (isC 60) (s.drop (i + 1))) with
    | none =>
      have hn : elemP (D + 1) (s.drop i0) = none := by
        have : headP (s.drop i1) = none := by
          unfold headP; rw [hex]
          simp only [hu]
        rw [hel, this]
      have hun : ∀ {w : World}, Laid M1 w → Calls Tryd.prog 44 #[str ((s.drop (i + 1)).take (i + 1 + (wd (isC 60) (s.drop (i + 1))).length - (i + 1)))] w (RetE w (.tuple #[str [], i64 10])) := fun h => by have := hun h; rw [hslt, hu] at this; rw [hslt]; exact this
      clear hslt htake hat5 hu
      generalize wd (isC 60) (s.drop (i + 1)) = vv at *
      generalize i + 1 + vv.length = j at *
      repeat' (first | (first | refine wc_seq ?_ | refine wc_region ?_ | refine wl_nil ?_ | refine wn_seq ?_ | refine wn_blk ?_ | refine wc_skip ?_ | refine wc_block ?_ | refine wc_exit rfl ?_ | (show WL _ _ (_ :: _) _ _ _ _; first | refine yl_v rfl rfl rfl ?_ | refine wl_v rfl rfl rfl (by first | ((show OpV _ _ _ _ (Oper.mk _ (Op.call ⟨.value (.func 43), _, _⟩) _ _ _ _) _ _; exact ov_call Tryd.call43 rfl (by intro himp; first | rfl | (simp_all; done)) (by rfl) (fun _ _ h k => h.ext k) (fun hcg w hw => hto hw.laid))) | ((show OpV _ _ _ _ (Oper.mk _ (Op.call ⟨.value (.func 44), _, _⟩) _ _ _ _) _ _; exact ov_call Tryd.call44 rfl (by intro himp; first | rfl | (simp_all; done)) (by rfl) (fun _ _ h k => h.ext k) (fun hcg w hw => hun hw.laid))) | fail) ?_ | refine xl_alloc (fun _ => ?_) | refine xl_store rfl rfl ?_ | refine xl_buildSlice rfl (fun _ => ?_)) | refine wc_ret rfl ?_) | (show WC _ (Code.cond _ _ _) _ _ _ _; (refine wc_cond rfl (fun hc => ?_) (fun hc => ?_) <;> (try (simp only [decide_eq_true_eq, decide_eq_false_iff_not, Bool.and_eq_true, Bool.or_eq_true, Bool.and_eq_false_iff, Bool.or_eq_false_iff, Bool.not_eq_true', Bool.not_eq_false', Int.not_lt, Int.not_le] at hc)) <;> (try (exfalso; first | omega | contradiction)))))
      exact yr_layC2 (Hn := []) rfl rfl rfl rfl rfl hM1 (List.nil_sublist _) ⟨rfl, relemIs_no hn⟩
    | some tx =>
      have htx := unescQ_len hu
      have hun : ∀ {w : World}, Laid M1 w → Calls Tryd.prog 44 #[str ((s.drop (i + 1)).take (i + 1 + (wd (isC 60) (s.drop (i + 1))).length - (i + 1)))] w (RetE w (.tuple #[str tx, i64 0])) := fun h => by have := hun h; rw [hslt, hu] at this; rw [hslt]; exact this
      have hhd : headP (s.drop i1) = some (acc, tx, rs (isC 60) (s.drop (i + 1))) := by
        unfold headP; rw [hex]
        simp only [hu]
      rw [hhd, ← hat5] at hel
      simp only at hel
      clear hslt htake hat5 hu hhd hex
      generalize wd (isC 60) (s.drop (i + 1)) = vv at *
      generalize i + 1 + vv.length = j at *
      repeat' (first | (first | refine wc_seq ?_ | refine wc_region ?_ | refine wl_nil ?_ | refine wn_seq ?_ | refine wn_blk ?_ | refine wc_skip ?_ | refine wc_block ?_ | refine wc_exit rfl ?_ | (show WL _ _ (_ :: _) _ _ _ _; first | refine yl_v rfl rfl rfl ?_ | refine wl_v rfl rfl rfl (by first | ((show OpV _ _ _ _ (Oper.mk _ (Op.call ⟨.value (.func 43), _, _⟩) _ _ _ _) _ _; exact ov_call Tryd.call43 rfl (by intro himp; first | rfl | (simp_all; done)) (by rfl) (fun _ _ h k => h.ext k) (fun hcg w hw => hto hw.laid))) | ((show OpV _ _ _ _ (Oper.mk _ (Op.call ⟨.value (.func 44), _, _⟩) _ _ _ _) _ _; exact ov_call Tryd.call44 rfl (by intro himp; first | rfl | (simp_all; done)) (by rfl) (fun _ _ h k => h.ext k) (fun hcg w hw => hun hw.laid))) | fail) ?_ | refine xl_alloc (fun _ => ?_) | refine xl_store rfl rfl ?_ | refine xl_buildSlice rfl (fun _ => ?_)) | refine wc_ret rfl ?_) | (show WC _ (Code.cond _ _ _) _ _ _ _; (refine wc_cond rfl (fun hc => ?_) (fun hc => ?_) <;> (try (simp only [decide_eq_true_eq, decide_eq_false_iff_not, Bool.and_eq_true, Bool.or_eq_true, Bool.and_eq_false_iff, Bool.or_eq_false_iff, Bool.not_eq_true', Bool.not_eq_false', Int.not_lt, Int.not_le] at hc)) <;> (try (exfalso; first | omega | contradiction)))))
      refine wc_loop (α := RK D M1 s (s.drop j) w) (fun x => [(0, true, str s), (1, true, i64 (x.i : Int)), (2, true, i64 deep), (6, true, .pointer (some ⟨b6, 0, none⟩)), (8, true, .pointer (some ⟨b8, 0, none⟩))]) (fun x => St w [] ((b8, .cells [str nm, .slice va acc.length vcap, str tx, x.v].toArray 35 (0, 0)) :: (b6, .cells [str [], .slice none 0 0, str [], .slice none 0 0].toArray 35 (0, 0)) :: x.Hs) x.M') (fun x => x.f) ⟨s.length - j + 1, j, [], .slice none 0 0, [], [], M1, hjx, by omega, by simp, by rw [List.length_drop]; simp, OwnS.nil, rfl, fun q hq => absurd hq (by simp), Since.refl⟩ (by first | exact Sub.nil _ | (repeat (first | exact Sub.nil _ | refine Sub.cons (by first | rfl | (simp [look]; done)) ?_))) (fun _ h => h) ?_
      rintro ⟨f, i2, kacc, v, Hk, xs, M2, le2, fuel, len2, inv, own, xlen, nodes, since⟩
      dsimp only
      obtain ⟨va2, vcap2, rfl⟩ := own.slice (k := kacc.length) (by decide) xlen
      have hM2 : Since w M M2 := hM1.step since.1 since.2
      match f, fuel, inv with
      | 0, fuel, _ => exfalso; omega
      | f + 1, fuel, inv =>
      repeat' (first | refine wc_seq ?_ | refine wc_region ?_ | refine wl_nil ?_ | refine wn_seq ?_ | refine wn_blk ?_ | refine wc_skip ?_ | refine wc_block ?_ | refine wc_exit rfl ?_ | (show WL _ _ (_ :: _) _ _ _ _; first | refine yl_v rfl rfl rfl ?_ | refine wl_v rfl rfl rfl (by first  | fail) ?_ | refine xl_alloc (fun _ => ?_) | refine xl_store rfl rfl ?_ | refine xl_buildSlice rfl (fun _ => ?_)) | refine wc_ret rfl ?_)
      refine wc_cond rfl (fun hc => ?_) (fun hc => ?_)
      · (simp only [decide_eq_true_eq, decide_eq_false_iff_not, Bool.and_eq_true, Bool.or_eq_true, Bool.and_eq_false_iff, Bool.or_eq_false_iff, Bool.not_eq_true', Bool.not_eq_false', Int.not_lt, Int.not_le] at hc)
        have hpf : [60, 47].isPrefixOf (s.drop i2) = false := by
          rw [Bool.eq_false_iff]
          intro h
          obtain ⟨t, ht⟩ := List.isPrefixOf_iff_prefix.1 h
          obtain ⟨g1, g2, g3⟩ := at_cons.1 ht.symm
          obtain ⟨g4, g5, g6⟩ := at_cons.1 g3
          exact hc.2 (b47.2 g5)
        have hks : kidsP (elemP D) (f + 1) (s.drop i2) = match elemP D (s.drop i2) with
          | none => none
          | some (x, r) => (kidsP (elemP D) f r).map fun y => (x :: y.1, y.2) := by
          rw [kidsP, if_neg (by rw [hpf]; decide)]
          cases elemP D (s.drop i2) <;> rfl
        repeat' (first | refine wc_seq ?_ | refine wc_region ?_ | refine wl_nil ?_ | refine wn_seq ?_ | refine wn_blk ?_ | refine wc_skip ?_ | refine wc_block ?_ | refine wc_exit rfl ?_ | (show WL _ _ (_ :: _) _ _ _ _; first | refine yl_v rfl rfl rfl ?_ | refine wl_v rfl rfl rfl (by first  | fail) ?_ | refine xl_alloc (fun _ => ?_) | refine xl_store rfl rfl ?_ | refine xl_buildSlice rfl (fun _ => ?_)) | refine wc_ret rfl ?_)
        refine wl_callS rfl Tryd.call28 rfl rfl rfl rfl (fun w hw => refelem_ok D (deep + 1) (by omega) (by omega) M2 s i2 w hw.laid hs le2) ?_
        rintro v3 H3 M3 hm3 hn3 ⟨rfl, hR⟩
        have hM3 : Since w M M3 := hM2.step hm3 hn3
        unfold RelemIs at hR
        cases hx : elemP D (s.drop i2) with
        | none =>
          rw [hx] at hR
          simp only at hR
          obtain ⟨n', a1, l1, c1, t', a2, l2, c2, rfl⟩ := hR
          have hn : elemP (D + 1) (s.drop i0) = none := by rw [hel, inv, hks, hx]; rfl
          repeat' (first | (first | refine wc_seq ?_ | refine wc_region ?_ | refine wl_nil ?_ | refine wn_seq ?_ | refine wn_blk ?_ | refine wc_skip ?_ | refine wc_block ?_ | refine wc_exit rfl ?_ | (show WL _ _ (_ :: _) _ _ _ _; first | refine yl_v rfl rfl rfl ?_ | refine wl_v rfl rfl rfl (by first  | fail) ?_ | refine xl_alloc (fun _ => ?_) | refine xl_store rfl rfl ?_ | refine xl_buildSlice rfl (fun _ => ?_)) | refine wc_ret rfl ?_) | (show WC _ (Code.cond _ _ _) _ _ _ _; (refine wc_cond rfl (fun hc => ?_) (fun hc => ?_) <;> (try (simp only [decide_eq_true_eq, decide_eq_false_iff_not, Bool.and_eq_true, Bool.or_eq_true, Bool.and_eq_false_iff, Bool.or_eq_false_iff, Bool.not_eq_true', Bool.not_eq_false', Int.not_lt, Int.not_le] at hc)) <;> (try (exfalso; first | omega | contradiction)))))
          exact yr_layC2 (Hn := []) rfl rfl rfl rfl rfl hM3 (List.nil_sublist _) ⟨rfl, relemIs_no hn⟩
        | some p =>
          obtain ⟨x, r⟩ := p
          rw [hx] at hR
          simp only at hR
          obtain ⟨vs, n, rfl, hnode, hnl, rfl⟩ := hR
          obtain ⟨un, ua1, ul1, uc1, ut, ua2, ul2, uc2, rfl⟩ := node_open hnode
          have hdl := elemP_len hx
          rw [List.length_drop, List.length_drop] at hdl
          rw [hx] at hks
          simp only at hks
          repeat' (first | (first | refine wc_seq ?_ | refine wc_region ?_ | refine wl_nil ?_ | refine wn_seq ?_ | refine wn_blk ?_ | refine wc_skip ?_ | refine wc_block ?_ | refine wc_exit rfl ?_ | (show WL _ _ (_ :: _) _ _ _ _; first | refine yl_v rfl rfl rfl ?_ | refine wl_v rfl rfl rfl (by first  | fail) ?_ | refine xl_alloc (fun _ => ?_) | refine xl_store rfl rfl ?_ | refine xl_buildSlice rfl (fun _ => ?_)) | refine wc_ret rfl ?_) | (show WC _ (Code.cond _ _ _) _ _ _ _; (refine wc_cond rfl (fun hc => ?_) (fun hc => ?_) <;> (try (simp only [decide_eq_true_eq, decide_eq_false_iff_not, Bool.and_eq_true, Bool.or_eq_true, Bool.and_eq_false_iff, Bool.or_eq_false_iff, Bool.not_eq_true', Bool.not_eq_false', Int.not_lt, Int.not_le] at hc)) <;> (try (exfalso; first | omega | contradiction)))))
          rename_i b16 b185
          refine wl_weak (C' := St w [] ((b185, .cells [str un, .slice ua1 ul1 uc1, str ut, .slice ua2 ul2 uc2].toArray 35 (0, 0)) :: (Hk ++ [(b16, .cells [str un, .slice ua1 ul1 uc1, str ut, .slice ua2 ul2 uc2].toArray 35 (0, 0)), (b8, .cells [str nm, .slice va acc.length vcap, str tx, .slice va2 kacc.length vcap2].toArray 35 (0, 0)), (b6, .cells [str [], .slice none 0 0, str [], .slice none 0 0].toArray 35 (0, 0))])) M3) (Eng.Sub.refl _) (fun w' h => h.perm (List.Perm.cons _ (List.perm_append_comm (l₂ := [_, _, _])))) ?_
          refine y_append (news := [str un, .slice ua1 ul1 uc1, str ut, .slice ua2 ul2 uc2]) (H0 := [(b16, .cells [str un, .slice ua1 ul1 uc1, str ut, .slice ua2 ul2 uc2].toArray 35 (0, 0)), (b8, .cells [str nm, .slice va acc.length vcap, str tx, .slice va2 kacc.length vcap2].toArray 35 (0, 0)), (b6, .cells [str [], .slice none 0 0, str [], .slice none 0 0].toArray 35 (0, 0))]) rfl own rfl rfl rfl rfl rfl rfl rfl rfl rfl rfl rfl rfl (by rw [xlen]; omega) rfl ?_
          intro v' Hs' ho'
          obtain ⟨va3, vcap3, rfl⟩ := ho'.slice (k := kacc.length + 1) (by decide) (by simp; omega)
          refine wl_weak (C' := St w [] ((b8, .cells [str nm, .slice va acc.length vcap, str tx, .slice va2 kacc.length vcap2].toArray 35 (0, 0)) :: (b6, .cells [str [], .slice none 0 0, str [], .slice none 0 0].toArray 35 (0, 0)) :: Hs') M3) (Eng.Sub.refl _) (fun w' h => (h.drop (H' := Hs' ++ [(b8, .cells [str nm, .slice va acc.length vcap, str tx, .slice va2 kacc.length vcap2].toArray 35 (0, 0)), (b6, .cells [str [], .slice none 0 0, str [], .slice none 0 0].toArray 35 (0, 0))]) (List.Sublist.append (List.Sublist.refl _) (by repeat (first | exact List.Sublist.refl _ | apply List.Sublist.cons)))).perm (List.perm_append_comm (l₁ := [_, _]))) ?_
          repeat' (first | (first | refine wc_seq ?_ | refine wc_region ?_ | refine wl_nil ?_ | refine wn_seq ?_ | refine wn_blk ?_ | refine wc_skip ?_ | refine wc_block ?_ | refine wc_exit rfl ?_ | (show WL _ _ (_ :: _) _ _ _ _; first | refine yl_v rfl rfl rfl ?_ | refine wl_v rfl rfl rfl (by first  | fail) ?_ | refine xl_alloc (fun _ => ?_) | refine xl_store rfl rfl ?_ | refine xl_buildSlice rfl (fun _ => ?_)) | refine wc_ret rfl ?_) | (show WC _ (Code.cond _ _ _) _ _ _ _; (refine wc_cond rfl (fun hc => ?_) (fun hc => ?_) <;> (try (simp only [decide_eq_true_eq, decide_eq_false_iff_not, Bool.and_eq_true, Bool.or_eq_true, Bool.and_eq_false_iff, Bool.or_eq_false_iff, Bool.not_eq_true', Bool.not_eq_false', Int.not_lt, Int.not_le] at hc)) <;> (try (exfalso; first | omega | contradiction)))))
          refine wn_cut ⟨f, n, kacc ++ [x], .slice va3 (kacc.length + 1) vcap3, Hs', xs ++ [str un, .slice ua1 ul1 uc1, str ut, .slice ua2 ul2 uc2], M3, hnl, by omega, by rw [List.length_append, List.length_singleton]; omega, ?_, ho', by simp only [List.length_append, List.length_cons, List.length_nil]; omega, ?_, since.step hm3 hn3⟩ (by show f < f + 1; omega) (by first | exact Sub.nil _ | (repeat (first | exact Sub.nil _ | refine Sub.cons (by first | rfl | (simp [look]; done)) ?_))) (fun _ h => h)
          · rw [inv, hks, Option.map_map]
            congr 1
            funext y
            simp
          · intro i hi
            rw [List.length_append, List.length_cons, List.length_nil] at hi
            rcases Nat.lt_or_ge i kacc.length with hlt | hge
            · rw [List.getElem_append_left hlt, List.drop_append_of_le_length (by omega), List.take_append_of_le_length (by rw [List.length_drop]; omega)]
              exact NodeC.mono hm3 (nodes i hlt)
            · obtain rfl : i = kacc.length := by omega
              rw [List.getElem_append_right (Nat.le_refl _), ← xlen, List.drop_left]
              simpa using hnode
      · (simp only [decide_eq_true_eq, decide_eq_false_iff_not, Bool.and_eq_true, Bool.or_eq_true, Bool.and_eq_false_iff, Bool.or_eq_false_iff, Bool.not_eq_true', Bool.not_eq_false', Int.not_lt, Int.not_le] at hc)
        have hcl : ([60, 47] ++ nm ++ [62]).length = nm.length + 3 := by simp only [List.length_append, List.length_cons, List.length_nil]; omega
        have hpa := pre_at (m := [60, 47] ++ nm ++ [62]) le2
        by_cases hpf : [60, 47].isPrefixOf (s.drop i2) = true
        · have hks : kidsP (elemP D) (f + 1) (s.drop i2) = some ([], s.drop i2) := by rw [kidsP, if_pos hpf]
          rw [inv, hks] at hel
          simp only [Option.map_some, List.append_nil] at hel
          repeat' (first | refine wc_seq ?_ | refine wc_region ?_ | refine wl_nil ?_ | refine wn_seq ?_ | refine wn_blk ?_ | refine wc_skip ?_ | refine wc_block ?_ | refine wc_exit rfl ?_ | (show WL _ _ (_ :: _) _ _ _ _; first | refine yl_v rfl rfl rfl ?_ | refine wl_v rfl rfl rfl (by first  | fail) ?_ | refine xl_alloc (fun _ => ?_) | refine xl_store rfl rfl ?_ | refine xl_buildSlice rfl (fun _ => ?_)) | refine wc_ret rfl ?_)
          refine wc_cond rfl (fun hc => ?_) (fun hc => ?_)
          · (simp only [decide_eq_true_eq, decide_eq_false_iff_not, Bool.and_eq_true, Bool.or_eq_true, Bool.and_eq_false_iff, Bool.or_eq_false_iff, Bool.not_eq_true', Bool.not_eq_false', Int.not_lt, Int.not_le] at hc)
            have hno : ¬ (closeT nm).isPrefixOf (s.drop i2) = true := fun h => by
              have h3 := hpa.2 h
              rcases hc with hc | hc
              · omega
              · exact hc h3.2
            rw [if_neg hno] at hel
            repeat' (first | (first | refine wc_seq ?_ | refine wc_region ?_ | refine wl_nil ?_ | refine wn_seq ?_ | refine wn_blk ?_ | refine wc_skip ?_ | refine wc_block ?_ | refine wc_exit rfl ?_ | (show WL _ _ (_ :: _) _ _ _ _; first | refine yl_v rfl rfl rfl ?_ | refine wl_v rfl rfl rfl (by first  | fail) ?_ | refine xl_alloc (fun _ => ?_) | refine xl_store rfl rfl ?_ | refine xl_buildSlice rfl (fun _ => ?_)) | refine wc_ret rfl ?_) | (show WC _ (Code.cond _ _ _) _ _ _ _; (refine wc_cond rfl (fun hc => ?_) (fun hc => ?_) <;> (try (simp only [decide_eq_true_eq, decide_eq_false_iff_not, Bool.and_eq_true, Bool.or_eq_true, Bool.and_eq_false_iff, Bool.or_eq_false_iff, Bool.not_eq_true', Bool.not_eq_false', Int.not_lt, Int.not_le] at hc)) <;> (try (exfalso; first | omega | contradiction)))))
            exact yr_layC2 (Hn := []) rfl rfl rfl rfl rfl hM2 (List.nil_sublist _) ⟨rfl, relemIs_no hel⟩
          · (simp only [decide_eq_true_eq, decide_eq_false_iff_not, Bool.and_eq_true, Bool.or_eq_true, Bool.and_eq_false_iff, Bool.or_eq_false_iff, Bool.not_eq_true', Bool.not_eq_false', Int.not_lt, Int.not_le] at hc)
            have hyes : (closeT nm).isPrefixOf (s.drop i2) = true := hpa.1 ⟨by omega, hc.2⟩
            rw [if_pos hyes] at hel
            repeat' (first | (first | refine wc_seq ?_ | refine wc_region ?_ | refine wl_nil ?_ | refine wn_seq ?_ | refine wn_blk ?_ | refine wc_skip ?_ | refine wc_block ?_ | refine wc_exit rfl ?_ | (show WL _ _ (_ :: _) _ _ _ _; first | refine yl_v rfl rfl rfl ?_ | refine wl_v rfl rfl rfl (by first  | fail) ?_ | refine xl_alloc (fun _ => ?_) | refine xl_store rfl rfl ?_ | refine xl_buildSlice rfl (fun _ => ?_)) | refine wc_ret rfl ?_) | (show WC _ (Code.cond _ _ _) _ _ _ _; (refine wc_cond rfl (fun hc => ?_) (fun hc => ?_) <;> (try (simp only [decide_eq_true_eq, decide_eq_false_iff_not, Bool.and_eq_true, Bool.or_eq_true, Bool.and_eq_false_iff, Bool.or_eq_false_iff, Bool.not_eq_true', Bool.not_eq_false', Int.not_lt, Int.not_le] at hc)) <;> (try (exfalso; first | omega | contradiction)))))
            refine wr_layC2 (Hn := Hk) rfl rfl rfl rfl (List.Mem.tail _ (List.Mem.head _)) rfl hM2 (List.Sublist.cons _ (List.Sublist.cons _ (List.Sublist.refl _))) ⟨rfl, ?_⟩
            unfold RelemIs
            rw [hel]
            refine ⟨_, i2 + ([60, 47] ++ nm ++ [62]).length, rfl, ⟨_, _, rfl, Sl.mono hsl (fun _ _ h => .inl (since.1 _ _ h)) (fun _ _ _ h => h), own.sl (by decide) (fun p hp => .inr hp) xlen (by omega) (fun q hq => NodeC.mono (fun _ _ => .inl) (nodes q hq)), by omega, by omega, fun p hp => ?_⟩, by omega, by rw [← List.drop_drop]; rfl⟩
            have := hsmall p hp
            omega
        · have hks : kidsP (elemP D) (f + 1) (s.drop i2) = none := by
            rw [kidsP, if_neg hpf]
            have : elemP D (s.drop i2) = none := by
              by_cases h1 : ∃ r, s.drop i2 = 60 :: r
              · obtain ⟨r, hr⟩ := h1
                obtain ⟨g1, g2, g3⟩ := at_cons.1 hr
                cases r with
                | nil => rw [hr]; exact elemP_short D
                | cons c r =>
                  exfalso
                  obtain ⟨g4, g5, g6⟩ := at_cons.1 g3
                  rcases hc with (hc | hc) | hc
                  · omega
                  · exact hc (b60.2 g2)
                  · have h47 := b47.1 hc
                    rw [g5] at h47
                    subst h47
                    exact hpf (by rw [hr]; simp [List.isPrefixOf])
              · exact elemP_head (fun r e => h1 ⟨r, e⟩)
            rw [this]
          have hn : elemP (D + 1) (s.drop i0) = none := by rw [hel, inv, hks]; rfl
          repeat' (first | refine wc_seq ?_ | refine wc_region ?_ | refine wl_nil ?_ | refine wn_seq ?_ | refine wn_blk ?_ | refine wc_skip ?_ | refine wc_block ?_ | refine wc_exit rfl ?_ | (show WL _ _ (_ :: _) _ _ _ _; first | refine yl_v rfl rfl rfl ?_ | refine wl_v rfl rfl rfl (by first  | fail) ?_ | refine xl_alloc (fun _ => ?_) | refine xl_store rfl rfl ?_ | refine xl_buildSlice rfl (fun _ => ?_)) | refine wc_ret rfl ?_)
          refine wc_cond rfl (fun hc => ?_) (fun hc => ?_)
          · repeat' (first | (first | refine wc_seq ?_ | refine wc_region ?_ | refine wl_nil ?_ | refine wn_seq ?_ | refine wn_blk ?_ | refine wc_skip ?_ | refine wc_block ?_ | refine wc_exit rfl ?_ | (show WL _ _ (_ :: _) _ _ _ _; first | refine yl_v rfl rfl rfl ?_ | refine wl_v rfl rfl rfl (by first  | fail) ?_ | refine xl_alloc (fun _ => ?_) | refine xl_store rfl rfl ?_ | refine xl_buildSlice rfl (fun _ => ?_)) | refine wc_ret rfl ?_) | (show WC _ (Code.cond _ _ _) _ _ _ _; (refine wc_cond rfl (fun hc => ?_) (fun hc => ?_) <;> (try (simp only [decide_eq_true_eq, decide_eq_false_iff_not, Bool.and_eq_true, Bool.or_eq_true, Bool.and_eq_false_iff, Bool.or_eq_false_iff, Bool.not_eq_true', Bool.not_eq_false', Int.not_lt, Int.not_le] at hc)) <;> (try (exfalso; first | omega | contradiction)))))
            exact yr_layC2 (Hn := []) rfl rfl rfl rfl rfl hM2 (List.nil_sublist _) ⟨rfl, relemIs_no hn⟩
          · exfalso
            (simp only [decide_eq_true_eq, decide_eq_false_iff_not, Bool.and_eq_true, Bool.or_eq_true, Bool.and_eq_false_iff, Bool.or_eq_false_iff, Bool.not_eq_true', Bool.not_eq_false', Int.not_lt, Int.not_le] at hc)
            have hyes := List.isPrefixOf_iff_prefix.1 (hpa.1 ⟨by omega, hc.2⟩)
            exact hpf (List.isPrefixOf_iff_prefix.2 (List.IsPrefix.trans (by rw [List.append_assoc]; exact List.prefix_append _ _) hyes))
end Go.Proofs.YtgfbieplidpebaaDoor
/-
  Both readings of a text; the walks of XmlTexts and XmlReads.
-/
namespace Go.Proofs.YtgfbieplidpebaaDoor
open Go.Eng Go.Pct Go.Xml Go.Rsp
set_option maxRecDepth 10000
set_option linter.unusedSimpArgs false
set_option linter.unusedVariables false

variable {M : Ghost} {w0 w : World} {bs : List Nat} {H : List (Nat × Obj)}
def nodeZ : Nd := .mk [] [] [] []
/-- a text's element -/
def readP (s : List UInt8) : Option Nd := match elemP 8 s with
  | some (x, r) => if r = [] ∧ rightN x = true then some x else none
  | none => none
theorem readP_back {x : Nd} (h : rightN x = true) : readP (textN x) = some x := by
  have h' := h
  unfold rightN at h'
  simp only [Bool.and_eq_true, decide_eq_true_eq] at h'
  have hd := (fewN_no x 200 8 h'.1).1
  have := elemP_back (D := 8) (x := x) (by omega) h'.2 []
  rw [List.append_nil] at this
  unfold readP
  rw [this]
  simp only
  rw [if_pos ⟨by first | trivial | rfl, h⟩]
theorem readP_text {s : List UInt8} {x : Nd} (h : readP s = some x) : textN x = s ∧ rightN x = true := by
  unfold readP at h
  split at h
  · rename_i y r e
    split at h
    · rename_i hc
      cases h
      obtain ⟨rfl, hr⟩ := hc
      have := elemP_text e
      rw [List.append_nil] at this
      exact ⟨this.symm, hr⟩
    · cases h
  · cases h
theorem nodeZ_ok {D : Nat} : NodeC M (D + 1) nodeZ [str [], .slice none 0 0, str [], .slice none 0 0] :=
  ⟨_, _, rfl, sl_nil, sl_nil, by simp, by simp, fun p hp => absurd hp (by simp)⟩
/-- what a reading yields -/
def ReadN (s : List UInt8) (M' : Ghost) (v : Value) : Prop := ∃ vs : List Value, v = .tuple #[.agg vs.toArray, i64 (if (readP s).isSome then 0 else 10)] ∧ NodeC M' 8 ((readP s).getD nodeZ) vs
theorem readN_no {s : List UInt8} {M' : Ghost} (h : readP s = none) : ReadN s M' (.tuple #[.agg [str [], .slice none 0 0, str [], .slice none 0 0].toArray, i64 10]) := by
  unfold ReadN; rw [h]; exact ⟨_, rfl, nodeZ_ok⟩
set_option maxHeartbeats 1000000 in
theorem xread_ok (hG : Glob M) (hM : Laid M w) (s : List UInt8) (hs : s.length ≤ 100000000) : Calls Tryd.prog 31 #[str s] w (RetS M w (fun M' H v => H = [] ∧ ReadN s M' v)) := by
  refine calls_st (l := [str s]) hM Tryd.func31 rfl rfl rfl (E0 := [(0, true, str s)]) (params_cons rfl (params_nil _)) ?_
  repeat' (first | (first | refine wc_seq ?_ | refine wc_region ?_ | refine wl_nil ?_ | refine wn_seq ?_ | refine wn_blk ?_ | refine wc_skip ?_ | refine wc_block ?_ | refine wc_exit rfl ?_ | (show WL _ _ (_ :: _) _ _ _ _; first | refine yl_v rfl rfl rfl ?_ | refine wl_v rfl rfl rfl (by first  | fail) ?_ | refine xl_alloc (fun _ => ?_) | refine xl_box rfl (fun _ => ?_) | refine xl_store rfl rfl ?_) | refine wc_ret rfl ?_) | (show WC _ (Code.cond _ _ _) _ _ _ _; (refine wc_cond rfl (fun hc => ?_) (fun hc => ?_) <;> (try (simp only [decide_eq_true_eq, decide_eq_false_iff_not, Bool.and_eq_true, Bool.or_eq_true, Bool.and_eq_false_iff, Bool.or_eq_false_iff, Bool.not_eq_true', Bool.not_eq_false', Int.not_lt, Int.not_le] at hc)) <;> (try (exfalso; first | omega | contradiction)))))
  rename_i b2 b9
  refine wl_callX rfl Tryd.call47 rfl rfl rfl rfl (fun w hw => relem_ok 8 1 rfl (by omega) M [(b2, .cells [str [], .slice none 0 0, str [], .slice none 0 0].toArray 35 (0, 0))] b9 s 200 _ w hG hs (by omega) (by omega) hw) (fun v M1 s1 left1 hm1 hn1 hR => ?_)
  have hM1 : Since w M M1 := Since.refl.step hm1 hn1
  unfold ElemIs at hR
  cases hx : elemX 8 s 200 with
  | none =>
    rw [hx] at hR
    simp only at hR
    obtain ⟨n', a1, l1, c1, t', a2, l2, c2, rfl⟩ := hR
    have hn : readP s = none := by
      unfold readP
      unfold elemX at hx
      cases he : elemP 8 s with
      | none => rfl
      | some p =>
        obtain ⟨y, r⟩ := p
        rw [he] at hx
        simp only at hx ⊢
        split at hx
        · cases hx
        · rename_i h1
          rw [if_neg]
          rintro ⟨_, h2⟩
          unfold rightN at h2
          simp only [Bool.and_eq_true, decide_eq_true_eq] at h2
          exact h1 (fewN_no y 200 8 h2.1).2
    repeat' (first | (first | refine wc_seq ?_ | refine wc_region ?_ | refine wl_nil ?_ | refine wn_seq ?_ | refine wn_blk ?_ | refine wc_skip ?_ | refine wc_block ?_ | refine wc_exit rfl ?_ | (show WL _ _ (_ :: _) _ _ _ _; first | refine yl_v rfl rfl rfl ?_ | refine wl_v rfl rfl rfl (by first | (show OpV _ _ _ _ (Oper.mk _ (Op.call _) _ _ _ _) _ _; exact ov_off (v := .bool false) rfl) | fail) ?_ | refine xl_alloc (fun _ => ?_) | refine xl_box rfl (fun _ => ?_) | refine xl_store rfl rfl ?_) | refine wc_ret rfl ?_) | (show WC _ (Code.cond _ _ _) _ _ _ _; (refine wc_cond rfl (fun hc => ?_) (fun hc => ?_) <;> (try (simp only [decide_eq_true_eq, decide_eq_false_iff_not, Bool.and_eq_true, Bool.or_eq_true, Bool.and_eq_false_iff, Bool.or_eq_false_iff, Bool.not_eq_true', Bool.not_eq_false', Int.not_lt, Int.not_le] at hc)) <;> (try (exfalso; first | omega | contradiction)))))
    exact yr_layC2 (Hn := []) rfl rfl rfl rfl rfl hM1 (List.nil_sublist _) ⟨rfl, readN_no hn⟩
  | some p =>
    obtain ⟨x, r, l'⟩ := p
    rw [hx] at hR
    simp only at hR
    obtain ⟨vs, rfl, hnode, rfl, rfl⟩ := hR
    have he : ∃ q, elemP 8 s = some (x, q) ∧ q = s1 := by
      unfold elemX at hx
      cases he : elemP 8 s with
      | none => rw [he] at hx; cases hx
      | some p =>
        obtain ⟨y, r⟩ := p
        rw [he] at hx
        simp only at hx
        split at hx
        · cases hx; exact ⟨_, rfl, rfl⟩
        · cases hx
    obtain ⟨q, he, rfl⟩ := he
    have hrd : readP s = if q = [] ∧ rightN x = true then some x else none := by unfold readP; rw [he]
    have hri := fun {w : World} (hw : Laid M1 w) => right_ok hw hnode
    obtain ⟨un, ua1, ul1, uc1, ut, ua2, ul2, uc2, rfl⟩ := node_open hnode
    repeat' (first | refine wc_seq ?_ | refine wc_region ?_ | refine wl_nil ?_ | refine wn_seq ?_ | refine wn_blk ?_ | refine wc_skip ?_ | refine wc_block ?_ | refine wc_exit rfl ?_ | (show WL _ _ (_ :: _) _ _ _ _; first | refine yl_v rfl rfl rfl ?_ | refine wl_v rfl rfl rfl (by first | ((show OpV _ _ _ _ (Oper.mk _ (Op.call ⟨.value (.func 48), _, _⟩) _ _ _ _) _ _; exact ov_call Tryd.call48 rfl (by intro himp; first | rfl | (simp_all; done)) (by rfl) (fun _ _ h k => h.ext k) (fun hcg w hw => hri hw.laid))) | fail) ?_ | refine xl_alloc (fun _ => ?_) | refine xl_box rfl (fun _ => ?_) | refine xl_store rfl rfl ?_) | refine wc_ret rfl ?_)
    refine wc_cond rfl (fun hc => ?_) (fun hc => ?_)
    · have hn : readP s = none := by
        rw [hrd, if_neg]
        rintro ⟨h1, h2⟩
        rw [h1, h2] at hc
        revert hc
        decide
      repeat' (first | (first | refine wc_seq ?_ | refine wc_region ?_ | refine wl_nil ?_ | refine wn_seq ?_ | refine wn_blk ?_ | refine wc_skip ?_ | refine wc_block ?_ | refine wc_exit rfl ?_ | (show WL _ _ (_ :: _) _ _ _ _; first | refine yl_v rfl rfl rfl ?_ | refine wl_v rfl rfl rfl (by first  | fail) ?_ | refine xl_alloc (fun _ => ?_) | refine xl_box rfl (fun _ => ?_) | refine xl_store rfl rfl ?_) | refine wc_ret rfl ?_) | (show WC _ (Code.cond _ _ _) _ _ _ _; (refine wc_cond rfl (fun hc => ?_) (fun hc => ?_) <;> (try (simp only [decide_eq_true_eq, decide_eq_false_iff_not, Bool.and_eq_true, Bool.or_eq_true, Bool.and_eq_false_iff, Bool.or_eq_false_iff, Bool.not_eq_true', Bool.not_eq_false', Int.not_lt, Int.not_le] at hc)) <;> (try (exfalso; first | omega | contradiction)))))
      exact yr_layC2 (Hn := []) rfl rfl rfl rfl rfl hM1 (List.nil_sublist _) ⟨rfl, readN_no hn⟩
    · have hy : readP s = some x := by
        rw [hrd, if_pos]
        simp only [Bool.or_eq_false_iff, Bool.not_eq_false', decide_eq_true_eq, Bool.not_true, true_and] at hc
        exact hc
      repeat' (first | (first | refine wc_seq ?_ | refine wc_region ?_ | refine wl_nil ?_ | refine wn_seq ?_ | refine wn_blk ?_ | refine wc_skip ?_ | refine wc_block ?_ | refine wc_exit rfl ?_ | (show WL _ _ (_ :: _) _ _ _ _; first | refine yl_v rfl rfl rfl ?_ | refine wl_v rfl rfl rfl (by first  | fail) ?_ | refine xl_alloc (fun _ => ?_) | refine xl_box rfl (fun _ => ?_) | refine xl_store rfl rfl ?_) | refine wc_ret rfl ?_) | (show WC _ (Code.cond _ _ _) _ _ _ _; (refine wc_cond rfl (fun hc => ?_) (fun hc => ?_) <;> (try (simp only [decide_eq_true_eq, decide_eq_false_iff_not, Bool.and_eq_true, Bool.or_eq_true, Bool.and_eq_false_iff, Bool.or_eq_false_iff, Bool.not_eq_true', Bool.not_eq_false', Int.not_lt, Int.not_le] at hc)) <;> (try (exfalso; first | omega | contradiction)))))
      refine yr_layC2 (Hn := []) rfl rfl rfl rfl rfl hM1 (List.nil_sublist _) ⟨rfl, ?_⟩
      unfold ReadN
      rw [hy]
      exact ⟨_, rfl, NodeC.mono (fun _ _ => .inl) hnode⟩
set_option maxHeartbeats 1000000 in
theorem rread_ok (hM : Laid M w) (s : List UInt8) (hs : s.length ≤ 100000000) : Calls Tryd.prog 10 #[str s] w (RetS M w (fun M' H v => H = [] ∧ ReadN s M' v)) := by
  refine calls_st (l := [str s]) hM Tryd.func10 rfl rfl rfl (E0 := [(0, true, str s)]) (params_cons rfl (params_nil _)) ?_
  repeat' (first | (first | refine wc_seq ?_ | refine wc_region ?_ | refine wl_nil ?_ | refine wn_seq ?_ | refine wn_blk ?_ | refine wc_skip ?_ | refine wc_block ?_ | refine wc_exit rfl ?_ | (show WL _ _ (_ :: _) _ _ _ _; first | refine yl_v rfl rfl rfl ?_ | refine wl_v rfl rfl rfl (by first  | fail) ?_ | refine xl_alloc (fun _ => ?_) | refine xl_store rfl rfl ?_) | refine wc_ret rfl ?_) | (show WC _ (Code.cond _ _ _) _ _ _ _; (refine wc_cond rfl (fun hc => ?_) (fun hc => ?_) <;> (try (simp only [decide_eq_true_eq, decide_eq_false_iff_not, Bool.and_eq_true, Bool.or_eq_true, Bool.and_eq_false_iff, Bool.or_eq_false_iff, Bool.not_eq_true', Bool.not_eq_false', Int.not_lt, Int.not_le] at hc)) <;> (try (exfalso; first | omega | contradiction)))))
  refine wl_callS rfl Tryd.call28 rfl rfl rfl rfl (fun w hw => refelem_ok 8 1 rfl (by omega) M s 0 w hw.laid hs (by omega)) ?_
  rintro v3 H3 M1 hm3 hn3 ⟨rfl, hR⟩
  have hM1 : Since w M M1 := Since.refl.step hm3 hn3
  unfold RelemIs at hR
  rw [List.drop_zero] at hR
  cases hx : elemP 8 s with
  | none =>
    rw [hx] at hR
    simp only at hR
    obtain ⟨n', a1, l1, c1, t', a2, l2, c2, rfl⟩ := hR
    have hn : readP s = none := by unfold readP; rw [hx]
    repeat' (first | (first | refine wc_seq ?_ | refine wc_region ?_ | refine wl_nil ?_ | refine wn_seq ?_ | refine wn_blk ?_ | refine wc_skip ?_ | refine wc_block ?_ | refine wc_exit rfl ?_ | (show WL _ _ (_ :: _) _ _ _ _; first | refine yl_v rfl rfl rfl ?_ | refine wl_v rfl rfl rfl (by first  | fail) ?_ | refine xl_alloc (fun _ => ?_) | refine xl_store rfl rfl ?_) | refine wc_ret rfl ?_) | (show WC _ (Code.cond _ _ _) _ _ _ _; (refine wc_cond rfl (fun hc => ?_) (fun hc => ?_) <;> (try (simp only [decide_eq_true_eq, decide_eq_false_iff_not, Bool.and_eq_true, Bool.or_eq_true, Bool.and_eq_false_iff, Bool.or_eq_false_iff, Bool.not_eq_true', Bool.not_eq_false', Int.not_lt, Int.not_le] at hc)) <;> (try (exfalso; first | omega | contradiction)))))
    exact yr_layC2 (Hn := []) rfl rfl rfl rfl rfl hM1 (List.nil_sublist _) ⟨rfl, readN_no hn⟩
  | some p =>
    obtain ⟨x, r⟩ := p
    rw [hx] at hR
    simp only at hR
    obtain ⟨vs, n, rfl, hnode, hnl, rfl⟩ := hR
    have hrd : readP s = if s.drop n = [] ∧ rightN x = true then some x else none := by unfold readP; rw [hx]
    have hri := fun {w : World} (hw : Laid M1 w) => rright_ok hw hnode
    obtain ⟨un, ua1, ul1, uc1, ut, ua2, ul2, uc2, rfl⟩ := node_open hnode
    repeat' (first | (first | refine wc_seq ?_ | refine wc_region ?_ | refine wl_nil ?_ | refine wn_seq ?_ | refine wn_blk ?_ | refine wc_skip ?_ | refine wc_block ?_ | refine wc_exit rfl ?_ | (show WL _ _ (_ :: _) _ _ _ _; first | refine yl_v rfl rfl rfl ?_ | refine wl_v rfl rfl rfl (by first | ((show OpV _ _ _ _ (Oper.mk _ (Op.call ⟨.value (.func 29), _, _⟩) _ _ _ _) _ _; exact ov_call Tryd.call29 rfl (by intro himp; first | rfl | (simp_all; done)) (by rfl) (fun _ _ h k => h.ext k) (fun hcg w hw => hri hw.laid))) | fail) ?_ | refine xl_alloc (fun _ => ?_) | refine xl_store rfl rfl ?_) | refine wc_ret rfl ?_) | (show WC _ (Code.cond _ _ _) _ _ _ _; (refine wc_cond rfl (fun hc => ?_) (fun hc => ?_) <;> (try (simp only [decide_eq_true_eq, decide_eq_false_iff_not, Bool.and_eq_true, Bool.or_eq_true, Bool.and_eq_false_iff, Bool.or_eq_false_iff, Bool.not_eq_true', Bool.not_eq_false', Int.not_lt, Int.not_le] at hc)) <;> (try (exfalso; first | omega | contradiction)))))
    · have hn : readP s = none := by
        rw [hrd, if_neg]
        rintro ⟨h1, h2⟩
        have := congrArg List.length h1
        rw [List.length_drop, List.length_nil] at this
        omega
      exact yr_layC2 (Hn := []) rfl rfl rfl rfl rfl hM1 (List.nil_sublist _) ⟨rfl, readN_no hn⟩
    · have hn : readP s = none := by
        rw [hrd, if_neg]
        rintro ⟨h1, h2⟩
        rw [h2] at hc; cases hc
      exact yr_layC2 (Hn := []) rfl rfl rfl rfl rfl hM1 (List.nil_sublist _) ⟨rfl, readN_no hn⟩
    · have hy : readP s = some x := by
        rw [hrd, if_pos ⟨List.drop_eq_nil_of_le (by omega), hc⟩]
      refine yr_layC2 (Hn := []) rfl rfl rfl rfl rfl hM1 (List.nil_sublist _) ⟨rfl, ?_⟩
      unfold ReadN
      rw [hy]
      exact ⟨_, rfl, NodeC.mono (fun _ _ => .inl) hnode⟩
end Go.Proofs.YtgfbieplidpebaaDoor
/-
  What services and browsers are told, plainly, and what they read of it.
-/
namespace Go.Cas
open Go.Pct Go.Xml Go.Proofs.YtgfbieplidpebaaDoor
set_option linter.unusedVariables false
set_option linter.unusedSimpArgs false

/-- Content-Type -/
def sCT : List UInt8 := [67, 111, 110, 116, 101, 110, 116, 45, 84, 121, 112, 101]
/-- text/xml -/
def sXml : List UInt8 := [116, 101, 120, 116, 47, 120, 109, 108]
/-- text/html -/
def sHtmlT : List UInt8 := [116, 101, 120, 116, 47, 104, 116, 109, 108]
/-- text/plain -/
def sTextT : List UInt8 := [116, 101, 120, 116, 47, 112, 108, 97, 105, 110]
/-- cas:serviceResponse -/
def sResp : List UInt8 := [99, 97, 115, 58, 115, 101, 114, 118, 105, 99, 101, 82, 101, 115, 112, 111, 110, 115, 101]
/-- xmlns:cas -/
def sNs : List UInt8 := [120, 109, 108, 110, 115, 58, 99, 97, 115]
/-- http://www.yale.edu/tp/cas -/
def sSpace : List UInt8 := [104, 116, 116, 112, 58, 47, 47, 119, 119, 119, 46, 121, 97, 108, 101, 46, 101, 100, 117, 47, 116, 112, 47, 99, 97, 115]
/-- cas:authenticationSuccess -/
def sSuc : List UInt8 := [99, 97, 115, 58, 97, 117, 116, 104, 101, 110, 116, 105, 99, 97, 116, 105, 111, 110, 83, 117, 99, 99, 101, 115, 115]
/-- cas:user -/
def sUser : List UInt8 := [99, 97, 115, 58, 117, 115, 101, 114]
/-- cas:attributes -/
def sAttrs : List UInt8 := [99, 97, 115, 58, 97, 116, 116, 114, 105, 98, 117, 116, 101, 115]
/-- cas:proxyGrantingTicket -/
def sIou : List UInt8 := [99, 97, 115, 58, 112, 114, 111, 120, 121, 71, 114, 97, 110, 116, 105, 110, 103, 84, 105, 99, 107, 101, 116]
/-- cas:proxies -/
def sProxies : List UInt8 := [99, 97, 115, 58, 112, 114, 111, 120, 105, 101, 115]
/-- cas:proxy -/
def sProxy : List UInt8 := [99, 97, 115, 58, 112, 114, 111, 120, 121]
/-- cas:authenticationFailure -/
def sAF : List UInt8 := [99, 97, 115, 58, 97, 117, 116, 104, 101, 110, 116, 105, 99, 97, 116, 105, 111, 110, 70, 97, 105, 108, 117, 114, 101]
/-- ticket or service is not good -/
def sNotOk : List UInt8 := [116, 105, 99, 107, 101, 116, 32, 111, 114, 32, 115, 101, 114, 118, 105, 99, 101, 32, 105, 115, 32, 110, 111, 116, 32, 103, 111, 111, 100]
/-- cas:proxyFailure -/
def sPF : List UInt8 := [99, 97, 115, 58, 112, 114, 111, 120, 121, 70, 97, 105, 108, 117, 114, 101]
/-- no ticket is given -/
def sNoPt : List UInt8 := [110, 111, 32, 116, 105, 99, 107, 101, 116, 32, 105, 115, 32, 103, 105, 118, 101, 110]
/-- cas:proxySuccess -/
def sPS : List UInt8 := [99, 97, 115, 58, 112, 114, 111, 120, 121, 83, 117, 99, 99, 101, 115, 115]
/-- cas:proxyTicket -/
def sPT : List UInt8 := [99, 97, 115, 58, 112, 114, 111, 120, 121, 84, 105, 99, 107, 101, 116]
/-- cas: -/
def sCas : List UInt8 := [99, 97, 115, 58]
/-- code -/
def sCode : List UInt8 := [99, 111, 100, 101]
/-- input -/
def sInput : List UInt8 := [105, 110, 112, 117, 116]
/-- name -/
def sName : List UInt8 := [110, 97, 109, 101]
/-- value -/
def sValue : List UInt8 := [118, 97, 108, 117, 101]
/-- lt -/
def sLt : List UInt8 := [108, 116]
/-- service -/
def sService : List UInt8 := [115, 101, 114, 118, 105, 99, 101]
/-- username -/
def sUn : List UInt8 := [117, 115, 101, 114, 110, 97, 109, 101]
/-- password -/
def sPw : List UInt8 := [112, 97, 115, 115, 119, 111, 114, 100]
/-- form -/
def sForm : List UInt8 := [102, 111, 114, 109]
/-- action -/
def sAction : List UInt8 := [97, 99, 116, 105, 111, 110]
/-- /login -/
def sLogin : List UInt8 := [47, 108, 111, 103, 105, 110]
/-- method -/
def sMethod : List UInt8 := [109, 101, 116, 104, 111, 100]
/-- post -/
def sPost : List UInt8 := [112, 111, 115, 116]
/-- html -/
def sHtml : List UInt8 := [104, 116, 109, 108]
/-- body -/
def sBody : List UInt8 := [98, 111, 100, 121]
/-- p -/
def sP : List UInt8 := [112]
/-- class -/
def sClass : List UInt8 := [99, 108, 97, 115, 115]
/-- INVALID_REQUEST -/
def cReq : List UInt8 := [73, 78, 86, 65, 76, 73, 68, 95, 82, 69, 81, 85, 69, 83, 84]
/-- INVALID_TICKET -/
def cTkt : List UInt8 := [73, 78, 86, 65, 76, 73, 68, 95, 84, 73, 67, 75, 69, 84]
/-- INVALID_TICKET_SPEC -/
def cSpec : List UInt8 := [73, 78, 86, 65, 76, 73, 68, 95, 84, 73, 67, 75, 69, 84, 95, 83, 80, 69, 67]
/-- INVALID_SERVICE -/
def cSvc : List UInt8 := [73, 78, 86, 65, 76, 73, 68, 95, 83, 69, 82, 86, 73, 67, 69]
/-- UNAUTHORIZED_SERVICE -/
def cUna : List UInt8 := [85, 78, 65, 85, 84, 72, 79, 82, 73, 90, 69, 68, 95, 83, 69, 82, 86, 73, 67, 69]
/-- INVALID_PROXY_CALLBACK -/
def cCb : List UInt8 := [73, 78, 86, 65, 76, 73, 68, 95, 80, 82, 79, 88, 89, 95, 67, 65, 76, 76, 66, 65, 67, 75]
/-- INTERNAL_ERROR -/
def cInt : List UInt8 := [73, 78, 84, 69, 82, 78, 65, 76, 95, 69, 82, 82, 79, 82]

abbrev Pr := List UInt8 × List UInt8
structure Suc where
  user : List UInt8
  attrs : List Pr
  proxies : List (List UInt8)
  iou : List UInt8
def suc0 : Suc := ⟨[], [], [], []⟩
/-- the code of an error -/
def codeE (e : Int) : List UInt8 := if e = 33 then cReq else if e = 30 then cTkt else if e = 32 then cSpec else if e = 31 then cSvc else if e = 36 then cUna else if e = 34 then cCb else if e = 0 then [] else cInt
/-- the first error of a code -/
def knownE (c : List UInt8) : Option Nat := (List.range 39).find? (fun i => decide (codeE ((i + 1 : Nat) : Int) = c))

/-! ### elements -/
def nmN : Nd → List UInt8 | .mk n _ _ _ => n
def atN : Nd → List Pr | .mk _ a _ _ => a
def txN : Nd → List UInt8 | .mk _ _ t _ => t
def kdN : Nd → List Nd | .mk _ _ _ k => k
def leafN (n t : List UInt8) : Nd := .mk n [] t []
def wrapN (n : List UInt8) (k : List Nd) : Nd := .mk n [] [] k
def failN (name s code : List UInt8) : Nd := .mk name [(sCode, code)] s []
def casN (x : Nd) : Nd := .mk sResp [(sNs, sSpace)] [] [x]
def attrK (a : List Pr) : List Nd := a.map fun p => leafN (sCas ++ p.1) p.2
def proxK (l : List (List UInt8)) : List Nd := l.map fun p => leafN sProxy p
def k1 (s : Suc) (at' : Bool) : List Nd := if at' = true ∧ s.attrs ≠ [] then [wrapN sAttrs (attrK s.attrs)] else []
def k2 (s : Suc) : List Nd := if s.iou ≠ [] then [leafN sIou s.iou] else []
def k3 (s : Suc) : List Nd := if s.proxies ≠ [] then [wrapN sProxies (proxK s.proxies)] else []
def sucK (s : Suc) (at' : Bool) : List Nd := [leafN sUser s.user] ++ k1 s at' ++ k2 s ++ k3 s
def sucN (s : Suc) (at' : Bool) : Nd := wrapN sSuc (sucK s at')
def answerN (s : Suc) (e : Int) (at' : Bool) : Nd := casN (if e = 0 then sucN s at' else failN sAF sNotOk (codeE e))
def proxyN (pt : List UInt8) (e : Int) : Nd := casN (if e = 0 then wrapN sPS [leafN sPT pt] else failN sPF sNoPt (codeE e))
def inputN (a b : List UInt8) : Nd := .mk sInput [(sName, a), (sValue, b)] [] []
def formN (lt sv : List UInt8) : Nd := .mk sForm [(sAction, sLogin), (sMethod, sPost)] [] [inputN sLt lt, inputN sService sv, inputN sUn [], inputN sPw []]
def htmlN (k : List Nd) : Nd := wrapN sHtml [wrapN sBody k]
def formPN (lt sv wrong : List UInt8) : Nd := htmlN (if wrong = [] then [formN lt sv] else [leafN sP wrong, formN lt sv])
def pageN (kind s : List UInt8) : Nd := htmlN [.mk sP [(sClass, kind)] s []]
/-- what is written -/
def wr (x : Nd) : List UInt8 := if rightN x = true then textN x else []
structure Rs where
  status : Int
  headers : List Pr
  body : List UInt8
def rsp (kind : List UInt8) (x : Nd) : Rs := ⟨200, [(sCT, kind)], wr x⟩
def sameR (r q : Rs) : Bool := decide (r.status = q.status) && decide (r.body = q.body) && decide (¬ r.body = []) && decide (r.headers = q.headers)

/-! ### what is read -/
def findN : Nd → List (List UInt8) → Option Nd
  | x, [] => some x
  | x, p :: l => match (kdN x).find? (fun y => decide (nmN y = p)) with
    | some y => findN y l
    | none => none
def rd (r : Rs) : Nd := (readP r.body).getD nodeZ
def foundN (x : Nd) (path : List (List UInt8)) : Nd := (findN x path).getD nodeZ
def trimC (s : List UInt8) : List UInt8 := if sCas.isPrefixOf s then s.drop 4 else s
/-- a code, its error, and whether it is a failure's -/
def failedT (n : Nd) (name : List UInt8) : List UInt8 × Int × Bool :=
  if (findN n [name]).isSome = true ∧ (atN (foundN n [name])).length = 1 then
    (((atN (foundN n [name])).getD 0 default).2, match knownE ((atN (foundN n [name])).getD 0 default).2 with | some i => (((i + 1 : Nat) : Int), true) | none => (0, false))
  else ([], 0, false)
def sucOf (n : Nd) : Suc := ⟨txN (foundN n [sSuc, sUser]), (kdN (foundN n [sSuc, sAttrs])).map (fun k => (trimC (nmN k), txN k)), (kdN (foundN n [sSuc, sProxies])).map txN, txN (foundN n [sSuc, sIou])⟩
def readAnswerP (r : Rs) : Suc × List UInt8 × Bool :=
  if (failedT (rd r) sAF).2.2 = true ∧ sameR r (rsp sXml (answerN suc0 (failedT (rd r) sAF).2.1 true)) = true then (suc0, (failedT (rd r) sAF).1, true)
  else if sameR r (rsp sXml (answerN (sucOf (rd r)) 0 true)) = true then (sucOf (rd r), [], true) else (suc0, [], false)
def readProxyP (r : Rs) : List UInt8 × List UInt8 × Bool :=
  if (failedT (rd r) sPF).2.2 = true ∧ sameR r (rsp sXml (proxyN [] (failedT (rd r) sPF).2.1)) = true then ([], (failedT (rd r) sPF).1, true)
  else if sameR r (rsp sXml (proxyN (txN (foundN (rd r) [sPS, sPT])) 0)) = true then (txN (foundN (rd r) [sPS, sPT]), [], true) else ([], [], false)
def at2 (x : Nd) (i : Nat) : List UInt8 := ((atN ((kdN x).getD i nodeZ)).getD 1 default).2
def formOk (f : Nd) : Prop := (kdN f).length = 4 ∧ (atN ((kdN f).getD 0 nodeZ)).length = 2 ∧ (atN ((kdN f).getD 1 nodeZ)).length = 2
instance (f : Nd) : Decidable (formOk f) := by unfold formOk; exact inferInstance
def readFormP (r : Rs) : List UInt8 × List UInt8 × List UInt8 × Bool :=
  if formOk (foundN (rd r) [sBody, sForm]) ∧ sameR r (rsp sHtmlT (formPN (at2 (foundN (rd r) [sBody, sForm]) 0) (at2 (foundN (rd r) [sBody, sForm]) 1) (txN (foundN (rd r) [sBody, sP])))) = true then
    (at2 (foundN (rd r) [sBody, sForm]) 0, at2 (foundN (rd r) [sBody, sForm]) 1, txN (foundN (rd r) [sBody, sP]), true)
  else ([], [], [], false)
def readPageP (r : Rs) : List UInt8 × List UInt8 × Bool :=
  if (atN (foundN (rd r) [sBody, sP])).length = 1 ∧ sameR r (rsp sHtmlT (pageN ((atN (foundN (rd r) [sBody, sP])).getD 0 default).2 (txN (foundN (rd r) [sBody, sP])))) = true then
    (((atN (foundN (rd r) [sBody, sP])).getD 0 default).2, txN (foundN (rd r) [sBody, sP]), true)
  else ([], [], false)

/-! ### sizes -/
theorem leaf_len (n t : List UInt8) : (textN (leafN n t)).length ≤ 2 * n.length + 5 + 6 * t.length := by
  have := esc_length t
  simp only [leafN, textN, textL, attrT, List.flatMap_nil, List.length_append, List.length_cons, List.length_nil]
  omega
theorem wrap_len (n : List UInt8) (k : List Nd) : (textN (wrapN n k)).length = 2 * n.length + 5 + (textL k).length := by
  simp only [wrapN, textN, attrT, List.flatMap_nil, esc, List.length_append, List.length_cons, List.length_nil]
  omega
theorem textL_app (k l : List Nd) : (textL (k ++ l)).length = (textL k).length + (textL l).length := by
  rw [textL_append, List.length_append]
theorem textL_le {K : Nat} : ∀ {l : List Nd}, (∀ x ∈ l, (textN x).length ≤ K) → (textL l).length ≤ l.length * K
  | [], _ => by simp [textL]
  | x :: l, h => by
    have h1 := h x (List.mem_cons_self ..)
    have h2 := textL_le (l := l) (fun y hy => h y (List.mem_cons_of_mem _ hy))
    rw [textL, List.length_append, List.length_cons, Nat.add_mul]
    omega
theorem code_len (e : Int) : (codeE e).length ≤ 22 := by
  unfold codeE
  repeat' split
  all_goals decide
/-- so many, so long -/
structure SmS (s : Suc) (N K : Nat) : Prop where
  user : s.user.length ≤ K
  iou : s.iou.length ≤ K
  nattrs : s.attrs.length ≤ N
  nprox : s.proxies.length ≤ N
  attrs : ∀ p ∈ s.attrs, p.1.length ≤ K ∧ p.2.length ≤ K
  prox : ∀ p ∈ s.proxies, p.length ≤ K
theorem sm_zero (N K : Nat) : SmS suc0 N K := ⟨Nat.zero_le _, Nat.zero_le _, Nat.zero_le _, Nat.zero_le _, fun p hp => by simp [suc0] at hp, fun p hp => by simp [suc0] at hp⟩
theorem SmS.mono {s : Suc} {N K N' K' : Nat} (h : SmS s N K) (hN : N ≤ N') (hK : K ≤ K') : SmS s N' K' :=
  ⟨Nat.le_trans h.user hK, Nat.le_trans h.iou hK, Nat.le_trans h.nattrs hN, Nat.le_trans h.nprox hN, fun p hp => ⟨Nat.le_trans (h.attrs p hp).1 hK, Nat.le_trans (h.attrs p hp).2 hK⟩, fun p hp => Nat.le_trans (h.prox p hp) hK⟩
theorem suc_len {s : Suc} {N K : Nat} (h : SmS s N K) (at' : Bool) : (textN (sucN s at')).length ≤ 400 + 12 * K + N * (60 + 14 * K) := by
  have h0 := leaf_len sUser s.user
  have h2 := leaf_len sIou s.iou
  have ha : (textL (attrK s.attrs)).length ≤ s.attrs.length * (13 + 8 * K) := by
    have := textL_le (l := attrK s.attrs) (K := 13 + 8 * K) (fun x hx => by
      obtain ⟨p, hp, rfl⟩ := List.mem_map.1 hx
      have e := h.attrs p hp
      have e2 := leaf_len (sCas ++ p.1) p.2
      have e3 : sCas.length = 4 := rfl
      rw [List.length_append, e3] at e2
      show (textN (leafN (sCas ++ p.1) p.2)).length ≤ _
      omega)
    simpa [attrK] using this
  have hp : (textL (proxK s.proxies)).length ≤ s.proxies.length * (23 + 6 * K) := by
    have := textL_le (l := proxK s.proxies) (K := 23 + 6 * K) (fun x hx => by
      obtain ⟨p, hp, rfl⟩ := List.mem_map.1 hx
      have e := h.prox p hp
      have e2 := leaf_len sProxy p
      have e3 : sProxy.length = 9 := rfl
      rw [e3] at e2
      show (textN (leafN sProxy p)).length ≤ _
      omega)
    simpa [proxK] using this
  have ha2 : s.attrs.length * (13 + 8 * K) ≤ N * (13 + 8 * K) := Nat.mul_le_mul_right _ h.nattrs
  have hp2 : s.proxies.length * (23 + 6 * K) ≤ N * (23 + 6 * K) := Nat.mul_le_mul_right _ h.nprox
  have hN : N * (60 + 14 * K) = N * (13 + 8 * K) + N * (23 + 6 * K) + N * 24 := by
    rw [← Nat.mul_add, ← Nat.mul_add]; congr 1; omega
  have l1 : (textL (k1 s at')).length ≤ 33 + (textL (attrK s.attrs)).length := by
    unfold k1
    split
    · rw [textL, textL, List.append_nil, wrap_len]
      have : sAttrs.length = 14 := rfl
      omega
    · simp [textL]
  have l2 : (textL (k2 s)).length ≤ 51 + 6 * s.iou.length := by
    unfold k2
    split
    · rw [textL, textL, List.append_nil]
      have : sIou.length = 23 := rfl
      omega
    · simp [textL]
  have l3 : (textL (k3 s)).length ≤ 27 + (textL (proxK s.proxies)).length := by
    unfold k3
    split
    · rw [textL, textL, List.append_nil, wrap_len]
      have : sProxies.length = 11 := rfl
      omega
    · simp [textL]
  have hu := h.user
  have hi := h.iou
  unfold sucN sucK
  rw [wrap_len, textL_app, textL_app, textL_app, textL, textL, List.append_nil]
  have e1 : sSuc.length = 25 := rfl
  have e2 : sUser.length = 8 := rfl
  omega
theorem fail_len (name s c : List UInt8) : (textN (failN name s c)).length ≤ 2 * name.length + 13 + 6 * s.length + 6 * c.length := by
  have h1 := esc_length s
  have h2 := esc_length c
  have e : sCode.length = 4 := rfl
  simp only [failN, textN, textL, attrT, List.flatMap_cons, List.flatMap_nil, List.length_append, List.length_cons, List.length_nil, e]
  omega
theorem cas_len (x : Nd) : (textN (casN x)).length = 82 + (textN x).length := by
  have e1 : sResp.length = 19 := rfl
  have e2 : sNs.length = 9 := rfl
  have e3 : (esc sSpace).length = 26 := by decide +kernel
  have e4 : (esc []).length = 0 := rfl
  simp only [casN, textN, textL, attrT, List.flatMap_cons, List.flatMap_nil, List.length_append, List.length_cons, List.length_nil, e1, e2, e3, e4]
  omega
theorem answer_len {s : Suc} {N K : Nat} (h : SmS s N K) (e : Int) (at' : Bool) : (textN (answerN s e at')).length ≤ 700 + 12 * K + N * (60 + 14 * K) := by
  unfold answerN
  rw [cas_len]
  split
  · have := suc_len h at'
    omega
  · have h1 := fail_len sAF sNotOk (codeE e)
    have h2 := code_len e
    have e1 : sAF.length = 25 := rfl
    have e2 : sNotOk.length = 29 := rfl
    omega
theorem proxy_len (pt : List UInt8) (e : Int) : (textN (proxyN pt e)).length ≤ 600 + 6 * pt.length := by
  unfold proxyN
  rw [cas_len]
  split
  · rw [wrap_len, textL, textL, List.append_nil]
    have h1 := leaf_len sPT pt
    have e1 : sPS.length = 16 := rfl
    have e2 : sPT.length = 15 := rfl
    omega
  · have h1 := fail_len sPF sNoPt (codeE e)
    have h2 := code_len e
    have e1 : sPF.length = 16 := rfl
    have e2 : sNoPt.length = 18 := rfl
    omega
theorem input_len (a b : List UInt8) : (textN (inputN a b)).length ≤ 50 + 6 * a.length + 6 * b.length := by
  have h1 := esc_length a
  have h2 := esc_length b
  have e1 : sInput.length = 5 := rfl
  have e2 : sName.length = 4 := rfl
  have e3 : sValue.length = 5 := rfl
  have e4 : (esc []).length = 0 := rfl
  simp only [inputN, textN, textL, attrT, List.flatMap_cons, List.flatMap_nil, List.length_append, List.length_cons, List.length_nil, e1, e2, e3, e4]
  omega
theorem form_len (a b : List UInt8) : (textN (formN a b)).length ≤ 600 + 6 * a.length + 6 * b.length := by
  have h1 := input_len sLt a
  have h2 := input_len sService b
  have h3 := input_len sUn []
  have h4 := input_len sPw []
  have e1 : sForm.length = 4 := rfl
  have e2 : sAction.length = 6 := rfl
  have e3 : sMethod.length = 6 := rfl
  have e4 : (esc sLogin).length = 6 := by decide +kernel
  have e5 : (esc sPost).length = 4 := by decide +kernel
  have e6 : (esc []).length = 0 := rfl
  have e7 : sLt.length = 2 := rfl
  have e8 : sService.length = 7 := rfl
  have e9 : sUn.length = 8 := rfl
  have e10 : sPw.length = 8 := rfl
  simp only [List.length_nil] at h3 h4
  rw [formN, textN]
  simp only [textL, attrT, List.flatMap_cons, List.flatMap_nil, List.length_append, List.length_cons, List.length_nil, e1, e2, e3, e4, e5, e6]
  omega
theorem html_len (k : List Nd) : (textN (htmlN k)).length = 26 + (textL k).length := by
  unfold htmlN
  rw [wrap_len, textL, textL, List.append_nil, wrap_len]
  have e1 : sHtml.length = 4 := rfl
  have e2 : sBody.length = 4 := rfl
  omega
theorem formP_len (a b c : List UInt8) : (textN (formPN a b c)).length ≤ 700 + 6 * a.length + 6 * b.length + 6 * c.length := by
  unfold formPN
  rw [html_len]
  have h := form_len a b
  split
  · rw [textL, textL, List.append_nil]; omega
  · rw [textL, textL, textL, List.append_nil, List.length_append]
    have h2 := leaf_len sP c
    have e : sP.length = 1 := rfl
    omega
theorem pageN_len (a b : List UInt8) : (textN (pageN a b)).length ≤ 100 + 6 * a.length + 6 * b.length := by
  unfold pageN
  rw [html_len, textL, textL, List.append_nil]
  have h1 := esc_length a
  have h2 := esc_length b
  have e1 : sP.length = 1 := rfl
  have e2 : sClass.length = 5 := rfl
  simp only [textN, textL, attrT, List.flatMap_cons, List.flatMap_nil, List.length_append, List.length_cons, List.length_nil, e1, e2]
  omega
end Go.Cas
/-
  A text turned into bytes of the call's own, that are changed in place. Nothing of the program stands here.
-/
namespace Go.Eng
open Go.RowKit
set_option linter.unusedVariables false
section
variable {P : Program} {n : Nat} {E : Env} {k : Kont} {ops : Array Oper} {rest : List Oper} {cg : Bool}
variable {dst : Option Tmp} {ty : TypeId} {pos : String} {af : Array Edge} {g : Option (Nat × Bool)}
variable {w0 : World} {bs : List Nat} {H : List (Nat × Obj)} {M : Ghost} {C : World → Prop} {x y : Operand} {cx cy : Bool}
/-- a new block behind a call's old ones -/
theorem St.grow {w w' : World} {o : Obj} (h : St w0 bs H M w) (hx : Ext w w') (hb : w'.heap[w.heap.size]? = some o) : St w0 bs ((w.heap.size, o) :: H) M w' where
  keep := h.keep.trans hx.to
  own := by
    intro p hp
    rcases List.mem_cons.1 hp with rfl | hp
    · exact hb
    · exact (h.ext hx).own p hp
  new := by
    intro p hp
    rcases List.mem_cons.1 hp with rfl | hp
    · exact .inl h.keep.size
    · exact h.new p hp
  nodup := by
    simp only [List.map_cons, List.nodup_cons]
    refine ⟨?_, h.nodup⟩
    intro hm
    obtain ⟨p, hp, e⟩ := List.mem_map.1 hm
    have := lt_of_get (h.own p hp)
    omega
  laid := h.laid.ext hx
  apart := by
    intro b o' hm p hp
    rcases List.mem_cons.1 hp with rfl | hp
    · have := lt_of_get (h.laid b o' hm); simp; omega
    · exact h.apart b o' hm p hp
/-- the cells of a row of bytes -/
def rowB (l : List UInt8) (pad : Nat) : List Value := l.map byt ++ List.replicate pad (.int .u8 0)
theorem rowB_at {l : List UInt8} {pad i : Nat} (h : i < l.length) : (rowB l pad)[i]? = some (byt (l.getD i 0)) := by
  unfold rowB
  rw [List.getElem?_append_left (by simpa using h), List.getElem?_map, List.getElem?_eq_getElem h]
  simp [h]
theorem rowB_set {l : List UInt8} {pad i : Nat} {c : UInt8} (h : i < l.length) : (rowB l pad).set i (byt c) = rowB (l.set i c) pad := by
  unfold rowB
  rw [List.set_append_left _ _ (by simpa using h), List.map_set]
theorem rowB_length (l : List UInt8) (pad : Nat) : (rowB l pad).length = l.length + pad := by simp [rowB]
/-- '[]byte(s)' -/
theorem wl_bytesOf {src dst' e : TypeId} {u : TypeDesc} {s : List UInt8} {d : Nat} (hg : gd ops E g = some true) (hx : ev E x = some (true, str s)) (hs : P.underlying src = some u) (hd' : P.underlying dst' = some (.slice e)) (he : P.underlying e = some (.int .u8)) (hd : Nat.blt d n = true)
    (h : ∀ b cap pad, s.length ≤ cap → WL P ops rest n ((d, true, .slice (some ⟨b, 0, none⟩) s.length cap) :: E) (St w0 bs ((b, .cells (rowB s pad).toArray e (s.length + pad, s.length + pad + 1)) :: H) M) k) :
    WL P ops (⟨some d, .convert src dst' x, ty, pos, af, g⟩ :: rest) n E (St w0 bs H M) k := by
  have hd : d < n := by simpa [Nat.blt_eq] using hd
  refine wl_op hg fun a w ha hw => ?_
  unfold Oper.wp
  have hr := Lib.run_convert_string_bytes (P := P) w src dst' e ⟨s.toArray⟩ hs hd' he
  have : (execOp a.eval ⟨some d, .convert src dst' x, ty, pos, af, g⟩).run P w = .ok (.value (.slice (some ⟨w.heap.size, 0, none⟩) (⟨s.toArray⟩ : ByteArray).size (grownCap w (⟨s.toArray⟩ : ByteArray).size 0 e))) (Lib.bytesWorld w e ⟨s.toArray⟩) := by
    simp [execOp, ha.eval hx, hr]
  rw [this, Oper.upon_value, size_str]
  have hx : Ext w (Lib.bytesWorld w e ⟨s.toArray⟩) := ⟨rfl, rfl, rfl, by rw [Lib.bytesWorld_size]; omega, fun b hb _ => Lib.bytesWorld_at_old w e _ b hb⟩
  have hcells : Lib.bytesCells w e ⟨s.toArray⟩ = (rowB s (grownCap w s.length 0 e - s.length)).toArray := by
    unfold Lib.bytesCells rowB
    rw [size_str]
    simp
  have hnew := Lib.bytesWorld_at_new w e ⟨s.toArray⟩
  rw [hcells] at hnew
  have hsz : (rowB s (grownCap w s.length 0 e - s.length)).toArray.size = s.length + (grownCap w s.length 0 e - s.length) := by simp [rowB]
  rw [hsz] at hnew
  exact (h w.heap.size _ (grownCap w s.length 0 e - s.length) (grownCap_ge w s.length 0 e)).run _ _ (ha.put hd rfl) (hw.grow hx hnew)
/-- a byte stored into such a row -/
theorem wl_storeB {t : TypeId} {b i : Nat} {l : List UInt8} {pad : Nat} {T : TypeId} {c : UInt8} {z : Int} {H' : List (Nat × Obj)} (hg : gd ops E g = some true) (hx : ev E x = some (true, .pointer (some ⟨b, i, none⟩))) (hy : ev E y = some (true, .int .u8 z)) (hz : z = (c.toNat : Int)) (hi : i < l.length) (hs : (P.info? t).map (·.size) = some 1)
    (hu : Upd H b (.cells (rowB l pad).toArray T (l.length + pad, l.length + pad + 1)) (.cells (rowB (l.set i c) pad).toArray T (l.length + pad, l.length + pad + 1)) H')
    (h : WL P ops rest n E (St w0 bs H' M) k) : WL P ops (⟨none, .store t x y, ty, pos, af, g⟩ :: rest) n E (St w0 bs H M) k := by
  refine wl_op hg fun a w ha hw => ?_
  subst hz
  have hb := hw.get hu.mem
  have hc : w.cell? ⟨b, i, none⟩ = some (byt (l.getD i 0)) := by rw [cell_of hb]; simpa using rowB_at hi
  have hf : w.frozen? ⟨b, i, none⟩ = false := by
    simp only [World.frozen?, hb]
    rw [Bool.and_eq_false_iff]; left
    exact decide_eq_false (by omega)
  have hst : (store ⟨b, i, none⟩ (byt c)).run P w = .ok () (w.setCell ⟨b, i, none⟩ (byt c)) := by simp [store, Sem.run, hc, hf]
  unfold Oper.wp
  have : (execOp a.eval ⟨none, .store t x y, ty, pos, af, g⟩).run P w = .ok .skip (w.setCell ⟨b, i, none⟩ (byt c)) := by
    simp [execOp, ha.eval hx, ha.eval hy, Instr.storeAt, Instr.sureAddr, storeVar, run_sizeOf hs, Value.cells, storeCells, add_addr, hst]
  rw [this, Oper.upon_skip]
  refine h.run _ _ (by simpa [Act.put] using ha) (hw.upd hu setCell_keep ?_)
  simp only [World.setCell, Array.getElem?_modify, hb, if_true, Option.map_some]
  rw [← rowB_set hi]
  simp
theorem bytesOf_row (l : List UInt8) : bytesOf (l.map byt) = some l := by
  induction l with
  | nil => rfl
  | cons c l ih => simp only [List.map_cons, bytesOf, ih]; simp
/-- the text that such a row tells -/
theorem ov_rowStr {src dst' e : TypeId} {b len cap pad : Nat} {T : TypeId} {fz : Nat × Nat} {l : List UInt8} (hx : ev E x = some (cx, .slice (some ⟨b, 0, none⟩) len cap)) (hlen : len = l.length) (h1 : Imp cg cx) (hs : P.underlying src = some (.slice e)) (he : P.underlying e = some (.int .u8)) (hd : P.underlying dst' = some .string)
    (hm : (b, Obj.cells (rowB l pad).toArray T fz) ∈ H) : OpV P n E (St w0 bs H M) ⟨dst, .convert src dst' x, ty, pos, af, g⟩ cg (str l) :=
  ov_run fun h a ha w hw => by
    subst hlen
    have hx' : a.eval x = .slice (some ⟨b, 0, none⟩) (l.map byt).length cap := by rw [List.length_map]; exact ha.evalc hx (h1 h)
    simp only [execOp, hx', Sem.run_bind]
    rw [run_convBytes (o := 0) (vs := l.map byt) hs he hd (hw.get hm) (fun j hj => by
      rw [Nat.zero_add]
      have hj2 : j < l.length := by simpa using hj
      have := rowB_at (pad := pad) hj2
      rw [List.getElem?_map, List.getElem?_eq_getElem hj2]
      simp only [List.getElem?_toArray, this]
      simp [hj2]) (bytesOf_row l)]
    rfl
/-- less of a slice that the call owns -/
theorem OwnS.shrink {e : TypeId} {m b len cap q : Nat} {Hs : List (Nat × Obj)} {xs : List Value} (h : OwnS e m (.slice (some ⟨b, 0, none⟩) len cap) Hs xs) (hq : q ≤ len) : OwnS e m (.slice (some ⟨b, 0, none⟩) q cap) Hs (xs.take (q * m)) := by
  rcases h with ⟨h, _⟩ | ⟨b', len', cap', cur, h1, h2, h3, h4, h5, h6, h7⟩
  · cases h
  · cases h1
    have hm : q * m ≤ len * m := Nat.mul_le_mul_right _ hq
    refine .inr ⟨b, q, cap, cur, rfl, h2, ?_, by omega, h5, h6, ?_⟩
    · rw [List.length_take, h3]; omega
    · rw [← h7, List.take_take, Nat.min_eq_left hm]
/-- the larger of two numbers -/
theorem ov_max {kd : IntKind} {u z r : Int} {ats : Array TypeId} (hx : ev E x = some (cx, .int kd u)) (hy : ev E y = some (cy, .int kd z)) (h1 : Imp cg cx) (h2 : Imp cg cy) (hr : (if z > u then z else u) = r) : OpV P n E C ⟨dst, .call ⟨.builtin .max, #[x, y], ats⟩, ty, pos, af, g⟩ cg (.int kd r) :=
  ov_run fun h a ha w _ => by
    subst hr
    simp [execOp, resolve, invoke, builtin, ha.evalc hx (h1 h), ha.evalc hy (h2 h), run_max_int2]
/-- append out of another row of the call's own, as much of it as there is -/
theorem wl_appendO {s src : Operand} {t e : TypeId} {m by' d : Nat} {i : TypeInfo} {z v : Value} {Hs H0 : List (Nat × Obj)} {xs news : List Value} {b c len2 : Nat} {cs : Array Value} {T2 : TypeId} {fz : Nat × Nat} (hg : gd ops E g = some true) (hown : OwnS e m v Hs xs) (hd : Nat.blt d n = true)
    (hx : ev E s = some (true, v)) (hy : ev E src = some (true, .slice (some ⟨b, 0, none⟩) len2 c)) (ht : P.underlying t = some (.slice e)) (hi : P.info? e = some i) (hz : i.zero = some z) (hsz : i.size = m) (hby : i.bytes = by') (hzs : z.cells.size = m) (hm : Nat.blt 0 m = true)
    (hmem : (b, Obj.cells cs T2 fz) ∈ H) (hnews : ∀ (j : Nat) (u : Value), news[j]? = some u → cs[j]? = some u) (hl2 : news.length = len2 * m) (hp : news.all plainV = true) (hsub : List.Sublist (Hs ++ H0) H) (hb1 : xs.length / m + len2 ≤ 1000000000) (hb2 : Nat.ble by' 140000 = true)
    (h : ∀ v' Hs', OwnS e m v' Hs' (xs ++ news) → WL P ops rest n ((d, true, v') :: E) (St w0 bs (Hs' ++ H0) M) k) :
    WL P ops (⟨some d, .call ⟨.builtin .append, #[s, src], #[t, t]⟩, ty, pos, af, g⟩ :: rest) n E (St w0 bs H M) k := by
  have hd : d < n := by simpa [Nat.blt_eq] using hd
  refine wl_op hg fun a w ha hw => ?_
  obtain ⟨v', Hs', w', hr, h2, h3⟩ := run_append' (ty := ty) (ad := ⟨b, 0, none⟩) (c := c) ht hi hz hsz hby hzs (by simpa [Nat.blt_eq] using hm) hown (hw.drop hsub) hl2 (fun j u hj => by rw [add_addr, cell_of (hw.get hmem), Nat.zero_add]; exact hnews j u hj) hp hb1 (Nat.le_of_ble_eq_true hb2)
  unfold Oper.wp
  rw [run_appendOp (ha.eval hx) (ha.eval hy) hr, Oper.upon_value]
  exact (h v' Hs' h2).run _ _ (ha.put hd rfl) h3
theorem yr_cellS {fn : Func} {t u b : Nat} {tid : TypeId} {fs : Array Field} {l : List Value} {T : TypeId} {fz : Nat × Nat} {r r' : Value} {v : Value} (hr : fn.results = #[.cell t tid, .tmp u]) (ht : look E t = some (true, .pointer (some ⟨b, 0, none⟩))) (hu : look E u = some (true, r'))
    (hty : P.underlying tid = some (.struct fs)) (hs : (P.info? tid).map (·.size) = some l.length) (hv : .agg l.toArray = v) (hv2 : r' = r) (hm : (b, Obj.cells l.toArray T fz) ∈ H := by exact (by first | exact List.Mem.head _ | exact List.Mem.tail _ (List.Mem.head _) | exact List.Mem.tail _ (List.Mem.tail _ (List.Mem.head _)) | exact List.Mem.tail _ (List.Mem.tail _ (List.Mem.tail _ (List.Mem.head _))) | exact List.Mem.tail _ (List.Mem.tail _ (List.Mem.tail _ (List.Mem.tail _ (List.Mem.head _)))) | exact List.mem_append_right _ (List.Mem.head _) | exact List.mem_append_right _ (List.Mem.tail _ (List.Mem.head _)) | exact List.mem_append_right _ (List.Mem.tail _ (List.Mem.tail _ (List.Mem.head _))) | exact List.mem_append_right _ (List.Mem.tail _ (List.Mem.tail _ (List.Mem.tail _ (List.Mem.head _)))) | exact List.Mem.tail _ (List.mem_append_right _ (List.Mem.head _)) | exact List.Mem.tail _ (List.mem_append_right _ (List.Mem.tail _ (List.Mem.head _))) | exact List.Mem.tail _ (List.mem_append_right _ (List.Mem.tail _ (List.Mem.tail _ (List.Mem.head _)))) | exact List.Mem.tail _ (List.mem_append_right _ (List.Mem.tail _ (List.Mem.tail _ (List.Mem.tail _ (List.Mem.head _))))) | exact List.Mem.tail _ (List.Mem.tail _ (List.mem_append_right _ (List.Mem.head _))) | exact List.Mem.tail _ (List.Mem.tail _ (List.mem_append_right _ (List.Mem.tail _ (List.Mem.head _)))) | exact List.Mem.tail _ (List.Mem.tail _ (List.mem_append_right _ (List.Mem.tail _ (List.Mem.tail _ (List.Mem.head _))))))) : WR n E (St w0 [] H M) (bodyPost P fn (RetE w0 (.tuple #[v, r]))) := wr_cellS hr ht hu hty hm hs hv hv2
end
end Go.Eng
/-
  Elements in memory; text, around, input, failure, Code.
-/
namespace Go.Eng
set_option linter.unusedSimpArgs false
set_option linter.unusedVariables false
section
variable {P : Program} {n : Nat} {E : Env} {k : Kont} {ops : Array Oper} {rest tail : List Oper} {cg : Bool} {C : World → Prop}
variable {dst : Option Tmp} {ty : TypeId} {pos : String} {af : Array Edge} {g : Option (Nat × Bool)}
variable {w0 : World} {bs : List Nat} {H : List (Nat × Obj)} {M : Ghost}
/-- own blocks lie as well -/
theorem St.with {w : World} (h : St w0 bs H M w) : Laid (With M H) w := fun b o hb => hb.elim (h.laid b o) fun hm => h.own (b, o) hm
/-- a call that takes a slice that was laid in the same region, among others -/
theorem or_callN {f : FuncId} {s len : Nat} {o : Obj} {v : Value} {l : List Operand} {ats : Array TypeId} {vs : Value → List (Bool × Value)} {args : Value → Array Value} (hf : ∀ args w, (callFunc f args).run P w = .ok (.enter f args) w)
    (hl : ∀ u, evg true ((s, true, u) :: E) l = some (vs u)) (hp : ∀ u, (vs u).all (·.1) = true) (hargs : ∀ u, (vs u).map (·.2) = (args u).toList)
    (hc : ∀ b w, St w0 bs ((b, o) :: H) M w → Calls P f (args (.slice (some ⟨b, 0, none⟩) len len)) w (RetE w v)) (u : Value) :
    OpR P n ((s, true, u) :: E) (St w0 bs H M) (Fresh w0 bs H M len o u) ⟨dst, .call ⟨.value (.func f), l.toArray, ats⟩, ty, pos, af, none⟩ (exact1 true v) := ⟨fun a ha w hw ⟨b, hu, hst⟩ => by
  subst hu
  unfold Tells
  rw [run_callf hf (args := args (.slice (some ⟨b, 0, none⟩) len len)) (by rw [evg_eval ha (hl _) (by simpa using hp _), hargs])]
  exact ⟨rfl, (hc b w hst).mono fun e w' he => ⟨v, he.1, rfl, he.2, hw.ext he.2⟩⟩⟩
/-- a cell that is laid in a drawn region -/
def FreshC (w0 : World) (bs : List Nat) (H : List (Nat × Obj)) (M : Ghost) (o : Obj) : Tell := fun v w => ∃ b, v = .pointer (some ⟨b, 0, none⟩) ∧ St w0 bs ((b, o) :: H) M w
theorem steady_freshC {o : Obj} : Steady (FreshC w0 bs H M o) := fun _ _ _ hx ⟨b, h1, h2⟩ => ⟨b, h1, h2.ext hx⟩
theorem wl_freshC {d : Nat} {o : Obj} {l : List Oper} (h : ∀ b, WL P ops l n ((d, true, .pointer (some ⟨b, 0, none⟩)) :: E) (St w0 bs ((b, o) :: H) M) k) (v : Value) :
    WL P ops l n ((d, true, v) :: E) (fun w => St w0 bs H M w ∧ FreshC w0 bs H M o v w) k := ⟨fun a w ha ⟨_, b, hv, hst⟩ => by
  subst hv
  exact (h b).run a w ha hst⟩
/-- one told entry is kept, others are not -/
theorem wd_nilK {d : Nat} {V : Tell} {F : REnv} (hF : lookR F d = some V) (h : ∀ v, WL P ops tail n ((d, true, v) :: E) (fun w => C w ∧ V v w) k) : WD P ops [] n E F C tail k := ⟨fun hdis G hG a w hw hA => by
  obtain ⟨u, hu, hU⟩ := hA.2.2 d V (by rw [hG]; simp [hF]) trivial
  refine (h u).run a w ⟨hA.1, hA.2.1, fun i c v hi => ?_⟩ ⟨hw, hU⟩
  simp only [look] at hi
  by_cases e : d = i
  · subst e; simp at hi; obtain ⟨rfl, rfl⟩ := hi; exact hu
  · rw [beq_no e, cond_false] at hi
    have hFi : lookR F i = none := by
      cases hf : lookR F i with
      | none => rfl
      | some V => rw [hdis i (by simp [hf])] at hi; cases hi
    obtain ⟨u2, hu2, hU2⟩ := hA.2.2 i (exact1 c v) (by rw [hG]; simp [hFi, hi]) trivial
    rw [hu2, hU2]⟩
end
end Go.Eng
namespace Go.Proofs.YtgfbieplidpebaaDoor
open Go.Eng Go.Pct Go.Xml Go.Cas
set_option maxRecDepth 10000
set_option linter.unusedSimpArgs false
set_option linter.unusedVariables false

variable {M : Ghost} {w0 w : World} {bs : List Nat} {H : List (Nat × Obj)}
abbrev tNd : TypeId := 35
/-- elements, each in its cells -/
def AllN (M : Ghost) (D : Nat) : List Nd → List (List Value) → Prop
  | [], [] => True
  | x :: l, vs :: vss => NodeC M D x vs ∧ AllN M D l vss
  | _, _ => False
theorem AllN.mono {M' : Ghost} {D : Nat} (hm : ∀ b o, M b o → M' b o) : ∀ {l : List Nd} {vss : List (List Value)}, AllN M D l vss → AllN M' D l vss
  | [], [], _ => trivial
  | x :: l, vs :: vss, h => ⟨NodeC.mono hm h.1, AllN.mono hm h.2⟩
  | [], _ :: _, h => h.elim
  | _ :: _, [], h => h.elim
theorem AllN.up {D D' : Nat} (hd : D ≤ D') : ∀ {l : List Nd} {vss : List (List Value)}, AllN M D l vss → AllN M D' l vss
  | [], [], _ => trivial
  | x :: l, vs :: vss, h => ⟨NodeC.up hd h.1, AllN.up hd h.2⟩
  | [], _ :: _, h => h.elim
  | _ :: _, [], h => h.elim
theorem AllN.app {D : Nat} {l' : List Nd} {vss' : List (List Value)} (h' : AllN M D l' vss') : ∀ {l : List Nd} {vss : List (List Value)}, AllN M D l vss → AllN M D (l ++ l') (vss ++ vss')
  | [], [], _ => h'
  | x :: l, vs :: vss, h => ⟨h.1, AllN.app h' h.2⟩
  | [], _ :: _, h => h.elim
  | _ :: _, [], h => h.elim
theorem AllN.len {D : Nat} : ∀ {l : List Nd} {vss : List (List Value)}, AllN M D l vss → vss.flatten.length = l.length * 4
  | [], [], _ => rfl
  | x :: l, vs :: vss, h => by
    rw [List.flatten_cons, List.length_append, h.1.four, AllN.len h.2, List.length_cons]; omega
  | [], _ :: _, h => h.elim
  | _ :: _, [], h => h.elim
theorem AllN.at {D : Nat} : ∀ {l : List Nd} {vss : List (List Value)}, AllN M D l vss → ∀ (i : Nat) (hi : i < l.length), NodeC M D l[i] ((vss.flatten.drop (i * 4)).take 4)
  | x :: l, vs :: vss, h, 0, _ => by
    rw [List.flatten_cons, Nat.zero_mul, List.drop_zero, List.take_left' h.1.four]; exact h.1
  | x :: l, vs :: vss, h, i + 1, hi => by
    rw [List.flatten_cons, show (i + 1) * 4 = vs.length + i * 4 from by rw [h.1.four]; omega, ← List.drop_drop, List.drop_left]
    exact AllN.at h.2 i (by simpa using hi)
  | [], _, _, i, hi => absurd hi (by simp)
  | _ :: _, [], h, _, _ => h.elim
theorem AllN.sl {D : Nat} {e : TypeId} {v : Value} {Hs : List (Nat × Obj)} {l : List Nd} {vss : List (List Value)} (h : AllN M D l vss) (own : OwnS e 4 v Hs vss.flatten) (hM : ∀ p ∈ Hs, M p.1 p.2) (hl : l.length ≤ 1000000000) : Sl M 4 (NodeC M D) v l :=
  own.sl (by decide) hM h.len (by omega) (fun i hi => h.at i hi)
/-- .. in a block that lies -/
theorem sl_blk {D b : Nat} {l : List Nd} {vss : List (List Value)} (hb : M b (.cells vss.flatten.toArray tNd (0, 0))) (h : AllN M D l vss) (hl : l.length ≤ 1000) : Sl M 4 (NodeC M D) (.slice (some ⟨b, 0, none⟩) l.length l.length) l :=
  h.sl (OwnS.lit (e := tNd) (m := 4) (b := b) (len := l.length) h.len (Nat.le_trans hl (by decide))) (fun p hp => by rw [List.mem_singleton] at hp; subst hp; exact hb) (by omega)
theorem slP_blk {e b : Nat} {l : List Go.Pct.Pr} (h : M b (.cells (cellsP l).toArray e (0, 0))) (hl : l.length ≤ 1000) : SlP M (.slice (some ⟨b, 0, none⟩) l.length l.length) l :=
  (OwnS.lit (e := e) (b := b) (cellsP_length l) (Nat.le_trans hl (by decide))).slP (fun p hp => by
    rw [List.mem_singleton] at hp; subst hp; exact h) (by omega)
/-- an element, from its parts -/
theorem node_mk {D : Nat} {n t : List UInt8} {a : List Go.Pct.Pr} {k : List Nd} {va vk : Value} (ha : SlP M va a) (hk : Sl M 4 (NodeC M D) vk k) (hn : n.length ≤ 100000000) (ht : t.length ≤ 100000000) (hp : ∀ p ∈ a, p.1.length ≤ 100000000 ∧ p.2.length ≤ 100000000) : NodeC M (D + 1) (.mk n a t k) [str n, va, str t, vk] := ⟨_, _, rfl, ha, hk, hn, ht, hp⟩
theorem leaf_mk {D : Nat} {n t : List UInt8} (hn : n.length ≤ 100000000) (ht : t.length ≤ 100000000) : NodeC M (D + 1) (leafN n t) [str n, .slice none 0 0, str t, .slice none 0 0] := node_mk sl_nil sl_nil hn ht (fun p hp => absurd hp (by simp))
theorem wrap_mk {D : Nat} {n : List UInt8} {k : List Nd} {vk : Value} (hk : Sl M 4 (NodeC M D) vk k) (hn : n.length ≤ 100000000) : NodeC M (D + 1) (wrapN n k) [str n, .slice none 0 0, str [], vk] := node_mk sl_nil hk hn (by simp) (fun p hp => absurd hp (by simp))
/-- a result that is an element -/
def NdIs (M' : Ghost) (D : Nat) (x : Nd) (v : Value) : Prop := ∃ n a1 l1 c1 t a2 l2 c2, v = .agg [str n, .slice a1 l1 c1, str t, .slice a2 l2 c2].toArray ∧ NodeC M' D x [str n, .slice a1 l1 c1, str t, .slice a2 l2 c2]
/-- a result that is a response -/
def RspK (M' : Ghost) (kind body : List UInt8) (v : Value) : Prop := ∃ a l c, v = .agg [i64 200, .slice a l c, str body].toArray ∧ SlP M' (.slice a l c) [(sCT, kind)]

theorem text_ok (hM : Laid M w) (n s : List UInt8) (a : Option Addr) (l c : Nat) : Calls Tryd.prog 23 #[str n, str s, .slice a l c] w (RetE w (.agg [str n, .slice a l c, str s, .slice none 0 0].toArray)) := by
  refine calls_st (l := [str n, str s, .slice a l c]) hM Tryd.func23 rfl rfl rfl (E0 := [(0, true, str n), (1, true, str s), (2, true, .slice a l c)]) (params_cons rfl (params_cons rfl (params_cons rfl (params_nil _)))) ?_
  repeat' (first | refine wc_seq ?_ | refine wc_region ?_ | refine wl_nil ?_ | refine wn_seq ?_ | refine wn_blk ?_ | refine wc_skip ?_ | refine wc_block ?_ | refine wc_exit rfl ?_ | (show WL _ _ (_ :: _) _ _ _ _; first | refine yl_v rfl rfl rfl ?_ | refine wl_v rfl rfl rfl (by first  | fail) ?_ | refine xl_alloc (fun _ => ?_) | refine xl_store rfl rfl ?_) | refine wc_ret rfl ?_)
  exact wr_cell1 rfl rfl rfl (by first | exact List.Mem.head _ | exact List.Mem.tail _ (List.Mem.head _) | exact List.Mem.tail _ (List.Mem.tail _ (List.Mem.head _)) | exact List.Mem.tail _ (List.Mem.tail _ (List.Mem.tail _ (List.Mem.head _))) | exact List.Mem.tail _ (List.Mem.tail _ (List.Mem.tail _ (List.Mem.tail _ (List.Mem.head _)))) | exact List.mem_append_right _ (List.Mem.head _) | exact List.mem_append_right _ (List.Mem.tail _ (List.Mem.head _)) | exact List.mem_append_right _ (List.Mem.tail _ (List.Mem.tail _ (List.Mem.head _))) | exact List.mem_append_right _ (List.Mem.tail _ (List.Mem.tail _ (List.Mem.tail _ (List.Mem.head _)))) | exact List.Mem.tail _ (List.mem_append_right _ (List.Mem.head _)) | exact List.Mem.tail _ (List.mem_append_right _ (List.Mem.tail _ (List.Mem.head _))) | exact List.Mem.tail _ (List.mem_append_right _ (List.Mem.tail _ (List.Mem.tail _ (List.Mem.head _)))) | exact List.Mem.tail _ (List.mem_append_right _ (List.Mem.tail _ (List.Mem.tail _ (List.Mem.tail _ (List.Mem.head _))))) | exact List.Mem.tail _ (List.Mem.tail _ (List.mem_append_right _ (List.Mem.head _))) | exact List.Mem.tail _ (List.Mem.tail _ (List.mem_append_right _ (List.Mem.tail _ (List.Mem.head _)))) | exact List.Mem.tail _ (List.Mem.tail _ (List.mem_append_right _ (List.Mem.tail _ (List.Mem.tail _ (List.Mem.head _)))))) rfl rfl
theorem around_ok (hM : Laid M w) (n : List UInt8) (a : Option Addr) (l c : Nat) : Calls Tryd.prog 39 #[str n, .slice a l c] w (RetE w (.agg [str n, .slice none 0 0, str [], .slice a l c].toArray)) := by
  refine calls_st (l := [str n, .slice a l c]) hM Tryd.func39 rfl rfl rfl (E0 := [(0, true, str n), (1, true, .slice a l c)]) (params_cons rfl (params_cons rfl (params_nil _))) ?_
  repeat' (first | refine wc_seq ?_ | refine wc_region ?_ | refine wl_nil ?_ | refine wn_seq ?_ | refine wn_blk ?_ | refine wc_skip ?_ | refine wc_block ?_ | refine wc_exit rfl ?_ | (show WL _ _ (_ :: _) _ _ _ _; first | refine yl_v rfl rfl rfl ?_ | refine wl_v rfl rfl rfl (by first  | fail) ?_ | refine xl_alloc (fun _ => ?_) | refine xl_store rfl rfl ?_) | refine wc_ret rfl ?_)
  exact wr_cell1 rfl rfl rfl (by first | exact List.Mem.head _ | exact List.Mem.tail _ (List.Mem.head _) | exact List.Mem.tail _ (List.Mem.tail _ (List.Mem.head _)) | exact List.Mem.tail _ (List.Mem.tail _ (List.Mem.tail _ (List.Mem.head _))) | exact List.Mem.tail _ (List.Mem.tail _ (List.Mem.tail _ (List.Mem.tail _ (List.Mem.head _)))) | exact List.mem_append_right _ (List.Mem.head _) | exact List.mem_append_right _ (List.Mem.tail _ (List.Mem.head _)) | exact List.mem_append_right _ (List.Mem.tail _ (List.Mem.tail _ (List.Mem.head _))) | exact List.mem_append_right _ (List.Mem.tail _ (List.Mem.tail _ (List.Mem.tail _ (List.Mem.head _)))) | exact List.Mem.tail _ (List.mem_append_right _ (List.Mem.head _)) | exact List.Mem.tail _ (List.mem_append_right _ (List.Mem.tail _ (List.Mem.head _))) | exact List.Mem.tail _ (List.mem_append_right _ (List.Mem.tail _ (List.Mem.tail _ (List.Mem.head _)))) | exact List.Mem.tail _ (List.mem_append_right _ (List.Mem.tail _ (List.Mem.tail _ (List.Mem.tail _ (List.Mem.head _))))) | exact List.Mem.tail _ (List.Mem.tail _ (List.mem_append_right _ (List.Mem.head _))) | exact List.Mem.tail _ (List.Mem.tail _ (List.mem_append_right _ (List.Mem.tail _ (List.Mem.head _)))) | exact List.Mem.tail _ (List.Mem.tail _ (List.mem_append_right _ (List.Mem.tail _ (List.Mem.tail _ (List.Mem.head _)))))) rfl rfl
theorem input_ok (hM : Laid M w) (a b : List UInt8) (ha : a.length ≤ 100000000) (hb : b.length ≤ 100000000) : Calls Tryd.prog 40 #[str a, str b] w (RetS M w (fun M' H v => H = [] ∧ NdIs M' 1 (inputN a b) v)) := by
  refine calls_st (l := [str a, str b]) hM Tryd.func40 rfl rfl rfl (E0 := [(0, true, str a), (1, true, str b)]) (params_cons rfl (params_cons rfl (params_nil _))) ?_
  repeat' (first | refine wc_seq ?_ | refine wc_region ?_ | refine wl_nil ?_ | refine wn_seq ?_ | refine wn_blk ?_ | refine wc_skip ?_ | refine wc_block ?_ | refine wc_exit rfl ?_ | (show WL _ _ (_ :: _) _ _ _ _; first | refine yl_v rfl rfl rfl ?_ | refine wl_v rfl rfl rfl (by first | ((show OpV _ _ _ _ (Oper.mk _ (Op.call ⟨.value (.func 23), _, _⟩) _ _ _ _) _ _; exact ov_call Tryd.call23 rfl (by intro himp; first | rfl | (simp_all; done)) (by rfl) (fun _ _ h k => h.ext k) (fun hcg w hw => text_ok hw.laid _ _ _ _ _))) | fail) ?_ | refine xl_alloc (fun _ => ?_) | refine xl_store rfl rfl ?_ | refine xl_buildSlice rfl (fun _ => ?_)) | refine wc_ret rfl ?_)
  rename_i b4 b9
  refine yr_layC (Hn := [(b9, .cells (cellsP [(sName, a), (sValue, b)]).toArray 57 (0, 0))]) rfl rfl rfl rfl Since.refl (List.Sublist.cons_cons _ (List.nil_sublist _)) ⟨rfl, _, _, _, _, _, _, _, _, rfl, node_mk (slP_blk (l := [(sName, a), (sValue, b)]) (.inr (List.Mem.head _)) (by simp)) sl_nil (by decide) (by simp) (fun p hp => ?_)⟩
  simp only [List.mem_cons, List.not_mem_nil, or_false] at hp
  rcases hp with rfl | rfl
  · exact ⟨by show sName.length ≤ _; decide, ha⟩
  · exact ⟨by show sValue.length ≤ _; decide, hb⟩
theorem failure_ok (hM : Laid M w) (n s c : List UInt8) (hn : n.length ≤ 100000000) (hs : s.length ≤ 100000000) (hc : c.length ≤ 100000000) : Calls Tryd.prog 25 #[str n, str s, str c] w (RetS M w (fun M' H v => H = [] ∧ NdIs M' 1 (failN n s c) v)) := by
  refine calls_st (l := [str n, str s, str c]) hM Tryd.func25 rfl rfl rfl (E0 := [(0, true, str n), (1, true, str s), (2, true, str c)]) (params_cons rfl (params_cons rfl (params_cons rfl (params_nil _)))) ?_
  repeat' (first | refine wc_seq ?_ | refine wc_region ?_ | refine wl_nil ?_ | refine wn_seq ?_ | refine wn_blk ?_ | refine wc_skip ?_ | refine wc_block ?_ | refine wc_exit rfl ?_ | (show WL _ _ (_ :: _) _ _ _ _; first | refine yl_v rfl rfl rfl ?_ | refine wl_v rfl rfl rfl (by first | ((show OpV _ _ _ _ (Oper.mk _ (Op.call ⟨.value (.func 23), _, _⟩) _ _ _ _) _ _; exact ov_call Tryd.call23 rfl (by intro himp; first | rfl | (simp_all; done)) (by rfl) (fun _ _ h k => h.ext k) (fun hcg w hw => text_ok hw.laid _ _ _ _ _))) | fail) ?_ | refine xl_alloc (fun _ => ?_) | refine xl_store rfl rfl ?_ | refine xl_buildSlice rfl (fun _ => ?_)) | refine wc_ret rfl ?_)
  rename_i b6 b11
  refine yr_layC (Hn := [(b11, .cells (cellsP [(sCode, c)]).toArray 57 (0, 0))]) rfl rfl rfl rfl Since.refl (List.Sublist.cons_cons _ (List.nil_sublist _)) ⟨rfl, _, _, _, _, _, _, _, _, rfl, node_mk (slP_blk (l := [(sCode, c)]) (.inr (List.Mem.head _)) (by simp)) sl_nil hn hs (fun p hp => ?_)⟩
  simp only [List.mem_cons, List.not_mem_nil, or_false] at hp
  subst hp
  exact ⟨by show sCode.length ≤ _; decide, hc⟩
/-! ### codes -/
def codeEs : List MapEntry := [⟨i64 33, str cReq, 0⟩, ⟨i64 30, str cTkt, 1⟩, ⟨i64 32, str cSpec, 2⟩, ⟨i64 31, str cSvc, 3⟩, ⟨i64 36, str cUna, 4⟩, ⟨i64 34, str cCb, 5⟩, ⟨i64 0, str [], 6⟩]
end Go.Proofs.YtgfbieplidpebaaDoor
/-
  validate.Code; page, cas, html, Page, Proxy, Form.
-/
namespace Go.Eng
set_option linter.unusedSimpArgs false
set_option linter.unusedVariables false
section
variable {P : Program} {n : Nat} {E : Env} {cg cx cy : Bool} {x y : Operand}
variable {dst : Option Tmp} {ty : TypeId} {pos : String} {af : Array Edge} {g : Option (Nat × Bool)}
variable {w0 : World} {bs : List Nat} {H : List (Nat × Obj)} {M : Ghost}
theorem ov_lookupOk {mt kt et : TypeId} {d : TypeDesc} {b clock : Nat} {es : List MapEntry} {key v zv : Value} {r : Option (Nat × Value)} (hx : ev E x = some (cx, .map (some b))) (hy : ev E y = some (cy, key)) (h1 : Imp cg cx) (h2 : Imp cg cy)
    (ht : P.underlying mt = some (.map kt et)) (hk : P.underlying kt = some d) (hkey : MapKept.IsKey d key) (hm : (b, Obj.map es.toArray clock) ∈ H) (hz : ∀ w, (zeroValue et).run P w = .ok zv w) (hf : Instr.findNow d key es 0 = some r) (hv : .tuple #[foundV zv r, .bool r.isSome] = v) :
    OpV P n E (St w0 bs H M) ⟨dst, .lookup mt x y true, ty, pos, af, g⟩ cg v :=
  ov_run fun h a ha w hw => by
    have hf' : Instr.findNow d key es.toArray.toList 0 = some r := by simpa using hf
    subst hv
    cases r with
    | none => simp [foundV, execOp, ha.evalc hx (h1 h), ha.evalc hy (h2 h), Instr.lookup, run_underlying ht, MapKept.run_getObj_map (hw.get hm), MapKept.run_checkKey hk hkey, MapKept.run_findKey hk hf', hz]
    | some iv => obtain ⟨i, u⟩ := iv; simp [foundV, execOp, ha.evalc hx (h1 h), ha.evalc hy (h2 h), Instr.lookup, run_underlying ht, MapKept.run_getObj_map (hw.get hm), MapKept.run_checkKey hk hkey, MapKept.run_findKey hk hf']
end
end Go.Eng
namespace Go.Proofs.YtgfbieplidpebaaDoor
open Go.Eng Go.Pct Go.Xml Go.Cas
set_option maxRecDepth 10000
set_option linter.unusedSimpArgs false
set_option linter.unusedVariables false

variable {M : Ghost} {w0 w : World} {bs : List Nat} {H : List (Nat × Obj)}
theorem find_code (z : Int) : ∃ r, Instr.findNow (.int .i64) (i64 z) codeEs 0 = some r ∧ ((r = none ∧ codeE z = cInt) ∨ ∃ i, r = some (i, str (codeE z))) := by
  have step : ∀ (z m : Int) (v : Value) (n i : Nat) (l : List MapEntry), Instr.findNow (.int .i64) (i64 z) (⟨i64 m, v, n⟩ :: l) i = if z = m then some (some (i, v)) else Instr.findNow (.int .i64) (i64 z) l (i + 1) := by
    intro z m v n i l
    by_cases h : z = m
    · simp [Instr.findNow, Instr.sameNow, h]
    · have h' : (z == m) = false := by simpa using h
      simp [Instr.findNow, Instr.sameNow, h, h']
  unfold codeEs
  simp only [step]
  repeat' split
  all_goals first
    | (subst_vars; exact ⟨_, rfl, .inr ⟨_, rfl⟩⟩)
    | (refine ⟨_, rfl, .inl ⟨rfl, ?_⟩⟩; unfold codeE; simp [*])
theorem codes_ok (hM : Laid M w) : Calls Tryd.prog 42 #[] w (RetS M w (fun M' H v => ∃ b, v = .map (some b) ∧ H = [(b, .map codeEs.toArray 7)])) := by
  refine calls_st (l := []) hM Tryd.func42 rfl rfl rfl (E0 := []) (params_nil _) ?_
  repeat' (first | refine wc_seq ?_ | refine wc_region ?_ | refine wl_nil ?_ | refine wn_seq ?_ | refine wn_blk ?_ | refine wc_skip ?_ | refine wc_block ?_ | refine wc_exit rfl ?_ | (show WL _ _ (_ :: _) _ _ _ _; first | refine yl_v rfl rfl rfl ?_ | refine wl_v rfl rfl rfl (by first  | fail) ?_ | refine wl_makeMap rfl rfl (fun _ => ?_) | refine wl_insert rfl rfl rfl rfl rfl rfl (by first | exact rfl | exact trivial) (by first | exact Upd.here | exact Upd.there Upd.here | exact Upd.there (Upd.there Upd.here) | exact Upd.there (Upd.there (Upd.there Upd.here)) | exact Upd.there (Upd.there (Upd.there (Upd.there Upd.here))) | exact Upd.app _ (Upd.here) | exact Upd.app _ (Upd.there Upd.here) | exact Upd.app _ (Upd.there (Upd.there Upd.here)) | exact Upd.app _ (Upd.there (Upd.there (Upd.there Upd.here))) | exact Upd.there (Upd.app _ (Upd.here)) | exact Upd.there (Upd.app _ (Upd.there Upd.here)) | exact Upd.there (Upd.app _ (Upd.there (Upd.there Upd.here))) | exact Upd.there (Upd.app _ (Upd.there (Upd.there (Upd.there Upd.here)))) | exact Upd.there (Upd.there (Upd.app _ (Upd.here))) | exact Upd.there (Upd.there (Upd.app _ (Upd.there Upd.here))) | exact Upd.there (Upd.there (Upd.app _ (Upd.there (Upd.there Upd.here))))) (by rfl) ?_) | refine wc_ret rfl ?_)
  exact wr_S (Hn := [(_, .map codeEs.toArray 7)]) rfl rfl Since.refl (List.Sublist.refl _) ⟨_, rfl, rfl⟩
theorem code_ok (hM : Laid M w) (z : Int) : Calls Tryd.prog 26 #[i64 z] w (RetE w (str (codeE z))) := by
  obtain ⟨r, hr1, hr2⟩ := find_code z
  refine calls_st (l := [i64 z]) hM Tryd.func26 rfl rfl rfl (E0 := [(0, true, i64 z)]) (params_cons rfl (params_nil _)) ?_
  repeat' (first | refine wc_seq ?_ | refine wc_region ?_ | refine wl_nil ?_ | refine wn_seq ?_ | refine wn_blk ?_ | refine wc_skip ?_ | refine wc_block ?_ | refine wc_exit rfl ?_ | (show WL _ _ (_ :: _) _ _ _ _; first | refine yl_v rfl rfl rfl ?_ | refine wl_v rfl rfl rfl (by first  | fail) ?_) | refine wc_ret rfl ?_)
  refine wl_callS rfl Tryd.call42 rfl rfl rfl rfl (fun w hw => codes_ok hw.laid) ?_
  rintro v Hn M' hm hnew ⟨b, rfl, rfl⟩
  rcases hr2 with ⟨rfl, hz⟩ | ⟨i, rfl⟩
  · repeat' (first | (first | refine wc_seq ?_ | refine wc_region ?_ | refine wl_nil ?_ | refine wn_seq ?_ | refine wn_blk ?_ | refine wc_skip ?_ | refine wc_block ?_ | refine wc_exit rfl ?_ | (show WL _ _ (_ :: _) _ _ _ _; first | refine yl_v rfl rfl rfl ?_ | refine wl_v rfl rfl rfl (by first | (show OpV _ _ _ _ (Oper.mk _ (Op.lookup _ _ _ _) _ _ _ _) _ _; exact ov_lookupOk rfl rfl (by first | with_reducible exact fun _ => rfl | with_reducible exact fun h => h | exact fun _ => rfl | exact fun h => h | (intro himp; simp_all; done)) (by first | with_reducible exact fun _ => rfl | with_reducible exact fun h => h | exact fun _ => rfl | exact fun h => h | (intro himp; simp_all; done)) rfl rfl (by exact rfl) (by first | exact List.Mem.head _ | exact List.Mem.tail _ (List.Mem.head _) | exact List.Mem.tail _ (List.Mem.tail _ (List.Mem.head _)) | exact List.Mem.tail _ (List.Mem.tail _ (List.Mem.tail _ (List.Mem.head _))) | exact List.Mem.tail _ (List.Mem.tail _ (List.Mem.tail _ (List.Mem.tail _ (List.Mem.head _)))) | exact List.mem_append_right _ (List.Mem.head _) | exact List.mem_append_right _ (List.Mem.tail _ (List.Mem.head _)) | exact List.mem_append_right _ (List.Mem.tail _ (List.Mem.tail _ (List.Mem.head _))) | exact List.mem_append_right _ (List.Mem.tail _ (List.Mem.tail _ (List.Mem.tail _ (List.Mem.head _)))) | exact List.Mem.tail _ (List.mem_append_right _ (List.Mem.head _)) | exact List.Mem.tail _ (List.mem_append_right _ (List.Mem.tail _ (List.Mem.head _))) | exact List.Mem.tail _ (List.mem_append_right _ (List.Mem.tail _ (List.Mem.tail _ (List.Mem.head _)))) | exact List.Mem.tail _ (List.mem_append_right _ (List.Mem.tail _ (List.Mem.tail _ (List.Mem.tail _ (List.Mem.head _))))) | exact List.Mem.tail _ (List.Mem.tail _ (List.mem_append_right _ (List.Mem.head _))) | exact List.Mem.tail _ (List.Mem.tail _ (List.mem_append_right _ (List.Mem.tail _ (List.Mem.head _)))) | exact List.Mem.tail _ (List.Mem.tail _ (List.mem_append_right _ (List.Mem.tail _ (List.Mem.tail _ (List.Mem.head _)))))) (fun _ => rfl) hr1 rfl) | fail) ?_) | refine wc_ret rfl ?_) | (show WC _ (Code.cond _ _ _) _ _ _ _; (refine wc_cond rfl (fun hc => ?_) (fun hc => ?_) <;> (try (simp only [decide_eq_true_eq, decide_eq_false_iff_not, Bool.and_eq_true, Bool.or_eq_true, Bool.and_eq_false_iff, Bool.or_eq_false_iff, Bool.not_eq_true', Bool.not_eq_false', Int.not_lt, Int.not_le] at hc)) <;> (try (exfalso; first | omega | contradiction)))))
    exact wr_tmp rfl rfl (by rw [hz]; rfl)
  · repeat' (first | (first | refine wc_seq ?_ | refine wc_region ?_ | refine wl_nil ?_ | refine wn_seq ?_ | refine wn_blk ?_ | refine wc_skip ?_ | refine wc_block ?_ | refine wc_exit rfl ?_ | (show WL _ _ (_ :: _) _ _ _ _; first | refine yl_v rfl rfl rfl ?_ | refine wl_v rfl rfl rfl (by first | (show OpV _ _ _ _ (Oper.mk _ (Op.lookup _ _ _ _) _ _ _ _) _ _; exact ov_lookupOk rfl rfl (by first | with_reducible exact fun _ => rfl | with_reducible exact fun h => h | exact fun _ => rfl | exact fun h => h | (intro himp; simp_all; done)) (by first | with_reducible exact fun _ => rfl | with_reducible exact fun h => h | exact fun _ => rfl | exact fun h => h | (intro himp; simp_all; done)) rfl rfl (by exact rfl) (by first | exact List.Mem.head _ | exact List.Mem.tail _ (List.Mem.head _) | exact List.Mem.tail _ (List.Mem.tail _ (List.Mem.head _)) | exact List.Mem.tail _ (List.Mem.tail _ (List.Mem.tail _ (List.Mem.head _))) | exact List.Mem.tail _ (List.Mem.tail _ (List.Mem.tail _ (List.Mem.tail _ (List.Mem.head _)))) | exact List.mem_append_right _ (List.Mem.head _) | exact List.mem_append_right _ (List.Mem.tail _ (List.Mem.head _)) | exact List.mem_append_right _ (List.Mem.tail _ (List.Mem.tail _ (List.Mem.head _))) | exact List.mem_append_right _ (List.Mem.tail _ (List.Mem.tail _ (List.Mem.tail _ (List.Mem.head _)))) | exact List.Mem.tail _ (List.mem_append_right _ (List.Mem.head _)) | exact List.Mem.tail _ (List.mem_append_right _ (List.Mem.tail _ (List.Mem.head _))) | exact List.Mem.tail _ (List.mem_append_right _ (List.Mem.tail _ (List.Mem.tail _ (List.Mem.head _)))) | exact List.Mem.tail _ (List.mem_append_right _ (List.Mem.tail _ (List.Mem.tail _ (List.Mem.tail _ (List.Mem.head _))))) | exact List.Mem.tail _ (List.Mem.tail _ (List.mem_append_right _ (List.Mem.head _))) | exact List.Mem.tail _ (List.Mem.tail _ (List.mem_append_right _ (List.Mem.tail _ (List.Mem.head _)))) | exact List.Mem.tail _ (List.Mem.tail _ (List.mem_append_right _ (List.Mem.tail _ (List.Mem.tail _ (List.Mem.head _)))))) (fun _ => rfl) hr1 rfl) | fail) ?_) | refine wc_ret rfl ?_) | (show WC _ (Code.cond _ _ _) _ _ _ _; (refine wc_cond rfl (fun hc => ?_) (fun hc => ?_) <;> (try (simp only [decide_eq_true_eq, decide_eq_false_iff_not, Bool.and_eq_true, Bool.or_eq_true, Bool.and_eq_false_iff, Bool.or_eq_false_iff, Bool.not_eq_true', Bool.not_eq_false', Int.not_lt, Int.not_le] at hc)) <;> (try (exfalso; first | omega | contradiction)))))
    exact wr_tmp rfl rfl rfl
theorem resW_wr (x : Nd) : ∃ e : Int, resW x = .tuple #[str (wr x), i64 e] := ⟨_, rfl⟩
theorem page_ok (hM : Laid M w) (kind bd : List UInt8) : Calls Tryd.prog 55 #[i64 200, str kind, str bd] w (RetS M w (fun M' H v => H = [] ∧ RspK M' kind bd v)) := by
  refine calls_st (l := [i64 200, str kind, str bd]) hM Tryd.func55 rfl rfl rfl (E0 := [(0, true, i64 200), (1, true, str kind), (2, true, str bd)]) (params_cons rfl (params_cons rfl (params_cons rfl (params_nil _)))) ?_
  repeat' (first | refine wc_seq ?_ | refine wc_region ?_ | refine wl_nil ?_ | refine wn_seq ?_ | refine wn_blk ?_ | refine wc_skip ?_ | refine wc_block ?_ | refine wc_exit rfl ?_ | (show WL _ _ (_ :: _) _ _ _ _; first | refine yl_v rfl rfl rfl ?_ | refine wl_v rfl rfl rfl (by first  | fail) ?_ | refine xl_alloc (fun _ => ?_) | refine xl_store rfl rfl ?_ | refine xl_buildSlice rfl (fun _ => ?_)) | refine wc_ret rfl ?_)
  rename_i b1 b2
  exact yr_layC (Hn := [(b2, .cells (cellsP [(sCT, kind)]).toArray 57 (0, 0))]) rfl rfl rfl rfl Since.refl (List.Sublist.cons_cons _ (List.nil_sublist _)) ⟨rfl, _, _, _, rfl, slP_blk (l := [(sCT, kind)]) (.inr (List.Mem.head _)) (by simp)⟩
theorem rpage_ok (hG : Glob M) (hM : Laid M w) (kind : List UInt8) {D : Nat} {x : Nd} {un a1 l1 c1 ut a2 l2 c2} (hx : NodeC M D x [str un, .slice a1 l1 c1, str ut, .slice a2 l2 c2]) (hlen : (textN x).length ≤ 10000000000000) : Calls Tryd.prog 41 #[str kind, .agg [str un, .slice a1 l1 c1, str ut, .slice a2 l2 c2].toArray] w (RetS M w (fun M' H v => H = [] ∧ RspK M' kind (wr x) v)) := by
  obtain ⟨e, he⟩ := resW_wr x
  have hwr := fun {w : World} (hw : Laid M w) => write_ok hG hw hx hlen
  rw [he] at hwr
  refine calls_st (l := [str kind, .agg [str un, .slice a1 l1 c1, str ut, .slice a2 l2 c2].toArray]) hM Tryd.func41 rfl rfl rfl (E0 := [(0, true, str kind), (1, true, .agg [str un, .slice a1 l1 c1, str ut, .slice a2 l2 c2].toArray)]) (params_cons rfl (params_cons rfl (params_nil _))) ?_
  repeat' (first | refine wc_seq ?_ | refine wc_region ?_ | refine wl_nil ?_ | refine wn_seq ?_ | refine wn_blk ?_ | refine wc_skip ?_ | refine wc_block ?_ | refine wc_exit rfl ?_ | (show WL _ _ (_ :: _) _ _ _ _; first | refine yl_v rfl rfl rfl ?_ | refine wl_v rfl rfl rfl (by first | ((show OpV _ _ _ _ (Oper.mk _ (Op.call ⟨.value (.func 54), _, _⟩) _ _ _ _) _ _; exact ov_call Tryd.call54 rfl (by intro himp; first | rfl | (simp_all; done)) (by rfl) (fun _ _ h k => h.ext k) (fun hcg w hw => hwr hw.laid))) | fail) ?_ | refine xl_alloc (fun _ => ?_) | refine xl_box rfl (fun _ => ?_) | refine xl_store rfl rfl ?_) | refine wc_ret rfl ?_)
  refine wl_callS rfl Tryd.call55 rfl rfl rfl rfl (fun w hw => page_ok hw.laid kind (wr x)) ?_
  rintro _ H1 M1 hm1 hn1 ⟨rfl, a, l, c, rfl, hS⟩
  repeat' (first | refine wc_seq ?_ | refine wc_region ?_ | refine wl_nil ?_ | refine wn_seq ?_ | refine wn_blk ?_ | refine wc_skip ?_ | refine wc_block ?_ | refine wc_exit rfl ?_ | (show WL _ _ (_ :: _) _ _ _ _; first | refine yl_v rfl rfl rfl ?_ | refine wl_v rfl rfl rfl (by first  | fail) ?_ | refine xl_alloc (fun _ => ?_) | refine xl_box rfl (fun _ => ?_) | refine xl_store rfl rfl ?_) | refine wc_ret rfl ?_)
  exact yr_layC (Hn := []) rfl rfl rfl rfl (Since.refl.step hm1 hn1) (List.nil_sublist _) ⟨rfl, _, _, _, rfl, Sl.mono hS (fun _ _ => .inl) (fun _ _ _ h => h)⟩
theorem cas_ok (hG : Glob M) (hM : Laid M w) {D : Nat} {x : Nd} {un a1 l1 c1 ut a2 l2 c2} (hx : NodeC M D x [str un, .slice a1 l1 c1, str ut, .slice a2 l2 c2]) (hlen : (textN x).length ≤ 1000000000000) : Calls Tryd.prog 24 #[.agg [str un, .slice a1 l1 c1, str ut, .slice a2 l2 c2].toArray] w (RetS M w (fun M' H v => H = [] ∧ RspK M' sXml (wr (casN x)) v)) := by
  refine calls_st (l := [.agg [str un, .slice a1 l1 c1, str ut, .slice a2 l2 c2].toArray]) hM Tryd.func24 rfl rfl rfl (E0 := [(0, true, .agg [str un, .slice a1 l1 c1, str ut, .slice a2 l2 c2].toArray)]) (params_cons rfl (params_nil _)) ?_
  repeat' (first | refine wc_seq ?_ | refine wc_region ?_ | refine wl_nil ?_ | refine wn_seq ?_ | refine wn_blk ?_ | refine wc_skip ?_ | refine wc_block ?_ | refine wc_exit rfl ?_ | (show WL _ _ (_ :: _) _ _ _ _; first | refine yl_v rfl rfl rfl ?_ | refine wl_v rfl rfl rfl (by first | ((show OpV _ _ _ _ (Oper.mk _ (Op.call ⟨.value (.func 39), _, _⟩) _ _ _ _) _ _; exact ov_call Tryd.call39 rfl (by intro himp; first | rfl | (simp_all; done)) (by rfl) (fun _ _ h k => h.ext k) (fun hcg w hw => around_ok hw.laid _ _ _ _))) | fail) ?_ | refine xl_alloc (fun _ => ?_) | refine xl_box rfl (fun _ => ?_) | refine xl_store rfl rfl ?_ | refine xl_buildSlice rfl (fun _ => ?_)) | refine wc_ret rfl ?_)
  rename_i b1 b2 bk b3 ba
  refine wl_weak (C' := St w [] ([(bk, .cells [str un, .slice a1 l1 c1, str ut, .slice a2 l2 c2].toArray tNd (0, 0)), (ba, .cells (cellsP [(sNs, sSpace)]).toArray 57 (0, 0)), (b3, .cells [str sResp, .slice (some ⟨ba, 0, none⟩) 1 1, str [], .slice (some ⟨bk, 0, none⟩) 1 1].toArray tNd (0, 0)), (b2, .cells [i64 0, .slice none 0 0, str []].toArray 26 (0, 0))]) M) (Eng.Sub.refl _) (fun _ h => ((h.drop (List.take_sublist 4 _)).perm (List.perm_middle (l₁ := [_, _]) (l₂ := [_])).symm)) ?_
  refine wl_publish (H1 := [(bk, .cells [str un, .slice a1 l1 c1, str ut, .slice a2 l2 c2].toArray tNd (0, 0)), (ba, .cells (cellsP [(sNs, sSpace)]).toArray 57 (0, 0))]) (fun hn => ?_)
  have hG1 := hG.mono (M' := With M [(bk, .cells [str un, .slice a1 l1 c1, str ut, .slice a2 l2 c2].toArray tNd (0, 0)), (ba, .cells (cellsP [(sNs, sSpace)]).toArray 57 (0, 0))]) (fun _ _ => .inl)
  have hN : NodeC (With M [(bk, .cells [str un, .slice a1 l1 c1, str ut, .slice a2 l2 c2].toArray tNd (0, 0)), (ba, .cells (cellsP [(sNs, sSpace)]).toArray 57 (0, 0))]) (D + 1) (casN x) [str sResp, .slice (some ⟨ba, 0, none⟩) 1 1, str [], .slice (some ⟨bk, 0, none⟩) 1 1] :=
    node_mk (slP_blk (e := 57) (l := [(sNs, sSpace)]) (.inr (List.Mem.tail _ (List.Mem.head _))) (by simp)) (sl_blk (l := [x]) (vss := [[str un, .slice a1 l1 c1, str ut, .slice a2 l2 c2]]) (.inr (List.Mem.head _)) ⟨NodeC.mono (fun _ _ => .inl) hx, trivial⟩ (by simp)) (by decide) (by simp) (fun p hp => by
      simp only [List.mem_cons, List.not_mem_nil, or_false] at hp
      subst hp; decide)
  have hsi := since_new (M0 := M) Since.refl hn
  generalize With M [(bk, .cells [str un, .slice a1 l1 c1, str ut, .slice a2 l2 c2].toArray tNd (0, 0)), (ba, .cells (cellsP [(sNs, sSpace)]).toArray 57 (0, 0))] = M1 at *
  repeat' (first | refine wc_seq ?_ | refine wc_region ?_ | refine wl_nil ?_ | refine wn_seq ?_ | refine wn_blk ?_ | refine wc_skip ?_ | refine wc_block ?_ | refine wc_exit rfl ?_ | (show WL _ _ (_ :: _) _ _ _ _; first | refine yl_v rfl rfl rfl ?_ | refine wl_v rfl rfl rfl (by first  | fail) ?_ | refine xl_alloc (fun _ => ?_) | refine xl_box rfl (fun _ => ?_) | refine xl_store rfl rfl ?_ | refine xl_buildSlice rfl (fun _ => ?_)) | refine wc_ret rfl ?_)
  refine wl_callS rfl Tryd.call41 rfl rfl rfl rfl (fun w hw => rpage_ok hG1 hw.laid sXml hN (by rw [cas_len]; omega)) ?_
  rintro _ H2 M2 hm2 hn2 ⟨rfl, a, l, c, rfl, hS⟩
  repeat' (first | refine wc_seq ?_ | refine wc_region ?_ | refine wl_nil ?_ | refine wn_seq ?_ | refine wn_blk ?_ | refine wc_skip ?_ | refine wc_block ?_ | refine wc_exit rfl ?_ | (show WL _ _ (_ :: _) _ _ _ _; first | refine yl_v rfl rfl rfl ?_ | refine wl_v rfl rfl rfl (by first  | fail) ?_ | refine xl_alloc (fun _ => ?_) | refine xl_box rfl (fun _ => ?_) | refine xl_store rfl rfl ?_ | refine xl_buildSlice rfl (fun _ => ?_)) | refine wc_ret rfl ?_)
  exact yr_layC (Hn := []) rfl rfl rfl rfl (hsi.step hm2 hn2) (List.nil_sublist _) ⟨rfl, _, _, _, rfl, Sl.mono hS (fun _ _ => .inl) (fun _ _ _ h => h)⟩
/-- elements in a block of one's own -/
theorem html_ok (hG : Glob M) (hM : Laid M w) {D : Nat} {k : List Nd} {a : Option Addr} {l c : Nat} (hk : Sl M 4 (NodeC M D) (.slice a l c) k) (hlen : (textL k).length ≤ 1000000000000) : Calls Tryd.prog 22 #[.slice a l c] w (RetS M w (fun M' H v => H = [] ∧ RspK M' sHtmlT (wr (htmlN k)) v)) := by
  refine calls_st (l := [.slice a l c]) hM Tryd.func22 rfl rfl rfl (E0 := [(0, true, .slice a l c)]) (params_cons rfl (params_nil _)) ?_
  repeat' (first | refine wc_seq ?_ | refine wc_region ?_ | refine wl_nil ?_ | refine wn_seq ?_ | refine wn_blk ?_ | refine wc_skip ?_ | refine wc_block ?_ | refine wc_exit rfl ?_ | (show WL _ _ (_ :: _) _ _ _ _; first | refine yl_v rfl rfl rfl ?_ | refine wl_v rfl rfl rfl (by first | ((show OpV _ _ _ _ (Oper.mk _ (Op.call ⟨.value (.func 39), _, _⟩) _ _ _ _) _ _; exact ov_call Tryd.call39 rfl (by intro himp; first | rfl | (simp_all; done)) (by rfl) (fun _ _ h k => h.ext k) (fun hcg w hw => around_ok hw.laid _ _ _ _))) | fail) ?_ | refine xl_alloc (fun _ => ?_) | refine xl_store rfl rfl ?_ | refine xl_buildSlice rfl (fun _ => ?_)) | refine wc_ret rfl ?_)
  rename_i b2 b5
  refine wl_publish (H1 := [(b5, .cells [str sBody, .slice none 0 0, str [], .slice a l c].toArray tNd (0, 0))]) (fun hn => ?_)
  have hG1 := hG.mono (M' := With M [(b5, .cells [str sBody, .slice none 0 0, str [], .slice a l c].toArray tNd (0, 0))]) (fun _ _ => .inl)
  have hk1 : Sl (With M [(b5, .cells [str sBody, .slice none 0 0, str [], .slice a l c].toArray tNd (0, 0))]) 4 (NodeC (With M [(b5, .cells [str sBody, .slice none 0 0, str [], .slice a l c].toArray tNd (0, 0))]) D) (.slice a l c) k := Sl.mono hk (fun _ _ => .inl) (fun x vs _ h => NodeC.mono (fun _ _ => .inl) h)
  have hN := wrap_mk (n := sHtml) (sl_blk (l := [wrapN sBody k]) (vss := [[str sBody, .slice none 0 0, str [], .slice a l c]]) (.inr (List.Mem.head _)) ⟨wrap_mk hk1 (by decide), trivial⟩ (by simp)) (by decide)
  have hsi := since_new (M0 := M) Since.refl hn
  clear hk1
  generalize With M [(b5, .cells [str sBody, .slice none 0 0, str [], .slice a l c].toArray tNd (0, 0))] = M1 at *
  refine wl_callS rfl Tryd.call41 rfl rfl rfl rfl (fun w hw => rpage_ok hG1 hw.laid sHtmlT (x := htmlN k) hN (by rw [html_len]; omega)) ?_
  rintro _ H2 M2 hm2 hn2 ⟨rfl, a', l', c', rfl, hS⟩
  repeat' (first | refine wc_seq ?_ | refine wc_region ?_ | refine wl_nil ?_ | refine wn_seq ?_ | refine wn_blk ?_ | refine wc_skip ?_ | refine wc_block ?_ | refine wc_exit rfl ?_ | (show WL _ _ (_ :: _) _ _ _ _; first | refine yl_v rfl rfl rfl ?_ | refine wl_v rfl rfl rfl (by first  | fail) ?_ | refine xl_alloc (fun _ => ?_) | refine xl_store rfl rfl ?_ | refine xl_buildSlice rfl (fun _ => ?_)) | refine wc_ret rfl ?_)
  exact yr_layC (Hn := []) rfl rfl rfl rfl (hsi.step hm2 hn2) (List.nil_sublist _) ⟨rfl, _, _, _, rfl, Sl.mono hS (fun _ _ => .inl) (fun _ _ _ h => h)⟩
theorem Page_ok (hG : Glob M) (hM : Laid M w) (kind s : List UInt8) (hk : kind.length ≤ 1000000) (hs : s.length ≤ 1000000) : Calls Tryd.prog 8 #[str kind, str s] w (RetS M w (fun M' H v => H = [] ∧ RspK M' sHtmlT (wr (pageN kind s)) v)) := by
  refine calls_st (l := [str kind, str s]) hM Tryd.func8 rfl rfl rfl (E0 := [(0, true, str kind), (1, true, str s)]) (params_cons rfl (params_cons rfl (params_nil _))) ?_
  repeat' (first | refine wc_seq ?_ | refine wc_region ?_ | refine wl_nil ?_ | refine wn_seq ?_ | refine wn_blk ?_ | refine wc_skip ?_ | refine wc_block ?_ | refine wc_exit rfl ?_ | (show WL _ _ (_ :: _) _ _ _ _; first | refine yl_v rfl rfl rfl ?_ | refine wl_v rfl rfl rfl (by first | ((show OpV _ _ _ _ (Oper.mk _ (Op.call ⟨.value (.func 23), _, _⟩) _ _ _ _) _ _; exact ov_call Tryd.call23 rfl (by intro himp; first | rfl | (simp_all; done)) (by rfl) (fun _ _ h k => h.ext k) (fun hcg w hw => text_ok hw.laid _ _ _ _ _))) | fail) ?_ | refine xl_alloc (fun _ => ?_) | refine xl_store rfl rfl ?_ | refine xl_buildSlice rfl (fun _ => ?_)) | refine wc_ret rfl ?_)
  rename_i b4 ba bk
  refine wl_weak (C' := St w [] ([(bk, .cells [str sP, .slice (some ⟨ba, 0, none⟩) 1 1, str s, .slice none 0 0].toArray tNd (0, 0)), (ba, .cells (cellsP [(sClass, kind)]).toArray 57 (0, 0))] ++ [(b4, .cells [i64 0, .slice none 0 0, str []].toArray 26 (0, 0))]) M) (Eng.Sub.refl _) (fun _ h => h) ?_
  refine wl_publish (fun hn => ?_)
  have hG1 := hG.mono (M' := With M [(bk, .cells [str sP, .slice (some ⟨ba, 0, none⟩) 1 1, str s, .slice none 0 0].toArray tNd (0, 0)), (ba, .cells (cellsP [(sClass, kind)]).toArray 57 (0, 0))]) (fun _ _ => .inl)
  have hN : Sl (With M [(bk, .cells [str sP, .slice (some ⟨ba, 0, none⟩) 1 1, str s, .slice none 0 0].toArray tNd (0, 0)), (ba, .cells (cellsP [(sClass, kind)]).toArray 57 (0, 0))]) 4 (NodeC (With M [(bk, .cells [str sP, .slice (some ⟨ba, 0, none⟩) 1 1, str s, .slice none 0 0].toArray tNd (0, 0)), (ba, .cells (cellsP [(sClass, kind)]).toArray 57 (0, 0))]) 1) (.slice (some ⟨bk, 0, none⟩) 1 1) [.mk sP [(sClass, kind)] s []] :=
    sl_blk (l := [.mk sP [(sClass, kind)] s []]) (vss := [[str sP, .slice (some ⟨ba, 0, none⟩) 1 1, str s, .slice none 0 0]]) (.inr (List.Mem.head _)) ⟨node_mk (slP_blk (e := 57) (l := [(sClass, kind)]) (.inr (List.Mem.tail _ (List.Mem.head _))) (by simp)) sl_nil (by decide) (by omega) (fun p hp => by
      simp only [List.mem_cons, List.not_mem_nil, or_false] at hp
      subst hp; exact ⟨by show sClass.length ≤ _; decide, by show kind.length ≤ _; omega⟩), trivial⟩ (by simp)
  have hsi := since_new (M0 := M) Since.refl hn
  generalize With M [(bk, .cells [str sP, .slice (some ⟨ba, 0, none⟩) 1 1, str s, .slice none 0 0].toArray tNd (0, 0)), (ba, .cells (cellsP [(sClass, kind)]).toArray 57 (0, 0))] = M1 at *
  have hpl := pageN_len kind s
  unfold pageN at hpl
  rw [html_len] at hpl
  refine wl_callS rfl Tryd.call22 rfl rfl rfl rfl (fun w hw => html_ok hG1 hw.laid hN (by omega)) ?_
  rintro _ H2 M2 hm2 hn2 ⟨rfl, a, l, c, rfl, hS⟩
  repeat' (first | refine wc_seq ?_ | refine wc_region ?_ | refine wl_nil ?_ | refine wn_seq ?_ | refine wn_blk ?_ | refine wc_skip ?_ | refine wc_block ?_ | refine wc_exit rfl ?_ | (show WL _ _ (_ :: _) _ _ _ _; first | refine yl_v rfl rfl rfl ?_ | refine wl_v rfl rfl rfl (by first  | fail) ?_ | refine xl_alloc (fun _ => ?_) | refine xl_store rfl rfl ?_ | refine xl_buildSlice rfl (fun _ => ?_)) | refine wc_ret rfl ?_)
  exact yr_layC (Hn := []) rfl rfl rfl rfl (hsi.step hm2 hn2) (List.nil_sublist _) ⟨rfl, _, _, _, rfl, Sl.mono hS (fun _ _ => .inl) (fun _ _ _ h => h)⟩
theorem Proxy_ok (hG : Glob M) (hM : Laid M w) (pt : List UInt8) (e : Int) (hp : pt.length ≤ 1000000) : Calls Tryd.prog 18 #[str pt, i64 e] w (RetS M w (fun M' H v => H = [] ∧ RspK M' sXml (wr (proxyN pt e)) v)) := by
  have hcl := code_len e
  refine calls_st (l := [str pt, i64 e]) hM Tryd.func18 rfl rfl rfl (E0 := [(0, true, str pt), (1, true, i64 e)]) (params_cons rfl (params_cons rfl (params_nil _))) ?_
  repeat' (first | refine wc_seq ?_ | refine wc_region ?_ | refine wl_nil ?_ | refine wn_seq ?_ | refine wn_blk ?_ | refine wc_skip ?_ | refine wc_block ?_ | refine wc_exit rfl ?_ | (show WL _ _ (_ :: _) _ _ _ _; first | refine yl_v rfl rfl rfl ?_ | refine wl_v rfl rfl rfl (by first  | fail) ?_ | refine xl_alloc (fun _ => ?_) | refine xl_store rfl rfl ?_ | refine xl_buildSlice rfl (fun _ => ?_)) | refine wc_ret rfl ?_)
  refine wc_cond rfl (fun hc => ?_) (fun hc => ?_)
  · have he : ¬ e = 0 := by simpa using hc
    repeat' (first | refine wc_seq ?_ | refine wc_region ?_ | refine wl_nil ?_ | refine wn_seq ?_ | refine wn_blk ?_ | refine wc_skip ?_ | refine wc_block ?_ | refine wc_exit rfl ?_ | (show WL _ _ (_ :: _) _ _ _ _; first | refine yl_v rfl rfl rfl ?_ | refine wl_v rfl rfl rfl (by first | ((show OpV _ _ _ _ (Oper.mk _ (Op.call ⟨.value (.func 26), _, _⟩) _ _ _ _) _ _; exact ov_call Tryd.call26 rfl (by intro himp; first | rfl | (simp_all; done)) (by rfl) (fun _ _ h k => h.ext k) (fun hcg w hw => code_ok hw.laid _))) | fail) ?_ | refine xl_alloc (fun _ => ?_) | refine xl_store rfl rfl ?_ | refine xl_buildSlice rfl (fun _ => ?_)) | refine wc_ret rfl ?_)
    refine wl_callS rfl Tryd.call25 rfl rfl rfl rfl (fun w hw => failure_ok hw.laid sPF sNoPt (codeE e) (by decide) (by decide) (by omega)) ?_
    rintro _ H1 M1 hm1 hn1 ⟨rfl, n, a1, l1, c1, t, a2, l2, c2, rfl, hx⟩
    have hlen := proxy_len pt e
    unfold proxyN at hlen ⊢
    rw [if_neg he] at hlen ⊢
    rw [cas_len] at hlen
    refine wl_callS rfl Tryd.call24 rfl rfl rfl rfl (fun w hw => cas_ok (hG.mono hm1) hw.laid hx (by omega)) ?_
    rintro _ H2 M2 hm2 hn2 ⟨rfl, a, l, c, rfl, hS⟩
    repeat' (first | refine wc_seq ?_ | refine wc_region ?_ | refine wl_nil ?_ | refine wn_seq ?_ | refine wn_blk ?_ | refine wc_skip ?_ | refine wc_block ?_ | refine wc_exit rfl ?_ | (show WL _ _ (_ :: _) _ _ _ _; first | refine yl_v rfl rfl rfl ?_ | refine wl_v rfl rfl rfl (by first  | fail) ?_ | refine xl_alloc (fun _ => ?_) | refine xl_store rfl rfl ?_ | refine xl_buildSlice rfl (fun _ => ?_)) | refine wc_ret rfl ?_)
    exact yr_layC (Hn := []) rfl rfl rfl rfl ((Since.refl.step hm1 hn1).step hm2 hn2) (List.nil_sublist _) ⟨rfl, _, _, _, rfl, Sl.mono hS (fun _ _ => .inl) (fun _ _ _ h => h)⟩
  · have he : e = 0 := by simpa using hc
    repeat' (first | refine wc_seq ?_ | refine wc_region ?_ | refine wl_nil ?_ | refine wn_seq ?_ | refine wn_blk ?_ | refine wc_skip ?_ | refine wc_block ?_ | refine wc_exit rfl ?_ | (show WL _ _ (_ :: _) _ _ _ _; first | refine yl_v rfl rfl rfl ?_ | refine wl_v rfl rfl rfl (by first | ((show OpV _ _ _ _ (Oper.mk _ (Op.call ⟨.value (.func 23), _, _⟩) _ _ _ _) _ _; exact ov_call Tryd.call23 rfl (by intro himp; first | rfl | (simp_all; done)) (by rfl) (fun _ _ h k => h.ext k) (fun hcg w hw => text_ok hw.laid _ _ _ _ _))) | ((show OpV _ _ _ _ (Oper.mk _ (Op.call ⟨.value (.func 39), _, _⟩) _ _ _ _) _ _; exact ov_call Tryd.call39 rfl (by intro himp; first | rfl | (simp_all; done)) (by rfl) (fun _ _ h k => h.ext k) (fun hcg w hw => around_ok hw.laid _ _ _ _))) | fail) ?_ | refine xl_alloc (fun _ => ?_) | refine xl_store rfl rfl ?_ | refine xl_buildSlice rfl (fun _ => ?_)) | refine wc_ret rfl ?_)
    rename_i b4 bk
    refine wl_publish (H1 := [(bk, .cells [str sPT, .slice none 0 0, str pt, .slice none 0 0].toArray tNd (0, 0))]) (fun hn => ?_)
    have hG1 := hG.mono (M' := With M [(bk, .cells [str sPT, .slice none 0 0, str pt, .slice none 0 0].toArray tNd (0, 0))]) (fun _ _ => .inl)
    have hN := wrap_mk (n := sPS) (sl_blk (D := 1) (M := With M [(bk, .cells [str sPT, .slice none 0 0, str pt, .slice none 0 0].toArray tNd (0, 0))]) (l := [leafN sPT pt]) (vss := [[str sPT, .slice none 0 0, str pt, .slice none 0 0]]) (.inr (List.Mem.head _)) ⟨leaf_mk (by decide) (by omega), trivial⟩ (by simp)) (by decide)
    have hsi := since_new (M0 := M) Since.refl hn
    generalize With M [(bk, .cells [str sPT, .slice none 0 0, str pt, .slice none 0 0].toArray tNd (0, 0))] = M1 at *
    have hlen := proxy_len pt e
    unfold proxyN at hlen ⊢
    rw [if_pos he] at hlen ⊢
    rw [cas_len] at hlen
    refine wl_callS rfl Tryd.call24 rfl rfl rfl rfl (fun w hw => cas_ok hG1 hw.laid hN (by omega)) ?_
    rintro _ H2 M2 hm2 hn2 ⟨rfl, a, l, c, rfl, hS⟩
    repeat' (first | refine wc_seq ?_ | refine wc_region ?_ | refine wl_nil ?_ | refine wn_seq ?_ | refine wn_blk ?_ | refine wc_skip ?_ | refine wc_block ?_ | refine wc_exit rfl ?_ | (show WL _ _ (_ :: _) _ _ _ _; first | refine yl_v rfl rfl rfl ?_ | refine wl_v rfl rfl rfl (by first  | fail) ?_ | refine xl_alloc (fun _ => ?_) | refine xl_store rfl rfl ?_ | refine xl_buildSlice rfl (fun _ => ?_)) | refine wc_ret rfl ?_)
    exact yr_layC (Hn := []) rfl rfl rfl rfl (hsi.step hm2 hn2) (List.nil_sublist _) ⟨rfl, _, _, _, rfl, Sl.mono hS (fun _ _ => .inl) (fun _ _ _ h => h)⟩
end Go.Proofs.YtgfbieplidpebaaDoor
/-
  Form, success, Answer.
-/
namespace Go.Proofs.YtgfbieplidpebaaDoor
open Go.Eng Go.Pct Go.Xml Go.Cas
set_option maxRecDepth 10000
set_option linter.unusedSimpArgs false
set_option linter.unusedVariables false

variable {M : Ghost} {w0 w : World} {bs : List Nat} {H : List (Nat × Obj)}
set_option maxHeartbeats 1000000 in
theorem Form_ok (hG : Glob M) (hM : Laid M w) (a b c : List UInt8) (ha : a.length ≤ 1000000) (hb : b.length ≤ 1000000) (hcl : c.length ≤ 1000000) : Calls Tryd.prog 19 #[str a, str b, str c] w (RetS M w (fun M' H v => H = [] ∧ RspK M' sHtmlT (wr (formPN a b c)) v)) := by
  refine calls_st (l := [str a, str b, str c]) hM Tryd.func19 rfl rfl rfl (E0 := [(0, true, str a), (1, true, str b), (2, true, str c)]) (params_cons rfl (params_cons rfl (params_cons rfl (params_nil _)))) ?_
  repeat' (first | refine wc_seq ?_ | refine wc_region ?_ | refine wl_nil ?_ | refine wn_seq ?_ | refine wn_blk ?_ | refine wc_skip ?_ | refine wc_block ?_ | refine wc_exit rfl ?_ | (show WL _ _ (_ :: _) _ _ _ _; first | refine yl_v rfl rfl rfl ?_ | refine wl_v rfl rfl rfl (by first  | fail) ?_ | refine xl_alloc (fun _ => ?_) | refine xl_store rfl rfl ?_ | refine xl_buildSlice rfl (fun _ => ?_)) | refine wc_ret rfl ?_)
  refine wl_callS rfl Tryd.call40 rfl rfl rfl rfl (fun w hw => input_ok hw.laid sLt a (by decide) (by omega)) ?_
  rintro _ H1 M1 hm1 hn1 ⟨rfl, n1, p1, q1, r1, t1, p1', q1', r1', rfl, hx1⟩
  repeat' (first | refine wc_seq ?_ | refine wc_region ?_ | refine wl_nil ?_ | refine wn_seq ?_ | refine wn_blk ?_ | refine wc_skip ?_ | refine wc_block ?_ | refine wc_exit rfl ?_ | (show WL _ _ (_ :: _) _ _ _ _; first | refine yl_v rfl rfl rfl ?_ | refine wl_v rfl rfl rfl (by first  | fail) ?_ | refine xl_alloc (fun _ => ?_) | refine xl_store rfl rfl ?_ | refine xl_buildSlice rfl (fun _ => ?_)) | refine wc_ret rfl ?_)
  refine wl_callS rfl Tryd.call40 rfl rfl rfl rfl (fun w hw => input_ok hw.laid sService b (by decide) (by omega)) ?_
  rintro _ H2 M2 hm2 hn2 ⟨rfl, n2, p2, q2, r2, t2, p2', q2', r2', rfl, hx2⟩
  repeat' (first | refine wc_seq ?_ | refine wc_region ?_ | refine wl_nil ?_ | refine wn_seq ?_ | refine wn_blk ?_ | refine wc_skip ?_ | refine wc_block ?_ | refine wc_exit rfl ?_ | (show WL _ _ (_ :: _) _ _ _ _; first | refine yl_v rfl rfl rfl ?_ | refine wl_v rfl rfl rfl (by first  | fail) ?_ | refine xl_alloc (fun _ => ?_) | refine xl_store rfl rfl ?_ | refine xl_buildSlice rfl (fun _ => ?_)) | refine wc_ret rfl ?_)
  refine wl_callS rfl Tryd.call40 rfl rfl rfl rfl (fun w hw => input_ok hw.laid sUn [] (by decide) (by simp)) ?_
  rintro _ H3 M3 hm3 hn3 ⟨rfl, n3, p3, q3, r3, t3, p3', q3', r3', rfl, hx3⟩
  repeat' (first | refine wc_seq ?_ | refine wc_region ?_ | refine wl_nil ?_ | refine wn_seq ?_ | refine wn_blk ?_ | refine wc_skip ?_ | refine wc_block ?_ | refine wc_exit rfl ?_ | (show WL _ _ (_ :: _) _ _ _ _; first | refine yl_v rfl rfl rfl ?_ | refine wl_v rfl rfl rfl (by first  | fail) ?_ | refine xl_alloc (fun _ => ?_) | refine xl_store rfl rfl ?_ | refine xl_buildSlice rfl (fun _ => ?_)) | refine wc_ret rfl ?_)
  refine wl_callS rfl Tryd.call40 rfl rfl rfl rfl (fun w hw => input_ok hw.laid sPw [] (by decide) (by simp)) ?_
  rintro _ H4 M4 hm4 hn4 ⟨rfl, n4, p4, q4, r4, t4, p4', q4', r4', rfl, hx4⟩
  have hsi := (((Since.refl.step hm1 hn1).step hm2 hn2).step hm3 hn3).step hm4 hn4
  have hG4 := (((hG.mono hm1).mono hm2).mono hm3).mono hm4
  have hy3 := NodeC.mono hm4 hx3
  have hy2 := NodeC.mono hm4 (NodeC.mono hm3 hx2)
  have hy1 := NodeC.mono hm4 (NodeC.mono hm3 (NodeC.mono hm2 hx1))
  clear hm1 hn1 hm2 hn2 hm3 hn3 hm4 hn4 hx1 hx2 hx3 hG
  repeat' (first | refine wc_seq ?_ | refine wc_region ?_ | refine wl_nil ?_ | refine wn_seq ?_ | refine wn_blk ?_ | refine wc_skip ?_ | refine wc_block ?_ | refine wc_exit rfl ?_ | (show WL _ _ (_ :: _) _ _ _ _; first | refine yl_v rfl rfl rfl ?_ | refine wl_v rfl rfl rfl (by first | ((show OpV _ _ _ _ (Oper.mk _ (Op.call ⟨.value (.func 39), _, _⟩) _ _ _ _) _ _; exact ov_call Tryd.call39 rfl (by intro himp; first | rfl | (simp_all; done)) (by rfl) (fun _ _ h k => h.ext k) (fun hcg w hw => around_ok hw.laid _ _ _ _))) | fail) ?_ | refine xl_alloc (fun _ => ?_) | refine xl_store rfl rfl ?_ | refine xl_buildSlice rfl (fun _ => ?_)) | refine wc_ret rfl ?_)
  rename_i b6 bk b7 ba
  refine wc_weak (C' := St w [] [(bk, .cells [str n1, .slice p1 q1 r1, str t1, .slice p1' q1' r1', str n2, .slice p2 q2 r2, str t2, .slice p2' q2' r2', str n3, .slice p3 q3 r3, str t3, .slice p3' q3' r3', str n4, .slice p4 q4 r4, str t4, .slice p4' q4' r4'].toArray tNd (0, 0)), (ba, .cells (cellsP [(sAction, sLogin), (sMethod, sPost)]).toArray 57 (0, 0)), (b7, .cells [str sForm, .slice (some ⟨ba, 0, none⟩) 2 2, str [], .slice (some ⟨bk, 0, none⟩) 4 4].toArray tNd (0, 0)), (b6, .cells [i64 0, .slice none 0 0, str []].toArray 26 (0, 0))] M4) (Eng.Sub.refl _) (fun _ h => h.perm (List.perm_middle (l₁ := [_, _]) (l₂ := [_])).symm) ?_
  refine wc_publish (H1 := [(bk, _), (ba, _)]) (fun hn => ?_)
  have hN : NodeC (With M4 [(bk, .cells [str n1, .slice p1 q1 r1, str t1, .slice p1' q1' r1', str n2, .slice p2 q2 r2, str t2, .slice p2' q2' r2', str n3, .slice p3 q3 r3, str t3, .slice p3' q3' r3', str n4, .slice p4 q4 r4, str t4, .slice p4' q4' r4'].toArray tNd (0, 0)), (ba, .cells (cellsP [(sAction, sLogin), (sMethod, sPost)]).toArray 57 (0, 0))]) 2 (formN a b) [str sForm, .slice (some ⟨ba, 0, none⟩) 2 2, str [], .slice (some ⟨bk, 0, none⟩) 4 4] :=
    node_mk (slP_blk (e := 57) (l := [(sAction, sLogin), (sMethod, sPost)]) (.inr (List.Mem.tail _ (List.Mem.head _))) (by simp)) (sl_blk (l := [inputN sLt a, inputN sService b, inputN sUn [], inputN sPw []]) (vss := [[str n1, .slice p1 q1 r1, str t1, .slice p1' q1' r1'], [str n2, .slice p2 q2 r2, str t2, .slice p2' q2' r2'], [str n3, .slice p3 q3 r3, str t3, .slice p3' q3' r3'], [str n4, .slice p4 q4 r4, str t4, .slice p4' q4' r4']]) (.inr (List.Mem.head _)) ⟨NodeC.mono (fun _ _ => .inl) hy1, NodeC.mono (fun _ _ => .inl) hy2, NodeC.mono (fun _ _ => .inl) hy3, NodeC.mono (fun _ _ => .inl) hx4, trivial⟩ (by simp)) (by decide) (by simp) (fun p hp => by
      simp only [List.mem_cons, List.not_mem_nil, or_false] at hp
      rcases hp with rfl | rfl <;> decide)
  have hG5 := hG4.mono (M' := With M4 [(bk, .cells [str n1, .slice p1 q1 r1, str t1, .slice p1' q1' r1', str n2, .slice p2 q2 r2, str t2, .slice p2' q2' r2', str n3, .slice p3 q3 r3, str t3, .slice p3' q3' r3', str n4, .slice p4 q4 r4, str t4, .slice p4' q4' r4'].toArray tNd (0, 0)), (ba, .cells (cellsP [(sAction, sLogin), (sMethod, sPost)]).toArray 57 (0, 0))]) (fun _ _ => .inl)
  have hs5 := since_new hsi hn
  clear hsi hG4 hy1 hy2 hy3 hx4 hn
  generalize With M4 [(bk, .cells [str n1, .slice p1 q1 r1, str t1, .slice p1' q1' r1', str n2, .slice p2 q2 r2, str t2, .slice p2' q2' r2', str n3, .slice p3 q3 r3, str t3, .slice p3' q3' r3', str n4, .slice p4 q4 r4, str t4, .slice p4' q4' r4'].toArray tNd (0, 0)), (ba, .cells (cellsP [(sAction, sLogin), (sMethod, sPost)]).toArray 57 (0, 0))] = M5 at *
  have hlen := formP_len a b c
  unfold formPN at hlen ⊢
  rw [html_len] at hlen
  refine wc_weak (E' := [(2, true, str c), (6, true, .pointer (some ⟨b6, 0, none⟩)), (7, true, .pointer (some ⟨b7, 0, none⟩)), (21, true, .bool (decide (c = [])))]) (by first | exact Sub.nil _ | (repeat (first | exact Sub.nil _ | refine Sub.cons (by first | rfl | (simp [look]; done)) ?_))) (fun _ h => h) ?_
  refine wc_cond rfl (fun hc => ?_) (fun hc => ?_)
  · have he : c = [] := by simpa using hc
    rw [if_pos he] at hlen ⊢
    repeat' (first | refine wc_seq ?_ | refine wc_region ?_ | refine wl_nil ?_ | refine wn_seq ?_ | refine wn_blk ?_ | refine wc_skip ?_ | refine wc_block ?_ | refine wc_exit rfl ?_ | (show WL _ _ (_ :: _) _ _ _ _; first | refine yl_v rfl rfl rfl ?_ | refine wl_v rfl rfl rfl (by first  | fail) ?_ | refine xl_alloc (fun _ => ?_) | refine xl_store rfl rfl ?_ | refine xl_buildSlice rfl (fun _ => ?_)) | refine wc_ret rfl ?_)
    rename_i bf
    refine wl_publish (H1 := [(bf, .cells [str sForm, .slice (some ⟨ba, 0, none⟩) 2 2, str [], .slice (some ⟨bk, 0, none⟩) 4 4].toArray tNd (0, 0))]) (fun hn => ?_)
    have hk := sl_blk (M := With M5 [(bf, .cells [str sForm, .slice (some ⟨ba, 0, none⟩) 2 2, str [], .slice (some ⟨bk, 0, none⟩) 4 4].toArray tNd (0, 0))]) (l := [formN a b]) (vss := [[str sForm, .slice (some ⟨ba, 0, none⟩) 2 2, str [], .slice (some ⟨bk, 0, none⟩) 4 4]]) (.inr (List.Mem.head _)) ⟨NodeC.mono (fun _ _ => .inl) hN, trivial⟩ (by simp)
    have hG6 := hG5.mono (M' := With M5 [(bf, .cells [str sForm, .slice (some ⟨ba, 0, none⟩) 2 2, str [], .slice (some ⟨bk, 0, none⟩) 4 4].toArray tNd (0, 0))]) (fun _ _ => .inl)
    have hs6 := since_new hs5 hn
    refine wl_callS rfl Tryd.call22 rfl rfl rfl rfl (fun w hw => html_ok hG6 hw.laid hk (by omega)) ?_
    rintro _ H7 M7 hm7 hn7 ⟨rfl, a', l', c', rfl, hS⟩
    repeat' (first | refine wc_seq ?_ | refine wc_region ?_ | refine wl_nil ?_ | refine wn_seq ?_ | refine wn_blk ?_ | refine wc_skip ?_ | refine wc_block ?_ | refine wc_exit rfl ?_ | (show WL _ _ (_ :: _) _ _ _ _; first | refine yl_v rfl rfl rfl ?_ | refine wl_v rfl rfl rfl (by first  | fail) ?_ | refine xl_alloc (fun _ => ?_) | refine xl_store rfl rfl ?_ | refine xl_buildSlice rfl (fun _ => ?_)) | refine wc_ret rfl ?_)
    exact yr_layC (Hn := []) rfl rfl rfl rfl (hs6.step hm7 hn7) (List.nil_sublist _) ⟨rfl, _, _, _, rfl, Sl.mono hS (fun _ _ => .inl) (fun _ _ _ h => h)⟩
  · have he : ¬ c = [] := by simpa using hc
    rw [if_neg he] at hlen ⊢
    repeat' (first | refine wc_seq ?_ | refine wc_region ?_ | refine wl_nil ?_ | refine wn_seq ?_ | refine wn_blk ?_ | refine wc_skip ?_ | refine wc_block ?_ | refine wc_exit rfl ?_ | (show WL _ _ (_ :: _) _ _ _ _; first | refine yl_v rfl rfl rfl ?_ | refine wl_v rfl rfl rfl (by first  | fail) ?_ | refine xl_alloc (fun _ => ?_) | refine xl_store rfl rfl ?_ | refine xl_buildSlice rfl (fun _ => ?_)) | refine wc_ret rfl ?_)
    refine wc_draw 4 (by kernel_rfl) rfl (by kernel_rfl) (fun _ _ h k => h.ext k) ?_
    repeat' (first | (show WD _ _ (_ :: _) _ _ _ _ _ _; first | refine yd_v rfl rfl rfl rfl rfl rfl ?_ | refine wd_v rfl rfl rfl rfl rfl rfl (by first | ((show OpV _ _ _ _ (Oper.mk _ (Op.call ⟨.value (.func 23), _, _⟩) _ _ _ _) _ _; exact ov_call Tryd.call23 rfl (by intro himp; first | rfl | (simp_all; done)) (by rfl) (fun _ _ h k => h.ext k) (fun hcg w hw => text_ok hw.laid _ _ _ _ _))) | fail) ?_ | refine yd_new rfl rfl rfl rfl rfl rfl ?_ | refine wd_conv rfl rfl rfl rfl rfl rfl rfl rfl rfl rfl ?_) | (show WD _ _ _ _ _ _ _ _ _; first | refine wd_nil ?_ | refine wd_nil1 (wl_fresh (fun _ => ?_))) | (first | refine wc_seq ?_ | refine wc_region ?_ | refine wl_nil ?_ | refine wn_seq ?_ | refine wn_blk ?_ | refine wc_skip ?_ | refine wc_block ?_ | refine wc_exit rfl ?_ | (show WL _ _ (_ :: _) _ _ _ _; first | refine yl_v rfl rfl rfl ?_ | refine wl_v rfl rfl rfl (by first | ((show OpV _ _ _ _ (Oper.mk _ (Op.call ⟨.value (.func 23), _, _⟩) _ _ _ _) _ _; exact ov_call Tryd.call23 rfl (by intro himp; first | rfl | (simp_all; done)) (by rfl) (fun _ _ h k => h.ext k) (fun hcg w hw => text_ok hw.laid _ _ _ _ _))) | fail) ?_ | refine xl_alloc (fun _ => ?_) | refine xl_store rfl rfl ?_ | refine xl_buildSlice rfl (fun _ => ?_)) | refine wc_ret rfl ?_))
    rename_i bf
    refine wl_publish (H1 := [(bf, .cells [str sP, .slice none 0 0, str c, .slice none 0 0, str sForm, .slice (some ⟨ba, 0, none⟩) 2 2, str [], .slice (some ⟨bk, 0, none⟩) 4 4].toArray tNd (0, 0))]) (fun hn => ?_)
    have hk := sl_blk (D := 2) (M := With M5 [(bf, .cells [str sP, .slice none 0 0, str c, .slice none 0 0, str sForm, .slice (some ⟨ba, 0, none⟩) 2 2, str [], .slice (some ⟨bk, 0, none⟩) 4 4].toArray tNd (0, 0))]) (l := [leafN sP c, formN a b]) (vss := [[str sP, .slice none 0 0, str c, .slice none 0 0], [str sForm, .slice (some ⟨ba, 0, none⟩) 2 2, str [], .slice (some ⟨bk, 0, none⟩) 4 4]]) (.inr (List.Mem.head _)) ⟨leaf_mk (by decide) (by omega), NodeC.mono (fun _ _ => .inl) hN, trivial⟩ (by simp)
    have hG6 := hG5.mono (M' := With M5 [(bf, .cells [str sP, .slice none 0 0, str c, .slice none 0 0, str sForm, .slice (some ⟨ba, 0, none⟩) 2 2, str [], .slice (some ⟨bk, 0, none⟩) 4 4].toArray tNd (0, 0))]) (fun _ _ => .inl)
    have hs6 := since_new hs5 hn
    refine wl_callS rfl Tryd.call22 rfl rfl rfl rfl (fun w hw => html_ok hG6 hw.laid hk (by omega)) ?_
    rintro _ H7 M7 hm7 hn7 ⟨rfl, a', l', c', rfl, hS⟩
    repeat' (first | refine wc_seq ?_ | refine wc_region ?_ | refine wl_nil ?_ | refine wn_seq ?_ | refine wn_blk ?_ | refine wc_skip ?_ | refine wc_block ?_ | refine wc_exit rfl ?_ | (show WL _ _ (_ :: _) _ _ _ _; first | refine yl_v rfl rfl rfl ?_ | refine wl_v rfl rfl rfl (by first  | fail) ?_ | refine xl_alloc (fun _ => ?_) | refine xl_store rfl rfl ?_ | refine xl_buildSlice rfl (fun _ => ?_)) | refine wc_ret rfl ?_)
    exact yr_layC (Hn := []) rfl rfl rfl rfl (hs6.step hm7 hn7) (List.nil_sublist _) ⟨rfl, _, _, _, rfl, Sl.mono hS (fun _ _ => .inl) (fun _ _ _ h => h)⟩
end Go.Proofs.YtgfbieplidpebaaDoor
