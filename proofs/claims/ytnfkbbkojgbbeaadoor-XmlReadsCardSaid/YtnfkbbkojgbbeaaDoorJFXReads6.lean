/-
  The given statement XmlReadsCardSaid of layer texts: it holds of the given program, for every input that the row speaks of; no further condition.
-/
import Derived.Deep.Slices
import Derived.ChangeSame
import Derived.SizedLaws
import Derived.WideShapes
import Derived.DataReads
import Derived.Test.YtnfkbbkojgbbeaaDoorProg
import Derived.Test.YtnfkbbkojgbbeaaDoorCards
import Derived.Test.YtnfkbbkojgbbeaaDoorTie
import Derived.WalkKit
import Derived.ProofKit
import Derived.OpenShut
import Derived.ReadAgain
import Derived.MakeChecks
import Derived.LaidSub
import Derived.Deep.DeepHandedRow
import Derived.Carry
import Derived.SevenTiedAt
import Derived.Lib.LaidTab
import Derived.Lib.LaidU8
import Derived.Test.YtnfkbbkojgbbeaaDoorJFXReads1
import Derived.Test.YtnfkbbkojgbbeaaDoorJFXReads2
import Derived.Test.YtnfkbbkojgbbeaaDoorJFXReads3
import Derived.Test.YtnfkbbkojgbbeaaDoorJFXReads4
import Derived.Test.YtnfkbbkojgbbeaaDoorJFXReads5
/-
  The document's reading of an element: element.
-/
namespace Go.Proofs.YtnfkbbkojgbbeaaDoor
open Go.Eng Go.Pct Go.Xml Go.Rsp
set_option maxRecDepth 10000
set_option linter.unusedSimpArgs false
set_option linter.unusedVariables false

variable {M : Ghost} {w0 w : World} {bs : List Nat} {H : List (Nat × Obj)}
/-- what the document's reading of an element yields -/
def RelemIs (D : Nat) (s : List UInt8) (i0 : Nat) (M' : Ghost) (v : Value) : Prop :=
  match elemP D (s.drop i0) with
  | some (x, r) => ∃ (vs : List Value) (n : Nat), v = .tuple #[.agg vs.toArray, i64 (n : Int)] ∧ NodeC M' D x vs ∧ n ≤ s.length ∧ s.drop n = r
  | none => ∃ n a1 l1 c1 t a2 l2 c2, v = .tuple #[.agg #[str n, .slice a1 l1 c1, str t, .slice a2 l2 c2], i64 (-1)]
theorem relemIs_no {D : Nat} {s : List UInt8} {i0 : Nat} {M' : Ghost} {n : List UInt8} {a1 l1 c1 t a2 l2 c2} (h : elemP D (s.drop i0) = none) : RelemIs D s i0 M' (.tuple #[.agg #[str n, .slice a1 l1 c1, str t, .slice a2 l2 c2], i64 (-1)]) := by
  unfold RelemIs; rw [h]; exact ⟨_, _, _, _, _, _, _, _, rfl⟩
/-- as far as the attributes have been read -/
structure RA (s r2 : List UInt8) where
  f : Nat
  i : Nat
  acc : List Pr
  v : Value
  Hs : List (Nat × Obj)
  le : i ≤ s.length
  fuel : s.length - i ≤ f
  inv : attrsP (r2.length + 1) r2 = (attrsP (f + 1) (s.drop i)).map fun x => (acc ++ x.1, x.2)
  len : acc.length + (s.length - i) ≤ s.length
  own : OwnS 39 2 v Hs (cellsP acc)
/-- as far as the kids have been read -/
structure RK (D : Nat) (M1 : Ghost) (s r4 : List UInt8) (w0 : World) where
  f : Nat
  i : Nat
  acc : List Nd
  v : Value
  Hs : List (Nat × Obj)
  xs : List Value
  M' : Ghost
  le : i ≤ s.length
  fuel : s.length - i < f
  len : acc.length + (s.length - i) ≤ s.length
  inv : kidsP (elemP D) (r4.length + 1) r4 = (kidsP (elemP D) f (s.drop i)).map fun y => (acc ++ y.1, y.2)
  own : OwnS 31 4 v Hs xs
  xlen : xs.length = acc.length * 4
  nodes : ∀ j (hj : j < acc.length), NodeC M' D acc[j] ((xs.drop (j * 4)).take 4)
  since : Since w0 M1 M'
theorem take_prefix {s p : List UInt8} (h : p.length ≤ s.length) : s.take p.length = p ↔ p.isPrefixOf s = true := by
  rw [List.isPrefixOf_iff_prefix, List.prefix_iff_eq_take]
  exact ⟨fun h => h.symm, fun h => h.symm⟩
set_option maxHeartbeats 8000000 in
theorem refelem_ok : ∀ (D : Nat) (deep : Int), deep = 9 - (D : Int) → D ≤ 8 → ∀ (M : Ghost) (s : List UInt8) (i0 : Nat) (w : World), Laid M w → s.length ≤ 1000000 → i0 ≤ s.length → Calls Tryd.prog 30 #[str s, i64 (i0 : Int), i64 deep] w (RetS M w (fun M' H v => H = [] ∧ RelemIs D s i0 M' v))
  | 0, deep, hD, hD8 => by
    intro M s i0 w hM hs hi0
    refine calls_st (l := [str s, i64 (i0 : Int), i64 deep]) hM Tryd.func30 rfl rfl rfl (E0 := [(0, true, str s), (1, true, i64 (i0 : Int)), (2, true, i64 deep)]) (params_cons rfl (params_cons rfl (params_cons rfl (params_nil _)))) ?_
    obtain rfl : deep = 9 := by omega
    repeat' (first | (first | refine wc_seq ?_ | refine wc_region ?_ | refine wl_nil ?_ | refine wn_seq ?_ | refine wn_blk ?_ | refine wc_skip ?_ | refine wc_block ?_ | refine wc_exit rfl ?_ | (show WL _ _ (_ :: _) _ _ _ _; first | refine wl_v rfl rfl rfl (by first | (show OpV _ _ _ _ (Oper.mk _ (Op.move _) _ _ _ _) _ _; exact xo_move rfl) | (show OpV _ _ _ _ (Oper.mk _ (Op.assign _) _ _ _ _) _ _; exact xo_assign rfl) | (show OpV _ _ _ _ (Oper.mk _ (Op.pick _ _ _) _ _ _ _) _ _; first | exact xo_and rfl rfl | exact xo_or rfl rfl) | (show OpV _ _ _ _ (Oper.mk _ (Op.extract _ _) _ _ _ _) _ _; exact xo_extract rfl) | (show OpV _ _ _ _ (Oper.mk _ (Op.call ⟨.builtin .len, _, _⟩) _ _ _ _) _ _; first | exact xo_slen rfl | exact xo_len rfl) | (show OpV _ _ _ _ (Oper.mk _ (Op.binOp BinOp.eql _ _ _ _) _ _ _ _) _ _; first | exact xo_eql rfl rfl | exact xo_seql rfl rfl | exact xo_beql rfl rfl | exact xo_aeql rfl rfl) | (show OpV _ _ _ _ (Oper.mk _ (Op.binOp BinOp.neq _ _ _ _) _ _ _ _) _ _; first | exact xo_neq rfl rfl | exact xo_sneq rfl rfl | exact xo_bneq rfl rfl | exact xo_aneq rfl rfl) | (show OpV _ _ _ _ (Oper.mk _ (Op.binOp BinOp.lss _ _ _ _) _ _ _ _) _ _; exact xo_lss rfl rfl) | (show OpV _ _ _ _ (Oper.mk _ (Op.binOp BinOp.gtr _ _ _ _) _ _ _ _) _ _; exact xo_gtr rfl rfl) | (show OpV _ _ _ _ (Oper.mk _ (Op.binOp BinOp.geq _ _ _ _) _ _ _ _) _ _; exact xo_geq rfl rfl) | (show OpV _ _ _ _ (Oper.mk _ (Op.binOp BinOp.add _ _ _ _) _ _ _ _) _ _; first | exact xo_add rfl rfl | exact ov_sadd rfl rfl (by first | with_reducible exact fun _ => rfl | with_reducible exact fun h => h | exact fun _ => rfl | exact fun h => h | (intro himp; simp_all; done)) (by first | with_reducible exact fun _ => rfl | with_reducible exact fun h => h | exact fun _ => rfl | exact fun h => h | (intro himp; simp_all; done)) (by intro hcg; first | omega | (simp only [List.length_append, List.length_take, List.length_drop, List.length_cons, List.length_nil, List.length_nil]; omega))) | (show OpV _ _ _ _ (Oper.mk _ (Op.index _ _ _) _ _ _ _) _ _; exact xo_sindex rfl rfl) | (show OpV _ _ _ _ (Oper.mk _ (Op.slice _ _ (some _) (some _) none) _ _ _ _) _ _; first | exact xo_slice rfl rfl rfl | exact xo_slcB rfl rfl rfl) | (show OpV _ _ _ _ (Oper.mk _ (Op.slice _ _ (some _) none none) _ _ _ _) _ _; first | exact xo_from rfl rfl | exact xo_slcFrom rfl rfl) | (show OpV _ _ _ _ (Oper.mk _ (Op.slice _ _ none (some _) none) _ _ _ _) _ _; first | exact xo_to rfl rfl | exact xo_slcTo rfl rfl) | (show OpV _ _ _ _ (Oper.mk _ (Op.slice _ _ none (some _) (some _)) _ _ _ _) _ _; exact xo_slc3 rfl rfl rfl) | (show OpV _ _ _ _ (Oper.mk _ (Op.fieldAddr _ _ _) _ _ _ _) _ _; exact xo_fieldAddr rfl) | (show OpV _ _ _ _ (Oper.mk _ (Op.load _ _) _ _ _ _) _ _; first | exact xo_load1 rfl | exact xo_loadS rfl) | (show OpV _ _ _ _ (Oper.mk _ (Op.build _ _) _ _ _ _) _ _; exact xo_build rfl)) ?_ | refine wl_v rfl rfl rfl (by first | (show OpV _ _ _ _ (Oper.mk _ (Op.index _ _ _) _ _ _ _) _ _; exact ov_off (v := .int .u8 0) rfl) | fail) ?_ | refine xl_alloc (fun _ => ?_) | refine xl_store rfl rfl ?_ | refine xl_buildSlice rfl (fun _ => ?_)) | refine wc_ret rfl ?_) | (show WC _ (Code.cond _ _ _) _ _ _ _; (refine wc_cond rfl (fun hc => ?_) (fun hc => ?_) <;> (try (simp only [decide_eq_true_eq, decide_eq_false_iff_not, Bool.and_eq_true, Bool.or_eq_true, Bool.and_eq_false_iff, Bool.or_eq_false_iff, Bool.not_eq_true', Bool.not_eq_false', Int.not_lt, Int.not_le] at hc)) <;> (try (exfalso; first | omega | contradiction)))))
    exact wr_layC2 (Hn := []) rfl rfl rfl rfl (by first | exact List.Mem.head _ | exact List.Mem.tail _ (List.Mem.head _) | exact List.Mem.tail _ (List.Mem.tail _ (List.Mem.head _)) | exact List.Mem.tail _ (List.Mem.tail _ (List.Mem.tail _ (List.Mem.head _))) | exact List.Mem.tail _ (List.Mem.tail _ (List.Mem.tail _ (List.Mem.tail _ (List.Mem.head _)))) | exact List.mem_append_right _ (List.Mem.head _) | exact List.mem_append_right _ (List.Mem.tail _ (List.Mem.head _)) | exact List.mem_append_right _ (List.Mem.tail _ (List.Mem.tail _ (List.Mem.head _))) | exact List.mem_append_right _ (List.Mem.tail _ (List.Mem.tail _ (List.Mem.tail _ (List.Mem.head _)))) | exact List.Mem.tail _ (List.mem_append_right _ (List.Mem.head _)) | exact List.Mem.tail _ (List.mem_append_right _ (List.Mem.tail _ (List.Mem.head _))) | exact List.Mem.tail _ (List.mem_append_right _ (List.Mem.tail _ (List.Mem.tail _ (List.Mem.head _)))) | exact List.Mem.tail _ (List.mem_append_right _ (List.Mem.tail _ (List.Mem.tail _ (List.Mem.tail _ (List.Mem.head _))))) | exact List.Mem.tail _ (List.Mem.tail _ (List.mem_append_right _ (List.Mem.head _))) | exact List.Mem.tail _ (List.Mem.tail _ (List.mem_append_right _ (List.Mem.tail _ (List.Mem.head _)))) | exact List.Mem.tail _ (List.Mem.tail _ (List.mem_append_right _ (List.Mem.tail _ (List.Mem.tail _ (List.Mem.head _)))))) rfl Since.refl (List.nil_sublist _) ⟨rfl, relemIs_no rfl⟩
  | D + 1, deep, hD, hD8 => by
    intro M s i0 w hM hs hi0
    refine calls_st (l := [str s, i64 (i0 : Int), i64 deep]) hM Tryd.func30 rfl rfl rfl (E0 := [(0, true, str s), (1, true, i64 (i0 : Int)), (2, true, i64 deep)]) (params_cons rfl (params_cons rfl (params_cons rfl (params_nil _)))) ?_
    repeat' (first | refine wc_seq ?_ | refine wc_region ?_ | refine wl_nil ?_ | refine wn_seq ?_ | refine wn_blk ?_ | refine wc_skip ?_ | refine wc_block ?_ | refine wc_exit rfl ?_ | (show WL _ _ (_ :: _) _ _ _ _; first | refine wl_v rfl rfl rfl (by first | (show OpV _ _ _ _ (Oper.mk _ (Op.move _) _ _ _ _) _ _; exact xo_move rfl) | (show OpV _ _ _ _ (Oper.mk _ (Op.assign _) _ _ _ _) _ _; exact xo_assign rfl) | (show OpV _ _ _ _ (Oper.mk _ (Op.pick _ _ _) _ _ _ _) _ _; first | exact xo_and rfl rfl | exact xo_or rfl rfl) | (show OpV _ _ _ _ (Oper.mk _ (Op.extract _ _) _ _ _ _) _ _; exact xo_extract rfl) | (show OpV _ _ _ _ (Oper.mk _ (Op.call ⟨.builtin .len, _, _⟩) _ _ _ _) _ _; first | exact xo_slen rfl | exact xo_len rfl) | (show OpV _ _ _ _ (Oper.mk _ (Op.binOp BinOp.eql _ _ _ _) _ _ _ _) _ _; first | exact xo_eql rfl rfl | exact xo_seql rfl rfl | exact xo_beql rfl rfl | exact xo_aeql rfl rfl) | (show OpV _ _ _ _ (Oper.mk _ (Op.binOp BinOp.neq _ _ _ _) _ _ _ _) _ _; first | exact xo_neq rfl rfl | exact xo_sneq rfl rfl | exact xo_bneq rfl rfl | exact xo_aneq rfl rfl) | (show OpV _ _ _ _ (Oper.mk _ (Op.binOp BinOp.lss _ _ _ _) _ _ _ _) _ _; exact xo_lss rfl rfl) | (show OpV _ _ _ _ (Oper.mk _ (Op.binOp BinOp.gtr _ _ _ _) _ _ _ _) _ _; exact xo_gtr rfl rfl) | (show OpV _ _ _ _ (Oper.mk _ (Op.binOp BinOp.geq _ _ _ _) _ _ _ _) _ _; exact xo_geq rfl rfl) | (show OpV _ _ _ _ (Oper.mk _ (Op.binOp BinOp.add _ _ _ _) _ _ _ _) _ _; first | exact xo_add rfl rfl | exact ov_sadd rfl rfl (by first | with_reducible exact fun _ => rfl | with_reducible exact fun h => h | exact fun _ => rfl | exact fun h => h | (intro himp; simp_all; done)) (by first | with_reducible exact fun _ => rfl | with_reducible exact fun h => h | exact fun _ => rfl | exact fun h => h | (intro himp; simp_all; done)) (by intro hcg; first | omega | (simp only [List.length_append, List.length_take, List.length_drop, List.length_cons, List.length_nil, List.length_nil]; omega))) | (show OpV _ _ _ _ (Oper.mk _ (Op.index _ _ _) _ _ _ _) _ _; exact xo_sindex rfl rfl) | (show OpV _ _ _ _ (Oper.mk _ (Op.slice _ _ (some _) (some _) none) _ _ _ _) _ _; first | exact xo_slice rfl rfl rfl | exact xo_slcB rfl rfl rfl) | (show OpV _ _ _ _ (Oper.mk _ (Op.slice _ _ (some _) none none) _ _ _ _) _ _; first | exact xo_from rfl rfl | exact xo_slcFrom rfl rfl) | (show OpV _ _ _ _ (Oper.mk _ (Op.slice _ _ none (some _) none) _ _ _ _) _ _; first | exact xo_to rfl rfl | exact xo_slcTo rfl rfl) | (show OpV _ _ _ _ (Oper.mk _ (Op.slice _ _ none (some _) (some _)) _ _ _ _) _ _; exact xo_slc3 rfl rfl rfl) | (show OpV _ _ _ _ (Oper.mk _ (Op.fieldAddr _ _ _) _ _ _ _) _ _; exact xo_fieldAddr rfl) | (show OpV _ _ _ _ (Oper.mk _ (Op.load _ _) _ _ _ _) _ _; first | exact xo_load1 rfl | exact xo_loadS rfl) | (show OpV _ _ _ _ (Oper.mk _ (Op.build _ _) _ _ _ _) _ _; exact xo_build rfl)) ?_ | refine wl_v rfl rfl rfl (by first  | fail) ?_ | refine xl_alloc (fun _ => ?_) | refine xl_store rfl rfl ?_ | refine xl_buildSlice rfl (fun _ => ?_)) | refine wc_ret rfl ?_)
    refine wc_cond rfl (fun hc => ?_) (fun hc => ?_)
    · (simp only [decide_eq_true_eq, decide_eq_false_iff_not, Bool.and_eq_true, Bool.or_eq_true, Bool.and_eq_false_iff, Bool.or_eq_false_iff, Bool.not_eq_true', Bool.not_eq_false', Int.not_lt, Int.not_le] at hc)
      have hn : elemP (D + 1) (s.drop i0) = none := elemP_head (fun r e => by
        obtain ⟨h1, h2, h3⟩ := at_cons.1 e
        rcases hc with (hc | hc) | hc
        · omega
        · omega
        · exact hc (b60.2 h2))
      repeat' (first | (first | refine wc_seq ?_ | refine wc_region ?_ | refine wl_nil ?_ | refine wn_seq ?_ | refine wn_blk ?_ | refine wc_skip ?_ | refine wc_block ?_ | refine wc_exit rfl ?_ | (show WL _ _ (_ :: _) _ _ _ _; first | refine wl_v rfl rfl rfl (by first | (show OpV _ _ _ _ (Oper.mk _ (Op.move _) _ _ _ _) _ _; exact xo_move rfl) | (show OpV _ _ _ _ (Oper.mk _ (Op.assign _) _ _ _ _) _ _; exact xo_assign rfl) | (show OpV _ _ _ _ (Oper.mk _ (Op.pick _ _ _) _ _ _ _) _ _; first | exact xo_and rfl rfl | exact xo_or rfl rfl) | (show OpV _ _ _ _ (Oper.mk _ (Op.extract _ _) _ _ _ _) _ _; exact xo_extract rfl) | (show OpV _ _ _ _ (Oper.mk _ (Op.call ⟨.builtin .len, _, _⟩) _ _ _ _) _ _; first | exact xo_slen rfl | exact xo_len rfl) | (show OpV _ _ _ _ (Oper.mk _ (Op.binOp BinOp.eql _ _ _ _) _ _ _ _) _ _; first | exact xo_eql rfl rfl | exact xo_seql rfl rfl | exact xo_beql rfl rfl | exact xo_aeql rfl rfl) | (show OpV _ _ _ _ (Oper.mk _ (Op.binOp BinOp.neq _ _ _ _) _ _ _ _) _ _; first | exact xo_neq rfl rfl | exact xo_sneq rfl rfl | exact xo_bneq rfl rfl | exact xo_aneq rfl rfl) | (show OpV _ _ _ _ (Oper.mk _ (Op.binOp BinOp.lss _ _ _ _) _ _ _ _) _ _; exact xo_lss rfl rfl) | (show OpV _ _ _ _ (Oper.mk _ (Op.binOp BinOp.gtr _ _ _ _) _ _ _ _) _ _; exact xo_gtr rfl rfl) | (show OpV _ _ _ _ (Oper.mk _ (Op.binOp BinOp.geq _ _ _ _) _ _ _ _) _ _; exact xo_geq rfl rfl) | (show OpV _ _ _ _ (Oper.mk _ (Op.binOp BinOp.add _ _ _ _) _ _ _ _) _ _; first | exact xo_add rfl rfl | exact ov_sadd rfl rfl (by first | with_reducible exact fun _ => rfl | with_reducible exact fun h => h | exact fun _ => rfl | exact fun h => h | (intro himp; simp_all; done)) (by first | with_reducible exact fun _ => rfl | with_reducible exact fun h => h | exact fun _ => rfl | exact fun h => h | (intro himp; simp_all; done)) (by intro hcg; first | omega | (simp only [List.length_append, List.length_take, List.length_drop, List.length_cons, List.length_nil, List.length_nil]; omega))) | (show OpV _ _ _ _ (Oper.mk _ (Op.index _ _ _) _ _ _ _) _ _; exact xo_sindex rfl rfl) | (show OpV _ _ _ _ (Oper.mk _ (Op.slice _ _ (some _) (some _) none) _ _ _ _) _ _; first | exact xo_slice rfl rfl rfl | exact xo_slcB rfl rfl rfl) | (show OpV _ _ _ _ (Oper.mk _ (Op.slice _ _ (some _) none none) _ _ _ _) _ _; first | exact xo_from rfl rfl | exact xo_slcFrom rfl rfl) | (show OpV _ _ _ _ (Oper.mk _ (Op.slice _ _ none (some _) none) _ _ _ _) _ _; first | exact xo_to rfl rfl | exact xo_slcTo rfl rfl) | (show OpV _ _ _ _ (Oper.mk _ (Op.slice _ _ none (some _) (some _)) _ _ _ _) _ _; exact xo_slc3 rfl rfl rfl) | (show OpV _ _ _ _ (Oper.mk _ (Op.fieldAddr _ _ _) _ _ _ _) _ _; exact xo_fieldAddr rfl) | (show OpV _ _ _ _ (Oper.mk _ (Op.load _ _) _ _ _ _) _ _; first | exact xo_load1 rfl | exact xo_loadS rfl) | (show OpV _ _ _ _ (Oper.mk _ (Op.build _ _) _ _ _ _) _ _; exact xo_build rfl)) ?_ | refine wl_v rfl rfl rfl (by first  | fail) ?_ | refine xl_alloc (fun _ => ?_) | refine xl_store rfl rfl ?_ | refine xl_buildSlice rfl (fun _ => ?_)) | refine wc_ret rfl ?_) | (show WC _ (Code.cond _ _ _) _ _ _ _; (refine wc_cond rfl (fun hc => ?_) (fun hc => ?_) <;> (try (simp only [decide_eq_true_eq, decide_eq_false_iff_not, Bool.and_eq_true, Bool.or_eq_true, Bool.and_eq_false_iff, Bool.or_eq_false_iff, Bool.not_eq_true', Bool.not_eq_false', Int.not_lt, Int.not_le] at hc)) <;> (try (exfalso; first | omega | contradiction)))))
      exact wr_layC2 (Hn := []) rfl rfl rfl rfl (by first | exact List.Mem.head _ | exact List.Mem.tail _ (List.Mem.head _) | exact List.Mem.tail _ (List.Mem.tail _ (List.Mem.head _)) | exact List.Mem.tail _ (List.Mem.tail _ (List.Mem.tail _ (List.Mem.head _))) | exact List.Mem.tail _ (List.Mem.tail _ (List.Mem.tail _ (List.Mem.tail _ (List.Mem.head _)))) | exact List.mem_append_right _ (List.Mem.head _) | exact List.mem_append_right _ (List.Mem.tail _ (List.Mem.head _)) | exact List.mem_append_right _ (List.Mem.tail _ (List.Mem.tail _ (List.Mem.head _))) | exact List.mem_append_right _ (List.Mem.tail _ (List.Mem.tail _ (List.Mem.tail _ (List.Mem.head _)))) | exact List.Mem.tail _ (List.mem_append_right _ (List.Mem.head _)) | exact List.Mem.tail _ (List.mem_append_right _ (List.Mem.tail _ (List.Mem.head _))) | exact List.Mem.tail _ (List.mem_append_right _ (List.Mem.tail _ (List.Mem.tail _ (List.Mem.head _)))) | exact List.Mem.tail _ (List.mem_append_right _ (List.Mem.tail _ (List.Mem.tail _ (List.Mem.tail _ (List.Mem.head _))))) | exact List.Mem.tail _ (List.Mem.tail _ (List.mem_append_right _ (List.Mem.head _))) | exact List.Mem.tail _ (List.Mem.tail _ (List.mem_append_right _ (List.Mem.tail _ (List.Mem.head _)))) | exact List.Mem.tail _ (List.Mem.tail _ (List.mem_append_right _ (List.Mem.tail _ (List.Mem.tail _ (List.Mem.head _)))))) rfl Since.refl (List.nil_sublist _) ⟨rfl, relemIs_no hn⟩
    (simp only [decide_eq_true_eq, decide_eq_false_iff_not, Bool.and_eq_true, Bool.or_eq_true, Bool.and_eq_false_iff, Bool.or_eq_false_iff, Bool.not_eq_true', Bool.not_eq_false', Int.not_lt, Int.not_le] at hc)
    obtain ⟨⟨hc1, hc2⟩, hc3⟩ := hc
    have hlt : i0 < s.length := by omega
    have h60 : s.getD i0 0 = 60 := by
      refine b60.1 ?_
      exact hc3
    clear hc1 hc2 hc3
    have hr0 : s.drop i0 = 60 :: s.drop (i0 + 1) := at_cons.2 ⟨hlt, h60, rfl⟩
    have hel : elemP (D + 1) (s.drop i0) = match headP (rs isSp (s.drop (i0 + 1))) with
      | none => none
      | some (a, t, r4) => match kidsP (elemP D) (r4.length + 1) r4 with
        | none => none
        | some (k, r5) => if (closeT (wd isSp (s.drop (i0 + 1)))).isPrefixOf r5 = true then some (.mk (wd isSp (s.drop (i0 + 1))) a t k, r5.drop (closeT (wd isSp (s.drop (i0 + 1)))).length) else none := by rw [hr0]; rfl
    have hbd := rs_length isSp (s.drop (i0 + 1))
    rw [List.length_drop] at hbd
    have hat2 := rs_at isSp s (i0 + 1)
    have hnm := wd_take isSp (s.drop (i0 + 1))
    repeat' (first | refine wc_seq ?_ | refine wc_region ?_ | refine wl_nil ?_ | refine wn_seq ?_ | refine wn_blk ?_ | refine wc_skip ?_ | refine wc_block ?_ | refine wc_exit rfl ?_ | (show WL _ _ (_ :: _) _ _ _ _; first | refine wl_v rfl rfl rfl (by first | (show OpV _ _ _ _ (Oper.mk _ (Op.move _) _ _ _ _) _ _; exact xo_move rfl) | (show OpV _ _ _ _ (Oper.mk _ (Op.assign _) _ _ _ _) _ _; exact xo_assign rfl) | (show OpV _ _ _ _ (Oper.mk _ (Op.pick _ _ _) _ _ _ _) _ _; first | exact xo_and rfl rfl | exact xo_or rfl rfl) | (show OpV _ _ _ _ (Oper.mk _ (Op.extract _ _) _ _ _ _) _ _; exact xo_extract rfl) | (show OpV _ _ _ _ (Oper.mk _ (Op.call ⟨.builtin .len, _, _⟩) _ _ _ _) _ _; first | exact xo_slen rfl | exact xo_len rfl) | (show OpV _ _ _ _ (Oper.mk _ (Op.binOp BinOp.eql _ _ _ _) _ _ _ _) _ _; first | exact xo_eql rfl rfl | exact xo_seql rfl rfl | exact xo_beql rfl rfl | exact xo_aeql rfl rfl) | (show OpV _ _ _ _ (Oper.mk _ (Op.binOp BinOp.neq _ _ _ _) _ _ _ _) _ _; first | exact xo_neq rfl rfl | exact xo_sneq rfl rfl | exact xo_bneq rfl rfl | exact xo_aneq rfl rfl) | (show OpV _ _ _ _ (Oper.mk _ (Op.binOp BinOp.lss _ _ _ _) _ _ _ _) _ _; exact xo_lss rfl rfl) | (show OpV _ _ _ _ (Oper.mk _ (Op.binOp BinOp.gtr _ _ _ _) _ _ _ _) _ _; exact xo_gtr rfl rfl) | (show OpV _ _ _ _ (Oper.mk _ (Op.binOp BinOp.geq _ _ _ _) _ _ _ _) _ _; exact xo_geq rfl rfl) | (show OpV _ _ _ _ (Oper.mk _ (Op.binOp BinOp.add _ _ _ _) _ _ _ _) _ _; first | exact xo_add rfl rfl | exact ov_sadd rfl rfl (by first | with_reducible exact fun _ => rfl | with_reducible exact fun h => h | exact fun _ => rfl | exact fun h => h | (intro himp; simp_all; done)) (by first | with_reducible exact fun _ => rfl | with_reducible exact fun h => h | exact fun _ => rfl | exact fun h => h | (intro himp; simp_all; done)) (by intro hcg; first | omega | (simp only [List.length_append, List.length_take, List.length_drop, List.length_cons, List.length_nil, List.length_nil]; omega))) | (show OpV _ _ _ _ (Oper.mk _ (Op.index _ _ _) _ _ _ _) _ _; exact xo_sindex rfl rfl) | (show OpV _ _ _ _ (Oper.mk _ (Op.slice _ _ (some _) (some _) none) _ _ _ _) _ _; first | exact xo_slice rfl rfl rfl | exact xo_slcB rfl rfl rfl) | (show OpV _ _ _ _ (Oper.mk _ (Op.slice _ _ (some _) none none) _ _ _ _) _ _; first | exact xo_from rfl rfl | exact xo_slcFrom rfl rfl) | (show OpV _ _ _ _ (Oper.mk _ (Op.slice _ _ none (some _) none) _ _ _ _) _ _; first | exact xo_to rfl rfl | exact xo_slcTo rfl rfl) | (show OpV _ _ _ _ (Oper.mk _ (Op.slice _ _ none (some _) (some _)) _ _ _ _) _ _; exact xo_slc3 rfl rfl rfl) | (show OpV _ _ _ _ (Oper.mk _ (Op.fieldAddr _ _ _) _ _ _ _) _ _; exact xo_fieldAddr rfl) | (show OpV _ _ _ _ (Oper.mk _ (Op.load _ _) _ _ _ _) _ _; first | exact xo_load1 rfl | exact xo_loadS rfl) | (show OpV _ _ _ _ (Oper.mk _ (Op.build _ _) _ _ _ _) _ _; exact xo_build rfl)) ?_ | refine wl_v rfl rfl rfl (by first  | fail) ?_ | refine xl_alloc (fun _ => ?_) | refine xl_store rfl rfl ?_ | refine xl_buildSlice rfl (fun _ => ?_)) | refine wc_ret rfl ?_)
    rename_i b6 b8
    refine wc_loop (α := { e : Nat // i0 + 1 ≤ e ∧ e ≤ i0 + 1 + (wd isSp (s.drop (i0 + 1))).length }) (fun x => [(0, true, str s), (1, true, i64 ((i0 + 1 : Nat) : Int)), (2, true, i64 deep), (6, true, .pointer (some ⟨b6, 0, none⟩)), (8, true, .pointer (some ⟨b8, 0, none⟩)), (9, true, i64 (x.1 : Int))]) (fun _ => St w [] [(b8, .cells [str [], .slice none 0 0, str [], .slice none 0 0].toArray 31 (0, 0)), (b6, .cells [str [], .slice none 0 0, str [], .slice none 0 0].toArray 31 (0, 0))] M) (fun x => s.length - x.1) ⟨i0 + 1, by omega, by omega⟩ (by first | exact Sub.nil _ | (repeat (first | exact Sub.nil _ | refine Sub.cons (by first | rfl | (simp [look]; done)) ?_))) (fun _ h => h) ?_
    rintro ⟨e1, he1, he2⟩
    dsimp only
    have hg := wd_go (p := isSp) (s := s) he1 he2
    rw [isSp_iff] at hg
    repeat' (first | refine wc_seq ?_ | refine wc_region ?_ | refine wl_nil ?_ | refine wn_seq ?_ | refine wn_blk ?_ | refine wc_skip ?_ | refine wc_block ?_ | refine wc_exit rfl ?_ | (show WL _ _ (_ :: _) _ _ _ _; first | refine wl_v rfl rfl rfl (by first | (show OpV _ _ _ _ (Oper.mk _ (Op.move _) _ _ _ _) _ _; exact xo_move rfl) | (show OpV _ _ _ _ (Oper.mk _ (Op.assign _) _ _ _ _) _ _; exact xo_assign rfl) | (show OpV _ _ _ _ (Oper.mk _ (Op.pick _ _ _) _ _ _ _) _ _; first | exact xo_and rfl rfl | exact xo_or rfl rfl) | (show OpV _ _ _ _ (Oper.mk _ (Op.extract _ _) _ _ _ _) _ _; exact xo_extract rfl) | (show OpV _ _ _ _ (Oper.mk _ (Op.call ⟨.builtin .len, _, _⟩) _ _ _ _) _ _; first | exact xo_slen rfl | exact xo_len rfl) | (show OpV _ _ _ _ (Oper.mk _ (Op.binOp BinOp.eql _ _ _ _) _ _ _ _) _ _; first | exact xo_eql rfl rfl | exact xo_seql rfl rfl | exact xo_beql rfl rfl | exact xo_aeql rfl rfl) | (show OpV _ _ _ _ (Oper.mk _ (Op.binOp BinOp.neq _ _ _ _) _ _ _ _) _ _; first | exact xo_neq rfl rfl | exact xo_sneq rfl rfl | exact xo_bneq rfl rfl | exact xo_aneq rfl rfl) | (show OpV _ _ _ _ (Oper.mk _ (Op.binOp BinOp.lss _ _ _ _) _ _ _ _) _ _; exact xo_lss rfl rfl) | (show OpV _ _ _ _ (Oper.mk _ (Op.binOp BinOp.gtr _ _ _ _) _ _ _ _) _ _; exact xo_gtr rfl rfl) | (show OpV _ _ _ _ (Oper.mk _ (Op.binOp BinOp.geq _ _ _ _) _ _ _ _) _ _; exact xo_geq rfl rfl) | (show OpV _ _ _ _ (Oper.mk _ (Op.binOp BinOp.add _ _ _ _) _ _ _ _) _ _; first | exact xo_add rfl rfl | exact ov_sadd rfl rfl (by first | with_reducible exact fun _ => rfl | with_reducible exact fun h => h | exact fun _ => rfl | exact fun h => h | (intro himp; simp_all; done)) (by first | with_reducible exact fun _ => rfl | with_reducible exact fun h => h | exact fun _ => rfl | exact fun h => h | (intro himp; simp_all; done)) (by intro hcg; first | omega | (simp only [List.length_append, List.length_take, List.length_drop, List.length_cons, List.length_nil, List.length_nil]; omega))) | (show OpV _ _ _ _ (Oper.mk _ (Op.index _ _ _) _ _ _ _) _ _; exact xo_sindex rfl rfl) | (show OpV _ _ _ _ (Oper.mk _ (Op.slice _ _ (some _) (some _) none) _ _ _ _) _ _; first | exact xo_slice rfl rfl rfl | exact xo_slcB rfl rfl rfl) | (show OpV _ _ _ _ (Oper.mk _ (Op.slice _ _ (some _) none none) _ _ _ _) _ _; first | exact xo_from rfl rfl | exact xo_slcFrom rfl rfl) | (show OpV _ _ _ _ (Oper.mk _ (Op.slice _ _ none (some _) none) _ _ _ _) _ _; first | exact xo_to rfl rfl | exact xo_slcTo rfl rfl) | (show OpV _ _ _ _ (Oper.mk _ (Op.slice _ _ none (some _) (some _)) _ _ _ _) _ _; exact xo_slc3 rfl rfl rfl) | (show OpV _ _ _ _ (Oper.mk _ (Op.fieldAddr _ _ _) _ _ _ _) _ _; exact xo_fieldAddr rfl) | (show OpV _ _ _ _ (Oper.mk _ (Op.load _ _) _ _ _ _) _ _; first | exact xo_load1 rfl | exact xo_loadS rfl) | (show OpV _ _ _ _ (Oper.mk _ (Op.build _ _) _ _ _ _) _ _; exact xo_build rfl)) ?_ | refine wl_v rfl rfl rfl (by first  | fail) ?_ | refine xl_alloc (fun _ => ?_) | refine xl_store rfl rfl ?_ | refine xl_buildSlice rfl (fun _ => ?_)) | refine wc_ret rfl ?_)
    refine wc_cond rfl (fun hc => ?_) (fun hc => ?_)
    · (simp only [decide_eq_true_eq, decide_eq_false_iff_not, Bool.and_eq_true, Bool.or_eq_true, Bool.and_eq_false_iff, Bool.or_eq_false_iff, Bool.not_eq_true', Bool.not_eq_false', Int.not_lt, Int.not_le] at hc)
      have hlt1 := hg.1 ⟨by omega, hc.1.2, hc.2⟩
      repeat' (first | refine wc_seq ?_ | refine wc_region ?_ | refine wl_nil ?_ | refine wn_seq ?_ | refine wn_blk ?_ | refine wc_skip ?_ | refine wc_block ?_ | refine wc_exit rfl ?_ | (show WL _ _ (_ :: _) _ _ _ _; first | refine wl_v rfl rfl rfl (by first | (show OpV _ _ _ _ (Oper.mk _ (Op.move _) _ _ _ _) _ _; exact xo_move rfl) | (show OpV _ _ _ _ (Oper.mk _ (Op.assign _) _ _ _ _) _ _; exact xo_assign rfl) | (show OpV _ _ _ _ (Oper.mk _ (Op.pick _ _ _) _ _ _ _) _ _; first | exact xo_and rfl rfl | exact xo_or rfl rfl) | (show OpV _ _ _ _ (Oper.mk _ (Op.extract _ _) _ _ _ _) _ _; exact xo_extract rfl) | (show OpV _ _ _ _ (Oper.mk _ (Op.call ⟨.builtin .len, _, _⟩) _ _ _ _) _ _; first | exact xo_slen rfl | exact xo_len rfl) | (show OpV _ _ _ _ (Oper.mk _ (Op.binOp BinOp.eql _ _ _ _) _ _ _ _) _ _; first | exact xo_eql rfl rfl | exact xo_seql rfl rfl | exact xo_beql rfl rfl | exact xo_aeql rfl rfl) | (show OpV _ _ _ _ (Oper.mk _ (Op.binOp BinOp.neq _ _ _ _) _ _ _ _) _ _; first | exact xo_neq rfl rfl | exact xo_sneq rfl rfl | exact xo_bneq rfl rfl | exact xo_aneq rfl rfl) | (show OpV _ _ _ _ (Oper.mk _ (Op.binOp BinOp.lss _ _ _ _) _ _ _ _) _ _; exact xo_lss rfl rfl) | (show OpV _ _ _ _ (Oper.mk _ (Op.binOp BinOp.gtr _ _ _ _) _ _ _ _) _ _; exact xo_gtr rfl rfl) | (show OpV _ _ _ _ (Oper.mk _ (Op.binOp BinOp.geq _ _ _ _) _ _ _ _) _ _; exact xo_geq rfl rfl) | (show OpV _ _ _ _ (Oper.mk _ (Op.binOp BinOp.add _ _ _ _) _ _ _ _) _ _; first | exact xo_add rfl rfl | exact ov_sadd rfl rfl (by first | with_reducible exact fun _ => rfl | with_reducible exact fun h => h | exact fun _ => rfl | exact fun h => h | (intro himp; simp_all; done)) (by first | with_reducible exact fun _ => rfl | with_reducible exact fun h => h | exact fun _ => rfl | exact fun h => h | (intro himp; simp_all; done)) (by intro hcg; first | omega | (simp only [List.length_append, List.length_take, List.length_drop, List.length_cons, List.length_nil, List.length_nil]; omega))) | (show OpV _ _ _ _ (Oper.mk _ (Op.index _ _ _) _ _ _ _) _ _; exact xo_sindex rfl rfl) | (show OpV _ _ _ _ (Oper.mk _ (Op.slice _ _ (some _) (some _) none) _ _ _ _) _ _; first | exact xo_slice rfl rfl rfl | exact xo_slcB rfl rfl rfl) | (show OpV _ _ _ _ (Oper.mk _ (Op.slice _ _ (some _) none none) _ _ _ _) _ _; first | exact xo_from rfl rfl | exact xo_slcFrom rfl rfl) | (show OpV _ _ _ _ (Oper.mk _ (Op.slice _ _ none (some _) none) _ _ _ _) _ _; first | exact xo_to rfl rfl | exact xo_slcTo rfl rfl) | (show OpV _ _ _ _ (Oper.mk _ (Op.slice _ _ none (some _) (some _)) _ _ _ _) _ _; exact xo_slc3 rfl rfl rfl) | (show OpV _ _ _ _ (Oper.mk _ (Op.fieldAddr _ _ _) _ _ _ _) _ _; exact xo_fieldAddr rfl) | (show OpV _ _ _ _ (Oper.mk _ (Op.load _ _) _ _ _ _) _ _; first | exact xo_load1 rfl | exact xo_loadS rfl) | (show OpV _ _ _ _ (Oper.mk _ (Op.build _ _) _ _ _ _) _ _; exact xo_build rfl)) ?_ | refine wl_v rfl rfl rfl (by first  | fail) ?_ | refine xl_alloc (fun _ => ?_) | refine xl_store rfl rfl ?_ | refine xl_buildSlice rfl (fun _ => ?_)) | refine wc_ret rfl ?_)
      exact wn_cut ⟨e1 + 1, by omega, by omega⟩ (by show s.length - (e1 + 1) < s.length - e1; omega) (by first | exact Sub.nil _ | (repeat (first | exact Sub.nil _ | refine Sub.cons (by first | rfl | (simp [look]; done)) ?_))) (fun _ h => h.drop (by repeat (first | exact List.Sublist.refl _ | apply List.Sublist.cons)))
    (simp only [decide_eq_true_eq, decide_eq_false_iff_not, Bool.and_eq_true, Bool.or_eq_true, Bool.and_eq_false_iff, Bool.or_eq_false_iff, Bool.not_eq_true', Bool.not_eq_false', Int.not_lt, Int.not_le] at hc)
    obtain rfl : e1 = i0 + 1 + (wd isSp (s.drop (i0 + 1))).length := by
      rcases Nat.lt_or_ge e1 (i0 + 1 + (wd isSp (s.drop (i0 + 1))).length) with h | h
      · exfalso
        have h3 := hg.2 h
        rcases hc with (hc | hc) | hc
        · omega
        · exact h3.2.1 hc
        · exact h3.2.2 hc
      · omega
    clear hg hc he1 he2
    rw [← hat2] at hel
    have hi1 : i0 + 1 + (wd isSp (s.drop (i0 + 1))).length ≤ s.length := by omega
    have hsl : (s.drop (i0 + 1)).take (i0 + 1 + (wd isSp (s.drop (i0 + 1))).length - (i0 + 1)) = wd isSp (s.drop (i0 + 1)) := by
      rw [Nat.add_sub_cancel_left]; exact hnm
    repeat' (first | refine wc_seq ?_ | refine wc_region ?_ | refine wl_nil ?_ | refine wn_seq ?_ | refine wn_blk ?_ | refine wc_skip ?_ | refine wc_block ?_ | refine wc_exit rfl ?_ | (show WL _ _ (_ :: _) _ _ _ _; first | refine wl_v rfl rfl rfl (by first | (show OpV _ _ _ _ (Oper.mk _ (Op.move _) _ _ _ _) _ _; exact xo_move rfl) | (show OpV _ _ _ _ (Oper.mk _ (Op.assign _) _ _ _ _) _ _; exact xo_assign rfl) | (show OpV _ _ _ _ (Oper.mk _ (Op.pick _ _ _) _ _ _ _) _ _; first | exact xo_and rfl rfl | exact xo_or rfl rfl) | (show OpV _ _ _ _ (Oper.mk _ (Op.extract _ _) _ _ _ _) _ _; exact xo_extract rfl) | (show OpV _ _ _ _ (Oper.mk _ (Op.call ⟨.builtin .len, _, _⟩) _ _ _ _) _ _; first | exact xo_slen rfl | exact xo_len rfl) | (show OpV _ _ _ _ (Oper.mk _ (Op.binOp BinOp.eql _ _ _ _) _ _ _ _) _ _; first | exact xo_eql rfl rfl | exact xo_seql rfl rfl | exact xo_beql rfl rfl | exact xo_aeql rfl rfl) | (show OpV _ _ _ _ (Oper.mk _ (Op.binOp BinOp.neq _ _ _ _) _ _ _ _) _ _; first | exact xo_neq rfl rfl | exact xo_sneq rfl rfl | exact xo_bneq rfl rfl | exact xo_aneq rfl rfl) | (show OpV _ _ _ _ (Oper.mk _ (Op.binOp BinOp.lss _ _ _ _) _ _ _ _) _ _; exact xo_lss rfl rfl) | (show OpV _ _ _ _ (Oper.mk _ (Op.binOp BinOp.gtr _ _ _ _) _ _ _ _) _ _; exact xo_gtr rfl rfl) | (show OpV _ _ _ _ (Oper.mk _ (Op.binOp BinOp.geq _ _ _ _) _ _ _ _) _ _; exact xo_geq rfl rfl) | (show OpV _ _ _ _ (Oper.mk _ (Op.binOp BinOp.add _ _ _ _) _ _ _ _) _ _; first | exact xo_add rfl rfl | exact ov_sadd rfl rfl (by first | with_reducible exact fun _ => rfl | with_reducible exact fun h => h | exact fun _ => rfl | exact fun h => h | (intro himp; simp_all; done)) (by first | with_reducible exact fun _ => rfl | with_reducible exact fun h => h | exact fun _ => rfl | exact fun h => h | (intro himp; simp_all; done)) (by intro hcg; first | omega | (simp only [List.length_append, List.length_take, List.length_drop, List.length_cons, List.length_nil, List.length_nil]; omega))) | (show OpV _ _ _ _ (Oper.mk _ (Op.index _ _ _) _ _ _ _) _ _; exact xo_sindex rfl rfl) | (show OpV _ _ _ _ (Oper.mk _ (Op.slice _ _ (some _) (some _) none) _ _ _ _) _ _; first | exact xo_slice rfl rfl rfl | exact xo_slcB rfl rfl rfl) | (show OpV _ _ _ _ (Oper.mk _ (Op.slice _ _ (some _) none none) _ _ _ _) _ _; first | exact xo_from rfl rfl | exact xo_slcFrom rfl rfl) | (show OpV _ _ _ _ (Oper.mk _ (Op.slice _ _ none (some _) none) _ _ _ _) _ _; first | exact xo_to rfl rfl | exact xo_slcTo rfl rfl) | (show OpV _ _ _ _ (Oper.mk _ (Op.slice _ _ none (some _) (some _)) _ _ _ _) _ _; exact xo_slc3 rfl rfl rfl) | (show OpV _ _ _ _ (Oper.mk _ (Op.fieldAddr _ _ _) _ _ _ _) _ _; exact xo_fieldAddr rfl) | (show OpV _ _ _ _ (Oper.mk _ (Op.load _ _) _ _ _ _) _ _; first | exact xo_load1 rfl | exact xo_loadS rfl) | (show OpV _ _ _ _ (Oper.mk _ (Op.build _ _) _ _ _ _) _ _; exact xo_build rfl)) ?_ | refine wl_v rfl rfl rfl (by first  | fail) ?_ | refine xl_alloc (fun _ => ?_) | refine xl_store rfl rfl ?_ | refine xl_buildSlice rfl (fun _ => ?_)) | refine wc_ret rfl ?_)
    refine wc_weak (E' := [(0, true, str s), (1, true, i64 ((i0 + 1 + (wd isSp (s.drop (i0 + 1))).length : Nat) : Int)), (2, true, i64 deep), (6, true, .pointer (some ⟨b6, 0, none⟩)), (8, true, .pointer (some ⟨b8, 0, none⟩))]) (C' := St w [] [(b8, .cells [str (wd isSp (s.drop (i0 + 1))), .slice none 0 0, str [], .slice none 0 0].toArray 31 (0, 0)), (b6, .cells [str [], .slice none 0 0, str [], .slice none 0 0].toArray 31 (0, 0))] M) (by first | exact Sub.nil _ | (repeat (first | exact Sub.nil _ | refine Sub.cons (by first | rfl | (simp [look]; done)) ?_))) (fun w' h => by rw [hsl] at h; exact h) ?_
    have hnml : (wd isSp (s.drop (i0 + 1))).length ≤ s.length := by omega
    clear hsl hat2 hnm hbd
    generalize wd isSp (s.drop (i0 + 1)) = nm at *
    generalize i0 + 1 + nm.length = i1 at *
    refine wc_loop (α := RA s (s.drop i1)) (fun x => [(0, true, str s), (1, true, i64 (x.i : Int)), (2, true, i64 deep), (6, true, .pointer (some ⟨b6, 0, none⟩)), (8, true, .pointer (some ⟨b8, 0, none⟩))]) (fun x => St w [] ((b8, .cells [str nm, x.v, str [], .slice none 0 0].toArray 31 (0, 0)) :: (b6, .cells [str [], .slice none 0 0, str [], .slice none 0 0].toArray 31 (0, 0)) :: x.Hs) M) (fun x => x.f) ⟨s.length - i1, i1, [], .slice none 0 0, [], hi1, Nat.le_refl _, by rw [List.length_drop]; simp, by simp, OwnS.nil⟩ (by first | exact Sub.nil _ | (repeat (first | exact Sub.nil _ | refine Sub.cons (by first | rfl | (simp [look]; done)) ?_))) (fun _ h => h) ?_
    rintro ⟨f, i, acc, v, Hs, le, fuel, inv, len, own⟩
    dsimp only
    obtain ⟨va, vcap, rfl⟩ := own.slice (k := acc.length) (by decide) (cellsP_length _)
    have failA : attrsP ((s.drop i1).length + 1) (s.drop i1) = none → elemP (D + 1) (s.drop i0) = none := fun h => by rw [hel]; unfold headP; rw [h]
    repeat' (first | refine wc_seq ?_ | refine wc_region ?_ | refine wl_nil ?_ | refine wn_seq ?_ | refine wn_blk ?_ | refine wc_skip ?_ | refine wc_block ?_ | refine wc_exit rfl ?_ | (show WL _ _ (_ :: _) _ _ _ _; first | refine wl_v rfl rfl rfl (by first | (show OpV _ _ _ _ (Oper.mk _ (Op.move _) _ _ _ _) _ _; exact xo_move rfl) | (show OpV _ _ _ _ (Oper.mk _ (Op.assign _) _ _ _ _) _ _; exact xo_assign rfl) | (show OpV _ _ _ _ (Oper.mk _ (Op.pick _ _ _) _ _ _ _) _ _; first | exact xo_and rfl rfl | exact xo_or rfl rfl) | (show OpV _ _ _ _ (Oper.mk _ (Op.extract _ _) _ _ _ _) _ _; exact xo_extract rfl) | (show OpV _ _ _ _ (Oper.mk _ (Op.call ⟨.builtin .len, _, _⟩) _ _ _ _) _ _; first | exact xo_slen rfl | exact xo_len rfl) | (show OpV _ _ _ _ (Oper.mk _ (Op.binOp BinOp.eql _ _ _ _) _ _ _ _) _ _; first | exact xo_eql rfl rfl | exact xo_seql rfl rfl | exact xo_beql rfl rfl | exact xo_aeql rfl rfl) | (show OpV _ _ _ _ (Oper.mk _ (Op.binOp BinOp.neq _ _ _ _) _ _ _ _) _ _; first | exact xo_neq rfl rfl | exact xo_sneq rfl rfl | exact xo_bneq rfl rfl | exact xo_aneq rfl rfl) | (show OpV _ _ _ _ (Oper.mk _ (Op.binOp BinOp.lss _ _ _ _) _ _ _ _) _ _; exact xo_lss rfl rfl) | (show OpV _ _ _ _ (Oper.mk _ (Op.binOp BinOp.gtr _ _ _ _) _ _ _ _) _ _; exact xo_gtr rfl rfl) | (show OpV _ _ _ _ (Oper.mk _ (Op.binOp BinOp.geq _ _ _ _) _ _ _ _) _ _; exact xo_geq rfl rfl) | (show OpV _ _ _ _ (Oper.mk _ (Op.binOp BinOp.add _ _ _ _) _ _ _ _) _ _; first | exact xo_add rfl rfl | exact ov_sadd rfl rfl (by first | with_reducible exact fun _ => rfl | with_reducible exact fun h => h | exact fun _ => rfl | exact fun h => h | (intro himp; simp_all; done)) (by first | with_reducible exact fun _ => rfl | with_reducible exact fun h => h | exact fun _ => rfl | exact fun h => h | (intro himp; simp_all; done)) (by intro hcg; first | omega | (simp only [List.length_append, List.length_take, List.length_drop, List.length_cons, List.length_nil, List.length_nil]; omega))) | (show OpV _ _ _ _ (Oper.mk _ (Op.index _ _ _) _ _ _ _) _ _; exact xo_sindex rfl rfl) | (show OpV _ _ _ _ (Oper.mk _ (Op.slice _ _ (some _) (some _) none) _ _ _ _) _ _; first | exact xo_slice rfl rfl rfl | exact xo_slcB rfl rfl rfl) | (show OpV _ _ _ _ (Oper.mk _ (Op.slice _ _ (some _) none none) _ _ _ _) _ _; first | exact xo_from rfl rfl | exact xo_slcFrom rfl rfl) | (show OpV _ _ _ _ (Oper.mk _ (Op.slice _ _ none (some _) none) _ _ _ _) _ _; first | exact xo_to rfl rfl | exact xo_slcTo rfl rfl) | (show OpV _ _ _ _ (Oper.mk _ (Op.slice _ _ none (some _) (some _)) _ _ _ _) _ _; exact xo_slc3 rfl rfl rfl) | (show OpV _ _ _ _ (Oper.mk _ (Op.fieldAddr _ _ _) _ _ _ _) _ _; exact xo_fieldAddr rfl) | (show OpV _ _ _ _ (Oper.mk _ (Op.load _ _) _ _ _ _) _ _; first | exact xo_load1 rfl | exact xo_loadS rfl) | (show OpV _ _ _ _ (Oper.mk _ (Op.build _ _) _ _ _ _) _ _; exact xo_build rfl)) ?_ | refine wl_v rfl rfl rfl (by first  | fail) ?_ | refine xl_alloc (fun _ => ?_) | refine xl_store rfl rfl ?_ | refine xl_buildSlice rfl (fun _ => ?_)) | refine wc_ret rfl ?_)
    refine wc_cond rfl (fun hc => ?_) (fun hc => ?_)
    · (simp only [decide_eq_true_eq, decide_eq_false_iff_not, Bool.and_eq_true, Bool.or_eq_true, Bool.and_eq_false_iff, Bool.or_eq_false_iff, Bool.not_eq_true', Bool.not_eq_false', Int.not_lt, Int.not_le] at hc)
      have hli : i < s.length := by omega
      have h32 : s.drop i = 32 :: s.drop (i + 1) := at_cons.2 ⟨hli, b32.1 hc.2, rfl⟩
      rw [h32, attrsP] at inv
      have hk0 : i + (wd (isC 61) (s.drop i)).length = i + 1 + (wd (isC 61) (s.drop (i + 1))).length := by
        rw [h32]
        show i + (32 :: wd (isC 61) (s.drop (i + 1))).length = _
        rw [List.length_cons]; omega
      have hto := fun {w : World} (hw : Laid M w) => rto_ok hw s i 61 hs le
      rw [hk0] at hto
      have hkl := rs_length (isC 61) (s.drop (i + 1))
      rw [List.length_drop] at hkl
      have hat3 := rs_at (isC 61) s (i + 1)
      have hkey := wd_take (isC 61) (s.drop (i + 1))
      have hkx : i + 1 + (wd (isC 61) (s.drop (i + 1))).length ≤ s.length := by omega
      have hslk : (s.drop (i + 1)).take (i + 1 + (wd (isC 61) (s.drop (i + 1))).length - (i + 1)) = wd (isC 61) (s.drop (i + 1)) := by rw [Nat.add_sub_cancel_left]; exact hkey
      have hst := rs_stop (isC 61) (s.drop (i + 1))
      rw [← hat3] at hst
      clear hkey hk0 hkl
      repeat' (first | refine wc_seq ?_ | refine wc_region ?_ | refine wl_nil ?_ | refine wn_seq ?_ | refine wn_blk ?_ | refine wc_skip ?_ | refine wc_block ?_ | refine wc_exit rfl ?_ | (show WL _ _ (_ :: _) _ _ _ _; first | refine wl_v rfl rfl rfl (by first | (show OpV _ _ _ _ (Oper.mk _ (Op.move _) _ _ _ _) _ _; exact xo_move rfl) | (show OpV _ _ _ _ (Oper.mk _ (Op.assign _) _ _ _ _) _ _; exact xo_assign rfl) | (show OpV _ _ _ _ (Oper.mk _ (Op.pick _ _ _) _ _ _ _) _ _; first | exact xo_and rfl rfl | exact xo_or rfl rfl) | (show OpV _ _ _ _ (Oper.mk _ (Op.extract _ _) _ _ _ _) _ _; exact xo_extract rfl) | (show OpV _ _ _ _ (Oper.mk _ (Op.call ⟨.builtin .len, _, _⟩) _ _ _ _) _ _; first | exact xo_slen rfl | exact xo_len rfl) | (show OpV _ _ _ _ (Oper.mk _ (Op.binOp BinOp.eql _ _ _ _) _ _ _ _) _ _; first | exact xo_eql rfl rfl | exact xo_seql rfl rfl | exact xo_beql rfl rfl | exact xo_aeql rfl rfl) | (show OpV _ _ _ _ (Oper.mk _ (Op.binOp BinOp.neq _ _ _ _) _ _ _ _) _ _; first | exact xo_neq rfl rfl | exact xo_sneq rfl rfl | exact xo_bneq rfl rfl | exact xo_aneq rfl rfl) | (show OpV _ _ _ _ (Oper.mk _ (Op.binOp BinOp.lss _ _ _ _) _ _ _ _) _ _; exact xo_lss rfl rfl) | (show OpV _ _ _ _ (Oper.mk _ (Op.binOp BinOp.gtr _ _ _ _) _ _ _ _) _ _; exact xo_gtr rfl rfl) | (show OpV _ _ _ _ (Oper.mk _ (Op.binOp BinOp.geq _ _ _ _) _ _ _ _) _ _; exact xo_geq rfl rfl) | (show OpV _ _ _ _ (Oper.mk _ (Op.binOp BinOp.add _ _ _ _) _ _ _ _) _ _; first | exact xo_add rfl rfl | exact ov_sadd rfl rfl (by first | with_reducible exact fun _ => rfl | with_reducible exact fun h => h | exact fun _ => rfl | exact fun h => h | (intro himp; simp_all; done)) (by first | with_reducible exact fun _ => rfl | with_reducible exact fun h => h | exact fun _ => rfl | exact fun h => h | (intro himp; simp_all; done)) (by intro hcg; first | omega | (simp only [List.length_append, List.length_take, List.length_drop, List.length_cons, List.length_nil, List.length_nil]; omega))) | (show OpV _ _ _ _ (Oper.mk _ (Op.index _ _ _) _ _ _ _) _ _; exact xo_sindex rfl rfl) | (show OpV _ _ _ _ (Oper.mk _ (Op.slice _ _ (some _) (some _) none) _ _ _ _) _ _; first | exact xo_slice rfl rfl rfl | exact xo_slcB rfl rfl rfl) | (show OpV _ _ _ _ (Oper.mk _ (Op.slice _ _ (some _) none none) _ _ _ _) _ _; first | exact xo_from rfl rfl | exact xo_slcFrom rfl rfl) | (show OpV _ _ _ _ (Oper.mk _ (Op.slice _ _ none (some _) none) _ _ _ _) _ _; first | exact xo_to rfl rfl | exact xo_slcTo rfl rfl) | (show OpV _ _ _ _ (Oper.mk _ (Op.slice _ _ none (some _) (some _)) _ _ _ _) _ _; exact xo_slc3 rfl rfl rfl) | (show OpV _ _ _ _ (Oper.mk _ (Op.fieldAddr _ _ _) _ _ _ _) _ _; exact xo_fieldAddr rfl) | (show OpV _ _ _ _ (Oper.mk _ (Op.load _ _) _ _ _ _) _ _; first | exact xo_load1 rfl | exact xo_loadS rfl) | (show OpV _ _ _ _ (Oper.mk _ (Op.build _ _) _ _ _ _) _ _; exact xo_build rfl)) ?_ | refine wl_v rfl rfl rfl (by first | ((show OpV _ _ _ _ (Oper.mk _ (Op.call ⟨.value (.func 44), _, _⟩) _ _ _ _) _ _; exact ov_call Tryd.call44 rfl (by intro himp; first | rfl | (simp_all; done)) (by rfl) (fun _ _ h k => h.ext k) (fun hcg w hw => hto hw.laid))) | fail) ?_ | refine xl_alloc (fun _ => ?_) | refine xl_store rfl rfl ?_ | refine xl_buildSlice rfl (fun _ => ?_)) | refine wc_ret rfl ?_)
      have hno1 := attrP_no1 (r := s.drop (i + 1))
      have hno2 := fun {r2 : List UInt8} => attrP_no2 (r := s.drop (i + 1)) (r2 := r2)
      have hno3 := fun {r2 v : List UInt8} => attrP_no3 (r := s.drop (i + 1)) (r2 := r2) (v := v)
      have hyes := fun {r2 v r4 : List UInt8} => attrP_yes (r := s.drop (i + 1)) (r2 := r2) (v := v) (r4 := r4)
      rw [← hat3] at hno1 hno2 hno3 hyes
      clear hat3
      clear hto
      have failP : attrP (s.drop (i + 1)) = none → elemP (D + 1) (s.drop i0) = none := fun h => failA (by rw [inv, h]; rfl)
      have hik : i + 1 ≤ i + 1 + (wd (isC 61) (s.drop (i + 1))).length := by omega
      have hklen : (wd (isC 61) (s.drop (i + 1))).length ≤ s.length := by omega
      generalize wd (isC 61) (s.drop (i + 1)) = key at *
      generalize i + 1 + key.length = k at *
      refine wc_cond rfl (fun hc => ?_) (fun hc => ?_)
      · (simp only [decide_eq_true_eq, decide_eq_false_iff_not, Bool.and_eq_true, Bool.or_eq_true, Bool.and_eq_false_iff, Bool.or_eq_false_iff, Bool.not_eq_true', Bool.not_eq_false', Int.not_lt, Int.not_le] at hc)
        have hn := failP (hno1 (fun q e => by
          obtain ⟨g1, g2, g3⟩ := at_cons.1 e
          obtain ⟨g4, g5, g6⟩ := at_cons.1 g3
          rcases hc with hc | hc
          · omega
          · exact hc (b34.2 g5)))
        repeat' (first | (first | refine wc_seq ?_ | refine wc_region ?_ | refine wl_nil ?_ | refine wn_seq ?_ | refine wn_blk ?_ | refine wc_skip ?_ | refine wc_block ?_ | refine wc_exit rfl ?_ | (show WL _ _ (_ :: _) _ _ _ _; first | refine wl_v rfl rfl rfl (by first | (show OpV _ _ _ _ (Oper.mk _ (Op.move _) _ _ _ _) _ _; exact xo_move rfl) | (show OpV _ _ _ _ (Oper.mk _ (Op.assign _) _ _ _ _) _ _; exact xo_assign rfl) | (show OpV _ _ _ _ (Oper.mk _ (Op.pick _ _ _) _ _ _ _) _ _; first | exact xo_and rfl rfl | exact xo_or rfl rfl) | (show OpV _ _ _ _ (Oper.mk _ (Op.extract _ _) _ _ _ _) _ _; exact xo_extract rfl) | (show OpV _ _ _ _ (Oper.mk _ (Op.call ⟨.builtin .len, _, _⟩) _ _ _ _) _ _; first | exact xo_slen rfl | exact xo_len rfl) | (show OpV _ _ _ _ (Oper.mk _ (Op.binOp BinOp.eql _ _ _ _) _ _ _ _) _ _; first | exact xo_eql rfl rfl | exact xo_seql rfl rfl | exact xo_beql rfl rfl | exact xo_aeql rfl rfl) | (show OpV _ _ _ _ (Oper.mk _ (Op.binOp BinOp.neq _ _ _ _) _ _ _ _) _ _; first | exact xo_neq rfl rfl | exact xo_sneq rfl rfl | exact xo_bneq rfl rfl | exact xo_aneq rfl rfl) | (show OpV _ _ _ _ (Oper.mk _ (Op.binOp BinOp.lss _ _ _ _) _ _ _ _) _ _; exact xo_lss rfl rfl) | (show OpV _ _ _ _ (Oper.mk _ (Op.binOp BinOp.gtr _ _ _ _) _ _ _ _) _ _; exact xo_gtr rfl rfl) | (show OpV _ _ _ _ (Oper.mk _ (Op.binOp BinOp.geq _ _ _ _) _ _ _ _) _ _; exact xo_geq rfl rfl) | (show OpV _ _ _ _ (Oper.mk _ (Op.binOp BinOp.add _ _ _ _) _ _ _ _) _ _; first | exact xo_add rfl rfl | exact ov_sadd rfl rfl (by first | with_reducible exact fun _ => rfl | with_reducible exact fun h => h | exact fun _ => rfl | exact fun h => h | (intro himp; simp_all; done)) (by first | with_reducible exact fun _ => rfl | with_reducible exact fun h => h | exact fun _ => rfl | exact fun h => h | (intro himp; simp_all; done)) (by intro hcg; first | omega | (simp only [List.length_append, List.length_take, List.length_drop, List.length_cons, List.length_nil, List.length_nil]; omega))) | (show OpV _ _ _ _ (Oper.mk _ (Op.index _ _ _) _ _ _ _) _ _; exact xo_sindex rfl rfl) | (show OpV _ _ _ _ (Oper.mk _ (Op.slice _ _ (some _) (some _) none) _ _ _ _) _ _; first | exact xo_slice rfl rfl rfl | exact xo_slcB rfl rfl rfl) | (show OpV _ _ _ _ (Oper.mk _ (Op.slice _ _ (some _) none none) _ _ _ _) _ _; first | exact xo_from rfl rfl | exact xo_slcFrom rfl rfl) | (show OpV _ _ _ _ (Oper.mk _ (Op.slice _ _ none (some _) none) _ _ _ _) _ _; first | exact xo_to rfl rfl | exact xo_slcTo rfl rfl) | (show OpV _ _ _ _ (Oper.mk _ (Op.slice _ _ none (some _) (some _)) _ _ _ _) _ _; exact xo_slc3 rfl rfl rfl) | (show OpV _ _ _ _ (Oper.mk _ (Op.fieldAddr _ _ _) _ _ _ _) _ _; exact xo_fieldAddr rfl) | (show OpV _ _ _ _ (Oper.mk _ (Op.load _ _) _ _ _ _) _ _; first | exact xo_load1 rfl | exact xo_loadS rfl) | (show OpV _ _ _ _ (Oper.mk _ (Op.build _ _) _ _ _ _) _ _; exact xo_build rfl)) ?_ | refine wl_v rfl rfl rfl (by first  | fail) ?_ | refine xl_alloc (fun _ => ?_) | refine xl_store rfl rfl ?_ | refine xl_buildSlice rfl (fun _ => ?_)) | refine wc_ret rfl ?_) | (show WC _ (Code.cond _ _ _) _ _ _ _; (refine wc_cond rfl (fun hc => ?_) (fun hc => ?_) <;> (try (simp only [decide_eq_true_eq, decide_eq_false_iff_not, Bool.and_eq_true, Bool.or_eq_true, Bool.and_eq_false_iff, Bool.or_eq_false_iff, Bool.not_eq_true', Bool.not_eq_false', Int.not_lt, Int.not_le] at hc)) <;> (try (exfalso; first | omega | contradiction)))))
        exact wr_layC2 (Hn := []) rfl rfl rfl rfl (by first | exact List.Mem.head _ | exact List.Mem.tail _ (List.Mem.head _) | exact List.Mem.tail _ (List.Mem.tail _ (List.Mem.head _)) | exact List.Mem.tail _ (List.Mem.tail _ (List.Mem.tail _ (List.Mem.head _))) | exact List.Mem.tail _ (List.Mem.tail _ (List.Mem.tail _ (List.Mem.tail _ (List.Mem.head _)))) | exact List.mem_append_right _ (List.Mem.head _) | exact List.mem_append_right _ (List.Mem.tail _ (List.Mem.head _)) | exact List.mem_append_right _ (List.Mem.tail _ (List.Mem.tail _ (List.Mem.head _))) | exact List.mem_append_right _ (List.Mem.tail _ (List.Mem.tail _ (List.Mem.tail _ (List.Mem.head _)))) | exact List.Mem.tail _ (List.mem_append_right _ (List.Mem.head _)) | exact List.Mem.tail _ (List.mem_append_right _ (List.Mem.tail _ (List.Mem.head _))) | exact List.Mem.tail _ (List.mem_append_right _ (List.Mem.tail _ (List.Mem.tail _ (List.Mem.head _)))) | exact List.Mem.tail _ (List.mem_append_right _ (List.Mem.tail _ (List.Mem.tail _ (List.Mem.tail _ (List.Mem.head _))))) | exact List.Mem.tail _ (List.Mem.tail _ (List.mem_append_right _ (List.Mem.head _))) | exact List.Mem.tail _ (List.Mem.tail _ (List.mem_append_right _ (List.Mem.tail _ (List.Mem.head _)))) | exact List.Mem.tail _ (List.Mem.tail _ (List.mem_append_right _ (List.Mem.tail _ (List.Mem.tail _ (List.Mem.head _)))))) rfl Since.refl (List.nil_sublist _) ⟨rfl, relemIs_no hn⟩
      (simp only [decide_eq_true_eq, decide_eq_false_iff_not, Bool.and_eq_true, Bool.or_eq_true, Bool.and_eq_false_iff, Bool.or_eq_false_iff, Bool.not_eq_true', Bool.not_eq_false', Int.not_lt, Int.not_le] at hc)
      have hk1 : k + 1 < s.length := by omega
      have hk34 : s.getD (k + 1) 0 = 34 := b34.1 hc.2
      have h61 : s.drop k = 61 :: 34 :: s.drop (k + 2) := by
        have h2 : s.drop (k + 1) = 34 :: s.drop (k + 2) := at_cons.2 ⟨hk1, hk34, rfl⟩
        rcases hst with h | ⟨c, t, h, hcc⟩
        · have := congrArg List.length h
          rw [List.length_drop, List.length_nil] at this; omega
        · obtain ⟨g1, g2, g3⟩ := at_cons.1 h
          rw [isC_self hcc] at g2
          rw [← h2]; exact at_cons.2 ⟨g1, g2, rfl⟩
      have hto := fun {w : World} (hw : Laid M w) => rto_ok hw s (k + 2) 34 hs (by omega)
      have hql := rs_length (isC 34) (s.drop (k + 2))
      rw [List.length_drop] at hql
      have hat4 := rs_at (isC 34) s (k + 2)
      have hval := wd_take (isC 34) (s.drop (k + 2))
      have hslv : (s.drop (k + 2)).take (k + 2 + (wd (isC 34) (s.drop (k + 2))).length - (k + 2)) = wd (isC 34) (s.drop (k + 2)) := by rw [Nat.add_sub_cancel_left]; exact hval
      have hst4 := rs_stop (isC 34) (s.drop (k + 2))
      have hno2 := hno2 h61
      have hno3 := fun {v : List UInt8} => hno3 (v := v) h61
      have hyes := fun {v r4 : List UInt8} => hyes (v := v) (r4 := r4) h61
      rw [← hat4] at hst4 hno3 hyes
      have hqx : k + 2 + (wd (isC 34) (s.drop (k + 2))).length ≤ s.length := by omega
      have hvl : (wd (isC 34) (s.drop (k + 2))).length ≤ s.length := by omega
      clear hat4 hval hql hno1 hst
      repeat' (first | refine wc_seq ?_ | refine wc_region ?_ | refine wl_nil ?_ | refine wn_seq ?_ | refine wn_blk ?_ | refine wc_skip ?_ | refine wc_block ?_ | refine wc_exit rfl ?_ | (show WL _ _ (_ :: _) _ _ _ _; first | refine wl_v rfl rfl rfl (by first | (show OpV _ _ _ _ (Oper.mk _ (Op.move _) _ _ _ _) _ _; exact xo_move rfl) | (show OpV _ _ _ _ (Oper.mk _ (Op.assign _) _ _ _ _) _ _; exact xo_assign rfl) | (show OpV _ _ _ _ (Oper.mk _ (Op.pick _ _ _) _ _ _ _) _ _; first | exact xo_and rfl rfl | exact xo_or rfl rfl) | (show OpV _ _ _ _ (Oper.mk _ (Op.extract _ _) _ _ _ _) _ _; exact xo_extract rfl) | (show OpV _ _ _ _ (Oper.mk _ (Op.call ⟨.builtin .len, _, _⟩) _ _ _ _) _ _; first | exact xo_slen rfl | exact xo_len rfl) | (show OpV _ _ _ _ (Oper.mk _ (Op.binOp BinOp.eql _ _ _ _) _ _ _ _) _ _; first | exact xo_eql rfl rfl | exact xo_seql rfl rfl | exact xo_beql rfl rfl | exact xo_aeql rfl rfl) | (show OpV _ _ _ _ (Oper.mk _ (Op.binOp BinOp.neq _ _ _ _) _ _ _ _) _ _; first | exact xo_neq rfl rfl | exact xo_sneq rfl rfl | exact xo_bneq rfl rfl | exact xo_aneq rfl rfl) | (show OpV _ _ _ _ (Oper.mk _ (Op.binOp BinOp.lss _ _ _ _) _ _ _ _) _ _; exact xo_lss rfl rfl) | (show OpV _ _ _ _ (Oper.mk _ (Op.binOp BinOp.gtr _ _ _ _) _ _ _ _) _ _; exact xo_gtr rfl rfl) | (show OpV _ _ _ _ (Oper.mk _ (Op.binOp BinOp.geq _ _ _ _) _ _ _ _) _ _; exact xo_geq rfl rfl) | (show OpV _ _ _ _ (Oper.mk _ (Op.binOp BinOp.add _ _ _ _) _ _ _ _) _ _; first | exact xo_add rfl rfl | exact ov_sadd rfl rfl (by first | with_reducible exact fun _ => rfl | with_reducible exact fun h => h | exact fun _ => rfl | exact fun h => h | (intro himp; simp_all; done)) (by first | with_reducible exact fun _ => rfl | with_reducible exact fun h => h | exact fun _ => rfl | exact fun h => h | (intro himp; simp_all; done)) (by intro hcg; first | omega | (simp only [List.length_append, List.length_take, List.length_drop, List.length_cons, List.length_nil, List.length_nil]; omega))) | (show OpV _ _ _ _ (Oper.mk _ (Op.index _ _ _) _ _ _ _) _ _; exact xo_sindex rfl rfl) | (show OpV _ _ _ _ (Oper.mk _ (Op.slice _ _ (some _) (some _) none) _ _ _ _) _ _; first | exact xo_slice rfl rfl rfl | exact xo_slcB rfl rfl rfl) | (show OpV _ _ _ _ (Oper.mk _ (Op.slice _ _ (some _) none none) _ _ _ _) _ _; first | exact xo_from rfl rfl | exact xo_slcFrom rfl rfl) | (show OpV _ _ _ _ (Oper.mk _ (Op.slice _ _ none (some _) none) _ _ _ _) _ _; first | exact xo_to rfl rfl | exact xo_slcTo rfl rfl) | (show OpV _ _ _ _ (Oper.mk _ (Op.slice _ _ none (some _) (some _)) _ _ _ _) _ _; exact xo_slc3 rfl rfl rfl) | (show OpV _ _ _ _ (Oper.mk _ (Op.fieldAddr _ _ _) _ _ _ _) _ _; exact xo_fieldAddr rfl) | (show OpV _ _ _ _ (Oper.mk _ (Op.load _ _) _ _ _ _) _ _; first | exact xo_load1 rfl | exact xo_loadS rfl) | (show OpV _ _ _ _ (Oper.mk _ (Op.build _ _) _ _ _ _) _ _; exact xo_build rfl)) ?_ | refine wl_v rfl rfl rfl (by first | ((show OpV _ _ _ _ (Oper.mk _ (Op.call ⟨.value (.func 44), _, _⟩) _ _ _ _) _ _; exact ov_call Tryd.call44 rfl (by intro himp; first | rfl | (simp_all; done)) (by rfl) (fun _ _ h k => h.ext k) (fun hcg w hw => hto hw.laid))) | fail) ?_ | refine xl_alloc (fun _ => ?_) | refine xl_store rfl rfl ?_ | refine xl_buildSlice rfl (fun _ => ?_)) | refine wc_ret rfl ?_)
      clear hto
      have hkq : k + 2 ≤ k + 2 + (wd (isC 34) (s.drop (k + 2))).length := by omega
      generalize wd (isC 34) (s.drop (k + 2)) = vv at *
      generalize k + 2 + vv.length = q at *
      refine wc_cond rfl (fun hc => ?_) (fun hc => ?_)
      · (simp only [decide_eq_true_eq, decide_eq_false_iff_not, Bool.and_eq_true, Bool.or_eq_true, Bool.and_eq_false_iff, Bool.or_eq_false_iff, Bool.not_eq_true', Bool.not_eq_false', Int.not_lt, Int.not_le] at hc)
        have hn : elemP (D + 1) (s.drop i0) = none := by
          refine failP ?_
          cases hu : unescQ vv with
          | none => exact hno2 hu
          | some x =>
            refine hno3 hu (fun t e => ?_)
            have := congrArg List.length e
            rw [List.length_drop, List.length_cons] at this; omega
        repeat' (first | (first | refine wc_seq ?_ | refine wc_region ?_ | refine wl_nil ?_ | refine wn_seq ?_ | refine wn_blk ?_ | refine wc_skip ?_ | refine wc_block ?_ | refine wc_exit rfl ?_ | (show WL _ _ (_ :: _) _ _ _ _; first | refine wl_v rfl rfl rfl (by first | (show OpV _ _ _ _ (Oper.mk _ (Op.move _) _ _ _ _) _ _; exact xo_move rfl) | (show OpV _ _ _ _ (Oper.mk _ (Op.assign _) _ _ _ _) _ _; exact xo_assign rfl) | (show OpV _ _ _ _ (Oper.mk _ (Op.pick _ _ _) _ _ _ _) _ _; first | exact xo_and rfl rfl | exact xo_or rfl rfl) | (show OpV _ _ _ _ (Oper.mk _ (Op.extract _ _) _ _ _ _) _ _; exact xo_extract rfl) | (show OpV _ _ _ _ (Oper.mk _ (Op.call ⟨.builtin .len, _, _⟩) _ _ _ _) _ _; first | exact xo_slen rfl | exact xo_len rfl) | (show OpV _ _ _ _ (Oper.mk _ (Op.binOp BinOp.eql _ _ _ _) _ _ _ _) _ _; first | exact xo_eql rfl rfl | exact xo_seql rfl rfl | exact xo_beql rfl rfl | exact xo_aeql rfl rfl) | (show OpV _ _ _ _ (Oper.mk _ (Op.binOp BinOp.neq _ _ _ _) _ _ _ _) _ _; first | exact xo_neq rfl rfl | exact xo_sneq rfl rfl | exact xo_bneq rfl rfl | exact xo_aneq rfl rfl) | (show OpV _ _ _ _ (Oper.mk _ (Op.binOp BinOp.lss _ _ _ _) _ _ _ _) _ _; exact xo_lss rfl rfl) | (show OpV _ _ _ _ (Oper.mk _ (Op.binOp BinOp.gtr _ _ _ _) _ _ _ _) _ _; exact xo_gtr rfl rfl) | (show OpV _ _ _ _ (Oper.mk _ (Op.binOp BinOp.geq _ _ _ _) _ _ _ _) _ _; exact xo_geq rfl rfl) | (show OpV _ _ _ _ (Oper.mk _ (Op.binOp BinOp.add _ _ _ _) _ _ _ _) _ _; first | exact xo_add rfl rfl | exact ov_sadd rfl rfl (by first | with_reducible exact fun _ => rfl | with_reducible exact fun h => h | exact fun _ => rfl | exact fun h => h | (intro himp; simp_all; done)) (by first | with_reducible exact fun _ => rfl | with_reducible exact fun h => h | exact fun _ => rfl | exact fun h => h | (intro himp; simp_all; done)) (by intro hcg; first | omega | (simp only [List.length_append, List.length_take, List.length_drop, List.length_cons, List.length_nil, List.length_nil]; omega))) | (show OpV _ _ _ _ (Oper.mk _ (Op.index _ _ _) _ _ _ _) _ _; exact xo_sindex rfl rfl) | (show OpV _ _ _ _ (Oper.mk _ (Op.slice _ _ (some _) (some _) none) _ _ _ _) _ _; first | exact xo_slice rfl rfl rfl | exact xo_slcB rfl rfl rfl) | (show OpV _ _ _ _ (Oper.mk _ (Op.slice _ _ (some _) none none) _ _ _ _) _ _; first | exact xo_from rfl rfl | exact xo_slcFrom rfl rfl) | (show OpV _ _ _ _ (Oper.mk _ (Op.slice _ _ none (some _) none) _ _ _ _) _ _; first | exact xo_to rfl rfl | exact xo_slcTo rfl rfl) | (show OpV _ _ _ _ (Oper.mk _ (Op.slice _ _ none (some _) (some _)) _ _ _ _) _ _; exact xo_slc3 rfl rfl rfl) | (show OpV _ _ _ _ (Oper.mk _ (Op.fieldAddr _ _ _) _ _ _ _) _ _; exact xo_fieldAddr rfl) | (show OpV _ _ _ _ (Oper.mk _ (Op.load _ _) _ _ _ _) _ _; first | exact xo_load1 rfl | exact xo_loadS rfl) | (show OpV _ _ _ _ (Oper.mk _ (Op.build _ _) _ _ _ _) _ _; exact xo_build rfl)) ?_ | refine wl_v rfl rfl rfl (by first  | fail) ?_ | refine xl_alloc (fun _ => ?_) | refine xl_store rfl rfl ?_ | refine xl_buildSlice rfl (fun _ => ?_)) | refine wc_ret rfl ?_) | (show WC _ (Code.cond _ _ _) _ _ _ _; (refine wc_cond rfl (fun hc => ?_) (fun hc => ?_) <;> (try (simp only [decide_eq_true_eq, decide_eq_false_iff_not, Bool.and_eq_true, Bool.or_eq_true, Bool.and_eq_false_iff, Bool.or_eq_false_iff, Bool.not_eq_true', Bool.not_eq_false', Int.not_lt, Int.not_le] at hc)) <;> (try (exfalso; first | omega | contradiction)))))
        exact wr_layC2 (Hn := []) rfl rfl rfl rfl (by first | exact List.Mem.head _ | exact List.Mem.tail _ (List.Mem.head _) | exact List.Mem.tail _ (List.Mem.tail _ (List.Mem.head _)) | exact List.Mem.tail _ (List.Mem.tail _ (List.Mem.tail _ (List.Mem.head _))) | exact List.Mem.tail _ (List.Mem.tail _ (List.Mem.tail _ (List.Mem.tail _ (List.Mem.head _)))) | exact List.mem_append_right _ (List.Mem.head _) | exact List.mem_append_right _ (List.Mem.tail _ (List.Mem.head _)) | exact List.mem_append_right _ (List.Mem.tail _ (List.Mem.tail _ (List.Mem.head _))) | exact List.mem_append_right _ (List.Mem.tail _ (List.Mem.tail _ (List.Mem.tail _ (List.Mem.head _)))) | exact List.Mem.tail _ (List.mem_append_right _ (List.Mem.head _)) | exact List.Mem.tail _ (List.mem_append_right _ (List.Mem.tail _ (List.Mem.head _))) | exact List.Mem.tail _ (List.mem_append_right _ (List.Mem.tail _ (List.Mem.tail _ (List.Mem.head _)))) | exact List.Mem.tail _ (List.mem_append_right _ (List.Mem.tail _ (List.Mem.tail _ (List.Mem.tail _ (List.Mem.head _))))) | exact List.Mem.tail _ (List.Mem.tail _ (List.mem_append_right _ (List.Mem.head _))) | exact List.Mem.tail _ (List.Mem.tail _ (List.mem_append_right _ (List.Mem.tail _ (List.Mem.head _)))) | exact List.Mem.tail _ (List.Mem.tail _ (List.mem_append_right _ (List.Mem.tail _ (List.Mem.tail _ (List.Mem.head _)))))) rfl Since.refl (List.nil_sublist _) ⟨rfl, relemIs_no hn⟩
      (simp only [decide_eq_true_eq, decide_eq_false_iff_not, Bool.and_eq_true, Bool.or_eq_true, Bool.and_eq_false_iff, Bool.or_eq_false_iff, Bool.not_eq_true', Bool.not_eq_false', Int.not_lt, Int.not_le] at hc)
      have hqlt : q < s.length := by omega
      have h34 : s.drop q = 34 :: s.drop (q + 1) := by
        rcases hst4 with h | ⟨c, t, h, hcc⟩
        · have := congrArg List.length h
          rw [List.length_drop, List.length_nil] at this; omega
        · obtain ⟨g1, g2, g3⟩ := at_cons.1 h
          rw [isC_self hcc] at g2
          exact at_cons.2 ⟨g1, g2, rfl⟩
      have hun := fun {w : World} (hw : Laid M w) => runescape_ok hw vv (by omega)
      rw [← hslv] at hun
      cases hu : unescQ vv with
      | none =>
        have hn := failP (hno2 hu)
        have hun : ∀ {w : World}, Laid M w → Calls Tryd.prog 10 #[str ((s.drop (k + 2)).take (q - (k + 2)))] w (RetE w (.tuple #[str [], i64 10])) := fun h => by have := hun h; rw [hslv, hu] at this; rw [hslv]; exact this
        repeat' (first | (first | refine wc_seq ?_ | refine wc_region ?_ | refine wl_nil ?_ | refine wn_seq ?_ | refine wn_blk ?_ | refine wc_skip ?_ | refine wc_block ?_ | refine wc_exit rfl ?_ | (show WL _ _ (_ :: _) _ _ _ _; first | refine wl_v rfl rfl rfl (by first | (show OpV _ _ _ _ (Oper.mk _ (Op.move _) _ _ _ _) _ _; exact xo_move rfl) | (show OpV _ _ _ _ (Oper.mk _ (Op.assign _) _ _ _ _) _ _; exact xo_assign rfl) | (show OpV _ _ _ _ (Oper.mk _ (Op.pick _ _ _) _ _ _ _) _ _; first | exact xo_and rfl rfl | exact xo_or rfl rfl) | (show OpV _ _ _ _ (Oper.mk _ (Op.extract _ _) _ _ _ _) _ _; exact xo_extract rfl) | (show OpV _ _ _ _ (Oper.mk _ (Op.call ⟨.builtin .len, _, _⟩) _ _ _ _) _ _; first | exact xo_slen rfl | exact xo_len rfl) | (show OpV _ _ _ _ (Oper.mk _ (Op.binOp BinOp.eql _ _ _ _) _ _ _ _) _ _; first | exact xo_eql rfl rfl | exact xo_seql rfl rfl | exact xo_beql rfl rfl | exact xo_aeql rfl rfl) | (show OpV _ _ _ _ (Oper.mk _ (Op.binOp BinOp.neq _ _ _ _) _ _ _ _) _ _; first | exact xo_neq rfl rfl | exact xo_sneq rfl rfl | exact xo_bneq rfl rfl | exact xo_aneq rfl rfl) | (show OpV _ _ _ _ (Oper.mk _ (Op.binOp BinOp.lss _ _ _ _) _ _ _ _) _ _; exact xo_lss rfl rfl) | (show OpV _ _ _ _ (Oper.mk _ (Op.binOp BinOp.gtr _ _ _ _) _ _ _ _) _ _; exact xo_gtr rfl rfl) | (show OpV _ _ _ _ (Oper.mk _ (Op.binOp BinOp.geq _ _ _ _) _ _ _ _) _ _; exact xo_geq rfl rfl) | (show OpV _ _ _ _ (Oper.mk _ (Op.binOp BinOp.add _ _ _ _) _ _ _ _) _ _; first | exact xo_add rfl rfl | exact ov_sadd rfl rfl (by first | with_reducible exact fun _ => rfl | with_reducible exact fun h => h | exact fun _ => rfl | exact fun h => h | (intro himp; simp_all; done)) (by first | with_reducible exact fun _ => rfl | with_reducible exact fun h => h | exact fun _ => rfl | exact fun h => h | (intro himp; simp_all; done)) (by intro hcg; first | omega | (simp only [List.length_append, List.length_take, List.length_drop, List.length_cons, List.length_nil, List.length_nil]; omega))) | (show OpV _ _ _ _ (Oper.mk _ (Op.index _ _ _) _ _ _ _) _ _; exact xo_sindex rfl rfl) | (show OpV _ _ _ _ (Oper.mk _ (Op.slice _ _ (some _) (some _) none) _ _ _ _) _ _; first | exact xo_slice rfl rfl rfl | exact xo_slcB rfl rfl rfl) | (show OpV _ _ _ _ (Oper.mk _ (Op.slice _ _ (some _) none none) _ _ _ _) _ _; first | exact xo_from rfl rfl | exact xo_slcFrom rfl rfl) | (show OpV _ _ _ _ (Oper.mk _ (Op.slice _ _ none (some _) none) _ _ _ _) _ _; first | exact xo_to rfl rfl | exact xo_slcTo rfl rfl) | (show OpV _ _ _ _ (Oper.mk _ (Op.slice _ _ none (some _) (some _)) _ _ _ _) _ _; exact xo_slc3 rfl rfl rfl) | (show OpV _ _ _ _ (Oper.mk _ (Op.fieldAddr _ _ _) _ _ _ _) _ _; exact xo_fieldAddr rfl) | (show OpV _ _ _ _ (Oper.mk _ (Op.load _ _) _ _ _ _) _ _; first | exact xo_load1 rfl | exact xo_loadS rfl) | (show OpV _ _ _ _ (Oper.mk _ (Op.build _ _) _ _ _ _) _ _; exact xo_build rfl)) ?_ | refine wl_v rfl rfl rfl (by first | ((show OpV _ _ _ _ (Oper.mk _ (Op.call ⟨.value (.func 10), _, _⟩) _ _ _ _) _ _; exact ov_call Tryd.call10 rfl (by intro himp; first | rfl | (simp_all; done)) (by rfl) (fun _ _ h k => h.ext k) (fun hcg w hw => hun hw.laid))) | fail) ?_ | refine xl_alloc (fun _ => ?_) | refine xl_store rfl rfl ?_ | refine xl_buildSlice rfl (fun _ => ?_)) | refine wc_ret rfl ?_) | (show WC _ (Code.cond _ _ _) _ _ _ _; (refine wc_cond rfl (fun hc => ?_) (fun hc => ?_) <;> (try (simp only [decide_eq_true_eq, decide_eq_false_iff_not, Bool.and_eq_true, Bool.or_eq_true, Bool.and_eq_false_iff, Bool.or_eq_false_iff, Bool.not_eq_true', Bool.not_eq_false', Int.not_lt, Int.not_le] at hc)) <;> (try (exfalso; first | omega | contradiction)))))
        exact wr_layC2 (Hn := []) rfl rfl rfl rfl (by first | exact List.Mem.head _ | exact List.Mem.tail _ (List.Mem.head _) | exact List.Mem.tail _ (List.Mem.tail _ (List.Mem.head _)) | exact List.Mem.tail _ (List.Mem.tail _ (List.Mem.tail _ (List.Mem.head _))) | exact List.Mem.tail _ (List.Mem.tail _ (List.Mem.tail _ (List.Mem.tail _ (List.Mem.head _)))) | exact List.mem_append_right _ (List.Mem.head _) | exact List.mem_append_right _ (List.Mem.tail _ (List.Mem.head _)) | exact List.mem_append_right _ (List.Mem.tail _ (List.Mem.tail _ (List.Mem.head _))) | exact List.mem_append_right _ (List.Mem.tail _ (List.Mem.tail _ (List.Mem.tail _ (List.Mem.head _)))) | exact List.Mem.tail _ (List.mem_append_right _ (List.Mem.head _)) | exact List.Mem.tail _ (List.mem_append_right _ (List.Mem.tail _ (List.Mem.head _))) | exact List.Mem.tail _ (List.mem_append_right _ (List.Mem.tail _ (List.Mem.tail _ (List.Mem.head _)))) | exact List.Mem.tail _ (List.mem_append_right _ (List.Mem.tail _ (List.Mem.tail _ (List.Mem.tail _ (List.Mem.head _))))) | exact List.Mem.tail _ (List.Mem.tail _ (List.mem_append_right _ (List.Mem.head _))) | exact List.Mem.tail _ (List.Mem.tail _ (List.mem_append_right _ (List.Mem.tail _ (List.Mem.head _)))) | exact List.Mem.tail _ (List.Mem.tail _ (List.mem_append_right _ (List.Mem.tail _ (List.Mem.tail _ (List.Mem.head _)))))) rfl Since.refl (List.nil_sublist _) ⟨rfl, relemIs_no hn⟩
      | some val =>
        have hvl2 := unescQ_len hu
        have hun : ∀ {w : World}, Laid M w → Calls Tryd.prog 10 #[str ((s.drop (k + 2)).take (q - (k + 2)))] w (RetE w (.tuple #[str val, i64 0])) := fun h => by have := hun h; rw [hslv, hu] at this; rw [hslv]; exact this
        have hy := hyes hu h34
        rw [hy] at inv
        repeat' (first | (first | refine wc_seq ?_ | refine wc_region ?_ | refine wl_nil ?_ | refine wn_seq ?_ | refine wn_blk ?_ | refine wc_skip ?_ | refine wc_block ?_ | refine wc_exit rfl ?_ | (show WL _ _ (_ :: _) _ _ _ _; first | refine wl_v rfl rfl rfl (by first | (show OpV _ _ _ _ (Oper.mk _ (Op.move _) _ _ _ _) _ _; exact xo_move rfl) | (show OpV _ _ _ _ (Oper.mk _ (Op.assign _) _ _ _ _) _ _; exact xo_assign rfl) | (show OpV _ _ _ _ (Oper.mk _ (Op.pick _ _ _) _ _ _ _) _ _; first | exact xo_and rfl rfl | exact xo_or rfl rfl) | (show OpV _ _ _ _ (Oper.mk _ (Op.extract _ _) _ _ _ _) _ _; exact xo_extract rfl) | (show OpV _ _ _ _ (Oper.mk _ (Op.call ⟨.builtin .len, _, _⟩) _ _ _ _) _ _; first | exact xo_slen rfl | exact xo_len rfl) | (show OpV _ _ _ _ (Oper.mk _ (Op.binOp BinOp.eql _ _ _ _) _ _ _ _) _ _; first | exact xo_eql rfl rfl | exact xo_seql rfl rfl | exact xo_beql rfl rfl | exact xo_aeql rfl rfl) | (show OpV _ _ _ _ (Oper.mk _ (Op.binOp BinOp.neq _ _ _ _) _ _ _ _) _ _; first | exact xo_neq rfl rfl | exact xo_sneq rfl rfl | exact xo_bneq rfl rfl | exact xo_aneq rfl rfl) | (show OpV _ _ _ _ (Oper.mk _ (Op.binOp BinOp.lss _ _ _ _) _ _ _ _) _ _; exact xo_lss rfl rfl) | (show OpV _ _ _ _ (Oper.mk _ (Op.binOp BinOp.gtr _ _ _ _) _ _ _ _) _ _; exact xo_gtr rfl rfl) | (show OpV _ _ _ _ (Oper.mk _ (Op.binOp BinOp.geq _ _ _ _) _ _ _ _) _ _; exact xo_geq rfl rfl) | (show OpV _ _ _ _ (Oper.mk _ (Op.binOp BinOp.add _ _ _ _) _ _ _ _) _ _; first | exact xo_add rfl rfl | exact ov_sadd rfl rfl (by first | with_reducible exact fun _ => rfl | with_reducible exact fun h => h | exact fun _ => rfl | exact fun h => h | (intro himp; simp_all; done)) (by first | with_reducible exact fun _ => rfl | with_reducible exact fun h => h | exact fun _ => rfl | exact fun h => h | (intro himp; simp_all; done)) (by intro hcg; first | omega | (simp only [List.length_append, List.length_take, List.length_drop, List.length_cons, List.length_nil, List.length_nil]; omega))) | (show OpV _ _ _ _ (Oper.mk _ (Op.index _ _ _) _ _ _ _) _ _; exact xo_sindex rfl rfl) | (show OpV _ _ _ _ (Oper.mk _ (Op.slice _ _ (some _) (some _) none) _ _ _ _) _ _; first | exact xo_slice rfl rfl rfl | exact xo_slcB rfl rfl rfl) | (show OpV _ _ _ _ (Oper.mk _ (Op.slice _ _ (some _) none none) _ _ _ _) _ _; first | exact xo_from rfl rfl | exact xo_slcFrom rfl rfl) | (show OpV _ _ _ _ (Oper.mk _ (Op.slice _ _ none (some _) none) _ _ _ _) _ _; first | exact xo_to rfl rfl | exact xo_slcTo rfl rfl) | (show OpV _ _ _ _ (Oper.mk _ (Op.slice _ _ none (some _) (some _)) _ _ _ _) _ _; exact xo_slc3 rfl rfl rfl) | (show OpV _ _ _ _ (Oper.mk _ (Op.fieldAddr _ _ _) _ _ _ _) _ _; exact xo_fieldAddr rfl) | (show OpV _ _ _ _ (Oper.mk _ (Op.load _ _) _ _ _ _) _ _; first | exact xo_load1 rfl | exact xo_loadS rfl) | (show OpV _ _ _ _ (Oper.mk _ (Op.build _ _) _ _ _ _) _ _; exact xo_build rfl)) ?_ | refine wl_v rfl rfl rfl (by first | ((show OpV _ _ _ _ (Oper.mk _ (Op.call ⟨.value (.func 10), _, _⟩) _ _ _ _) _ _; exact ov_call Tryd.call10 rfl (by intro himp; first | rfl | (simp_all; done)) (by rfl) (fun _ _ h k => h.ext k) (fun hcg w hw => hun hw.laid))) | fail) ?_ | refine xl_alloc (fun _ => ?_) | refine xl_store rfl rfl ?_ | refine xl_buildSlice rfl (fun _ => ?_)) | refine wc_ret rfl ?_) | (show WC _ (Code.cond _ _ _) _ _ _ _; (refine wc_cond rfl (fun hc => ?_) (fun hc => ?_) <;> (try (simp only [decide_eq_true_eq, decide_eq_false_iff_not, Bool.and_eq_true, Bool.or_eq_true, Bool.and_eq_false_iff, Bool.or_eq_false_iff, Bool.not_eq_true', Bool.not_eq_false', Int.not_lt, Int.not_le] at hc)) <;> (try (exfalso; first | omega | contradiction)))))
        match f, fuel, inv with
        | 0, fuel, _ => exfalso; omega
        | f + 1, fuel, inv =>
          refine wc_weak (E' := [(0, true, str s), (1, true, i64 (i : Int)), (2, true, i64 deep), (6, true, .pointer (some ⟨b6, 0, none⟩)), (8, true, .pointer (some ⟨b8, 0, none⟩)), (10, true, i64 (k : Int)), (11, true, i64 (q : Int)), (12, true, str val)]) (C' := St w [] (Hs ++ [(b8, .cells [str nm, .slice va acc.length vcap, str [], .slice none 0 0].toArray 31 (0, 0)), (b6, .cells [str [], .slice none 0 0, str [], .slice none 0 0].toArray 31 (0, 0))]) M) (by first | exact Sub.nil _ | (repeat (first | exact Sub.nil _ | refine Sub.cons (by first | rfl | (simp [look]; done)) ?_))) (fun _ h => h.perm (List.perm_append_comm (l₂ := [_, _]))) ?_
          refine wc_draw 10 (by kernel_rfl) rfl (by kernel_rfl) (fun _ _ h k => h.ext k) ?_
          repeat' (first | (show WD _ _ (_ :: _) _ _ _ _ _ _; first | refine wd_v rfl rfl rfl rfl rfl rfl (by first | (show OpV _ _ _ _ (Oper.mk _ (Op.move _) _ _ _ _) _ _; exact xo_move rfl) | (show OpV _ _ _ _ (Oper.mk _ (Op.assign _) _ _ _ _) _ _; exact xo_assign rfl) | (show OpV _ _ _ _ (Oper.mk _ (Op.pick _ _ _) _ _ _ _) _ _; first | exact xo_and rfl rfl | exact xo_or rfl rfl) | (show OpV _ _ _ _ (Oper.mk _ (Op.extract _ _) _ _ _ _) _ _; exact xo_extract rfl) | (show OpV _ _ _ _ (Oper.mk _ (Op.call ⟨.builtin .len, _, _⟩) _ _ _ _) _ _; first | exact xo_slen rfl | exact xo_len rfl) | (show OpV _ _ _ _ (Oper.mk _ (Op.binOp BinOp.eql _ _ _ _) _ _ _ _) _ _; first | exact xo_eql rfl rfl | exact xo_seql rfl rfl | exact xo_beql rfl rfl | exact xo_aeql rfl rfl) | (show OpV _ _ _ _ (Oper.mk _ (Op.binOp BinOp.neq _ _ _ _) _ _ _ _) _ _; first | exact xo_neq rfl rfl | exact xo_sneq rfl rfl | exact xo_bneq rfl rfl | exact xo_aneq rfl rfl) | (show OpV _ _ _ _ (Oper.mk _ (Op.binOp BinOp.lss _ _ _ _) _ _ _ _) _ _; exact xo_lss rfl rfl) | (show OpV _ _ _ _ (Oper.mk _ (Op.binOp BinOp.gtr _ _ _ _) _ _ _ _) _ _; exact xo_gtr rfl rfl) | (show OpV _ _ _ _ (Oper.mk _ (Op.binOp BinOp.geq _ _ _ _) _ _ _ _) _ _; exact xo_geq rfl rfl) | (show OpV _ _ _ _ (Oper.mk _ (Op.binOp BinOp.add _ _ _ _) _ _ _ _) _ _; first | exact xo_add rfl rfl | exact ov_sadd rfl rfl (by first | with_reducible exact fun _ => rfl | with_reducible exact fun h => h | exact fun _ => rfl | exact fun h => h | (intro himp; simp_all; done)) (by first | with_reducible exact fun _ => rfl | with_reducible exact fun h => h | exact fun _ => rfl | exact fun h => h | (intro himp; simp_all; done)) (by intro hcg; first | omega | (simp only [List.length_append, List.length_take, List.length_drop, List.length_cons, List.length_nil, List.length_nil]; omega))) | (show OpV _ _ _ _ (Oper.mk _ (Op.index _ _ _) _ _ _ _) _ _; exact xo_sindex rfl rfl) | (show OpV _ _ _ _ (Oper.mk _ (Op.slice _ _ (some _) (some _) none) _ _ _ _) _ _; first | exact xo_slice rfl rfl rfl | exact xo_slcB rfl rfl rfl) | (show OpV _ _ _ _ (Oper.mk _ (Op.slice _ _ (some _) none none) _ _ _ _) _ _; first | exact xo_from rfl rfl | exact xo_slcFrom rfl rfl) | (show OpV _ _ _ _ (Oper.mk _ (Op.slice _ _ none (some _) none) _ _ _ _) _ _; first | exact xo_to rfl rfl | exact xo_slcTo rfl rfl) | (show OpV _ _ _ _ (Oper.mk _ (Op.slice _ _ none (some _) (some _)) _ _ _ _) _ _; exact xo_slc3 rfl rfl rfl) | (show OpV _ _ _ _ (Oper.mk _ (Op.fieldAddr _ _ _) _ _ _ _) _ _; exact xo_fieldAddr rfl) | (show OpV _ _ _ _ (Oper.mk _ (Op.load _ _) _ _ _ _) _ _; first | exact xo_load1 rfl | exact xo_loadS rfl) | (show OpV _ _ _ _ (Oper.mk _ (Op.build _ _) _ _ _ _) _ _; exact xo_build rfl)) ?_ | refine wd_v rfl rfl rfl rfl rfl rfl (by first  | fail) ?_ | refine wd_new rfl rfl rfl rfl rfl rfl steady_fresh (or_buildSlice rfl rfl (by first | exact (rfl : _ = some 1) | exact (rfl : _ = some 2) | exact (rfl : _ = some 3) | exact (rfl : _ = some 4) | exact (rfl : _ = some 6) | exact rfl) (fun _ => rfl) rfl rfl rfl (by simp only [cellsAll, Value.cells, List.size_toArray, List.length_cons, List.length_nil, Nat.zero_add, Nat.reduceAdd, and_self, if_true, true_and, Option.map_some, List.cons_append, List.nil_append]; first | done | rfl)) ?_ | refine wd_conv rfl rfl rfl rfl rfl rfl rfl rfl rfl rfl ?_) | (show WD _ _ _ _ _ _ _ _ _; first | refine wd_nil ?_ | refine wd_nil1 (wl_fresh (fun _ => ?_))) | (first | refine wc_seq ?_ | refine wc_region ?_ | refine wl_nil ?_ | refine wn_seq ?_ | refine wn_blk ?_ | refine wc_skip ?_ | refine wc_block ?_ | refine wc_exit rfl ?_ | (show WL _ _ (_ :: _) _ _ _ _; first | refine wl_v rfl rfl rfl (by first | (show OpV _ _ _ _ (Oper.mk _ (Op.move _) _ _ _ _) _ _; exact xo_move rfl) | (show OpV _ _ _ _ (Oper.mk _ (Op.assign _) _ _ _ _) _ _; exact xo_assign rfl) | (show OpV _ _ _ _ (Oper.mk _ (Op.pick _ _ _) _ _ _ _) _ _; first | exact xo_and rfl rfl | exact xo_or rfl rfl) | (show OpV _ _ _ _ (Oper.mk _ (Op.extract _ _) _ _ _ _) _ _; exact xo_extract rfl) | (show OpV _ _ _ _ (Oper.mk _ (Op.call ⟨.builtin .len, _, _⟩) _ _ _ _) _ _; first | exact xo_slen rfl | exact xo_len rfl) | (show OpV _ _ _ _ (Oper.mk _ (Op.binOp BinOp.eql _ _ _ _) _ _ _ _) _ _; first | exact xo_eql rfl rfl | exact xo_seql rfl rfl | exact xo_beql rfl rfl | exact xo_aeql rfl rfl) | (show OpV _ _ _ _ (Oper.mk _ (Op.binOp BinOp.neq _ _ _ _) _ _ _ _) _ _; first | exact xo_neq rfl rfl | exact xo_sneq rfl rfl | exact xo_bneq rfl rfl | exact xo_aneq rfl rfl) | (show OpV _ _ _ _ (Oper.mk _ (Op.binOp BinOp.lss _ _ _ _) _ _ _ _) _ _; exact xo_lss rfl rfl) | (show OpV _ _ _ _ (Oper.mk _ (Op.binOp BinOp.gtr _ _ _ _) _ _ _ _) _ _; exact xo_gtr rfl rfl) | (show OpV _ _ _ _ (Oper.mk _ (Op.binOp BinOp.geq _ _ _ _) _ _ _ _) _ _; exact xo_geq rfl rfl) | (show OpV _ _ _ _ (Oper.mk _ (Op.binOp BinOp.add _ _ _ _) _ _ _ _) _ _; first | exact xo_add rfl rfl | exact ov_sadd rfl rfl (by first | with_reducible exact fun _ => rfl | with_reducible exact fun h => h | exact fun _ => rfl | exact fun h => h | (intro himp; simp_all; done)) (by first | with_reducible exact fun _ => rfl | with_reducible exact fun h => h | exact fun _ => rfl | exact fun h => h | (intro himp; simp_all; done)) (by intro hcg; first | omega | (simp only [List.length_append, List.length_take, List.length_drop, List.length_cons, List.length_nil, List.length_nil]; omega))) | (show OpV _ _ _ _ (Oper.mk _ (Op.index _ _ _) _ _ _ _) _ _; exact xo_sindex rfl rfl) | (show OpV _ _ _ _ (Oper.mk _ (Op.slice _ _ (some _) (some _) none) _ _ _ _) _ _; first | exact xo_slice rfl rfl rfl | exact xo_slcB rfl rfl rfl) | (show OpV _ _ _ _ (Oper.mk _ (Op.slice _ _ (some _) none none) _ _ _ _) _ _; first | exact xo_from rfl rfl | exact xo_slcFrom rfl rfl) | (show OpV _ _ _ _ (Oper.mk _ (Op.slice _ _ none (some _) none) _ _ _ _) _ _; first | exact xo_to rfl rfl | exact xo_slcTo rfl rfl) | (show OpV _ _ _ _ (Oper.mk _ (Op.slice _ _ none (some _) (some _)) _ _ _ _) _ _; exact xo_slc3 rfl rfl rfl) | (show OpV _ _ _ _ (Oper.mk _ (Op.fieldAddr _ _ _) _ _ _ _) _ _; exact xo_fieldAddr rfl) | (show OpV _ _ _ _ (Oper.mk _ (Op.load _ _) _ _ _ _) _ _; first | exact xo_load1 rfl | exact xo_loadS rfl) | (show OpV _ _ _ _ (Oper.mk _ (Op.build _ _) _ _ _ _) _ _; exact xo_build rfl)) ?_ | refine wl_v rfl rfl rfl (by first  | fail) ?_ | refine xl_alloc (fun _ => ?_) | refine xl_store rfl rfl ?_ | refine xl_buildSlice rfl (fun _ => ?_)) | refine wc_ret rfl ?_))
          refine wl_append (news := [str ((s.drop (i + 1)).take (k - (i + 1))), str val]) (H0 := [(b8, .cells [str nm, .slice va acc.length vcap, str [], .slice none 0 0].toArray 31 (0, 0)), (b6, .cells [str [], .slice none 0 0, str [], .slice none 0 0].toArray 31 (0, 0))]) rfl own rfl rfl rfl rfl rfl rfl rfl rfl rfl rfl (by first | exact List.Mem.head _ | exact List.Mem.tail _ (List.Mem.head _) | exact List.Mem.tail _ (List.Mem.tail _ (List.Mem.head _)) | exact List.Mem.tail _ (List.Mem.tail _ (List.Mem.tail _ (List.Mem.head _))) | exact List.Mem.tail _ (List.Mem.tail _ (List.Mem.tail _ (List.Mem.tail _ (List.Mem.head _)))) | exact List.mem_append_right _ (List.Mem.head _) | exact List.mem_append_right _ (List.Mem.tail _ (List.Mem.head _)) | exact List.mem_append_right _ (List.Mem.tail _ (List.Mem.tail _ (List.Mem.head _))) | exact List.mem_append_right _ (List.Mem.tail _ (List.Mem.tail _ (List.Mem.tail _ (List.Mem.head _)))) | exact List.Mem.tail _ (List.mem_append_right _ (List.Mem.head _)) | exact List.Mem.tail _ (List.mem_append_right _ (List.Mem.tail _ (List.Mem.head _))) | exact List.Mem.tail _ (List.mem_append_right _ (List.Mem.tail _ (List.Mem.tail _ (List.Mem.head _)))) | exact List.Mem.tail _ (List.mem_append_right _ (List.Mem.tail _ (List.Mem.tail _ (List.Mem.tail _ (List.Mem.head _))))) | exact List.Mem.tail _ (List.Mem.tail _ (List.mem_append_right _ (List.Mem.head _))) | exact List.Mem.tail _ (List.Mem.tail _ (List.mem_append_right _ (List.Mem.tail _ (List.Mem.head _)))) | exact List.Mem.tail _ (List.Mem.tail _ (List.mem_append_right _ (List.Mem.tail _ (List.Mem.tail _ (List.Mem.head _)))))) rfl rfl (by repeat (first | exact List.Sublist.refl _ | apply List.Sublist.cons)) (by rw [cellsP_length]; omega) rfl ?_
          intro v' Hs' ho'
          rw [hslk, ← cellsP_snoc acc (key, val)] at ho'
          refine wl_weak (C' := St w [] ((b8, .cells [str nm, .slice va acc.length vcap, str [], .slice none 0 0].toArray 31 (0, 0)) :: (b6, .cells [str [], .slice none 0 0, str [], .slice none 0 0].toArray 31 (0, 0)) :: Hs') M) (Eng.Sub.refl _) (fun w' h => (h.drop (H' := Hs' ++ [(b8, .cells [str nm, .slice va acc.length vcap, str [], .slice none 0 0].toArray 31 (0, 0)), (b6, .cells [str [], .slice none 0 0, str [], .slice none 0 0].toArray 31 (0, 0))]) (List.Sublist.append (List.Sublist.refl _) (by repeat (first | exact List.Sublist.refl _ | apply List.Sublist.cons)))).perm (List.perm_append_comm (l₁ := [_, _]))) ?_
          obtain ⟨va2, vcap2, rfl⟩ := ho'.slice (k := acc.length + 1) (by decide) (by rw [cellsP_length]; simp)
          repeat' (first | (first | refine wc_seq ?_ | refine wc_region ?_ | refine wl_nil ?_ | refine wn_seq ?_ | refine wn_blk ?_ | refine wc_skip ?_ | refine wc_block ?_ | refine wc_exit rfl ?_ | (show WL _ _ (_ :: _) _ _ _ _; first | refine wl_v rfl rfl rfl (by first | (show OpV _ _ _ _ (Oper.mk _ (Op.move _) _ _ _ _) _ _; exact xo_move rfl) | (show OpV _ _ _ _ (Oper.mk _ (Op.assign _) _ _ _ _) _ _; exact xo_assign rfl) | (show OpV _ _ _ _ (Oper.mk _ (Op.pick _ _ _) _ _ _ _) _ _; first | exact xo_and rfl rfl | exact xo_or rfl rfl) | (show OpV _ _ _ _ (Oper.mk _ (Op.extract _ _) _ _ _ _) _ _; exact xo_extract rfl) | (show OpV _ _ _ _ (Oper.mk _ (Op.call ⟨.builtin .len, _, _⟩) _ _ _ _) _ _; first | exact xo_slen rfl | exact xo_len rfl) | (show OpV _ _ _ _ (Oper.mk _ (Op.binOp BinOp.eql _ _ _ _) _ _ _ _) _ _; first | exact xo_eql rfl rfl | exact xo_seql rfl rfl | exact xo_beql rfl rfl | exact xo_aeql rfl rfl) | (show OpV _ _ _ _ (Oper.mk _ (Op.binOp BinOp.neq _ _ _ _) _ _ _ _) _ _; first | exact xo_neq rfl rfl | exact xo_sneq rfl rfl | exact xo_bneq rfl rfl | exact xo_aneq rfl rfl) | (show OpV _ _ _ _ (Oper.mk _ (Op.binOp BinOp.lss _ _ _ _) _ _ _ _) _ _; exact xo_lss rfl rfl) | (show OpV _ _ _ _ (Oper.mk _ (Op.binOp BinOp.gtr _ _ _ _) _ _ _ _) _ _; exact xo_gtr rfl rfl) | (show OpV _ _ _ _ (Oper.mk _ (Op.binOp BinOp.geq _ _ _ _) _ _ _ _) _ _; exact xo_geq rfl rfl) | (show OpV _ _ _ _ (Oper.mk _ (Op.binOp BinOp.add _ _ _ _) _ _ _ _) _ _; first | exact xo_add rfl rfl | exact ov_sadd rfl rfl (by first | with_reducible exact fun _ => rfl | with_reducible exact fun h => h | exact fun _ => rfl | exact fun h => h | (intro himp; simp_all; done)) (by first | with_reducible exact fun _ => rfl | with_reducible exact fun h => h | exact fun _ => rfl | exact fun h => h | (intro himp; simp_all; done)) (by intro hcg; first | omega | (simp only [List.length_append, List.length_take, List.length_drop, List.length_cons, List.length_nil, List.length_nil]; omega))) | (show OpV _ _ _ _ (Oper.mk _ (Op.index _ _ _) _ _ _ _) _ _; exact xo_sindex rfl rfl) | (show OpV _ _ _ _ (Oper.mk _ (Op.slice _ _ (some _) (some _) none) _ _ _ _) _ _; first | exact xo_slice rfl rfl rfl | exact xo_slcB rfl rfl rfl) | (show OpV _ _ _ _ (Oper.mk _ (Op.slice _ _ (some _) none none) _ _ _ _) _ _; first | exact xo_from rfl rfl | exact xo_slcFrom rfl rfl) | (show OpV _ _ _ _ (Oper.mk _ (Op.slice _ _ none (some _) none) _ _ _ _) _ _; first | exact xo_to rfl rfl | exact xo_slcTo rfl rfl) | (show OpV _ _ _ _ (Oper.mk _ (Op.slice _ _ none (some _) (some _)) _ _ _ _) _ _; exact xo_slc3 rfl rfl rfl) | (show OpV _ _ _ _ (Oper.mk _ (Op.fieldAddr _ _ _) _ _ _ _) _ _; exact xo_fieldAddr rfl) | (show OpV _ _ _ _ (Oper.mk _ (Op.load _ _) _ _ _ _) _ _; first | exact xo_load1 rfl | exact xo_loadS rfl) | (show OpV _ _ _ _ (Oper.mk _ (Op.build _ _) _ _ _ _) _ _; exact xo_build rfl)) ?_ | refine wl_v rfl rfl rfl (by first  | fail) ?_ | refine xl_alloc (fun _ => ?_) | refine xl_store rfl rfl ?_ | refine xl_buildSlice rfl (fun _ => ?_)) | refine wc_ret rfl ?_) | (show WC _ (Code.cond _ _ _) _ _ _ _; (refine wc_cond rfl (fun hc => ?_) (fun hc => ?_) <;> (try (simp only [decide_eq_true_eq, decide_eq_false_iff_not, Bool.and_eq_true, Bool.or_eq_true, Bool.and_eq_false_iff, Bool.or_eq_false_iff, Bool.not_eq_true', Bool.not_eq_false', Int.not_lt, Int.not_le] at hc)) <;> (try (exfalso; first | omega | contradiction)))))
          refine wn_cut ⟨f, q + 1, acc ++ [(key, val)], .slice va2 (acc.length + 1) vcap2, Hs', by omega, by omega, ?_, by rw [List.length_append, List.length_singleton]; omega, ho'⟩ (by show f < f + 1; omega) (by first | exact Sub.nil _ | (repeat (first | exact Sub.nil _ | refine Sub.cons (by first | rfl | (simp [look]; done)) ?_))) (fun _ h => h)
          rw [inv]
          show Option.map _ (Option.map _ (attrsP (f + 1) (s.drop (q + 1)))) = _
          rw [Option.map_map]
          congr 1
          funext x
          simp
    (simp only [decide_eq_true_eq, decide_eq_false_iff_not, Bool.and_eq_true, Bool.or_eq_true, Bool.and_eq_false_iff, Bool.or_eq_false_iff, Bool.not_eq_true', Bool.not_eq_false', Int.not_lt, Int.not_le] at hc)
    have hex : attrsP ((s.drop i1).length + 1) (s.drop i1) = some (acc, s.drop i) := by
      rw [inv]
      have : attrsP (f + 1) (s.drop i) = some ([], s.drop i) := by
        unfold attrsP
        split
        · rename_i r e
          obtain ⟨g1, g2, g3⟩ := at_cons.1 e
          exfalso
          rcases hc with hc | hc
          · omega
          · exact hc (b32.2 g2)
        · rfl
      rw [this]; simp
    have hsmall : ∀ p ∈ acc, p.1.length + p.2.length ≤ s.length := fun p hp => by
      have h1 := attrT_small hp
      have h2 := congrArg List.length (attrsP_text hex)
      rw [List.length_drop, List.length_append] at h2
      omega
    clear inv failA fuel hc
    repeat' (first | refine wc_seq ?_ | refine wc_region ?_ | refine wl_nil ?_ | refine wn_seq ?_ | refine wn_blk ?_ | refine wc_skip ?_ | refine wc_block ?_ | refine wc_exit rfl ?_ | (show WL _ _ (_ :: _) _ _ _ _; first | refine wl_v rfl rfl rfl (by first | (show OpV _ _ _ _ (Oper.mk _ (Op.move _) _ _ _ _) _ _; exact xo_move rfl) | (show OpV _ _ _ _ (Oper.mk _ (Op.assign _) _ _ _ _) _ _; exact xo_assign rfl) | (show OpV _ _ _ _ (Oper.mk _ (Op.pick _ _ _) _ _ _ _) _ _; first | exact xo_and rfl rfl | exact xo_or rfl rfl) | (show OpV _ _ _ _ (Oper.mk _ (Op.extract _ _) _ _ _ _) _ _; exact xo_extract rfl) | (show OpV _ _ _ _ (Oper.mk _ (Op.call ⟨.builtin .len, _, _⟩) _ _ _ _) _ _; first | exact xo_slen rfl | exact xo_len rfl) | (show OpV _ _ _ _ (Oper.mk _ (Op.binOp BinOp.eql _ _ _ _) _ _ _ _) _ _; first | exact xo_eql rfl rfl | exact xo_seql rfl rfl | exact xo_beql rfl rfl | exact xo_aeql rfl rfl) | (show OpV _ _ _ _ (Oper.mk _ (Op.binOp BinOp.neq _ _ _ _) _ _ _ _) _ _; first | exact xo_neq rfl rfl | exact xo_sneq rfl rfl | exact xo_bneq rfl rfl | exact xo_aneq rfl rfl) | (show OpV _ _ _ _ (Oper.mk _ (Op.binOp BinOp.lss _ _ _ _) _ _ _ _) _ _; exact xo_lss rfl rfl) | (show OpV _ _ _ _ (Oper.mk _ (Op.binOp BinOp.gtr _ _ _ _) _ _ _ _) _ _; exact xo_gtr rfl rfl) | (show OpV _ _ _ _ (Oper.mk _ (Op.binOp BinOp.geq _ _ _ _) _ _ _ _) _ _; exact xo_geq rfl rfl) | (show OpV _ _ _ _ (Oper.mk _ (Op.binOp BinOp.add _ _ _ _) _ _ _ _) _ _; first | exact xo_add rfl rfl | exact ov_sadd rfl rfl (by first | with_reducible exact fun _ => rfl | with_reducible exact fun h => h | exact fun _ => rfl | exact fun h => h | (intro himp; simp_all; done)) (by first | with_reducible exact fun _ => rfl | with_reducible exact fun h => h | exact fun _ => rfl | exact fun h => h | (intro himp; simp_all; done)) (by intro hcg; first | omega | (simp only [List.length_append, List.length_take, List.length_drop, List.length_cons, List.length_nil, List.length_nil]; omega))) | (show OpV _ _ _ _ (Oper.mk _ (Op.index _ _ _) _ _ _ _) _ _; exact xo_sindex rfl rfl) | (show OpV _ _ _ _ (Oper.mk _ (Op.slice _ _ (some _) (some _) none) _ _ _ _) _ _; first | exact xo_slice rfl rfl rfl | exact xo_slcB rfl rfl rfl) | (show OpV _ _ _ _ (Oper.mk _ (Op.slice _ _ (some _) none none) _ _ _ _) _ _; first | exact xo_from rfl rfl | exact xo_slcFrom rfl rfl) | (show OpV _ _ _ _ (Oper.mk _ (Op.slice _ _ none (some _) none) _ _ _ _) _ _; first | exact xo_to rfl rfl | exact xo_slcTo rfl rfl) | (show OpV _ _ _ _ (Oper.mk _ (Op.slice _ _ none (some _) (some _)) _ _ _ _) _ _; exact xo_slc3 rfl rfl rfl) | (show OpV _ _ _ _ (Oper.mk _ (Op.fieldAddr _ _ _) _ _ _ _) _ _; exact xo_fieldAddr rfl) | (show OpV _ _ _ _ (Oper.mk _ (Op.load _ _) _ _ _ _) _ _; first | exact xo_load1 rfl | exact xo_loadS rfl) | (show OpV _ _ _ _ (Oper.mk _ (Op.build _ _) _ _ _ _) _ _; exact xo_build rfl)) ?_ | refine wl_v rfl rfl rfl (by first  | fail) ?_ | refine xl_alloc (fun _ => ?_) | refine xl_store rfl rfl ?_ | refine xl_buildSlice rfl (fun _ => ?_)) | refine wc_ret rfl ?_)
    refine wc_weak (C' := St w [] (Hs ++ [(b8, .cells [str nm, .slice va acc.length vcap, str [], .slice none 0 0].toArray 31 (0, 0)), (b6, .cells [str [], .slice none 0 0, str [], .slice none 0 0].toArray 31 (0, 0))]) M) (Eng.Sub.refl _) (fun _ h => h.perm (List.perm_append_comm (l₂ := [_, _]))) ?_
    refine wc_publish (fun hnew => ?_)
    have hsl : SlP (With M Hs) (.slice va acc.length vcap) acc := own.slP (fun p hp => .inr hp) (by omega)
    have hM1 : Since w M (With M Hs) := since_new Since.refl hnew
    clear own hnew
    generalize With M Hs = M1 at *
    refine wc_cond rfl (fun hc => ?_) (fun hc => ?_)
    · (simp only [decide_eq_true_eq, decide_eq_false_iff_not, Bool.and_eq_true, Bool.or_eq_true, Bool.and_eq_false_iff, Bool.or_eq_false_iff, Bool.not_eq_true', Bool.not_eq_false', Int.not_lt, Int.not_le] at hc)
      have hn : elemP (D + 1) (s.drop i0) = none := by
        have : headP (s.drop i1) = none := by
          unfold headP; rw [hex]
          simp only
          split
          · rename_i r3 e
            obtain ⟨g1, g2, g3⟩ := at_cons.1 e
            exfalso
            rcases hc with hc | hc
            · omega
            · exact hc (b62.2 g2)
          · rfl
        rw [hel, this]
      repeat' (first | (first | refine wc_seq ?_ | refine wc_region ?_ | refine wl_nil ?_ | refine wn_seq ?_ | refine wn_blk ?_ | refine wc_skip ?_ | refine wc_block ?_ | refine wc_exit rfl ?_ | (show WL _ _ (_ :: _) _ _ _ _; first | refine wl_v rfl rfl rfl (by first | (show OpV _ _ _ _ (Oper.mk _ (Op.move _) _ _ _ _) _ _; exact xo_move rfl) | (show OpV _ _ _ _ (Oper.mk _ (Op.assign _) _ _ _ _) _ _; exact xo_assign rfl) | (show OpV _ _ _ _ (Oper.mk _ (Op.pick _ _ _) _ _ _ _) _ _; first | exact xo_and rfl rfl | exact xo_or rfl rfl) | (show OpV _ _ _ _ (Oper.mk _ (Op.extract _ _) _ _ _ _) _ _; exact xo_extract rfl) | (show OpV _ _ _ _ (Oper.mk _ (Op.call ⟨.builtin .len, _, _⟩) _ _ _ _) _ _; first | exact xo_slen rfl | exact xo_len rfl) | (show OpV _ _ _ _ (Oper.mk _ (Op.binOp BinOp.eql _ _ _ _) _ _ _ _) _ _; first | exact xo_eql rfl rfl | exact xo_seql rfl rfl | exact xo_beql rfl rfl | exact xo_aeql rfl rfl) | (show OpV _ _ _ _ (Oper.mk _ (Op.binOp BinOp.neq _ _ _ _) _ _ _ _) _ _; first | exact xo_neq rfl rfl | exact xo_sneq rfl rfl | exact xo_bneq rfl rfl | exact xo_aneq rfl rfl) | (show OpV _ _ _ _ (Oper.mk _ (Op.binOp BinOp.lss _ _ _ _) _ _ _ _) _ _; exact xo_lss rfl rfl) | (show OpV _ _ _ _ (Oper.mk _ (Op.binOp BinOp.gtr _ _ _ _) _ _ _ _) _ _; exact xo_gtr rfl rfl) | (show OpV _ _ _ _ (Oper.mk _ (Op.binOp BinOp.geq _ _ _ _) _ _ _ _) _ _; exact xo_geq rfl rfl) | (show OpV _ _ _ _ (Oper.mk _ (Op.binOp BinOp.add _ _ _ _) _ _ _ _) _ _; first | exact xo_add rfl rfl | exact ov_sadd rfl rfl (by first | with_reducible exact fun _ => rfl | with_reducible exact fun h => h | exact fun _ => rfl | exact fun h => h | (intro himp; simp_all; done)) (by first | with_reducible exact fun _ => rfl | with_reducible exact fun h => h | exact fun _ => rfl | exact fun h => h | (intro himp; simp_all; done)) (by intro hcg; first | omega | (simp only [List.length_append, List.length_take, List.length_drop, List.length_cons, List.length_nil, List.length_nil]; omega))) | (show OpV _ _ _ _ (Oper.mk _ (Op.index _ _ _) _ _ _ _) _ _; exact xo_sindex rfl rfl) | (show OpV _ _ _ _ (Oper.mk _ (Op.slice _ _ (some _) (some _) none) _ _ _ _) _ _; first | exact xo_slice rfl rfl rfl | exact xo_slcB rfl rfl rfl) | (show OpV _ _ _ _ (Oper.mk _ (Op.slice _ _ (some _) none none) _ _ _ _) _ _; first | exact xo_from rfl rfl | exact xo_slcFrom rfl rfl) | (show OpV _ _ _ _ (Oper.mk _ (Op.slice _ _ none (some _) none) _ _ _ _) _ _; first | exact xo_to rfl rfl | exact xo_slcTo rfl rfl) | (show OpV _ _ _ _ (Oper.mk _ (Op.slice _ _ none (some _) (some _)) _ _ _ _) _ _; exact xo_slc3 rfl rfl rfl) | (show OpV _ _ _ _ (Oper.mk _ (Op.fieldAddr _ _ _) _ _ _ _) _ _; exact xo_fieldAddr rfl) | (show OpV _ _ _ _ (Oper.mk _ (Op.load _ _) _ _ _ _) _ _; first | exact xo_load1 rfl | exact xo_loadS rfl) | (show OpV _ _ _ _ (Oper.mk _ (Op.build _ _) _ _ _ _) _ _; exact xo_build rfl)) ?_ | refine wl_v rfl rfl rfl (by first  | fail) ?_ | refine xl_alloc (fun _ => ?_) | refine xl_store rfl rfl ?_ | refine xl_buildSlice rfl (fun _ => ?_)) | refine wc_ret rfl ?_) | (show WC _ (Code.cond _ _ _) _ _ _ _; (refine wc_cond rfl (fun hc => ?_) (fun hc => ?_) <;> (try (simp only [decide_eq_true_eq, decide_eq_false_iff_not, Bool.and_eq_true, Bool.or_eq_true, Bool.and_eq_false_iff, Bool.or_eq_false_iff, Bool.not_eq_true', Bool.not_eq_false', Int.not_lt, Int.not_le] at hc)) <;> (try (exfalso; first | omega | contradiction)))))
      exact wr_layC2 (Hn := []) rfl rfl rfl rfl (by first | exact List.Mem.head _ | exact List.Mem.tail _ (List.Mem.head _) | exact List.Mem.tail _ (List.Mem.tail _ (List.Mem.head _)) | exact List.Mem.tail _ (List.Mem.tail _ (List.Mem.tail _ (List.Mem.head _))) | exact List.Mem.tail _ (List.Mem.tail _ (List.Mem.tail _ (List.Mem.tail _ (List.Mem.head _)))) | exact List.mem_append_right _ (List.Mem.head _) | exact List.mem_append_right _ (List.Mem.tail _ (List.Mem.head _)) | exact List.mem_append_right _ (List.Mem.tail _ (List.Mem.tail _ (List.Mem.head _))) | exact List.mem_append_right _ (List.Mem.tail _ (List.Mem.tail _ (List.Mem.tail _ (List.Mem.head _)))) | exact List.Mem.tail _ (List.mem_append_right _ (List.Mem.head _)) | exact List.Mem.tail _ (List.mem_append_right _ (List.Mem.tail _ (List.Mem.head _))) | exact List.Mem.tail _ (List.mem_append_right _ (List.Mem.tail _ (List.Mem.tail _ (List.Mem.head _)))) | exact List.Mem.tail _ (List.mem_append_right _ (List.Mem.tail _ (List.Mem.tail _ (List.Mem.tail _ (List.Mem.head _))))) | exact List.Mem.tail _ (List.Mem.tail _ (List.mem_append_right _ (List.Mem.head _))) | exact List.Mem.tail _ (List.Mem.tail _ (List.mem_append_right _ (List.Mem.tail _ (List.Mem.head _)))) | exact List.Mem.tail _ (List.Mem.tail _ (List.mem_append_right _ (List.Mem.tail _ (List.Mem.tail _ (List.Mem.head _)))))) rfl hM1 (List.nil_sublist _) ⟨rfl, relemIs_no hn⟩
    (simp only [decide_eq_true_eq, decide_eq_false_iff_not, Bool.and_eq_true, Bool.or_eq_true, Bool.and_eq_false_iff, Bool.or_eq_false_iff, Bool.not_eq_true', Bool.not_eq_false', Int.not_lt, Int.not_le] at hc)
    have hil : i < s.length := by omega
    have h62 : s.drop i = 62 :: s.drop (i + 1) := at_cons.2 ⟨hil, b62.1 hc.2, rfl⟩
    rw [h62] at hex
    clear hc h62
    have hto := fun {w : World} (hw : Laid M1 w) => rto_ok hw s (i + 1) 60 hs (by omega)
    have hjl := rs_length (isC 60) (s.drop (i + 1))
    rw [List.length_drop] at hjl
    have hat5 := rs_at (isC 60) s (i + 1)
    have htake := wd_take (isC 60) (s.drop (i + 1))
    have hslt : (s.drop (i + 1)).take (i + 1 + (wd (isC 60) (s.drop (i + 1))).length - (i + 1)) = wd (isC 60) (s.drop (i + 1)) := by rw [Nat.add_sub_cancel_left]; exact htake
    have hun := fun {w : World} (hw : Laid M1 w) => runescape_ok hw (wd (isC 60) (s.drop (i + 1))) (by omega)
    rw [← hslt] at hun
    have hjx : i + 1 + (wd (isC 60) (s.drop (i + 1))).length ≤ s.length := by omega
    have hij : i + 1 ≤ i + 1 + (wd (isC 60) (s.drop (i + 1))).length := by omega
    have hvl : (wd (isC 60) (s.drop (i + 1))).length ≤ s.length := by omega
    cases hu : unescQ (wd (isC 60) (s.drop (i + 1))) with
    | none =>
      have hn : elemP (D + 1) (s.drop i0) = none := by
        have : headP (s.drop i1) = none := by
          unfold headP; rw [hex]
          simp only [hu]
        rw [hel, this]
      have hun : ∀ {w : World}, Laid M1 w → Calls Tryd.prog 10 #[str ((s.drop (i + 1)).take (i + 1 + (wd (isC 60) (s.drop (i + 1))).length - (i + 1)))] w (RetE w (.tuple #[str [], i64 10])) := fun h => by have := hun h; rw [hslt, hu] at this; rw [hslt]; exact this
      clear hslt htake hat5 hu
      generalize wd (isC 60) (s.drop (i + 1)) = vv at *
      generalize i + 1 + vv.length = j at *
      repeat' (first | (first | refine wc_seq ?_ | refine wc_region ?_ | refine wl_nil ?_ | refine wn_seq ?_ | refine wn_blk ?_ | refine wc_skip ?_ | refine wc_block ?_ | refine wc_exit rfl ?_ | (show WL _ _ (_ :: _) _ _ _ _; first | refine wl_v rfl rfl rfl (by first | (show OpV _ _ _ _ (Oper.mk _ (Op.move _) _ _ _ _) _ _; exact xo_move rfl) | (show OpV _ _ _ _ (Oper.mk _ (Op.assign _) _ _ _ _) _ _; exact xo_assign rfl) | (show OpV _ _ _ _ (Oper.mk _ (Op.pick _ _ _) _ _ _ _) _ _; first | exact xo_and rfl rfl | exact xo_or rfl rfl) | (show OpV _ _ _ _ (Oper.mk _ (Op.extract _ _) _ _ _ _) _ _; exact xo_extract rfl) | (show OpV _ _ _ _ (Oper.mk _ (Op.call ⟨.builtin .len, _, _⟩) _ _ _ _) _ _; first | exact xo_slen rfl | exact xo_len rfl) | (show OpV _ _ _ _ (Oper.mk _ (Op.binOp BinOp.eql _ _ _ _) _ _ _ _) _ _; first | exact xo_eql rfl rfl | exact xo_seql rfl rfl | exact xo_beql rfl rfl | exact xo_aeql rfl rfl) | (show OpV _ _ _ _ (Oper.mk _ (Op.binOp BinOp.neq _ _ _ _) _ _ _ _) _ _; first | exact xo_neq rfl rfl | exact xo_sneq rfl rfl | exact xo_bneq rfl rfl | exact xo_aneq rfl rfl) | (show OpV _ _ _ _ (Oper.mk _ (Op.binOp BinOp.lss _ _ _ _) _ _ _ _) _ _; exact xo_lss rfl rfl) | (show OpV _ _ _ _ (Oper.mk _ (Op.binOp BinOp.gtr _ _ _ _) _ _ _ _) _ _; exact xo_gtr rfl rfl) | (show OpV _ _ _ _ (Oper.mk _ (Op.binOp BinOp.geq _ _ _ _) _ _ _ _) _ _; exact xo_geq rfl rfl) | (show OpV _ _ _ _ (Oper.mk _ (Op.binOp BinOp.add _ _ _ _) _ _ _ _) _ _; first | exact xo_add rfl rfl | exact ov_sadd rfl rfl (by first | with_reducible exact fun _ => rfl | with_reducible exact fun h => h | exact fun _ => rfl | exact fun h => h | (intro himp; simp_all; done)) (by first | with_reducible exact fun _ => rfl | with_reducible exact fun h => h | exact fun _ => rfl | exact fun h => h | (intro himp; simp_all; done)) (by intro hcg; first | omega | (simp only [List.length_append, List.length_take, List.length_drop, List.length_cons, List.length_nil, List.length_nil]; omega))) | (show OpV _ _ _ _ (Oper.mk _ (Op.index _ _ _) _ _ _ _) _ _; exact xo_sindex rfl rfl) | (show OpV _ _ _ _ (Oper.mk _ (Op.slice _ _ (some _) (some _) none) _ _ _ _) _ _; first | exact xo_slice rfl rfl rfl | exact xo_slcB rfl rfl rfl) | (show OpV _ _ _ _ (Oper.mk _ (Op.slice _ _ (some _) none none) _ _ _ _) _ _; first | exact xo_from rfl rfl | exact xo_slcFrom rfl rfl) | (show OpV _ _ _ _ (Oper.mk _ (Op.slice _ _ none (some _) none) _ _ _ _) _ _; first | exact xo_to rfl rfl | exact xo_slcTo rfl rfl) | (show OpV _ _ _ _ (Oper.mk _ (Op.slice _ _ none (some _) (some _)) _ _ _ _) _ _; exact xo_slc3 rfl rfl rfl) | (show OpV _ _ _ _ (Oper.mk _ (Op.fieldAddr _ _ _) _ _ _ _) _ _; exact xo_fieldAddr rfl) | (show OpV _ _ _ _ (Oper.mk _ (Op.load _ _) _ _ _ _) _ _; first | exact xo_load1 rfl | exact xo_loadS rfl) | (show OpV _ _ _ _ (Oper.mk _ (Op.build _ _) _ _ _ _) _ _; exact xo_build rfl)) ?_ | refine wl_v rfl rfl rfl (by first | ((show OpV _ _ _ _ (Oper.mk _ (Op.call ⟨.value (.func 44), _, _⟩) _ _ _ _) _ _; exact ov_call Tryd.call44 rfl (by intro himp; first | rfl | (simp_all; done)) (by rfl) (fun _ _ h k => h.ext k) (fun hcg w hw => hto hw.laid))) | ((show OpV _ _ _ _ (Oper.mk _ (Op.call ⟨.value (.func 10), _, _⟩) _ _ _ _) _ _; exact ov_call Tryd.call10 rfl (by intro himp; first | rfl | (simp_all; done)) (by rfl) (fun _ _ h k => h.ext k) (fun hcg w hw => hun hw.laid))) | fail) ?_ | refine xl_alloc (fun _ => ?_) | refine xl_store rfl rfl ?_ | refine xl_buildSlice rfl (fun _ => ?_)) | refine wc_ret rfl ?_) | (show WC _ (Code.cond _ _ _) _ _ _ _; (refine wc_cond rfl (fun hc => ?_) (fun hc => ?_) <;> (try (simp only [decide_eq_true_eq, decide_eq_false_iff_not, Bool.and_eq_true, Bool.or_eq_true, Bool.and_eq_false_iff, Bool.or_eq_false_iff, Bool.not_eq_true', Bool.not_eq_false', Int.not_lt, Int.not_le] at hc)) <;> (try (exfalso; first | omega | contradiction)))))
      exact wr_layC2 (Hn := []) rfl rfl rfl rfl (by first | exact List.Mem.head _ | exact List.Mem.tail _ (List.Mem.head _) | exact List.Mem.tail _ (List.Mem.tail _ (List.Mem.head _)) | exact List.Mem.tail _ (List.Mem.tail _ (List.Mem.tail _ (List.Mem.head _))) | exact List.Mem.tail _ (List.Mem.tail _ (List.Mem.tail _ (List.Mem.tail _ (List.Mem.head _)))) | exact List.mem_append_right _ (List.Mem.head _) | exact List.mem_append_right _ (List.Mem.tail _ (List.Mem.head _)) | exact List.mem_append_right _ (List.Mem.tail _ (List.Mem.tail _ (List.Mem.head _))) | exact List.mem_append_right _ (List.Mem.tail _ (List.Mem.tail _ (List.Mem.tail _ (List.Mem.head _)))) | exact List.Mem.tail _ (List.mem_append_right _ (List.Mem.head _)) | exact List.Mem.tail _ (List.mem_append_right _ (List.Mem.tail _ (List.Mem.head _))) | exact List.Mem.tail _ (List.mem_append_right _ (List.Mem.tail _ (List.Mem.tail _ (List.Mem.head _)))) | exact List.Mem.tail _ (List.mem_append_right _ (List.Mem.tail _ (List.Mem.tail _ (List.Mem.tail _ (List.Mem.head _))))) | exact List.Mem.tail _ (List.Mem.tail _ (List.mem_append_right _ (List.Mem.head _))) | exact List.Mem.tail _ (List.Mem.tail _ (List.mem_append_right _ (List.Mem.tail _ (List.Mem.head _)))) | exact List.Mem.tail _ (List.Mem.tail _ (List.mem_append_right _ (List.Mem.tail _ (List.Mem.tail _ (List.Mem.head _)))))) rfl hM1 (List.nil_sublist _) ⟨rfl, relemIs_no hn⟩
    | some tx =>
      have htx := unescQ_len hu
      have hun : ∀ {w : World}, Laid M1 w → Calls Tryd.prog 10 #[str ((s.drop (i + 1)).take (i + 1 + (wd (isC 60) (s.drop (i + 1))).length - (i + 1)))] w (RetE w (.tuple #[str tx, i64 0])) := fun h => by have := hun h; rw [hslt, hu] at this; rw [hslt]; exact this
      have hhd : headP (s.drop i1) = some (acc, tx, rs (isC 60) (s.drop (i + 1))) := by
        unfold headP; rw [hex]
        simp only [hu]
      rw [hhd, ← hat5] at hel
      simp only at hel
      clear hslt htake hat5 hu hhd hex
      generalize wd (isC 60) (s.drop (i + 1)) = vv at *
      generalize i + 1 + vv.length = j at *
      repeat' (first | (first | refine wc_seq ?_ | refine wc_region ?_ | refine wl_nil ?_ | refine wn_seq ?_ | refine wn_blk ?_ | refine wc_skip ?_ | refine wc_block ?_ | refine wc_exit rfl ?_ | (show WL _ _ (_ :: _) _ _ _ _; first | refine wl_v rfl rfl rfl (by first | (show OpV _ _ _ _ (Oper.mk _ (Op.move _) _ _ _ _) _ _; exact xo_move rfl) | (show OpV _ _ _ _ (Oper.mk _ (Op.assign _) _ _ _ _) _ _; exact xo_assign rfl) | (show OpV _ _ _ _ (Oper.mk _ (Op.pick _ _ _) _ _ _ _) _ _; first | exact xo_and rfl rfl | exact xo_or rfl rfl) | (show OpV _ _ _ _ (Oper.mk _ (Op.extract _ _) _ _ _ _) _ _; exact xo_extract rfl) | (show OpV _ _ _ _ (Oper.mk _ (Op.call ⟨.builtin .len, _, _⟩) _ _ _ _) _ _; first | exact xo_slen rfl | exact xo_len rfl) | (show OpV _ _ _ _ (Oper.mk _ (Op.binOp BinOp.eql _ _ _ _) _ _ _ _) _ _; first | exact xo_eql rfl rfl | exact xo_seql rfl rfl | exact xo_beql rfl rfl | exact xo_aeql rfl rfl) | (show OpV _ _ _ _ (Oper.mk _ (Op.binOp BinOp.neq _ _ _ _) _ _ _ _) _ _; first | exact xo_neq rfl rfl | exact xo_sneq rfl rfl | exact xo_bneq rfl rfl | exact xo_aneq rfl rfl) | (show OpV _ _ _ _ (Oper.mk _ (Op.binOp BinOp.lss _ _ _ _) _ _ _ _) _ _; exact xo_lss rfl rfl) | (show OpV _ _ _ _ (Oper.mk _ (Op.binOp BinOp.gtr _ _ _ _) _ _ _ _) _ _; exact xo_gtr rfl rfl) | (show OpV _ _ _ _ (Oper.mk _ (Op.binOp BinOp.geq _ _ _ _) _ _ _ _) _ _; exact xo_geq rfl rfl) | (show OpV _ _ _ _ (Oper.mk _ (Op.binOp BinOp.add _ _ _ _) _ _ _ _) _ _; first | exact xo_add rfl rfl | exact ov_sadd rfl rfl (by first | with_reducible exact fun _ => rfl | with_reducible exact fun h => h | exact fun _ => rfl | exact fun h => h | (intro himp; simp_all; done)) (by first | with_reducible exact fun _ => rfl | with_reducible exact fun h => h | exact fun _ => rfl | exact fun h => h | (intro himp; simp_all; done)) (by intro hcg; first | omega | (simp only [List.length_append, List.length_take, List.length_drop, List.length_cons, List.length_nil, List.length_nil]; omega))) | (show OpV _ _ _ _ (Oper.mk _ (Op.index _ _ _) _ _ _ _) _ _; exact xo_sindex rfl rfl) | (show OpV _ _ _ _ (Oper.mk _ (Op.slice _ _ (some _) (some _) none) _ _ _ _) _ _; first | exact xo_slice rfl rfl rfl | exact xo_slcB rfl rfl rfl) | (show OpV _ _ _ _ (Oper.mk _ (Op.slice _ _ (some _) none none) _ _ _ _) _ _; first | exact xo_from rfl rfl | exact xo_slcFrom rfl rfl) | (show OpV _ _ _ _ (Oper.mk _ (Op.slice _ _ none (some _) none) _ _ _ _) _ _; first | exact xo_to rfl rfl | exact xo_slcTo rfl rfl) | (show OpV _ _ _ _ (Oper.mk _ (Op.slice _ _ none (some _) (some _)) _ _ _ _) _ _; exact xo_slc3 rfl rfl rfl) | (show OpV _ _ _ _ (Oper.mk _ (Op.fieldAddr _ _ _) _ _ _ _) _ _; exact xo_fieldAddr rfl) | (show OpV _ _ _ _ (Oper.mk _ (Op.load _ _) _ _ _ _) _ _; first | exact xo_load1 rfl | exact xo_loadS rfl) | (show OpV _ _ _ _ (Oper.mk _ (Op.build _ _) _ _ _ _) _ _; exact xo_build rfl)) ?_ | refine wl_v rfl rfl rfl (by first | ((show OpV _ _ _ _ (Oper.mk _ (Op.call ⟨.value (.func 44), _, _⟩) _ _ _ _) _ _; exact ov_call Tryd.call44 rfl (by intro himp; first | rfl | (simp_all; done)) (by rfl) (fun _ _ h k => h.ext k) (fun hcg w hw => hto hw.laid))) | ((show OpV _ _ _ _ (Oper.mk _ (Op.call ⟨.value (.func 10), _, _⟩) _ _ _ _) _ _; exact ov_call Tryd.call10 rfl (by intro himp; first | rfl | (simp_all; done)) (by rfl) (fun _ _ h k => h.ext k) (fun hcg w hw => hun hw.laid))) | fail) ?_ | refine xl_alloc (fun _ => ?_) | refine xl_store rfl rfl ?_ | refine xl_buildSlice rfl (fun _ => ?_)) | refine wc_ret rfl ?_) | (show WC _ (Code.cond _ _ _) _ _ _ _; (refine wc_cond rfl (fun hc => ?_) (fun hc => ?_) <;> (try (simp only [decide_eq_true_eq, decide_eq_false_iff_not, Bool.and_eq_true, Bool.or_eq_true, Bool.and_eq_false_iff, Bool.or_eq_false_iff, Bool.not_eq_true', Bool.not_eq_false', Int.not_lt, Int.not_le] at hc)) <;> (try (exfalso; first | omega | contradiction)))))
      refine wc_loop (α := RK D M1 s (s.drop j) w) (fun x => [(0, true, str s), (1, true, i64 (x.i : Int)), (2, true, i64 deep), (6, true, .pointer (some ⟨b6, 0, none⟩)), (8, true, .pointer (some ⟨b8, 0, none⟩))]) (fun x => St w [] ((b8, .cells [str nm, .slice va acc.length vcap, str tx, x.v].toArray 31 (0, 0)) :: (b6, .cells [str [], .slice none 0 0, str [], .slice none 0 0].toArray 31 (0, 0)) :: x.Hs) x.M') (fun x => x.f) ⟨s.length - j + 1, j, [], .slice none 0 0, [], [], M1, hjx, by omega, by simp, by rw [List.length_drop]; simp, OwnS.nil, rfl, fun q hq => absurd hq (by simp), Since.refl⟩ (by first | exact Sub.nil _ | (repeat (first | exact Sub.nil _ | refine Sub.cons (by first | rfl | (simp [look]; done)) ?_))) (fun _ h => h) ?_
      rintro ⟨f, i2, kacc, v, Hk, xs, M2, le2, fuel, len2, inv, own, xlen, nodes, since⟩
      dsimp only
      obtain ⟨va2, vcap2, rfl⟩ := own.slice (k := kacc.length) (by decide) xlen
      have hM2 : Since w M M2 := hM1.step since.1 since.2
      match f, fuel, inv with
      | 0, fuel, _ => exfalso; omega
      | f + 1, fuel, inv =>
      repeat' (first | refine wc_seq ?_ | refine wc_region ?_ | refine wl_nil ?_ | refine wn_seq ?_ | refine wn_blk ?_ | refine wc_skip ?_ | refine wc_block ?_ | refine wc_exit rfl ?_ | (show WL _ _ (_ :: _) _ _ _ _; first | refine wl_v rfl rfl rfl (by first | (show OpV _ _ _ _ (Oper.mk _ (Op.move _) _ _ _ _) _ _; exact xo_move rfl) | (show OpV _ _ _ _ (Oper.mk _ (Op.assign _) _ _ _ _) _ _; exact xo_assign rfl) | (show OpV _ _ _ _ (Oper.mk _ (Op.pick _ _ _) _ _ _ _) _ _; first | exact xo_and rfl rfl | exact xo_or rfl rfl) | (show OpV _ _ _ _ (Oper.mk _ (Op.extract _ _) _ _ _ _) _ _; exact xo_extract rfl) | (show OpV _ _ _ _ (Oper.mk _ (Op.call ⟨.builtin .len, _, _⟩) _ _ _ _) _ _; first | exact xo_slen rfl | exact xo_len rfl) | (show OpV _ _ _ _ (Oper.mk _ (Op.binOp BinOp.eql _ _ _ _) _ _ _ _) _ _; first | exact xo_eql rfl rfl | exact xo_seql rfl rfl | exact xo_beql rfl rfl | exact xo_aeql rfl rfl) | (show OpV _ _ _ _ (Oper.mk _ (Op.binOp BinOp.neq _ _ _ _) _ _ _ _) _ _; first | exact xo_neq rfl rfl | exact xo_sneq rfl rfl | exact xo_bneq rfl rfl | exact xo_aneq rfl rfl) | (show OpV _ _ _ _ (Oper.mk _ (Op.binOp BinOp.lss _ _ _ _) _ _ _ _) _ _; exact xo_lss rfl rfl) | (show OpV _ _ _ _ (Oper.mk _ (Op.binOp BinOp.gtr _ _ _ _) _ _ _ _) _ _; exact xo_gtr rfl rfl) | (show OpV _ _ _ _ (Oper.mk _ (Op.binOp BinOp.geq _ _ _ _) _ _ _ _) _ _; exact xo_geq rfl rfl) | (show OpV _ _ _ _ (Oper.mk _ (Op.binOp BinOp.add _ _ _ _) _ _ _ _) _ _; first | exact xo_add rfl rfl | exact ov_sadd rfl rfl (by first | with_reducible exact fun _ => rfl | with_reducible exact fun h => h | exact fun _ => rfl | exact fun h => h | (intro himp; simp_all; done)) (by first | with_reducible exact fun _ => rfl | with_reducible exact fun h => h | exact fun _ => rfl | exact fun h => h | (intro himp; simp_all; done)) (by intro hcg; first | omega | (simp only [List.length_append, List.length_take, List.length_drop, List.length_cons, List.length_nil, List.length_nil]; omega))) | (show OpV _ _ _ _ (Oper.mk _ (Op.index _ _ _) _ _ _ _) _ _; exact xo_sindex rfl rfl) | (show OpV _ _ _ _ (Oper.mk _ (Op.slice _ _ (some _) (some _) none) _ _ _ _) _ _; first | exact xo_slice rfl rfl rfl | exact xo_slcB rfl rfl rfl) | (show OpV _ _ _ _ (Oper.mk _ (Op.slice _ _ (some _) none none) _ _ _ _) _ _; first | exact xo_from rfl rfl | exact xo_slcFrom rfl rfl) | (show OpV _ _ _ _ (Oper.mk _ (Op.slice _ _ none (some _) none) _ _ _ _) _ _; first | exact xo_to rfl rfl | exact xo_slcTo rfl rfl) | (show OpV _ _ _ _ (Oper.mk _ (Op.slice _ _ none (some _) (some _)) _ _ _ _) _ _; exact xo_slc3 rfl rfl rfl) | (show OpV _ _ _ _ (Oper.mk _ (Op.fieldAddr _ _ _) _ _ _ _) _ _; exact xo_fieldAddr rfl) | (show OpV _ _ _ _ (Oper.mk _ (Op.load _ _) _ _ _ _) _ _; first | exact xo_load1 rfl | exact xo_loadS rfl) | (show OpV _ _ _ _ (Oper.mk _ (Op.build _ _) _ _ _ _) _ _; exact xo_build rfl)) ?_ | refine wl_v rfl rfl rfl (by first  | fail) ?_ | refine xl_alloc (fun _ => ?_) | refine xl_store rfl rfl ?_ | refine xl_buildSlice rfl (fun _ => ?_)) | refine wc_ret rfl ?_)
      refine wc_cond rfl (fun hc => ?_) (fun hc => ?_)
      · (simp only [decide_eq_true_eq, decide_eq_false_iff_not, Bool.and_eq_true, Bool.or_eq_true, Bool.and_eq_false_iff, Bool.or_eq_false_iff, Bool.not_eq_true', Bool.not_eq_false', Int.not_lt, Int.not_le] at hc)
        have hpf : [60, 47].isPrefixOf (s.drop i2) = false := by
          rw [Bool.eq_false_iff]
          intro h
          obtain ⟨t, ht⟩ := List.isPrefixOf_iff_prefix.1 h
          obtain ⟨g1, g2, g3⟩ := at_cons.1 ht.symm
          obtain ⟨g4, g5, g6⟩ := at_cons.1 g3
          exact hc.2 (b47.2 g5)
        have hks : kidsP (elemP D) (f + 1) (s.drop i2) = match elemP D (s.drop i2) with
          | none => none
          | some (x, r) => (kidsP (elemP D) f r).map fun y => (x :: y.1, y.2) := by
          rw [kidsP, if_neg (by rw [hpf]; decide)]
          cases elemP D (s.drop i2) <;> rfl
        repeat' (first | refine wc_seq ?_ | refine wc_region ?_ | refine wl_nil ?_ | refine wn_seq ?_ | refine wn_blk ?_ | refine wc_skip ?_ | refine wc_block ?_ | refine wc_exit rfl ?_ | (show WL _ _ (_ :: _) _ _ _ _; first | refine wl_v rfl rfl rfl (by first | (show OpV _ _ _ _ (Oper.mk _ (Op.move _) _ _ _ _) _ _; exact xo_move rfl) | (show OpV _ _ _ _ (Oper.mk _ (Op.assign _) _ _ _ _) _ _; exact xo_assign rfl) | (show OpV _ _ _ _ (Oper.mk _ (Op.pick _ _ _) _ _ _ _) _ _; first | exact xo_and rfl rfl | exact xo_or rfl rfl) | (show OpV _ _ _ _ (Oper.mk _ (Op.extract _ _) _ _ _ _) _ _; exact xo_extract rfl) | (show OpV _ _ _ _ (Oper.mk _ (Op.call ⟨.builtin .len, _, _⟩) _ _ _ _) _ _; first | exact xo_slen rfl | exact xo_len rfl) | (show OpV _ _ _ _ (Oper.mk _ (Op.binOp BinOp.eql _ _ _ _) _ _ _ _) _ _; first | exact xo_eql rfl rfl | exact xo_seql rfl rfl | exact xo_beql rfl rfl | exact xo_aeql rfl rfl) | (show OpV _ _ _ _ (Oper.mk _ (Op.binOp BinOp.neq _ _ _ _) _ _ _ _) _ _; first | exact xo_neq rfl rfl | exact xo_sneq rfl rfl | exact xo_bneq rfl rfl | exact xo_aneq rfl rfl) | (show OpV _ _ _ _ (Oper.mk _ (Op.binOp BinOp.lss _ _ _ _) _ _ _ _) _ _; exact xo_lss rfl rfl) | (show OpV _ _ _ _ (Oper.mk _ (Op.binOp BinOp.gtr _ _ _ _) _ _ _ _) _ _; exact xo_gtr rfl rfl) | (show OpV _ _ _ _ (Oper.mk _ (Op.binOp BinOp.geq _ _ _ _) _ _ _ _) _ _; exact xo_geq rfl rfl) | (show OpV _ _ _ _ (Oper.mk _ (Op.binOp BinOp.add _ _ _ _) _ _ _ _) _ _; first | exact xo_add rfl rfl | exact ov_sadd rfl rfl (by first | with_reducible exact fun _ => rfl | with_reducible exact fun h => h | exact fun _ => rfl | exact fun h => h | (intro himp; simp_all; done)) (by first | with_reducible exact fun _ => rfl | with_reducible exact fun h => h | exact fun _ => rfl | exact fun h => h | (intro himp; simp_all; done)) (by intro hcg; first | omega | (simp only [List.length_append, List.length_take, List.length_drop, List.length_cons, List.length_nil, List.length_nil]; omega))) | (show OpV _ _ _ _ (Oper.mk _ (Op.index _ _ _) _ _ _ _) _ _; exact xo_sindex rfl rfl) | (show OpV _ _ _ _ (Oper.mk _ (Op.slice _ _ (some _) (some _) none) _ _ _ _) _ _; first | exact xo_slice rfl rfl rfl | exact xo_slcB rfl rfl rfl) | (show OpV _ _ _ _ (Oper.mk _ (Op.slice _ _ (some _) none none) _ _ _ _) _ _; first | exact xo_from rfl rfl | exact xo_slcFrom rfl rfl) | (show OpV _ _ _ _ (Oper.mk _ (Op.slice _ _ none (some _) none) _ _ _ _) _ _; first | exact xo_to rfl rfl | exact xo_slcTo rfl rfl) | (show OpV _ _ _ _ (Oper.mk _ (Op.slice _ _ none (some _) (some _)) _ _ _ _) _ _; exact xo_slc3 rfl rfl rfl) | (show OpV _ _ _ _ (Oper.mk _ (Op.fieldAddr _ _ _) _ _ _ _) _ _; exact xo_fieldAddr rfl) | (show OpV _ _ _ _ (Oper.mk _ (Op.load _ _) _ _ _ _) _ _; first | exact xo_load1 rfl | exact xo_loadS rfl) | (show OpV _ _ _ _ (Oper.mk _ (Op.build _ _) _ _ _ _) _ _; exact xo_build rfl)) ?_ | refine wl_v rfl rfl rfl (by first  | fail) ?_ | refine xl_alloc (fun _ => ?_) | refine xl_store rfl rfl ?_ | refine xl_buildSlice rfl (fun _ => ?_)) | refine wc_ret rfl ?_)
        refine wl_callS rfl Tryd.call30 rfl rfl rfl rfl (fun w hw => refelem_ok D (deep + 1) (by omega) (by omega) M2 s i2 w hw.laid hs le2) ?_
        rintro v3 H3 M3 hm3 hn3 ⟨rfl, hR⟩
        have hM3 : Since w M M3 := hM2.step hm3 hn3
        unfold RelemIs at hR
        cases hx : elemP D (s.drop i2) with
        | none =>
          rw [hx] at hR
          simp only at hR
          obtain ⟨n', a1, l1, c1, t', a2, l2, c2, rfl⟩ := hR
          have hn : elemP (D + 1) (s.drop i0) = none := by rw [hel, inv, hks, hx]; rfl
          repeat' (first | (first | refine wc_seq ?_ | refine wc_region ?_ | refine wl_nil ?_ | refine wn_seq ?_ | refine wn_blk ?_ | refine wc_skip ?_ | refine wc_block ?_ | refine wc_exit rfl ?_ | (show WL _ _ (_ :: _) _ _ _ _; first | refine wl_v rfl rfl rfl (by first | (show OpV _ _ _ _ (Oper.mk _ (Op.move _) _ _ _ _) _ _; exact xo_move rfl) | (show OpV _ _ _ _ (Oper.mk _ (Op.assign _) _ _ _ _) _ _; exact xo_assign rfl) | (show OpV _ _ _ _ (Oper.mk _ (Op.pick _ _ _) _ _ _ _) _ _; first | exact xo_and rfl rfl | exact xo_or rfl rfl) | (show OpV _ _ _ _ (Oper.mk _ (Op.extract _ _) _ _ _ _) _ _; exact xo_extract rfl) | (show OpV _ _ _ _ (Oper.mk _ (Op.call ⟨.builtin .len, _, _⟩) _ _ _ _) _ _; first | exact xo_slen rfl | exact xo_len rfl) | (show OpV _ _ _ _ (Oper.mk _ (Op.binOp BinOp.eql _ _ _ _) _ _ _ _) _ _; first | exact xo_eql rfl rfl | exact xo_seql rfl rfl | exact xo_beql rfl rfl | exact xo_aeql rfl rfl) | (show OpV _ _ _ _ (Oper.mk _ (Op.binOp BinOp.neq _ _ _ _) _ _ _ _) _ _; first | exact xo_neq rfl rfl | exact xo_sneq rfl rfl | exact xo_bneq rfl rfl | exact xo_aneq rfl rfl) | (show OpV _ _ _ _ (Oper.mk _ (Op.binOp BinOp.lss _ _ _ _) _ _ _ _) _ _; exact xo_lss rfl rfl) | (show OpV _ _ _ _ (Oper.mk _ (Op.binOp BinOp.gtr _ _ _ _) _ _ _ _) _ _; exact xo_gtr rfl rfl) | (show OpV _ _ _ _ (Oper.mk _ (Op.binOp BinOp.geq _ _ _ _) _ _ _ _) _ _; exact xo_geq rfl rfl) | (show OpV _ _ _ _ (Oper.mk _ (Op.binOp BinOp.add _ _ _ _) _ _ _ _) _ _; first | exact xo_add rfl rfl | exact ov_sadd rfl rfl (by first | with_reducible exact fun _ => rfl | with_reducible exact fun h => h | exact fun _ => rfl | exact fun h => h | (intro himp; simp_all; done)) (by first | with_reducible exact fun _ => rfl | with_reducible exact fun h => h | exact fun _ => rfl | exact fun h => h | (intro himp; simp_all; done)) (by intro hcg; first | omega | (simp only [List.length_append, List.length_take, List.length_drop, List.length_cons, List.length_nil, List.length_nil]; omega))) | (show OpV _ _ _ _ (Oper.mk _ (Op.index _ _ _) _ _ _ _) _ _; exact xo_sindex rfl rfl) | (show OpV _ _ _ _ (Oper.mk _ (Op.slice _ _ (some _) (some _) none) _ _ _ _) _ _; first | exact xo_slice rfl rfl rfl | exact xo_slcB rfl rfl rfl) | (show OpV _ _ _ _ (Oper.mk _ (Op.slice _ _ (some _) none none) _ _ _ _) _ _; first | exact xo_from rfl rfl | exact xo_slcFrom rfl rfl) | (show OpV _ _ _ _ (Oper.mk _ (Op.slice _ _ none (some _) none) _ _ _ _) _ _; first | exact xo_to rfl rfl | exact xo_slcTo rfl rfl) | (show OpV _ _ _ _ (Oper.mk _ (Op.slice _ _ none (some _) (some _)) _ _ _ _) _ _; exact xo_slc3 rfl rfl rfl) | (show OpV _ _ _ _ (Oper.mk _ (Op.fieldAddr _ _ _) _ _ _ _) _ _; exact xo_fieldAddr rfl) | (show OpV _ _ _ _ (Oper.mk _ (Op.load _ _) _ _ _ _) _ _; first | exact xo_load1 rfl | exact xo_loadS rfl) | (show OpV _ _ _ _ (Oper.mk _ (Op.build _ _) _ _ _ _) _ _; exact xo_build rfl)) ?_ | refine wl_v rfl rfl rfl (by first  | fail) ?_ | refine xl_alloc (fun _ => ?_) | refine xl_store rfl rfl ?_ | refine xl_buildSlice rfl (fun _ => ?_)) | refine wc_ret rfl ?_) | (show WC _ (Code.cond _ _ _) _ _ _ _; (refine wc_cond rfl (fun hc => ?_) (fun hc => ?_) <;> (try (simp only [decide_eq_true_eq, decide_eq_false_iff_not, Bool.and_eq_true, Bool.or_eq_true, Bool.and_eq_false_iff, Bool.or_eq_false_iff, Bool.not_eq_true', Bool.not_eq_false', Int.not_lt, Int.not_le] at hc)) <;> (try (exfalso; first | omega | contradiction)))))
          exact wr_layC2 (Hn := []) rfl rfl rfl rfl (by first | exact List.Mem.head _ | exact List.Mem.tail _ (List.Mem.head _) | exact List.Mem.tail _ (List.Mem.tail _ (List.Mem.head _)) | exact List.Mem.tail _ (List.Mem.tail _ (List.Mem.tail _ (List.Mem.head _))) | exact List.Mem.tail _ (List.Mem.tail _ (List.Mem.tail _ (List.Mem.tail _ (List.Mem.head _)))) | exact List.mem_append_right _ (List.Mem.head _) | exact List.mem_append_right _ (List.Mem.tail _ (List.Mem.head _)) | exact List.mem_append_right _ (List.Mem.tail _ (List.Mem.tail _ (List.Mem.head _))) | exact List.mem_append_right _ (List.Mem.tail _ (List.Mem.tail _ (List.Mem.tail _ (List.Mem.head _)))) | exact List.Mem.tail _ (List.mem_append_right _ (List.Mem.head _)) | exact List.Mem.tail _ (List.mem_append_right _ (List.Mem.tail _ (List.Mem.head _))) | exact List.Mem.tail _ (List.mem_append_right _ (List.Mem.tail _ (List.Mem.tail _ (List.Mem.head _)))) | exact List.Mem.tail _ (List.mem_append_right _ (List.Mem.tail _ (List.Mem.tail _ (List.Mem.tail _ (List.Mem.head _))))) | exact List.Mem.tail _ (List.Mem.tail _ (List.mem_append_right _ (List.Mem.head _))) | exact List.Mem.tail _ (List.Mem.tail _ (List.mem_append_right _ (List.Mem.tail _ (List.Mem.head _)))) | exact List.Mem.tail _ (List.Mem.tail _ (List.mem_append_right _ (List.Mem.tail _ (List.Mem.tail _ (List.Mem.head _)))))) rfl hM3 (List.nil_sublist _) ⟨rfl, relemIs_no hn⟩
        | some p =>
          obtain ⟨x, r⟩ := p
          rw [hx] at hR
          simp only at hR
          obtain ⟨vs, n, rfl, hnode, hnl, rfl⟩ := hR
          obtain ⟨un, ua1, ul1, uc1, ut, ua2, ul2, uc2, rfl⟩ := node_open hnode
          have hdl := elemP_len hx
          rw [List.length_drop, List.length_drop] at hdl
          rw [hx] at hks
          simp only at hks
          repeat' (first | (first | refine wc_seq ?_ | refine wc_region ?_ | refine wl_nil ?_ | refine wn_seq ?_ | refine wn_blk ?_ | refine wc_skip ?_ | refine wc_block ?_ | refine wc_exit rfl ?_ | (show WL _ _ (_ :: _) _ _ _ _; first | refine wl_v rfl rfl rfl (by first | (show OpV _ _ _ _ (Oper.mk _ (Op.move _) _ _ _ _) _ _; exact xo_move rfl) | (show OpV _ _ _ _ (Oper.mk _ (Op.assign _) _ _ _ _) _ _; exact xo_assign rfl) | (show OpV _ _ _ _ (Oper.mk _ (Op.pick _ _ _) _ _ _ _) _ _; first | exact xo_and rfl rfl | exact xo_or rfl rfl) | (show OpV _ _ _ _ (Oper.mk _ (Op.extract _ _) _ _ _ _) _ _; exact xo_extract rfl) | (show OpV _ _ _ _ (Oper.mk _ (Op.call ⟨.builtin .len, _, _⟩) _ _ _ _) _ _; first | exact xo_slen rfl | exact xo_len rfl) | (show OpV _ _ _ _ (Oper.mk _ (Op.binOp BinOp.eql _ _ _ _) _ _ _ _) _ _; first | exact xo_eql rfl rfl | exact xo_seql rfl rfl | exact xo_beql rfl rfl | exact xo_aeql rfl rfl) | (show OpV _ _ _ _ (Oper.mk _ (Op.binOp BinOp.neq _ _ _ _) _ _ _ _) _ _; first | exact xo_neq rfl rfl | exact xo_sneq rfl rfl | exact xo_bneq rfl rfl | exact xo_aneq rfl rfl) | (show OpV _ _ _ _ (Oper.mk _ (Op.binOp BinOp.lss _ _ _ _) _ _ _ _) _ _; exact xo_lss rfl rfl) | (show OpV _ _ _ _ (Oper.mk _ (Op.binOp BinOp.gtr _ _ _ _) _ _ _ _) _ _; exact xo_gtr rfl rfl) | (show OpV _ _ _ _ (Oper.mk _ (Op.binOp BinOp.geq _ _ _ _) _ _ _ _) _ _; exact xo_geq rfl rfl) | (show OpV _ _ _ _ (Oper.mk _ (Op.binOp BinOp.add _ _ _ _) _ _ _ _) _ _; first | exact xo_add rfl rfl | exact ov_sadd rfl rfl (by first | with_reducible exact fun _ => rfl | with_reducible exact fun h => h | exact fun _ => rfl | exact fun h => h | (intro himp; simp_all; done)) (by first | with_reducible exact fun _ => rfl | with_reducible exact fun h => h | exact fun _ => rfl | exact fun h => h | (intro himp; simp_all; done)) (by intro hcg; first | omega | (simp only [List.length_append, List.length_take, List.length_drop, List.length_cons, List.length_nil, List.length_nil]; omega))) | (show OpV _ _ _ _ (Oper.mk _ (Op.index _ _ _) _ _ _ _) _ _; exact xo_sindex rfl rfl) | (show OpV _ _ _ _ (Oper.mk _ (Op.slice _ _ (some _) (some _) none) _ _ _ _) _ _; first | exact xo_slice rfl rfl rfl | exact xo_slcB rfl rfl rfl) | (show OpV _ _ _ _ (Oper.mk _ (Op.slice _ _ (some _) none none) _ _ _ _) _ _; first | exact xo_from rfl rfl | exact xo_slcFrom rfl rfl) | (show OpV _ _ _ _ (Oper.mk _ (Op.slice _ _ none (some _) none) _ _ _ _) _ _; first | exact xo_to rfl rfl | exact xo_slcTo rfl rfl) | (show OpV _ _ _ _ (Oper.mk _ (Op.slice _ _ none (some _) (some _)) _ _ _ _) _ _; exact xo_slc3 rfl rfl rfl) | (show OpV _ _ _ _ (Oper.mk _ (Op.fieldAddr _ _ _) _ _ _ _) _ _; exact xo_fieldAddr rfl) | (show OpV _ _ _ _ (Oper.mk _ (Op.load _ _) _ _ _ _) _ _; first | exact xo_load1 rfl | exact xo_loadS rfl) | (show OpV _ _ _ _ (Oper.mk _ (Op.build _ _) _ _ _ _) _ _; exact xo_build rfl)) ?_ | refine wl_v rfl rfl rfl (by first  | fail) ?_ | refine xl_alloc (fun _ => ?_) | refine xl_store rfl rfl ?_ | refine xl_buildSlice rfl (fun _ => ?_)) | refine wc_ret rfl ?_) | (show WC _ (Code.cond _ _ _) _ _ _ _; (refine wc_cond rfl (fun hc => ?_) (fun hc => ?_) <;> (try (simp only [decide_eq_true_eq, decide_eq_false_iff_not, Bool.and_eq_true, Bool.or_eq_true, Bool.and_eq_false_iff, Bool.or_eq_false_iff, Bool.not_eq_true', Bool.not_eq_false', Int.not_lt, Int.not_le] at hc)) <;> (try (exfalso; first | omega | contradiction)))))
          rename_i b16 b185
          refine wl_weak (C' := St w [] ((b185, .cells [str un, .slice ua1 ul1 uc1, str ut, .slice ua2 ul2 uc2].toArray 31 (0, 0)) :: (Hk ++ [(b16, .cells [str un, .slice ua1 ul1 uc1, str ut, .slice ua2 ul2 uc2].toArray 31 (0, 0)), (b8, .cells [str nm, .slice va acc.length vcap, str tx, .slice va2 kacc.length vcap2].toArray 31 (0, 0)), (b6, .cells [str [], .slice none 0 0, str [], .slice none 0 0].toArray 31 (0, 0))])) M3) (Eng.Sub.refl _) (fun w' h => h.perm (List.Perm.cons _ (List.perm_append_comm (l₂ := [_, _, _])))) ?_
          refine wl_append (news := [str un, .slice ua1 ul1 uc1, str ut, .slice ua2 ul2 uc2]) (H0 := [(b16, .cells [str un, .slice ua1 ul1 uc1, str ut, .slice ua2 ul2 uc2].toArray 31 (0, 0)), (b8, .cells [str nm, .slice va acc.length vcap, str tx, .slice va2 kacc.length vcap2].toArray 31 (0, 0)), (b6, .cells [str [], .slice none 0 0, str [], .slice none 0 0].toArray 31 (0, 0))]) rfl own rfl rfl rfl rfl rfl rfl rfl rfl rfl rfl (by first | exact List.Mem.head _ | exact List.Mem.tail _ (List.Mem.head _) | exact List.Mem.tail _ (List.Mem.tail _ (List.Mem.head _)) | exact List.Mem.tail _ (List.Mem.tail _ (List.Mem.tail _ (List.Mem.head _))) | exact List.Mem.tail _ (List.Mem.tail _ (List.Mem.tail _ (List.Mem.tail _ (List.Mem.head _)))) | exact List.mem_append_right _ (List.Mem.head _) | exact List.mem_append_right _ (List.Mem.tail _ (List.Mem.head _)) | exact List.mem_append_right _ (List.Mem.tail _ (List.Mem.tail _ (List.Mem.head _))) | exact List.mem_append_right _ (List.Mem.tail _ (List.Mem.tail _ (List.Mem.tail _ (List.Mem.head _)))) | exact List.Mem.tail _ (List.mem_append_right _ (List.Mem.head _)) | exact List.Mem.tail _ (List.mem_append_right _ (List.Mem.tail _ (List.Mem.head _))) | exact List.Mem.tail _ (List.mem_append_right _ (List.Mem.tail _ (List.Mem.tail _ (List.Mem.head _)))) | exact List.Mem.tail _ (List.mem_append_right _ (List.Mem.tail _ (List.Mem.tail _ (List.Mem.tail _ (List.Mem.head _))))) | exact List.Mem.tail _ (List.Mem.tail _ (List.mem_append_right _ (List.Mem.head _))) | exact List.Mem.tail _ (List.Mem.tail _ (List.mem_append_right _ (List.Mem.tail _ (List.Mem.head _)))) | exact List.Mem.tail _ (List.Mem.tail _ (List.mem_append_right _ (List.Mem.tail _ (List.Mem.tail _ (List.Mem.head _)))))) rfl rfl (by repeat (first | exact List.Sublist.refl _ | apply List.Sublist.cons)) (by rw [xlen]; omega) rfl ?_
          intro v' Hs' ho'
          obtain ⟨va3, vcap3, rfl⟩ := ho'.slice (k := kacc.length + 1) (by decide) (by simp; omega)
          refine wl_weak (C' := St w [] ((b8, .cells [str nm, .slice va acc.length vcap, str tx, .slice va2 kacc.length vcap2].toArray 31 (0, 0)) :: (b6, .cells [str [], .slice none 0 0, str [], .slice none 0 0].toArray 31 (0, 0)) :: Hs') M3) (Eng.Sub.refl _) (fun w' h => (h.drop (H' := Hs' ++ [(b8, .cells [str nm, .slice va acc.length vcap, str tx, .slice va2 kacc.length vcap2].toArray 31 (0, 0)), (b6, .cells [str [], .slice none 0 0, str [], .slice none 0 0].toArray 31 (0, 0))]) (List.Sublist.append (List.Sublist.refl _) (by repeat (first | exact List.Sublist.refl _ | apply List.Sublist.cons)))).perm (List.perm_append_comm (l₁ := [_, _]))) ?_
          repeat' (first | (first | refine wc_seq ?_ | refine wc_region ?_ | refine wl_nil ?_ | refine wn_seq ?_ | refine wn_blk ?_ | refine wc_skip ?_ | refine wc_block ?_ | refine wc_exit rfl ?_ | (show WL _ _ (_ :: _) _ _ _ _; first | refine wl_v rfl rfl rfl (by first | (show OpV _ _ _ _ (Oper.mk _ (Op.move _) _ _ _ _) _ _; exact xo_move rfl) | (show OpV _ _ _ _ (Oper.mk _ (Op.assign _) _ _ _ _) _ _; exact xo_assign rfl) | (show OpV _ _ _ _ (Oper.mk _ (Op.pick _ _ _) _ _ _ _) _ _; first | exact xo_and rfl rfl | exact xo_or rfl rfl) | (show OpV _ _ _ _ (Oper.mk _ (Op.extract _ _) _ _ _ _) _ _; exact xo_extract rfl) | (show OpV _ _ _ _ (Oper.mk _ (Op.call ⟨.builtin .len, _, _⟩) _ _ _ _) _ _; first | exact xo_slen rfl | exact xo_len rfl) | (show OpV _ _ _ _ (Oper.mk _ (Op.binOp BinOp.eql _ _ _ _) _ _ _ _) _ _; first | exact xo_eql rfl rfl | exact xo_seql rfl rfl | exact xo_beql rfl rfl | exact xo_aeql rfl rfl) | (show OpV _ _ _ _ (Oper.mk _ (Op.binOp BinOp.neq _ _ _ _) _ _ _ _) _ _; first | exact xo_neq rfl rfl | exact xo_sneq rfl rfl | exact xo_bneq rfl rfl | exact xo_aneq rfl rfl) | (show OpV _ _ _ _ (Oper.mk _ (Op.binOp BinOp.lss _ _ _ _) _ _ _ _) _ _; exact xo_lss rfl rfl) | (show OpV _ _ _ _ (Oper.mk _ (Op.binOp BinOp.gtr _ _ _ _) _ _ _ _) _ _; exact xo_gtr rfl rfl) | (show OpV _ _ _ _ (Oper.mk _ (Op.binOp BinOp.geq _ _ _ _) _ _ _ _) _ _; exact xo_geq rfl rfl) | (show OpV _ _ _ _ (Oper.mk _ (Op.binOp BinOp.add _ _ _ _) _ _ _ _) _ _; first | exact xo_add rfl rfl | exact ov_sadd rfl rfl (by first | with_reducible exact fun _ => rfl | with_reducible exact fun h => h | exact fun _ => rfl | exact fun h => h | (intro himp; simp_all; done)) (by first | with_reducible exact fun _ => rfl | with_reducible exact fun h => h | exact fun _ => rfl | exact fun h => h | (intro himp; simp_all; done)) (by intro hcg; first | omega | (simp only [List.length_append, List.length_take, List.length_drop, List.length_cons, List.length_nil, List.length_nil]; omega))) | (show OpV _ _ _ _ (Oper.mk _ (Op.index _ _ _) _ _ _ _) _ _; exact xo_sindex rfl rfl) | (show OpV _ _ _ _ (Oper.mk _ (Op.slice _ _ (some _) (some _) none) _ _ _ _) _ _; first | exact xo_slice rfl rfl rfl | exact xo_slcB rfl rfl rfl) | (show OpV _ _ _ _ (Oper.mk _ (Op.slice _ _ (some _) none none) _ _ _ _) _ _; first | exact xo_from rfl rfl | exact xo_slcFrom rfl rfl) | (show OpV _ _ _ _ (Oper.mk _ (Op.slice _ _ none (some _) none) _ _ _ _) _ _; first | exact xo_to rfl rfl | exact xo_slcTo rfl rfl) | (show OpV _ _ _ _ (Oper.mk _ (Op.slice _ _ none (some _) (some _)) _ _ _ _) _ _; exact xo_slc3 rfl rfl rfl) | (show OpV _ _ _ _ (Oper.mk _ (Op.fieldAddr _ _ _) _ _ _ _) _ _; exact xo_fieldAddr rfl) | (show OpV _ _ _ _ (Oper.mk _ (Op.load _ _) _ _ _ _) _ _; first | exact xo_load1 rfl | exact xo_loadS rfl) | (show OpV _ _ _ _ (Oper.mk _ (Op.build _ _) _ _ _ _) _ _; exact xo_build rfl)) ?_ | refine wl_v rfl rfl rfl (by first  | fail) ?_ | refine xl_alloc (fun _ => ?_) | refine xl_store rfl rfl ?_ | refine xl_buildSlice rfl (fun _ => ?_)) | refine wc_ret rfl ?_) | (show WC _ (Code.cond _ _ _) _ _ _ _; (refine wc_cond rfl (fun hc => ?_) (fun hc => ?_) <;> (try (simp only [decide_eq_true_eq, decide_eq_false_iff_not, Bool.and_eq_true, Bool.or_eq_true, Bool.and_eq_false_iff, Bool.or_eq_false_iff, Bool.not_eq_true', Bool.not_eq_false', Int.not_lt, Int.not_le] at hc)) <;> (try (exfalso; first | omega | contradiction)))))
          refine wn_cut ⟨f, n, kacc ++ [x], .slice va3 (kacc.length + 1) vcap3, Hs', xs ++ [str un, .slice ua1 ul1 uc1, str ut, .slice ua2 ul2 uc2], M3, hnl, by omega, by rw [List.length_append, List.length_singleton]; omega, ?_, ho', by simp only [List.length_append, List.length_cons, List.length_nil]; omega, ?_, since.step hm3 hn3⟩ (by show f < f + 1; omega) (by first | exact Sub.nil _ | (repeat (first | exact Sub.nil _ | refine Sub.cons (by first | rfl | (simp [look]; done)) ?_))) (fun _ h => h)
          · rw [inv, hks, Option.map_map]
            congr 1
            funext y
            simp
          · intro i hi
            rw [List.length_append, List.length_cons, List.length_nil] at hi
            rcases Nat.lt_or_ge i kacc.length with hlt | hge
            · rw [List.getElem_append_left hlt, List.drop_append_of_le_length (by omega), List.take_append_of_le_length (by rw [List.length_drop]; omega)]
              exact NodeC.mono hm3 (nodes i hlt)
            · obtain rfl : i = kacc.length := by omega
              rw [List.getElem_append_right (Nat.le_refl _), ← xlen, List.drop_left]
              simpa using hnode
      · (simp only [decide_eq_true_eq, decide_eq_false_iff_not, Bool.and_eq_true, Bool.or_eq_true, Bool.and_eq_false_iff, Bool.or_eq_false_iff, Bool.not_eq_true', Bool.not_eq_false', Int.not_lt, Int.not_le] at hc)
        have hcl : ([60, 47] ++ nm ++ [62]).length = nm.length + 3 := by simp only [List.length_append, List.length_cons, List.length_nil]; omega
        have hpa := pre_at (m := [60, 47] ++ nm ++ [62]) le2
        by_cases hpf : [60, 47].isPrefixOf (s.drop i2) = true
        · have hks : kidsP (elemP D) (f + 1) (s.drop i2) = some ([], s.drop i2) := by rw [kidsP, if_pos hpf]
          rw [inv, hks] at hel
          simp only [Option.map_some, List.append_nil] at hel
          repeat' (first | refine wc_seq ?_ | refine wc_region ?_ | refine wl_nil ?_ | refine wn_seq ?_ | refine wn_blk ?_ | refine wc_skip ?_ | refine wc_block ?_ | refine wc_exit rfl ?_ | (show WL _ _ (_ :: _) _ _ _ _; first | refine wl_v rfl rfl rfl (by first | (show OpV _ _ _ _ (Oper.mk _ (Op.move _) _ _ _ _) _ _; exact xo_move rfl) | (show OpV _ _ _ _ (Oper.mk _ (Op.assign _) _ _ _ _) _ _; exact xo_assign rfl) | (show OpV _ _ _ _ (Oper.mk _ (Op.pick _ _ _) _ _ _ _) _ _; first | exact xo_and rfl rfl | exact xo_or rfl rfl) | (show OpV _ _ _ _ (Oper.mk _ (Op.extract _ _) _ _ _ _) _ _; exact xo_extract rfl) | (show OpV _ _ _ _ (Oper.mk _ (Op.call ⟨.builtin .len, _, _⟩) _ _ _ _) _ _; first | exact xo_slen rfl | exact xo_len rfl) | (show OpV _ _ _ _ (Oper.mk _ (Op.binOp BinOp.eql _ _ _ _) _ _ _ _) _ _; first | exact xo_eql rfl rfl | exact xo_seql rfl rfl | exact xo_beql rfl rfl | exact xo_aeql rfl rfl) | (show OpV _ _ _ _ (Oper.mk _ (Op.binOp BinOp.neq _ _ _ _) _ _ _ _) _ _; first | exact xo_neq rfl rfl | exact xo_sneq rfl rfl | exact xo_bneq rfl rfl | exact xo_aneq rfl rfl) | (show OpV _ _ _ _ (Oper.mk _ (Op.binOp BinOp.lss _ _ _ _) _ _ _ _) _ _; exact xo_lss rfl rfl) | (show OpV _ _ _ _ (Oper.mk _ (Op.binOp BinOp.gtr _ _ _ _) _ _ _ _) _ _; exact xo_gtr rfl rfl) | (show OpV _ _ _ _ (Oper.mk _ (Op.binOp BinOp.geq _ _ _ _) _ _ _ _) _ _; exact xo_geq rfl rfl) | (show OpV _ _ _ _ (Oper.mk _ (Op.binOp BinOp.add _ _ _ _) _ _ _ _) _ _; first | exact xo_add rfl rfl | exact ov_sadd rfl rfl (by first | with_reducible exact fun _ => rfl | with_reducible exact fun h => h | exact fun _ => rfl | exact fun h => h | (intro himp; simp_all; done)) (by first | with_reducible exact fun _ => rfl | with_reducible exact fun h => h | exact fun _ => rfl | exact fun h => h | (intro himp; simp_all; done)) (by intro hcg; first | omega | (simp only [List.length_append, List.length_take, List.length_drop, List.length_cons, List.length_nil, List.length_nil]; omega))) | (show OpV _ _ _ _ (Oper.mk _ (Op.index _ _ _) _ _ _ _) _ _; exact xo_sindex rfl rfl) | (show OpV _ _ _ _ (Oper.mk _ (Op.slice _ _ (some _) (some _) none) _ _ _ _) _ _; first | exact xo_slice rfl rfl rfl | exact xo_slcB rfl rfl rfl) | (show OpV _ _ _ _ (Oper.mk _ (Op.slice _ _ (some _) none none) _ _ _ _) _ _; first | exact xo_from rfl rfl | exact xo_slcFrom rfl rfl) | (show OpV _ _ _ _ (Oper.mk _ (Op.slice _ _ none (some _) none) _ _ _ _) _ _; first | exact xo_to rfl rfl | exact xo_slcTo rfl rfl) | (show OpV _ _ _ _ (Oper.mk _ (Op.slice _ _ none (some _) (some _)) _ _ _ _) _ _; exact xo_slc3 rfl rfl rfl) | (show OpV _ _ _ _ (Oper.mk _ (Op.fieldAddr _ _ _) _ _ _ _) _ _; exact xo_fieldAddr rfl) | (show OpV _ _ _ _ (Oper.mk _ (Op.load _ _) _ _ _ _) _ _; first | exact xo_load1 rfl | exact xo_loadS rfl) | (show OpV _ _ _ _ (Oper.mk _ (Op.build _ _) _ _ _ _) _ _; exact xo_build rfl)) ?_ | refine wl_v rfl rfl rfl (by first  | fail) ?_ | refine xl_alloc (fun _ => ?_) | refine xl_store rfl rfl ?_ | refine xl_buildSlice rfl (fun _ => ?_)) | refine wc_ret rfl ?_)
          refine wc_cond rfl (fun hc => ?_) (fun hc => ?_)
          · (simp only [decide_eq_true_eq, decide_eq_false_iff_not, Bool.and_eq_true, Bool.or_eq_true, Bool.and_eq_false_iff, Bool.or_eq_false_iff, Bool.not_eq_true', Bool.not_eq_false', Int.not_lt, Int.not_le] at hc)
            have hno : ¬ (closeT nm).isPrefixOf (s.drop i2) = true := fun h => by
              have h3 := hpa.2 h
              rcases hc with hc | hc
              · omega
              · exact hc h3.2
            rw [if_neg hno] at hel
            repeat' (first | (first | refine wc_seq ?_ | refine wc_region ?_ | refine wl_nil ?_ | refine wn_seq ?_ | refine wn_blk ?_ | refine wc_skip ?_ | refine wc_block ?_ | refine wc_exit rfl ?_ | (show WL _ _ (_ :: _) _ _ _ _; first | refine wl_v rfl rfl rfl (by first | (show OpV _ _ _ _ (Oper.mk _ (Op.move _) _ _ _ _) _ _; exact xo_move rfl) | (show OpV _ _ _ _ (Oper.mk _ (Op.assign _) _ _ _ _) _ _; exact xo_assign rfl) | (show OpV _ _ _ _ (Oper.mk _ (Op.pick _ _ _) _ _ _ _) _ _; first | exact xo_and rfl rfl | exact xo_or rfl rfl) | (show OpV _ _ _ _ (Oper.mk _ (Op.extract _ _) _ _ _ _) _ _; exact xo_extract rfl) | (show OpV _ _ _ _ (Oper.mk _ (Op.call ⟨.builtin .len, _, _⟩) _ _ _ _) _ _; first | exact xo_slen rfl | exact xo_len rfl) | (show OpV _ _ _ _ (Oper.mk _ (Op.binOp BinOp.eql _ _ _ _) _ _ _ _) _ _; first | exact xo_eql rfl rfl | exact xo_seql rfl rfl | exact xo_beql rfl rfl | exact xo_aeql rfl rfl) | (show OpV _ _ _ _ (Oper.mk _ (Op.binOp BinOp.neq _ _ _ _) _ _ _ _) _ _; first | exact xo_neq rfl rfl | exact xo_sneq rfl rfl | exact xo_bneq rfl rfl | exact xo_aneq rfl rfl) | (show OpV _ _ _ _ (Oper.mk _ (Op.binOp BinOp.lss _ _ _ _) _ _ _ _) _ _; exact xo_lss rfl rfl) | (show OpV _ _ _ _ (Oper.mk _ (Op.binOp BinOp.gtr _ _ _ _) _ _ _ _) _ _; exact xo_gtr rfl rfl) | (show OpV _ _ _ _ (Oper.mk _ (Op.binOp BinOp.geq _ _ _ _) _ _ _ _) _ _; exact xo_geq rfl rfl) | (show OpV _ _ _ _ (Oper.mk _ (Op.binOp BinOp.add _ _ _ _) _ _ _ _) _ _; first | exact xo_add rfl rfl | exact ov_sadd rfl rfl (by first | with_reducible exact fun _ => rfl | with_reducible exact fun h => h | exact fun _ => rfl | exact fun h => h | (intro himp; simp_all; done)) (by first | with_reducible exact fun _ => rfl | with_reducible exact fun h => h | exact fun _ => rfl | exact fun h => h | (intro himp; simp_all; done)) (by intro hcg; first | omega | (simp only [List.length_append, List.length_take, List.length_drop, List.length_cons, List.length_nil, List.length_nil]; omega))) | (show OpV _ _ _ _ (Oper.mk _ (Op.index _ _ _) _ _ _ _) _ _; exact xo_sindex rfl rfl) | (show OpV _ _ _ _ (Oper.mk _ (Op.slice _ _ (some _) (some _) none) _ _ _ _) _ _; first | exact xo_slice rfl rfl rfl | exact xo_slcB rfl rfl rfl) | (show OpV _ _ _ _ (Oper.mk _ (Op.slice _ _ (some _) none none) _ _ _ _) _ _; first | exact xo_from rfl rfl | exact xo_slcFrom rfl rfl) | (show OpV _ _ _ _ (Oper.mk _ (Op.slice _ _ none (some _) none) _ _ _ _) _ _; first | exact xo_to rfl rfl | exact xo_slcTo rfl rfl) | (show OpV _ _ _ _ (Oper.mk _ (Op.slice _ _ none (some _) (some _)) _ _ _ _) _ _; exact xo_slc3 rfl rfl rfl) | (show OpV _ _ _ _ (Oper.mk _ (Op.fieldAddr _ _ _) _ _ _ _) _ _; exact xo_fieldAddr rfl) | (show OpV _ _ _ _ (Oper.mk _ (Op.load _ _) _ _ _ _) _ _; first | exact xo_load1 rfl | exact xo_loadS rfl) | (show OpV _ _ _ _ (Oper.mk _ (Op.build _ _) _ _ _ _) _ _; exact xo_build rfl)) ?_ | refine wl_v rfl rfl rfl (by first  | fail) ?_ | refine xl_alloc (fun _ => ?_) | refine xl_store rfl rfl ?_ | refine xl_buildSlice rfl (fun _ => ?_)) | refine wc_ret rfl ?_) | (show WC _ (Code.cond _ _ _) _ _ _ _; (refine wc_cond rfl (fun hc => ?_) (fun hc => ?_) <;> (try (simp only [decide_eq_true_eq, decide_eq_false_iff_not, Bool.and_eq_true, Bool.or_eq_true, Bool.and_eq_false_iff, Bool.or_eq_false_iff, Bool.not_eq_true', Bool.not_eq_false', Int.not_lt, Int.not_le] at hc)) <;> (try (exfalso; first | omega | contradiction)))))
            exact wr_layC2 (Hn := []) rfl rfl rfl rfl (by first | exact List.Mem.head _ | exact List.Mem.tail _ (List.Mem.head _) | exact List.Mem.tail _ (List.Mem.tail _ (List.Mem.head _)) | exact List.Mem.tail _ (List.Mem.tail _ (List.Mem.tail _ (List.Mem.head _))) | exact List.Mem.tail _ (List.Mem.tail _ (List.Mem.tail _ (List.Mem.tail _ (List.Mem.head _)))) | exact List.mem_append_right _ (List.Mem.head _) | exact List.mem_append_right _ (List.Mem.tail _ (List.Mem.head _)) | exact List.mem_append_right _ (List.Mem.tail _ (List.Mem.tail _ (List.Mem.head _))) | exact List.mem_append_right _ (List.Mem.tail _ (List.Mem.tail _ (List.Mem.tail _ (List.Mem.head _)))) | exact List.Mem.tail _ (List.mem_append_right _ (List.Mem.head _)) | exact List.Mem.tail _ (List.mem_append_right _ (List.Mem.tail _ (List.Mem.head _))) | exact List.Mem.tail _ (List.mem_append_right _ (List.Mem.tail _ (List.Mem.tail _ (List.Mem.head _)))) | exact List.Mem.tail _ (List.mem_append_right _ (List.Mem.tail _ (List.Mem.tail _ (List.Mem.tail _ (List.Mem.head _))))) | exact List.Mem.tail _ (List.Mem.tail _ (List.mem_append_right _ (List.Mem.head _))) | exact List.Mem.tail _ (List.Mem.tail _ (List.mem_append_right _ (List.Mem.tail _ (List.Mem.head _)))) | exact List.Mem.tail _ (List.Mem.tail _ (List.mem_append_right _ (List.Mem.tail _ (List.Mem.tail _ (List.Mem.head _)))))) rfl hM2 (List.nil_sublist _) ⟨rfl, relemIs_no hel⟩
          · (simp only [decide_eq_true_eq, decide_eq_false_iff_not, Bool.and_eq_true, Bool.or_eq_true, Bool.and_eq_false_iff, Bool.or_eq_false_iff, Bool.not_eq_true', Bool.not_eq_false', Int.not_lt, Int.not_le] at hc)
            have hyes : (closeT nm).isPrefixOf (s.drop i2) = true := hpa.1 ⟨by omega, hc.2⟩
            rw [if_pos hyes] at hel
            repeat' (first | (first | refine wc_seq ?_ | refine wc_region ?_ | refine wl_nil ?_ | refine wn_seq ?_ | refine wn_blk ?_ | refine wc_skip ?_ | refine wc_block ?_ | refine wc_exit rfl ?_ | (show WL _ _ (_ :: _) _ _ _ _; first | refine wl_v rfl rfl rfl (by first | (show OpV _ _ _ _ (Oper.mk _ (Op.move _) _ _ _ _) _ _; exact xo_move rfl) | (show OpV _ _ _ _ (Oper.mk _ (Op.assign _) _ _ _ _) _ _; exact xo_assign rfl) | (show OpV _ _ _ _ (Oper.mk _ (Op.pick _ _ _) _ _ _ _) _ _; first | exact xo_and rfl rfl | exact xo_or rfl rfl) | (show OpV _ _ _ _ (Oper.mk _ (Op.extract _ _) _ _ _ _) _ _; exact xo_extract rfl) | (show OpV _ _ _ _ (Oper.mk _ (Op.call ⟨.builtin .len, _, _⟩) _ _ _ _) _ _; first | exact xo_slen rfl | exact xo_len rfl) | (show OpV _ _ _ _ (Oper.mk _ (Op.binOp BinOp.eql _ _ _ _) _ _ _ _) _ _; first | exact xo_eql rfl rfl | exact xo_seql rfl rfl | exact xo_beql rfl rfl | exact xo_aeql rfl rfl) | (show OpV _ _ _ _ (Oper.mk _ (Op.binOp BinOp.neq _ _ _ _) _ _ _ _) _ _; first | exact xo_neq rfl rfl | exact xo_sneq rfl rfl | exact xo_bneq rfl rfl | exact xo_aneq rfl rfl) | (show OpV _ _ _ _ (Oper.mk _ (Op.binOp BinOp.lss _ _ _ _) _ _ _ _) _ _; exact xo_lss rfl rfl) | (show OpV _ _ _ _ (Oper.mk _ (Op.binOp BinOp.gtr _ _ _ _) _ _ _ _) _ _; exact xo_gtr rfl rfl) | (show OpV _ _ _ _ (Oper.mk _ (Op.binOp BinOp.geq _ _ _ _) _ _ _ _) _ _; exact xo_geq rfl rfl) | (show OpV _ _ _ _ (Oper.mk _ (Op.binOp BinOp.add _ _ _ _) _ _ _ _) _ _; first | exact xo_add rfl rfl | exact ov_sadd rfl rfl (by first | with_reducible exact fun _ => rfl | with_reducible exact fun h => h | exact fun _ => rfl | exact fun h => h | (intro himp; simp_all; done)) (by first | with_reducible exact fun _ => rfl | with_reducible exact fun h => h | exact fun _ => rfl | exact fun h => h | (intro himp; simp_all; done)) (by intro hcg; first | omega | (simp only [List.length_append, List.length_take, List.length_drop, List.length_cons, List.length_nil, List.length_nil]; omega))) | (show OpV _ _ _ _ (Oper.mk _ (Op.index _ _ _) _ _ _ _) _ _; exact xo_sindex rfl rfl) | (show OpV _ _ _ _ (Oper.mk _ (Op.slice _ _ (some _) (some _) none) _ _ _ _) _ _; first | exact xo_slice rfl rfl rfl | exact xo_slcB rfl rfl rfl) | (show OpV _ _ _ _ (Oper.mk _ (Op.slice _ _ (some _) none none) _ _ _ _) _ _; first | exact xo_from rfl rfl | exact xo_slcFrom rfl rfl) | (show OpV _ _ _ _ (Oper.mk _ (Op.slice _ _ none (some _) none) _ _ _ _) _ _; first | exact xo_to rfl rfl | exact xo_slcTo rfl rfl) | (show OpV _ _ _ _ (Oper.mk _ (Op.slice _ _ none (some _) (some _)) _ _ _ _) _ _; exact xo_slc3 rfl rfl rfl) | (show OpV _ _ _ _ (Oper.mk _ (Op.fieldAddr _ _ _) _ _ _ _) _ _; exact xo_fieldAddr rfl) | (show OpV _ _ _ _ (Oper.mk _ (Op.load _ _) _ _ _ _) _ _; first | exact xo_load1 rfl | exact xo_loadS rfl) | (show OpV _ _ _ _ (Oper.mk _ (Op.build _ _) _ _ _ _) _ _; exact xo_build rfl)) ?_ | refine wl_v rfl rfl rfl (by first  | fail) ?_ | refine xl_alloc (fun _ => ?_) | refine xl_store rfl rfl ?_ | refine xl_buildSlice rfl (fun _ => ?_)) | refine wc_ret rfl ?_) | (show WC _ (Code.cond _ _ _) _ _ _ _; (refine wc_cond rfl (fun hc => ?_) (fun hc => ?_) <;> (try (simp only [decide_eq_true_eq, decide_eq_false_iff_not, Bool.and_eq_true, Bool.or_eq_true, Bool.and_eq_false_iff, Bool.or_eq_false_iff, Bool.not_eq_true', Bool.not_eq_false', Int.not_lt, Int.not_le] at hc)) <;> (try (exfalso; first | omega | contradiction)))))
            refine wr_layC2 (Hn := Hk) rfl rfl rfl rfl (List.Mem.tail _ (List.Mem.head _)) rfl hM2 (List.Sublist.cons _ (List.Sublist.cons _ (List.Sublist.refl _))) ⟨rfl, ?_⟩
            unfold RelemIs
            rw [hel]
            refine ⟨_, i2 + ([60, 47] ++ nm ++ [62]).length, rfl, ⟨_, _, rfl, Sl.mono hsl (fun _ _ h => .inl (since.1 _ _ h)) (fun _ _ _ h => h), own.sl (by decide) (fun p hp => .inr hp) xlen (by omega) (fun q hq => NodeC.mono (fun _ _ => .inl) (nodes q hq)), by omega, by omega, fun p hp => ?_⟩, by omega, by rw [← List.drop_drop]; rfl⟩
            have := hsmall p hp
            omega
        · have hks : kidsP (elemP D) (f + 1) (s.drop i2) = none := by
            rw [kidsP, if_neg hpf]
            have : elemP D (s.drop i2) = none := by
              by_cases h1 : ∃ r, s.drop i2 = 60 :: r
              · obtain ⟨r, hr⟩ := h1
                obtain ⟨g1, g2, g3⟩ := at_cons.1 hr
                cases r with
                | nil => rw [hr]; exact elemP_short D
                | cons c r =>
                  exfalso
                  obtain ⟨g4, g5, g6⟩ := at_cons.1 g3
                  rcases hc with (hc | hc) | hc
                  · omega
                  · exact hc (b60.2 g2)
                  · have h47 := b47.1 hc
                    rw [g5] at h47
                    subst h47
                    exact hpf (by rw [hr]; simp [List.isPrefixOf])
              · exact elemP_head (fun r e => h1 ⟨r, e⟩)
            rw [this]
          have hn : elemP (D + 1) (s.drop i0) = none := by rw [hel, inv, hks]; rfl
          repeat' (first | refine wc_seq ?_ | refine wc_region ?_ | refine wl_nil ?_ | refine wn_seq ?_ | refine wn_blk ?_ | refine wc_skip ?_ | refine wc_block ?_ | refine wc_exit rfl ?_ | (show WL _ _ (_ :: _) _ _ _ _; first | refine wl_v rfl rfl rfl (by first | (show OpV _ _ _ _ (Oper.mk _ (Op.move _) _ _ _ _) _ _; exact xo_move rfl) | (show OpV _ _ _ _ (Oper.mk _ (Op.assign _) _ _ _ _) _ _; exact xo_assign rfl) | (show OpV _ _ _ _ (Oper.mk _ (Op.pick _ _ _) _ _ _ _) _ _; first | exact xo_and rfl rfl | exact xo_or rfl rfl) | (show OpV _ _ _ _ (Oper.mk _ (Op.extract _ _) _ _ _ _) _ _; exact xo_extract rfl) | (show OpV _ _ _ _ (Oper.mk _ (Op.call ⟨.builtin .len, _, _⟩) _ _ _ _) _ _; first | exact xo_slen rfl | exact xo_len rfl) | (show OpV _ _ _ _ (Oper.mk _ (Op.binOp BinOp.eql _ _ _ _) _ _ _ _) _ _; first | exact xo_eql rfl rfl | exact xo_seql rfl rfl | exact xo_beql rfl rfl | exact xo_aeql rfl rfl) | (show OpV _ _ _ _ (Oper.mk _ (Op.binOp BinOp.neq _ _ _ _) _ _ _ _) _ _; first | exact xo_neq rfl rfl | exact xo_sneq rfl rfl | exact xo_bneq rfl rfl | exact xo_aneq rfl rfl) | (show OpV _ _ _ _ (Oper.mk _ (Op.binOp BinOp.lss _ _ _ _) _ _ _ _) _ _; exact xo_lss rfl rfl) | (show OpV _ _ _ _ (Oper.mk _ (Op.binOp BinOp.gtr _ _ _ _) _ _ _ _) _ _; exact xo_gtr rfl rfl) | (show OpV _ _ _ _ (Oper.mk _ (Op.binOp BinOp.geq _ _ _ _) _ _ _ _) _ _; exact xo_geq rfl rfl) | (show OpV _ _ _ _ (Oper.mk _ (Op.binOp BinOp.add _ _ _ _) _ _ _ _) _ _; first | exact xo_add rfl rfl | exact ov_sadd rfl rfl (by first | with_reducible exact fun _ => rfl | with_reducible exact fun h => h | exact fun _ => rfl | exact fun h => h | (intro himp; simp_all; done)) (by first | with_reducible exact fun _ => rfl | with_reducible exact fun h => h | exact fun _ => rfl | exact fun h => h | (intro himp; simp_all; done)) (by intro hcg; first | omega | (simp only [List.length_append, List.length_take, List.length_drop, List.length_cons, List.length_nil, List.length_nil]; omega))) | (show OpV _ _ _ _ (Oper.mk _ (Op.index _ _ _) _ _ _ _) _ _; exact xo_sindex rfl rfl) | (show OpV _ _ _ _ (Oper.mk _ (Op.slice _ _ (some _) (some _) none) _ _ _ _) _ _; first | exact xo_slice rfl rfl rfl | exact xo_slcB rfl rfl rfl) | (show OpV _ _ _ _ (Oper.mk _ (Op.slice _ _ (some _) none none) _ _ _ _) _ _; first | exact xo_from rfl rfl | exact xo_slcFrom rfl rfl) | (show OpV _ _ _ _ (Oper.mk _ (Op.slice _ _ none (some _) none) _ _ _ _) _ _; first | exact xo_to rfl rfl | exact xo_slcTo rfl rfl) | (show OpV _ _ _ _ (Oper.mk _ (Op.slice _ _ none (some _) (some _)) _ _ _ _) _ _; exact xo_slc3 rfl rfl rfl) | (show OpV _ _ _ _ (Oper.mk _ (Op.fieldAddr _ _ _) _ _ _ _) _ _; exact xo_fieldAddr rfl) | (show OpV _ _ _ _ (Oper.mk _ (Op.load _ _) _ _ _ _) _ _; first | exact xo_load1 rfl | exact xo_loadS rfl) | (show OpV _ _ _ _ (Oper.mk _ (Op.build _ _) _ _ _ _) _ _; exact xo_build rfl)) ?_ | refine wl_v rfl rfl rfl (by first  | fail) ?_ | refine xl_alloc (fun _ => ?_) | refine xl_store rfl rfl ?_ | refine xl_buildSlice rfl (fun _ => ?_)) | refine wc_ret rfl ?_)
          refine wc_cond rfl (fun hc => ?_) (fun hc => ?_)
          · repeat' (first | (first | refine wc_seq ?_ | refine wc_region ?_ | refine wl_nil ?_ | refine wn_seq ?_ | refine wn_blk ?_ | refine wc_skip ?_ | refine wc_block ?_ | refine wc_exit rfl ?_ | (show WL _ _ (_ :: _) _ _ _ _; first | refine wl_v rfl rfl rfl (by first | (show OpV _ _ _ _ (Oper.mk _ (Op.move _) _ _ _ _) _ _; exact xo_move rfl) | (show OpV _ _ _ _ (Oper.mk _ (Op.assign _) _ _ _ _) _ _; exact xo_assign rfl) | (show OpV _ _ _ _ (Oper.mk _ (Op.pick _ _ _) _ _ _ _) _ _; first | exact xo_and rfl rfl | exact xo_or rfl rfl) | (show OpV _ _ _ _ (Oper.mk _ (Op.extract _ _) _ _ _ _) _ _; exact xo_extract rfl) | (show OpV _ _ _ _ (Oper.mk _ (Op.call ⟨.builtin .len, _, _⟩) _ _ _ _) _ _; first | exact xo_slen rfl | exact xo_len rfl) | (show OpV _ _ _ _ (Oper.mk _ (Op.binOp BinOp.eql _ _ _ _) _ _ _ _) _ _; first | exact xo_eql rfl rfl | exact xo_seql rfl rfl | exact xo_beql rfl rfl | exact xo_aeql rfl rfl) | (show OpV _ _ _ _ (Oper.mk _ (Op.binOp BinOp.neq _ _ _ _) _ _ _ _) _ _; first | exact xo_neq rfl rfl | exact xo_sneq rfl rfl | exact xo_bneq rfl rfl | exact xo_aneq rfl rfl) | (show OpV _ _ _ _ (Oper.mk _ (Op.binOp BinOp.lss _ _ _ _) _ _ _ _) _ _; exact xo_lss rfl rfl) | (show OpV _ _ _ _ (Oper.mk _ (Op.binOp BinOp.gtr _ _ _ _) _ _ _ _) _ _; exact xo_gtr rfl rfl) | (show OpV _ _ _ _ (Oper.mk _ (Op.binOp BinOp.geq _ _ _ _) _ _ _ _) _ _; exact xo_geq rfl rfl) | (show OpV _ _ _ _ (Oper.mk _ (Op.binOp BinOp.add _ _ _ _) _ _ _ _) _ _; first | exact xo_add rfl rfl | exact ov_sadd rfl rfl (by first | with_reducible exact fun _ => rfl | with_reducible exact fun h => h | exact fun _ => rfl | exact fun h => h | (intro himp; simp_all; done)) (by first | with_reducible exact fun _ => rfl | with_reducible exact fun h => h | exact fun _ => rfl | exact fun h => h | (intro himp; simp_all; done)) (by intro hcg; first | omega | (simp only [List.length_append, List.length_take, List.length_drop, List.length_cons, List.length_nil, List.length_nil]; omega))) | (show OpV _ _ _ _ (Oper.mk _ (Op.index _ _ _) _ _ _ _) _ _; exact xo_sindex rfl rfl) | (show OpV _ _ _ _ (Oper.mk _ (Op.slice _ _ (some _) (some _) none) _ _ _ _) _ _; first | exact xo_slice rfl rfl rfl | exact xo_slcB rfl rfl rfl) | (show OpV _ _ _ _ (Oper.mk _ (Op.slice _ _ (some _) none none) _ _ _ _) _ _; first | exact xo_from rfl rfl | exact xo_slcFrom rfl rfl) | (show OpV _ _ _ _ (Oper.mk _ (Op.slice _ _ none (some _) none) _ _ _ _) _ _; first | exact xo_to rfl rfl | exact xo_slcTo rfl rfl) | (show OpV _ _ _ _ (Oper.mk _ (Op.slice _ _ none (some _) (some _)) _ _ _ _) _ _; exact xo_slc3 rfl rfl rfl) | (show OpV _ _ _ _ (Oper.mk _ (Op.fieldAddr _ _ _) _ _ _ _) _ _; exact xo_fieldAddr rfl) | (show OpV _ _ _ _ (Oper.mk _ (Op.load _ _) _ _ _ _) _ _; first | exact xo_load1 rfl | exact xo_loadS rfl) | (show OpV _ _ _ _ (Oper.mk _ (Op.build _ _) _ _ _ _) _ _; exact xo_build rfl)) ?_ | refine wl_v rfl rfl rfl (by first  | fail) ?_ | refine xl_alloc (fun _ => ?_) | refine xl_store rfl rfl ?_ | refine xl_buildSlice rfl (fun _ => ?_)) | refine wc_ret rfl ?_) | (show WC _ (Code.cond _ _ _) _ _ _ _; (refine wc_cond rfl (fun hc => ?_) (fun hc => ?_) <;> (try (simp only [decide_eq_true_eq, decide_eq_false_iff_not, Bool.and_eq_true, Bool.or_eq_true, Bool.and_eq_false_iff, Bool.or_eq_false_iff, Bool.not_eq_true', Bool.not_eq_false', Int.not_lt, Int.not_le] at hc)) <;> (try (exfalso; first | omega | contradiction)))))
            exact wr_layC2 (Hn := []) rfl rfl rfl rfl (by first | exact List.Mem.head _ | exact List.Mem.tail _ (List.Mem.head _) | exact List.Mem.tail _ (List.Mem.tail _ (List.Mem.head _)) | exact List.Mem.tail _ (List.Mem.tail _ (List.Mem.tail _ (List.Mem.head _))) | exact List.Mem.tail _ (List.Mem.tail _ (List.Mem.tail _ (List.Mem.tail _ (List.Mem.head _)))) | exact List.mem_append_right _ (List.Mem.head _) | exact List.mem_append_right _ (List.Mem.tail _ (List.Mem.head _)) | exact List.mem_append_right _ (List.Mem.tail _ (List.Mem.tail _ (List.Mem.head _))) | exact List.mem_append_right _ (List.Mem.tail _ (List.Mem.tail _ (List.Mem.tail _ (List.Mem.head _)))) | exact List.Mem.tail _ (List.mem_append_right _ (List.Mem.head _)) | exact List.Mem.tail _ (List.mem_append_right _ (List.Mem.tail _ (List.Mem.head _))) | exact List.Mem.tail _ (List.mem_append_right _ (List.Mem.tail _ (List.Mem.tail _ (List.Mem.head _)))) | exact List.Mem.tail _ (List.mem_append_right _ (List.Mem.tail _ (List.Mem.tail _ (List.Mem.tail _ (List.Mem.head _))))) | exact List.Mem.tail _ (List.Mem.tail _ (List.mem_append_right _ (List.Mem.head _))) | exact List.Mem.tail _ (List.Mem.tail _ (List.mem_append_right _ (List.Mem.tail _ (List.Mem.head _)))) | exact List.Mem.tail _ (List.Mem.tail _ (List.mem_append_right _ (List.Mem.tail _ (List.Mem.tail _ (List.Mem.head _)))))) rfl hM2 (List.nil_sublist _) ⟨rfl, relemIs_no hn⟩
          · exfalso
            (simp only [decide_eq_true_eq, decide_eq_false_iff_not, Bool.and_eq_true, Bool.or_eq_true, Bool.and_eq_false_iff, Bool.or_eq_false_iff, Bool.not_eq_true', Bool.not_eq_false', Int.not_lt, Int.not_le] at hc)
            have hyes := List.isPrefixOf_iff_prefix.1 (hpa.1 ⟨by omega, hc.2⟩)
            exact hpf (List.isPrefixOf_iff_prefix.2 (List.IsPrefix.trans (by rw [List.append_assoc]; exact List.prefix_append _ _) hyes))
end Go.Proofs.YtnfkbbkojgbbeaaDoor
/-
  Both readings of a text; the walks of XmlTexts and XmlReads.
-/
namespace Go.Proofs.YtnfkbbkojgbbeaaDoor
open Go.Eng Go.Pct Go.Xml Go.Rsp
set_option maxRecDepth 10000
set_option linter.unusedSimpArgs false
set_option linter.unusedVariables false

variable {M : Ghost} {w0 w : World} {bs : List Nat} {H : List (Nat × Obj)}
def nodeZ : Nd := .mk [] [] [] []
/-- a text's element -/
def readP (s : List UInt8) : Option Nd := match elemP 8 s with
  | some (x, r) => if r = [] ∧ rightN x = true then some x else none
  | none => none
theorem readP_back {x : Nd} (h : rightN x = true) : readP (textN x) = some x := by
  have h' := h
  unfold rightN at h'
  simp only [Bool.and_eq_true, decide_eq_true_eq] at h'
  have hd := (fewN_no x 200 8 h'.1).1
  have := elemP_back (D := 8) (x := x) (by omega) h'.2 []
  rw [List.append_nil] at this
  unfold readP
  rw [this]
  simp only
  rw [if_pos ⟨by first | trivial | rfl, h⟩]
theorem readP_text {s : List UInt8} {x : Nd} (h : readP s = some x) : textN x = s ∧ rightN x = true := by
  unfold readP at h
  split at h
  · rename_i y r e
    split at h
    · rename_i hc
      cases h
      obtain ⟨rfl, hr⟩ := hc
      have := elemP_text e
      rw [List.append_nil] at this
      exact ⟨this.symm, hr⟩
    · cases h
  · cases h
theorem nodeZ_ok {D : Nat} : NodeC M (D + 1) nodeZ [str [], .slice none 0 0, str [], .slice none 0 0] :=
  ⟨_, _, rfl, sl_nil, sl_nil, by simp, by simp, fun p hp => absurd hp (by simp)⟩
/-- what a reading yields -/
def ReadN (s : List UInt8) (M' : Ghost) (v : Value) : Prop := ∃ vs : List Value, v = .tuple #[.agg vs.toArray, i64 (if (readP s).isSome then 0 else 10)] ∧ NodeC M' 8 ((readP s).getD nodeZ) vs
theorem readN_no {s : List UInt8} {M' : Ghost} (h : readP s = none) : ReadN s M' (.tuple #[.agg [str [], .slice none 0 0, str [], .slice none 0 0].toArray, i64 10]) := by
  unfold ReadN; rw [h]; exact ⟨_, rfl, nodeZ_ok⟩
set_option maxHeartbeats 1000000 in
theorem xread_ok (hG : Glob M) (hM : Laid M w) (s : List UInt8) (hs : s.length ≤ 1000000) : Calls Tryd.prog 13 #[str s] w (RetS M w (fun M' H v => H = [] ∧ ReadN s M' v)) := by
  refine calls_st (l := [str s]) hM Tryd.func13 rfl rfl rfl (E0 := [(0, true, str s)]) (params_cons rfl (params_nil _)) ?_
  repeat' (first | (first | refine wc_seq ?_ | refine wc_region ?_ | refine wl_nil ?_ | refine wn_seq ?_ | refine wn_blk ?_ | refine wc_skip ?_ | refine wc_block ?_ | refine wc_exit rfl ?_ | (show WL _ _ (_ :: _) _ _ _ _; first | refine wl_v rfl rfl rfl (by first | (show OpV _ _ _ _ (Oper.mk _ (Op.move _) _ _ _ _) _ _; exact xo_move rfl) | (show OpV _ _ _ _ (Oper.mk _ (Op.assign _) _ _ _ _) _ _; exact xo_assign rfl) | (show OpV _ _ _ _ (Oper.mk _ (Op.pick _ _ _) _ _ _ _) _ _; first | exact xo_and rfl rfl | exact xo_or rfl rfl) | (show OpV _ _ _ _ (Oper.mk _ (Op.extract _ _) _ _ _ _) _ _; exact xo_extract rfl) | (show OpV _ _ _ _ (Oper.mk _ (Op.unOp _ _ _) _ _ _ _) _ _; exact xo_not rfl) | (show OpV _ _ _ _ (Oper.mk _ (Op.binOp BinOp.neq _ _ _ _) _ _ _ _) _ _; first | exact xo_neq rfl rfl | exact xo_sneq rfl rfl | exact xo_bneq rfl rfl | exact xo_aneq rfl rfl) | (show OpV _ _ _ _ (Oper.mk _ (Op.fieldAddr _ _ _) _ _ _ _) _ _; exact xo_fieldAddr rfl) | (show OpV _ _ _ _ (Oper.mk _ (Op.load _ _) _ _ _ _) _ _; first | exact xo_load1 rfl | exact xo_loadS rfl) | (show OpV _ _ _ _ (Oper.mk _ (Op.build _ _) _ _ _ _) _ _; exact xo_build rfl) | (show OpV _ _ _ _ (Oper.mk _ (Op.nilCheck _) _ _ _ _) _ _; exact xo_nilCheck rfl)) ?_ | refine wl_v rfl rfl rfl (by first  | fail) ?_ | refine xl_alloc (fun _ => ?_) | refine xl_box rfl (fun _ => ?_) | refine xl_store rfl rfl ?_) | refine wc_ret rfl ?_) | (show WC _ (Code.cond _ _ _) _ _ _ _; (refine wc_cond rfl (fun hc => ?_) (fun hc => ?_) <;> (try (simp only [decide_eq_true_eq, decide_eq_false_iff_not, Bool.and_eq_true, Bool.or_eq_true, Bool.and_eq_false_iff, Bool.or_eq_false_iff, Bool.not_eq_true', Bool.not_eq_false', Int.not_lt, Int.not_le] at hc)) <;> (try (exfalso; first | omega | contradiction)))))
  rename_i b2 b9
  refine wl_callX rfl Tryd.call29 rfl rfl rfl rfl (fun w hw => relem_ok 8 1 rfl (by omega) M [(b2, .cells [str [], .slice none 0 0, str [], .slice none 0 0].toArray 31 (0, 0))] b9 s 200 _ w hG hs (by omega) (by omega) hw) (fun v M1 s1 left1 hm1 hn1 hR => ?_)
  have hM1 : Since w M M1 := Since.refl.step hm1 hn1
  unfold ElemIs at hR
  cases hx : elemX 8 s 200 with
  | none =>
    rw [hx] at hR
    simp only at hR
    obtain ⟨n', a1, l1, c1, t', a2, l2, c2, rfl⟩ := hR
    have hn : readP s = none := by
      unfold readP
      unfold elemX at hx
      cases he : elemP 8 s with
      | none => rfl
      | some p =>
        obtain ⟨y, r⟩ := p
        rw [he] at hx
        simp only at hx ⊢
        split at hx
        · cases hx
        · rename_i h1
          rw [if_neg]
          rintro ⟨_, h2⟩
          unfold rightN at h2
          simp only [Bool.and_eq_true, decide_eq_true_eq] at h2
          exact h1 (fewN_no y 200 8 h2.1).2
    repeat' (first | (first | refine wc_seq ?_ | refine wc_region ?_ | refine wl_nil ?_ | refine wn_seq ?_ | refine wn_blk ?_ | refine wc_skip ?_ | refine wc_block ?_ | refine wc_exit rfl ?_ | (show WL _ _ (_ :: _) _ _ _ _; first | refine wl_v rfl rfl rfl (by first | (show OpV _ _ _ _ (Oper.mk _ (Op.move _) _ _ _ _) _ _; exact xo_move rfl) | (show OpV _ _ _ _ (Oper.mk _ (Op.assign _) _ _ _ _) _ _; exact xo_assign rfl) | (show OpV _ _ _ _ (Oper.mk _ (Op.pick _ _ _) _ _ _ _) _ _; first | exact xo_and rfl rfl | exact xo_or rfl rfl) | (show OpV _ _ _ _ (Oper.mk _ (Op.extract _ _) _ _ _ _) _ _; exact xo_extract rfl) | (show OpV _ _ _ _ (Oper.mk _ (Op.unOp _ _ _) _ _ _ _) _ _; exact xo_not rfl) | (show OpV _ _ _ _ (Oper.mk _ (Op.binOp BinOp.neq _ _ _ _) _ _ _ _) _ _; first | exact xo_neq rfl rfl | exact xo_sneq rfl rfl | exact xo_bneq rfl rfl | exact xo_aneq rfl rfl) | (show OpV _ _ _ _ (Oper.mk _ (Op.fieldAddr _ _ _) _ _ _ _) _ _; exact xo_fieldAddr rfl) | (show OpV _ _ _ _ (Oper.mk _ (Op.load _ _) _ _ _ _) _ _; first | exact xo_load1 rfl | exact xo_loadS rfl) | (show OpV _ _ _ _ (Oper.mk _ (Op.build _ _) _ _ _ _) _ _; exact xo_build rfl) | (show OpV _ _ _ _ (Oper.mk _ (Op.nilCheck _) _ _ _ _) _ _; exact xo_nilCheck rfl)) ?_ | refine wl_v rfl rfl rfl (by first | (show OpV _ _ _ _ (Oper.mk _ (Op.call _) _ _ _ _) _ _; exact ov_off (v := .bool false) rfl) | fail) ?_ | refine xl_alloc (fun _ => ?_) | refine xl_box rfl (fun _ => ?_) | refine xl_store rfl rfl ?_) | refine wc_ret rfl ?_) | (show WC _ (Code.cond _ _ _) _ _ _ _; (refine wc_cond rfl (fun hc => ?_) (fun hc => ?_) <;> (try (simp only [decide_eq_true_eq, decide_eq_false_iff_not, Bool.and_eq_true, Bool.or_eq_true, Bool.and_eq_false_iff, Bool.or_eq_false_iff, Bool.not_eq_true', Bool.not_eq_false', Int.not_lt, Int.not_le] at hc)) <;> (try (exfalso; first | omega | contradiction)))))
    exact wr_layC2 (Hn := []) rfl rfl rfl rfl (by first | exact List.Mem.head _ | exact List.Mem.tail _ (List.Mem.head _) | exact List.Mem.tail _ (List.Mem.tail _ (List.Mem.head _)) | exact List.Mem.tail _ (List.Mem.tail _ (List.Mem.tail _ (List.Mem.head _))) | exact List.Mem.tail _ (List.Mem.tail _ (List.Mem.tail _ (List.Mem.tail _ (List.Mem.head _)))) | exact List.mem_append_right _ (List.Mem.head _) | exact List.mem_append_right _ (List.Mem.tail _ (List.Mem.head _)) | exact List.mem_append_right _ (List.Mem.tail _ (List.Mem.tail _ (List.Mem.head _))) | exact List.mem_append_right _ (List.Mem.tail _ (List.Mem.tail _ (List.Mem.tail _ (List.Mem.head _)))) | exact List.Mem.tail _ (List.mem_append_right _ (List.Mem.head _)) | exact List.Mem.tail _ (List.mem_append_right _ (List.Mem.tail _ (List.Mem.head _))) | exact List.Mem.tail _ (List.mem_append_right _ (List.Mem.tail _ (List.Mem.tail _ (List.Mem.head _)))) | exact List.Mem.tail _ (List.mem_append_right _ (List.Mem.tail _ (List.Mem.tail _ (List.Mem.tail _ (List.Mem.head _))))) | exact List.Mem.tail _ (List.Mem.tail _ (List.mem_append_right _ (List.Mem.head _))) | exact List.Mem.tail _ (List.Mem.tail _ (List.mem_append_right _ (List.Mem.tail _ (List.Mem.head _)))) | exact List.Mem.tail _ (List.Mem.tail _ (List.mem_append_right _ (List.Mem.tail _ (List.Mem.tail _ (List.Mem.head _)))))) rfl hM1 (List.nil_sublist _) ⟨rfl, readN_no hn⟩
  | some p =>
    obtain ⟨x, r, l'⟩ := p
    rw [hx] at hR
    simp only at hR
    obtain ⟨vs, rfl, hnode, rfl, rfl⟩ := hR
    have he : ∃ q, elemP 8 s = some (x, q) ∧ q = s1 := by
      unfold elemX at hx
      cases he : elemP 8 s with
      | none => rw [he] at hx; cases hx
      | some p =>
        obtain ⟨y, r⟩ := p
        rw [he] at hx
        simp only at hx
        split at hx
        · cases hx; exact ⟨_, rfl, rfl⟩
        · cases hx
    obtain ⟨q, he, rfl⟩ := he
    have hrd : readP s = if q = [] ∧ rightN x = true then some x else none := by unfold readP; rw [he]
    have hri := fun {w : World} (hw : Laid M1 w) => right_ok hw hnode
    obtain ⟨un, ua1, ul1, uc1, ut, ua2, ul2, uc2, rfl⟩ := node_open hnode
    repeat' (first | refine wc_seq ?_ | refine wc_region ?_ | refine wl_nil ?_ | refine wn_seq ?_ | refine wn_blk ?_ | refine wc_skip ?_ | refine wc_block ?_ | refine wc_exit rfl ?_ | (show WL _ _ (_ :: _) _ _ _ _; first | refine wl_v rfl rfl rfl (by first | (show OpV _ _ _ _ (Oper.mk _ (Op.move _) _ _ _ _) _ _; exact xo_move rfl) | (show OpV _ _ _ _ (Oper.mk _ (Op.assign _) _ _ _ _) _ _; exact xo_assign rfl) | (show OpV _ _ _ _ (Oper.mk _ (Op.pick _ _ _) _ _ _ _) _ _; first | exact xo_and rfl rfl | exact xo_or rfl rfl) | (show OpV _ _ _ _ (Oper.mk _ (Op.extract _ _) _ _ _ _) _ _; exact xo_extract rfl) | (show OpV _ _ _ _ (Oper.mk _ (Op.unOp _ _ _) _ _ _ _) _ _; exact xo_not rfl) | (show OpV _ _ _ _ (Oper.mk _ (Op.binOp BinOp.neq _ _ _ _) _ _ _ _) _ _; first | exact xo_neq rfl rfl | exact xo_sneq rfl rfl | exact xo_bneq rfl rfl | exact xo_aneq rfl rfl) | (show OpV _ _ _ _ (Oper.mk _ (Op.fieldAddr _ _ _) _ _ _ _) _ _; exact xo_fieldAddr rfl) | (show OpV _ _ _ _ (Oper.mk _ (Op.load _ _) _ _ _ _) _ _; first | exact xo_load1 rfl | exact xo_loadS rfl) | (show OpV _ _ _ _ (Oper.mk _ (Op.build _ _) _ _ _ _) _ _; exact xo_build rfl) | (show OpV _ _ _ _ (Oper.mk _ (Op.nilCheck _) _ _ _ _) _ _; exact xo_nilCheck rfl)) ?_ | refine wl_v rfl rfl rfl (by first | ((show OpV _ _ _ _ (Oper.mk _ (Op.call ⟨.value (.func 17), _, _⟩) _ _ _ _) _ _; exact ov_call Tryd.call17 rfl (by intro himp; first | rfl | (simp_all; done)) (by rfl) (fun _ _ h k => h.ext k) (fun hcg w hw => hri hw.laid))) | fail) ?_ | refine xl_alloc (fun _ => ?_) | refine xl_box rfl (fun _ => ?_) | refine xl_store rfl rfl ?_) | refine wc_ret rfl ?_)
    refine wc_cond rfl (fun hc => ?_) (fun hc => ?_)
    · have hn : readP s = none := by
        rw [hrd, if_neg]
        rintro ⟨h1, h2⟩
        rw [h1, h2] at hc
        revert hc
        decide
      repeat' (first | (first | refine wc_seq ?_ | refine wc_region ?_ | refine wl_nil ?_ | refine wn_seq ?_ | refine wn_blk ?_ | refine wc_skip ?_ | refine wc_block ?_ | refine wc_exit rfl ?_ | (show WL _ _ (_ :: _) _ _ _ _; first | refine wl_v rfl rfl rfl (by first | (show OpV _ _ _ _ (Oper.mk _ (Op.move _) _ _ _ _) _ _; exact xo_move rfl) | (show OpV _ _ _ _ (Oper.mk _ (Op.assign _) _ _ _ _) _ _; exact xo_assign rfl) | (show OpV _ _ _ _ (Oper.mk _ (Op.pick _ _ _) _ _ _ _) _ _; first | exact xo_and rfl rfl | exact xo_or rfl rfl) | (show OpV _ _ _ _ (Oper.mk _ (Op.extract _ _) _ _ _ _) _ _; exact xo_extract rfl) | (show OpV _ _ _ _ (Oper.mk _ (Op.unOp _ _ _) _ _ _ _) _ _; exact xo_not rfl) | (show OpV _ _ _ _ (Oper.mk _ (Op.binOp BinOp.neq _ _ _ _) _ _ _ _) _ _; first | exact xo_neq rfl rfl | exact xo_sneq rfl rfl | exact xo_bneq rfl rfl | exact xo_aneq rfl rfl) | (show OpV _ _ _ _ (Oper.mk _ (Op.fieldAddr _ _ _) _ _ _ _) _ _; exact xo_fieldAddr rfl) | (show OpV _ _ _ _ (Oper.mk _ (Op.load _ _) _ _ _ _) _ _; first | exact xo_load1 rfl | exact xo_loadS rfl) | (show OpV _ _ _ _ (Oper.mk _ (Op.build _ _) _ _ _ _) _ _; exact xo_build rfl) | (show OpV _ _ _ _ (Oper.mk _ (Op.nilCheck _) _ _ _ _) _ _; exact xo_nilCheck rfl)) ?_ | refine wl_v rfl rfl rfl (by first  | fail) ?_ | refine xl_alloc (fun _ => ?_) | refine xl_box rfl (fun _ => ?_) | refine xl_store rfl rfl ?_) | refine wc_ret rfl ?_) | (show WC _ (Code.cond _ _ _) _ _ _ _; (refine wc_cond rfl (fun hc => ?_) (fun hc => ?_) <;> (try (simp only [decide_eq_true_eq, decide_eq_false_iff_not, Bool.and_eq_true, Bool.or_eq_true, Bool.and_eq_false_iff, Bool.or_eq_false_iff, Bool.not_eq_true', Bool.not_eq_false', Int.not_lt, Int.not_le] at hc)) <;> (try (exfalso; first | omega | contradiction)))))
      exact wr_layC2 (Hn := []) rfl rfl rfl rfl (by first | exact List.Mem.head _ | exact List.Mem.tail _ (List.Mem.head _) | exact List.Mem.tail _ (List.Mem.tail _ (List.Mem.head _)) | exact List.Mem.tail _ (List.Mem.tail _ (List.Mem.tail _ (List.Mem.head _))) | exact List.Mem.tail _ (List.Mem.tail _ (List.Mem.tail _ (List.Mem.tail _ (List.Mem.head _)))) | exact List.mem_append_right _ (List.Mem.head _) | exact List.mem_append_right _ (List.Mem.tail _ (List.Mem.head _)) | exact List.mem_append_right _ (List.Mem.tail _ (List.Mem.tail _ (List.Mem.head _))) | exact List.mem_append_right _ (List.Mem.tail _ (List.Mem.tail _ (List.Mem.tail _ (List.Mem.head _)))) | exact List.Mem.tail _ (List.mem_append_right _ (List.Mem.head _)) | exact List.Mem.tail _ (List.mem_append_right _ (List.Mem.tail _ (List.Mem.head _))) | exact List.Mem.tail _ (List.mem_append_right _ (List.Mem.tail _ (List.Mem.tail _ (List.Mem.head _)))) | exact List.Mem.tail _ (List.mem_append_right _ (List.Mem.tail _ (List.Mem.tail _ (List.Mem.tail _ (List.Mem.head _))))) | exact List.Mem.tail _ (List.Mem.tail _ (List.mem_append_right _ (List.Mem.head _))) | exact List.Mem.tail _ (List.Mem.tail _ (List.mem_append_right _ (List.Mem.tail _ (List.Mem.head _)))) | exact List.Mem.tail _ (List.Mem.tail _ (List.mem_append_right _ (List.Mem.tail _ (List.Mem.tail _ (List.Mem.head _)))))) rfl hM1 (List.nil_sublist _) ⟨rfl, readN_no hn⟩
    · have hy : readP s = some x := by
        rw [hrd, if_pos]
        simp only [Bool.or_eq_false_iff, Bool.not_eq_false', decide_eq_true_eq, Bool.not_true, true_and] at hc
        exact hc
      repeat' (first | (first | refine wc_seq ?_ | refine wc_region ?_ | refine wl_nil ?_ | refine wn_seq ?_ | refine wn_blk ?_ | refine wc_skip ?_ | refine wc_block ?_ | refine wc_exit rfl ?_ | (show WL _ _ (_ :: _) _ _ _ _; first | refine wl_v rfl rfl rfl (by first | (show OpV _ _ _ _ (Oper.mk _ (Op.move _) _ _ _ _) _ _; exact xo_move rfl) | (show OpV _ _ _ _ (Oper.mk _ (Op.assign _) _ _ _ _) _ _; exact xo_assign rfl) | (show OpV _ _ _ _ (Oper.mk _ (Op.pick _ _ _) _ _ _ _) _ _; first | exact xo_and rfl rfl | exact xo_or rfl rfl) | (show OpV _ _ _ _ (Oper.mk _ (Op.extract _ _) _ _ _ _) _ _; exact xo_extract rfl) | (show OpV _ _ _ _ (Oper.mk _ (Op.unOp _ _ _) _ _ _ _) _ _; exact xo_not rfl) | (show OpV _ _ _ _ (Oper.mk _ (Op.binOp BinOp.neq _ _ _ _) _ _ _ _) _ _; first | exact xo_neq rfl rfl | exact xo_sneq rfl rfl | exact xo_bneq rfl rfl | exact xo_aneq rfl rfl) | (show OpV _ _ _ _ (Oper.mk _ (Op.fieldAddr _ _ _) _ _ _ _) _ _; exact xo_fieldAddr rfl) | (show OpV _ _ _ _ (Oper.mk _ (Op.load _ _) _ _ _ _) _ _; first | exact xo_load1 rfl | exact xo_loadS rfl) | (show OpV _ _ _ _ (Oper.mk _ (Op.build _ _) _ _ _ _) _ _; exact xo_build rfl) | (show OpV _ _ _ _ (Oper.mk _ (Op.nilCheck _) _ _ _ _) _ _; exact xo_nilCheck rfl)) ?_ | refine wl_v rfl rfl rfl (by first  | fail) ?_ | refine xl_alloc (fun _ => ?_) | refine xl_box rfl (fun _ => ?_) | refine xl_store rfl rfl ?_) | refine wc_ret rfl ?_) | (show WC _ (Code.cond _ _ _) _ _ _ _; (refine wc_cond rfl (fun hc => ?_) (fun hc => ?_) <;> (try (simp only [decide_eq_true_eq, decide_eq_false_iff_not, Bool.and_eq_true, Bool.or_eq_true, Bool.and_eq_false_iff, Bool.or_eq_false_iff, Bool.not_eq_true', Bool.not_eq_false', Int.not_lt, Int.not_le] at hc)) <;> (try (exfalso; first | omega | contradiction)))))
      refine wr_layC2 (Hn := []) rfl rfl rfl rfl (by first | exact List.Mem.head _ | exact List.Mem.tail _ (List.Mem.head _) | exact List.Mem.tail _ (List.Mem.tail _ (List.Mem.head _)) | exact List.Mem.tail _ (List.Mem.tail _ (List.Mem.tail _ (List.Mem.head _))) | exact List.Mem.tail _ (List.Mem.tail _ (List.Mem.tail _ (List.Mem.tail _ (List.Mem.head _)))) | exact List.mem_append_right _ (List.Mem.head _) | exact List.mem_append_right _ (List.Mem.tail _ (List.Mem.head _)) | exact List.mem_append_right _ (List.Mem.tail _ (List.Mem.tail _ (List.Mem.head _))) | exact List.mem_append_right _ (List.Mem.tail _ (List.Mem.tail _ (List.Mem.tail _ (List.Mem.head _)))) | exact List.Mem.tail _ (List.mem_append_right _ (List.Mem.head _)) | exact List.Mem.tail _ (List.mem_append_right _ (List.Mem.tail _ (List.Mem.head _))) | exact List.Mem.tail _ (List.mem_append_right _ (List.Mem.tail _ (List.Mem.tail _ (List.Mem.head _)))) | exact List.Mem.tail _ (List.mem_append_right _ (List.Mem.tail _ (List.Mem.tail _ (List.Mem.tail _ (List.Mem.head _))))) | exact List.Mem.tail _ (List.Mem.tail _ (List.mem_append_right _ (List.Mem.head _))) | exact List.Mem.tail _ (List.Mem.tail _ (List.mem_append_right _ (List.Mem.tail _ (List.Mem.head _)))) | exact List.Mem.tail _ (List.Mem.tail _ (List.mem_append_right _ (List.Mem.tail _ (List.Mem.tail _ (List.Mem.head _)))))) rfl hM1 (List.nil_sublist _) ⟨rfl, ?_⟩
      unfold ReadN
      rw [hy]
      exact ⟨_, rfl, NodeC.mono (fun _ _ => .inl) hnode⟩
set_option maxHeartbeats 1000000 in
theorem rread_ok (hM : Laid M w) (s : List UInt8) (hs : s.length ≤ 1000000) : Calls Tryd.prog 14 #[str s] w (RetS M w (fun M' H v => H = [] ∧ ReadN s M' v)) := by
  refine calls_st (l := [str s]) hM Tryd.func14 rfl rfl rfl (E0 := [(0, true, str s)]) (params_cons rfl (params_nil _)) ?_
  repeat' (first | (first | refine wc_seq ?_ | refine wc_region ?_ | refine wl_nil ?_ | refine wn_seq ?_ | refine wn_blk ?_ | refine wc_skip ?_ | refine wc_block ?_ | refine wc_exit rfl ?_ | (show WL _ _ (_ :: _) _ _ _ _; first | refine wl_v rfl rfl rfl (by first | (show OpV _ _ _ _ (Oper.mk _ (Op.move _) _ _ _ _) _ _; exact xo_move rfl) | (show OpV _ _ _ _ (Oper.mk _ (Op.assign _) _ _ _ _) _ _; exact xo_assign rfl) | (show OpV _ _ _ _ (Oper.mk _ (Op.extract _ _) _ _ _ _) _ _; exact xo_extract rfl) | (show OpV _ _ _ _ (Oper.mk _ (Op.call ⟨.builtin .len, _, _⟩) _ _ _ _) _ _; first | exact xo_slen rfl | exact xo_len rfl) | (show OpV _ _ _ _ (Oper.mk _ (Op.unOp _ _ _) _ _ _ _) _ _; exact xo_not rfl) | (show OpV _ _ _ _ (Oper.mk _ (Op.binOp BinOp.neq _ _ _ _) _ _ _ _) _ _; first | exact xo_neq rfl rfl | exact xo_sneq rfl rfl | exact xo_bneq rfl rfl | exact xo_aneq rfl rfl) | (show OpV _ _ _ _ (Oper.mk _ (Op.load _ _) _ _ _ _) _ _; first | exact xo_load1 rfl | exact xo_loadS rfl) | (show OpV _ _ _ _ (Oper.mk _ (Op.build _ _) _ _ _ _) _ _; exact xo_build rfl)) ?_ | refine wl_v rfl rfl rfl (by first  | fail) ?_ | refine xl_alloc (fun _ => ?_) | refine xl_store rfl rfl ?_) | refine wc_ret rfl ?_) | (show WC _ (Code.cond _ _ _) _ _ _ _; (refine wc_cond rfl (fun hc => ?_) (fun hc => ?_) <;> (try (simp only [decide_eq_true_eq, decide_eq_false_iff_not, Bool.and_eq_true, Bool.or_eq_true, Bool.and_eq_false_iff, Bool.or_eq_false_iff, Bool.not_eq_true', Bool.not_eq_false', Int.not_lt, Int.not_le] at hc)) <;> (try (exfalso; first | omega | contradiction)))))
  refine wl_callS rfl Tryd.call30 rfl rfl rfl rfl (fun w hw => refelem_ok 8 1 rfl (by omega) M s 0 w hw.laid hs (by omega)) ?_
  rintro v3 H3 M1 hm3 hn3 ⟨rfl, hR⟩
  have hM1 : Since w M M1 := Since.refl.step hm3 hn3
  unfold RelemIs at hR
  rw [List.drop_zero] at hR
  cases hx : elemP 8 s with
  | none =>
    rw [hx] at hR
    simp only at hR
    obtain ⟨n', a1, l1, c1, t', a2, l2, c2, rfl⟩ := hR
    have hn : readP s = none := by unfold readP; rw [hx]
    repeat' (first | (first | refine wc_seq ?_ | refine wc_region ?_ | refine wl_nil ?_ | refine wn_seq ?_ | refine wn_blk ?_ | refine wc_skip ?_ | refine wc_block ?_ | refine wc_exit rfl ?_ | (show WL _ _ (_ :: _) _ _ _ _; first | refine wl_v rfl rfl rfl (by first | (show OpV _ _ _ _ (Oper.mk _ (Op.move _) _ _ _ _) _ _; exact xo_move rfl) | (show OpV _ _ _ _ (Oper.mk _ (Op.assign _) _ _ _ _) _ _; exact xo_assign rfl) | (show OpV _ _ _ _ (Oper.mk _ (Op.extract _ _) _ _ _ _) _ _; exact xo_extract rfl) | (show OpV _ _ _ _ (Oper.mk _ (Op.call ⟨.builtin .len, _, _⟩) _ _ _ _) _ _; first | exact xo_slen rfl | exact xo_len rfl) | (show OpV _ _ _ _ (Oper.mk _ (Op.unOp _ _ _) _ _ _ _) _ _; exact xo_not rfl) | (show OpV _ _ _ _ (Oper.mk _ (Op.binOp BinOp.neq _ _ _ _) _ _ _ _) _ _; first | exact xo_neq rfl rfl | exact xo_sneq rfl rfl | exact xo_bneq rfl rfl | exact xo_aneq rfl rfl) | (show OpV _ _ _ _ (Oper.mk _ (Op.load _ _) _ _ _ _) _ _; first | exact xo_load1 rfl | exact xo_loadS rfl) | (show OpV _ _ _ _ (Oper.mk _ (Op.build _ _) _ _ _ _) _ _; exact xo_build rfl)) ?_ | refine wl_v rfl rfl rfl (by first  | fail) ?_ | refine xl_alloc (fun _ => ?_) | refine xl_store rfl rfl ?_) | refine wc_ret rfl ?_) | (show WC _ (Code.cond _ _ _) _ _ _ _; (refine wc_cond rfl (fun hc => ?_) (fun hc => ?_) <;> (try (simp only [decide_eq_true_eq, decide_eq_false_iff_not, Bool.and_eq_true, Bool.or_eq_true, Bool.and_eq_false_iff, Bool.or_eq_false_iff, Bool.not_eq_true', Bool.not_eq_false', Int.not_lt, Int.not_le] at hc)) <;> (try (exfalso; first | omega | contradiction)))))
    exact wr_layC2 (Hn := []) rfl rfl rfl rfl (by first | exact List.Mem.head _ | exact List.Mem.tail _ (List.Mem.head _) | exact List.Mem.tail _ (List.Mem.tail _ (List.Mem.head _)) | exact List.Mem.tail _ (List.Mem.tail _ (List.Mem.tail _ (List.Mem.head _))) | exact List.Mem.tail _ (List.Mem.tail _ (List.Mem.tail _ (List.Mem.tail _ (List.Mem.head _)))) | exact List.mem_append_right _ (List.Mem.head _) | exact List.mem_append_right _ (List.Mem.tail _ (List.Mem.head _)) | exact List.mem_append_right _ (List.Mem.tail _ (List.Mem.tail _ (List.Mem.head _))) | exact List.mem_append_right _ (List.Mem.tail _ (List.Mem.tail _ (List.Mem.tail _ (List.Mem.head _)))) | exact List.Mem.tail _ (List.mem_append_right _ (List.Mem.head _)) | exact List.Mem.tail _ (List.mem_append_right _ (List.Mem.tail _ (List.Mem.head _))) | exact List.Mem.tail _ (List.mem_append_right _ (List.Mem.tail _ (List.Mem.tail _ (List.Mem.head _)))) | exact List.Mem.tail _ (List.mem_append_right _ (List.Mem.tail _ (List.Mem.tail _ (List.Mem.tail _ (List.Mem.head _))))) | exact List.Mem.tail _ (List.Mem.tail _ (List.mem_append_right _ (List.Mem.head _))) | exact List.Mem.tail _ (List.Mem.tail _ (List.mem_append_right _ (List.Mem.tail _ (List.Mem.head _)))) | exact List.Mem.tail _ (List.Mem.tail _ (List.mem_append_right _ (List.Mem.tail _ (List.Mem.tail _ (List.Mem.head _)))))) rfl hM1 (List.nil_sublist _) ⟨rfl, readN_no hn⟩
  | some p =>
    obtain ⟨x, r⟩ := p
    rw [hx] at hR
    simp only at hR
    obtain ⟨vs, n, rfl, hnode, hnl, rfl⟩ := hR
    have hrd : readP s = if s.drop n = [] ∧ rightN x = true then some x else none := by unfold readP; rw [hx]
    have hri := fun {w : World} (hw : Laid M1 w) => rright_ok hw hnode
    obtain ⟨un, ua1, ul1, uc1, ut, ua2, ul2, uc2, rfl⟩ := node_open hnode
    repeat' (first | (first | refine wc_seq ?_ | refine wc_region ?_ | refine wl_nil ?_ | refine wn_seq ?_ | refine wn_blk ?_ | refine wc_skip ?_ | refine wc_block ?_ | refine wc_exit rfl ?_ | (show WL _ _ (_ :: _) _ _ _ _; first | refine wl_v rfl rfl rfl (by first | (show OpV _ _ _ _ (Oper.mk _ (Op.move _) _ _ _ _) _ _; exact xo_move rfl) | (show OpV _ _ _ _ (Oper.mk _ (Op.assign _) _ _ _ _) _ _; exact xo_assign rfl) | (show OpV _ _ _ _ (Oper.mk _ (Op.extract _ _) _ _ _ _) _ _; exact xo_extract rfl) | (show OpV _ _ _ _ (Oper.mk _ (Op.call ⟨.builtin .len, _, _⟩) _ _ _ _) _ _; first | exact xo_slen rfl | exact xo_len rfl) | (show OpV _ _ _ _ (Oper.mk _ (Op.unOp _ _ _) _ _ _ _) _ _; exact xo_not rfl) | (show OpV _ _ _ _ (Oper.mk _ (Op.binOp BinOp.neq _ _ _ _) _ _ _ _) _ _; first | exact xo_neq rfl rfl | exact xo_sneq rfl rfl | exact xo_bneq rfl rfl | exact xo_aneq rfl rfl) | (show OpV _ _ _ _ (Oper.mk _ (Op.load _ _) _ _ _ _) _ _; first | exact xo_load1 rfl | exact xo_loadS rfl) | (show OpV _ _ _ _ (Oper.mk _ (Op.build _ _) _ _ _ _) _ _; exact xo_build rfl)) ?_ | refine wl_v rfl rfl rfl (by first | ((show OpV _ _ _ _ (Oper.mk _ (Op.call ⟨.value (.func 31), _, _⟩) _ _ _ _) _ _; exact ov_call Tryd.call31 rfl (by intro himp; first | rfl | (simp_all; done)) (by rfl) (fun _ _ h k => h.ext k) (fun hcg w hw => hri hw.laid))) | fail) ?_ | refine xl_alloc (fun _ => ?_) | refine xl_store rfl rfl ?_) | refine wc_ret rfl ?_) | (show WC _ (Code.cond _ _ _) _ _ _ _; (refine wc_cond rfl (fun hc => ?_) (fun hc => ?_) <;> (try (simp only [decide_eq_true_eq, decide_eq_false_iff_not, Bool.and_eq_true, Bool.or_eq_true, Bool.and_eq_false_iff, Bool.or_eq_false_iff, Bool.not_eq_true', Bool.not_eq_false', Int.not_lt, Int.not_le] at hc)) <;> (try (exfalso; first | omega | contradiction)))))
    · have hn : readP s = none := by
        rw [hrd, if_neg]
        rintro ⟨h1, h2⟩
        have := congrArg List.length h1
        rw [List.length_drop, List.length_nil] at this
        omega
      exact wr_layC2 (Hn := []) rfl rfl rfl rfl (by first | exact List.Mem.head _ | exact List.Mem.tail _ (List.Mem.head _) | exact List.Mem.tail _ (List.Mem.tail _ (List.Mem.head _)) | exact List.Mem.tail _ (List.Mem.tail _ (List.Mem.tail _ (List.Mem.head _))) | exact List.Mem.tail _ (List.Mem.tail _ (List.Mem.tail _ (List.Mem.tail _ (List.Mem.head _)))) | exact List.mem_append_right _ (List.Mem.head _) | exact List.mem_append_right _ (List.Mem.tail _ (List.Mem.head _)) | exact List.mem_append_right _ (List.Mem.tail _ (List.Mem.tail _ (List.Mem.head _))) | exact List.mem_append_right _ (List.Mem.tail _ (List.Mem.tail _ (List.Mem.tail _ (List.Mem.head _)))) | exact List.Mem.tail _ (List.mem_append_right _ (List.Mem.head _)) | exact List.Mem.tail _ (List.mem_append_right _ (List.Mem.tail _ (List.Mem.head _))) | exact List.Mem.tail _ (List.mem_append_right _ (List.Mem.tail _ (List.Mem.tail _ (List.Mem.head _)))) | exact List.Mem.tail _ (List.mem_append_right _ (List.Mem.tail _ (List.Mem.tail _ (List.Mem.tail _ (List.Mem.head _))))) | exact List.Mem.tail _ (List.Mem.tail _ (List.mem_append_right _ (List.Mem.head _))) | exact List.Mem.tail _ (List.Mem.tail _ (List.mem_append_right _ (List.Mem.tail _ (List.Mem.head _)))) | exact List.Mem.tail _ (List.Mem.tail _ (List.mem_append_right _ (List.Mem.tail _ (List.Mem.tail _ (List.Mem.head _)))))) rfl hM1 (List.nil_sublist _) ⟨rfl, readN_no hn⟩
    · have hn : readP s = none := by
        rw [hrd, if_neg]
        rintro ⟨h1, h2⟩
        rw [h2] at hc; cases hc
      exact wr_layC2 (Hn := []) rfl rfl rfl rfl (by first | exact List.Mem.head _ | exact List.Mem.tail _ (List.Mem.head _) | exact List.Mem.tail _ (List.Mem.tail _ (List.Mem.head _)) | exact List.Mem.tail _ (List.Mem.tail _ (List.Mem.tail _ (List.Mem.head _))) | exact List.Mem.tail _ (List.Mem.tail _ (List.Mem.tail _ (List.Mem.tail _ (List.Mem.head _)))) | exact List.mem_append_right _ (List.Mem.head _) | exact List.mem_append_right _ (List.Mem.tail _ (List.Mem.head _)) | exact List.mem_append_right _ (List.Mem.tail _ (List.Mem.tail _ (List.Mem.head _))) | exact List.mem_append_right _ (List.Mem.tail _ (List.Mem.tail _ (List.Mem.tail _ (List.Mem.head _)))) | exact List.Mem.tail _ (List.mem_append_right _ (List.Mem.head _)) | exact List.Mem.tail _ (List.mem_append_right _ (List.Mem.tail _ (List.Mem.head _))) | exact List.Mem.tail _ (List.mem_append_right _ (List.Mem.tail _ (List.Mem.tail _ (List.Mem.head _)))) | exact List.Mem.tail _ (List.mem_append_right _ (List.Mem.tail _ (List.Mem.tail _ (List.Mem.tail _ (List.Mem.head _))))) | exact List.Mem.tail _ (List.Mem.tail _ (List.mem_append_right _ (List.Mem.head _))) | exact List.Mem.tail _ (List.Mem.tail _ (List.mem_append_right _ (List.Mem.tail _ (List.Mem.head _)))) | exact List.Mem.tail _ (List.Mem.tail _ (List.mem_append_right _ (List.Mem.tail _ (List.Mem.tail _ (List.Mem.head _)))))) rfl hM1 (List.nil_sublist _) ⟨rfl, readN_no hn⟩
    · have hy : readP s = some x := by
        rw [hrd, if_pos ⟨List.drop_eq_nil_of_le (by omega), hc⟩]
      refine wr_layC2 (Hn := []) rfl rfl rfl rfl (by first | exact List.Mem.head _ | exact List.Mem.tail _ (List.Mem.head _) | exact List.Mem.tail _ (List.Mem.tail _ (List.Mem.head _)) | exact List.Mem.tail _ (List.Mem.tail _ (List.Mem.tail _ (List.Mem.head _))) | exact List.Mem.tail _ (List.Mem.tail _ (List.Mem.tail _ (List.Mem.tail _ (List.Mem.head _)))) | exact List.mem_append_right _ (List.Mem.head _) | exact List.mem_append_right _ (List.Mem.tail _ (List.Mem.head _)) | exact List.mem_append_right _ (List.Mem.tail _ (List.Mem.tail _ (List.Mem.head _))) | exact List.mem_append_right _ (List.Mem.tail _ (List.Mem.tail _ (List.Mem.tail _ (List.Mem.head _)))) | exact List.Mem.tail _ (List.mem_append_right _ (List.Mem.head _)) | exact List.Mem.tail _ (List.mem_append_right _ (List.Mem.tail _ (List.Mem.head _))) | exact List.Mem.tail _ (List.mem_append_right _ (List.Mem.tail _ (List.Mem.tail _ (List.Mem.head _)))) | exact List.Mem.tail _ (List.mem_append_right _ (List.Mem.tail _ (List.Mem.tail _ (List.Mem.tail _ (List.Mem.head _))))) | exact List.Mem.tail _ (List.Mem.tail _ (List.mem_append_right _ (List.Mem.head _))) | exact List.Mem.tail _ (List.Mem.tail _ (List.mem_append_right _ (List.Mem.tail _ (List.Mem.head _)))) | exact List.Mem.tail _ (List.Mem.tail _ (List.mem_append_right _ (List.Mem.tail _ (List.Mem.tail _ (List.Mem.head _)))))) rfl hM1 (List.nil_sublist _) ⟨rfl, ?_⟩
      unfold ReadN
      rw [hy]
      exact ⟨_, rfl, NodeC.mono (fun _ _ => .inl) hnode⟩
end Go.Proofs.YtnfkbbkojgbbeaaDoor
/-
  The chapter's example; the walks of XmlTexts, XmlReads.
-/
namespace Go.Proofs.YtnfkbbkojgbbeaaDoor
open Go.Eng Go.Pct Go.Xml Go.Rsp
set_option maxRecDepth 10000
set_option linter.unusedSimpArgs false
set_option linter.unusedVariables false

variable {M : Ghost} {w0 w : World} {bs : List Nat} {H : List (Nat × Obj)}
theorem readN_open {s : List UInt8} {M' : Ghost} {v : Value} (h : ReadN s M' v) : ∃ n a1 l1 c1 t a2 l2 c2 e, v = .tuple #[.agg [str n, .slice a1 l1 c1, str t, .slice a2 l2 c2].toArray, i64 e] ∧ NodeC M' 8 ((readP s).getD nodeZ) [str n, .slice a1 l1 c1, str t, .slice a2 l2 c2] ∧ e = (if (readP s).isSome then 0 else 10) := by
  obtain ⟨vs, rfl, hn⟩ := h
  obtain ⟨un, ua1, ul1, uc1, ut, ua2, ul2, uc2, rfl⟩ := node_open hn
  exact ⟨_, _, _, _, _, _, _, _, _, rfl, hn, rfl⟩
theorem readN_yes {s : List UInt8} {x : Nd} {M' : Ghost} {v : Value} (hx : readP s = some x) (h : ReadN s M' v) : ∃ n a1 l1 c1 t a2 l2 c2, v = .tuple #[.agg [str n, .slice a1 l1 c1, str t, .slice a2 l2 c2].toArray, i64 0] ∧ NodeC M' 8 x [str n, .slice a1 l1 c1, str t, .slice a2 l2 c2] := by
  obtain ⟨n, a1, l1, c1, t, a2, l2, c2, e, h1, h2, h3⟩ := readN_open h
  rw [hx] at h2 h3
  subst h3
  exact ⟨_, _, _, _, _, _, _, _, h1, h2⟩
theorem slP_lit {e b : Nat} {l : List Pr} (h : M b (.cells (cellsP l).toArray e (0, 0))) (hl : l.length ≤ 1000) : SlP M (.slice (some ⟨b, 0, none⟩) l.length l.length) l :=
  (OwnS.lit (e := e) (b := b) (cellsP_length l) (Nat.le_trans hl (by decide))).slP (fun p hp => by
    rw [List.mem_singleton] at hp; subst hp; exact h) (by omega)
def xa : Nd := .mk [97] [([120], [49])] [60, 38] []
def xaT : List UInt8 := [60, 97, 32, 120, 61, 34, 49, 34, 62, 38, 108, 116, 59, 38, 97, 109, 112, 59, 60, 47, 97, 62]
theorem xa_right : rightN xa = true := by decide +kernel
theorem xa_text : textN xa = xaT := by decide +kernel
theorem xa_read : readP xaT = some xa := by rw [← xa_text]; exact readP_back xa_right
theorem xa_res : resW xa = .tuple #[str xaT, i64 0] := by unfold resW; rw [xa_right, xa_text]; rfl
theorem sameN_self (x : Nd) : sameN x x = true := sameN_refl x
set_option maxHeartbeats 1000000 in
theorem awake_ok (hG : Glob M) (hM : Laid M w) : Calls Tryd.prog 8 #[] w (RetE w (.bool true)) := by
  refine calls_st (l := []) hM Tryd.func8 rfl rfl rfl (E0 := []) (params_nil _) ?_
  repeat' (first | refine wc_seq ?_ | refine wc_region ?_ | refine wl_nil ?_ | refine wn_seq ?_ | refine wn_blk ?_ | refine wc_skip ?_ | refine wc_block ?_ | refine wc_exit rfl ?_ | (show WL _ _ (_ :: _) _ _ _ _; first | refine wl_v rfl rfl rfl (by first | (show OpV _ _ _ _ (Oper.mk _ (Op.move _) _ _ _ _) _ _; exact xo_move rfl) | (show OpV _ _ _ _ (Oper.mk _ (Op.assign _) _ _ _ _) _ _; exact xo_assign rfl) | (show OpV _ _ _ _ (Oper.mk _ (Op.pick _ _ _) _ _ _ _) _ _; first | exact xo_and rfl rfl | exact xo_or rfl rfl) | (show OpV _ _ _ _ (Oper.mk _ (Op.extract _ _) _ _ _ _) _ _; exact xo_extract rfl) | (show OpV _ _ _ _ (Oper.mk _ (Op.binOp BinOp.eql _ _ _ _) _ _ _ _) _ _; first | exact xo_eql rfl rfl | exact xo_seql rfl rfl | exact xo_beql rfl rfl | exact xo_aeql rfl rfl) | (show OpV _ _ _ _ (Oper.mk _ (Op.load _ _) _ _ _ _) _ _; first | exact xo_load1 rfl | exact xo_loadS rfl) | (show OpV _ _ _ _ (Oper.mk _ (Op.build _ _) _ _ _ _) _ _; exact xo_build rfl)) ?_ | refine wl_v rfl rfl rfl (by first  | fail) ?_ | refine xl_alloc (fun _ => ?_) | refine xl_store rfl rfl ?_ | refine xl_buildSlice rfl (fun _ => ?_)) | refine wc_ret rfl ?_)
  rename_i b7 b1
  refine wl_weak (C' := St w [] ([(b7, .cells [str [120], str [49]].toArray 39 (0, 0))] ++ [(b1, .cells [str [97], .slice (some ⟨b7, 0, none⟩) 1 1, str [60, 38], .slice none 0 0].toArray 31 (0, 0))]) M) (Eng.Sub.refl _) (fun _ h => h.perm (List.Perm.swap _ _ _)) ?_
  refine wl_publish (fun hn => ?_)
  have hM1 : ∀ b o, M b o → With M [(b7, .cells [str [120], str [49]].toArray 39 (0, 0))] b o := fun _ _ => .inl
  have hsl : SlP (With M [(b7, .cells [str [120], str [49]].toArray 39 (0, 0))]) (.slice (some ⟨b7, 0, none⟩) 1 1) [([120], [49])] := slP_lit (e := 39) (l := [([120], [49])]) (.inr (List.Mem.head _)) (by decide)
  have hG1 := hG.mono hM1
  generalize With M [(b7, .cells [str [120], str [49]].toArray 39 (0, 0))] = M1 at *
  have hx : NodeC M1 8 xa [str [97], .slice (some ⟨b7, 0, none⟩) 1 1, str [60, 38], .slice none 0 0] := ⟨_, _, rfl, hsl, sl_nil, by decide, by decide, by decide⟩
  have hwr := fun {w : World} (hw : Laid M1 w) => write_ok hG1 hw hx (by rw [xa_text]; decide)
  rw [xa_res] at hwr
  repeat' (first | refine wc_seq ?_ | refine wc_region ?_ | refine wl_nil ?_ | refine wn_seq ?_ | refine wn_blk ?_ | refine wc_skip ?_ | refine wc_block ?_ | refine wc_exit rfl ?_ | (show WL _ _ (_ :: _) _ _ _ _; first | refine wl_v rfl rfl rfl (by first | (show OpV _ _ _ _ (Oper.mk _ (Op.move _) _ _ _ _) _ _; exact xo_move rfl) | (show OpV _ _ _ _ (Oper.mk _ (Op.assign _) _ _ _ _) _ _; exact xo_assign rfl) | (show OpV _ _ _ _ (Oper.mk _ (Op.pick _ _ _) _ _ _ _) _ _; first | exact xo_and rfl rfl | exact xo_or rfl rfl) | (show OpV _ _ _ _ (Oper.mk _ (Op.extract _ _) _ _ _ _) _ _; exact xo_extract rfl) | (show OpV _ _ _ _ (Oper.mk _ (Op.binOp BinOp.eql _ _ _ _) _ _ _ _) _ _; first | exact xo_eql rfl rfl | exact xo_seql rfl rfl | exact xo_beql rfl rfl | exact xo_aeql rfl rfl) | (show OpV _ _ _ _ (Oper.mk _ (Op.load _ _) _ _ _ _) _ _; first | exact xo_load1 rfl | exact xo_loadS rfl) | (show OpV _ _ _ _ (Oper.mk _ (Op.build _ _) _ _ _ _) _ _; exact xo_build rfl)) ?_ | refine wl_v rfl rfl rfl (by first | ((show OpV _ _ _ _ (Oper.mk _ (Op.call ⟨.value (.func 18), _, _⟩) _ _ _ _) _ _; exact ov_call Tryd.call18 rfl (by intro himp; first | rfl | (simp_all; done)) (by rfl) (fun _ _ h k => h.ext k) (fun hcg w hw => hwr hw.laid))) | fail) ?_ | refine xl_alloc (fun _ => ?_) | refine xl_store rfl rfl ?_ | refine xl_buildSlice rfl (fun _ => ?_)) | refine wc_ret rfl ?_)
  refine wl_callS rfl Tryd.call13 rfl rfl rfl rfl (fun w hw => xread_ok hG1 hw.laid xaT (by decide)) ?_
  rintro v2 H2 M2 hm2 hn2 ⟨rfl, hR⟩
  obtain ⟨n, a1, l1, c1, t, a2, l2, c2, rfl, hy⟩ := readN_yes xa_read hR
  have hsm := fun {w : World} (hw : Laid M2 w) => rsame_ok hy (NodeC.mono hm2 hx) w hw
  rw [sameN_self] at hsm
  repeat' (first | (first | refine wc_seq ?_ | refine wc_region ?_ | refine wl_nil ?_ | refine wn_seq ?_ | refine wn_blk ?_ | refine wc_skip ?_ | refine wc_block ?_ | refine wc_exit rfl ?_ | (show WL _ _ (_ :: _) _ _ _ _; first | refine wl_v rfl rfl rfl (by first | (show OpV _ _ _ _ (Oper.mk _ (Op.move _) _ _ _ _) _ _; exact xo_move rfl) | (show OpV _ _ _ _ (Oper.mk _ (Op.assign _) _ _ _ _) _ _; exact xo_assign rfl) | (show OpV _ _ _ _ (Oper.mk _ (Op.pick _ _ _) _ _ _ _) _ _; first | exact xo_and rfl rfl | exact xo_or rfl rfl) | (show OpV _ _ _ _ (Oper.mk _ (Op.extract _ _) _ _ _ _) _ _; exact xo_extract rfl) | (show OpV _ _ _ _ (Oper.mk _ (Op.binOp BinOp.eql _ _ _ _) _ _ _ _) _ _; first | exact xo_eql rfl rfl | exact xo_seql rfl rfl | exact xo_beql rfl rfl | exact xo_aeql rfl rfl) | (show OpV _ _ _ _ (Oper.mk _ (Op.load _ _) _ _ _ _) _ _; first | exact xo_load1 rfl | exact xo_loadS rfl) | (show OpV _ _ _ _ (Oper.mk _ (Op.build _ _) _ _ _ _) _ _; exact xo_build rfl)) ?_ | refine wl_v rfl rfl rfl (by first | ((show OpV _ _ _ _ (Oper.mk _ (Op.call ⟨.value (.func 15), _, _⟩) _ _ _ _) _ _; exact ov_call Tryd.call15 rfl (by intro himp; first | rfl | (simp_all; done)) (by rfl) (fun _ _ h k => h.ext k) (fun hcg w hw => hsm hw.laid))) | fail) ?_ | refine xl_alloc (fun _ => ?_) | refine xl_store rfl rfl ?_ | refine xl_buildSlice rfl (fun _ => ?_)) | refine wc_ret rfl ?_) | (show WC _ (Code.cond _ _ _) _ _ _ _; (refine wc_cond rfl (fun hc => ?_) (fun hc => ?_) <;> (try (simp only [decide_eq_true_eq, decide_eq_false_iff_not, Bool.and_eq_true, Bool.or_eq_true, Bool.and_eq_false_iff, Bool.or_eq_false_iff, Bool.not_eq_true', Bool.not_eq_false', Int.not_lt, Int.not_le] at hc)) <;> (try (exfalso; first | omega | contradiction)))))
  exact wr_weak (fun _ h => h.drop (List.nil_sublist _)) (wr_weak (fun _ h => St.less h (fun b o hb => hm2 b o hb)) (wr_tmp rfl rfl rfl))
theorem texts_ok (hG : Glob M) (hM : Laid M w) (s : List UInt8) : Calls Tryd.prog 3 #[str s] w (RetE w (.bool true)) := by
  refine calls_st (l := [str s]) hM Tryd.func3 rfl rfl rfl (E0 := [(0, true, str s)]) (params_cons rfl (params_nil _)) ?_
  repeat' (first | (first | refine wc_seq ?_ | refine wc_region ?_ | refine wl_nil ?_ | refine wn_seq ?_ | refine wn_blk ?_ | refine wc_skip ?_ | refine wc_block ?_ | refine wc_exit rfl ?_ | (show WL _ _ (_ :: _) _ _ _ _; first | refine wl_v rfl rfl rfl (by first | (show OpV _ _ _ _ (Oper.mk _ (Op.move _) _ _ _ _) _ _; exact xo_move rfl) | (show OpV _ _ _ _ (Oper.mk _ (Op.assign _) _ _ _ _) _ _; exact xo_assign rfl) | (show OpV _ _ _ _ (Oper.mk _ (Op.pick _ _ _) _ _ _ _) _ _; first | exact xo_and rfl rfl | exact xo_or rfl rfl) | (show OpV _ _ _ _ (Oper.mk _ (Op.extract _ _) _ _ _ _) _ _; exact xo_extract rfl) | (show OpV _ _ _ _ (Oper.mk _ (Op.call ⟨.builtin .len, _, _⟩) _ _ _ _) _ _; first | exact xo_slen rfl | exact xo_len rfl) | (show OpV _ _ _ _ (Oper.mk _ (Op.binOp BinOp.eql _ _ _ _) _ _ _ _) _ _; first | exact xo_eql rfl rfl | exact xo_seql rfl rfl | exact xo_beql rfl rfl | exact xo_aeql rfl rfl) | (show OpV _ _ _ _ (Oper.mk _ (Op.binOp BinOp.gtr _ _ _ _) _ _ _ _) _ _; exact xo_gtr rfl rfl)) ?_ | refine wl_v rfl rfl rfl (by first | ((show OpV _ _ _ _ (Oper.mk _ (Op.call ⟨.value (.func 8), _, _⟩) _ _ _ _) _ _; exact ov_call Tryd.call8 rfl (by intro himp; first | rfl | (simp_all; done)) (by rfl) (fun _ _ h k => h.ext k) (fun hcg w hw => awake_ok hG hw.laid))) | fail) ?_) | refine wc_ret rfl ?_) | (show WC _ (Code.cond _ _ _) _ _ _ _; (refine wc_cond rfl (fun hc => ?_) (fun hc => ?_) <;> (try (simp only [decide_eq_true_eq, decide_eq_false_iff_not, Bool.and_eq_true, Bool.or_eq_true, Bool.and_eq_false_iff, Bool.or_eq_false_iff, Bool.not_eq_true', Bool.not_eq_false', Int.not_lt, Int.not_le] at hc)) <;> (try (exfalso; first | omega | contradiction)))))
  · exact wr_tmp rfl rfl rfl
  have h1 := fun {w : World} (hw : Laid M w) => unescape_ok hG hw s (by omega)
  have h2 := fun {w : World} (hw : Laid M w) => runescape_ok hw s (by omega)
  have h3 := fun {w : World} (hw : Laid M w) => escape_ok hG hw s (by omega)
  have h4 := fun {w : World} (hw : Laid M w) => rescape_ok hw s (by omega)
  unfold resU at h1 h2
  generalize (unescQ s).getD [] = u at *
  generalize (if (unescQ s).isSome then (0 : Int) else 10) = e at *
  generalize esc s = x at *
  repeat' (first | (first | refine wc_seq ?_ | refine wc_region ?_ | refine wl_nil ?_ | refine wn_seq ?_ | refine wn_blk ?_ | refine wc_skip ?_ | refine wc_block ?_ | refine wc_exit rfl ?_ | (show WL _ _ (_ :: _) _ _ _ _; first | refine wl_v rfl rfl rfl (by first | (show OpV _ _ _ _ (Oper.mk _ (Op.move _) _ _ _ _) _ _; exact xo_move rfl) | (show OpV _ _ _ _ (Oper.mk _ (Op.assign _) _ _ _ _) _ _; exact xo_assign rfl) | (show OpV _ _ _ _ (Oper.mk _ (Op.pick _ _ _) _ _ _ _) _ _; first | exact xo_and rfl rfl | exact xo_or rfl rfl) | (show OpV _ _ _ _ (Oper.mk _ (Op.extract _ _) _ _ _ _) _ _; exact xo_extract rfl) | (show OpV _ _ _ _ (Oper.mk _ (Op.call ⟨.builtin .len, _, _⟩) _ _ _ _) _ _; first | exact xo_slen rfl | exact xo_len rfl) | (show OpV _ _ _ _ (Oper.mk _ (Op.binOp BinOp.eql _ _ _ _) _ _ _ _) _ _; first | exact xo_eql rfl rfl | exact xo_seql rfl rfl | exact xo_beql rfl rfl | exact xo_aeql rfl rfl) | (show OpV _ _ _ _ (Oper.mk _ (Op.binOp BinOp.gtr _ _ _ _) _ _ _ _) _ _; exact xo_gtr rfl rfl)) ?_ | refine wl_v rfl rfl rfl (by first | ((show OpV _ _ _ _ (Oper.mk _ (Op.call ⟨.value (.func 9), _, _⟩) _ _ _ _) _ _; exact ov_call Tryd.call9 rfl (by intro himp; first | rfl | (simp_all; done)) (by rfl) (fun _ _ h k => h.ext k) (fun hcg w hw => h1 hw.laid))) | ((show OpV _ _ _ _ (Oper.mk _ (Op.call ⟨.value (.func 10), _, _⟩) _ _ _ _) _ _; exact ov_call Tryd.call10 rfl (by intro himp; first | rfl | (simp_all; done)) (by rfl) (fun _ _ h k => h.ext k) (fun hcg w hw => h2 hw.laid))) | ((show OpV _ _ _ _ (Oper.mk _ (Op.call ⟨.value (.func 11), _, _⟩) _ _ _ _) _ _; exact ov_call Tryd.call11 rfl (by intro himp; first | rfl | (simp_all; done)) (by rfl) (fun _ _ h k => h.ext k) (fun hcg w hw => h3 hw.laid))) | ((show OpV _ _ _ _ (Oper.mk _ (Op.call ⟨.value (.func 12), _, _⟩) _ _ _ _) _ _; exact ov_call Tryd.call12 rfl (by intro himp; first | rfl | (simp_all; done)) (by rfl) (fun _ _ h k => h.ext k) (fun hcg w hw => h4 hw.laid))) | fail) ?_) | refine wc_ret rfl ?_) | (show WC _ (Code.cond _ _ _) _ _ _ _; (refine wc_cond rfl (fun hc => ?_) (fun hc => ?_) <;> (try (simp only [decide_eq_true_eq, decide_eq_false_iff_not, Bool.and_eq_true, Bool.or_eq_true, Bool.and_eq_false_iff, Bool.or_eq_false_iff, Bool.not_eq_true', Bool.not_eq_false', Int.not_lt, Int.not_le] at hc)) <;> (try (exfalso; first | omega | contradiction)))))
  exact wr_tmp rfl rfl rfl
theorem reads_ok (hG : Glob M) (hM : Laid M w) (s : List UInt8) : Calls Tryd.prog 4 #[str s] w (RetE w (.bool true)) := by
  refine calls_st (l := [str s]) hM Tryd.func4 rfl rfl rfl (E0 := [(0, true, str s)]) (params_cons rfl (params_nil _)) ?_
  repeat' (first | (first | refine wc_seq ?_ | refine wc_region ?_ | refine wl_nil ?_ | refine wn_seq ?_ | refine wn_blk ?_ | refine wc_skip ?_ | refine wc_block ?_ | refine wc_exit rfl ?_ | (show WL _ _ (_ :: _) _ _ _ _; first | refine wl_v rfl rfl rfl (by first | (show OpV _ _ _ _ (Oper.mk _ (Op.move _) _ _ _ _) _ _; exact xo_move rfl) | (show OpV _ _ _ _ (Oper.mk _ (Op.assign _) _ _ _ _) _ _; exact xo_assign rfl) | (show OpV _ _ _ _ (Oper.mk _ (Op.pick _ _ _) _ _ _ _) _ _; first | exact xo_and rfl rfl | exact xo_or rfl rfl) | (show OpV _ _ _ _ (Oper.mk _ (Op.extract _ _) _ _ _ _) _ _; exact xo_extract rfl) | (show OpV _ _ _ _ (Oper.mk _ (Op.call ⟨.builtin .len, _, _⟩) _ _ _ _) _ _; first | exact xo_slen rfl | exact xo_len rfl) | (show OpV _ _ _ _ (Oper.mk _ (Op.binOp BinOp.eql _ _ _ _) _ _ _ _) _ _; first | exact xo_eql rfl rfl | exact xo_seql rfl rfl | exact xo_beql rfl rfl | exact xo_aeql rfl rfl) | (show OpV _ _ _ _ (Oper.mk _ (Op.binOp BinOp.gtr _ _ _ _) _ _ _ _) _ _; exact xo_gtr rfl rfl) | (show OpV _ _ _ _ (Oper.mk _ (Op.load _ _) _ _ _ _) _ _; first | exact xo_load1 rfl | exact xo_loadS rfl)) ?_ | refine wl_v rfl rfl rfl (by first | ((show OpV _ _ _ _ (Oper.mk _ (Op.call ⟨.value (.func 8), _, _⟩) _ _ _ _) _ _; exact ov_call Tryd.call8 rfl (by intro himp; first | rfl | (simp_all; done)) (by rfl) (fun _ _ h k => h.ext k) (fun hcg w hw => awake_ok hG hw.laid))) | fail) ?_ | refine xl_alloc (fun _ => ?_) | refine xl_store rfl rfl ?_) | refine wc_ret rfl ?_) | (show WC _ (Code.cond _ _ _) _ _ _ _; (refine wc_cond rfl (fun hc => ?_) (fun hc => ?_) <;> (try (simp only [decide_eq_true_eq, decide_eq_false_iff_not, Bool.and_eq_true, Bool.or_eq_true, Bool.and_eq_false_iff, Bool.or_eq_false_iff, Bool.not_eq_true', Bool.not_eq_false', Int.not_lt, Int.not_le] at hc)) <;> (try (exfalso; first | omega | contradiction)))))
  · exact wr_tmp rfl rfl rfl
  refine wl_callS rfl Tryd.call13 rfl rfl rfl rfl (fun w hw => xread_ok hG hw.laid s (by omega)) ?_
  rintro v1 H1 M1 hm1 hn1 ⟨rfl, hR1⟩
  obtain ⟨n, a1, l1, c1, t, a2, l2, c2, e, rfl, hx, he⟩ := readN_open hR1
  repeat' (first | (first | refine wc_seq ?_ | refine wc_region ?_ | refine wl_nil ?_ | refine wn_seq ?_ | refine wn_blk ?_ | refine wc_skip ?_ | refine wc_block ?_ | refine wc_exit rfl ?_ | (show WL _ _ (_ :: _) _ _ _ _; first | refine wl_v rfl rfl rfl (by first | (show OpV _ _ _ _ (Oper.mk _ (Op.move _) _ _ _ _) _ _; exact xo_move rfl) | (show OpV _ _ _ _ (Oper.mk _ (Op.assign _) _ _ _ _) _ _; exact xo_assign rfl) | (show OpV _ _ _ _ (Oper.mk _ (Op.pick _ _ _) _ _ _ _) _ _; first | exact xo_and rfl rfl | exact xo_or rfl rfl) | (show OpV _ _ _ _ (Oper.mk _ (Op.extract _ _) _ _ _ _) _ _; exact xo_extract rfl) | (show OpV _ _ _ _ (Oper.mk _ (Op.call ⟨.builtin .len, _, _⟩) _ _ _ _) _ _; first | exact xo_slen rfl | exact xo_len rfl) | (show OpV _ _ _ _ (Oper.mk _ (Op.binOp BinOp.eql _ _ _ _) _ _ _ _) _ _; first | exact xo_eql rfl rfl | exact xo_seql rfl rfl | exact xo_beql rfl rfl | exact xo_aeql rfl rfl) | (show OpV _ _ _ _ (Oper.mk _ (Op.binOp BinOp.gtr _ _ _ _) _ _ _ _) _ _; exact xo_gtr rfl rfl) | (show OpV _ _ _ _ (Oper.mk _ (Op.load _ _) _ _ _ _) _ _; first | exact xo_load1 rfl | exact xo_loadS rfl)) ?_ | refine wl_v rfl rfl rfl (by first  | fail) ?_ | refine xl_alloc (fun _ => ?_) | refine xl_store rfl rfl ?_) | refine wc_ret rfl ?_) | (show WC _ (Code.cond _ _ _) _ _ _ _; (refine wc_cond rfl (fun hc => ?_) (fun hc => ?_) <;> (try (simp only [decide_eq_true_eq, decide_eq_false_iff_not, Bool.and_eq_true, Bool.or_eq_true, Bool.and_eq_false_iff, Bool.or_eq_false_iff, Bool.not_eq_true', Bool.not_eq_false', Int.not_lt, Int.not_le] at hc)) <;> (try (exfalso; first | omega | contradiction)))))
  refine wl_callS rfl Tryd.call14 rfl rfl rfl rfl (fun w hw => rread_ok hw.laid s (by omega)) ?_
  rintro v2 H2 M2 hm2 hn2 ⟨rfl, hR2⟩
  obtain ⟨n', b1, m1, d1, t', b2, m2, d2, e', rfl, hy, he'⟩ := readN_open hR2
  obtain rfl : e' = e := by rw [he, he']
  clear he he'
  have hsm := fun {w : World} (hw : Laid M2 w) => rsame_ok (NodeC.mono hm2 hx) hy w hw
  rw [sameN_self] at hsm
  repeat' (first | (first | refine wc_seq ?_ | refine wc_region ?_ | refine wl_nil ?_ | refine wn_seq ?_ | refine wn_blk ?_ | refine wc_skip ?_ | refine wc_block ?_ | refine wc_exit rfl ?_ | (show WL _ _ (_ :: _) _ _ _ _; first | refine wl_v rfl rfl rfl (by first | (show OpV _ _ _ _ (Oper.mk _ (Op.move _) _ _ _ _) _ _; exact xo_move rfl) | (show OpV _ _ _ _ (Oper.mk _ (Op.assign _) _ _ _ _) _ _; exact xo_assign rfl) | (show OpV _ _ _ _ (Oper.mk _ (Op.pick _ _ _) _ _ _ _) _ _; first | exact xo_and rfl rfl | exact xo_or rfl rfl) | (show OpV _ _ _ _ (Oper.mk _ (Op.extract _ _) _ _ _ _) _ _; exact xo_extract rfl) | (show OpV _ _ _ _ (Oper.mk _ (Op.call ⟨.builtin .len, _, _⟩) _ _ _ _) _ _; first | exact xo_slen rfl | exact xo_len rfl) | (show OpV _ _ _ _ (Oper.mk _ (Op.binOp BinOp.eql _ _ _ _) _ _ _ _) _ _; first | exact xo_eql rfl rfl | exact xo_seql rfl rfl | exact xo_beql rfl rfl | exact xo_aeql rfl rfl) | (show OpV _ _ _ _ (Oper.mk _ (Op.binOp BinOp.gtr _ _ _ _) _ _ _ _) _ _; exact xo_gtr rfl rfl) | (show OpV _ _ _ _ (Oper.mk _ (Op.load _ _) _ _ _ _) _ _; first | exact xo_load1 rfl | exact xo_loadS rfl)) ?_ | refine wl_v rfl rfl rfl (by first | ((show OpV _ _ _ _ (Oper.mk _ (Op.call ⟨.value (.func 15), _, _⟩) _ _ _ _) _ _; exact ov_call Tryd.call15 rfl (by intro himp; first | rfl | (simp_all; done)) (by rfl) (fun _ _ h k => h.ext k) (fun hcg w hw => hsm hw.laid))) | fail) ?_ | refine xl_alloc (fun _ => ?_) | refine xl_store rfl rfl ?_) | refine wc_ret rfl ?_) | (show WC _ (Code.cond _ _ _) _ _ _ _; (refine wc_cond rfl (fun hc => ?_) (fun hc => ?_) <;> (try (simp only [decide_eq_true_eq, decide_eq_false_iff_not, Bool.and_eq_true, Bool.or_eq_true, Bool.and_eq_false_iff, Bool.or_eq_false_iff, Bool.not_eq_true', Bool.not_eq_false', Int.not_lt, Int.not_le] at hc)) <;> (try (exfalso; first | omega | contradiction)))))
  exact wr_weak (fun _ h => h.drop (List.nil_sublist _)) (wr_tmp rfl rfl rfl)
end Go.Proofs.YtnfkbbkojgbbeaaDoor
/-
  Arguments opened: what the reading of an argument says of memory, with the sizes that a row allows. Nothing of the program stands here.
-/
namespace Go.Eng
open Go.RowKit Go.ChangeShapes Go.WideShapes

/-- all that stands in a world -/
def All (W : World) : Ghost := fun b o => W.heap[b]? = some o
theorem all_laid (W : World) : Laid (All W) W := fun _ _ h => h
theorem cell_inv {W : World} {g i : Nat} {v : Value} (h : W.cell? ⟨g, i, none⟩ = some v) : ∃ cs T fz, W.heap[g]? = some (.cells cs T fz) ∧ cs[i]? = some v := by
  unfold World.cell? at h
  split at h
  · rename_i cs T fz e; exact ⟨cs, T, fz, e, by simpa using h⟩
  · cases h
/-- a datum's sizes -/
def Wt {H : Type} (P : Program) (t : TypeId) (d : DataW H) : Prop := ∀ n ∈ d.weights P t, n ≤ reachBytes
/-- how the cells of a type open -/
structure Opens (P : Program) (w : World) (t : TypeId) {α : Type} (R : α → List Value → Prop) : Prop where
  go : ∀ {H : Type} (enc : TypeId × Value → H) (fuel : Nat) (cs : List Value) (d : DataW H) (ps : List MemPlace), DataW.trod enc P w 0 (fun _ => true) true fuel t cs = some (d, ps) → Wt P t d → ∃ x, R x cs
section
variable {P : Program} {w : World} {t : TypeId}
theorem str_of (s : ByteArray) : Value.string s = str s.data.toList := by cases s; simp
theorem opens_str (ht : P.underlying t = some .string) : Opens P w t (fun s vs => vs = [str s] ∧ s.length ≤ reachBytes) := ⟨fun enc fuel cs d ps h hw => by
  obtain ⟨s, e1, e2, _⟩ := DataW.trod_string ht h
  simp only [Prod.mk.injEq] at e2
  refine ⟨s.data.toList, by rw [e1, str_of], ?_⟩
  exact hw _ (by rw [e2.1]; simp [DataW.weights])⟩
theorem opens_bool (ht : P.underlying t = some .bool) : Opens P w t (fun b vs => vs = [.bool b]) := ⟨fun enc fuel cs d ps h hw => by
  cases fuel with
  | zero => simp [DataW.trod] at h
  | succ n =>
    unfold DataW.trod at h
    rw [ht] at h
    split at h <;> simp_all⟩
theorem opens_int {k : IntKind} (ht : P.underlying t = some (.int k)) : Opens P w t (fun z vs => vs = [.int k z] ∧ k.min ≤ z ∧ z ≤ k.max) := ⟨fun enc fuel cs d ps h hw => by
  obtain ⟨z, e1, _, hwf⟩ := DataW.trod_int ht h
  refine ⟨z, e1, ?_⟩
  simpa [Lit.wf] using hwf⟩
theorem wt_all {H : Type} {e : TypeId} {d : DataW H} : ∀ {ds : List (DataW H)}, d ∈ ds → ∀ n ∈ d.weights P e, n ∈ DataW.weightsAll P e ds
  | x :: ds, hd, n, hn => by
    simp only [DataW.weightsAll, List.mem_append]
    rcases List.mem_cons.1 hd with rfl | hd
    · exact .inl hn
    · exact .inr (wt_all hd n hn)
theorem opens_slice {e : TypeId} {m : Nat} {α : Type} {R : α → List Value → Prop} (ht : P.underlying t = some (.slice e)) (hc : P.cellsOf e = m) (hm : 0 < m) (he : Opens P w e R) :
    Opens P w t (fun (l : List α) vs => ∃ v, vs = [v] ∧ Sl (All w) m R v l ∧ l.length * P.bytesOf e ≤ reachBytes) := ⟨fun enc fuel cs d ps h hw => by
  rcases Go.Deep.open_slice ht h with ⟨rfl, _⟩ | ⟨a, len, cap, q, n, D, Pl, rfl, _, hl, hcm, hq, hx, hel⟩
  · exact ⟨[], _, rfl, sl_nil, by simp⟩
  · simp only [if_true] at hq
    subst hq
    simp only [Prod.mk.injEq] at hx
    have hwt : ∀ i, i < len → Wt P e (D i) := by
      intro i hi k hk
      refine hw k ?_
      rw [hx.1]
      simp only [DataW.weights, ht, List.mem_cons, List.mem_append]
      exact .inr (.inl (wt_all (List.mem_map.2 ⟨i, by simpa using hi, rfl⟩) k hk))
    have hbytes : len * P.bytesOf e ≤ reachBytes := by
      refine Nat.le_trans (Nat.mul_le_mul_right _ (Nat.le_add_right len (q - len))) (hw ((len + (q - len)) * P.bytesOf e) ?_)
      rw [hx.1]
      simp [DataW.weights, ht]
    have each : ∀ i, i < len → ∃ y : α, ∃ cs' : List Value, cs'.length = m ∧ R y cs' ∧ ∀ j, j < m → w.cell? (a.add (i * m + j)) = cs'[j]? := by
      intro i hi
      obtain ⟨cs', h1, h2⟩ := hel i (by omega)
      rw [hc] at h1
      obtain ⟨_, hlen, hcell⟩ := World.cells?_some h1
      obtain ⟨y, hy⟩ := he.go enc n cs' (D i) (Pl i) h2 (hwt i hi)
      exact ⟨y, cs', hlen, hy, fun j hj => by rw [← hcell j hj, Go.Deep.add_add]⟩
    have hmax : len ≤ 9223372036854775807 := by unfold maxLen at hcm; omega
    by_cases h0 : len = 0
    · subst h0
      exact ⟨[], _, rfl, ⟨some a, q, rfl, Nat.zero_le _, by simp, fun h => absurd rfl h⟩, by simp⟩
    · obtain ⟨y0, cs0, hl0, _, hc0⟩ := each 0 (by omega)
      have hc00 := hc0 0 hm
      have hsome : ∃ v, cs0[0]? = some v := ⟨cs0[0]'(by omega), by simp [show 0 < cs0.length by omega]⟩
      obtain ⟨v0, hv0⟩ := hsome
      rw [hv0] at hc00
      simp only [Nat.zero_mul, Nat.add_zero, Addr.add, if_true] at hc00
      obtain ⟨b, o, spot⟩ := a
      cases spot with
      | some x =>
        simp only [World.cell?] at hc00
        split at hc00
        · simp at hc00
        · cases hc00
      | none =>
        obtain ⟨cells, T, fz, hh, _⟩ := cell_inv hc00
        have : ∀ n, n ≤ len → ∃ l : List α, l.length = n ∧ ∀ i (hi : i < l.length), ∃ vs, vs.length = m ∧ R l[i] vs ∧ ∀ j, j < m → cells[o + i * m + j]? = vs[j]? := by
          intro n
          induction n with
          | zero => intro _; exact ⟨[], rfl, fun i hi => absurd hi (by simp)⟩
          | succ n ih =>
            intro hn
            obtain ⟨l, hl', hall⟩ := ih (by omega)
            obtain ⟨y, cs', h1, h2, h3⟩ := each n (by omega)
            refine ⟨l ++ [y], by simp [hl'], fun i hi => ?_⟩
            by_cases hin : i < l.length
            · obtain ⟨vs, g1, g2, g3⟩ := hall i hin
              exact ⟨vs, g1, by rw [List.getElem_append_left hin]; exact g2, g3⟩
            · have : i = n := by simp at hi; omega
              subst this
              refine ⟨cs', h1, ?_, fun j hj => ?_⟩
              · rw [List.getElem_append_right (by omega)]; simpa using h2
              · rw [← h3 j hj]
                have hadd : ∀ k, (⟨b, o, none⟩ : Addr).add k = ⟨b, o + k, none⟩ := by
                  intro k; unfold Addr.add; split
                  · simp_all
                  · rfl
                rw [hadd, cell_of hh, Nat.add_assoc]
        obtain ⟨l, hl', hall⟩ := this len (Nat.le_refl _)
        subst hl'
        exact ⟨l, _, rfl, ⟨some ⟨b, o, none⟩, q, rfl, hl, hmax, fun _ => ⟨b, o, cells, T, fz, rfl, hh, hall⟩⟩, hbytes⟩⟩
theorem wt_each {H : Type} : ∀ {ts : List TypeId} {ds : List (DataW H)} {j : Nat} {t : TypeId} {d : DataW H}, ts[j]? = some t → ds[j]? = some d → (∀ n ∈ DataW.weightsEach P ts ds, n ≤ reachBytes) → Wt P t d :=
  fun ht hd h n hn => h n (DataW.weights_mem_each ht hd n hn)
/-- a struct whose fields are of one cell each -/
theorem open_fields {fs : Array Field} (ht : P.underlying t = some (.struct fs)) (hone : (fs.toList.zipIdx.all fun x => Nat.beq x.1.offset x.2 && Nat.beq (P.cellsOf x.1.type) 1) = true) (hct : P.cellsOf t = fs.size)
    {H : Type} (enc : TypeId × Value → H) (fuel : Nat) (cs : List Value) (d : DataW H) (ps : List MemPlace) (h : DataW.trod enc P w 0 (fun _ => true) true fuel t cs = some (d, ps)) (hw : Wt P t d) :
    cs.length = fs.size ∧ ∀ (i : Nat) (f : Field), fs[i]? = some f → ∃ v, cs[i]? = some v ∧ ∀ {α : Type} {R : α → List Value → Prop}, Opens P w f.type R → ∃ x, R x [v] := by
  obtain ⟨xs, n, rfl, e, hl, hxl, hf⟩ := DataW.trod_struct ht h
  simp only [Prod.mk.injEq] at e
  rw [hct] at hl
  refine ⟨hl, fun i f hfi => ?_⟩
  have hi : i < fs.size := by
    rcases Nat.lt_or_ge i fs.size with h' | h'
    · exact h'
    · simp [Array.getElem?_eq_none h'] at hfi
  have h1 := List.all_eq_true.1 hone (f, i) (by
    rw [List.mem_zipIdx_iff_getElem?]
    simpa using hfi)
  simp only [Bool.and_eq_true] at h1
  have ho : f.offset = i := Nat.eq_of_beq_eq_true h1.1
  have hc1 : P.cellsOf f.type = 1 := Nat.eq_of_beq_eq_true h1.2
  have hg := hf i f hfi
  have hcs : i < cs.length := by omega
  rw [ho, hc1, List.drop_eq_getElem_cons hcs, List.take_succ_cons, List.take_zero] at hg
  refine ⟨cs[i], by simp [hcs], fun {α R} hR => ?_⟩
  have hxi : i < xs.length := by omega
  rw [List.getElem?_eq_getElem hxi] at hg
  refine hR.go enc n [cs[i]] (xs[i]).1 (xs[i]).2 hg ?_
  intro k hk
  refine hw k ?_
  rw [e.1]
  simp only [DataW.weights, ht]
  exact DataW.weights_mem_each (j := i) (t := f.type) (d := (xs[i]).1) (by simp [hfi]) (by simp [hxi]) k hk
/-- a pair of texts -/
def IsPr (p : List UInt8 × List UInt8) (vs : List Value) : Prop := vs = [str p.1, str p.2] ∧ p.1.length ≤ reachBytes ∧ p.2.length ≤ reachBytes
theorem two_cells {cs : List Value} {v0 v1 : Value} (hl : cs.length = 2) (h0 : cs[0]? = some v0) (h1 : cs[1]? = some v1) : cs = [v0, v1] := by
  match cs, hl with
  | [a, b], _ => simp at h0 h1; rw [h0, h1]
theorem opens_pr {f0 f1 : Field} (ht : P.underlying t = some (.struct #[f0, f1])) (hone : ((#[f0, f1] : Array Field).toList.zipIdx.all fun x => Nat.beq x.1.offset x.2 && Nat.beq (P.cellsOf x.1.type) 1) = true) (hct : P.cellsOf t = 2)
    (t0 : P.underlying f0.type = some .string) (t1 : P.underlying f1.type = some .string) : Opens P w t IsPr := ⟨fun enc fuel cs d ps h hw => by
  obtain ⟨hl, hf⟩ := open_fields ht hone hct enc fuel cs d ps h hw
  obtain ⟨v0, e0, g0⟩ := hf 0 f0 rfl
  obtain ⟨v1, e1, g1⟩ := hf 1 f1 rfl
  obtain ⟨s0, k0, b0⟩ := g0 (opens_str t0)
  obtain ⟨s1, k1, b1⟩ := g1 (opens_str t1)
  simp only [List.cons.injEq, and_true] at k0 k1
  refine ⟨(s0, s1), ?_, b0, b1⟩
  rw [two_cells hl e0 e1, k0, k1]⟩
/-- an argument -/
theorem open_arg {α : Type} {R : α → List Value → Prop} (hR : Opens P w t R) {H : Type} {enc : TypeId × Value → H} {v : Value} {d : DataW H} {ps : List MemPlace} (h : DataW.Trod enc P w 0 (fun _ => true) true t v d ps) (hw : Wt P t d) : ∃ x, R x v.cells.toList := by
  obtain ⟨fuel, hf⟩ := h
  exact hR.go enc fuel _ d ps hf hw
theorem sl_slS {M : Ghost} {v : Value} {l : List (List UInt8)} (h : Sl M 1 (fun s vs => vs = [str s] ∧ s.length ≤ reachBytes) v l) : SlS M v l ∧ ∀ s ∈ l, s.length ≤ reachBytes := by
  refine ⟨h.mono (fun _ _ h => h) (fun _ _ _ h => h.1), fun s hs => ?_⟩
  obtain ⟨_, _, _, _, _, h4⟩ := h
  obtain ⟨b, o, cs, T, fz, _, _, h7⟩ := h4 (by rintro rfl; cases hs)
  obtain ⟨i, hi, rfl⟩ := List.mem_iff_getElem.1 hs
  obtain ⟨vs, _, hR, _⟩ := h7 i hi
  exact hR.2
theorem sl_slP {M : Ghost} {v : Value} {l : List (List UInt8 × List UInt8)} (h : Sl M 2 IsPr v l) : SlP M v l ∧ ∀ p ∈ l, p.1.length ≤ reachBytes ∧ p.2.length ≤ reachBytes := by
  refine ⟨h.mono (fun _ _ h => h) (fun _ _ _ h => h.1), fun s hs => ?_⟩
  obtain ⟨_, _, _, _, _, h4⟩ := h
  obtain ⟨b, o, cs, T, fz, _, _, h7⟩ := h4 (by rintro rfl; cases hs)
  obtain ⟨i, hi, rfl⟩ := List.mem_iff_getElem.1 hs
  obtain ⟨vs, _, hR, _⟩ := h7 i hi
  exact hR.2
end
end Go.Eng
/-
  The arguments of this program's laws, opened, with the sizes that a row allows.
-/
namespace Go.Proofs.YtnfkbbkojgbbeaaDoor
open Go.ChangeShapes Go.WideShapes Go.RowKit Go.Eng Go.Pct
set_option maxRecDepth 100000
set_option linter.unusedVariables false
set_option linter.unusedSimpArgs false

variable {H : Type} {enc : TypeId × Value → H} {W : World} {base : Nat} {v : Value} {d : DataW H} {ps : List MemPlace}
theorem reach_le {n : Nat} (h : n ≤ reachBytes) : n ≤ 140737488355328 := Nat.le_trans h (by decide)
theorem small_of {l : List Pr} (h : ∀ p ∈ l, p.1.length ≤ reachBytes ∧ p.2.length ≤ reachBytes) : Small 140737488355328 l := fun p hp => ⟨reach_le (h p hp).1, reach_le (h p hp).2⟩
theorem opn_str : Opens Tryd.prog W 9 (fun s vs => vs = [str s] ∧ s.length ≤ reachBytes) := opens_str Tryd.underlying9
theorem opn_pr : Opens Tryd.prog W 39 IsPr := opens_pr Tryd.underlying39 (by kernel_rfl) (by kernel_rfl) Tryd.underlying9 Tryd.underlying9
theorem opn_prs : Opens Tryd.prog W 28 (fun (l : List Pr) vs => ∃ v, vs = [v] ∧ Sl (All W) 2 IsPr v l ∧ l.length * Tryd.prog.bytesOf 39 ≤ reachBytes) := opens_slice Tryd.underlying28 (by kernel_rfl) (by decide) opn_pr

theorem arg_str (hval : Value.okWide Tryd.prog W .any base 9 v) (hd : DataW.Trod enc Tryd.prog W 0 (fun _ => true) true 9 v d ps) (hw : Wt Tryd.prog 9 d) : ∃ s, v = str s ∧ s.length ≤ reachBytes := by
  obtain ⟨s0, rfl⟩ := okWide_string Tryd.underlying9 hval
  obtain ⟨s, hs, hl⟩ := open_arg opn_str hd hw
  simp only [Value.cells, List.cons.injEq, and_true] at hs
  exact ⟨s, hs, hl⟩
theorem arg_bool (hval : Value.okWide Tryd.prog W .any base 4 v) : ∃ b, v = .bool b := okWide_bool Tryd.underlying4 hval
theorem arg_int (hval : Value.okWide Tryd.prog W .any base 3 v) (hd : DataW.Trod enc Tryd.prog W 0 (fun _ => true) true 3 v d ps) (hw : Wt Tryd.prog 3 d) : ∃ z : Int, v = i64 z ∧ -9223372036854775808 ≤ z ∧ z ≤ 9223372036854775807 := by
  obtain ⟨z0, rfl⟩ := okWide_int Tryd.underlying3 hval
  obtain ⟨z, hz, h1, h2⟩ := open_arg (opens_int Tryd.underlying3) hd hw
  simp only [Value.cells, List.cons.injEq, and_true] at hz
  exact ⟨z, hz, h1, h2⟩
theorem arg_u8 (hval : Value.okWide Tryd.prog W .any base 5 v) (hd : DataW.Trod enc Tryd.prog W 0 (fun _ => true) true 5 v d ps) (hw : Wt Tryd.prog 5 d) : ∃ c : UInt8, v = byt c := by
  obtain ⟨z0, rfl⟩ := okWide_int Tryd.underlying5 hval
  obtain ⟨z, hz, h1, h2⟩ := open_arg (opens_int Tryd.underlying5) hd hw
  simp only [Value.cells, List.cons.injEq, and_true] at hz
  rw [hz]
  have h1 : (0 : Int) ≤ z := h1
  have h2 : z ≤ 255 := h2
  refine ⟨UInt8.ofNat z.toNat, ?_⟩
  have h3 : ((UInt8.ofNat z.toNat).toNat : Int) = z := by
    have : z.toNat < 256 := by omega
    simp [Nat.mod_eq_of_lt this]; omega
  rw [byt, h3]
theorem arg_prs (hval : Value.okWide Tryd.prog W .any base 28 v) (hd : DataW.Trod enc Tryd.prog W 0 (fun _ => true) true 28 v d ps) (hw : Wt Tryd.prog 28 d) : ∃ l : List Pr, SlP (All W) v l ∧ Small 140737488355328 l := by
  obtain ⟨a0, len, cap, rfl⟩ := okWide_slice Tryd.underlying28 hval
  obtain ⟨l, u, hu, hl, _⟩ := open_arg opn_prs hd hw
  simp only [Value.cells, List.cons.injEq, and_true] at hu
  subst hu
  exact ⟨l, (sl_slP hl).1, small_of (sl_slP hl).2⟩
theorem arg_agg {t : TypeId} {fs : Array Field} (ht : Tryd.prog.underlying t = some (.struct fs)) (hval : Value.okWide Tryd.prog W .any base t v) : ∃ cs, v = .agg cs := by
  simp only [Value.okWide, ht] at hval
  obtain ⟨cs, h, _⟩ := hval
  exact ⟨cs, h⟩
theorem three_cells {cs : List Value} {v0 v1 v2 : Value} (hl : cs.length = 3) (h0 : cs[0]? = some v0) (h1 : cs[1]? = some v1) (h2 : cs[2]? = some v2) : cs = [v0, v1, v2] := by
  match cs, hl with
  | [a, b, c], _ => simp at h0 h1 h2; rw [h0, h1, h2]
theorem four_cells {cs : List Value} {v0 v1 v2 v3 : Value} (hl : cs.length = 4) (h0 : cs[0]? = some v0) (h1 : cs[1]? = some v1) (h2 : cs[2]? = some v2) (h3 : cs[3]? = some v3) : cs = [v0, v1, v2, v3] := by
  match cs, hl with
  | [a, b, c, d], _ => simp at h0 h1 h2 h3; rw [h0, h1, h2, h3]
end Go.Proofs.YtnfkbbkojgbbeaaDoor
/-
  The frames' common part: what a row's world holds; a world for the witness.
-/
namespace Go.Proofs.YtnfkbbkojgbbeaaDoor
open Go.ChangeShapes Go.WideShapes Go.ChangeAt Go.RowKit Go.Eng Go.Pct
set_option maxRecDepth 100000

theorem own : ownKnob Tryd.prog.godebug = none := by kernel_rfl
theorem gMarks : Tryd.prog.globalNamed "matricula/xml.marks" = some 0 := by kernel_rfl
theorem gMarksT : (Tryd.prog.globals[0]?).map (·.type) = some 53 := by kernel_rfl
theorem cellsPrM : Tryd.prog.cellsOf 39 = 2 := by kernel_rfl
theorem cellsStrM : Tryd.prog.cellsOf 9 = 1 := by kernel_rfl
def markD : DataW Unit := .agg [.agg [.lit (.string [38]), .lit (.string [38, 97, 109, 112, 59])], .agg [.lit (.string [60]), .lit (.string [38, 108, 116, 59])], .agg [.lit (.string [62]), .lit (.string [38, 103, 116, 59])], .agg [.lit (.string [34]), .lit (.string [38, 113, 117, 111, 116, 59])], .agg [.lit (.string [39]), .lit (.string [38, 35, 51, 57, 59])]]
theorem pair_cells {W : World} {fuel : Nat} {cs : List Value} {a b : List UInt8} {q : List MemPlace} (h : DataW.trod (fun _ => ()) Tryd.prog W 0 (fun _ => true) false fuel 39 cs = some (.agg [.lit (.string a), .lit (.string b)], q)) : cs[0]? = some (str a) ∧ cs[1]? = some (str b) := by
  obtain ⟨xs, n, rfl, hx, hl, hxl, hall⟩ := DataW.trod_struct Tryd.underlying39 h
  have hxs : xs.map (·.1) = [.lit (.string a), .lit (.string b)] := by
    have := congrArg Prod.fst hx
    simpa using this.symm
  match xs, hxs with
  | [x0, x1], hxs =>
    simp only [List.map_cons, List.map_nil, List.cons.injEq, and_true] at hxs
    have h0 := hall 0 _ rfl
    have h1 := hall 1 _ rfl
    obtain ⟨s0, e0, e0', _⟩ := DataW.trod_string Tryd.underlying9 h0
    obtain ⟨s1, e1, e1', _⟩ := DataW.trod_string Tryd.underlying9 h1
    have e0 : (cs.drop 0).take (Tryd.prog.cellsOf 9) = [.string s0] := e0
    have e1 : (cs.drop 1).take (Tryd.prog.cellsOf 9) = [.string s1] := e1
    rw [cellsStrM] at e0 e1
    obtain rfl : x0 = _ := e0'
    obtain rfl : x1 = _ := e1'
    simp only [DataW.lit.injEq, Lit.string.injEq] at hxs
    obtain ⟨rfl, rfl⟩ := hxs
    constructor
    · have := congrArg (·[0]?) e0
      simp only [List.getElem?_take, List.getElem?_drop] at this
      rw [if_pos (by decide)] at this
      rw [← str_of]
      simpa using this
    · have := congrArg (·[0]?) e1
      simp only [List.getElem?_take, List.getElem?_drop] at this
      rw [if_pos (by decide)] at this
      rw [← str_of]
      simpa using this
theorem marks_of {W : World} {rest : List (String × DataW Unit)} (h : laidMet Tryd.prog (("matricula/xml.marks", markD) :: rest) W) : ∃ cs T fz, All W 0 (.cells cs T fz) ∧ ∀ j, j < 10 → cs[j]? = markCells[j]? := by
  obtain ⟨ps, ⟨g', t', cs, fuel, p, q, hg', ht', hvar, hd, _, _⟩, _⟩ := h
  obtain rfl := Option.some.inj (gMarks.symm.trans hg')
  obtain rfl := Option.some.inj (gMarksT.symm.trans ht')
  have hcell : ∃ T fz, All W 0 (.cells cs T fz) := by
    unfold World.var? at hvar
    rw [gMarks, Option.bind_some] at hvar
    split at hvar
    · rename_i cs' T fz hh
      simp only [Option.some.injEq] at hvar
      exact ⟨T, fz, by rw [← hvar]; exact hh⟩
    · cases hvar
  obtain ⟨T, fz, hh⟩ := hcell
  refine ⟨cs, T, fz, hh, ?_⟩
  have key : ∀ i, i < 5 → cs[i * 2]? = markCells[i * 2]? ∧ cs[i * 2 + 1]? = markCells[i * 2 + 1]? := by
    intro i hi
    obtain ⟨f', d, q', h1, h2⟩ := Lib.array_elem Tryd.underlying53 hd i hi
    rw [cellsPrM] at h2
    have tail : ∀ (a b : List UInt8), d = .agg [.lit (.string a), .lit (.string b)] → cs[i * 2]? = some (str a) ∧ cs[i * 2 + 1]? = some (str b) := by
      rintro a b rfl
      obtain ⟨g0, g1⟩ := pair_cells h2
      simp only [List.getElem?_take, List.getElem?_drop] at g0 g1
      rw [if_pos (by decide)] at g0 g1
      exact ⟨by simpa using g0, by simpa using g1⟩
    match i, hi, h1, tail with
    | 0, _, h1, tail => cases h1; exact tail _ _ rfl
    | 1, _, h1, tail => cases h1; exact tail _ _ rfl
    | 2, _, h1, tail => cases h1; exact tail _ _ rfl
    | 3, _, h1, tail => cases h1; exact tail _ _ rfl
    | 4, _, h1, tail => cases h1; exact tail _ _ rfl
  intro j hj
  have e : j = j / 2 * 2 + j % 2 := by omega
  have h2 := key (j / 2) (by omega)
  rcases Nat.mod_two_eq_zero_or_one j with h | h
  · rw [h] at e; rw [e]; exact h2.1
  · rw [h] at e; rw [e]; exact h2.2
/-- what is asked of a row's list -/
structure Lists (l : List (String × DataW Unit)) : Prop where
  marks : l.filter (fun x => x.1 == "matricula/xml.marks") = [("matricula/xml.marks", markD)]
theorem glob_of {W : World} {l : List (String × DataW Unit)} (hl : Lists l) (h : laidMetH Tryd.prog l W) (hsh : W.ShapedOpen Tryd.prog) : Glob (All W) := by
  constructor
  · obtain ⟨m, hm⟩ := (Tryd.laysM219).s1_3 W hsh
    obtain ⟨cs, T, fz, hh, h2⟩ := cell_inv hm
    exact ⟨cs, T, fz, m, hh, h2⟩
  · have h1 := h.filter (fun x => x.1 == "matricula/xml.marks")
    rw [hl.marks, Go.MakeChecks.laidMetH_plain _ _ _ (by rfl)] at h1
    exact marks_of h1

theorem laidOut : laidOutB Tryd.prog = true := by kernel_rfl
theorem trodAll_below {H : Type} {enc : TypeId × Value → H} {P : Program} (hl : laidOutB P = true) {W W' : World} (hb : Below W.heap.size W W') : ∀ {ts : List TypeId} {vs : List Value} {ds : List (DataW H)} {ps : List MemPlace},
    (ts.all fun t => P.readableRec t && decide (t < P.types.size)) = true → DataW.TrodAll enc P W 0 (fun _ => true) true ts vs ds ps → (∀ x ∈ ps, x.block < W.heap.size) → DataW.TrodAll enc P W' 0 (fun b => decide (b < W.heap.size)) true ts vs ds ps
  | [], [], [], _, _, h, _ => h
  | _ :: _, _ :: _, _ :: _, _, hT, ⟨p, q, h1, h2, e⟩, hs => by
    simp only [List.all_cons, Bool.and_eq_true, decide_eq_true_eq] at hT
    exact ⟨p, q, Below.trod hl hT.1.1 hT.1.2 h1 hb (fun x hx => hs x (by rw [e]; exact List.mem_append_left _ hx)), trodAll_below hl hb hT.2 h2 (fun x hx => hs x (by rw [e]; exact List.mem_append_right _ hx)), e⟩
/-- what a table's datum lays -/
def cellsD : Nat → DataW Unit → List Value
  | 0, _ => []
  | n + 1, .agg l => l.flatMap (cellsD n)
  | _ + 1, .lit (.int k z) => [.int k z]
  | _ + 1, .lit (.string s) => [.string ⟨s.toArray⟩]
  | _, _ => []
def layAt (d : DataW Unit) : Obj → Obj
  | .cells _ t fz => .cells (cellsD 5 d).toArray t fz
  | o => o
/-- A world for the witness: the settled one, the tables holding what their initialisers lay. -/
noncomputable def laidWorld (os : Os) (l : List (String × DataW Unit)) : World :=
  { World.holding Tryd.prog os ⟨#[], #[], []⟩ with heap := l.foldl (fun h x => match Tryd.prog.globalNamed x.1 with | some g => h.modify g (layAt x.2) | none => h) (World.holding Tryd.prog os ⟨#[], #[], []⟩).heap }
theorem noStand (t : TypeId) (ts : Array TypeId) (h : ts.all (fun t => !Tryd.prog.wantsStandIn t) = true) (j : Nat) (ht : ts[j]? = some t) : Tryd.prog.wantsStandIn t = false := by
  have := (Array.all_eq_true'.1 h) t (Array.mem_of_getElem? ht)
  simpa using this
theorem sizes_of {H : Type} {ts us : List TypeId} {ds gs : List (DataW H)} (h : (DataW.weightsEach Tryd.prog (ts ++ us) (ds ++ gs)).all (· ≤ reachBytes) = true) {j : Nat} {t : TypeId} {d : DataW H} (ht : (ts ++ us)[j]? = some t) (hd : (ds ++ gs)[j]? = some d) : Wt Tryd.prog t d :=
  wt_each ht hd (fun n hn => by simpa using List.all_eq_true.1 h n hn)
end Go.Proofs.YtnfkbbkojgbbeaaDoor
/-
  The given statement of XmlReads: from the walk of XmlReads to the card.
-/
namespace Go.Proofs.YtnfkbbkojgbbeaaDoor
open Go.ChangeShapes Go.WideShapes Go.ChangeAt Go.RowKit Go.Eng Go.Pct
set_option maxRecDepth 100000

theorem xmlReads_lists : Lists Rows.xmlReadsRow.laid := by constructor <;> kernel_rfl
theorem xmlReads_contract (H : Type) (enc : TypeId × Value → H) (W : World) (base : Nat) (args : Array Value) (ds gs : List (DataW H)) (before : List MemPlace)
    (hval : ∀ (j : Nat) t v, Tryd.f4.params[j]? = some t → args[j]? = some v → Value.okWide Tryd.prog W .any base t v)
    (hW : DataW.Whole enc Tryd.prog Tryd.f4.params.toList Rows.xmlReadsSpec.vars false W args.toList ds gs before)
    (hz : (DataW.weightsEach Tryd.prog (Tryd.f4.params.toList ++ (OpenSpec.ofChange Rows.xmlReadsSpec).bare.plain.varTypes Tryd.prog) (ds ++ gs)).all (· ≤ reachBytes) = true) (hL : laidMetH Tryd.prog Rows.xmlReadsRow.laid W) (hsh : W.ShapedOpen Tryd.prog) :
    Calls Tryd.prog 4 args W fun e W' => ∃ v, e = .returned v ∧ Rows.xmlReadsSpec.post enc Tryd.prog Tryd.f4 false true false false W args v W' := by
  have hW' := hW
  obtain ⟨p, q, hA0, hV, rfl, hfz, hnd⟩ := hW
  have hAk : DataW.TrodAll enc Tryd.prog W 0 (fun _ => true) true Tryd.f4.params.toList args.toList ds p := hA0
  have hA := hAk
  rw [Tryd.params4] at hA hval hz
  obtain ⟨rfl, rfl⟩ := trodVars_none hV
  obtain ⟨v0, vs0, d0, ds0, p0, q0, hargs, rfl, hq0, h0, r0⟩ := trodAll_cons hA
  obtain ⟨rfl, rfl, hqn⟩ := trodAll_nil r0
  obtain rfl : args = #[v0] := by cases args; simp_all
  obtain ⟨s0, rfl, ks0⟩ := arg_str (hval 0 9 v0 rfl rfl) h0 (sizes_of (j := 0) hz rfl rfl)
  have hG := glob_of (W := W) xmlReads_lists hL hsh
  have walk := reads_ok hG (all_laid W) s0
  refine walk.mono fun e W' ⟨he, hg⟩ => ?_
  subst he
  have hb := hg.below
  refine ⟨_, rfl, ⟨_, _, _, [], _, [], hW', trodAll_mk1 (shut_bool Tryd.underlying4 _), trodAll_below laidOut hb (by kernel_rfl) hAk (fun x hx => ?_), rfl, hb.frame _, fun h => by cases h⟩⟩
  have := hW'.lt x (by simpa using hx)
  simpa using this

theorem xmlReads_laid (os : Os) : laidMet Tryd.prog Rows.xmlReadsRow.laid ((laidWorld os Rows.xmlReadsRow.laid).forCall (fun _ _ => 0) ⟨#[], #[.string ⟨#[]⟩], []⟩).memory :=
  laidMet_of_run' 8 (by kernel_rfl) (by kernel_rfl)
theorem xmlReads_reads (os : Os) {H : Type} (enc : TypeId × Value → H) : ∃ places, DataW.whole enc Tryd.prog ((laidWorld os Rows.xmlReadsRow.laid).forCall (fun _ _ => 0) ⟨#[], #[.string ⟨#[]⟩], []⟩).memory Tryd.f4.params.toList Rows.xmlReadsSpec.vars false (#[Value.string ⟨#[]⟩] : Array Value).toList 8 = some ([.lit (.string [])], [], places) :=
  ⟨[], by kernel_rfl⟩
theorem xmlReads_lifted (os : Os) (started : os.Started) (H : Type) (enc : TypeId × Value → H) (F : Stop.Interp) :
    ReturnsInHanded {} Tryd.checked os 4 .any ((OpenSpec.ofChange Rows.xmlReadsSpec).preRow enc Tryd.prog Tryd.f4 Rows.xmlReadsRow.domain false Rows.xmlReadsRow.laid) (((OpenSpec.ofChange Rows.xmlReadsSpec).at F).post enc Tryd.prog Tryd.f4 false true false false) := by
  obtain ⟨places, hx⟩ := xmlReads_reads os enc
  refine returnsInHanded_of_row (C := Tryd.checked) (s := OpenSpec.ofChange Rows.xmlReadsSpec) own started (by kernel_rfl) Tryd.func4
    (witness_row_at (enc := enc) (C := Tryd.checked) false (laidWorld os Rows.xmlReadsRow.laid) #[.string ⟨#[]⟩] rfl (by kernel_rfl) (by kernel_rfl) (by kernel_rfl)
      (OpenSpec.preRow_of_cond 8 hx (by kernel_rfl) (fun k hk => by cases hk) (by kernel_rfl) (xmlReads_laid os))) ?_
  intro W base args ds gs before hval hW _ _ hz hL hsh _
  exact xmlReads_contract H enc W base args ds gs before hval hW hz hL hsh
theorem xmlReads_said : Rows.XmlReadsSaid :=
  OpenClaim.holds_of_cond 4 Tryd.f4 rfl rfl rfl rfl rfl rfl rfl ⟨rfl, rfl, rfl, rfl, rfl⟩ rfl rfl rfl rfl rfl (by kernel_rfl) Tryd.func4 (by kernel_rfl)
    (of_decide_eq_true (by kernel_rfl)) (by unfold Func.isWrapper; first | (rw [if_pos (by decide +kernel)]; kernel_rfl) | (rw [if_neg (by decide +kernel)]; exact ⟨rfl, rfl⟩))
    (fun os started H enc _ F => by rw [OpenClaim.pre_eq_preRow]; exact xmlReads_lifted os started H enc F)
theorem xmlReads_plain (f : FuncId) (fn : Func) (hf : Tryd.pinned.checked.prog.funcNamed "matricula/matriculalaw06.XmlReads" = some f) (hfn : Tryd.pinned.checked.prog.funcs[f]? = some fn) :
    false = Tryd.pinned.checked.prog.looks [] ∧ ∀ (j : Nat) t, fn.params[j]? = some t → Tryd.pinned.checked.prog.wantsStandIn t = false := by
  obtain rfl : f = 4 := Option.some.inj ((show Tryd.prog.funcNamed "matricula/matriculalaw06.XmlReads" = some 4 by kernel_rfl).symm.trans hf) |>.symm
  obtain rfl : fn = Tryd.f4 := (Option.some.inj (Tryd.func4.symm.trans hfn)).symm
  refine ⟨by kernel_rfl, fun j t ht => ?_⟩
  rw [Tryd.params4] at ht
  exact noStand t _ (by kernel_rfl) j ht
/-- The given statement. -/
theorem xmlReads_card : Rows.XmlReadsCardSaid :=
  Claim7.holds_tied_plain_at .later [] _ _ _ _ xmlReads_said (fun _ h => by cases h) (by kernel_rfl) (fun _ h => by cases h) xmlReads_row_tie rfl ⟨rfl, rfl⟩ (by kernel_rfl) rfl xmlReads_plain (by kernel_rfl)
end Go.Proofs.YtnfkbbkojgbbeaaDoor
