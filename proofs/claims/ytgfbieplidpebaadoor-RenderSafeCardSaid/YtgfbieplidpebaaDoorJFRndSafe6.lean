/-
  The given statement RenderSafeCardSaidSaid of layer texts: it holds of the given program, for every input that the row speaks of; no further condition.
-/
import Derived.Deep.Slices
import Derived.ChangeSame
import Derived.SizedLaws
import Derived.WideShapes
import Derived.DataReads
import Derived.Test.YtgfbieplidpebaaDoorProg
import Derived.Test.YtgfbieplidpebaaDoorCards
import Derived.Test.YtgfbieplidpebaaDoorTie
import Derived.WalkKit
import Derived.ProofKit
import Derived.OpenShut
import Derived.ReadAgain
import Derived.MakeChecks
import Derived.LaidSub
import Derived.Deep.DeepHandedRow
import Derived.Carry
import Derived.SevenTiedAt
import Derived.Lib.LaidTab
import Derived.Lib.LaidU8
import Derived.Test.YtgfbieplidpebaaDoorJFRndSafe1
import Derived.Test.YtgfbieplidpebaaDoorJFRndSafe2
import Derived.Test.YtgfbieplidpebaaDoorJFRndSafe3
import Derived.Test.YtgfbieplidpebaaDoorJFRndSafe4
import Derived.Test.YtgfbieplidpebaaDoorJFRndSafe5
/-
  matricularef21.Code, Same; matricularef24.Few, Shown; matricularef05.Texts; matricularef06.Find.
-/
namespace Go.Proofs.YtgfbieplidpebaaDoor
open Go.Eng Go.Pct Go.Xml Go.Cas
set_option maxRecDepth 10000
set_option linter.unusedSimpArgs false
set_option linter.unusedVariables false

variable {M : Ghost} {w0 w : World} {bs : List Nat} {H : List (Nat × Obj)}
theorem rcode_ok (hM : Laid M w) (z : Int) : Calls Tryd.prog 15 #[i64 z] w (RetE w (str (codeE z))) := by
  refine calls_st (l := [i64 z]) hM Tryd.func15 rfl rfl rfl (E0 := [(0, true, i64 z)]) (params_cons rfl (params_nil _)) ?_
  repeat' (first | (first | refine wc_seq ?_ | refine wc_region ?_ | refine wl_nil ?_ | refine wn_seq ?_ | refine wn_blk ?_ | refine wc_skip ?_ | refine wc_block ?_ | refine wc_exit rfl ?_ | (show WL _ _ (_ :: _) _ _ _ _; first | refine yl_v rfl rfl rfl ?_ | refine wl_v rfl rfl rfl (by first  | fail) ?_) | refine wc_ret rfl ?_) | (show WC _ (Code.cond _ _ _) _ _ _ _; (refine wc_cond rfl (fun hc => ?_) (fun hc => ?_) <;> (try (simp only [decide_eq_true_eq, decide_eq_false_iff_not, Bool.and_eq_true, Bool.or_eq_true, Bool.and_eq_false_iff, Bool.or_eq_false_iff, Bool.not_eq_true', Bool.not_eq_false', Int.not_lt, Int.not_le] at hc)) <;> (try (exfalso; first | omega | contradiction)))))
  all_goals exact wr_tmp rfl rfl (by unfold codeE; simp [*] <;> rfl)
theorem txts_ok (hM : Laid M w) {u v : Value} {l m : List (List UInt8)} (hu : SlS M u l) (hv : SlS M v m) : Calls Tryd.prog 38 #[u, v] w (RetE w (.bool (decide (l = m)))) := by
  obtain ⟨a, cap, b, o, cs, T, fz, rfl, h1, h2, h3, h4⟩ := hu.open
  obtain ⟨a', cap', b', o', cs', T', fz', rfl, h1', h2', h3', h4'⟩ := hv.open
  refine calls_st (l := [.slice a l.length cap, .slice a' m.length cap']) hM Tryd.func38 rfl rfl rfl (E0 := [(0, true, .slice a l.length cap), (1, true, .slice a' m.length cap')]) (params_cons rfl (params_cons rfl (params_nil _))) ?_
  repeat' (first | (first | refine wc_seq ?_ | refine wc_region ?_ | refine wl_nil ?_ | refine wn_seq ?_ | refine wn_blk ?_ | refine wc_skip ?_ | refine wc_block ?_ | refine wc_exit rfl ?_ | (show WL _ _ (_ :: _) _ _ _ _; first | refine yl_v rfl rfl rfl ?_ | refine wl_v rfl rfl rfl (by first  | fail) ?_) | refine wc_ret rfl ?_) | (show WC _ (Code.cond _ _ _) _ _ _ _; (refine wc_cond rfl (fun hc => ?_) (fun hc => ?_) <;> (try (simp only [decide_eq_true_eq, decide_eq_false_iff_not, Bool.and_eq_true, Bool.or_eq_true, Bool.and_eq_false_iff, Bool.or_eq_false_iff, Bool.not_eq_true', Bool.not_eq_false', Int.not_lt, Int.not_le] at hc)) <;> (try (exfalso; first | omega | contradiction)))))
  · refine wr_tmp rfl rfl (congrArg Value.bool ?_)
    symm
    rw [decide_eq_false_iff_not]
    rintro rfl; exact hc rfl
  · refine wc_loop (α := { i : Nat // i ≤ l.length ∧ ∀ j, j < i → l.getD j default = m.getD j default }) (fun x => [(0, true, .slice a l.length cap), (1, true, .slice a' m.length cap'), (5, true, i64 (x.1 : Int))]) (fun x => St w [] [] M) (fun x => l.length - x.1) ⟨0, by omega, by intro j hj; omega⟩ (by first | exact Sub.nil _ | (repeat (first | exact Sub.nil _ | refine Sub.cons (by first | rfl | (simp [look]; done)) ?_))) (fun _ h => h) ?_
    rintro ⟨i, hi, hall⟩
    dsimp only
    repeat' (first | (first | refine wc_seq ?_ | refine wc_region ?_ | refine wl_nil ?_ | refine wn_seq ?_ | refine wn_blk ?_ | refine wc_skip ?_ | refine wc_block ?_ | refine wc_exit rfl ?_ | (show WL _ _ (_ :: _) _ _ _ _; first | refine yl_v rfl rfl rfl ?_ | refine wl_v rfl rfl rfl (by first  | fail) ?_) | refine wc_ret rfl ?_) | (show WC _ (Code.cond _ _ _) _ _ _ _; (refine wc_cond rfl (fun hc => ?_) (fun hc => ?_) <;> (try (simp only [decide_eq_true_eq, decide_eq_false_iff_not, Bool.and_eq_true, Bool.or_eq_true, Bool.and_eq_false_iff, Bool.or_eq_false_iff, Bool.not_eq_true', Bool.not_eq_false', Int.not_lt, Int.not_le] at hc)) <;> (try (exfalso; first | omega | contradiction)))))
    · refine wc_weak (E' := [(0, true, .slice a l.length cap), (1, true, .slice a' m.length cap'), (5, true, i64 (i : Int))]) (by first | exact Sub.nil _ | (repeat (first | exact Sub.nil _ | refine Sub.cons (by first | rfl | (simp [look]; done)) ?_))) (fun _ h => h) ?_
      refine wc_draw 9 (by kernel_rfl) rfl (by kernel_rfl) (fun _ _ h k => h.ext k) ?_
      repeat' (first | (show WD _ _ (_ :: _) _ _ _ _ _ _; first | refine yd_v rfl rfl rfl rfl rfl rfl ?_ | refine wd_v rfl rfl rfl rfl rfl rfl (by first | (show OpV _ _ _ _ (Oper.mk _ (Op.indexAddr _ _ _) _ _ _ _) _ _; first | exact ov_indexAddr rfl rfl (by (fail_if_success (with_reducible show (987654321 : Int) = _)); repeat' (first | with_reducible exact nc_cast | with_reducible exact nc_lit | apply nc_add | apply nc_div | apply nc_mod | apply nc_mul | refine nc_sub (m := _) (n := _) nc_cast nc_lit (by omega) | refine nc_sub (m := _) (n := _) nc_cast nc_cast (by omega))) (by first | with_reducible exact fun _ => rfl | with_reducible exact fun h => h | exact fun _ => rfl | exact fun h => h | (intro himp; simp_all; done)) (by first | with_reducible exact fun _ => rfl | with_reducible exact fun h => h | exact fun _ => rfl | exact fun h => h | (intro himp; simp_all; done)) rfl (by first | exact (rfl : _ = some 1) | exact (rfl : _ = some 2) | exact (rfl : _ = some 3) | exact (rfl : _ = some 4) | exact (rfl : _ = some 6) | exact rfl) (fun hcg => (h3 (by intro h; subst h; simp only [List.length_nil] at *; omega)).1) (by intro hcg; first | omega | (simp at hcg; omega)) | exact ov_indexAddr rfl rfl (by (fail_if_success (with_reducible show (987654321 : Int) = _)); repeat' (first | with_reducible exact nc_cast | with_reducible exact nc_lit | apply nc_add | apply nc_div | apply nc_mod | apply nc_mul | refine nc_sub (m := _) (n := _) nc_cast nc_lit (by omega) | refine nc_sub (m := _) (n := _) nc_cast nc_cast (by omega))) (by first | with_reducible exact fun _ => rfl | with_reducible exact fun h => h | exact fun _ => rfl | exact fun h => h | (intro himp; simp_all; done)) (by first | with_reducible exact fun _ => rfl | with_reducible exact fun h => h | exact fun _ => rfl | exact fun h => h | (intro himp; simp_all; done)) rfl (by first | exact (rfl : _ = some 1) | exact (rfl : _ = some 2) | exact (rfl : _ = some 3) | exact (rfl : _ = some 4) | exact (rfl : _ = some 6) | exact rfl) (fun hcg => (h3' (by intro h; subst h; simp only [List.length_nil] at *; omega)).1) (by intro hcg; first | omega | (simp at hcg; omega))) | (show OpV _ _ _ _ (Oper.mk _ (Op.load _ _) _ _ _ _) _ _; first | exact ov_load1M rfl (by first | with_reducible exact fun _ => rfl | with_reducible exact fun h => h | exact fun _ => rfl | exact fun h => h | (intro himp; simp_all; done)) rfl rfl (fun hcg => (h3 (by intro h; subst h; simp only [List.length_nil] at *; omega)).2) (fun hcg => h4 i (by omega)) | exact ov_load1M rfl (by first | with_reducible exact fun _ => rfl | with_reducible exact fun h => h | exact fun _ => rfl | exact fun h => h | (intro himp; simp_all; done)) rfl rfl (fun hcg => (h3' (by intro h; subst h; simp only [List.length_nil] at *; omega)).2) (fun hcg => h4' i (by omega))) | fail) ?_ | refine yd_new rfl rfl rfl rfl rfl rfl ?_ | refine wd_conv rfl rfl rfl rfl rfl rfl rfl rfl rfl rfl ?_) | (show WD _ _ _ _ _ _ _ _ _; first | refine wd_nil ?_ | refine wd_nilF ?_) | (first | refine wc_seq ?_ | refine wc_region ?_ | refine wl_nil ?_ | refine wn_seq ?_ | refine wn_blk ?_ | refine wc_skip ?_ | refine wc_block ?_ | refine wc_exit rfl ?_ | (show WL _ _ (_ :: _) _ _ _ _; first | refine yl_v rfl rfl rfl ?_ | refine wl_v rfl rfl rfl (by first | (show OpV _ _ _ _ (Oper.mk _ (Op.indexAddr _ _ _) _ _ _ _) _ _; first | exact ov_indexAddr rfl rfl (by (fail_if_success (with_reducible show (987654321 : Int) = _)); repeat' (first | with_reducible exact nc_cast | with_reducible exact nc_lit | apply nc_add | apply nc_div | apply nc_mod | apply nc_mul | refine nc_sub (m := _) (n := _) nc_cast nc_lit (by omega) | refine nc_sub (m := _) (n := _) nc_cast nc_cast (by omega))) (by first | with_reducible exact fun _ => rfl | with_reducible exact fun h => h | exact fun _ => rfl | exact fun h => h | (intro himp; simp_all; done)) (by first | with_reducible exact fun _ => rfl | with_reducible exact fun h => h | exact fun _ => rfl | exact fun h => h | (intro himp; simp_all; done)) rfl (by first | exact (rfl : _ = some 1) | exact (rfl : _ = some 2) | exact (rfl : _ = some 3) | exact (rfl : _ = some 4) | exact (rfl : _ = some 6) | exact rfl) (fun hcg => (h3 (by intro h; subst h; simp only [List.length_nil] at *; omega)).1) (by intro hcg; first | omega | (simp at hcg; omega)) | exact ov_indexAddr rfl rfl (by (fail_if_success (with_reducible show (987654321 : Int) = _)); repeat' (first | with_reducible exact nc_cast | with_reducible exact nc_lit | apply nc_add | apply nc_div | apply nc_mod | apply nc_mul | refine nc_sub (m := _) (n := _) nc_cast nc_lit (by omega) | refine nc_sub (m := _) (n := _) nc_cast nc_cast (by omega))) (by first | with_reducible exact fun _ => rfl | with_reducible exact fun h => h | exact fun _ => rfl | exact fun h => h | (intro himp; simp_all; done)) (by first | with_reducible exact fun _ => rfl | with_reducible exact fun h => h | exact fun _ => rfl | exact fun h => h | (intro himp; simp_all; done)) rfl (by first | exact (rfl : _ = some 1) | exact (rfl : _ = some 2) | exact (rfl : _ = some 3) | exact (rfl : _ = some 4) | exact (rfl : _ = some 6) | exact rfl) (fun hcg => (h3' (by intro h; subst h; simp only [List.length_nil] at *; omega)).1) (by intro hcg; first | omega | (simp at hcg; omega))) | (show OpV _ _ _ _ (Oper.mk _ (Op.load _ _) _ _ _ _) _ _; first | exact ov_load1M rfl (by first | with_reducible exact fun _ => rfl | with_reducible exact fun h => h | exact fun _ => rfl | exact fun h => h | (intro himp; simp_all; done)) rfl rfl (fun hcg => (h3 (by intro h; subst h; simp only [List.length_nil] at *; omega)).2) (fun hcg => h4 i (by omega)) | exact ov_load1M rfl (by first | with_reducible exact fun _ => rfl | with_reducible exact fun h => h | exact fun _ => rfl | exact fun h => h | (intro himp; simp_all; done)) rfl rfl (fun hcg => (h3' (by intro h; subst h; simp only [List.length_nil] at *; omega)).2) (fun hcg => h4' i (by omega))) | fail) ?_) | refine wc_ret rfl ?_))
      repeat' (first | (first | refine wc_seq ?_ | refine wc_region ?_ | refine wl_nil ?_ | refine wn_seq ?_ | refine wn_blk ?_ | refine wc_skip ?_ | refine wc_block ?_ | refine wc_exit rfl ?_ | (show WL _ _ (_ :: _) _ _ _ _; first | refine yl_v rfl rfl rfl ?_ | refine wl_v rfl rfl rfl (by first  | fail) ?_) | refine wc_ret rfl ?_) | (show WC _ (Code.cond _ _ _) _ _ _ _; (refine wc_cond rfl (fun hc => ?_) (fun hc => ?_) <;> (try (simp only [decide_eq_true_eq, decide_eq_false_iff_not, Bool.and_eq_true, Bool.or_eq_true, Bool.and_eq_false_iff, Bool.or_eq_false_iff, Bool.not_eq_true', Bool.not_eq_false', Int.not_lt, Int.not_le] at hc)) <;> (try (exfalso; first | omega | contradiction)))))
      · refine wr_tmp rfl rfl (congrArg Value.bool ?_)
        symm
        rw [decide_eq_false_iff_not]
        rintro rfl
        simp at hc
      · refine wn_cut ⟨i + 1, by omega, ?_⟩ (by show l.length - (i + 1) < l.length - i; omega) (by first | exact Sub.nil _ | (repeat (first | exact Sub.nil _ | refine Sub.cons (by first | rfl | (simp [look]; done)) ?_))) (fun _ h => h)
        intro j hj
        by_cases h : j = i
        · subst h; exact hc
        · exact hall j (by omega)
    · refine wr_tmp rfl rfl (congrArg Value.bool ?_)
      symm
      rw [decide_eq_true_iff]
      apply List.ext_getElem (by omega)
      intro j hj hj'
      have := hall j (by omega)
      simpa [hj, hj'] using this
/-- are two successes one? -/
def sameSu (s t : Suc) : Bool := decide (s.user = t.user) && decide (s.iou = t.iou) && decide (s.attrs = t.attrs) && decide (s.proxies = t.proxies)
theorem sameSu_self (s : Suc) : sameSu s s = true := by simp [sameSu]
theorem rsames_ok (hM : Laid M w) {s t : Suc} {v u : Value} (hs : SucC M s v) (ht : SucC M t u) : Calls Tryd.prog 16 #[v, u] w (RetE w (.bool (sameSu s t))) := by
  obtain ⟨a, l, c, a', l', c', rfl, h1, h2⟩ := hs
  obtain ⟨b, m, d, b', m', d', rfl, g1, g2⟩ := ht
  have hp := fun {w : World} (hw : Laid M w) => pairs_ok hw h1 g1
  have hq := fun {w : World} (hw : Laid M w) => txts_ok hw h2 g2
  unfold sameSu
  generalize decide (s.attrs = t.attrs) = x at *
  generalize decide (s.proxies = t.proxies) = y at *
  refine calls_st (l := [.agg [str s.user, .slice a l c, .slice a' l' c', str s.iou].toArray, .agg [str t.user, .slice b m d, .slice b' m' d', str t.iou].toArray]) hM Tryd.func16 rfl rfl rfl (E0 := [(0, true, .agg [str s.user, .slice a l c, .slice a' l' c', str s.iou].toArray), (1, true, .agg [str t.user, .slice b m d, .slice b' m' d', str t.iou].toArray)]) (params_cons rfl (params_cons rfl (params_nil _))) ?_
  repeat' (first | refine wc_seq ?_ | refine wc_region ?_ | refine wl_nil ?_ | refine wn_seq ?_ | refine wn_blk ?_ | refine wc_skip ?_ | refine wc_block ?_ | refine wc_exit rfl ?_ | (show WL _ _ (_ :: _) _ _ _ _; first | refine yl_v rfl rfl rfl ?_ | refine wl_v rfl rfl rfl (by first | ((show OpV _ _ _ _ (Oper.mk _ (Op.call ⟨.value (.func 37), _, _⟩) _ _ _ _) _ _; exact ov_call Tryd.call37 rfl (by intro himp; first | rfl | (simp_all; done)) (by rfl) (fun _ _ h k => h.ext k) (fun hcg w hw => hp hw.laid))) | ((show OpV _ _ _ _ (Oper.mk _ (Op.call ⟨.value (.func 38), _, _⟩) _ _ _ _) _ _; exact ov_call Tryd.call38 rfl (by intro himp; first | rfl | (simp_all; done)) (by rfl) (fun _ _ h k => h.ext k) (fun hcg w hw => hq hw.laid))) | fail) ?_ | refine xl_box rfl (fun _ => ?_)) | refine wc_ret rfl ?_)
  exact wr_weak (fun _ h => h.drop (List.nil_sublist _)) (wr_tmp rfl rfl rfl)
def fewPr (p : Go.Pct.Pr) : Bool := decide (p.1.length ≤ 80) && decide (p.2.length ≤ 80)
def fewSu (s : Suc) : Bool := s.attrs.all fewPr && s.proxies.all (fun p => decide (p.length ≤ 120)) && (decide (s.user.length ≤ 80) && decide (s.iou.length ≤ 80) && decide (s.attrs.length ≤ 20) && decide (s.proxies.length ≤ 20))
def shwPr (p : Go.Pct.Pr) : Bool := nameB (sCas ++ p.1) && shwB p.2
def shwSu (s : Suc) : Bool := s.attrs.all shwPr && s.proxies.all shwB && (shwB s.user && shwB s.iou)
theorem all_getD {α : Type} [Inhabited α] {l : List α} {p : α → Bool} (h : ∀ j, j < l.length → p (l.getD j default) = true) : l.all p = true := by
  rw [List.all_eq_true]
  intro x hx
  obtain ⟨j, hj, rfl⟩ := List.mem_iff_getElem.1 hx
  have := h j hj
  simpa [hj] using this
theorem all_no {α : Type} [Inhabited α] {l : List α} {p : α → Bool} {i : Nat} (hi : i < l.length) (h : p (l.getD i default) = false) : l.all p = false := by
  rw [List.all_eq_false]
  refine ⟨l[i], List.getElem_mem _, ?_⟩
  have e : l.getD i default = l[i] := by simp [hi]
  rw [← e, h]; simp
/-- so far all are -/
structure AllQ (α : Type) [Inhabited α] (l : List α) (p : α → Bool) where
  i : Nat
  hi : i ≤ l.length
  all : ∀ j, j < i → p (l.getD j default) = true
def AllQ.zero {α : Type} [Inhabited α] {l : List α} {p : α → Bool} : AllQ α l p := ⟨0, Nat.zero_le _, fun j hj => by omega⟩
theorem all_step {α : Type} [Inhabited α] {l : List α} {p : α → Bool} {i : Nat} (h : ∀ j, j < i → p (l.getD j default) = true) (hp : p (l.getD i default) = true) : ∀ j, j < i + 1 → p (l.getD j default) = true := by
  intro j hj
  by_cases e : j = i
  · subst e; exact hp
  · exact h j (by omega)
theorem fews_ok (hM : Laid M w) {s : Suc} {v : Value} (hs : SucC M s v) : Calls Tryd.prog 12 #[v] w (RetE w (.bool (fewSu s))) := by
  obtain ⟨va, vl, vc, va', vl', vc', rfl, hA, hP⟩ := hs
  obtain ⟨a, cap, b, o, cs, T, fz, e1, g1, g2, g3, g4⟩ := hA.open
  obtain ⟨a', cap', b', o', cs', T', fz', e2, f1, f2, f3, f4⟩ := hP.open
  cases e1; cases e2
  refine calls_st (l := [.agg [str s.user, .slice va s.attrs.length vc, .slice va' s.proxies.length vc', str s.iou].toArray]) hM Tryd.func12 rfl rfl rfl (E0 := [(0, true, .agg [str s.user, .slice va s.attrs.length vc, .slice va' s.proxies.length vc', str s.iou].toArray)]) (params_cons rfl (params_nil _)) ?_
  repeat' (first | refine wc_seq ?_ | refine wc_region ?_ | refine wl_nil ?_ | refine wn_seq ?_ | refine wn_blk ?_ | refine wc_skip ?_ | refine wc_block ?_ | refine wc_exit rfl ?_ | (show WL _ _ (_ :: _) _ _ _ _; first | refine yl_v rfl rfl rfl ?_ | refine wl_v rfl rfl rfl (by first  | fail) ?_ | refine xl_box rfl (fun _ => ?_)) | refine wc_ret rfl ?_)
  rename_i b1
  refine wc_loop (α := AllQ _ s.attrs fewPr) (fun x => [(1, true, .pointer (some ⟨b1, 0, none⟩)), (3, true, i64 (x.i : Int))]) (fun x => St w [] [(b1, .cells [str s.user, .slice va s.attrs.length vc, .slice va' s.proxies.length vc', str s.iou].toArray 31 (0, 0))] M) (fun x => s.attrs.length - x.i) AllQ.zero (by first | exact Sub.nil _ | (repeat (first | exact Sub.nil _ | refine Sub.cons (by first | rfl | (simp [look]; done)) ?_))) (fun _ h => h) ?_
  rintro ⟨i, hi, hall⟩
  dsimp only
  rcases Nat.lt_or_ge i s.attrs.length with hlt | hge
  · obtain ⟨rfl, hMb⟩ := g3 (by intro e; rw [e] at hlt; simp at hlt)
    have gi := g4 i hlt
    have hno := fun h => all_no (p := fewPr) hlt h
    have hst := fun h => all_step (p := fewPr) hall h
    unfold fewPr at hno hst
    generalize s.attrs.getD i default = p at *
    repeat' (first | (first | refine wc_seq ?_ | refine wc_region ?_ | refine wl_nil ?_ | refine wn_seq ?_ | refine wn_blk ?_ | refine wc_skip ?_ | refine wc_block ?_ | refine wc_exit rfl ?_ | (show WL _ _ (_ :: _) _ _ _ _; first | refine yl_v rfl rfl rfl ?_ | refine wl_v rfl rfl rfl (by first | (show OpV _ _ _ _ (Oper.mk _ (Op.indexAddr _ _ _) _ _ _ _) _ _; exact ov_indexAddr (i := i) (b := b) (o := o) rfl rfl rfl (by first | with_reducible exact fun _ => rfl | with_reducible exact fun h => h | exact fun _ => rfl | exact fun h => h | (intro himp; simp_all; done)) (by first | with_reducible exact fun _ => rfl | with_reducible exact fun h => h | exact fun _ => rfl | exact fun h => h | (intro himp; simp_all; done)) rfl (by first | exact (rfl : _ = some 1) | exact (rfl : _ = some 2) | exact (rfl : _ = some 3) | exact (rfl : _ = some 4) | exact (rfl : _ = some 6) | exact rfl) (fun _ => rfl) (by intro hcg; first | omega | (simp at hcg; omega))) | (show OpV _ _ _ _ (Oper.mk _ (Op.load _ _) _ _ _ _) _ _; first | exact ov_load1M rfl (by first | with_reducible exact fun _ => rfl | with_reducible exact fun h => h | exact fun _ => rfl | exact fun h => h | (intro himp; simp_all; done)) rfl rfl (fun _ => hMb) (fun _ => gi.1) | exact ov_load1M rfl (by first | with_reducible exact fun _ => rfl | with_reducible exact fun h => h | exact fun _ => rfl | exact fun h => h | (intro himp; simp_all; done)) rfl rfl (fun _ => hMb) (fun _ => gi.2)) | fail) ?_ | refine xl_box rfl (fun _ => ?_)) | refine wc_ret rfl ?_) | (show WC _ (Code.cond _ _ _) _ _ _ _; (refine wc_cond rfl (fun hc => ?_) (fun hc => ?_) <;> (try (simp only [decide_eq_true_eq, decide_eq_false_iff_not, Bool.and_eq_true, Bool.or_eq_true, Bool.and_eq_false_iff, Bool.or_eq_false_iff, Bool.not_eq_true', Bool.not_eq_false', Int.not_lt, Int.not_le] at hc)) <;> (try (exfalso; first | omega | contradiction)))))
    · refine wr_weak (fun _ h => h.drop (List.nil_sublist _)) (wr_tmp rfl rfl (congrArg Value.bool ?_))
      have : (decide (p.1.length ≤ 80) && decide (p.2.length ≤ 80)) = false := by
        rw [Bool.and_eq_false_iff, decide_eq_false_iff_not, decide_eq_false_iff_not]; omega
      unfold fewSu
      rw [show s.attrs.all fewPr = false from hno this]; rfl
    · refine wn_cut ⟨i + 1, by omega, hst (by rw [Bool.and_eq_true, decide_eq_true_eq, decide_eq_true_eq]; omega)⟩ (by show s.attrs.length - (i + 1) < s.attrs.length - i; omega) (by first | exact Sub.nil _ | (repeat (first | exact Sub.nil _ | refine Sub.cons (by first | rfl | (simp [look]; done)) ?_))) (fun _ h => h)
  obtain rfl : i = s.attrs.length := by omega
  have hA1 : s.attrs.all fewPr = true := all_getD hall
  repeat' (first | refine wc_seq ?_ | refine wc_region ?_ | refine wl_nil ?_ | refine wn_seq ?_ | refine wn_blk ?_ | refine wc_skip ?_ | refine wc_block ?_ | refine wc_exit rfl ?_ | (show WL _ _ (_ :: _) _ _ _ _; first | refine yl_v rfl rfl rfl ?_ | refine wl_v rfl rfl rfl (by first  | fail) ?_ | refine xl_box rfl (fun _ => ?_)) | refine wc_ret rfl ?_)
  refine wc_cond rfl (fun hc => by exfalso; simp at hc) (fun hc => ?_)
  repeat' (first | refine wc_seq ?_ | refine wc_region ?_ | refine wl_nil ?_ | refine wn_seq ?_ | refine wn_blk ?_ | refine wc_skip ?_ | refine wc_block ?_ | refine wc_exit rfl ?_ | (show WL _ _ (_ :: _) _ _ _ _; first | refine yl_v rfl rfl rfl ?_ | refine wl_v rfl rfl rfl (by first  | fail) ?_ | refine xl_box rfl (fun _ => ?_)) | refine wc_ret rfl ?_)
  refine wc_loop (α := AllQ _ s.proxies (fun p => decide (p.length ≤ 120))) (fun x => [(1, true, .pointer (some ⟨b1, 0, none⟩)), (4, true, i64 (x.i : Int))]) (fun x => St w [] [(b1, .cells [str s.user, .slice va s.attrs.length vc, .slice va' s.proxies.length vc', str s.iou].toArray 31 (0, 0))] M) (fun x => s.proxies.length - x.i) AllQ.zero (by first | exact Sub.nil _ | (repeat (first | exact Sub.nil _ | refine Sub.cons (by first | rfl | (simp [look]; done)) ?_))) (fun _ h => h) ?_
  rintro ⟨i, hi, hall2⟩
  dsimp only
  rcases Nat.lt_or_ge i s.proxies.length with hlt | hge
  · obtain ⟨rfl, hMb⟩ := f3 (by intro e; rw [e] at hlt; simp at hlt)
    have gi := f4 i hlt
    have hno := fun h => all_no (p := fun p : List UInt8 => decide (p.length ≤ 120)) hlt h
    have hst := fun h => all_step (p := fun p : List UInt8 => decide (p.length ≤ 120)) hall2 h
    generalize s.proxies.getD i default = p at *
    repeat' (first | (first | refine wc_seq ?_ | refine wc_region ?_ | refine wl_nil ?_ | refine wn_seq ?_ | refine wn_blk ?_ | refine wc_skip ?_ | refine wc_block ?_ | refine wc_exit rfl ?_ | (show WL _ _ (_ :: _) _ _ _ _; first | refine yl_v rfl rfl rfl ?_ | refine wl_v rfl rfl rfl (by first | (show OpV _ _ _ _ (Oper.mk _ (Op.indexAddr _ _ _) _ _ _ _) _ _; exact ov_indexAddr (i := i) (b := b') (o := o') rfl rfl rfl (by first | with_reducible exact fun _ => rfl | with_reducible exact fun h => h | exact fun _ => rfl | exact fun h => h | (intro himp; simp_all; done)) (by first | with_reducible exact fun _ => rfl | with_reducible exact fun h => h | exact fun _ => rfl | exact fun h => h | (intro himp; simp_all; done)) rfl (by first | exact (rfl : _ = some 1) | exact (rfl : _ = some 2) | exact (rfl : _ = some 3) | exact (rfl : _ = some 4) | exact (rfl : _ = some 6) | exact rfl) (fun _ => rfl) (by intro hcg; first | omega | (simp at hcg; omega))) | (show OpV _ _ _ _ (Oper.mk _ (Op.load _ _) _ _ _ _) _ _; exact ov_load1M rfl (by first | with_reducible exact fun _ => rfl | with_reducible exact fun h => h | exact fun _ => rfl | exact fun h => h | (intro himp; simp_all; done)) rfl rfl (fun _ => hMb) (fun _ => gi)) | fail) ?_ | refine xl_box rfl (fun _ => ?_)) | refine wc_ret rfl ?_) | (show WC _ (Code.cond _ _ _) _ _ _ _; (refine wc_cond rfl (fun hc => ?_) (fun hc => ?_) <;> (try (simp only [decide_eq_true_eq, decide_eq_false_iff_not, Bool.and_eq_true, Bool.or_eq_true, Bool.and_eq_false_iff, Bool.or_eq_false_iff, Bool.not_eq_true', Bool.not_eq_false', Int.not_lt, Int.not_le] at hc)) <;> (try (exfalso; first | omega | contradiction)))))
    · refine wr_weak (fun _ h => h.drop (List.nil_sublist _)) (wr_tmp rfl rfl (congrArg Value.bool ?_))
      unfold fewSu
      rw [hno (by rw [decide_eq_false_iff_not]; omega)]
      simp
    · refine wn_cut ⟨i + 1, by omega, hst (by rw [decide_eq_true_eq]; omega)⟩ (by show s.proxies.length - (i + 1) < s.proxies.length - i; omega) (by first | exact Sub.nil _ | (repeat (first | exact Sub.nil _ | refine Sub.cons (by first | rfl | (simp [look]; done)) ?_))) (fun _ h => h)
  obtain rfl : i = s.proxies.length := by omega
  have hP1 : s.proxies.all (fun p => decide (p.length ≤ 120)) = true := all_getD hall2
  repeat' (first | refine wc_seq ?_ | refine wc_region ?_ | refine wl_nil ?_ | refine wn_seq ?_ | refine wn_blk ?_ | refine wc_skip ?_ | refine wc_block ?_ | refine wc_exit rfl ?_ | (show WL _ _ (_ :: _) _ _ _ _; first | refine yl_v rfl rfl rfl ?_ | refine wl_v rfl rfl rfl (by first  | fail) ?_ | refine xl_box rfl (fun _ => ?_)) | refine wc_ret rfl ?_)
  refine wc_cond rfl (fun hc => by exfalso; simp at hc) (fun hc => ?_)
  repeat' (first | refine wc_seq ?_ | refine wc_region ?_ | refine wl_nil ?_ | refine wn_seq ?_ | refine wn_blk ?_ | refine wc_skip ?_ | refine wc_block ?_ | refine wc_exit rfl ?_ | (show WL _ _ (_ :: _) _ _ _ _; first | refine yl_v rfl rfl rfl ?_ | refine wl_v rfl rfl rfl (by first  | fail) ?_ | refine xl_box rfl (fun _ => ?_)) | refine wc_ret rfl ?_)
  refine wr_weak (fun _ h => h.drop (List.nil_sublist _)) (wr_tmp rfl rfl (congrArg Value.bool ?_))
  unfold fewSu
  rw [hA1, hP1, Bool.true_and, Bool.true_and]
  have c80 : ∀ n : Nat, decide ((n : Int) ≤ 80) = decide (n ≤ 80) := fun n => decide_eq_decide.2 (by omega)
  have c20 : ∀ n : Nat, decide ((n : Int) ≤ 20) = decide (n ≤ 20) := fun n => decide_eq_decide.2 (by omega)
  simp only [c80, c20]
theorem shws_ok (hM : Laid M w) {s : Suc} {v : Value} (hs : SucC M s v) (hsm : SmS s 140737488355328 140737488355328) : Calls Tryd.prog 13 #[v] w (RetE w (.bool (shwSu s))) := by
  obtain ⟨va, vl, vc, va', vl', vc', rfl, hA, hP⟩ := hs
  obtain ⟨a, cap, b, o, cs, T, fz, e1, g1, g2, g3, g4⟩ := hA.open
  obtain ⟨a', cap', b', o', cs', T', fz', e2, f1, f2, f3, f4⟩ := hP.open
  cases e1; cases e2
  have hu1 := hsm.user
  have hu2 := hsm.iou
  refine calls_st (l := [.agg [str s.user, .slice va s.attrs.length vc, .slice va' s.proxies.length vc', str s.iou].toArray]) hM Tryd.func13 rfl rfl rfl (E0 := [(0, true, .agg [str s.user, .slice va s.attrs.length vc, .slice va' s.proxies.length vc', str s.iou].toArray)]) (params_cons rfl (params_nil _)) ?_
  repeat' (first | refine wc_seq ?_ | refine wc_region ?_ | refine wl_nil ?_ | refine wn_seq ?_ | refine wn_blk ?_ | refine wc_skip ?_ | refine wc_block ?_ | refine wc_exit rfl ?_ | (show WL _ _ (_ :: _) _ _ _ _; first | refine yl_v rfl rfl rfl ?_ | refine wl_v rfl rfl rfl (by first  | fail) ?_ | refine xl_box rfl (fun _ => ?_)) | refine wc_ret rfl ?_)
  rename_i b1
  refine wc_loop (α := AllQ _ s.attrs shwPr) (fun x => [(1, true, .pointer (some ⟨b1, 0, none⟩)), (3, true, i64 (x.i : Int))]) (fun x => St w [] [(b1, .cells [str s.user, .slice va s.attrs.length vc, .slice va' s.proxies.length vc', str s.iou].toArray 31 (0, 0))] M) (fun x => s.attrs.length - x.i) AllQ.zero (by first | exact Sub.nil _ | (repeat (first | exact Sub.nil _ | refine Sub.cons (by first | rfl | (simp [look]; done)) ?_))) (fun _ h => h) ?_
  rintro ⟨i, hi, hall⟩
  dsimp only
  rcases Nat.lt_or_ge i s.attrs.length with hlt | hge
  · obtain ⟨rfl, hMb⟩ := g3 (by intro e; rw [e] at hlt; simp at hlt)
    have gi := g4 i hlt
    have hno := fun h => all_no (p := shwPr) hlt h
    have hst := fun h => all_step (p := shwPr) hall h
    have hp3 := hsm.attrs (s.attrs.getD i default) (getD_memP hlt)
    unfold shwPr at hno hst
    generalize s.attrs.getD i default = p at *
    have hn1 := fun {w : World} (hw : Laid M w) => rname_ok hw (sCas ++ p.1) (by rw [List.length_append]; have : sCas.length = 4 := rfl; omega)
    have hs1 := fun {w : World} (hw : Laid M w) => rshown_ok hw p.2 (by omega)
    generalize hnn : nameB (sCas ++ p.1) = n1 at *
    generalize hss : shwB p.2 = s1 at *
    repeat' (first | refine wc_seq ?_ | refine wc_region ?_ | refine wl_nil ?_ | refine wn_seq ?_ | refine wn_blk ?_ | refine wc_skip ?_ | refine wc_block ?_ | refine wc_exit rfl ?_ | (show WL _ _ (_ :: _) _ _ _ _; first | refine yl_v rfl rfl rfl ?_ | refine wl_v rfl rfl rfl (by first  | fail) ?_ | refine xl_box rfl (fun _ => ?_)) | refine wc_ret rfl ?_)
    refine wc_cond rfl (fun hc => ?_) (fun hc => by exfalso; simp at hc; omega)
    clear hc
    repeat' (first | refine wc_seq ?_ | refine wc_region ?_ | refine wl_nil ?_ | refine wn_seq ?_ | refine wn_blk ?_ | refine wc_skip ?_ | refine wc_block ?_ | refine wc_exit rfl ?_ | (show WL _ _ (_ :: _) _ _ _ _; first | refine yl_v rfl rfl rfl ?_ | refine wl_v rfl rfl rfl (by first | (show OpV _ _ _ _ (Oper.mk _ (Op.indexAddr _ _ _) _ _ _ _) _ _; exact ov_indexAddr (i := i) (b := b) (o := o) rfl rfl rfl (by first | with_reducible exact fun _ => rfl | with_reducible exact fun h => h | exact fun _ => rfl | exact fun h => h | (intro himp; simp_all; done)) (by first | with_reducible exact fun _ => rfl | with_reducible exact fun h => h | exact fun _ => rfl | exact fun h => h | (intro himp; simp_all; done)) rfl (by first | exact (rfl : _ = some 1) | exact (rfl : _ = some 2) | exact (rfl : _ = some 3) | exact (rfl : _ = some 4) | exact (rfl : _ = some 6) | exact rfl) (fun _ => rfl) (by intro hcg; first | omega | (simp at hcg; omega))) | (show OpV _ _ _ _ (Oper.mk _ (Op.load _ _) _ _ _ _) _ _; first | exact ov_load1M rfl (by first | with_reducible exact fun _ => rfl | with_reducible exact fun h => h | exact fun _ => rfl | exact fun h => h | (intro himp; simp_all; done)) rfl rfl (fun _ => hMb) (fun _ => gi.1) | exact ov_load1M rfl (by first | with_reducible exact fun _ => rfl | with_reducible exact fun h => h | exact fun _ => rfl | exact fun h => h | (intro himp; simp_all; done)) rfl rfl (fun _ => hMb) (fun _ => gi.2)) | (show OpV _ _ _ _ (Oper.mk _ (Op.binOp BinOp.add _ _ _ _) _ _ _ _) _ _; exact ov_sadd rfl rfl (by first | with_reducible exact fun _ => rfl | with_reducible exact fun h => h | exact fun _ => rfl | exact fun h => h | (intro himp; simp_all; done)) (by first | with_reducible exact fun _ => rfl | with_reducible exact fun h => h | exact fun _ => rfl | exact fun h => h | (intro himp; simp_all; done)) (by intro hcg; have : sCas.length = 4 := rfl; show sCas.length + p.1.length ≤ _; omega)) | ((show OpV _ _ _ _ (Oper.mk _ (Op.call ⟨.value (.func 30), _, _⟩) _ _ _ _) _ _; exact ov_call Tryd.call30 rfl (by intro himp; first | rfl | (simp_all; done)) (by rfl) (fun _ _ h k => h.ext k) (fun hcg w hw => hn1 hw.laid))) | ((show OpV _ _ _ _ (Oper.mk _ (Op.call ⟨.value (.func 7), _, _⟩) _ _ _ _) _ _; exact ov_call Tryd.call7 rfl (by intro himp; first | rfl | (simp_all; done)) (by rfl) (fun _ _ h k => h.ext k) (fun hcg w hw => hs1 hw.laid))) | fail) ?_ | refine xl_box rfl (fun _ => ?_)) | refine wc_ret rfl ?_)
    refine wc_cond rfl (fun hc => ?_) (fun hc => ?_)
    · repeat' (first | refine wc_seq ?_ | refine wc_region ?_ | refine wl_nil ?_ | refine wn_seq ?_ | refine wn_blk ?_ | refine wc_skip ?_ | refine wc_block ?_ | refine wc_exit rfl ?_ | (show WL _ _ (_ :: _) _ _ _ _; first | refine yl_v rfl rfl rfl ?_ | refine wl_v rfl rfl rfl (by first  | fail) ?_ | refine xl_box rfl (fun _ => ?_)) | refine wc_ret rfl ?_)
      refine wr_weak (fun _ h => h.drop (List.nil_sublist _)) (wr_tmp rfl rfl (congrArg Value.bool ?_))
      unfold shwSu
      rw [show s.attrs.all shwPr = false from hno (by revert hc; cases n1 <;> cases s1 <;> decide)]; rfl
    · repeat' (first | refine wc_seq ?_ | refine wc_region ?_ | refine wl_nil ?_ | refine wn_seq ?_ | refine wn_blk ?_ | refine wc_skip ?_ | refine wc_block ?_ | refine wc_exit rfl ?_ | (show WL _ _ (_ :: _) _ _ _ _; first | refine yl_v rfl rfl rfl ?_ | refine wl_v rfl rfl rfl (by first  | fail) ?_ | refine xl_box rfl (fun _ => ?_)) | refine wc_ret rfl ?_)
      refine wn_cut ⟨i + 1, by omega, hst (by revert hc; cases n1 <;> cases s1 <;> decide)⟩ (by show s.attrs.length - (i + 1) < s.attrs.length - i; omega) (by first | exact Sub.nil _ | (repeat (first | exact Sub.nil _ | refine Sub.cons (by first | rfl | (simp [look]; done)) ?_))) (fun _ h => h)
  obtain rfl : i = s.attrs.length := by omega
  have hA1 : s.attrs.all shwPr = true := all_getD hall
  repeat' (first | refine wc_seq ?_ | refine wc_region ?_ | refine wl_nil ?_ | refine wn_seq ?_ | refine wn_blk ?_ | refine wc_skip ?_ | refine wc_block ?_ | refine wc_exit rfl ?_ | (show WL _ _ (_ :: _) _ _ _ _; first | refine yl_v rfl rfl rfl ?_ | refine wl_v rfl rfl rfl (by first  | fail) ?_ | refine xl_box rfl (fun _ => ?_)) | refine wc_ret rfl ?_)
  refine wc_cond rfl (fun hc => by exfalso; simp at hc) (fun hc => ?_)
  repeat' (first | refine wc_seq ?_ | refine wc_region ?_ | refine wl_nil ?_ | refine wn_seq ?_ | refine wn_blk ?_ | refine wc_skip ?_ | refine wc_block ?_ | refine wc_exit rfl ?_ | (show WL _ _ (_ :: _) _ _ _ _; first | refine yl_v rfl rfl rfl ?_ | refine wl_v rfl rfl rfl (by first  | fail) ?_ | refine xl_box rfl (fun _ => ?_)) | refine wc_ret rfl ?_)
  refine wc_loop (α := AllQ _ s.proxies shwB) (fun x => [(1, true, .pointer (some ⟨b1, 0, none⟩)), (4, true, i64 (x.i : Int))]) (fun x => St w [] [(b1, .cells [str s.user, .slice va s.attrs.length vc, .slice va' s.proxies.length vc', str s.iou].toArray 31 (0, 0))] M) (fun x => s.proxies.length - x.i) AllQ.zero (by first | exact Sub.nil _ | (repeat (first | exact Sub.nil _ | refine Sub.cons (by first | rfl | (simp [look]; done)) ?_))) (fun _ h => h) ?_
  rintro ⟨i, hi, hall2⟩
  dsimp only
  rcases Nat.lt_or_ge i s.proxies.length with hlt | hge
  · obtain ⟨rfl, hMb⟩ := f3 (by intro e; rw [e] at hlt; simp at hlt)
    have gi := f4 i hlt
    have hno := fun h => all_no (p := shwB) hlt h
    have hst := fun h => all_step (p := shwB) hall2 h
    have hp3 := hsm.prox (s.proxies.getD i default) (getD_memS hlt)
    generalize s.proxies.getD i default = p at *
    have hs1 := fun {w : World} (hw : Laid M w) => rshown_ok hw p (by omega)
    generalize hss : shwB p = s1 at *
    repeat' (first | refine wc_seq ?_ | refine wc_region ?_ | refine wl_nil ?_ | refine wn_seq ?_ | refine wn_blk ?_ | refine wc_skip ?_ | refine wc_block ?_ | refine wc_exit rfl ?_ | (show WL _ _ (_ :: _) _ _ _ _; first | refine yl_v rfl rfl rfl ?_ | refine wl_v rfl rfl rfl (by first | (show OpV _ _ _ _ (Oper.mk _ (Op.indexAddr _ _ _) _ _ _ _) _ _; exact ov_indexAddr (i := i) (b := b') (o := o') rfl rfl rfl (by first | with_reducible exact fun _ => rfl | with_reducible exact fun h => h | exact fun _ => rfl | exact fun h => h | (intro himp; simp_all; done)) (by first | with_reducible exact fun _ => rfl | with_reducible exact fun h => h | exact fun _ => rfl | exact fun h => h | (intro himp; simp_all; done)) rfl (by first | exact (rfl : _ = some 1) | exact (rfl : _ = some 2) | exact (rfl : _ = some 3) | exact (rfl : _ = some 4) | exact (rfl : _ = some 6) | exact rfl) (fun _ => rfl) (by intro hcg; first | omega | (simp at hcg; omega))) | (show OpV _ _ _ _ (Oper.mk _ (Op.load _ _) _ _ _ _) _ _; exact ov_load1M rfl (by first | with_reducible exact fun _ => rfl | with_reducible exact fun h => h | exact fun _ => rfl | exact fun h => h | (intro himp; simp_all; done)) rfl rfl (fun _ => hMb) (fun _ => gi)) | ((show OpV _ _ _ _ (Oper.mk _ (Op.call ⟨.value (.func 7), _, _⟩) _ _ _ _) _ _; exact ov_call Tryd.call7 rfl (by intro himp; first | rfl | (simp_all; done)) (by rfl) (fun _ _ h k => h.ext k) (fun hcg w hw => hs1 hw.laid))) | fail) ?_ | refine xl_box rfl (fun _ => ?_)) | refine wc_ret rfl ?_)
    refine wc_cond rfl (fun hc => ?_) (fun hc => by exfalso; simp at hc; omega)
    repeat' (first | refine wc_seq ?_ | refine wc_region ?_ | refine wl_nil ?_ | refine wn_seq ?_ | refine wn_blk ?_ | refine wc_skip ?_ | refine wc_block ?_ | refine wc_exit rfl ?_ | (show WL _ _ (_ :: _) _ _ _ _; first | refine yl_v rfl rfl rfl ?_ | refine wl_v rfl rfl rfl (by first | (show OpV _ _ _ _ (Oper.mk _ (Op.indexAddr _ _ _) _ _ _ _) _ _; exact ov_indexAddr (i := i) (b := b') (o := o') rfl rfl rfl (by first | with_reducible exact fun _ => rfl | with_reducible exact fun h => h | exact fun _ => rfl | exact fun h => h | (intro himp; simp_all; done)) (by first | with_reducible exact fun _ => rfl | with_reducible exact fun h => h | exact fun _ => rfl | exact fun h => h | (intro himp; simp_all; done)) rfl (by first | exact (rfl : _ = some 1) | exact (rfl : _ = some 2) | exact (rfl : _ = some 3) | exact (rfl : _ = some 4) | exact (rfl : _ = some 6) | exact rfl) (fun _ => rfl) (by intro hcg; first | omega | (simp at hcg; omega))) | (show OpV _ _ _ _ (Oper.mk _ (Op.load _ _) _ _ _ _) _ _; exact ov_load1M rfl (by first | with_reducible exact fun _ => rfl | with_reducible exact fun h => h | exact fun _ => rfl | exact fun h => h | (intro himp; simp_all; done)) rfl rfl (fun _ => hMb) (fun _ => gi)) | ((show OpV _ _ _ _ (Oper.mk _ (Op.call ⟨.value (.func 7), _, _⟩) _ _ _ _) _ _; exact ov_call Tryd.call7 rfl (by intro himp; first | rfl | (simp_all; done)) (by rfl) (fun _ _ h k => h.ext k) (fun hcg w hw => hs1 hw.laid))) | fail) ?_ | refine xl_box rfl (fun _ => ?_)) | refine wc_ret rfl ?_)
    refine wc_cond rfl (fun hc => ?_) (fun hc => ?_)
    · repeat' (first | refine wc_seq ?_ | refine wc_region ?_ | refine wl_nil ?_ | refine wn_seq ?_ | refine wn_blk ?_ | refine wc_skip ?_ | refine wc_block ?_ | refine wc_exit rfl ?_ | (show WL _ _ (_ :: _) _ _ _ _; first | refine yl_v rfl rfl rfl ?_ | refine wl_v rfl rfl rfl (by first  | fail) ?_ | refine xl_box rfl (fun _ => ?_)) | refine wc_ret rfl ?_)
      refine wr_weak (fun _ h => h.drop (List.nil_sublist _)) (wr_tmp rfl rfl (congrArg Value.bool ?_))
      unfold shwSu
      rw [hno (by revert hc; cases s1 <;> decide)]
      simp
    · repeat' (first | refine wc_seq ?_ | refine wc_region ?_ | refine wl_nil ?_ | refine wn_seq ?_ | refine wn_blk ?_ | refine wc_skip ?_ | refine wc_block ?_ | refine wc_exit rfl ?_ | (show WL _ _ (_ :: _) _ _ _ _; first | refine yl_v rfl rfl rfl ?_ | refine wl_v rfl rfl rfl (by first  | fail) ?_ | refine xl_box rfl (fun _ => ?_)) | refine wc_ret rfl ?_)
      refine wn_cut ⟨i + 1, by omega, hst (by revert hc; cases s1 <;> decide)⟩ (by show s.proxies.length - (i + 1) < s.proxies.length - i; omega) (by first | exact Sub.nil _ | (repeat (first | exact Sub.nil _ | refine Sub.cons (by first | rfl | (simp [look]; done)) ?_))) (fun _ h => h)
  obtain rfl : i = s.proxies.length := by omega
  have hP1 : s.proxies.all shwB = true := all_getD hall2
  have hs1 := fun {w : World} (hw : Laid M w) => rshown_ok hw s.user (by omega)
  have hs2 := fun {w : World} (hw : Laid M w) => rshown_ok hw s.iou (by omega)
  unfold shwSu
  rw [hA1, hP1]
  generalize shwB s.user = x1 at *
  generalize shwB s.iou = x2 at *
  repeat' (first | refine wc_seq ?_ | refine wc_region ?_ | refine wl_nil ?_ | refine wn_seq ?_ | refine wn_blk ?_ | refine wc_skip ?_ | refine wc_block ?_ | refine wc_exit rfl ?_ | (show WL _ _ (_ :: _) _ _ _ _; first | refine yl_v rfl rfl rfl ?_ | refine wl_v rfl rfl rfl (by first  | fail) ?_ | refine xl_box rfl (fun _ => ?_)) | refine wc_ret rfl ?_)
  refine wc_cond rfl (fun hc => by exfalso; simp at hc) (fun hc => ?_)
  repeat' (first | refine wc_seq ?_ | refine wc_region ?_ | refine wl_nil ?_ | refine wn_seq ?_ | refine wn_blk ?_ | refine wc_skip ?_ | refine wc_block ?_ | refine wc_exit rfl ?_ | (show WL _ _ (_ :: _) _ _ _ _; first | refine yl_v rfl rfl rfl ?_ | refine wl_v rfl rfl rfl (by first | ((show OpV _ _ _ _ (Oper.mk _ (Op.call ⟨.value (.func 7), _, _⟩) _ _ _ _) _ _; exact ov_call Tryd.call7 rfl (by intro himp; first | rfl | (simp_all; done)) (by rfl) (fun _ _ h k => h.ext k) (fun hcg w hw => hs1 hw.laid))) | ((show OpV _ _ _ _ (Oper.mk _ (Op.call ⟨.value (.func 7), _, _⟩) _ _ _ _) _ _; exact ov_call Tryd.call7 rfl (by intro himp; first | rfl | (simp_all; done)) (by rfl) (fun _ _ h k => h.ext k) (fun hcg w hw => hs2 hw.laid))) | fail) ?_ | refine xl_box rfl (fun _ => ?_)) | refine wc_ret rfl ?_)
  exact wr_weak (fun _ h => h.drop (List.nil_sublist _)) (wr_tmp rfl rfl rfl)
end Go.Proofs.YtgfbieplidpebaaDoor
/-
  The engine at a region that draws its order and in which what is laid is filled: what a writer leaves is told of the slot that it writes to. Nothing of the program stands here.
-/
namespace Go.Eng
open Go.RowKit
set_option linter.unusedVariables false

/-- the slot that a store goes to -/
def kk (o : Oper) : Nat := match o.op with
  | .store _ (.tmp t) _ => t
  | _ => 0
/-- each writer's slot is written in the region, ahead of it -/
def keyed (ops : Array Oper) (m : Nat) : Bool := (List.range m).all fun i => match ops[i]? with
  | none => true
  | some o => o.dst.isSome || (List.range ops.size).any fun q => (edges o).contains q && (match ops[q]? with | some p => p.dst == some (kk o) | none => false)
theorem keyed_at {ops : Array Oper} {m i : Nat} {o : Oper} (h : keyed ops m = true) (hi : i < m) (ho : ops[i]? = some o) (hd : o.dst = none) : ∃ q p, ops[q]? = some p ∧ p.dst = some (kk o) ∧ q ∈ edges o := by
  unfold keyed at h
  rw [List.all_eq_true] at h
  have h := h i (List.mem_range.2 hi)
  rw [ho] at h
  simp only [hd, Option.isSome_none, Bool.false_or, List.any_eq_true, Bool.and_eq_true] at h
  obtain ⟨q, _, h1, h2⟩ := h
  split at h2
  · rename_i p hp
    exact ⟨q, p, hp, by simpa using h2, by simpa using h1⟩
  · cases h2
section
variable {P : Program} {n : Nat} {E : Env} {C : World → Prop} {k : Kont} {ops : Array Oper} {X : World → World → Prop}
structure ObK (P : Program) (ops : Array Oper) (n : Nat) (C : World → Prop) (X : World → World → Prop) (o : Oper) (G : REnv) (V : Tell) : Prop where
  run : ∀ a w, C w → a.defers = [] → a.tmps.size = n → HR G (· ∈ o.looksAt ops) a w →
    (Region.wanted o (yielded ops a.tmps) = true → o.wp P a w (fun a' w' => ∃ v, a' = a.put o.dst v ∧ (o.dst = none → v = a.tmps.getD (kk o) undef) ∧ V v w' ∧ X w w' ∧ C w') (fun _ _ _ => False)) ∧
    (Region.wanted o (yielded ops a.tmps) = false → o.dst ≠ none ∧ V undef w)
def putK (o : Oper) (V : Tell) (Q : Act → World → Prop) : Act → World → Prop := match o.dst with
  | some _ => Q
  | none => fun a w => Q a w ∧ V (a.tmps.getD (kk o) undef) w
def WDsK (P : Program) (ops : Array Oper) (n : Nat) (C : World → Prop) (X : World → World → Prop) : List Oper → REnv → (Act → World → Prop) → (REnv → (Act → World → Prop) → Prop) → Prop
  | [], G, Q, fin => fin G Q
  | o :: rest, G, Q, fin => ∃ V, (∀ d, o.dst = some d → d < n) ∧ SteadyX X V ∧ ObK P ops n C X o G V ∧ WDsK P ops n C X rest (putG o V G) (putK o V Q) fin

theorem wds_outK : ∀ (l : List Oper) (i : Nat) (G : REnv) (Q : Act → World → Prop) (fin : REnv → (Act → World → Prop) → Prop), (∀ j, j < l.length → ops[i + j]? = l[j]?) → WDsK P ops n C X l G Q fin →
    ∃ (Vs : Nat → Tell) (Q' : Act → World → Prop), (∀ j, j < l.length → ∃ o, ops[i + j]? = some o ∧ (∀ d, o.dst = some d → d < n) ∧ SteadyX X (Vs j) ∧ ObK P ops n C X o (Gam (ops.extract i ops.size) Vs G j) (Vs j)) ∧ fin (Gam (ops.extract i ops.size) Vs G l.length) Q' ∧
      ∀ a w, Q a w → (∀ j o, j < l.length → ops[i + j]? = some o → o.dst = none → Vs j (a.tmps.getD (kk o) undef) w) → Q' a w
  | [], i, G, Q, fin, _, h => ⟨fun _ => fun _ _ => True, Q, by simp, h, fun _ _ hq _ => hq⟩
  | o :: rest, i, G, Q, fin, hl, h => by
    obtain ⟨V, hdn, hst, hob, hr⟩ := h
    have hoi : ops[i]? = some o := by simpa using hl 0 (by simp)
    obtain ⟨Vs, Q', h1, h2, h3⟩ := wds_outK rest (i + 1) (putG o V G) (putK o V Q) fin (fun j hj => by have := hl (j + 1) (by simp; omega); simpa [Nat.add_assoc, Nat.add_comm 1 j] using this) hr
    have hilt : i < ops.size := by
      rcases Nat.lt_or_ge i ops.size with h' | h'
      · exact h'
      · simp [Array.getElem?_eq_none h'] at hoi
    have key : ∀ j, Gam (ops.extract i ops.size) (fun | 0 => V | q + 1 => Vs q) G (j + 1) = Gam (ops.extract (i + 1) ops.size) Vs (putG o V G) j := by
      intro j
      induction j with
      | zero =>
        have : (ops.extract i ops.size)[0]? = some o := by rw [Array.getElem?_extract, if_pos (by omega)]; simpa using hoi
        cases hd : o.dst <;> simp [Gam, this, putG, hd]
      | succ j ih =>
        have e : (ops.extract i ops.size)[j + 1]? = (ops.extract (i + 1) ops.size)[j]? := by
          simp only [Array.getElem?_extract]
          have : i + (j + 1) = i + 1 + j := by omega
          rw [this]
          by_cases h' : j < min ops.size ops.size - (i + 1)
          · rw [if_pos (by omega), if_pos h']
          · rw [if_neg (by omega), if_neg h']
        have hS : ∀ (q : Nat) (A : Array Oper) (W : Nat → Tell) (G : REnv), Gam A W G (q + 1) = match (A[q]?).bind (·.dst) with | some d => (d, W q) :: Gam A W G q | none => Gam A W G q := fun _ _ _ _ => rfl
        rw [hS (j + 1) (ops.extract i ops.size) _ G, hS j (ops.extract (i + 1) ops.size) Vs, e, ih]
    refine ⟨fun | 0 => V | q + 1 => Vs q, Q', ?_, ?_, ?_⟩
    · intro j hj
      cases j with
      | zero => exact ⟨o, by simpa using hoi, hdn, hst, hob⟩
      | succ j =>
        obtain ⟨o', ho', hdn', hst', hob'⟩ := h1 j (by simpa using hj)
        exact ⟨o', by rw [← ho']; congr 1; omega, hdn', hst', by rw [key]; exact hob'⟩
    · rw [List.length_cons, key]; exact h2
    · intro a w hq hall
      refine h3 a w ?_ (fun j p hj hp hd => ?_)
      · unfold putK
        cases hd : o.dst with
        | some d => exact hq
        | none => exact ⟨hq, hall 0 o (by simp) (by simpa using hoi) hd⟩
      · exact hall (j + 1) p (by simpa using hj) (by rw [← hp]; congr 1; omega) hd

/-- The state in the midst of the first part. -/
structure MidK (ops : Array Oper) (n m : Nat) (C : World → Prop) (Vs : Nat → Tell) (G0 : REnv) (listed : Array Bool) (a : Act) (w : World) : Prop where
  closed : Closed ops listed
  inC : C w
  defers : a.defers = []
  size : a.tmps.size = n
  few : ∀ j, On listed j → j < m
  vals : ∀ j o d, On listed j → ops[j]? = some o → o.dst = some d → ∃ u, a.tmps[d]? = some u ∧ Vs j u w
  facts : ∀ j o, On listed j → ops[j]? = some o → o.dst = none → Vs j (a.tmps.getD (kk o) undef) w
  base : ∀ s U, lookR G0 s = some U → (∀ j o, On listed j → ops[j]? = some o → o.dst ≠ some s) → ∃ u, a.tmps[s]? = some u ∧ U u w

theorem mid_allK {Q : Exit → Act → World → Prop} {m : Nat} {Vs : Nat → Tell} {G0 : REnv} (hord : orderly ops m = true) (hkey : keyed ops m = true) (hm : m ≤ ops.size) (hst0 : ∀ s U, lookR G0 s = some U → SteadyX X U) (hrefl : ∀ w, X w w)
    (hV : ∀ j, j < m → ∃ o, ops[j]? = some o ∧ (∀ d, o.dst = some d → d < n) ∧ SteadyX X (Vs j) ∧ ObK P ops n C X o (Gam ops Vs G0 j) (Vs j))
    (hfin : ∀ a w, C w → HA n (Gam ops Vs G0 m) a w → (∀ j o, j < m → ops[j]? = some o → o.dst = none → Vs j (a.tmps.getD (kk o) undef) w) → wpList P ops Q (ops.toList.drop m) a w) :
    ∀ (fuel : Nat) (listed : Array Bool) (a : Act) (w : World), left listed = fuel → MidK ops n m C Vs G0 listed a w → wpAny P .any ops Q fuel listed a w := by
  -- all of the prefix is done
  have done : ∀ (fuel : Nat) (listed : Array Bool) (a : Act) (w : World), left listed = fuel → MidK ops n m C Vs G0 listed a w → (∀ j, j < m → On listed j) → wpAny P .any ops Q fuel listed a w := by
    intro fuel listed a w hf hmid hall
    have hon : ∀ j, On listed j ↔ j < m := fun j => ⟨hmid.few j, hall j⟩
    have hlen : left listed = (ops.toList.drop m).length := by
      have : listed = Array.ofFn (n := ops.size) (fun i => decide (i.val < m)) := by
        apply Array.ext
        · simp [hmid.closed.size]
        · intro i h1 h2
          have := hon i
          simp [On, h1] at this
          simp
          cases hb : listed[i] with
          | true => simp [← this, hb]
          | false => simp [hb] at this; simp; omega
      have hc : ∀ (q : Nat), (List.ofFn (n := q) (fun i => decide (i.val < m))).countP (fun b => !b) = q - m := by
        intro q
        induction q with
        | zero => simp
        | succ q ih =>
          rw [List.ofFn_succ_last]
          simp only [List.countP_append, Fin.val_castSucc] 
          rw [ih]
          by_cases h' : q < m
          · simp [h']; omega
          · simp [h']; omega
      unfold left
      rw [this, Array.toList_ofFn, hc]
      simp
    rw [← hf, hlen]
    refine tail_any hord (ops.toList.drop m) m listed a w (Nat.le_refl _) (by simp; omega) (fun j hj => by simp) hmid.closed.size hon (hfin a w hmid.inC ⟨hmid.defers, hmid.size, ?_⟩ (fun j o hj ho hd => hmid.facts j o (hall j hj) ho hd))
    intro s U hs _
    rcases look_gam hs with ⟨j, o, hj, ho, hd, rfl⟩ | ⟨h0, hn⟩
    · exact hmid.vals j o s (hall j hj) ho hd
    · exact hmid.base s U h0 (fun j o hj ho => hn j o ((hon j).1 hj) ho)
  intro fuel
  induction fuel with
  | zero =>
    intro listed a w hf hmid
    exact done 0 listed a w hf hmid (fun j hj => left_zero hf (by rw [hmid.closed.size]; omega))
  | succ fuel ih =>
    intro listed a w hf hmid
    by_cases hall : ∀ j, j < m → On listed j
    · exact done _ listed a w hf hmid hall
    have hready : ∃ i o, i < m ∧ ops[i]? = some o ∧ ¬ On listed i ∧ ∀ l ∈ edges o, On listed l := by
      have : ∃ i, i < m ∧ ¬ On listed i := by
        rcases Classical.em (∃ i, i < m ∧ ¬ On listed i) with h' | h'
        · exact h'
        · exact absurd (fun j hj => Classical.byContradiction fun hn => h' ⟨j, hj, hn⟩) hall
      obtain ⟨i, ⟨hi, hni⟩, hleast⟩ := exists_least this
      have hilt : i < ops.size := by omega
      refine ⟨i, ops[i], hi, by simp [hilt], hni, fun l hl => ?_⟩
      have hli := (orderly_at hord (i := i) (o := ops[i]) (by simp [hilt])).1 l hl
      exact Classical.byContradiction fun hn => by have := hleast l ⟨by omega, hn⟩; omega
    refine ⟨fun h0 => ?_, fun i hi => ?_⟩
    · obtain ⟨i, o, him, ho, hno, hr⟩ := hready
      have : i ∈ Region.ready .any ops listed := (ready_iff hmid.closed.size).2 ⟨o, ho, hno, hr⟩
      rw [h0] at this; cases this
    · obtain ⟨o, ho, hno, hr⟩ := (ready_iff hmid.closed.size).1 hi
      have hord1 := orderly_at hord ho
      have him : i < m := by
        rcases Nat.lt_or_ge i m with h' | h'
        · exact h'
        · obtain ⟨q, p, hqm, hp, hnq, _⟩ := hready
          exact absurd (anc_on hmid.closed (i + 1) i o ho hr q (hord1.2.2.2 h' q (by omega))) hnq
      obtain ⟨o', ho', hdn, hst, hob⟩ := hV i him
      obtain rfl : o = o' := by rw [ho] at ho'; simpa using ho'
      have hilt : i < listed.size := by rw [hmid.closed.size]; omega
      have hHR : HR (Gam ops Vs G0 i) (· ∈ o.looksAt ops) a w := by
        intro s U hs hlook
        rcases look_gam hs with ⟨j, p, hj, hp, hd', rfl⟩ | ⟨h0, hn⟩
        · have := ((hord1.2.2.1 j p s hp (by omega) hd').2 hlook)
          rw [if_pos hj] at this
          exact hmid.vals j p s (hr j this) hp hd'
        · refine hmid.base s U h0 (fun j p hj hp hs' => ?_)
          by_cases hji : j < i
          · exact hn j p hji hp hs'
          · have hne : j ≠ i := fun e => hno (e ▸ hj)
            have := ((hord1.2.2.1 j p s hp hne hs').2 hlook)
            rw [if_neg hji] at this
            exact hno (hmid.closed.back j p hp hj i this)
      have hnext : ∀ v w', (o.dst = none → v = a.tmps.getD (kk o) undef) → Vs i v w' → X w w' → C w' → wpAny P .any ops Q fuel (listed.setIfInBounds i true) (a.put o.dst v) w' := by
        intro v w' hun hv hx hC'
        have hsz : (a.put o.dst v).tmps.size = n := by
          cases hd : o.dst <;> simp [Act.put, hmid.size]
        have hdf : (a.put o.dst v).defers = [] := by
          cases hd : o.dst <;> simp [Act.put, hmid.defers]
        have hoth : ∀ s, o.dst ≠ some s → (a.put o.dst v).tmps[s]? = a.tmps[s]? := by
          intro s hs
          cases hd : o.dst with
          | none => simp [Act.put]
          | some d =>
            have hne : d ≠ s := fun e => hs (by rw [hd, e])
            simp only [Act.put]; rw [Array.getElem?_setIfInBounds_ne hne]
        refine ih _ _ _ (by have := left_set hilt hno; omega) ⟨⟨by simpa using hmid.closed.size, ?_⟩, hC', hdf, hsz, ?_, ?_, ?_, ?_⟩
        · intro q p hp hq j hj
          rw [on_set hilt] at hq ⊢
          rcases hq with rfl | hq
          · rw [ho] at hp; obtain rfl : o = p := by simpa using hp
            exact .inr (hr j hj)
          · exact .inr (hmid.closed.back q p hp hq j hj)
        · intro j hj
          rw [on_set hilt] at hj
          rcases hj with rfl | hj
          · exact him
          · exact hmid.few j hj
        · intro j p d' hj hp hd'
          rw [on_set hilt] at hj
          by_cases e : j = i
          · subst e; rw [ho] at hp; obtain rfl : o = p := by simpa using hp
            have hdn' := hdn d' hd'
            exact ⟨v, by rw [hd']; simp [Act.put, hmid.size, hdn'], hv⟩
          · have hj : On listed j := hj.resolve_left e
            obtain ⟨u, hu, hVu⟩ := hmid.vals j p d' hj hp hd'
            have hne := (hord1.2.2.1 j p d' hp e hd').1
            obtain ⟨o2, ho2, _, hst2, _⟩ := hV j (hmid.few j hj)
            exact ⟨u, by rw [hoth d' hne]; exact hu, hst2 _ _ _ hx hVu⟩
        · intro j p hj hp hd'
          rw [on_set hilt] at hj
          by_cases e : j = i
          · subst e; rw [ho] at hp; obtain rfl : o = p := by simpa using hp
            have e2 := hun hd'
            subst e2
            rw [show (a.put o.dst (a.tmps.getD (kk o) undef)) = a by rw [hd']; rfl]
            exact hv
          · have hj : On listed j := hj.resolve_left e
            obtain ⟨o2, ho2, _, hst2, _⟩ := hV j (hmid.few j hj)
            obtain ⟨q, oq, hq, hqd, hqe⟩ := keyed_at hkey (hmid.few j hj) hp hd'
            have hql : On listed q := hmid.closed.back j p hp hj q hqe
            have hqi : q ≠ i := fun e => hno (e ▸ hql)
            have hsl : (a.put o.dst v).tmps.getD (kk p) undef = a.tmps.getD (kk p) undef := by
              have := hoth (kk p) ((hord1.2.2.1 q oq (kk p) hq hqi hqd).1)
              simp only [Array.getD_eq_getD_getElem?, this]
            rw [hsl]
            exact hst2 _ _ _ hx (hmid.facts j p hj hp hd')
        · intro s U hs hn
          have hne : o.dst ≠ some s := hn i o (by rw [on_set hilt]; exact .inl rfl) ho
          obtain ⟨u, hu, hU⟩ := hmid.base s U hs (fun j p hj hp => hn j p (by rw [on_set hilt]; exact .inr hj) hp)
          exact ⟨u, by rw [hoth s hne]; exact hu, hst0 s U hs _ _ _ hx hU⟩
      obtain ⟨h1, h2⟩ := hob.run a w hmid.inC hmid.defers hmid.size hHR
      unfold wpOp
      simp only [ho]
      split
      · rename_i hw
        refine .inl ?_
        have := h1 hw
        unfold Oper.wp at this ⊢
        generalize (execOp a.eval o).run P w = r at *
        cases r with
        | ok nx w1 =>
          cases nx <;> simp only [Oper.upon] at this ⊢
          case value u => obtain ⟨v, e, hun, h3, h4, h5⟩ := this; rw [e]; exact hnext v _ hun h3 h4 h5
          case skip => obtain ⟨v, e, hun, h3, h4, h5⟩ := this; rw [e]; exact hnext v _ hun h3 h4 h5
          case defer => obtain ⟨v, e, hun, h3, h4, h5⟩ := this; rw [e]; exact hnext v _ hun h3 h4 h5
          case enter f args =>
            refine this.mono fun e w2 he => ?_
            cases e with
            | returned u => obtain ⟨v, e, hun, h3, h4, h5⟩ := he; show wpAny P .any ops Q fuel _ (a.put o.dst u) w2; rw [e]; exact hnext v _ hun h3 h4 h5
            | panicked c => exact he.elim
            | outgrown => obtain ⟨_, _, h⟩ := he; exact h.elim
          case row row args => refine this.mono fun u w2 he => ?_; obtain ⟨v, e, hun, h3, h4, h5⟩ := he; rw [e]; exact hnext v _ hun h3 h4 h5
        | halt x w1 => cases x <;> simp only [Oper.upon] at this
      · rename_i hw
        have hw' : Region.wanted o (yielded ops a.tmps) = false := by simpa using hw
        exact hnext undef w (fun h => absurd h (h2 hw').1) (h2 hw').2 (hrefl _) hmid.inC



/-- The told part, exact entries and others apart; what writers leave; what is left is walked in the order of the text. -/
structure WK (P : Program) (ops : Array Oper) (l : List Oper) (n : Nat) (E : Env) (F : REnv) (C : World → Prop) (X : World → World → Prop) (Q : Act → World → Prop) (tail : List Oper) (k : Kont) : Prop where
  run : (∀ s, lookR F s ≠ none → look E s = none) → ∀ G, (∀ s, lookR G s = match lookR F s with | some V => some V | none => (look E s).map fun cv => exact1 cv.1 cv.2) →
    WDsK P ops n C X l G Q (fun G' Q' => ∀ a w, C w → Q' a w → HA n G' a w → wpList P ops (k.post P) tail a w)
theorem wc_drawK {id : Nat} {l : List Oper} (m : Nat) (X : World → World → Prop) (hm : P.follows .mixedOrders = true) (hml : Nat.ble m l.length = true) (hord : orderly l.toArray m = true) (hkey : keyed l.toArray m = true) (hrefl : ∀ w, X w w) (hC : ∀ w, C w → C w.drew)
    (h : WK P l.toArray (l.take m) n E [] C X (fun _ _ => True) (l.drop m) k) : WC P (.region id l.toArray true) n E C k := by
  have hml : m ≤ l.length := Nat.le_of_ble_eq_true hml
  refine ⟨fun a w ha hw => wp_region_any hm ?_⟩
  have h := h.run (by intro s hs; simp [lookR] at hs) (ofEnv E) (by intro s; simp [lookR, lookR_ofEnv])
  obtain ⟨Vs, Q', hV, hfin, hQ⟩ := wds_outK (ops := l.toArray) (l.take m) 0 _ _ _ (by intro j hj; simp at hj; simp [hj]) h
  have hex : l.toArray.extract 0 l.toArray.size = l.toArray := by simp
  rw [hex] at hV hfin
  have hlen : (l.take m).length = m := by simp; omega
  rw [hlen] at hV hfin hQ
  refine mid_allK (m := m) (C := C) (X := X) (G0 := ofEnv E) hord hkey (by simpa using hml) ?_ hrefl (fun j hj => ?_) (fun a w hCw hA hf => by simpa using hfin a w hCw (hQ a w trivial (fun j o hj ho hd => hf j o hj (by simpa using ho) hd)) hA) _ _ a _ (start_left _) ?_
  · intro s U hs
    rw [lookR_ofEnv] at hs
    obtain ⟨cv, _, rfl⟩ := Option.map_eq_some_iff.1 hs
    exact steadyX_exact _ _ _
  · obtain ⟨o, h1, h2⟩ := hV j hj
    exact ⟨o, by simpa using h1, h2⟩
  · refine ⟨⟨by simp, fun i o _ hi => absurd hi (start_on _ _)⟩, hC w hw, ha.defers, ha.size, fun j hj => absurd hj (start_on _ _), fun j o d hj => absurd hj (start_on _ _), fun j o hj => absurd hj (start_on _ _), ?_⟩
    intro s U hs _
    rw [lookR_ofEnv] at hs
    obtain ⟨cv, hcv, rfl⟩ := Option.map_eq_some_iff.1 hs
    exact ⟨_, ha.reads s cv.1 cv.2 hcv, rfl⟩
theorem wk_v {d : Nat} {cg : Bool} {v : Value} {o : Oper} {rest tail : List Oper} {F : REnv} {Q : Act → World → Prop} (hX : ∀ w w', Ext w w' → X w w') (hg : gd ops E o.guard = some cg) (ho : o.dst = some d) (hd : Nat.blt d n = true) (hb : belowN n E = true) (hsel : noSel o = true) (hF : lookR F d = none)
    (hv : OpV P n E C o cg v) (h : WK P ops rest n ((d, cg, v) :: E) F C X Q tail k) : WK P ops (o :: rest) n E F C X Q tail k := ⟨fun hdis G hG => by
  have hd : d < n := by simpa [Nat.blt_eq] using hd
  refine ⟨exact1 cg v, (fun d' hd' => by rw [ho] at hd'; cases hd'; exact hd), steadyX_exact _ _ _, ⟨fun a w hw had has hHR => ?_⟩, ?_⟩
  · obtain ⟨b, hb1, hb2, hb3⟩ := turn (ops := ops) (E := E) o had has (fun i c u hi hm => by
      have hFi : lookR F i = none := by
        cases hf : lookR F i with
        | none => rfl
        | some V => rw [hdis i (by simp [hf])] at hi; cases hi
      obtain ⟨u', h1, h2⟩ := hHR i (exact1 c u) (by rw [hG]; simp [hFi, hi]) hm
      rw [h1, h2]) (noSel_spec hsel) (belowN_look hb)
    have hwb := wanted_gd (ops := ops) hb1 hg
    rw [hb3] at hwb
    refine ⟨fun hwant => ?_, fun hno => ?_⟩
    · have hcg : cg = true := by rw [← hwb]; exact hwant
      have := hv.run hcg b hb1 w hw
      have : YAt P o a C w v := by unfold YAt at *; rw [hb2] at this; exact this
      exact this.wp hw fun w' hw' hx => ⟨v, rfl, (fun h => by rw [ho] at h; cases h), by simp [exact1, hcg], hX _ _ hx, hw'⟩
    · have hcg : cg = false := by rw [← hwb]; exact hno
      exact ⟨by rw [ho]; simp, by simp [exact1, hcg]⟩
  · unfold putG putK
    rw [ho]
    refine h.run (fun s hs => ?_) _ ?_
    · by_cases e : d = s
      · subst e; exact absurd hF hs
      · simp only [look, beq_no e, cond_false]; exact hdis s hs
    · intro s
      by_cases e : d = s
      · subst e; simp [lookR, look, hF]
      · simp only [lookR, look, beq_no e, cond_false]; exact hG s⟩

theorem yk_v {d : Nat} {cg : Bool} {v : Value} {o : Oper} {rest tail : List Oper} {F : REnv} {Q : Act → World → Prop} (hX : ∀ w w', Ext w w' → X w w') (hg : gd ops E o.guard = some cg) (ho : o.dst = some d) (hd : Nat.blt d n = true) (hb : belowN n E = true) (hsel : noSel o = true) (hF : lookR F d = none)
    (h : WK P ops rest n ((d, cg, v) :: E) F C X Q tail k) (hv : OpV P n E C o cg v := by first | (show OpV _ _ _ _ (Oper.mk _ (Op.move _) _ _ _ _) _ _; exact xo_move rfl) | (show OpV _ _ _ _ (Oper.mk _ (Op.call ⟨.builtin .len, _, _⟩) _ _ _ _) _ _; first | (apply pl_s rfl; exact xo_slen rfl) | exact xo_len rfl) | (show OpV _ _ _ _ (Oper.mk _ (Op.load _ _) _ _ _ _) _ _; first | (apply pd_st rfl; exact xo_loadS rfl) | exact xo_load1 rfl) | (show OpV _ _ _ _ (Oper.mk _ (Op.assign _) _ _ _ _) _ _; exact xo_assign rfl) | (show OpV _ _ _ _ (Oper.mk _ (Op.binOp _ _ _ _ _) _ _ _ _) _ _; first | (show OpV _ _ _ _ (Oper.mk _ (Op.binOp BinOp.eql _ _ _ _) _ _ _ _) _ _; first | (apply pb_i rfl; exact xo_eql rfl rfl) | (apply pb_s rfl; exact xo_seql rfl rfl) | (apply pb_b rfl; exact xo_beql rfl rfl) | exact xo_aeql rfl rfl) | (show OpV _ _ _ _ (Oper.mk _ (Op.binOp BinOp.neq _ _ _ _) _ _ _ _) _ _; first | (apply pb_i rfl; exact xo_neq rfl rfl) | (apply pb_s rfl; exact xo_sneq rfl rfl) | (apply pb_b rfl; exact xo_bneq rfl rfl) | exact xo_aneq rfl rfl) | (show OpV _ _ _ _ (Oper.mk _ (Op.binOp BinOp.lss _ _ _ _) _ _ _ _) _ _; exact xo_lss rfl rfl) | (show OpV _ _ _ _ (Oper.mk _ (Op.binOp BinOp.leq _ _ _ _) _ _ _ _) _ _; exact xo_leq rfl rfl) | (show OpV _ _ _ _ (Oper.mk _ (Op.binOp BinOp.gtr _ _ _ _) _ _ _ _) _ _; exact xo_gtr rfl rfl) | (show OpV _ _ _ _ (Oper.mk _ (Op.binOp BinOp.geq _ _ _ _) _ _ _ _) _ _; exact xo_geq rfl rfl) | (show OpV _ _ _ _ (Oper.mk _ (Op.binOp BinOp.add _ _ _ _) _ _ _ _) _ _; first | (apply pb_i rfl; exact xo_add rfl rfl) | exact ov_sadd rfl rfl (by first | with_reducible exact fun _ => rfl | with_reducible exact fun h => h | exact fun _ => rfl | exact fun h => h | (intro himp; simp_all; done)) (by first | with_reducible exact fun _ => rfl | with_reducible exact fun h => h | exact fun _ => rfl | exact fun h => h | (intro himp; simp_all; done)) (by intro hcg; first | omega | (simp only [List.length_append, List.length_take, List.length_drop, List.length_cons, List.length_nil, List.length_nil]; omega))) | (show OpV _ _ _ _ (Oper.mk _ (Op.binOp BinOp.sub _ _ _ _) _ _ _ _) _ _; exact xo_sub rfl rfl) | (show OpV _ _ _ _ (Oper.mk _ (Op.binOp BinOp.mul _ _ _ _) _ _ _ _) _ _; exact xo_mul rfl rfl) | (show OpV _ _ _ _ (Oper.mk _ (Op.binOp BinOp.quo _ _ _ _) _ _ _ _) _ _; exact xo_quo rfl rfl) | (show OpV _ _ _ _ (Oper.mk _ (Op.binOp BinOp.rem _ _ _ _) _ _ _ _) _ _; exact xo_rem rfl rfl) ) | (show OpV _ _ _ _ (Oper.mk _ (Op.pick _ _ _) _ _ _ _) _ _; first | exact xo_and rfl rfl | exact xo_or rfl rfl) | (show OpV _ _ _ _ (Oper.mk _ (Op.extract _ _) _ _ _ _) _ _; exact xo_extract rfl) | (show OpV _ _ _ _ (Oper.mk _ (Op.unOp _ _ _) _ _ _ _) _ _; exact xo_not rfl) | (show OpV _ _ _ _ (Oper.mk _ (Op.slice _ _ _ _ _) _ _ _ _) _ _; first | (show OpV _ _ _ _ (Oper.mk _ (Op.slice _ _ (some _) (some _) none) _ _ _ _) _ _; first | (apply ps_s rfl; exact xo_slice rfl rfl rfl) | exact xo_slcB rfl rfl rfl) | (show OpV _ _ _ _ (Oper.mk _ (Op.slice _ _ (some _) none none) _ _ _ _) _ _; first | (apply ps_s rfl; exact xo_from rfl rfl) | exact xo_slcFrom rfl rfl) | (show OpV _ _ _ _ (Oper.mk _ (Op.slice _ _ none (some _) none) _ _ _ _) _ _; first | (apply ps_s rfl; exact xo_to rfl rfl) | exact xo_slcTo rfl rfl) | (show OpV _ _ _ _ (Oper.mk _ (Op.slice _ _ none (some _) (some _)) _ _ _ _) _ _; exact xo_slc3 rfl rfl rfl) ) | (show OpV _ _ _ _ (Oper.mk _ (Op.index _ _ _) _ _ _ _) _ _; exact xo_sindex rfl rfl) | (show OpV _ _ _ _ (Oper.mk _ (Op.convert _ _ _) _ _ _ _) _ _; first | (apply pc_i rfl; exact xo_conv rfl) | exact xo_convBytes rfl) | (show OpV _ _ _ _ (Oper.mk _ (Op.fieldAddr _ _ _) _ _ _ _) _ _; exact xo_fieldAddr rfl) | (show OpV _ _ _ _ (Oper.mk _ (Op.field _ _ _) _ _ _ _) _ _; exact xo_field rfl) | (show OpV _ _ _ _ (Oper.mk _ (Op.build _ _) _ _ _ _) _ _; exact xo_build rfl) | (show OpV _ _ _ _ (Oper.mk _ (Op.makeFunc _ _ _) _ _ _ _) _ _; exact ov_makeFunc rfl rfl) | (show OpV _ _ _ _ (Oper.mk _ (Op.nilCheck _) _ _ _ _) _ _; exact xo_nilCheck rfl)) : WK P ops (o :: rest) n E F C X Q tail k := wk_v hX hg ho hd hb hsel hF hv h
/-! ### a cell that is laid and filled -/
variable {w0 : World} {bs : List Nat} {H : List (Nat × Obj)} {M : Ghost}
/-- laid, whatever is in it -/
def FreshL (w0 : World) (bs : List Nat) (H : List (Nat × Obj)) (M : Ghost) (len : Nat) (T : TypeId) : Tell := fun v w => ∃ b c, v = .pointer (some ⟨b, 0, none⟩) ∧ List.length c = len ∧ St w0 bs ((b, .cells c.toArray T (0, 0)) :: H) M w
/-- laid, with what was stored -/
def FullC (w0 : World) (bs : List Nat) (H : List (Nat × Obj)) (M : Ghost) (us : List Value) (T : TypeId) : Tell := fun v w => ∃ b, v = .pointer (some ⟨b, 0, none⟩) ∧ St w0 bs ((b, .cells us.toArray T (0, 0)) :: H) M w
structure XA (w0 : World) (bs : List Nat) (H : List (Nat × Obj)) (M : Ghost) (us : List Value) (T : TypeId) (w w' : World) : Prop where
  any : ∀ b c, List.length c = us.length → St w0 bs ((b, .cells c.toArray T (0, 0)) :: H) M w → ∃ c', List.length c' = us.length ∧ St w0 bs ((b, .cells c'.toArray T (0, 0)) :: H) M w'
  full : ∀ b, St w0 bs ((b, .cells us.toArray T (0, 0)) :: H) M w → St w0 bs ((b, .cells us.toArray T (0, 0)) :: H) M w'
theorem XA.refl {us : List Value} {T : TypeId} (w : World) : XA w0 bs H M us T w w := ⟨fun b c h1 h2 => ⟨c, h1, h2⟩, fun _ h => h⟩
theorem XA.ext {us : List Value} {T : TypeId} (w w' : World) (h : Ext w w') : XA w0 bs H M us T w w' := ⟨fun b c h1 h2 => ⟨c, h1, h2.ext h⟩, fun _ h2 => h2.ext h⟩
theorem St.join {b b' : Nat} {o o' : Obj} {w : World} (h : St w0 bs ((b, o) :: H) M w) (h' : St w0 bs ((b', o') :: H) M w) (hne : b ≠ b') : St w0 bs ((b, o) :: (b', o') :: H) M w := by
  have hn := h.nodup
  have hn' := h'.nodup
  simp only [List.map_cons, List.nodup_cons] at hn hn'
  refine ⟨h.keep, fun p hp => ?_, fun p hp => ?_, ?_, h.laid, fun q r hm p hp => ?_⟩
  · rcases List.mem_cons.1 hp with rfl | hp
    · exact h.own _ List.mem_cons_self
    · exact h'.own p hp
  · rcases List.mem_cons.1 hp with rfl | hp
    · exact h.new _ List.mem_cons_self
    · exact h'.new p hp
  · simp only [List.map_cons, List.nodup_cons, List.mem_cons, not_or]
    exact ⟨⟨hne, hn.1⟩, hn'⟩
  · rcases List.mem_cons.1 hp with rfl | hp
    · exact h.apart q r hm _ List.mem_cons_self
    · exact h'.apart q r hm p hp
/-- the store -/
theorem XA.store {b : Nat} {c us : List Value} {T : TypeId} {w w' : World} (h : St w0 bs ((b, .cells c.toArray T (0, 0)) :: H) M w) (hk : Keep [b] w w') (h' : St w0 bs ((b, .cells us.toArray T (0, 0)) :: H) M w') : XA w0 bs H M us T w w' := by
  have key : ∀ (q : Nat) (o : Obj), q ≠ b → St w0 bs ((q, o) :: H) M w → St w0 bs ((q, o) :: H) M w' := fun q o hne hq => by
    have hj := St.join h hq (fun e => hne e.symm)
    have := hj.upd (o' := .cells us.toArray T (0, 0)) Upd.here hk (h'.own _ List.mem_cons_self)
    exact this.drop (List.sublist_cons_self _ _)
  refine ⟨fun q d hd hq => ?_, fun q hq => ?_⟩
  · by_cases e : q = b
    · subst e; exact ⟨us, rfl, h'⟩
    · exact ⟨d, hd, key q _ e hq⟩
  · by_cases e : q = b
    · subst e; exact h'
    · exact key q _ e hq
theorem wk_alloc {d : Nat} {T : TypeId} {z : Value} {us : List Value} {ty : TypeId} {pos : String} {af : Array Edge} {rest tail : List Oper} {F : REnv} {Q : Act → World → Prop} (hd : Nat.blt d n = true) (hE : look E d = none) (hz : ∀ w, (zeroValue T).run P w = .ok z w) (hl : z.cells.size = us.length)
    (h : WK P ops rest n E ((d, FreshL w0 bs H M us.length T) :: F) (St w0 bs H M) (XA w0 bs H M us T) Q tail k) : WK P ops (⟨some d, .alloc T, ty, pos, af, none⟩ :: rest) n E F (St w0 bs H M) (XA w0 bs H M us T) Q tail k := ⟨fun hdis G hG => by
  have hd : d < n := by simpa [Nat.blt_eq] using hd
  refine ⟨FreshL w0 bs H M us.length T, (fun d' hd' => by cases hd'; exact hd), fun u w w' hx hv => ?_, ⟨fun a w hw had has hHR => ⟨fun _ => ?_, fun hno => by simp [Region.wanted] at hno⟩⟩, ?_⟩
  · obtain ⟨b, c, h1, h2, h3⟩ := hv
    obtain ⟨c', h4, h5⟩ := hx.any b c h2 h3
    exact ⟨b, c', h1, h4, h5⟩
  · have hr : (execOp a.eval ⟨some d, .alloc T, ty, pos, af, none⟩).run P w = .ok (.value (.pointer (some ⟨w.heap.size, 0, none⟩))) { w with heap := w.heap.push (.cells z.cells T (0, 0)) } := by
      simp [execOp, Instr.alloc, hz, newVar, run_newRow]
    unfold Oper.wp
    rw [hr, Oper.upon_value]
    have h2 := hw.alloc (.cells z.cells T (0, 0))
    refine ⟨_, rfl, (fun h => by cases h), ⟨_, z.cells.toList, rfl, by simpa using hl, h2⟩, XA.ext _ _ ⟨rfl, rfl, rfl, by simp, fun b hb _ => by simp only [Array.getElem?_push]; rw [if_neg (by omega)]⟩, h2.drop (List.sublist_cons_self _ _)⟩
  · unfold putG putK
    refine h.run (fun s hs => ?_) _ ?_
    · by_cases e : d = s
      · subst e; exact hE
      · simp only [lookR, beq_no e, cond_false] at hs; exact hdis s hs
    · intro s
      by_cases e : d = s
      · subst e; simp [lookR]
      · simp only [lookR, beq_no e, cond_false]; exact hG s⟩
theorem wk_store {d s : Nat} {T t : TypeId} {v : Value} {us : List Value} {ty : TypeId} {pos : String} {af : Array Edge} {rest tail : List Oper} {F : REnv} {Q : Act → World → Prop} (hF : lookR F d = some (FreshL w0 bs H M us.length T)) (hs : look E s = some (true, v)) (hsz : (P.info? t).map (·.size) = some v.cells.size) (hv : v.cells.toList = us) (hp : us.all plainV = true)
    (h : WK P ops rest n E F (St w0 bs H M) (XA w0 bs H M us T) (fun a w => Q a w ∧ FullC w0 bs H M us T (a.tmps.getD d undef) w) tail k) : WK P ops (⟨none, .store t (.tmp d) (.tmp s), ty, pos, af, none⟩ :: rest) n E F (St w0 bs H M) (XA w0 bs H M us T) Q tail k := ⟨fun hdis G hG => by
  refine ⟨FullC w0 bs H M us T, (fun d' hd' => by cases hd'), fun u w w' hx hv => ?_, ⟨fun a w hw had has hHR => ⟨fun _ => ?_, fun hno => by simp [Region.wanted] at hno⟩⟩, ?_⟩
  · obtain ⟨b, h1, h3⟩ := hv
    exact ⟨b, h1, hx.full b h3⟩
  · have hmd : d ∈ (⟨none, .store t (.tmp d) (.tmp s), ty, pos, af, none⟩ : Oper).looksAt ops := by
      unfold Oper.looksAt
      exact List.mem_append_left _ (List.mem_filterMap.2 ⟨.tmp d, by simp [Op.operands], rfl⟩)
    have hms : s ∈ (⟨none, .store t (.tmp d) (.tmp s), ty, pos, af, none⟩ : Oper).looksAt ops := by
      unfold Oper.looksAt
      exact List.mem_append_left _ (List.mem_filterMap.2 ⟨.tmp s, by simp [Op.operands], rfl⟩)
    obtain ⟨u, hu, b, c, rfl, hc, hst⟩ := hHR d _ (by rw [hG, hF]) hmd
    have hFs : lookR F s = none := by
      cases hf : lookR F s with
      | none => rfl
      | some V => rw [hdis s (by simp [hf])] at hs; cases hs
    obtain ⟨u', hu', he⟩ := hHR s (exact1 true v) (by rw [hG, hFs, hs]; rfl) hms
    have hx : a.eval (.tmp d) = .pointer (some ⟨b, 0, none⟩) := by show a.tmps.getD d undef = _; simp [Array.getD_eq_getD_getElem?, hu]
    have hy : a.eval (.tmp s) = v := by
      have e1 : u' = v := he
      show a.tmps.getD s undef = _; simp [Array.getD_eq_getD_getElem?, hu', e1]
    obtain ⟨w', h1, h2, h3, h4⟩ := exec_store (P := P) (ty := ty) (pos := pos) (af := af) (g := none) (t := t) (l := us) (c := c) hst hx hy hsz hv (by rw [hc]) hp
    unfold Oper.wp
    rw [h1, Oper.upon_skip]
    refine ⟨a.tmps.getD d undef, rfl, fun _ => rfl, ⟨b, hx, h3⟩, XA.store hst h2 h3, h3.drop (List.sublist_cons_self _ _)⟩
  · exact h.run hdis G hG⟩
theorem wk_nil {d : Nat} {T : TypeId} {us : List Value} {tail : List Oper} {F : REnv} {Q : Act → World → Prop} (hF : lookR F d = some (FreshL w0 bs H M us.length T)) (h : ∀ b, WL P ops tail n ((d, true, .pointer (some ⟨b, 0, none⟩)) :: E) (St w0 bs ((b, .cells us.toArray T (0, 0)) :: H) M) k) :
    WK P ops [] n E F (St w0 bs H M) X (fun a w => Q a w ∧ FullC w0 bs H M us T (a.tmps.getD d undef) w) tail k := ⟨fun hdis G hG a w hw hq hA => by
  obtain ⟨_, b, hb, hst⟩ := hq
  obtain ⟨u, hu, hU⟩ := hA.2.2 d _ (by rw [hG, hF]) trivial
  have e : a.tmps.getD d undef = u := by simp [Array.getD_eq_getD_getElem?, hu]
  rw [e] at hb
  subst hb
  refine (h b).run a w ⟨hA.1, hA.2.1, fun i c v hi => ?_⟩ hst
  simp only [look] at hi
  by_cases e : d = i
  · subst e; simp at hi; obtain ⟨rfl, rfl⟩ := hi; exact hu
  · rw [beq_no e, cond_false] at hi
    have hFi : lookR F i = none := by
      cases hf : lookR F i with
      | none => rfl
      | some V => rw [hdis i (by simp [hf])] at hi; cases hi
    obtain ⟨u', hu', hU'⟩ := hA.2.2 i (exact1 c v) (by rw [hG]; simp [hFi, hi]) trivial
    rw [hu', hU']⟩
end
end Go.Eng
/-
  matricularef06.Find; the chapter's example.
-/
namespace Go.Proofs.YtgfbieplidpebaaDoor
open Go.Eng Go.Pct Go.Xml Go.Cas
set_option maxRecDepth 10000
set_option linter.unusedSimpArgs false
set_option linter.unusedVariables false

variable {M : Ghost} {w0 w : World} {bs : List Nat} {H : List (Nat × Obj)}
theorem slS_tail {a : Option Addr} {p : List UInt8} {l : List (List UInt8)} {cap : Nat} (h : SlS M (.slice a (l.length + 1) cap) (p :: l)) (hc : l.length + 1 ≤ cap) : SlS M (Eng.slc a 1 1 (l.length + 1) cap) l := by
  have := Sl.slc (i := 1) (j := l.length + 1) (c := cap) h (by omega) (by simp) hc (Nat.le_refl _)
  have e : ((p :: l).drop 1).take (l.length + 1 - 1) = l := by simp
  rw [e] at this
  exact this
set_option maxHeartbeats 1000000 in
theorem rfind_ok : ∀ (path : List (List UInt8)) {D : Nat} {x : Nd} {un : List UInt8} {a1 : Option Addr} {l1 c1 : Nat} {ut : List UInt8} {a2 : Option Addr} {l2 c2 : Nat}, NodeC M (D + 1) x [str un, .slice a1 l1 c1, str ut, .slice a2 l2 c2] →
    ∃ n y1 m1 d1 t y2 m2 d2, NodeC M (D + 1) (foundN x path) [str n, .slice y1 m1 d1, str t, .slice y2 m2 d2] ∧ ∀ (w : World), Laid M w → ∀ vp, SlS M vp path → Calls Tryd.prog 11 #[.agg [str un, .slice a1 l1 c1, str ut, .slice a2 l2 c2].toArray, vp] w (RetE w (.tuple #[.agg [str n, .slice y1 m1 d1, str t, .slice y2 m2 d2].toArray, .bool (findN x path).isSome]))
  | [], D, x, un, a1, l1, c1, ut, a2, l2, c2, hx => by
    refine ⟨un, a1, l1, c1, ut, a2, l2, c2, hx, fun w hM vp hp => ?_⟩
    obtain ⟨a, cap, b, o, cs, T, fz, rfl, g1, g2, g3, g4⟩ := hp.open
    refine calls_st (l := [.agg [str un, .slice a1 l1 c1, str ut, .slice a2 l2 c2].toArray, .slice a [].length cap]) hM Tryd.func11 rfl rfl rfl (E0 := [(0, true, .agg [str un, .slice a1 l1 c1, str ut, .slice a2 l2 c2].toArray), (1, true, .slice a [].length cap)]) (params_cons rfl (params_cons rfl (params_nil _))) ?_
    repeat' (first | refine wc_seq ?_ | refine wc_region ?_ | refine wl_nil ?_ | refine wn_seq ?_ | refine wn_blk ?_ | refine wc_skip ?_ | refine wc_block ?_ | refine wc_exit rfl ?_ | (show WL _ _ (_ :: _) _ _ _ _; first | refine yl_v rfl rfl rfl ?_ | refine wl_v rfl rfl rfl (by first  | fail) ?_ | refine xl_alloc (fun _ => ?_) | refine xl_box rfl (fun _ => ?_) | refine xl_store rfl rfl ?_) | refine wc_ret rfl ?_)
    refine wc_cond rfl (fun hc => ?_) (fun hc => by exfalso; simp at hc)
    repeat' (first | refine wc_seq ?_ | refine wc_region ?_ | refine wl_nil ?_ | refine wn_seq ?_ | refine wn_blk ?_ | refine wc_skip ?_ | refine wc_block ?_ | refine wc_exit rfl ?_ | (show WL _ _ (_ :: _) _ _ _ _; first | refine yl_v rfl rfl rfl ?_ | refine wl_v rfl rfl rfl (by first  | fail) ?_ | refine xl_alloc (fun _ => ?_) | refine xl_box rfl (fun _ => ?_) | refine xl_store rfl rfl ?_) | refine wc_ret rfl ?_)
    exact yr_cellS rfl rfl rfl rfl rfl rfl rfl
  | p :: l, D, x, un, a1, l1, c1, ut, a2, l2, c2, hx => by
    have hk := node_kd hx
    have hfs := find_step (x := x) (p := p) (l := l)
    unfold foundN
    rw [hfs]
    generalize kdN x = k at *
    obtain ⟨a3, cap3, b3, o3, cs3, T3, fz3, e3, k1, k2, k3, k4⟩ := Sl.open hk
    cases e3
    generalize hq : idxN (fun y => decide (nmN y = p)) k = q
    by_cases hql : q < k.length
    · rw [if_pos hql]
      have hne3 : k ≠ [] := by intro e; subst e; simp at hql
      obtain ⟨rfl, hMb3⟩ := k3 hne3
      obtain ⟨us, hu4, hus, hcells⟩ := k4 q hql
      obtain ⟨vn, ua1, ul1, uc1, vt, ua2, ul2, uc2, rfl⟩ := node_open hus
      have hgi := getD_nd hql
      rw [hgi]
      cases D with
      | zero => exact hus.elim
      | succ D =>
        obtain ⟨n, y1, m1, d1, t, y2, m2, d2, hN, hcall⟩ := rfind_ok l hus
        refine ⟨n, y1, m1, d1, t, y2, m2, d2, NodeC.up (Nat.le_succ _) hN, fun w hM vp hp => ?_⟩
        obtain ⟨a, cap, b, o, cs, T, fz, rfl, g1, g2, g3, g4⟩ := hp.open
        obtain ⟨rfl, hMb⟩ := g3 (by simp)
        have gp := g4 0 (by simp)
        have htl := fun {w : World} (hw : Laid M w) => hcall w hw _ (slS_tail hp g1)
        clear hcall hp g3 g4
        refine calls_st (l := [.agg [str un, .slice a1 l1 c1, str ut, .slice (some ⟨b3, o3, none⟩) k.length c2].toArray, .slice (some ⟨b, o, none⟩) (p :: l).length cap]) hM Tryd.func11 rfl rfl rfl (E0 := [(0, true, .agg [str un, .slice a1 l1 c1, str ut, .slice (some ⟨b3, o3, none⟩) k.length c2].toArray), (1, true, .slice (some ⟨b, o, none⟩) (p :: l).length cap)]) (params_cons rfl (params_cons rfl (params_nil _))) ?_
        repeat' (first | refine wc_seq ?_ | refine wc_region ?_ | refine wl_nil ?_ | refine wn_seq ?_ | refine wn_blk ?_ | refine wc_skip ?_ | refine wc_block ?_ | refine wc_exit rfl ?_ | (show WL _ _ (_ :: _) _ _ _ _; first | refine yl_v rfl rfl rfl ?_ | refine wl_v rfl rfl rfl (by first  | fail) ?_ | refine xl_alloc (fun _ => ?_) | refine xl_box rfl (fun _ => ?_) | refine xl_store rfl rfl ?_) | refine wc_ret rfl ?_)
        rename_i b2 b4
        refine wc_cond rfl (fun hc => by exfalso; simp at hc; omega) (fun hc => ?_)
        clear hc
        repeat' (first | refine wc_seq ?_ | refine wc_region ?_ | refine wl_nil ?_ | refine wn_seq ?_ | refine wn_blk ?_ | refine wc_skip ?_ | refine wc_block ?_ | refine wc_exit rfl ?_ | (show WL _ _ (_ :: _) _ _ _ _; first | refine yl_v rfl rfl rfl ?_ | refine wl_v rfl rfl rfl (by first  | fail) ?_ | refine xl_alloc (fun _ => ?_) | refine xl_box rfl (fun _ => ?_) | refine xl_store rfl rfl ?_) | refine wc_ret rfl ?_)
        refine wc_loop (α := { i : Nat // i ≤ k.length ∧ ∀ j, j < i → decide (nmN (k.getD j nodeZ) = p) = false }) (fun z => [(1, true, .slice (some ⟨b, o, none⟩) (p :: l).length cap), (2, true, .pointer (some ⟨b2, 0, none⟩)), (4, true, .pointer (some ⟨b4, 0, none⟩)), (6, true, i64 (z.1 : Int))]) (fun _ => St w [] [(b4, .cells [str [], .slice none 0 0, str [], .slice none 0 0].toArray tNd (0, 0)), (b2, .cells [str un, .slice a1 l1 c1, str ut, .slice (some ⟨b3, o3, none⟩) k.length c2].toArray tNd (0, 0))] M) (fun z => k.length - z.1) ⟨0, by omega, by intro j hj; omega⟩ (by first | exact Sub.nil _ | (repeat (first | exact Sub.nil _ | refine Sub.cons (by first | rfl | (simp [look]; done)) ?_))) (fun _ h => h) ?_
        rintro ⟨i, hi, hall⟩
        dsimp only
        rcases Nat.lt_or_ge i k.length with hlt | hge
        · obtain ⟨ws, hw4, hws, hwc⟩ := k4 i hlt
          obtain ⟨wn, wa1, wl1, wc1, wt, wa2, wl2, wc2, rfl⟩ := node_open hws
          have hnm := node_nm hws
          have hwg := getD_nd hlt
          rw [← hwg] at hnm
          repeat' (first | refine wc_seq ?_ | refine wc_region ?_ | refine wl_nil ?_ | refine wn_seq ?_ | refine wn_blk ?_ | refine wc_skip ?_ | refine wc_block ?_ | refine wc_exit rfl ?_ | (show WL _ _ (_ :: _) _ _ _ _; first | refine yl_v rfl rfl rfl ?_ | refine wl_v rfl rfl rfl (by first  | fail) ?_ | refine xl_alloc (fun _ => ?_) | refine xl_box rfl (fun _ => ?_) | refine xl_store rfl rfl ?_) | refine wc_ret rfl ?_)
          refine wc_cond rfl (fun hc => ?_) (fun hc => by exfalso; simp at hc; omega)
          clear hc
          repeat' (first | refine wc_seq ?_ | refine wc_region ?_ | refine wl_nil ?_ | refine wn_seq ?_ | refine wn_blk ?_ | refine wc_skip ?_ | refine wc_block ?_ | refine wc_exit rfl ?_ | (show WL _ _ (_ :: _) _ _ _ _; first | refine yl_v rfl rfl rfl ?_ | refine wl_v rfl rfl rfl (by first  | fail) ?_ | refine xl_alloc (fun _ => ?_) | refine xl_box rfl (fun _ => ?_) | refine xl_store rfl rfl ?_) | refine wc_ret rfl ?_)
          refine wc_draw 10 (by kernel_rfl) rfl (by kernel_rfl) (fun _ _ h k => h.ext k) ?_
          repeat' (first | (show WD _ _ (_ :: _) _ _ _ _ _ _; first | refine yd_v rfl rfl rfl rfl rfl rfl ?_ | refine wd_v rfl rfl rfl rfl rfl rfl (by first | (show OpV _ _ _ _ (Oper.mk _ (Op.indexAddr _ _ (.const _)) _ _ _ _) _ _; exact ov_indexAddr (i := 0) (b := b) (o := o) rfl rfl rfl (by first | with_reducible exact fun _ => rfl | with_reducible exact fun h => h | exact fun _ => rfl | exact fun h => h | (intro himp; simp_all; done)) (by first | with_reducible exact fun _ => rfl | with_reducible exact fun h => h | exact fun _ => rfl | exact fun h => h | (intro himp; simp_all; done)) rfl (by first | exact (rfl : _ = some 1) | exact (rfl : _ = some 2) | exact (rfl : _ = some 3) | exact (rfl : _ = some 4) | exact (rfl : _ = some 6) | exact rfl) (fun _ => rfl) (fun _ => by simp)) | (show OpV _ _ _ _ (Oper.mk _ (Op.indexAddr _ _ _) _ _ _ _) _ _; exact ov_indexAddr (i := i) (b := b3) (o := o3) rfl rfl rfl (by first | with_reducible exact fun _ => rfl | with_reducible exact fun h => h | exact fun _ => rfl | exact fun h => h | (intro himp; simp_all; done)) (by first | with_reducible exact fun _ => rfl | with_reducible exact fun h => h | exact fun _ => rfl | exact fun h => h | (intro himp; simp_all; done)) rfl (by first | exact (rfl : _ = some 1) | exact (rfl : _ = some 2) | exact (rfl : _ = some 3) | exact (rfl : _ = some 4) | exact (rfl : _ = some 6) | exact rfl) (fun _ => rfl) (by intro hcg; first | omega | (simp at hcg; omega))) | (show OpV _ _ _ _ (Oper.mk _ (Op.load _ _) _ _ _ _) _ _; exact ov_load1M rfl (by first | with_reducible exact fun _ => rfl | with_reducible exact fun h => h | exact fun _ => rfl | exact fun h => h | (intro himp; simp_all; done)) rfl rfl (fun _ => hMb3) (fun _ => hwc 0 (by simp))) | (show OpV _ _ _ _ (Oper.mk _ (Op.load _ _) _ _ _ _) _ _; exact ov_load1M rfl (by first | with_reducible exact fun _ => rfl | with_reducible exact fun h => h | exact fun _ => rfl | exact fun h => h | (intro himp; simp_all; done)) rfl rfl (fun _ => hMb) (fun _ => gp)) | fail) ?_ | refine yd_new rfl rfl rfl rfl rfl rfl ?_ | refine wd_conv rfl rfl rfl rfl rfl rfl rfl rfl rfl rfl ?_) | (show WD _ _ _ _ _ _ _ _ _; first | refine wd_nil ?_ | refine wd_nilF ?_) | (first | refine wc_seq ?_ | refine wc_region ?_ | refine wl_nil ?_ | refine wn_seq ?_ | refine wn_blk ?_ | refine wc_skip ?_ | refine wc_block ?_ | refine wc_exit rfl ?_ | (show WL _ _ (_ :: _) _ _ _ _; first | refine yl_v rfl rfl rfl ?_ | refine wl_v rfl rfl rfl (by first | (show OpV _ _ _ _ (Oper.mk _ (Op.indexAddr _ _ (.const _)) _ _ _ _) _ _; exact ov_indexAddr (i := 0) (b := b) (o := o) rfl rfl rfl (by first | with_reducible exact fun _ => rfl | with_reducible exact fun h => h | exact fun _ => rfl | exact fun h => h | (intro himp; simp_all; done)) (by first | with_reducible exact fun _ => rfl | with_reducible exact fun h => h | exact fun _ => rfl | exact fun h => h | (intro himp; simp_all; done)) rfl (by first | exact (rfl : _ = some 1) | exact (rfl : _ = some 2) | exact (rfl : _ = some 3) | exact (rfl : _ = some 4) | exact (rfl : _ = some 6) | exact rfl) (fun _ => rfl) (fun _ => by simp)) | (show OpV _ _ _ _ (Oper.mk _ (Op.indexAddr _ _ _) _ _ _ _) _ _; exact ov_indexAddr (i := i) (b := b3) (o := o3) rfl rfl rfl (by first | with_reducible exact fun _ => rfl | with_reducible exact fun h => h | exact fun _ => rfl | exact fun h => h | (intro himp; simp_all; done)) (by first | with_reducible exact fun _ => rfl | with_reducible exact fun h => h | exact fun _ => rfl | exact fun h => h | (intro himp; simp_all; done)) rfl (by first | exact (rfl : _ = some 1) | exact (rfl : _ = some 2) | exact (rfl : _ = some 3) | exact (rfl : _ = some 4) | exact (rfl : _ = some 6) | exact rfl) (fun _ => rfl) (by intro hcg; first | omega | (simp at hcg; omega))) | (show OpV _ _ _ _ (Oper.mk _ (Op.load _ _) _ _ _ _) _ _; exact ov_load1M rfl (by first | with_reducible exact fun _ => rfl | with_reducible exact fun h => h | exact fun _ => rfl | exact fun h => h | (intro himp; simp_all; done)) rfl rfl (fun _ => hMb3) (fun _ => hwc 0 (by simp))) | (show OpV _ _ _ _ (Oper.mk _ (Op.load _ _) _ _ _ _) _ _; exact ov_load1M rfl (by first | with_reducible exact fun _ => rfl | with_reducible exact fun h => h | exact fun _ => rfl | exact fun h => h | (intro himp; simp_all; done)) rfl rfl (fun _ => hMb) (fun _ => gp)) | fail) ?_ | refine xl_alloc (fun _ => ?_) | refine xl_box rfl (fun _ => ?_) | refine xl_store rfl rfl ?_) | refine wc_ret rfl ?_))
          refine wc_cond rfl (fun hc => ?_) (fun hc => ?_)
          · have hiq : i = q := by rw [← hq]; exact (idxN_hit _ hlt hall (by rw [hnm]; exact hc)).symm
            subst hiq
            repeat' (first | refine wc_seq ?_ | refine wc_region ?_ | refine wl_nil ?_ | refine wn_seq ?_ | refine wn_blk ?_ | refine wc_skip ?_ | refine wc_block ?_ | refine wc_exit rfl ?_ | (show WL _ _ (_ :: _) _ _ _ _; first | refine yl_v rfl rfl rfl ?_ | refine wl_v rfl rfl rfl (by first  | fail) ?_ | refine xl_alloc (fun _ => ?_) | refine xl_box rfl (fun _ => ?_) | refine xl_store rfl rfl ?_) | refine wc_ret rfl ?_)
            refine wc_drawK 13 (XA w [] [(b4, .cells [str [], .slice none 0 0, str [], .slice none 0 0].toArray tNd (0, 0)), (b2, .cells [str un, .slice a1 l1 c1, str ut, .slice (some ⟨b3, o3, none⟩) k.length c2].toArray tNd (0, 0))] M [str n, .slice y1 m1 d1, str t, .slice y2 m2 d2] tNd) (by kernel_rfl) rfl (by kernel_rfl) (by kernel_rfl) XA.refl (fun w' h => h.ext (Ext.drew w' 1)) ?_
            repeat' (first | (show WK _ _ (_ :: _) _ _ _ _ _ _ _ _; first | refine yk_v XA.ext rfl rfl rfl rfl rfl rfl ?_ | refine wk_v XA.ext rfl rfl rfl rfl rfl rfl (by first | (show OpV _ _ _ _ (Oper.mk _ (Op.indexAddr _ _ _) _ _ _ _) _ _; exact ov_indexAddr (i := i) (b := b3) (o := o3) rfl rfl rfl (by first | with_reducible exact fun _ => rfl | with_reducible exact fun h => h | exact fun _ => rfl | exact fun h => h | (intro himp; simp_all; done)) (by first | with_reducible exact fun _ => rfl | with_reducible exact fun h => h | exact fun _ => rfl | exact fun h => h | (intro himp; simp_all; done)) rfl (by first | exact (rfl : _ = some 1) | exact (rfl : _ = some 2) | exact (rfl : _ = some 3) | exact (rfl : _ = some 4) | exact (rfl : _ = some 6) | exact rfl) (fun _ => rfl) (by intro hcg; first | omega | (simp at hcg; omega))) | (show OpV _ _ _ _ (Oper.mk _ (Op.load _ _) _ _ _ _) _ _; exact ov_loadSM (l := [str vn, .slice ua1 ul1 uc1, str vt, .slice ua2 ul2 uc2]) rfl (by first | with_reducible exact fun _ => rfl | with_reducible exact fun h => h | exact fun _ => rfl | exact fun h => h | (intro himp; simp_all; done)) rfl (by first | exact (rfl : _ = some 1) | exact (rfl : _ = some 2) | exact (rfl : _ = some 3) | exact (rfl : _ = some 4) | exact (rfl : _ = some 6) | exact rfl) (fun _ => hMb3) (fun _ j hj => hcells j hj)) | ((show OpV _ _ _ _ (Oper.mk _ (Op.call ⟨.value (.func 11), _, _⟩) _ _ _ _) _ _; exact ov_call Tryd.call11 rfl (by intro himp; first | rfl | (simp_all; done)) (by rfl) (fun _ _ h k => h.ext k) (fun hcg w hw => htl hw.laid))) | (show OpV _ _ _ _ (Oper.mk _ (Op.slice _ _ (some _) none none) _ _ _ _) _ _; exact ov_slcFrom (l := 1) rfl rfl rfl (by first | with_reducible exact fun _ => rfl | with_reducible exact fun h => h | exact fun _ => rfl | exact fun h => h | (intro himp; simp_all; done)) (by first | with_reducible exact fun _ => rfl | with_reducible exact fun h => h | exact fun _ => rfl | exact fun h => h | (intro himp; simp_all; done)) rfl (by first | exact (rfl : _ = some 1) | exact (rfl : _ = some 2) | exact (rfl : _ = some 3) | exact (rfl : _ = some 4) | exact (rfl : _ = some 6) | exact rfl) (fun _ => by simp)) | fail) ?_ | refine wk_alloc rfl rfl (fun _ => rfl) rfl ?_ | refine wk_store rfl rfl rfl rfl rfl ?_) | (show WK _ _ [] _ _ _ _ _ _ _ _; refine wk_nil rfl (fun _ => ?_)) | (first | refine wc_seq ?_ | refine wc_region ?_ | refine wl_nil ?_ | refine wn_seq ?_ | refine wn_blk ?_ | refine wc_skip ?_ | refine wc_block ?_ | refine wc_exit rfl ?_ | (show WL _ _ (_ :: _) _ _ _ _; first | refine yl_v rfl rfl rfl ?_ | refine wl_v rfl rfl rfl (by first | (show OpV _ _ _ _ (Oper.mk _ (Op.indexAddr _ _ _) _ _ _ _) _ _; exact ov_indexAddr (i := i) (b := b3) (o := o3) rfl rfl rfl (by first | with_reducible exact fun _ => rfl | with_reducible exact fun h => h | exact fun _ => rfl | exact fun h => h | (intro himp; simp_all; done)) (by first | with_reducible exact fun _ => rfl | with_reducible exact fun h => h | exact fun _ => rfl | exact fun h => h | (intro himp; simp_all; done)) rfl (by first | exact (rfl : _ = some 1) | exact (rfl : _ = some 2) | exact (rfl : _ = some 3) | exact (rfl : _ = some 4) | exact (rfl : _ = some 6) | exact rfl) (fun _ => rfl) (by intro hcg; first | omega | (simp at hcg; omega))) | (show OpV _ _ _ _ (Oper.mk _ (Op.load _ _) _ _ _ _) _ _; exact ov_loadSM (l := [str vn, .slice ua1 ul1 uc1, str vt, .slice ua2 ul2 uc2]) rfl (by first | with_reducible exact fun _ => rfl | with_reducible exact fun h => h | exact fun _ => rfl | exact fun h => h | (intro himp; simp_all; done)) rfl (by first | exact (rfl : _ = some 1) | exact (rfl : _ = some 2) | exact (rfl : _ = some 3) | exact (rfl : _ = some 4) | exact (rfl : _ = some 6) | exact rfl) (fun _ => hMb3) (fun _ j hj => hcells j hj)) | ((show OpV _ _ _ _ (Oper.mk _ (Op.call ⟨.value (.func 11), _, _⟩) _ _ _ _) _ _; exact ov_call Tryd.call11 rfl (by intro himp; first | rfl | (simp_all; done)) (by rfl) (fun _ _ h k => h.ext k) (fun hcg w hw => htl hw.laid))) | (show OpV _ _ _ _ (Oper.mk _ (Op.slice _ _ (some _) none none) _ _ _ _) _ _; exact ov_slcFrom (l := 1) rfl rfl rfl (by first | with_reducible exact fun _ => rfl | with_reducible exact fun h => h | exact fun _ => rfl | exact fun h => h | (intro himp; simp_all; done)) (by first | with_reducible exact fun _ => rfl | with_reducible exact fun h => h | exact fun _ => rfl | exact fun h => h | (intro himp; simp_all; done)) rfl (by first | exact (rfl : _ = some 1) | exact (rfl : _ = some 2) | exact (rfl : _ = some 3) | exact (rfl : _ = some 4) | exact (rfl : _ = some 6) | exact rfl) (fun _ => by simp)) | fail) ?_ | refine xl_alloc (fun _ => ?_) | refine xl_box rfl (fun _ => ?_) | refine xl_store rfl rfl ?_) | refine wc_ret rfl ?_))
            exact yr_cellS rfl rfl rfl rfl rfl rfl rfl
          · repeat' (first | refine wc_seq ?_ | refine wc_region ?_ | refine wl_nil ?_ | refine wn_seq ?_ | refine wn_blk ?_ | refine wc_skip ?_ | refine wc_block ?_ | refine wc_exit rfl ?_ | (show WL _ _ (_ :: _) _ _ _ _; first | refine yl_v rfl rfl rfl ?_ | refine wl_v rfl rfl rfl (by first  | fail) ?_ | refine xl_alloc (fun _ => ?_) | refine xl_box rfl (fun _ => ?_) | refine xl_store rfl rfl ?_) | refine wc_ret rfl ?_)
            refine wn_cut ⟨i + 1, by omega, ?_⟩ (by show k.length - (i + 1) < k.length - i; omega) (by first | exact Sub.nil _ | (repeat (first | exact Sub.nil _ | refine Sub.cons (by first | rfl | (simp [look]; done)) ?_))) (fun _ h => h)
            intro j hj
            by_cases h : j = i
            · subst h; rw [hnm]; exact hc
            · exact hall j (by omega)
        · exfalso
          have := idxN_no (fun y => decide (nmN y = p)) (l := k) (fun j hj => hall j (by omega))
          omega
    · rw [if_neg hql]
      refine ⟨[], none, 0, 0, [], none, 0, 0, nodeZ_ok, fun w hM vp hp => ?_⟩
      obtain ⟨a, cap, b, o, cs, T, fz, rfl, g1, g2, g3, g4⟩ := hp.open
      obtain ⟨rfl, hMb⟩ := g3 (by simp)
      have gp := g4 0 (by simp)
      clear hp g3 g4
      refine calls_st (l := [.agg [str un, .slice a1 l1 c1, str ut, .slice a2 k.length c2].toArray, .slice (some ⟨b, o, none⟩) (p :: l).length cap]) hM Tryd.func11 rfl rfl rfl (E0 := [(0, true, .agg [str un, .slice a1 l1 c1, str ut, .slice a2 k.length c2].toArray), (1, true, .slice (some ⟨b, o, none⟩) (p :: l).length cap)]) (params_cons rfl (params_cons rfl (params_nil _))) ?_
      repeat' (first | refine wc_seq ?_ | refine wc_region ?_ | refine wl_nil ?_ | refine wn_seq ?_ | refine wn_blk ?_ | refine wc_skip ?_ | refine wc_block ?_ | refine wc_exit rfl ?_ | (show WL _ _ (_ :: _) _ _ _ _; first | refine yl_v rfl rfl rfl ?_ | refine wl_v rfl rfl rfl (by first  | fail) ?_ | refine xl_alloc (fun _ => ?_) | refine xl_box rfl (fun _ => ?_) | refine xl_store rfl rfl ?_) | refine wc_ret rfl ?_)
      rename_i b2 b4
      refine wc_cond rfl (fun hc => by exfalso; simp at hc; omega) (fun hc => ?_)
      clear hc
      repeat' (first | refine wc_seq ?_ | refine wc_region ?_ | refine wl_nil ?_ | refine wn_seq ?_ | refine wn_blk ?_ | refine wc_skip ?_ | refine wc_block ?_ | refine wc_exit rfl ?_ | (show WL _ _ (_ :: _) _ _ _ _; first | refine yl_v rfl rfl rfl ?_ | refine wl_v rfl rfl rfl (by first  | fail) ?_ | refine xl_alloc (fun _ => ?_) | refine xl_box rfl (fun _ => ?_) | refine xl_store rfl rfl ?_) | refine wc_ret rfl ?_)
      refine wc_loop (α := { i : Nat // i ≤ k.length ∧ ∀ j, j < i → decide (nmN (k.getD j nodeZ) = p) = false }) (fun z => [(1, true, .slice (some ⟨b, o, none⟩) (p :: l).length cap), (2, true, .pointer (some ⟨b2, 0, none⟩)), (4, true, .pointer (some ⟨b4, 0, none⟩)), (6, true, i64 (z.1 : Int))]) (fun _ => St w [] [(b4, .cells [str [], .slice none 0 0, str [], .slice none 0 0].toArray tNd (0, 0)), (b2, .cells [str un, .slice a1 l1 c1, str ut, .slice a2 k.length c2].toArray tNd (0, 0))] M) (fun z => k.length - z.1) ⟨0, by omega, by intro j hj; omega⟩ (by first | exact Sub.nil _ | (repeat (first | exact Sub.nil _ | refine Sub.cons (by first | rfl | (simp [look]; done)) ?_))) (fun _ h => h) ?_
      rintro ⟨i, hi, hall⟩
      dsimp only
      rcases Nat.lt_or_ge i k.length with hlt | hge
      · have hne3 : k ≠ [] := by intro e; subst e; simp at hlt
        obtain ⟨rfl, hMb3⟩ := k3 hne3
        obtain ⟨ws, hw4, hws, hwc⟩ := k4 i hlt
        obtain ⟨wn, wa1, wl1, wc1, wt, wa2, wl2, wc2, rfl⟩ := node_open hws
        have hnm := node_nm hws
        have hwg := getD_nd hlt
        rw [← hwg] at hnm
        repeat' (first | refine wc_seq ?_ | refine wc_region ?_ | refine wl_nil ?_ | refine wn_seq ?_ | refine wn_blk ?_ | refine wc_skip ?_ | refine wc_block ?_ | refine wc_exit rfl ?_ | (show WL _ _ (_ :: _) _ _ _ _; first | refine yl_v rfl rfl rfl ?_ | refine wl_v rfl rfl rfl (by first  | fail) ?_ | refine xl_alloc (fun _ => ?_) | refine xl_box rfl (fun _ => ?_) | refine xl_store rfl rfl ?_) | refine wc_ret rfl ?_)
        refine wc_cond rfl (fun hc => ?_) (fun hc => by exfalso; simp at hc; omega)
        clear hc
        repeat' (first | refine wc_seq ?_ | refine wc_region ?_ | refine wl_nil ?_ | refine wn_seq ?_ | refine wn_blk ?_ | refine wc_skip ?_ | refine wc_block ?_ | refine wc_exit rfl ?_ | (show WL _ _ (_ :: _) _ _ _ _; first | refine yl_v rfl rfl rfl ?_ | refine wl_v rfl rfl rfl (by first  | fail) ?_ | refine xl_alloc (fun _ => ?_) | refine xl_box rfl (fun _ => ?_) | refine xl_store rfl rfl ?_) | refine wc_ret rfl ?_)
        refine wc_draw 10 (by kernel_rfl) rfl (by kernel_rfl) (fun _ _ h k => h.ext k) ?_
        repeat' (first | (show WD _ _ (_ :: _) _ _ _ _ _ _; first | refine yd_v rfl rfl rfl rfl rfl rfl ?_ | refine wd_v rfl rfl rfl rfl rfl rfl (by first | (show OpV _ _ _ _ (Oper.mk _ (Op.indexAddr _ _ (.const _)) _ _ _ _) _ _; exact ov_indexAddr (i := 0) (b := b) (o := o) rfl rfl rfl (by first | with_reducible exact fun _ => rfl | with_reducible exact fun h => h | exact fun _ => rfl | exact fun h => h | (intro himp; simp_all; done)) (by first | with_reducible exact fun _ => rfl | with_reducible exact fun h => h | exact fun _ => rfl | exact fun h => h | (intro himp; simp_all; done)) rfl (by first | exact (rfl : _ = some 1) | exact (rfl : _ = some 2) | exact (rfl : _ = some 3) | exact (rfl : _ = some 4) | exact (rfl : _ = some 6) | exact rfl) (fun _ => rfl) (fun _ => by simp)) | (show OpV _ _ _ _ (Oper.mk _ (Op.indexAddr _ _ _) _ _ _ _) _ _; exact ov_indexAddr (i := i) (b := b3) (o := o3) rfl rfl rfl (by first | with_reducible exact fun _ => rfl | with_reducible exact fun h => h | exact fun _ => rfl | exact fun h => h | (intro himp; simp_all; done)) (by first | with_reducible exact fun _ => rfl | with_reducible exact fun h => h | exact fun _ => rfl | exact fun h => h | (intro himp; simp_all; done)) rfl (by first | exact (rfl : _ = some 1) | exact (rfl : _ = some 2) | exact (rfl : _ = some 3) | exact (rfl : _ = some 4) | exact (rfl : _ = some 6) | exact rfl) (fun _ => rfl) (by intro hcg; first | omega | (simp at hcg; omega))) | (show OpV _ _ _ _ (Oper.mk _ (Op.load _ _) _ _ _ _) _ _; exact ov_load1M rfl (by first | with_reducible exact fun _ => rfl | with_reducible exact fun h => h | exact fun _ => rfl | exact fun h => h | (intro himp; simp_all; done)) rfl rfl (fun _ => hMb3) (fun _ => hwc 0 (by simp))) | (show OpV _ _ _ _ (Oper.mk _ (Op.load _ _) _ _ _ _) _ _; exact ov_load1M rfl (by first | with_reducible exact fun _ => rfl | with_reducible exact fun h => h | exact fun _ => rfl | exact fun h => h | (intro himp; simp_all; done)) rfl rfl (fun _ => hMb) (fun _ => gp)) | fail) ?_ | refine yd_new rfl rfl rfl rfl rfl rfl ?_ | refine wd_conv rfl rfl rfl rfl rfl rfl rfl rfl rfl rfl ?_) | (show WD _ _ _ _ _ _ _ _ _; first | refine wd_nil ?_ | refine wd_nilF ?_) | (first | refine wc_seq ?_ | refine wc_region ?_ | refine wl_nil ?_ | refine wn_seq ?_ | refine wn_blk ?_ | refine wc_skip ?_ | refine wc_block ?_ | refine wc_exit rfl ?_ | (show WL _ _ (_ :: _) _ _ _ _; first | refine yl_v rfl rfl rfl ?_ | refine wl_v rfl rfl rfl (by first | (show OpV _ _ _ _ (Oper.mk _ (Op.indexAddr _ _ (.const _)) _ _ _ _) _ _; exact ov_indexAddr (i := 0) (b := b) (o := o) rfl rfl rfl (by first | with_reducible exact fun _ => rfl | with_reducible exact fun h => h | exact fun _ => rfl | exact fun h => h | (intro himp; simp_all; done)) (by first | with_reducible exact fun _ => rfl | with_reducible exact fun h => h | exact fun _ => rfl | exact fun h => h | (intro himp; simp_all; done)) rfl (by first | exact (rfl : _ = some 1) | exact (rfl : _ = some 2) | exact (rfl : _ = some 3) | exact (rfl : _ = some 4) | exact (rfl : _ = some 6) | exact rfl) (fun _ => rfl) (fun _ => by simp)) | (show OpV _ _ _ _ (Oper.mk _ (Op.indexAddr _ _ _) _ _ _ _) _ _; exact ov_indexAddr (i := i) (b := b3) (o := o3) rfl rfl rfl (by first | with_reducible exact fun _ => rfl | with_reducible exact fun h => h | exact fun _ => rfl | exact fun h => h | (intro himp; simp_all; done)) (by first | with_reducible exact fun _ => rfl | with_reducible exact fun h => h | exact fun _ => rfl | exact fun h => h | (intro himp; simp_all; done)) rfl (by first | exact (rfl : _ = some 1) | exact (rfl : _ = some 2) | exact (rfl : _ = some 3) | exact (rfl : _ = some 4) | exact (rfl : _ = some 6) | exact rfl) (fun _ => rfl) (by intro hcg; first | omega | (simp at hcg; omega))) | (show OpV _ _ _ _ (Oper.mk _ (Op.load _ _) _ _ _ _) _ _; exact ov_load1M rfl (by first | with_reducible exact fun _ => rfl | with_reducible exact fun h => h | exact fun _ => rfl | exact fun h => h | (intro himp; simp_all; done)) rfl rfl (fun _ => hMb3) (fun _ => hwc 0 (by simp))) | (show OpV _ _ _ _ (Oper.mk _ (Op.load _ _) _ _ _ _) _ _; exact ov_load1M rfl (by first | with_reducible exact fun _ => rfl | with_reducible exact fun h => h | exact fun _ => rfl | exact fun h => h | (intro himp; simp_all; done)) rfl rfl (fun _ => hMb) (fun _ => gp)) | fail) ?_ | refine xl_alloc (fun _ => ?_) | refine xl_box rfl (fun _ => ?_) | refine xl_store rfl rfl ?_) | refine wc_ret rfl ?_))
        refine wc_cond rfl (fun hc => ?_) (fun hc => ?_)
        · exfalso
          have := idxN_hit (fun y => decide (nmN y = p)) hlt hall (by rw [hnm]; exact hc)
          omega
        · repeat' (first | refine wc_seq ?_ | refine wc_region ?_ | refine wl_nil ?_ | refine wn_seq ?_ | refine wn_blk ?_ | refine wc_skip ?_ | refine wc_block ?_ | refine wc_exit rfl ?_ | (show WL _ _ (_ :: _) _ _ _ _; first | refine yl_v rfl rfl rfl ?_ | refine wl_v rfl rfl rfl (by first  | fail) ?_ | refine xl_alloc (fun _ => ?_) | refine xl_box rfl (fun _ => ?_) | refine xl_store rfl rfl ?_) | refine wc_ret rfl ?_)
          refine wn_cut ⟨i + 1, by omega, ?_⟩ (by show k.length - (i + 1) < k.length - i; omega) (by first | exact Sub.nil _ | (repeat (first | exact Sub.nil _ | refine Sub.cons (by first | rfl | (simp [look]; done)) ?_))) (fun _ h => h)
          intro j hj
          by_cases h : j = i
          · subst h; rw [hnm]; exact hc
          · exact hall j (by omega)
      obtain rfl : i = k.length := by omega
      repeat' (first | refine wc_seq ?_ | refine wc_region ?_ | refine wl_nil ?_ | refine wn_seq ?_ | refine wn_blk ?_ | refine wc_skip ?_ | refine wc_block ?_ | refine wc_exit rfl ?_ | (show WL _ _ (_ :: _) _ _ _ _; first | refine yl_v rfl rfl rfl ?_ | refine wl_v rfl rfl rfl (by first  | fail) ?_ | refine xl_alloc (fun _ => ?_) | refine xl_box rfl (fun _ => ?_) | refine xl_store rfl rfl ?_) | refine wc_ret rfl ?_)
      refine wc_cond rfl (fun hc => by exfalso; simp at hc) (fun hc => ?_)
      repeat' (first | refine wc_seq ?_ | refine wc_region ?_ | refine wl_nil ?_ | refine wn_seq ?_ | refine wn_blk ?_ | refine wc_skip ?_ | refine wc_block ?_ | refine wc_exit rfl ?_ | (show WL _ _ (_ :: _) _ _ _ _; first | refine yl_v rfl rfl rfl ?_ | refine wl_v rfl rfl rfl (by first  | fail) ?_ | refine xl_alloc (fun _ => ?_) | refine xl_box rfl (fun _ => ?_) | refine xl_store rfl rfl ?_) | refine wc_ret rfl ?_)
      exact yr_cellS rfl rfl rfl rfl rfl rfl rfl
end Go.Proofs.YtgfbieplidpebaaDoor
/-
  What is told is read as it was; how many marks there are.
-/
namespace Go.Cas
open Go.Pct Go.Xml Go.Proofs.YtgfbieplidpebaaDoor
set_option linter.unusedVariables false
set_option linter.unusedSimpArgs false

theorem rsp_read {kind : List UInt8} {x : Nd} (h : rightN x = true) : readP (rsp kind x).body = some x := by
  unfold rsp wr
  simp only [h, if_true]
  exact readP_back h
theorem rsp_hdr (kind : List UInt8) (x : Nd) : hdrOk (rsp kind x) kind := ⟨rfl, rfl⟩
theorem rsp_same {kind : List UInt8} {x : Nd} (h : rightN x = true) : sameR (rsp kind x) (rsp kind x) = true := (same_iff _ _ _).2 ⟨rsp_hdr kind x, rsp_read h⟩
theorem rsp_rd {kind : List UInt8} {x : Nd} (h : rightN x = true) : rd (rsp kind x) = x := rd_of (rsp_read h)
theorem rsp_other {kind : List UInt8} {x y : Nd} (h : rightN x = true) (hne : x ≠ y) : ¬ sameR (rsp kind x) (rsp kind y) = true := by
  intro hs
  have := ((same_iff _ _ _).1 hs).2
  rw [rsp_read h] at this
  exact hne (by simpa using this)
theorem cas_inj {x y : Nd} (h : casN x = casN y) : x = y := by
  unfold casN at h
  simpa using h
theorem known_code {e : Int} (h : e ≠ 0) : ∃ i, knownE (codeE e) = some i := by
  have k1 : knownE cReq = some 32 := by decide +kernel
  have k2 : knownE cTkt = some 29 := by decide +kernel
  have k3 : knownE cSpec = some 31 := by decide +kernel
  have k4 : knownE cSvc = some 30 := by decide +kernel
  have k5 : knownE cUna = some 35 := by decide +kernel
  have k6 : knownE cCb = some 33 := by decide +kernel
  have k7 : knownE cInt = some 0 := by decide +kernel
  unfold codeE
  simp only [h, if_false]
  repeat' split
  all_goals first
    | exact ⟨_, k1⟩
    | exact ⟨_, k2⟩
    | exact ⟨_, k3⟩
    | exact ⟨_, k4⟩
    | exact ⟨_, k5⟩
    | exact ⟨_, k6⟩
    | exact ⟨_, k7⟩
theorem suc_fail (s : Suc) (at' : Bool) (n t c : List UInt8) (hn : n ≠ sSuc) : sucN s at' ≠ failN n t c := by
  intro h
  have := congrArg nmN h
  exact hn this.symm
theorem answer_back {s : Suc} (h : rightN (answerN s 0 true) = true) : readAnswerP (rsp sXml (answerN s 0 true)) = (s, [], true) := by
  unfold readAnswerP
  rw [if_neg]
  · rw [rsp_rd h]
    have e : sucOf (answerN s 0 true) = s := by rw [answer_suc, sucOf_back]
    rw [e, if_pos (rsp_same h)]
  · intro hc
    obtain ⟨v, i, _, _, hx⟩ := (failP_iff (fun e => answerN suc0 e true) (fun e h => answer_fail e h true suc0)).1 hc
    rw [rsp_read h, answer_suc] at hx
    exact suc_fail s true sAF sNotOk v (by decide) (cas_inj (by simpa using hx))
theorem answer_plain (s : Suc) : answerN s 0 false = answerN ⟨s.user, [], s.proxies, s.iou⟩ 0 true := by
  unfold answerN sucN sucK k1 k2 k3
  simp
theorem answer_fail_back {s : Suc} {e : Int} (he : e ≠ 0) {at' : Bool} (h : rightN (answerN s e at') = true) : readAnswerP (rsp sXml (answerN s e at')) = (suc0, codeE e, true) := by
  obtain ⟨i, hi⟩ := known_code he
  unfold readAnswerP
  rw [if_pos]
  · rw [rsp_rd h, answer_fail e he, failed_cas hi]
  · exact (failP_iff (fun e => answerN suc0 e true) (fun e h => answer_fail e h true suc0)).2 ⟨codeE e, i, hi, rsp_hdr _ _, by rw [rsp_read h, answer_fail e he]⟩
theorem proxy_back {pt : List UInt8} (h : rightN (proxyN pt 0) = true) : readProxyP (rsp sXml (proxyN pt 0)) = (pt, [], true) := by
  unfold readProxyP
  rw [if_neg]
  · rw [rsp_rd h]
    have e : txN (foundN (proxyN pt 0) [sPS, sPT]) = pt := by rw [proxy_suc, found_pt]
    rw [e, if_pos (rsp_same h)]
  · intro hc
    obtain ⟨v, i, _, _, hx⟩ := (failP_iff (fun e => proxyN [] e) (fun e h => proxy_fail e h [])).1 hc
    rw [rsp_read h, proxy_suc] at hx
    have := congrArg nmN (cas_inj (by simpa using hx))
    exact absurd this (by show ¬ sPS = sPF; decide)
theorem proxy_fail_back {pt : List UInt8} {e : Int} (he : e ≠ 0) (h : rightN (proxyN pt e) = true) : readProxyP (rsp sXml (proxyN pt e)) = ([], codeE e, true) := by
  obtain ⟨i, hi⟩ := known_code he
  unfold readProxyP
  rw [if_pos]
  · rw [rsp_rd h, proxy_fail e he, failed_cas hi]
  · exact (failP_iff (fun e => proxyN [] e) (fun e h => proxy_fail e h [])).2 ⟨codeE e, i, hi, rsp_hdr _ _, by rw [rsp_read h, proxy_fail e he]⟩
theorem proxy_of_answer {s : Suc} {at' : Bool} (h : rightN (answerN s 0 at') = true) : readProxyP (rsp sXml (answerN s 0 at')) = ([], [], false) := by
  unfold readProxyP
  rw [if_neg, if_neg]
  · refine rsp_other h fun hx => ?_
    rw [answer_suc, proxy_suc] at hx
    have := congrArg nmN (cas_inj hx)
    exact absurd this (by show ¬ sSuc = sPS; decide)
  · intro hc
    obtain ⟨v, i, _, _, hx⟩ := (failP_iff (fun e => proxyN [] e) (fun e h => proxy_fail e h [])).1 hc
    rw [rsp_read h, answer_suc] at hx
    exact suc_fail s at' sPF sNoPt v (by decide) (cas_inj (by simpa using hx))
theorem form_back {a b c : List UInt8} (h : rightN (formPN a b c) = true) : readFormP (rsp sHtmlT (formPN a b c)) = (a, b, c, true) := by
  unfold readFormP
  rw [rsp_rd h, form_found, form_p, (at2_form a b).1, (at2_form a b).2, if_pos ⟨formOk_form a b, rsp_same h⟩]
theorem page_back {a b : List UInt8} (h : rightN (pageN a b) = true) : readPageP (rsp sHtmlT (pageN a b)) = (a, b, true) := by
  unfold readPageP
  rw [rsp_rd h, page_p]
  exact if_pos ⟨rfl, rsp_same h⟩
theorem form_of_page {a b : List UInt8} (h : rightN (pageN a b) = true) : readFormP (rsp sHtmlT (pageN a b)) = ([], [], [], false) := by
  have e : foundN (pageN a b) [sBody, sForm] = nodeZ := by
    have d : ¬ nmN (Nd.mk sP [(sClass, a)] b []) = sForm := by show ¬ sP = sForm; decide
    unfold pageN
    rw [found_html]
    simp [d]
  unfold readFormP
  rw [rsp_rd h, e, if_neg]
  rintro ⟨⟨h1, _⟩, _⟩
  exact absurd h1 (by decide)
theorem page_of_form {a b c : List UInt8} (h : rightN (formPN a b c) = true) : readPageP (rsp sHtmlT (formPN a b c)) = ([], [], false) := by
  have e : (atN (foundN (formPN a b c) [sBody, sP])).length = 0 := by
    have d1 : ¬ nmN (formN a b) = sP := by show ¬ sForm = sP; decide
    have n2 : nmN (leafN sP c) = sP := rfl
    rw [form_eq, found_html]
    unfold formK
    by_cases h : c = []
    · simp [h, d1]; rfl
    · simp [h, n2]; rfl
  unfold readPageP
  rw [rsp_rd h, if_neg]
  rintro ⟨h1, _⟩
  omega

/-! ### marks -/
def mkB (c : UInt8) : Bool := decide (c = 60) || decide (c = 62)
def cntM (s : List UInt8) : Nat := s.countP mkB
theorem cntM_app (s t : List UInt8) : cntM (s ++ t) = cntM s + cntM t := List.countP_append
theorem cntM_esc (s : List UInt8) : cntM (esc s) = 0 := by
  unfold cntM
  rw [List.countP_eq_zero]
  intro c hc
  have := esc_bad c hc
  revert this
  unfold badC mkB
  simp only [Bool.or_eq_false_iff, beq_eq_false_iff_ne, Bool.or_eq_true, decide_eq_true_eq, not_or]
  rintro ⟨⟨⟨h1, h2⟩, _⟩, _⟩
  exact ⟨h1, h2⟩
theorem cntM_text (n : List UInt8) (a : List Pr) (t : List UInt8) (k : List Nd) : cntM (textN (.mk n a t k)) = 4 + 2 * cntM n + cntM (attrT a) + cntM (textL k) := by
  have e1 : cntM [60] = 1 := rfl
  have e2 : cntM [62] = 1 := rfl
  have e3 : cntM [60, 47] = 1 := rfl
  simp only [textN, cntM_app, cntM_esc, e1, e2, e3]
  omega
theorem cntM_attr (n v : List UInt8) : cntM (attrT [(n, v)]) = cntM n := by
  have e1 : cntM [32] = 0 := rfl
  have e2 : cntM [61, 34] = 0 := rfl
  have e3 : cntM [34] = 0 := rfl
  simp only [attrT, List.flatMap_cons, List.flatMap_nil, List.append_nil, cntM_app, cntM_esc, e1, e2, e3]
  omega
theorem cntM_one (x : Nd) : cntM (textL [x]) = cntM (textN x) := by
  simp only [textL, List.append_nil]
theorem cntM_page (a b : List UInt8) : cntM (textN (pageN a b)) = 12 := by
  have h1 : cntM sHtml = 0 := by decide
  have h2 : cntM sBody = 0 := by decide
  have h3 : cntM sP = 0 := by decide
  have h4 : cntM sClass = 0 := by decide
  have e : cntM (attrT []) = 0 := rfl
  have e2 : cntM (textL []) = 0 := rfl
  unfold pageN htmlN wrapN
  rw [cntM_text, cntM_one, cntM_text, cntM_one, cntM_text, cntM_attr, h1, h2, h3, h4, e, e2]
theorem cntM_user (u : List UInt8) : cntM (textN (answerN ⟨u, [], [], []⟩ 0 true)) = 12 := by
  have h1 : cntM sResp = 0 := by decide
  have h2 : cntM sSuc = 0 := by decide
  have h3 : cntM sUser = 0 := by decide
  have h4 : cntM sNs = 0 := by decide
  have e : cntM (attrT []) = 0 := rfl
  have e2 : cntM (textL []) = 0 := rfl
  have ek : sucK ⟨u, [], [], []⟩ true = [leafN sUser u] := by simp [sucK, k1, k2, k3]
  rw [answer_suc]
  unfold sucN wrapN casN
  rw [ek]
  unfold leafN
  rw [cntM_text, cntM_one, cntM_text, cntM_one, cntM_text, cntM_attr, h1, h2, h3, h4, e, e2]
theorem wr_right {x : Nd} (h : rightN x = true) : wr x = textN x := by unfold wr; rw [if_pos h]
theorem user_sh {u : List UInt8} (h : shwB u = true) : rightN (answerN ⟨u, [], [], []⟩ 0 true) = true :=
  right_answer ⟨h, (show shwB [] = true by decide), (fun p hp => by cases hp), (fun p hp => by cases hp)⟩ (by simp) (by simp) 0 true
/-- cas:user of a success -/
theorem user_found (u : List UInt8) : foundN (answerN ⟨u, [], [], []⟩ 0 true) [sSuc, sUser] = leafN sUser u := by
  have ek : sucK ⟨u, [], [], []⟩ true = [leafN sUser u] := by simp [sucK, k1, k2, k3]
  unfold foundN
  rw [answer_suc]
  unfold casN
  rw [find_one, if_pos (show nmN (sucN ⟨u, [], [], []⟩ true) = sSuc from rfl)]
  unfold sucN wrapN
  rw [ek, find_one, if_pos (show nmN (leafN sUser u) = sUser from rfl)]
  rfl
theorem user_isSome (u : List UInt8) : (findN (answerN ⟨u, [], [], []⟩ 0 true) [sSuc, sUser]).isSome = true := by
  have ek : sucK ⟨u, [], [], []⟩ true = [leafN sUser u] := by simp [sucK, k1, k2, k3]
  rw [answer_suc]
  unfold casN
  rw [find_one, if_pos (show nmN (sucN ⟨u, [], [], []⟩ true) = sSuc from rfl)]
  unfold sucN wrapN
  rw [ek, find_one, if_pos (show nmN (leafN sUser u) = sUser from rfl)]
  rfl
theorem page_isSome (a b : List UInt8) : (findN (pageN a b) [sBody, sP]).isSome = true := by
  unfold pageN htmlN wrapN
  rw [find_one, if_pos (show nmN (Nd.mk sBody [] [] [Nd.mk sP [(sClass, a)] b []]) = sBody from rfl), find_one, if_pos (show nmN (Nd.mk sP [(sClass, a)] b []) = sP from rfl)]
  rfl
end Go.Cas
/-
  The chapter's example; the walks of RenderBack, RenderForms.
-/
namespace Go.Proofs.YtgfbieplidpebaaDoor
open Go.Eng Go.Pct Go.Xml Go.Cas
set_option maxRecDepth 10000
set_option linter.unusedSimpArgs false
set_option linter.unusedVariables false

variable {M : Ghost} {w0 w : World} {bs : List Nat} {H : List (Nat × Obj)}
def exS : Suc := ⟨[117], [], [], []⟩
def exX : Nd := answerN exS 0 true
/-- the example's text -/
def exT : List UInt8 := [60, 99, 97, 115, 58, 115, 101, 114, 118, 105, 99, 101, 82, 101, 115, 112, 111, 110, 115, 101, 32, 120, 109, 108, 110, 115, 58, 99, 97, 115, 61, 34, 104, 116, 116, 112, 58, 47, 47, 119, 119, 119, 46, 121, 97, 108, 101, 46, 101, 100, 117, 47, 116, 112, 47, 99, 97, 115, 34, 62, 60, 99, 97, 115, 58, 97, 117, 116, 104, 101, 110, 116, 105, 99, 97, 116, 105, 111, 110, 83, 117, 99, 99, 101, 115, 115, 62, 60, 99, 97, 115, 58, 117, 115, 101, 114, 62, 117, 60, 47, 99, 97, 115, 58, 117, 115, 101, 114, 62, 60, 47, 99, 97, 115, 58, 97, 117, 116, 104, 101, 110, 116, 105, 99, 97, 116, 105, 111, 110, 83, 117, 99, 99, 101, 115, 115, 62, 60, 47, 99, 97, 115, 58, 115, 101, 114, 118, 105, 99, 101, 82, 101, 115, 112, 111, 110, 115, 101, 62]
theorem exS_sm : SmS exS 100000 100000 := ⟨by decide, by decide, by decide, by decide, (fun p hp => by cases hp), (fun p hp => by cases hp)⟩
theorem exX_right : rightN exX = true := user_sh (by decide +kernel)
theorem exX_text : wr exX = exT := by rw [wr_right exX_right]; decide +kernel
theorem exX_back : readAnswerP (rsp sXml exX) = (exS, [], true) := answer_back exX_right
theorem wr_len (x : Nd) : (wr x).length ≤ (textN x).length := by
  unfold wr; split
  · exact Nat.le_refl _
  · exact Nat.zero_le _
theorem awake_ok (hG : Glob M) (hM : Laid M w) : Calls Tryd.prog 6 #[] w (RetE w (.bool true)) := by
  have hA := fun {w : World} {M : Ghost} (hG : Glob M) (hM : Laid M w) => Answer_ok hG hM exS 0 sl_nil sl_nil exS_sm true
  rw [show answerN exS 0 true = exX from rfl] at hA
  have hR := fun {w : World} {M : Ghost} {st : Int} {a l c bd} (hG : Glob M) (hM : Laid M w) (h : RsC M (rsp sXml exX) st a l c bd) (hb : bd.length ≤ 90000) => ReadAnswer_ok hG hM h hb
  rw [exX_back] at hR
  rw [exX_text] at hA
  have hb : (rsp sXml exX).body = exT := exX_text
  have hbl : exT.length ≤ 90000 := by decide
  have hu : (exS.user) = [117] := rfl
  generalize hx : rsp sXml exX = r at *
  have hst : r.status = 200 := by rw [← hx]; rfl
  have hhd : r.headers = [(sCT, sXml)] := by rw [← hx]; rfl
  clear hx
  unfold exS at hA hR
  unfold exT at hA hb hbl
  refine calls_st (l := []) hM Tryd.func6 rfl rfl rfl (E0 := []) (params_nil _) ?_
  repeat' (first | refine wc_seq ?_ | refine wc_region ?_ | refine wl_nil ?_ | refine wn_seq ?_ | refine wn_blk ?_ | refine wc_skip ?_ | refine wc_block ?_ | refine wc_exit rfl ?_ | (show WL _ _ (_ :: _) _ _ _ _; first | refine yl_v rfl rfl rfl ?_ | refine wl_v rfl rfl rfl (by first  | fail) ?_ | refine xl_alloc (fun _ => ?_) | refine xl_store rfl rfl ?_) | refine wc_ret rfl ?_)
  refine wl_callS rfl Tryd.call9 rfl rfl rfl rfl (fun w hw => hA hG hw.laid) ?_
  rintro _ H1 M1 hm1 hn1 ⟨rfl, a1, l1, c1, rfl, hS1⟩
  repeat' (first | refine wc_seq ?_ | refine wc_region ?_ | refine wl_nil ?_ | refine wn_seq ?_ | refine wn_blk ?_ | refine wc_skip ?_ | refine wc_block ?_ | refine wc_exit rfl ?_ | (show WL _ _ (_ :: _) _ _ _ _; first | refine yl_v rfl rfl rfl ?_ | refine wl_v rfl rfl rfl (by first  | fail) ?_ | refine xl_alloc (fun _ => ?_) | refine xl_store rfl rfl ?_) | refine wc_ret rfl ?_)
  refine wl_callS rfl Tryd.call14 rfl rfl rfl rfl (fun w hw => hR (hG.mono hm1) hw.laid ⟨hst, hb, by rw [hhd]; exact hS1⟩ hbl) ?_
  rintro _ H2 M2 hm2 hn2 ⟨rfl, _, rfl, a2, l2, c2, a3, l3, c3, rfl, hS2, hS3⟩
  repeat' (first | refine wc_seq ?_ | refine wc_region ?_ | refine wl_nil ?_ | refine wn_seq ?_ | refine wn_blk ?_ | refine wc_skip ?_ | refine wc_block ?_ | refine wc_exit rfl ?_ | (show WL _ _ (_ :: _) _ _ _ _; first | refine yl_v rfl rfl rfl ?_ | refine wl_v rfl rfl rfl (by first  | fail) ?_ | refine xl_alloc (fun _ => ?_) | refine xl_store rfl rfl ?_) | refine wc_ret rfl ?_)
  exact wr_weak (fun _ h => h.drop (List.nil_sublist _)) (wr_tmp rfl rfl rfl)
theorem few_sm {s : Suc} (h : fewSu s = true) : SmS s 20 120 := by
  unfold fewSu fewPr at h
  simp only [Bool.and_eq_true, List.all_eq_true, decide_eq_true_eq] at h
  obtain ⟨⟨h1, h2⟩, ⟨⟨h3, h4⟩, h5⟩, h6⟩ := h
  exact ⟨by omega, by omega, h5, h6, fun p hp => by have := h1 p hp; omega, fun p hp => h2 p hp⟩
theorem shw_of {s : Suc} (h : shwSu s = true) : Shw s := by
  unfold shwSu shwPr at h
  simp only [Bool.and_eq_true, List.all_eq_true] at h
  exact ⟨h.2.1, h.2.2, h.1.1, h.1.2⟩
theorem rsp_len {s : Suc} (h : SmS s 20 120) (e : Int) (at' : Bool) : (wr (answerN s e at')).length ≤ 90000 := by
  have h1 := answer_len h e at'
  have h2 := wr_len (answerN s e at')
  omega
set_option maxHeartbeats 1000000 in
theorem back_ok (hG : Glob M) (hM : Laid M w) {s : Suc} {va : Option Addr} {vl vc : Nat} {va' : Option Addr} {vl' vc' : Nat} (hA : SlP M (.slice va vl vc) s.attrs) (hP : SlS M (.slice va' vl' vc') s.proxies) (hsm : SmS s 140737488355328 140737488355328) (e : Int) (at' : Bool) : Calls Tryd.prog 4 #[.agg [str s.user, .slice va vl vc, .slice va' vl' vc', str s.iou].toArray, i64 e, .bool at'] w (RetE w (.bool true)) := by
  have hf := fun {w : World} (hw : Laid M w) => fews_ok hw (s := s) ⟨_, _, _, _, _, _, rfl, hA, hP⟩
  have hsh := fun {w : World} (hw : Laid M w) => shws_ok hw (s := s) ⟨_, _, _, _, _, _, rfl, hA, hP⟩ hsm
  refine calls_st (l := [.agg [str s.user, .slice va vl vc, .slice va' vl' vc', str s.iou].toArray, i64 e, .bool at']) hM Tryd.func4 rfl rfl rfl (E0 := [(0, true, .agg [str s.user, .slice va vl vc, .slice va' vl' vc', str s.iou].toArray), (1, true, i64 e), (2, true, .bool at')]) (params_cons rfl (params_cons rfl (params_cons rfl (params_nil _)))) ?_
  by_cases hfew : fewSu s = true ∧ shwSu s = true
  · obtain ⟨h1, h2⟩ := hfew
    rw [h1] at hf
    rw [h2] at hsh
    have hsm2 := few_sm h1
    have hshw := shw_of h2
    have hright := fun e at' => right_answer hshw hsm2.nattrs hsm2.nprox e at'
    have hlen := rsp_len hsm2 e at'
    repeat' (first | refine wc_seq ?_ | refine wc_region ?_ | refine wl_nil ?_ | refine wn_seq ?_ | refine wn_blk ?_ | refine wc_skip ?_ | refine wc_block ?_ | refine wc_exit rfl ?_ | (show WL _ _ (_ :: _) _ _ _ _; first | refine yl_v rfl rfl rfl ?_ | refine wl_v rfl rfl rfl (by first | ((show OpV _ _ _ _ (Oper.mk _ (Op.call ⟨.value (.func 6), _, _⟩) _ _ _ _) _ _; exact ov_call Tryd.call6 rfl (by intro himp; first | rfl | (simp_all; done)) (by rfl) (fun _ _ h k => h.ext k) (fun hcg w hw => awake_ok hG hw.laid))) | ((show OpV _ _ _ _ (Oper.mk _ (Op.call ⟨.value (.func 12), _, _⟩) _ _ _ _) _ _; exact ov_call Tryd.call12 rfl (by intro himp; first | rfl | (simp_all; done)) (by rfl) (fun _ _ h k => h.ext k) (fun hcg w hw => hf hw.laid))) | ((show OpV _ _ _ _ (Oper.mk _ (Op.call ⟨.value (.func 13), _, _⟩) _ _ _ _) _ _; exact ov_call Tryd.call13 rfl (by intro himp; first | rfl | (simp_all; done)) (by rfl) (fun _ _ h k => h.ext k) (fun hcg w hw => hsh hw.laid))) | fail) ?_ | refine xl_alloc (fun _ => ?_) | refine xl_box rfl (fun _ => ?_) | refine xl_store rfl rfl ?_) | refine wc_ret rfl ?_)
    refine wc_cond rfl (fun hc => by exfalso; simp at hc) (fun hc => ?_)
    clear hc hf hsh
    repeat' (first | refine wc_seq ?_ | refine wc_region ?_ | refine wl_nil ?_ | refine wn_seq ?_ | refine wn_blk ?_ | refine wc_skip ?_ | refine wc_block ?_ | refine wc_exit rfl ?_ | (show WL _ _ (_ :: _) _ _ _ _; first | refine yl_v rfl rfl rfl ?_ | refine wl_v rfl rfl rfl (by first  | fail) ?_ | refine xl_alloc (fun _ => ?_) | refine xl_box rfl (fun _ => ?_) | refine xl_store rfl rfl ?_) | refine wc_ret rfl ?_)
    refine wl_callS rfl Tryd.call9 rfl rfl rfl rfl (fun w hw => Answer_ok hG hw.laid s e hA hP (hsm2.mono (by omega) (by omega)) at') ?_
    rintro _ H1 M1 hm1 hn1 ⟨rfl, a1, l1, c1, rfl, hS1⟩
    repeat' (first | refine wc_seq ?_ | refine wc_region ?_ | refine wl_nil ?_ | refine wn_seq ?_ | refine wn_blk ?_ | refine wc_skip ?_ | refine wc_block ?_ | refine wc_exit rfl ?_ | (show WL _ _ (_ :: _) _ _ _ _; first | refine yl_v rfl rfl rfl ?_ | refine wl_v rfl rfl rfl (by first  | fail) ?_ | refine xl_alloc (fun _ => ?_) | refine xl_box rfl (fun _ => ?_) | refine xl_store rfl rfl ?_) | refine wc_ret rfl ?_)
    refine wl_callS rfl Tryd.call14 rfl rfl rfl rfl (fun w hw => ReadAnswer_ok (r := rsp sXml (answerN s e at')) (hG.mono hm1) hw.laid ⟨rfl, rfl, hS1⟩ hlen) ?_
    rintro _ H2 M2 hm2 hn2 ⟨rfl, sv, rfl, hsv⟩
    have hS2 : SlP M2 (.slice a1 l1 c1) [(sCT, sXml)] := Sl.mono hS1 hm2 (fun _ _ _ h => h)
    have hA2 : SlP M2 (.slice va vl vc) s.attrs := Sl.mono hA (fun b o h => hm2 b o (hm1 b o h)) (fun _ _ _ h => h)
    have hP2 : SlS M2 (.slice va' vl' vc') s.proxies := Sl.mono hP (fun b o h => hm2 b o (hm1 b o h)) (fun _ _ _ h => h)
    have hG2 := (hG.mono hm1).mono hm2
    by_cases he : e = 0
    · subst he
      cases at' with
      | true =>
        rw [answer_back (hright 0 true)] at hsv ⊢
        have hrp := fun {w : World} {M : Ghost} (hG : Glob M) (hM : Laid M w) {a l c} (h : SlP M (.slice a l c) [(sCT, sXml)]) => ReadProxy_ok (r := rsp sXml (answerN s 0 true)) (st := 200) (bd := wr (answerN s 0 true)) hG hM ⟨rfl, rfl, h⟩ hlen
        rw [proxy_of_answer (hright 0 true)] at hrp
        obtain ⟨b1, m1, d1, b2, m2, d2, rfl, k1, k2⟩ := hsv
        have hsa := fun {w : World} (hw : Laid M2 w) => rsames_ok hw (s := s) (t := s) ⟨_, _, _, _, _, _, rfl, k1, k2⟩ ⟨_, _, _, _, _, _, rfl, hA2, hP2⟩
        rw [sameSu_self] at hsa
        repeat' (first | refine wc_seq ?_ | refine wc_region ?_ | refine wl_nil ?_ | refine wn_seq ?_ | refine wn_blk ?_ | refine wc_skip ?_ | refine wc_block ?_ | refine wc_exit rfl ?_ | (show WL _ _ (_ :: _) _ _ _ _; first | refine yl_v rfl rfl rfl ?_ | refine wl_v rfl rfl rfl (by first  | fail) ?_ | refine xl_alloc (fun _ => ?_) | refine xl_box rfl (fun _ => ?_) | refine xl_store rfl rfl ?_) | refine wc_ret rfl ?_)
        refine wc_cond rfl (fun hc => by exfalso; simp at hc) (fun hc => ?_)
        repeat' (first | refine wc_seq ?_ | refine wc_region ?_ | refine wl_nil ?_ | refine wn_seq ?_ | refine wn_blk ?_ | refine wc_skip ?_ | refine wc_block ?_ | refine wc_exit rfl ?_ | (show WL _ _ (_ :: _) _ _ _ _; first | refine yl_v rfl rfl rfl ?_ | refine wl_v rfl rfl rfl (by first  | fail) ?_ | refine xl_alloc (fun _ => ?_) | refine xl_box rfl (fun _ => ?_) | refine xl_store rfl rfl ?_) | refine wc_ret rfl ?_)
        refine wc_cond rfl (fun hc => by exfalso; simp at hc) (fun hc => ?_)
        repeat' (first | refine wc_seq ?_ | refine wc_region ?_ | refine wl_nil ?_ | refine wn_seq ?_ | refine wn_blk ?_ | refine wc_skip ?_ | refine wc_block ?_ | refine wc_exit rfl ?_ | (show WL _ _ (_ :: _) _ _ _ _; first | refine yl_v rfl rfl rfl ?_ | refine wl_v rfl rfl rfl (by first | ((show OpV _ _ _ _ (Oper.mk _ (Op.call ⟨.value (.func 17), _, _⟩) _ _ _ _) _ _; exact ov_call Tryd.call17 rfl (by intro himp; first | rfl | (simp_all; done)) (by rfl) (fun _ _ h k => h.ext k) (fun hcg w hw => hrp hG2 hw.laid hS2))) | ((show OpV _ _ _ _ (Oper.mk _ (Op.call ⟨.value (.func 16), _, _⟩) _ _ _ _) _ _; exact ov_call Tryd.call16 rfl (by intro himp; first | rfl | (simp_all; done)) (by rfl) (fun _ _ h k => h.ext k) (fun hcg w hw => hsa hw.laid))) | fail) ?_ | refine xl_alloc (fun _ => ?_) | refine xl_box rfl (fun _ => ?_) | refine xl_store rfl rfl ?_) | refine wc_ret rfl ?_)
        exact wr_weak (fun _ h => h.drop (List.nil_sublist _)) (wr_tmp rfl rfl rfl)
      | false =>
        have hr0 := hright 0 false
        have hl0 := hlen
        rw [answer_plain] at hr0
        rw [answer_plain, answer_back hr0] at hsv ⊢
        rw [answer_plain] at hlen
        have hrp := fun {w : World} {M : Ghost} (hG : Glob M) (hM : Laid M w) {a l c} (h : SlP M (.slice a l c) [(sCT, sXml)]) => ReadProxy_ok (r := rsp sXml (answerN ⟨s.user, [], s.proxies, s.iou⟩ 0 true)) (st := 200) (bd := wr (answerN ⟨s.user, [], s.proxies, s.iou⟩ 0 true)) hG hM ⟨rfl, rfl, h⟩ hlen
        rw [proxy_of_answer hr0] at hrp
        obtain ⟨b1, m1, d1, b2, m2, d2, rfl, k1, k2⟩ := hsv
        have hsa := fun {w : World} (hw : Laid M2 w) => rsames_ok hw (s := ⟨s.user, [], s.proxies, s.iou⟩) (t := ⟨s.user, [], s.proxies, s.iou⟩) ⟨_, _, _, _, _, _, rfl, k1, k2⟩ ⟨_, _, _, _, _, _, rfl, sl_nil, hP2⟩
        rw [sameSu_self] at hsa
        repeat' (first | refine wc_seq ?_ | refine wc_region ?_ | refine wl_nil ?_ | refine wn_seq ?_ | refine wn_blk ?_ | refine wc_skip ?_ | refine wc_block ?_ | refine wc_exit rfl ?_ | (show WL _ _ (_ :: _) _ _ _ _; first | refine yl_v rfl rfl rfl ?_ | refine wl_v rfl rfl rfl (by first  | fail) ?_ | refine xl_alloc (fun _ => ?_) | refine xl_box rfl (fun _ => ?_) | refine xl_store rfl rfl ?_) | refine wc_ret rfl ?_)
        refine wc_cond rfl (fun hc => by exfalso; simp at hc) (fun hc => ?_)
        repeat' (first | refine wc_seq ?_ | refine wc_region ?_ | refine wl_nil ?_ | refine wn_seq ?_ | refine wn_blk ?_ | refine wc_skip ?_ | refine wc_block ?_ | refine wc_exit rfl ?_ | (show WL _ _ (_ :: _) _ _ _ _; first | refine yl_v rfl rfl rfl ?_ | refine wl_v rfl rfl rfl (by first  | fail) ?_ | refine xl_alloc (fun _ => ?_) | refine xl_box rfl (fun _ => ?_) | refine xl_store rfl rfl ?_) | refine wc_ret rfl ?_)
        refine wc_cond rfl (fun hc => ?_) (fun hc => by exfalso; simp at hc)
        repeat' (first | refine wc_seq ?_ | refine wc_region ?_ | refine wl_nil ?_ | refine wn_seq ?_ | refine wn_blk ?_ | refine wc_skip ?_ | refine wc_block ?_ | refine wc_exit rfl ?_ | (show WL _ _ (_ :: _) _ _ _ _; first | refine yl_v rfl rfl rfl ?_ | refine wl_v rfl rfl rfl (by first | ((show OpV _ _ _ _ (Oper.mk _ (Op.call ⟨.value (.func 17), _, _⟩) _ _ _ _) _ _; exact ov_call Tryd.call17 rfl (by intro himp; first | rfl | (simp_all; done)) (by rfl) (fun _ _ h k => h.ext k) (fun hcg w hw => hrp hG2 hw.laid hS2))) | ((show OpV _ _ _ _ (Oper.mk _ (Op.call ⟨.value (.func 16), _, _⟩) _ _ _ _) _ _; exact ov_call Tryd.call16 rfl (by intro himp; first | rfl | (simp_all; done)) (by rfl) (fun _ _ h k => h.ext k) (fun hcg w hw => hsa hw.laid))) | fail) ?_ | refine xl_alloc (fun _ => ?_) | refine xl_box rfl (fun _ => ?_) | refine xl_store rfl rfl ?_) | refine wc_ret rfl ?_)
        exact wr_weak (fun _ h => h.drop (List.nil_sublist _)) (wr_tmp rfl rfl rfl)
    · have hr0 := hright e at'
      rw [answer_fail_back he hr0] at hsv ⊢
      obtain ⟨b1, m1, d1, b2, m2, d2, rfl, k1, k2⟩ := hsv
      have hsa := fun {w : World} (hw : Laid M2 w) => rsames_ok hw (s := suc0) (t := suc0) ⟨_, _, _, _, _, _, rfl, k1, k2⟩ ⟨_, _, _, _, _, _, rfl, sl_nil, sl_nil⟩
      rw [sameSu_self] at hsa
      unfold suc0 at hsa ⊢
      have hcd := fun {w : World} (hw : Laid M2 w) => rcode_ok hw e
      generalize codeE e = cd at *
      repeat' (first | refine wc_seq ?_ | refine wc_region ?_ | refine wl_nil ?_ | refine wn_seq ?_ | refine wn_blk ?_ | refine wc_skip ?_ | refine wc_block ?_ | refine wc_exit rfl ?_ | (show WL _ _ (_ :: _) _ _ _ _; first | refine yl_v rfl rfl rfl ?_ | refine wl_v rfl rfl rfl (by first  | fail) ?_ | refine xl_alloc (fun _ => ?_) | refine xl_box rfl (fun _ => ?_) | refine xl_store rfl rfl ?_) | refine wc_ret rfl ?_)
      refine wc_cond rfl (fun hc => ?_) (fun hc => by exfalso; apply he; simpa using hc)
      repeat' (first | refine wc_seq ?_ | refine wc_region ?_ | refine wl_nil ?_ | refine wn_seq ?_ | refine wn_blk ?_ | refine wc_skip ?_ | refine wc_block ?_ | refine wc_exit rfl ?_ | (show WL _ _ (_ :: _) _ _ _ _; first | refine yl_v rfl rfl rfl ?_ | refine wl_v rfl rfl rfl (by first | ((show OpV _ _ _ _ (Oper.mk _ (Op.call ⟨.value (.func 15), _, _⟩) _ _ _ _) _ _; exact ov_call Tryd.call15 rfl (by intro himp; first | rfl | (simp_all; done)) (by rfl) (fun _ _ h k => h.ext k) (fun hcg w hw => hcd hw.laid))) | ((show OpV _ _ _ _ (Oper.mk _ (Op.call ⟨.value (.func 16), _, _⟩) _ _ _ _) _ _; exact ov_call Tryd.call16 rfl (by intro himp; first | rfl | (simp_all; done)) (by rfl) (fun _ _ h k => h.ext k) (fun hcg w hw => hsa hw.laid))) | fail) ?_ | refine xl_alloc (fun _ => ?_) | refine xl_box rfl (fun _ => ?_) | refine xl_store rfl rfl ?_) | refine wc_ret rfl ?_)
      exact wr_weak (fun _ h => h.drop (List.nil_sublist _)) (wr_tmp rfl rfl rfl)
  · by_cases h1 : fewSu s = true
    · have h2 : shwSu s = false := by
        cases h : shwSu s
        · rfl
        · exact absurd ⟨h1, h⟩ hfew
      rw [h1] at hf
      rw [h2] at hsh
      repeat' (first | refine wc_seq ?_ | refine wc_region ?_ | refine wl_nil ?_ | refine wn_seq ?_ | refine wn_blk ?_ | refine wc_skip ?_ | refine wc_block ?_ | refine wc_exit rfl ?_ | (show WL _ _ (_ :: _) _ _ _ _; first | refine yl_v rfl rfl rfl ?_ | refine wl_v rfl rfl rfl (by first | ((show OpV _ _ _ _ (Oper.mk _ (Op.call ⟨.value (.func 6), _, _⟩) _ _ _ _) _ _; exact ov_call Tryd.call6 rfl (by intro himp; first | rfl | (simp_all; done)) (by rfl) (fun _ _ h k => h.ext k) (fun hcg w hw => awake_ok hG hw.laid))) | ((show OpV _ _ _ _ (Oper.mk _ (Op.call ⟨.value (.func 12), _, _⟩) _ _ _ _) _ _; exact ov_call Tryd.call12 rfl (by intro himp; first | rfl | (simp_all; done)) (by rfl) (fun _ _ h k => h.ext k) (fun hcg w hw => hf hw.laid))) | ((show OpV _ _ _ _ (Oper.mk _ (Op.call ⟨.value (.func 13), _, _⟩) _ _ _ _) _ _; exact ov_call Tryd.call13 rfl (by intro himp; first | rfl | (simp_all; done)) (by rfl) (fun _ _ h k => h.ext k) (fun hcg w hw => hsh hw.laid))) | fail) ?_ | refine xl_alloc (fun _ => ?_) | refine xl_box rfl (fun _ => ?_) | refine xl_store rfl rfl ?_) | refine wc_ret rfl ?_)
      refine wc_cond rfl (fun hc => ?_) (fun hc => by exfalso; simp at hc)
      repeat' (first | refine wc_seq ?_ | refine wc_region ?_ | refine wl_nil ?_ | refine wn_seq ?_ | refine wn_blk ?_ | refine wc_skip ?_ | refine wc_block ?_ | refine wc_exit rfl ?_ | (show WL _ _ (_ :: _) _ _ _ _; first | refine yl_v rfl rfl rfl ?_ | refine wl_v rfl rfl rfl (by first  | fail) ?_ | refine xl_alloc (fun _ => ?_) | refine xl_box rfl (fun _ => ?_) | refine xl_store rfl rfl ?_) | refine wc_ret rfl ?_)
      exact wr_weak (fun _ h => h.drop (List.nil_sublist _)) (wr_tmp rfl rfl rfl)
    · have h2 : fewSu s = false := by simpa using h1
      rw [h2] at hf
      repeat' (first | refine wc_seq ?_ | refine wc_region ?_ | refine wl_nil ?_ | refine wn_seq ?_ | refine wn_blk ?_ | refine wc_skip ?_ | refine wc_block ?_ | refine wc_exit rfl ?_ | (show WL _ _ (_ :: _) _ _ _ _; first | refine yl_v rfl rfl rfl ?_ | refine wl_v rfl rfl rfl (by first | ((show OpV _ _ _ _ (Oper.mk _ (Op.call ⟨.value (.func 6), _, _⟩) _ _ _ _) _ _; exact ov_call Tryd.call6 rfl (by intro himp; first | rfl | (simp_all; done)) (by rfl) (fun _ _ h k => h.ext k) (fun hcg w hw => awake_ok hG hw.laid))) | ((show OpV _ _ _ _ (Oper.mk _ (Op.call ⟨.value (.func 12), _, _⟩) _ _ _ _) _ _; exact ov_call Tryd.call12 rfl (by intro himp; first | rfl | (simp_all; done)) (by rfl) (fun _ _ h k => h.ext k) (fun hcg w hw => hf hw.laid))) | ((show OpV _ _ _ _ (Oper.mk _ (Op.call ⟨.value (.func 13), _, _⟩) _ _ _ _) _ _; exact ov_call Tryd.call13 rfl (by intro himp; first | rfl | (simp_all; done)) (by rfl) (fun _ _ h k => h.ext k) (fun hcg w hw => hsh hw.laid))) | fail) ?_ | refine xl_alloc (fun _ => ?_) | refine xl_box rfl (fun _ => ?_) | refine xl_store rfl rfl ?_) | refine wc_ret rfl ?_)
      refine wc_cond rfl (fun hc => ?_) (fun hc => by exfalso; simp at hc)
      repeat' (first | refine wc_seq ?_ | refine wc_region ?_ | refine wl_nil ?_ | refine wn_seq ?_ | refine wn_blk ?_ | refine wc_skip ?_ | refine wc_block ?_ | refine wc_exit rfl ?_ | (show WL _ _ (_ :: _) _ _ _ _; first | refine yl_v rfl rfl rfl ?_ | refine wl_v rfl rfl rfl (by first  | fail) ?_ | refine xl_alloc (fun _ => ?_) | refine xl_box rfl (fun _ => ?_) | refine xl_store rfl rfl ?_) | refine wc_ret rfl ?_)
      exact wr_weak (fun _ h => h.drop (List.nil_sublist _)) (wr_tmp rfl rfl rfl)
theorem form_len2 {a b c : List UInt8} (ha : a.length ≤ 200) (hb : b.length ≤ 200) (hc : c.length ≤ 200) : (wr (formPN a b c)).length ≤ 90000 := by
  have h1 := formP_len a b c
  have h2 := wr_len (formPN a b c)
  omega
theorem page_len2 {a b : List UInt8} (ha : a.length ≤ 200) (hb : b.length ≤ 200) : (wr (pageN a b)).length ≤ 90000 := by
  have h1 := pageN_len a b
  have h2 := wr_len (pageN a b)
  omega
theorem proxy_len2 {a : List UInt8} (ha : a.length ≤ 200) (e : Int) : (wr (proxyN a e)).length ≤ 90000 := by
  have h1 := proxy_len a e
  have h2 := wr_len (proxyN a e)
  omega
set_option maxHeartbeats 1000000 in
theorem forms_ok (hG : Glob M) (hM : Laid M w) (a b c : List UInt8) (e : Int) (ka : a.length ≤ 140737488355328) (kb : b.length ≤ 140737488355328) (kc : c.length ≤ 140737488355328) : Calls Tryd.prog 5 #[str a, str b, str c, i64 e] w (RetE w (.bool true)) := by
  have s1 := fun {w : World} (hw : Laid M w) => rshown_ok hw a (by omega)
  have s2 := fun {w : World} (hw : Laid M w) => rshown_ok hw b (by omega)
  have s3 := fun {w : World} (hw : Laid M w) => rshown_ok hw c (by omega)
  refine calls_st (l := [str a, str b, str c, i64 e]) hM Tryd.func5 rfl rfl rfl (E0 := [(0, true, str a), (1, true, str b), (2, true, str c), (3, true, i64 e)]) (params_cons rfl (params_cons rfl (params_cons rfl (params_cons rfl (params_nil _))))) ?_
  repeat' (first | refine wc_seq ?_ | refine wc_region ?_ | refine wl_nil ?_ | refine wn_seq ?_ | refine wn_blk ?_ | refine wc_skip ?_ | refine wc_block ?_ | refine wc_exit rfl ?_ | (show WL _ _ (_ :: _) _ _ _ _; first | refine yl_v rfl rfl rfl ?_ | refine wl_v rfl rfl rfl (by first | ((show OpV _ _ _ _ (Oper.mk _ (Op.call ⟨.value (.func 6), _, _⟩) _ _ _ _) _ _; exact ov_call Tryd.call6 rfl (by intro himp; first | rfl | (simp_all; done)) (by rfl) (fun _ _ h k => h.ext k) (fun hcg w hw => awake_ok hG hw.laid))) | ((show OpV _ _ _ _ (Oper.mk _ (Op.call ⟨.value (.func 7), _, _⟩) _ _ _ _) _ _; exact ov_call Tryd.call7 rfl (by intro himp; first | rfl | (simp_all; done)) (by rfl) (fun _ _ h k => h.ext k) (fun hcg w hw => s1 hw.laid))) | ((show OpV _ _ _ _ (Oper.mk _ (Op.call ⟨.value (.func 7), _, _⟩) _ _ _ _) _ _; exact ov_call Tryd.call7 rfl (by intro himp; first | rfl | (simp_all; done)) (by rfl) (fun _ _ h k => h.ext k) (fun hcg w hw => s2 hw.laid))) | ((show OpV _ _ _ _ (Oper.mk _ (Op.call ⟨.value (.func 7), _, _⟩) _ _ _ _) _ _; exact ov_call Tryd.call7 rfl (by intro himp; first | rfl | (simp_all; done)) (by rfl) (fun _ _ h k => h.ext k) (fun hcg w hw => s3 hw.laid))) | fail) ?_ | refine xl_alloc (fun _ => ?_) | refine xl_store rfl rfl ?_) | refine wc_ret rfl ?_)
  refine wc_cond rfl (fun hc => ?_) (fun hc => ?_)
  · repeat' (first | refine wc_seq ?_ | refine wc_region ?_ | refine wl_nil ?_ | refine wn_seq ?_ | refine wn_blk ?_ | refine wc_skip ?_ | refine wc_block ?_ | refine wc_exit rfl ?_ | (show WL _ _ (_ :: _) _ _ _ _; first | refine yl_v rfl rfl rfl ?_ | refine wl_v rfl rfl rfl (by first  | fail) ?_ | refine xl_alloc (fun _ => ?_) | refine xl_store rfl rfl ?_) | refine wc_ret rfl ?_)
    exact wr_weak (fun _ h => h.drop (List.nil_sublist _)) (wr_tmp rfl rfl rfl)
  obtain ⟨⟨⟨⟨⟨la, lb⟩, lc⟩, sa⟩, sb⟩, sc⟩ : ((((a.length ≤ 200 ∧ b.length ≤ 200) ∧ c.length ≤ 200) ∧ shwB a = true) ∧ shwB b = true) ∧ shwB c = true := by
    simp only [Bool.or_eq_false_iff, decide_eq_false_iff_not, Bool.not_eq_false', Bool.not_eq_eq_eq_not, Bool.not_false] at hc
    obtain ⟨⟨⟨⟨⟨h1, h2⟩, h3⟩, h4⟩, h5⟩, h6⟩ := hc
    exact ⟨⟨⟨⟨⟨by omega, by omega⟩, by omega⟩, h4⟩, h5⟩, h6⟩
  clear hc s1 s2 s3
  have rp := right_proxy sa e
  have rf := right_form sa sb sc
  have rg := right_page sa sb
  have hlp := proxy_len2 la e
  have hlf := form_len2 la lb lc
  have hlg := page_len2 la lb
  repeat' (first | refine wc_seq ?_ | refine wc_region ?_ | refine wl_nil ?_ | refine wn_seq ?_ | refine wn_blk ?_ | refine wc_skip ?_ | refine wc_block ?_ | refine wc_exit rfl ?_ | (show WL _ _ (_ :: _) _ _ _ _; first | refine yl_v rfl rfl rfl ?_ | refine wl_v rfl rfl rfl (by first  | fail) ?_ | refine xl_alloc (fun _ => ?_) | refine xl_store rfl rfl ?_) | refine wc_ret rfl ?_)
  refine wl_callS rfl Tryd.call18 rfl rfl rfl rfl (fun w hw => Proxy_ok hG hw.laid a e (by omega)) ?_
  rintro _ H1 M1 hm1 hn1 ⟨rfl, a1, l1, c1, rfl, hS1⟩
  have hG1 := hG.mono hm1
  have hrp := fun {w : World} (hw : Laid M1 w) => ReadProxy_ok (r := rsp sXml (proxyN a e)) hG1 hw ⟨rfl, rfl, hS1⟩ hlp
  have hcd := fun {w : World} (hw : Laid M1 w) => rcode_ok hw e
  obtain ⟨p, hpv, hp0, hp1⟩ : ∃ p, readProxyP (rsp sXml (proxyN a e)) = (p, codeE e, true) ∧ (e = 0 → p = a ∧ codeE e = []) ∧ (e ≠ 0 → p = []) := by
    by_cases he : e = 0
    · subst he
      exact ⟨a, proxy_back rp, fun _ => ⟨rfl, rfl⟩, fun h => absurd rfl h⟩
    · exact ⟨[], proxy_fail_back he rp, fun h => absurd h he, fun _ => rfl⟩
  rw [hpv] at hrp
  clear hpv rp
  generalize codeE e = cd at *
  repeat' (first | refine wc_seq ?_ | refine wc_region ?_ | refine wl_nil ?_ | refine wn_seq ?_ | refine wn_blk ?_ | refine wc_skip ?_ | refine wc_block ?_ | refine wc_exit rfl ?_ | (show WL _ _ (_ :: _) _ _ _ _; first | refine yl_v rfl rfl rfl ?_ | refine wl_v rfl rfl rfl (by first | ((show OpV _ _ _ _ (Oper.mk _ (Op.call ⟨.value (.func 17), _, _⟩) _ _ _ _) _ _; exact ov_call Tryd.call17 rfl (by intro himp; first | rfl | (simp_all; done)) (by rfl) (fun _ _ h k => h.ext k) (fun hcg w hw => hrp hw.laid))) | ((show OpV _ _ _ _ (Oper.mk _ (Op.call ⟨.value (.func 15), _, _⟩) _ _ _ _) _ _; exact ov_call Tryd.call15 rfl (by intro himp; first | rfl | (simp_all; done)) (by rfl) (fun _ _ h k => h.ext k) (fun hcg w hw => hcd hw.laid))) | fail) ?_ | refine xl_alloc (fun _ => ?_) | refine xl_store rfl rfl ?_) | refine wc_ret rfl ?_)
  refine wc_cond rfl (fun hc => ?_) (fun hc => ?_)
  · exfalso
    by_cases he : e = 0
    · obtain ⟨rfl, rfl⟩ := hp0 he
      simp [he] at hc
    · obtain rfl := hp1 he
      simp [he] at hc
  clear hc hp0 hp1 hrp hcd hlp
  refine wc_weak (E' := [(0, true, str a), (1, true, str b), (2, true, str c), (9, true, .bool true)]) (by first | exact Sub.nil _ | (repeat (first | exact Sub.nil _ | refine Sub.cons (by first | rfl | (simp [look]; done)) ?_))) (fun _ h => h) ?_
  repeat' (first | refine wc_seq ?_ | refine wc_region ?_ | refine wl_nil ?_ | refine wn_seq ?_ | refine wn_blk ?_ | refine wc_skip ?_ | refine wc_block ?_ | refine wc_exit rfl ?_ | (show WL _ _ (_ :: _) _ _ _ _; first | refine yl_v rfl rfl rfl ?_ | refine wl_v rfl rfl rfl (by first  | fail) ?_ | refine xl_alloc (fun _ => ?_) | refine xl_store rfl rfl ?_) | refine wc_ret rfl ?_)
  refine wl_callS rfl Tryd.call19 rfl rfl rfl rfl (fun w hw => Form_ok hG1 hw.laid a b c (by omega) (by omega) (by omega)) ?_
  rintro _ H2 M2 hm2 hn2 ⟨rfl, a2, l2, c2, rfl, hS2⟩
  have hG2 := hG1.mono hm2
  repeat' (first | refine wc_seq ?_ | refine wc_region ?_ | refine wl_nil ?_ | refine wn_seq ?_ | refine wn_blk ?_ | refine wc_skip ?_ | refine wc_block ?_ | refine wc_exit rfl ?_ | (show WL _ _ (_ :: _) _ _ _ _; first | refine yl_v rfl rfl rfl ?_ | refine wl_v rfl rfl rfl (by first  | fail) ?_ | refine xl_alloc (fun _ => ?_) | refine xl_store rfl rfl ?_) | refine wc_ret rfl ?_)
  refine wl_callS rfl Tryd.call8 rfl rfl rfl rfl (fun w hw => Page_ok hG2 hw.laid a b (by omega) (by omega)) ?_
  rintro _ H3 M3 hm3 hn3 ⟨rfl, a3, l3, c3, rfl, hS3⟩
  have hG3 := hG2.mono hm3
  have hS23 : SlP M3 (.slice a2 l2 c2) [(sCT, sHtmlT)] := Sl.mono hS2 hm3 (fun _ _ _ h => h)
  have f1 := fun {w : World} (hw : Laid M3 w) => ReadForm_ok (r := rsp sHtmlT (formPN a b c)) (st := 200) (bd := wr (formPN a b c)) hG3 hw ⟨rfl, rfl, hS23⟩ hlf
  have f2 := fun {w : World} (hw : Laid M3 w) => ReadPage_ok (r := rsp sHtmlT (pageN a b)) (st := 200) (bd := wr (pageN a b)) hG3 hw ⟨rfl, rfl, hS3⟩ hlg
  have f3 := fun {w : World} (hw : Laid M3 w) => ReadForm_ok (r := rsp sHtmlT (pageN a b)) (st := 200) (bd := wr (pageN a b)) hG3 hw ⟨rfl, rfl, hS3⟩ hlg
  have f4 := fun {w : World} (hw : Laid M3 w) => ReadPage_ok (r := rsp sHtmlT (formPN a b c)) (st := 200) (bd := wr (formPN a b c)) hG3 hw ⟨rfl, rfl, hS23⟩ hlf
  rw [form_back rf] at f1
  rw [page_back rg] at f2
  rw [form_of_page rg] at f3
  rw [page_of_form rf] at f4
  generalize wr (formPN a b c) = bf at *
  generalize wr (pageN a b) = bg at *
  repeat' (first | refine wc_seq ?_ | refine wc_region ?_ | refine wl_nil ?_ | refine wn_seq ?_ | refine wn_blk ?_ | refine wc_skip ?_ | refine wc_block ?_ | refine wc_exit rfl ?_ | (show WL _ _ (_ :: _) _ _ _ _; first | refine yl_v rfl rfl rfl ?_ | refine wl_v rfl rfl rfl (by first | ((show OpV _ _ _ _ (Oper.mk _ (Op.call ⟨.value (.func 20), _, _⟩) _ _ _ _) _ _; exact ov_call Tryd.call20 rfl (by intro himp; first | rfl | (simp_all; done)) (by rfl) (fun _ _ h k => h.ext k) (fun hcg w hw => f1 hw.laid))) | ((show OpV _ _ _ _ (Oper.mk _ (Op.call ⟨.value (.func 20), _, _⟩) _ _ _ _) _ _; exact ov_call Tryd.call20 rfl (by intro himp; first | rfl | (simp_all; done)) (by rfl) (fun _ _ h k => h.ext k) (fun hcg w hw => f3 hw.laid))) | ((show OpV _ _ _ _ (Oper.mk _ (Op.call ⟨.value (.func 21), _, _⟩) _ _ _ _) _ _; exact ov_call Tryd.call21 rfl (by intro himp; first | rfl | (simp_all; done)) (by rfl) (fun _ _ h k => h.ext k) (fun hcg w hw => f2 hw.laid))) | ((show OpV _ _ _ _ (Oper.mk _ (Op.call ⟨.value (.func 21), _, _⟩) _ _ _ _) _ _; exact ov_call Tryd.call21 rfl (by intro himp; first | rfl | (simp_all; done)) (by rfl) (fun _ _ h k => h.ext k) (fun hcg w hw => f4 hw.laid))) | fail) ?_ | refine xl_alloc (fun _ => ?_) | refine xl_store rfl rfl ?_) | refine wc_ret rfl ?_)
  refine wr_weak (fun _ h => h.drop (List.nil_sublist _)) (wr_tmp rfl rfl (congrArg Value.bool ?_))
  simp
end Go.Proofs.YtgfbieplidpebaaDoor
/-
  The walk of RenderSafe.
-/
namespace Go.Proofs.YtgfbieplidpebaaDoor
open Go.Eng Go.Pct Go.Xml Go.Cas
set_option maxRecDepth 10000
set_option linter.unusedSimpArgs false
set_option linter.unusedVariables false

variable {M : Ghost} {w0 w : World} {bs : List Nat} {H : List (Nat × Obj)}
theorem cntM_take {s : List UInt8} {i : Nat} (h : i < s.length) : cntM (s.take (i + 1)) = cntM (s.take i) + if mkB (s.getD i 0) = true then 1 else 0 := by
  rw [List.take_succ_eq_append_getElem h, cntM_app]
  have e : s.getD i 0 = s[i] := by simp [h]
  rw [e]
  unfold cntM
  rw [List.countP_singleton]
theorem mkB_int (c : UInt8) : mkB c = (decide ((c.toNat : Int) = 60) || decide ((c.toNat : Int) = 62)) := by
  revert c; apply all_bytes; decide +kernel
theorem cntM_le (s : List UInt8) : cntM s ≤ s.length := List.countP_le_length
set_option maxHeartbeats 1000000 in
theorem safe_ok (hG : Glob M) (hM : Laid M w) (a b : List UInt8) (ka : a.length ≤ 140737488355328) (kb : b.length ≤ 140737488355328) : Calls Tryd.prog 3 #[str a, str b] w (RetE w (.bool true)) := by
  have s1 := fun {w : World} (hw : Laid M w) => rshown_ok hw a (by omega)
  have s2 := fun {w : World} (hw : Laid M w) => rshown_ok hw b (by omega)
  refine calls_st (l := [str a, str b]) hM Tryd.func3 rfl rfl rfl (E0 := [(0, true, str a), (1, true, str b)]) (params_cons rfl (params_cons rfl (params_nil _))) ?_
  repeat' (first | refine wc_seq ?_ | refine wc_region ?_ | refine wl_nil ?_ | refine wn_seq ?_ | refine wn_blk ?_ | refine wc_skip ?_ | refine wc_block ?_ | refine wc_exit rfl ?_ | (show WL _ _ (_ :: _) _ _ _ _; first | refine yl_v rfl rfl rfl ?_ | refine wl_v rfl rfl rfl (by first | ((show OpV _ _ _ _ (Oper.mk _ (Op.call ⟨.value (.func 6), _, _⟩) _ _ _ _) _ _; exact ov_call Tryd.call6 rfl (by intro himp; first | rfl | (simp_all; done)) (by rfl) (fun _ _ h k => h.ext k) (fun hcg w hw => awake_ok hG hw.laid))) | ((show OpV _ _ _ _ (Oper.mk _ (Op.call ⟨.value (.func 7), _, _⟩) _ _ _ _) _ _; exact ov_call Tryd.call7 rfl (by intro himp; first | rfl | (simp_all; done)) (by rfl) (fun _ _ h k => h.ext k) (fun hcg w hw => s1 hw.laid))) | ((show OpV _ _ _ _ (Oper.mk _ (Op.call ⟨.value (.func 7), _, _⟩) _ _ _ _) _ _; exact ov_call Tryd.call7 rfl (by intro himp; first | rfl | (simp_all; done)) (by rfl) (fun _ _ h k => h.ext k) (fun hcg w hw => s2 hw.laid))) | fail) ?_ | refine xl_alloc (fun _ => ?_) | refine xl_store rfl rfl ?_ | refine xl_buildSlice rfl (fun _ => ?_)) | refine wc_ret rfl ?_)
  refine wc_cond rfl (fun hc => ?_) (fun hc => ?_)
  · repeat' (first | refine wc_seq ?_ | refine wc_region ?_ | refine wl_nil ?_ | refine wn_seq ?_ | refine wn_blk ?_ | refine wc_skip ?_ | refine wc_block ?_ | refine wc_exit rfl ?_ | (show WL _ _ (_ :: _) _ _ _ _; first | refine yl_v rfl rfl rfl ?_ | refine wl_v rfl rfl rfl (by first  | fail) ?_ | refine xl_alloc (fun _ => ?_) | refine xl_store rfl rfl ?_ | refine xl_buildSlice rfl (fun _ => ?_)) | refine wc_ret rfl ?_)
    exact wr_weak (fun _ h => h.drop (List.nil_sublist _)) (wr_tmp rfl rfl rfl)
  obtain ⟨⟨⟨la, lb⟩, sa⟩, sb⟩ : ((a.length ≤ 200 ∧ b.length ≤ 200) ∧ shwB a = true) ∧ shwB b = true := by
    simp only [Bool.or_eq_false_iff, decide_eq_false_iff_not, Bool.not_eq_false', Bool.not_eq_eq_eq_not, Bool.not_false] at hc
    obtain ⟨⟨⟨h1, h2⟩, h3⟩, h4⟩ := hc
    exact ⟨⟨⟨by omega, by omega⟩, h3⟩, h4⟩
  clear hc s1 s2
  have rg := right_page sa sb
  have ru := user_sh sb
  have hlg := pageN_len a b
  have hlu := answer_len (show SmS ⟨b, [], [], []⟩ 20 200 from ⟨lb, by simp, by simp, by simp, (fun p hp => by cases hp), (fun p hp => by cases hp)⟩) 0 true
  have cg := cntM_page a b
  have cu := cntM_user b
  have tg := wr_right rg
  have tu := wr_right ru
  have eg := readP_back rg
  have eu := readP_back ru
  have ep := page_p a b
  have eus := user_found b
  have is1 := page_isSome a b
  have is2 := user_isSome b
  have hA := fun {w : World} {M : Ghost} (hG : Glob M) (hM : Laid M w) => Answer_ok hG hM ⟨b, [], [], []⟩ 0 sl_nil sl_nil (show SmS ⟨b, [], [], []⟩ 100000 100000 from ⟨by show b.length ≤ _; omega, by simp, by simp, by simp, (fun p hp => by cases hp), (fun p hp => by cases hp)⟩) true
  have hB := fun {w : World} {M : Ghost} (hG : Glob M) (hM : Laid M w) => Page_ok hG hM a b (by omega) (by omega)
  rw [tu] at hA
  rw [tg] at hB
  generalize hxu : answerN ⟨b, [], [], []⟩ 0 true = xu at *
  generalize hxg : pageN a b = xg at *
  clear hxu hxg tg tu rg ru
  generalize htg : textN xg = bg at *
  generalize htu : textN xu = bu at *
  repeat' (first | refine wc_seq ?_ | refine wc_region ?_ | refine wl_nil ?_ | refine wn_seq ?_ | refine wn_blk ?_ | refine wc_skip ?_ | refine wc_block ?_ | refine wc_exit rfl ?_ | (show WL _ _ (_ :: _) _ _ _ _; first | refine yl_v rfl rfl rfl ?_ | refine wl_v rfl rfl rfl (by first  | fail) ?_ | refine xl_alloc (fun _ => ?_) | refine xl_store rfl rfl ?_ | refine xl_buildSlice rfl (fun _ => ?_)) | refine wc_ret rfl ?_)
  refine wl_callS rfl Tryd.call8 rfl rfl rfl rfl (fun w hw => hB hG hw.laid) ?_
  rintro _ H1 M1 hm1 hn1 ⟨rfl, a1, l1, c1, rfl, hS1⟩
  have hG1 := hG.mono hm1
  repeat' (first | refine wc_seq ?_ | refine wc_region ?_ | refine wl_nil ?_ | refine wn_seq ?_ | refine wn_blk ?_ | refine wc_skip ?_ | refine wc_block ?_ | refine wc_exit rfl ?_ | (show WL _ _ (_ :: _) _ _ _ _; first | refine yl_v rfl rfl rfl ?_ | refine wl_v rfl rfl rfl (by first  | fail) ?_ | refine xl_alloc (fun _ => ?_) | refine xl_store rfl rfl ?_ | refine xl_buildSlice rfl (fun _ => ?_)) | refine wc_ret rfl ?_)
  refine wl_callS rfl Tryd.call9 rfl rfl rfl rfl (fun w hw => hA hG1 hw.laid) ?_
  rintro _ H2 M2 hm2 hn2 ⟨rfl, a2, l2, c2, rfl, hS2⟩
  clear hS1 hS2 hG1 hG hA hB hn1 hn2
  repeat' (first | refine wc_seq ?_ | refine wc_region ?_ | refine wl_nil ?_ | refine wn_seq ?_ | refine wn_blk ?_ | refine wc_skip ?_ | refine wc_block ?_ | refine wc_exit rfl ?_ | (show WL _ _ (_ :: _) _ _ _ _; first | refine yl_v rfl rfl rfl ?_ | refine wl_v rfl rfl rfl (by first  | fail) ?_ | refine xl_alloc (fun _ => ?_) | refine xl_store rfl rfl ?_ | refine xl_buildSlice rfl (fun _ => ?_)) | refine wc_ret rfl ?_)
  refine wl_callS rfl Tryd.call10 rfl rfl rfl rfl (fun w hw => rread_ok hw.laid bg (by omega)) ?_
  rintro _ H3 M3 hm3 hn3 ⟨rfl, hR3⟩
  obtain ⟨n3, b3, l3, c3, t3, b3', l3', c3', e3, rfl, hx3, he3⟩ := read_open hR3
  rw [eg] at hx3 he3
  obtain rfl : e3 = 0 := he3
  clear hR3
  repeat' (first | refine wc_seq ?_ | refine wc_region ?_ | refine wl_nil ?_ | refine wn_seq ?_ | refine wn_blk ?_ | refine wc_skip ?_ | refine wc_block ?_ | refine wc_exit rfl ?_ | (show WL _ _ (_ :: _) _ _ _ _; first | refine yl_v rfl rfl rfl ?_ | refine wl_v rfl rfl rfl (by first  | fail) ?_ | refine xl_alloc (fun _ => ?_) | refine xl_store rfl rfl ?_ | refine xl_buildSlice rfl (fun _ => ?_)) | refine wc_ret rfl ?_)
  refine wl_callS rfl Tryd.call10 rfl rfl rfl rfl (fun w hw => rread_ok hw.laid bu (by omega)) ?_
  rintro _ H4 M4 hm4 hn4 ⟨rfl, hR4⟩
  obtain ⟨n4, b4, l4, c4, t4, b4', l4', c4', e4, rfl, hx4, he4⟩ := read_open hR4
  rw [eu] at hx4 he4
  obtain rfl : e4 = 0 := he4
  clear hR4 eg eu
  rw [show (some xg).getD nodeZ = xg from rfl] at hx3
  rw [show (some xu).getD nodeZ = xu from rfl] at hx4
  repeat' (first | refine wc_seq ?_ | refine wc_region ?_ | refine wl_nil ?_ | refine wn_seq ?_ | refine wn_blk ?_ | refine wc_skip ?_ | refine wc_block ?_ | refine wc_exit rfl ?_ | (show WL _ _ (_ :: _) _ _ _ _; first | refine yl_v rfl rfl rfl ?_ | refine wl_v rfl rfl rfl (by first  | fail) ?_ | refine xl_alloc (fun _ => ?_) | refine xl_store rfl rfl ?_ | refine xl_buildSlice rfl (fun _ => ?_)) | refine wc_ret rfl ?_)
  rename_i q1 q2 q3 q4 bq
  refine wl_publish (H1 := [(bq, .cells (cellsS [sBody, sP]).toArray 9 (0, 0))]) (fun hn => ?_)
  obtain ⟨n5, b5, l5, c5, t5, b5', l5', c5', hN5, hF5⟩ := rfind_ok (M := With M4 [(bq, .cells (cellsS [sBody, sP]).toArray 9 (0, 0))]) [sBody, sP] (NodeC.mono (fun _ _ h => .inl (hm4 _ _ h)) hx3)
  have ht5 : b = t5 := by
    have := node_tx hN5
    rw [ep] at this
    exact this
  rw [is1] at hF5
  rw [← ht5] at hF5
  clear hN5 ht5 ep is1 hx3
  have hp5 : SlS (With M4 [(bq, .cells (cellsS [sBody, sP]).toArray 9 (0, 0))]) (.slice (some ⟨bq, 0, none⟩) 2 2) [sBody, sP] := slS_blk (l := [sBody, sP]) (.inr (List.Mem.head _)) (by simp)
  have hx5 := NodeC.mono (M' := With M4 [(bq, .cells (cellsS [sBody, sP]).toArray 9 (0, 0))]) (fun _ _ h => .inl h) hx4
  clear hn hx4 hm4 hm3
  generalize With M4 [(bq, .cells (cellsS [sBody, sP]).toArray 9 (0, 0))] = M5 at *
  repeat' (first | refine wc_seq ?_ | refine wc_region ?_ | refine wl_nil ?_ | refine wn_seq ?_ | refine wn_blk ?_ | refine wc_skip ?_ | refine wc_block ?_ | refine wc_exit rfl ?_ | (show WL _ _ (_ :: _) _ _ _ _; first | refine yl_v rfl rfl rfl ?_ | refine wl_v rfl rfl rfl (by first | ((show OpV _ _ _ _ (Oper.mk _ (Op.call ⟨.value (.func 11), _, _⟩) _ _ _ _) _ _; exact ov_call Tryd.call11 rfl (by intro himp; first | rfl | (simp_all; done)) (by rfl) (fun _ _ h k => h.ext k) (fun hcg w hw => hF5 _ hw.laid _ hp5))) | fail) ?_ | refine xl_alloc (fun _ => ?_) | refine xl_store rfl rfl ?_ | refine xl_buildSlice rfl (fun _ => ?_)) | refine wc_ret rfl ?_)
  clear hF5 hp5
  rename_i q5 br
  refine wl_publish (H1 := [(br, .cells (cellsS [sSuc, sUser]).toArray 9 (0, 0))]) (fun hn => ?_)
  obtain ⟨n6, b6, l6, c6, t6, b6', l6', c6', hN6, hF6⟩ := rfind_ok (M := With M5 [(br, .cells (cellsS [sSuc, sUser]).toArray 9 (0, 0))]) [sSuc, sUser] (NodeC.mono (fun _ _ h => .inl h) hx5)
  have ht6 : b = t6 := by
    have := node_tx hN6
    rw [eus] at this
    exact this
  rw [is2] at hF6
  rw [← ht6] at hF6
  clear hN6 ht6 eus is2 hx5
  have hp6 : SlS (With M5 [(br, .cells (cellsS [sSuc, sUser]).toArray 9 (0, 0))]) (.slice (some ⟨br, 0, none⟩) 2 2) [sSuc, sUser] := slS_blk (l := [sSuc, sUser]) (.inr (List.Mem.head _)) (by simp)
  clear hn
  generalize With M5 [(br, .cells (cellsS [sSuc, sUser]).toArray 9 (0, 0))] = M6 at *
  repeat' (first | refine wc_seq ?_ | refine wc_region ?_ | refine wl_nil ?_ | refine wn_seq ?_ | refine wn_blk ?_ | refine wc_skip ?_ | refine wc_block ?_ | refine wc_exit rfl ?_ | (show WL _ _ (_ :: _) _ _ _ _; first | refine yl_v rfl rfl rfl ?_ | refine wl_v rfl rfl rfl (by first | ((show OpV _ _ _ _ (Oper.mk _ (Op.call ⟨.value (.func 11), _, _⟩) _ _ _ _) _ _; exact ov_call Tryd.call11 rfl (by intro himp; first | rfl | (simp_all; done)) (by rfl) (fun _ _ h k => h.ext k) (fun hcg w hw => hF6 _ hw.laid _ hp6))) | fail) ?_ | refine xl_alloc (fun _ => ?_) | refine xl_store rfl rfl ?_ | refine xl_buildSlice rfl (fun _ => ?_)) | refine wc_ret rfl ?_)
  refine wc_cond rfl (fun hc => by exfalso; simp at hc) (fun hc => ?_)
  clear hc hF6 hp6
  repeat' (first | refine wc_seq ?_ | refine wc_region ?_ | refine wl_nil ?_ | refine wn_seq ?_ | refine wn_blk ?_ | refine wc_skip ?_ | refine wc_block ?_ | refine wc_exit rfl ?_ | (show WL _ _ (_ :: _) _ _ _ _; first | refine yl_v rfl rfl rfl ?_ | refine wl_v rfl rfl rfl (by first  | fail) ?_ | refine xl_alloc (fun _ => ?_) | refine xl_store rfl rfl ?_ | refine xl_buildSlice rfl (fun _ => ?_)) | refine wc_ret rfl ?_)
  rename_i q6
  have hcl := fun i => cntM_le (bg.take i)
  have hcl2 := fun i => cntM_le (bu.take i)
  have hlb : bg.length ≤ 100000 := by omega
  have hlb2 : bu.length ≤ 100000 := by omega
  refine wc_loop (α := { i : Nat // i ≤ bg.length }) (fun x => [(5, true, .bool true), (6, true, .pointer (some ⟨q1, 0, none⟩)), (7, true, .pointer (some ⟨q2, 0, none⟩)), (16, true, i64 (cntM (bg.take x.1) : Int)), (17, true, i64 (x.1 : Int))]) (fun _ => St w [] [(q2, .cells [i64 200, .slice a2 l2 c2, str bu].toArray 26 (0, 0)), (q1, .cells [i64 200, .slice a1 l1 c1, str bg].toArray 26 (0, 0))] M6) (fun x => bg.length - x.1) ⟨0, by omega⟩ (by first | exact Sub.nil _ | (repeat (first | exact Sub.nil _ | refine Sub.cons (by first | rfl | (simp [look]; done)) ?_))) (fun _ h => h.drop (by repeat (first | exact List.Sublist.refl _ | apply List.Sublist.cons))) ?_
  rintro ⟨i, hi⟩
  dsimp only
  rcases Nat.lt_or_ge i bg.length with hlt | hge
  · have hst := cntM_take hlt
    have hli := hcl i
    rw [List.length_take] at hli
    repeat' (first | refine wc_seq ?_ | refine wc_region ?_ | refine wl_nil ?_ | refine wn_seq ?_ | refine wn_blk ?_ | refine wc_skip ?_ | refine wc_block ?_ | refine wc_exit rfl ?_ | (show WL _ _ (_ :: _) _ _ _ _; first | refine yl_v rfl rfl rfl ?_ | refine wl_v rfl rfl rfl (by first  | fail) ?_ | refine xl_alloc (fun _ => ?_) | refine xl_store rfl rfl ?_ | refine xl_buildSlice rfl (fun _ => ?_)) | refine wc_ret rfl ?_)
    refine wc_cond rfl (fun hc => ?_) (fun hc => by exfalso; simp at hc; omega)
    clear hc
    repeat' (first | refine wc_seq ?_ | refine wc_region ?_ | refine wl_nil ?_ | refine wn_seq ?_ | refine wn_blk ?_ | refine wc_skip ?_ | refine wc_block ?_ | refine wc_exit rfl ?_ | (show WL _ _ (_ :: _) _ _ _ _; first | refine yl_v rfl rfl rfl ?_ | refine wl_v rfl rfl rfl (by first  | fail) ?_ | refine xl_alloc (fun _ => ?_) | refine xl_store rfl rfl ?_ | refine xl_buildSlice rfl (fun _ => ?_)) | refine wc_ret rfl ?_)
    refine wc_cond rfl (fun hc => ?_) (fun hc => ?_)
    · rw [if_pos (show mkB (bg.getD i 0) = true from (mkB_int _).trans hc)] at hst
      generalize cntM (bg.take i) = x at *
      repeat' (first | refine wc_seq ?_ | refine wc_region ?_ | refine wl_nil ?_ | refine wn_seq ?_ | refine wn_blk ?_ | refine wc_skip ?_ | refine wc_block ?_ | refine wc_exit rfl ?_ | (show WL _ _ (_ :: _) _ _ _ _; first | refine yl_v rfl rfl rfl ?_ | refine wl_v rfl rfl rfl (by first  | fail) ?_ | refine xl_alloc (fun _ => ?_) | refine xl_store rfl rfl ?_ | refine xl_buildSlice rfl (fun _ => ?_)) | refine wc_ret rfl ?_)
      exact wn_cut ⟨i + 1, by omega⟩ (by show bg.length - (i + 1) < bg.length - i; omega) (by repeat (first | exact Sub.nil _ | refine Sub.cons (by first | rfl | (simp only [look]; rw [hst]; rfl) | (simp only [look]; rw [hst]; simp; done)) ?_)) (fun _ h => h)
    · rw [if_neg (show ¬ mkB (bg.getD i 0) = true from by rw [show mkB (bg.getD i 0) = false from (mkB_int _).trans hc]; simp)] at hst
      generalize cntM (bg.take i) = x at *
      repeat' (first | refine wc_seq ?_ | refine wc_region ?_ | refine wl_nil ?_ | refine wn_seq ?_ | refine wn_blk ?_ | refine wc_skip ?_ | refine wc_block ?_ | refine wc_exit rfl ?_ | (show WL _ _ (_ :: _) _ _ _ _; first | refine yl_v rfl rfl rfl ?_ | refine wl_v rfl rfl rfl (by first  | fail) ?_ | refine xl_alloc (fun _ => ?_) | refine xl_store rfl rfl ?_ | refine xl_buildSlice rfl (fun _ => ?_)) | refine wc_ret rfl ?_)
      exact wn_cut ⟨i + 1, by omega⟩ (by show bg.length - (i + 1) < bg.length - i; omega) (by repeat (first | exact Sub.nil _ | refine Sub.cons (by first | rfl | (simp only [look]; rw [hst]; rfl) | (simp only [look]; rw [hst]; simp; done)) ?_)) (fun _ h => h)
  obtain rfl : i = bg.length := by omega
  rw [List.take_length, cg]
  repeat' (first | refine wc_seq ?_ | refine wc_region ?_ | refine wl_nil ?_ | refine wn_seq ?_ | refine wn_blk ?_ | refine wc_skip ?_ | refine wc_block ?_ | refine wc_exit rfl ?_ | (show WL _ _ (_ :: _) _ _ _ _; first | refine yl_v rfl rfl rfl ?_ | refine wl_v rfl rfl rfl (by first  | fail) ?_ | refine xl_alloc (fun _ => ?_) | refine xl_store rfl rfl ?_ | refine xl_buildSlice rfl (fun _ => ?_)) | refine wc_ret rfl ?_)
  refine wc_cond rfl (fun hc => by exfalso; simp at hc) (fun hc => ?_)
  clear hc
  repeat' (first | refine wc_seq ?_ | refine wc_region ?_ | refine wl_nil ?_ | refine wn_seq ?_ | refine wn_blk ?_ | refine wc_skip ?_ | refine wc_block ?_ | refine wc_exit rfl ?_ | (show WL _ _ (_ :: _) _ _ _ _; first | refine yl_v rfl rfl rfl ?_ | refine wl_v rfl rfl rfl (by first  | fail) ?_ | refine xl_alloc (fun _ => ?_) | refine xl_store rfl rfl ?_ | refine xl_buildSlice rfl (fun _ => ?_)) | refine wc_ret rfl ?_)
  refine wc_loop (α := { i : Nat // i ≤ bu.length }) (fun x => [(5, true, .bool true), (7, true, .pointer (some ⟨q2, 0, none⟩)), (16, true, i64 ((12 + cntM (bu.take x.1) : Nat) : Int)), (18, true, i64 (x.1 : Int))]) (fun _ => St w [] [(q2, .cells [i64 200, .slice a2 l2 c2, str bu].toArray 26 (0, 0)), (q1, .cells [i64 200, .slice a1 l1 c1, str bg].toArray 26 (0, 0))] M6) (fun x => bu.length - x.1) ⟨0, by omega⟩ (by first | exact Sub.nil _ | (repeat (first | exact Sub.nil _ | refine Sub.cons (by first | rfl | (simp [look]; done)) ?_))) (fun _ h => h.drop (by repeat (first | exact List.Sublist.refl _ | apply List.Sublist.cons))) ?_
  rintro ⟨i, hi⟩
  dsimp only
  rcases Nat.lt_or_ge i bu.length with hlt | hge
  · have hst := cntM_take hlt
    have hli := hcl2 i
    rw [List.length_take] at hli
    repeat' (first | refine wc_seq ?_ | refine wc_region ?_ | refine wl_nil ?_ | refine wn_seq ?_ | refine wn_blk ?_ | refine wc_skip ?_ | refine wc_block ?_ | refine wc_exit rfl ?_ | (show WL _ _ (_ :: _) _ _ _ _; first | refine yl_v rfl rfl rfl ?_ | refine wl_v rfl rfl rfl (by first  | fail) ?_ | refine xl_alloc (fun _ => ?_) | refine xl_store rfl rfl ?_ | refine xl_buildSlice rfl (fun _ => ?_)) | refine wc_ret rfl ?_)
    refine wc_cond rfl (fun hc => ?_) (fun hc => by exfalso; simp at hc; omega)
    clear hc
    repeat' (first | refine wc_seq ?_ | refine wc_region ?_ | refine wl_nil ?_ | refine wn_seq ?_ | refine wn_blk ?_ | refine wc_skip ?_ | refine wc_block ?_ | refine wc_exit rfl ?_ | (show WL _ _ (_ :: _) _ _ _ _; first | refine yl_v rfl rfl rfl ?_ | refine wl_v rfl rfl rfl (by first  | fail) ?_ | refine xl_alloc (fun _ => ?_) | refine xl_store rfl rfl ?_ | refine xl_buildSlice rfl (fun _ => ?_)) | refine wc_ret rfl ?_)
    refine wc_cond rfl (fun hc => ?_) (fun hc => ?_)
    · rw [if_pos (show mkB (bu.getD i 0) = true from (mkB_int _).trans hc)] at hst
      generalize cntM (bu.take i) = x at *
      repeat' (first | refine wc_seq ?_ | refine wc_region ?_ | refine wl_nil ?_ | refine wn_seq ?_ | refine wn_blk ?_ | refine wc_skip ?_ | refine wc_block ?_ | refine wc_exit rfl ?_ | (show WL _ _ (_ :: _) _ _ _ _; first | refine yl_v rfl rfl rfl ?_ | refine wl_v rfl rfl rfl (by first  | fail) ?_ | refine xl_alloc (fun _ => ?_) | refine xl_store rfl rfl ?_ | refine xl_buildSlice rfl (fun _ => ?_)) | refine wc_ret rfl ?_)
      exact wn_cut ⟨i + 1, by omega⟩ (by show bu.length - (i + 1) < bu.length - i; omega) (by repeat (first | exact Sub.nil _ | refine Sub.cons (by first | rfl | (simp only [look]; rw [hst]; rfl) | (simp only [look]; rw [hst]; simp; done)) ?_)) (fun _ h => h)
    · rw [if_neg (show ¬ mkB (bu.getD i 0) = true from by rw [show mkB (bu.getD i 0) = false from (mkB_int _).trans hc]; simp)] at hst
      generalize cntM (bu.take i) = x at *
      repeat' (first | refine wc_seq ?_ | refine wc_region ?_ | refine wl_nil ?_ | refine wn_seq ?_ | refine wn_blk ?_ | refine wc_skip ?_ | refine wc_block ?_ | refine wc_exit rfl ?_ | (show WL _ _ (_ :: _) _ _ _ _; first | refine yl_v rfl rfl rfl ?_ | refine wl_v rfl rfl rfl (by first  | fail) ?_ | refine xl_alloc (fun _ => ?_) | refine xl_store rfl rfl ?_ | refine xl_buildSlice rfl (fun _ => ?_)) | refine wc_ret rfl ?_)
      exact wn_cut ⟨i + 1, by omega⟩ (by show bu.length - (i + 1) < bu.length - i; omega) (by repeat (first | exact Sub.nil _ | refine Sub.cons (by first | rfl | (simp only [look]; rw [hst]; rfl) | (simp only [look]; rw [hst]; simp; done)) ?_)) (fun _ h => h)
  obtain rfl : i = bu.length := by omega
  rw [List.take_length, cu]
  repeat' (first | refine wc_seq ?_ | refine wc_region ?_ | refine wl_nil ?_ | refine wn_seq ?_ | refine wn_blk ?_ | refine wc_skip ?_ | refine wc_block ?_ | refine wc_exit rfl ?_ | (show WL _ _ (_ :: _) _ _ _ _; first | refine yl_v rfl rfl rfl ?_ | refine wl_v rfl rfl rfl (by first  | fail) ?_ | refine xl_alloc (fun _ => ?_) | refine xl_store rfl rfl ?_ | refine xl_buildSlice rfl (fun _ => ?_)) | refine wc_ret rfl ?_)
  refine wc_cond rfl (fun hc => by exfalso; simp at hc) (fun hc => ?_)
  repeat' (first | refine wc_seq ?_ | refine wc_region ?_ | refine wl_nil ?_ | refine wn_seq ?_ | refine wn_blk ?_ | refine wc_skip ?_ | refine wc_block ?_ | refine wc_exit rfl ?_ | (show WL _ _ (_ :: _) _ _ _ _; first | refine yl_v rfl rfl rfl ?_ | refine wl_v rfl rfl rfl (by first  | fail) ?_ | refine xl_alloc (fun _ => ?_) | refine xl_store rfl rfl ?_ | refine xl_buildSlice rfl (fun _ => ?_)) | refine wc_ret rfl ?_)
  exact wr_weak (fun _ h => h.drop (List.nil_sublist _)) (wr_tmp rfl rfl rfl)
end Go.Proofs.YtgfbieplidpebaaDoor
/-
  Arguments opened: what the reading of an argument says of memory, with the sizes that a row allows. Nothing of the program stands here.
-/
namespace Go.Eng
open Go.RowKit Go.ChangeShapes Go.WideShapes

/-- all that stands in a world -/
def All (W : World) : Ghost := fun b o => W.heap[b]? = some o
theorem all_laid (W : World) : Laid (All W) W := fun _ _ h => h
theorem cell_inv {W : World} {g i : Nat} {v : Value} (h : W.cell? ⟨g, i, none⟩ = some v) : ∃ cs T fz, W.heap[g]? = some (.cells cs T fz) ∧ cs[i]? = some v := by
  unfold World.cell? at h
  split at h
  · rename_i cs T fz e; exact ⟨cs, T, fz, e, by simpa using h⟩
  · cases h
/-- a datum's sizes -/
def Wt {H : Type} (P : Program) (t : TypeId) (d : DataW H) : Prop := ∀ n ∈ d.weights P t, n ≤ reachBytes
/-- how the cells of a type open -/
structure Opens (P : Program) (w : World) (t : TypeId) {α : Type} (R : α → List Value → Prop) : Prop where
  go : ∀ {H : Type} (enc : TypeId × Value → H) (fuel : Nat) (cs : List Value) (d : DataW H) (ps : List MemPlace), DataW.trod enc P w 0 (fun _ => true) true fuel t cs = some (d, ps) → Wt P t d → ∃ x, R x cs
section
variable {P : Program} {w : World} {t : TypeId}
theorem str_of (s : ByteArray) : Value.string s = str s.data.toList := by cases s; simp
theorem opens_str (ht : P.underlying t = some .string) : Opens P w t (fun s vs => vs = [str s] ∧ s.length ≤ reachBytes) := ⟨fun enc fuel cs d ps h hw => by
  obtain ⟨s, e1, e2, _⟩ := DataW.trod_string ht h
  simp only [Prod.mk.injEq] at e2
  refine ⟨s.data.toList, by rw [e1, str_of], ?_⟩
  exact hw _ (by rw [e2.1]; simp [DataW.weights])⟩
theorem opens_bool (ht : P.underlying t = some .bool) : Opens P w t (fun b vs => vs = [.bool b]) := ⟨fun enc fuel cs d ps h hw => by
  cases fuel with
  | zero => simp [DataW.trod] at h
  | succ n =>
    unfold DataW.trod at h
    rw [ht] at h
    split at h <;> simp_all⟩
theorem opens_int {k : IntKind} (ht : P.underlying t = some (.int k)) : Opens P w t (fun z vs => vs = [.int k z] ∧ k.min ≤ z ∧ z ≤ k.max) := ⟨fun enc fuel cs d ps h hw => by
  obtain ⟨z, e1, _, hwf⟩ := DataW.trod_int ht h
  refine ⟨z, e1, ?_⟩
  simpa [Lit.wf] using hwf⟩
theorem wt_all {H : Type} {e : TypeId} {d : DataW H} : ∀ {ds : List (DataW H)}, d ∈ ds → ∀ n ∈ d.weights P e, n ∈ DataW.weightsAll P e ds
  | x :: ds, hd, n, hn => by
    simp only [DataW.weightsAll, List.mem_append]
    rcases List.mem_cons.1 hd with rfl | hd
    · exact .inl hn
    · exact .inr (wt_all hd n hn)
theorem opens_slice {e : TypeId} {m : Nat} {α : Type} {R : α → List Value → Prop} (ht : P.underlying t = some (.slice e)) (hc : P.cellsOf e = m) (hm : 0 < m) (he : Opens P w e R) :
    Opens P w t (fun (l : List α) vs => ∃ v, vs = [v] ∧ Sl (All w) m R v l ∧ l.length * P.bytesOf e ≤ reachBytes) := ⟨fun enc fuel cs d ps h hw => by
  rcases Go.Deep.open_slice ht h with ⟨rfl, _⟩ | ⟨a, len, cap, q, n, D, Pl, rfl, _, hl, hcm, hq, hx, hel⟩
  · exact ⟨[], _, rfl, sl_nil, by simp⟩
  · simp only [if_true] at hq
    subst hq
    simp only [Prod.mk.injEq] at hx
    have hwt : ∀ i, i < len → Wt P e (D i) := by
      intro i hi k hk
      refine hw k ?_
      rw [hx.1]
      simp only [DataW.weights, ht, List.mem_cons, List.mem_append]
      exact .inr (.inl (wt_all (List.mem_map.2 ⟨i, by simpa using hi, rfl⟩) k hk))
    have hbytes : len * P.bytesOf e ≤ reachBytes := by
      refine Nat.le_trans (Nat.mul_le_mul_right _ (Nat.le_add_right len (q - len))) (hw ((len + (q - len)) * P.bytesOf e) ?_)
      rw [hx.1]
      simp [DataW.weights, ht]
    have each : ∀ i, i < len → ∃ y : α, ∃ cs' : List Value, cs'.length = m ∧ R y cs' ∧ ∀ j, j < m → w.cell? (a.add (i * m + j)) = cs'[j]? := by
      intro i hi
      obtain ⟨cs', h1, h2⟩ := hel i (by omega)
      rw [hc] at h1
      obtain ⟨_, hlen, hcell⟩ := World.cells?_some h1
      obtain ⟨y, hy⟩ := he.go enc n cs' (D i) (Pl i) h2 (hwt i hi)
      exact ⟨y, cs', hlen, hy, fun j hj => by rw [← hcell j hj, Go.Deep.add_add]⟩
    have hmax : len ≤ 9223372036854775807 := by unfold maxLen at hcm; omega
    by_cases h0 : len = 0
    · subst h0
      exact ⟨[], _, rfl, ⟨some a, q, rfl, Nat.zero_le _, by simp, fun h => absurd rfl h⟩, by simp⟩
    · obtain ⟨y0, cs0, hl0, _, hc0⟩ := each 0 (by omega)
      have hc00 := hc0 0 hm
      have hsome : ∃ v, cs0[0]? = some v := ⟨cs0[0]'(by omega), by simp [show 0 < cs0.length by omega]⟩
      obtain ⟨v0, hv0⟩ := hsome
      rw [hv0] at hc00
      simp only [Nat.zero_mul, Nat.add_zero, Addr.add, if_true] at hc00
      obtain ⟨b, o, spot⟩ := a
      cases spot with
      | some x =>
        simp only [World.cell?] at hc00
        split at hc00
        · simp at hc00
        · cases hc00
      | none =>
        obtain ⟨cells, T, fz, hh, _⟩ := cell_inv hc00
        have : ∀ n, n ≤ len → ∃ l : List α, l.length = n ∧ ∀ i (hi : i < l.length), ∃ vs, vs.length = m ∧ R l[i] vs ∧ ∀ j, j < m → cells[o + i * m + j]? = vs[j]? := by
          intro n
          induction n with
          | zero => intro _; exact ⟨[], rfl, fun i hi => absurd hi (by simp)⟩
          | succ n ih =>
            intro hn
            obtain ⟨l, hl', hall⟩ := ih (by omega)
            obtain ⟨y, cs', h1, h2, h3⟩ := each n (by omega)
            refine ⟨l ++ [y], by simp [hl'], fun i hi => ?_⟩
            by_cases hin : i < l.length
            · obtain ⟨vs, g1, g2, g3⟩ := hall i hin
              exact ⟨vs, g1, by rw [List.getElem_append_left hin]; exact g2, g3⟩
            · have : i = n := by simp at hi; omega
              subst this
              refine ⟨cs', h1, ?_, fun j hj => ?_⟩
              · rw [List.getElem_append_right (by omega)]; simpa using h2
              · rw [← h3 j hj]
                have hadd : ∀ k, (⟨b, o, none⟩ : Addr).add k = ⟨b, o + k, none⟩ := by
                  intro k; unfold Addr.add; split
                  · simp_all
                  · rfl
                rw [hadd, cell_of hh, Nat.add_assoc]
        obtain ⟨l, hl', hall⟩ := this len (Nat.le_refl _)
        subst hl'
        exact ⟨l, _, rfl, ⟨some ⟨b, o, none⟩, q, rfl, hl, hmax, fun _ => ⟨b, o, cells, T, fz, rfl, hh, hall⟩⟩, hbytes⟩⟩
theorem wt_each {H : Type} : ∀ {ts : List TypeId} {ds : List (DataW H)} {j : Nat} {t : TypeId} {d : DataW H}, ts[j]? = some t → ds[j]? = some d → (∀ n ∈ DataW.weightsEach P ts ds, n ≤ reachBytes) → Wt P t d :=
  fun ht hd h n hn => h n (DataW.weights_mem_each ht hd n hn)
/-- a struct whose fields are of one cell each -/
theorem open_fields {fs : Array Field} (ht : P.underlying t = some (.struct fs)) (hone : (fs.toList.zipIdx.all fun x => Nat.beq x.1.offset x.2 && Nat.beq (P.cellsOf x.1.type) 1) = true) (hct : P.cellsOf t = fs.size)
    {H : Type} (enc : TypeId × Value → H) (fuel : Nat) (cs : List Value) (d : DataW H) (ps : List MemPlace) (h : DataW.trod enc P w 0 (fun _ => true) true fuel t cs = some (d, ps)) (hw : Wt P t d) :
    cs.length = fs.size ∧ ∀ (i : Nat) (f : Field), fs[i]? = some f → ∃ v, cs[i]? = some v ∧ ∀ {α : Type} {R : α → List Value → Prop}, Opens P w f.type R → ∃ x, R x [v] := by
  obtain ⟨xs, n, rfl, e, hl, hxl, hf⟩ := DataW.trod_struct ht h
  simp only [Prod.mk.injEq] at e
  rw [hct] at hl
  refine ⟨hl, fun i f hfi => ?_⟩
  have hi : i < fs.size := by
    rcases Nat.lt_or_ge i fs.size with h' | h'
    · exact h'
    · simp [Array.getElem?_eq_none h'] at hfi
  have h1 := List.all_eq_true.1 hone (f, i) (by
    rw [List.mem_zipIdx_iff_getElem?]
    simpa using hfi)
  simp only [Bool.and_eq_true] at h1
  have ho : f.offset = i := Nat.eq_of_beq_eq_true h1.1
  have hc1 : P.cellsOf f.type = 1 := Nat.eq_of_beq_eq_true h1.2
  have hg := hf i f hfi
  have hcs : i < cs.length := by omega
  rw [ho, hc1, List.drop_eq_getElem_cons hcs, List.take_succ_cons, List.take_zero] at hg
  refine ⟨cs[i], by simp [hcs], fun {α R} hR => ?_⟩
  have hxi : i < xs.length := by omega
  rw [List.getElem?_eq_getElem hxi] at hg
  refine hR.go enc n [cs[i]] (xs[i]).1 (xs[i]).2 hg ?_
  intro k hk
  refine hw k ?_
  rw [e.1]
  simp only [DataW.weights, ht]
  exact DataW.weights_mem_each (j := i) (t := f.type) (d := (xs[i]).1) (by simp [hfi]) (by simp [hxi]) k hk
/-- a pair of texts -/
def IsPr (p : List UInt8 × List UInt8) (vs : List Value) : Prop := vs = [str p.1, str p.2] ∧ p.1.length ≤ reachBytes ∧ p.2.length ≤ reachBytes
theorem two_cells {cs : List Value} {v0 v1 : Value} (hl : cs.length = 2) (h0 : cs[0]? = some v0) (h1 : cs[1]? = some v1) : cs = [v0, v1] := by
  match cs, hl with
  | [a, b], _ => simp at h0 h1; rw [h0, h1]
theorem opens_pr {f0 f1 : Field} (ht : P.underlying t = some (.struct #[f0, f1])) (hone : ((#[f0, f1] : Array Field).toList.zipIdx.all fun x => Nat.beq x.1.offset x.2 && Nat.beq (P.cellsOf x.1.type) 1) = true) (hct : P.cellsOf t = 2)
    (t0 : P.underlying f0.type = some .string) (t1 : P.underlying f1.type = some .string) : Opens P w t IsPr := ⟨fun enc fuel cs d ps h hw => by
  obtain ⟨hl, hf⟩ := open_fields ht hone hct enc fuel cs d ps h hw
  obtain ⟨v0, e0, g0⟩ := hf 0 f0 rfl
  obtain ⟨v1, e1, g1⟩ := hf 1 f1 rfl
  obtain ⟨s0, k0, b0⟩ := g0 (opens_str t0)
  obtain ⟨s1, k1, b1⟩ := g1 (opens_str t1)
  simp only [List.cons.injEq, and_true] at k0 k1
  refine ⟨(s0, s1), ?_, b0, b1⟩
  rw [two_cells hl e0 e1, k0, k1]⟩
/-- an argument -/
theorem open_arg {α : Type} {R : α → List Value → Prop} (hR : Opens P w t R) {H : Type} {enc : TypeId × Value → H} {v : Value} {d : DataW H} {ps : List MemPlace} (h : DataW.Trod enc P w 0 (fun _ => true) true t v d ps) (hw : Wt P t d) : ∃ x, R x v.cells.toList := by
  obtain ⟨fuel, hf⟩ := h
  exact hR.go enc fuel _ d ps hf hw
theorem sl_slS {M : Ghost} {v : Value} {l : List (List UInt8)} (h : Sl M 1 (fun s vs => vs = [str s] ∧ s.length ≤ reachBytes) v l) : SlS M v l ∧ ∀ s ∈ l, s.length ≤ reachBytes := by
  refine ⟨h.mono (fun _ _ h => h) (fun _ _ _ h => h.1), fun s hs => ?_⟩
  obtain ⟨_, _, _, _, _, h4⟩ := h
  obtain ⟨b, o, cs, T, fz, _, _, h7⟩ := h4 (by rintro rfl; cases hs)
  obtain ⟨i, hi, rfl⟩ := List.mem_iff_getElem.1 hs
  obtain ⟨vs, _, hR, _⟩ := h7 i hi
  exact hR.2
theorem sl_slP {M : Ghost} {v : Value} {l : List (List UInt8 × List UInt8)} (h : Sl M 2 IsPr v l) : SlP M v l ∧ ∀ p ∈ l, p.1.length ≤ reachBytes ∧ p.2.length ≤ reachBytes := by
  refine ⟨h.mono (fun _ _ h => h) (fun _ _ _ h => h.1), fun s hs => ?_⟩
  obtain ⟨_, _, _, _, _, h4⟩ := h
  obtain ⟨b, o, cs, T, fz, _, _, h7⟩ := h4 (by rintro rfl; cases hs)
  obtain ⟨i, hi, rfl⟩ := List.mem_iff_getElem.1 hs
  obtain ⟨vs, _, hR, _⟩ := h7 i hi
  exact hR.2
end
end Go.Eng
/-
  The arguments of this program's laws, opened, with the sizes that a row allows.
-/
namespace Go.Proofs.YtgfbieplidpebaaDoor
open Go.ChangeShapes Go.WideShapes Go.RowKit Go.Eng Go.Pct
set_option maxRecDepth 100000
set_option linter.unusedVariables false
set_option linter.unusedSimpArgs false

variable {H : Type} {enc : TypeId × Value → H} {W : World} {base : Nat} {v : Value} {d : DataW H} {ps : List MemPlace}
theorem reach_le {n : Nat} (h : n ≤ reachBytes) : n ≤ 140737488355328 := Nat.le_trans h (by decide)
theorem small_of {l : List Pr} (h : ∀ p ∈ l, p.1.length ≤ reachBytes ∧ p.2.length ≤ reachBytes) : Small 140737488355328 l := fun p hp => ⟨reach_le (h p hp).1, reach_le (h p hp).2⟩
theorem opn_str : Opens Tryd.prog W 9 (fun s vs => vs = [str s] ∧ s.length ≤ reachBytes) := opens_str Tryd.underlying9
theorem opn_pr : Opens Tryd.prog W 57 IsPr := opens_pr Tryd.underlying57 (by kernel_rfl) (by kernel_rfl) Tryd.underlying9 Tryd.underlying9
theorem opn_prs : Opens Tryd.prog W 24 (fun (l : List Pr) vs => ∃ v, vs = [v] ∧ Sl (All W) 2 IsPr v l ∧ l.length * Tryd.prog.bytesOf 57 ≤ reachBytes) := opens_slice Tryd.underlying24 (by kernel_rfl) (by decide) opn_pr
theorem opn_strs : Opens Tryd.prog W 29 (fun (l : List (List UInt8)) vs => ∃ v, vs = [v] ∧ Sl (All W) 1 (fun s vs => vs = [str s] ∧ s.length ≤ reachBytes) v l ∧ l.length * Tryd.prog.bytesOf 9 ≤ reachBytes) := opens_slice Tryd.underlying29 (by kernel_rfl) (by decide) opn_str

theorem arg_str (hval : Value.okWide Tryd.prog W .any base 9 v) (hd : DataW.Trod enc Tryd.prog W 0 (fun _ => true) true 9 v d ps) (hw : Wt Tryd.prog 9 d) : ∃ s, v = str s ∧ s.length ≤ reachBytes := by
  obtain ⟨s0, rfl⟩ := okWide_string Tryd.underlying9 hval
  obtain ⟨s, hs, hl⟩ := open_arg opn_str hd hw
  simp only [Value.cells, List.cons.injEq, and_true] at hs
  exact ⟨s, hs, hl⟩
theorem arg_bool (hval : Value.okWide Tryd.prog W .any base 4 v) : ∃ b, v = .bool b := okWide_bool Tryd.underlying4 hval
theorem arg_int (hval : Value.okWide Tryd.prog W .any base 3 v) (hd : DataW.Trod enc Tryd.prog W 0 (fun _ => true) true 3 v d ps) (hw : Wt Tryd.prog 3 d) : ∃ z : Int, v = i64 z ∧ -9223372036854775808 ≤ z ∧ z ≤ 9223372036854775807 := by
  obtain ⟨z0, rfl⟩ := okWide_int Tryd.underlying3 hval
  obtain ⟨z, hz, h1, h2⟩ := open_arg (opens_int Tryd.underlying3) hd hw
  simp only [Value.cells, List.cons.injEq, and_true] at hz
  exact ⟨z, hz, h1, h2⟩
theorem arg_u8 (hval : Value.okWide Tryd.prog W .any base 5 v) (hd : DataW.Trod enc Tryd.prog W 0 (fun _ => true) true 5 v d ps) (hw : Wt Tryd.prog 5 d) : ∃ c : UInt8, v = byt c := by
  obtain ⟨z0, rfl⟩ := okWide_int Tryd.underlying5 hval
  obtain ⟨z, hz, h1, h2⟩ := open_arg (opens_int Tryd.underlying5) hd hw
  simp only [Value.cells, List.cons.injEq, and_true] at hz
  rw [hz]
  have h1 : (0 : Int) ≤ z := h1
  have h2 : z ≤ 255 := h2
  refine ⟨UInt8.ofNat z.toNat, ?_⟩
  have h3 : ((UInt8.ofNat z.toNat).toNat : Int) = z := by
    have : z.toNat < 256 := by omega
    simp [Nat.mod_eq_of_lt this]; omega
  rw [byt, h3]
theorem arg_prs (hval : Value.okWide Tryd.prog W .any base 24 v) (hd : DataW.Trod enc Tryd.prog W 0 (fun _ => true) true 24 v d ps) (hw : Wt Tryd.prog 24 d) : ∃ l : List Pr, SlP (All W) v l ∧ Small 140737488355328 l := by
  obtain ⟨a0, len, cap, rfl⟩ := okWide_slice Tryd.underlying24 hval
  obtain ⟨l, u, hu, hl, _⟩ := open_arg opn_prs hd hw
  simp only [Value.cells, List.cons.injEq, and_true] at hu
  subst hu
  exact ⟨l, (sl_slP hl).1, small_of (sl_slP hl).2⟩
theorem arg_strs (hval : Value.okWide Tryd.prog W .any base 29 v) (hd : DataW.Trod enc Tryd.prog W 0 (fun _ => true) true 29 v d ps) (hw : Wt Tryd.prog 29 d) : ∃ l : List (List UInt8), SlS (All W) v l ∧ ∀ s ∈ l, s.length ≤ 140737488355328 := by
  obtain ⟨a0, len, cap, rfl⟩ := okWide_slice Tryd.underlying29 hval
  obtain ⟨l, u, hu, hl, _⟩ := open_arg opn_strs hd hw
  simp only [Value.cells, List.cons.injEq, and_true] at hu
  subst hu
  exact ⟨l, (sl_slS hl).1, fun s hs => reach_le ((sl_slS hl).2 s hs)⟩
theorem arg_agg {t : TypeId} {fs : Array Field} (ht : Tryd.prog.underlying t = some (.struct fs)) (hval : Value.okWide Tryd.prog W .any base t v) : ∃ cs, v = .agg cs := by
  simp only [Value.okWide, ht] at hval
  obtain ⟨cs, h, _⟩ := hval
  exact ⟨cs, h⟩
theorem three_cells {cs : List Value} {v0 v1 v2 : Value} (hl : cs.length = 3) (h0 : cs[0]? = some v0) (h1 : cs[1]? = some v1) (h2 : cs[2]? = some v2) : cs = [v0, v1, v2] := by
  match cs, hl with
  | [a, b, c], _ => simp at h0 h1 h2; rw [h0, h1, h2]
theorem four_cells {cs : List Value} {v0 v1 v2 v3 : Value} (hl : cs.length = 4) (h0 : cs[0]? = some v0) (h1 : cs[1]? = some v1) (h2 : cs[2]? = some v2) (h3 : cs[3]? = some v3) : cs = [v0, v1, v2, v3] := by
  match cs, hl with
  | [a, b, c, d], _ => simp at h0 h1 h2 h3; rw [h0, h1, h2, h3]
theorem arg_rsp (hval : Value.okWide Tryd.prog W .any base 26 v) (hd : DataW.Trod enc Tryd.prog W 0 (fun _ => true) true 26 v d ps) (hw : Wt Tryd.prog 26 d) :
    ∃ (st : Int) (hv : Value) (l : List Pr) (bd : List UInt8), v = .agg #[i64 st, hv, str bd] ∧ SlP (All W) hv l ∧ Small 140737488355328 l ∧ bd.length ≤ 140737488355328 := by
  obtain ⟨cs, rfl⟩ := arg_agg Tryd.underlying26 hval
  obtain ⟨fuel, hf⟩ := hd
  obtain ⟨hlen, hfs⟩ := open_fields Tryd.underlying26 (by kernel_rfl) (by kernel_rfl) enc fuel _ d ps hf hw
  obtain ⟨v0, e0, g0⟩ := hfs 0 _ rfl
  obtain ⟨v1, e1, g1⟩ := hfs 1 _ rfl
  obtain ⟨v2, e2, g2⟩ := hfs 2 _ rfl
  obtain ⟨z, hz, _⟩ := g0 (opens_int Tryd.underlying3)
  obtain ⟨l, u, hu, hl, _⟩ := g1 opn_prs
  obtain ⟨s, hs, hb⟩ := g2 opn_str
  simp only [List.cons.injEq, and_true] at hz hu hs
  have h3 := three_cells hlen e0 e1 e2
  refine ⟨z, u, l, s, ?_, (sl_slP hl).1, small_of (sl_slP hl).2, reach_le hb⟩
  rw [hz, hu, hs] at h3
  have h4 : cs.toList = [i64 z, u, str s] := h3
  have h5 : cs = #[i64 z, u, str s] := by rw [← Array.toArray_toList (xs := cs), h4]
  rw [h5]
end Go.Proofs.YtgfbieplidpebaaDoor
/-
  The frames' common part: what a row's world holds; a world for the witness.
-/
namespace Go.Proofs.YtgfbieplidpebaaDoor
open Go.ChangeShapes Go.WideShapes Go.ChangeAt Go.RowKit Go.Eng Go.Pct
set_option maxRecDepth 100000

theorem own : ownKnob Tryd.prog.godebug = none := by kernel_rfl
theorem gMarks : Tryd.prog.globalNamed "matricula/xml.marks" = some 0 := by kernel_rfl
theorem gMarksT : (Tryd.prog.globals[0]?).map (·.type) = some 111 := by kernel_rfl
theorem cellsPrM : Tryd.prog.cellsOf 57 = 2 := by kernel_rfl
theorem cellsStrM : Tryd.prog.cellsOf 9 = 1 := by kernel_rfl
def markD : DataW Unit := .agg [.agg [.lit (.string [38]), .lit (.string [38, 97, 109, 112, 59])], .agg [.lit (.string [60]), .lit (.string [38, 108, 116, 59])], .agg [.lit (.string [62]), .lit (.string [38, 103, 116, 59])], .agg [.lit (.string [34]), .lit (.string [38, 113, 117, 111, 116, 59])], .agg [.lit (.string [39]), .lit (.string [38, 35, 51, 57, 59])]]
theorem pair_cells {W : World} {fuel : Nat} {cs : List Value} {a b : List UInt8} {q : List MemPlace} (h : DataW.trod (fun _ => ()) Tryd.prog W 0 (fun _ => true) false fuel 57 cs = some (.agg [.lit (.string a), .lit (.string b)], q)) : cs[0]? = some (str a) ∧ cs[1]? = some (str b) := by
  obtain ⟨xs, n, rfl, hx, hl, hxl, hall⟩ := DataW.trod_struct Tryd.underlying57 h
  have hxs : xs.map (·.1) = [.lit (.string a), .lit (.string b)] := by
    have := congrArg Prod.fst hx
    simpa using this.symm
  match xs, hxs with
  | [x0, x1], hxs =>
    simp only [List.map_cons, List.map_nil, List.cons.injEq, and_true] at hxs
    have h0 := hall 0 _ rfl
    have h1 := hall 1 _ rfl
    obtain ⟨s0, e0, e0', _⟩ := DataW.trod_string Tryd.underlying9 h0
    obtain ⟨s1, e1, e1', _⟩ := DataW.trod_string Tryd.underlying9 h1
    have e0 : (cs.drop 0).take (Tryd.prog.cellsOf 9) = [.string s0] := e0
    have e1 : (cs.drop 1).take (Tryd.prog.cellsOf 9) = [.string s1] := e1
    rw [cellsStrM] at e0 e1
    obtain rfl : x0 = _ := e0'
    obtain rfl : x1 = _ := e1'
    simp only [DataW.lit.injEq, Lit.string.injEq] at hxs
    obtain ⟨rfl, rfl⟩ := hxs
    constructor
    · have := congrArg (·[0]?) e0
      simp only [List.getElem?_take, List.getElem?_drop] at this
      rw [if_pos (by decide)] at this
      rw [← str_of]
      simpa using this
    · have := congrArg (·[0]?) e1
      simp only [List.getElem?_take, List.getElem?_drop] at this
      rw [if_pos (by decide)] at this
      rw [← str_of]
      simpa using this
theorem marks_of {W : World} {rest : List (String × DataW Unit)} (h : laidMet Tryd.prog (("matricula/xml.marks", markD) :: rest) W) : ∃ cs T fz, All W 0 (.cells cs T fz) ∧ ∀ j, j < 10 → cs[j]? = markCells[j]? := by
  obtain ⟨ps, ⟨g', t', cs, fuel, p, q, hg', ht', hvar, hd, _, _⟩, _⟩ := h
  obtain rfl := Option.some.inj (gMarks.symm.trans hg')
  obtain rfl := Option.some.inj (gMarksT.symm.trans ht')
  have hcell : ∃ T fz, All W 0 (.cells cs T fz) := by
    unfold World.var? at hvar
    rw [gMarks, Option.bind_some] at hvar
    split at hvar
    · rename_i cs' T fz hh
      simp only [Option.some.injEq] at hvar
      exact ⟨T, fz, by rw [← hvar]; exact hh⟩
    · cases hvar
  obtain ⟨T, fz, hh⟩ := hcell
  refine ⟨cs, T, fz, hh, ?_⟩
  have key : ∀ i, i < 5 → cs[i * 2]? = markCells[i * 2]? ∧ cs[i * 2 + 1]? = markCells[i * 2 + 1]? := by
    intro i hi
    obtain ⟨f', d, q', h1, h2⟩ := Lib.array_elem Tryd.underlying111 hd i hi
    rw [cellsPrM] at h2
    have tail : ∀ (a b : List UInt8), d = .agg [.lit (.string a), .lit (.string b)] → cs[i * 2]? = some (str a) ∧ cs[i * 2 + 1]? = some (str b) := by
      rintro a b rfl
      obtain ⟨g0, g1⟩ := pair_cells h2
      simp only [List.getElem?_take, List.getElem?_drop] at g0 g1
      rw [if_pos (by decide)] at g0 g1
      exact ⟨by simpa using g0, by simpa using g1⟩
    match i, hi, h1, tail with
    | 0, _, h1, tail => cases h1; exact tail _ _ rfl
    | 1, _, h1, tail => cases h1; exact tail _ _ rfl
    | 2, _, h1, tail => cases h1; exact tail _ _ rfl
    | 3, _, h1, tail => cases h1; exact tail _ _ rfl
    | 4, _, h1, tail => cases h1; exact tail _ _ rfl
  intro j hj
  have e : j = j / 2 * 2 + j % 2 := by omega
  have h2 := key (j / 2) (by omega)
  rcases Nat.mod_two_eq_zero_or_one j with h | h
  · rw [h] at e; rw [e]; exact h2.1
  · rw [h] at e; rw [e]; exact h2.2
/-- what is asked of a row's list -/
structure Lists (l : List (String × DataW Unit)) : Prop where
  marks : l.filter (fun x => x.1 == "matricula/xml.marks") = [("matricula/xml.marks", markD)]
theorem glob_of {W : World} {l : List (String × DataW Unit)} (hl : Lists l) (h : laidMetH Tryd.prog l W) (hsh : W.ShapedOpen Tryd.prog) : Glob (All W) := by
  constructor
  · obtain ⟨m, hm⟩ := (Tryd.laysM219).s1_3 W hsh
    obtain ⟨cs, T, fz, hh, h2⟩ := cell_inv hm
    exact ⟨cs, T, fz, m, hh, h2⟩
  · have h1 := h.filter (fun x => x.1 == "matricula/xml.marks")
    rw [hl.marks, Go.MakeChecks.laidMetH_plain _ _ _ (by rfl)] at h1
    exact marks_of h1

theorem laidOut : laidOutB Tryd.prog = true := by kernel_rfl
theorem trodAll_below {H : Type} {enc : TypeId × Value → H} {P : Program} (hl : laidOutB P = true) {W W' : World} (hb : Below W.heap.size W W') : ∀ {ts : List TypeId} {vs : List Value} {ds : List (DataW H)} {ps : List MemPlace},
    (ts.all fun t => P.readableRec t && decide (t < P.types.size)) = true → DataW.TrodAll enc P W 0 (fun _ => true) true ts vs ds ps → (∀ x ∈ ps, x.block < W.heap.size) → DataW.TrodAll enc P W' 0 (fun b => decide (b < W.heap.size)) true ts vs ds ps
  | [], [], [], _, _, h, _ => h
  | _ :: _, _ :: _, _ :: _, _, hT, ⟨p, q, h1, h2, e⟩, hs => by
    simp only [List.all_cons, Bool.and_eq_true, decide_eq_true_eq] at hT
    exact ⟨p, q, Below.trod hl hT.1.1 hT.1.2 h1 hb (fun x hx => hs x (by rw [e]; exact List.mem_append_left _ hx)), trodAll_below hl hb hT.2 h2 (fun x hx => hs x (by rw [e]; exact List.mem_append_right _ hx)), e⟩
/-- what a table's datum lays -/
def cellsD : Nat → DataW Unit → List Value
  | 0, _ => []
  | n + 1, .agg l => l.flatMap (cellsD n)
  | _ + 1, .lit (.int k z) => [.int k z]
  | _ + 1, .lit (.string s) => [.string ⟨s.toArray⟩]
  | _, _ => []
def layAt (d : DataW Unit) : Obj → Obj
  | .cells _ t fz => .cells (cellsD 5 d).toArray t fz
  | o => o
/-- A world for the witness: the settled one, the tables holding what their initialisers lay. -/
noncomputable def laidWorld (os : Os) (l : List (String × DataW Unit)) : World :=
  { World.holding Tryd.prog os ⟨#[], #[], []⟩ with heap := l.foldl (fun h x => match Tryd.prog.globalNamed x.1 with | some g => h.modify g (layAt x.2) | none => h) (World.holding Tryd.prog os ⟨#[], #[], []⟩).heap }
theorem noStand (t : TypeId) (ts : Array TypeId) (h : ts.all (fun t => !Tryd.prog.wantsStandIn t) = true) (j : Nat) (ht : ts[j]? = some t) : Tryd.prog.wantsStandIn t = false := by
  have := (Array.all_eq_true'.1 h) t (Array.mem_of_getElem? ht)
  simpa using this
theorem sizes_of {H : Type} {ts us : List TypeId} {ds gs : List (DataW H)} (h : (DataW.weightsEach Tryd.prog (ts ++ us) (ds ++ gs)).all (· ≤ reachBytes) = true) {j : Nat} {t : TypeId} {d : DataW H} (ht : (ts ++ us)[j]? = some t) (hd : (ds ++ gs)[j]? = some d) : Wt Tryd.prog t d :=
  wt_each ht hd (fun n hn => by simpa using List.all_eq_true.1 h n hn)
end Go.Proofs.YtgfbieplidpebaaDoor
/-
  The given statement of RenderSafe: from the walk of RenderSafe to the card.
-/
namespace Go.Proofs.YtgfbieplidpebaaDoor
open Go.ChangeShapes Go.WideShapes Go.ChangeAt Go.RowKit Go.Eng Go.Pct
set_option maxRecDepth 100000
set_option linter.unusedSimpArgs false

theorem renderSafe_lists : Lists Rows.renderSafeRow.laid := by constructor <;> kernel_rfl
theorem renderSafe_contract (H : Type) (enc : TypeId × Value → H) (W : World) (base : Nat) (args : Array Value) (ds gs : List (DataW H)) (before : List MemPlace)
    (hval : ∀ (j : Nat) t v, Tryd.f3.params[j]? = some t → args[j]? = some v → Value.okWide Tryd.prog W .any base t v)
    (hW : DataW.Whole enc Tryd.prog Tryd.f3.params.toList Rows.renderSafeSpec.vars false W args.toList ds gs before)
    (hz : (DataW.weightsEach Tryd.prog (Tryd.f3.params.toList ++ (OpenSpec.ofChange Rows.renderSafeSpec).bare.plain.varTypes Tryd.prog) (ds ++ gs)).all (· ≤ reachBytes) = true) (hL : laidMetH Tryd.prog Rows.renderSafeRow.laid W) (hsh : W.ShapedOpen Tryd.prog) :
    Calls Tryd.prog 3 args W fun e W' => ∃ v, e = .returned v ∧ Rows.renderSafeSpec.post enc Tryd.prog Tryd.f3 false true false false W args v W' := by
  have hW' := hW
  obtain ⟨p, q, hA0, hV, rfl, hfz, hnd⟩ := hW
  have hAk : DataW.TrodAll enc Tryd.prog W 0 (fun _ => true) true Tryd.f3.params.toList args.toList ds p := hA0
  have hA := hAk
  rw [Tryd.params3] at hA hval hz
  obtain ⟨rfl, rfl⟩ := trodVars_none hV
  obtain ⟨v0, vs0, d0, ds0, p0, q0, hargs, rfl, hq0, h0, r0⟩ := trodAll_cons hA
  obtain ⟨v1, vs1, d1, ds1, p1, q1, rfl, rfl, hq1, h1, r1⟩ := trodAll_cons r0
  obtain ⟨rfl, rfl, hqn⟩ := trodAll_nil r1
  obtain rfl : args = #[v0, v1] := by cases args; simp_all
  obtain ⟨s0, rfl, ks0⟩ := arg_str (hval 0 9 v0 rfl rfl) h0 (sizes_of (j := 0) hz rfl rfl)
  obtain ⟨s1, rfl, ks1⟩ := arg_str (hval 1 9 v1 rfl rfl) h1 (sizes_of (j := 1) hz rfl rfl)
  have hG := glob_of (W := W) renderSafe_lists hL hsh
  have walk := safe_ok hG (all_laid W) s0 s1 (Nat.le_trans ks0 (by decide)) (Nat.le_trans ks1 (by decide))
  refine walk.mono fun e W' ⟨he, hg⟩ => ?_
  subst he
  have hb := hg.below
  refine ⟨_, rfl, ⟨_, _, _, [], _, [], hW', trodAll_mk1 (shut_bool Tryd.underlying4 _), trodAll_below laidOut hb (by kernel_rfl) hAk (fun x hx => ?_), rfl, hb.frame _, fun h => by cases h⟩⟩
  have := hW'.lt x (by simpa using hx)
  simpa using this

theorem renderSafe_laid (os : Os) : laidMet Tryd.prog Rows.renderSafeRow.laid ((laidWorld os Rows.renderSafeRow.laid).forCall (fun _ _ => 0) ⟨#[], #[.string ⟨#[]⟩, .string ⟨#[]⟩], []⟩).memory :=
  laidMet_of_run' 8 (by kernel_rfl) (by kernel_rfl)
theorem renderSafe_reads (os : Os) {H : Type} (enc : TypeId × Value → H) : ∃ places, DataW.whole enc Tryd.prog ((laidWorld os Rows.renderSafeRow.laid).forCall (fun _ _ => 0) ⟨#[], #[.string ⟨#[]⟩, .string ⟨#[]⟩], []⟩).memory Tryd.f3.params.toList Rows.renderSafeSpec.vars false (#[Value.string ⟨#[]⟩, Value.string ⟨#[]⟩] : Array Value).toList 8 = some ([.lit (.string []), .lit (.string [])], [], places) :=
  ⟨[], by kernel_rfl⟩
theorem renderSafe_lifted (os : Os) (started : os.Started) (H : Type) (enc : TypeId × Value → H) (F : Stop.Interp) :
    ReturnsInHanded {} Tryd.checked os 3 .any ((OpenSpec.ofChange Rows.renderSafeSpec).preRow enc Tryd.prog Tryd.f3 Rows.renderSafeRow.domain false Rows.renderSafeRow.laid) (((OpenSpec.ofChange Rows.renderSafeSpec).at F).post enc Tryd.prog Tryd.f3 false true false false) := by
  obtain ⟨places, hx⟩ := renderSafe_reads os enc
  refine returnsInHanded_of_row (C := Tryd.checked) (s := OpenSpec.ofChange Rows.renderSafeSpec) own started (by kernel_rfl) Tryd.func3
    (witness_row_at (enc := enc) (C := Tryd.checked) false (laidWorld os Rows.renderSafeRow.laid) #[.string ⟨#[]⟩, .string ⟨#[]⟩] rfl (by kernel_rfl) (by kernel_rfl) (by kernel_rfl)
      (OpenSpec.preRow_of_cond 8 hx (by kernel_rfl) (fun k hk => by cases hk) (by kernel_rfl) (renderSafe_laid os))) ?_
  intro W base args ds gs before hval hW _ _ hz hL hsh _
  exact renderSafe_contract H enc W base args ds gs before hval hW hz hL hsh
theorem renderSafe_said : Rows.RenderSafeSaid :=
  OpenClaim.holds_of_cond 3 Tryd.f3 rfl rfl rfl rfl rfl rfl rfl ⟨rfl, rfl, rfl, rfl, rfl⟩ rfl rfl rfl rfl rfl (by kernel_rfl) Tryd.func3 (by kernel_rfl)
    (of_decide_eq_true (by kernel_rfl)) (by unfold Func.isWrapper; first | (rw [if_pos (by decide +kernel)]; kernel_rfl) | (rw [if_neg (by decide +kernel)]; exact ⟨rfl, rfl⟩))
    (fun os started H enc _ F => by rw [OpenClaim.pre_eq_preRow]; exact renderSafe_lifted os started H enc F)
theorem renderSafe_plain (f : FuncId) (fn : Func) (hf : Tryd.pinned.checked.prog.funcNamed "matricula/matriculalaw24.RenderSafe" = some f) (hfn : Tryd.pinned.checked.prog.funcs[f]? = some fn) :
    false = Tryd.pinned.checked.prog.looks [] ∧ ∀ (j : Nat) t, fn.params[j]? = some t → Tryd.pinned.checked.prog.wantsStandIn t = false := by
  obtain rfl : f = 3 := Option.some.inj ((show Tryd.prog.funcNamed "matricula/matriculalaw24.RenderSafe" = some 3 by kernel_rfl).symm.trans hf) |>.symm
  obtain rfl : fn = Tryd.f3 := (Option.some.inj (Tryd.func3.symm.trans hfn)).symm
  refine ⟨by kernel_rfl, fun j t ht => ?_⟩
  rw [Tryd.params3] at ht
  exact noStand t _ (by kernel_rfl) j ht
/-- The given statement. -/
theorem renderSafe_card : Rows.RenderSafeCardSaid :=
  Claim7.holds_tied_plain_at .later [] _ _ _ _ renderSafe_said (fun _ h => by cases h) (by kernel_rfl) (fun _ h => by cases h) renderSafe_row_tie rfl ⟨rfl, rfl⟩ (by kernel_rfl) rfl renderSafe_plain (by kernel_rfl)
end Go.Proofs.YtgfbieplidpebaaDoor
