/-
  The given statement RenderTellsCardSaidSaid of layer texts: it holds of the given program, for every input that the row speaks of; no further condition.
-/
import Derived.Deep.Slices
import Derived.ChangeSame
import Derived.SizedLaws
import Derived.WideShapes
import Derived.DataReads
import Derived.Test.YtgfbieplidpebaaGreatDoorProg
import Derived.Test.YtgfbieplidpebaaGreatDoorCards
import Derived.Test.YtgfbieplidpebaaGreatDoorTie
import Derived.WalkKit
import Derived.ProofKit
import Derived.OpenShut
import Derived.ReadAgain
import Derived.MakeChecks
import Derived.LaidSub
import Derived.Deep.DeepHandedRow
import Derived.Carry
import Derived.SevenTiedAt
import Derived.Lib.LaidTab
import Derived.Lib.LaidU8
import Derived.Test.YtgfbieplidpebaaGreatDoorJFRndTells1
import Derived.Test.YtgfbieplidpebaaGreatDoorJFRndTells2
import Derived.Test.YtgfbieplidpebaaGreatDoorJFRndTells3
import Derived.Test.YtgfbieplidpebaaGreatDoorJFRndTells4
import Derived.Test.YtgfbieplidpebaaGreatDoorJFRndTells5
/-
  matricularef21.Code, Same; matricularef24.Few, Shown; matricularef05.Texts; matricularef06.Find.
-/
namespace Go.Proofs.YtgfbieplidpebaaGreatDoor
open Go.Eng Go.Pct Go.Xml Go.Cas
set_option maxRecDepth 10000
set_option linter.unusedSimpArgs false
set_option linter.unusedVariables false

variable {M : Ghost} {w0 w : World} {bs : List Nat} {H : List (Nat × Obj)}
theorem rcode_ok (hM : Laid M w) (z : Int) : Calls Tryz.prog 38 #[i64 z] w (RetE w (str (codeE z))) := by
  refine calls_st (l := [i64 z]) hM Tryz.func38 rfl rfl rfl (E0 := [(0, true, i64 z)]) (params_cons rfl (params_nil _)) ?_
  repeat' (first | (first | refine wc_seq ?_ | refine wc_region ?_ | refine wl_nil ?_ | refine wn_seq ?_ | refine wn_blk ?_ | refine wc_skip ?_ | refine wc_block ?_ | refine wc_exit rfl ?_ | (show WL _ _ (_ :: _) _ _ _ _; first | refine yl_v rfl rfl rfl ?_ | refine wl_v rfl rfl rfl (by first  | fail) ?_) | refine wc_ret rfl ?_) | (show WC _ (Code.cond _ _ _) _ _ _ _; (refine wc_cond rfl (fun hc => ?_) (fun hc => ?_) <;> (try (simp only [decide_eq_true_eq, decide_eq_false_iff_not, Bool.and_eq_true, Bool.or_eq_true, Bool.and_eq_false_iff, Bool.or_eq_false_iff, Bool.not_eq_true', Bool.not_eq_false', Int.not_lt, Int.not_le] at hc)) <;> (try (exfalso; first | omega | contradiction)))))
  all_goals exact wr_tmp rfl rfl (by unfold codeE; simp [*] <;> rfl)
theorem txts_ok (hM : Laid M w) {u v : Value} {l m : List (List UInt8)} (hu : SlS M u l) (hv : SlS M v m) : Calls Tryz.prog 59 #[u, v] w (RetE w (.bool (decide (l = m)))) := by
  obtain ⟨a, cap, b, o, cs, T, fz, rfl, h1, h2, h3, h4⟩ := hu.open
  obtain ⟨a', cap', b', o', cs', T', fz', rfl, h1', h2', h3', h4'⟩ := hv.open
  refine calls_st (l := [.slice a l.length cap, .slice a' m.length cap']) hM Tryz.func59 rfl rfl rfl (E0 := [(0, true, .slice a l.length cap), (1, true, .slice a' m.length cap')]) (params_cons rfl (params_cons rfl (params_nil _))) ?_
  repeat' (first | (first | refine wc_seq ?_ | refine wc_region ?_ | refine wl_nil ?_ | refine wn_seq ?_ | refine wn_blk ?_ | refine wc_skip ?_ | refine wc_block ?_ | refine wc_exit rfl ?_ | (show WL _ _ (_ :: _) _ _ _ _; first | refine yl_v rfl rfl rfl ?_ | refine wl_v rfl rfl rfl (by first  | fail) ?_) | refine wc_ret rfl ?_) | (show WC _ (Code.cond _ _ _) _ _ _ _; (refine wc_cond rfl (fun hc => ?_) (fun hc => ?_) <;> (try (simp only [decide_eq_true_eq, decide_eq_false_iff_not, Bool.and_eq_true, Bool.or_eq_true, Bool.and_eq_false_iff, Bool.or_eq_false_iff, Bool.not_eq_true', Bool.not_eq_false', Int.not_lt, Int.not_le] at hc)) <;> (try (exfalso; first | omega | contradiction)))))
  · refine wr_tmp rfl rfl (congrArg Value.bool ?_)
    symm
    rw [decide_eq_false_iff_not]
    rintro rfl; exact hc rfl
  · refine wc_loop (α := { i : Nat // i ≤ l.length ∧ ∀ j, j < i → l.getD j default = m.getD j default }) (fun x => [(0, true, .slice a l.length cap), (1, true, .slice a' m.length cap'), (5, true, i64 (x.1 : Int))]) (fun x => St w [] [] M) (fun x => l.length - x.1) ⟨0, by omega, by intro j hj; omega⟩ (by first | exact Sub.nil _ | (repeat (first | exact Sub.nil _ | refine Sub.cons (by first | rfl | (simp [look]; done)) ?_))) (fun _ h => h) ?_
    rintro ⟨i, hi, hall⟩
    dsimp only
    repeat' (first | (first | refine wc_seq ?_ | refine wc_region ?_ | refine wl_nil ?_ | refine wn_seq ?_ | refine wn_blk ?_ | refine wc_skip ?_ | refine wc_block ?_ | refine wc_exit rfl ?_ | (show WL _ _ (_ :: _) _ _ _ _; first | refine yl_v rfl rfl rfl ?_ | refine wl_v rfl rfl rfl (by first  | fail) ?_) | refine wc_ret rfl ?_) | (show WC _ (Code.cond _ _ _) _ _ _ _; (refine wc_cond rfl (fun hc => ?_) (fun hc => ?_) <;> (try (simp only [decide_eq_true_eq, decide_eq_false_iff_not, Bool.and_eq_true, Bool.or_eq_true, Bool.and_eq_false_iff, Bool.or_eq_false_iff, Bool.not_eq_true', Bool.not_eq_false', Int.not_lt, Int.not_le] at hc)) <;> (try (exfalso; first | omega | contradiction)))))
    · refine wc_weak (E' := [(0, true, .slice a l.length cap), (1, true, .slice a' m.length cap'), (5, true, i64 (i : Int))]) (by first | exact Sub.nil _ | (repeat (first | exact Sub.nil _ | refine Sub.cons (by first | rfl | (simp [look]; done)) ?_))) (fun _ h => h) ?_
      refine wc_draw 9 (by kernel_rfl) rfl (by kernel_rfl) (fun _ _ h k => h.ext k) ?_
      repeat' (first | (show WD _ _ (_ :: _) _ _ _ _ _ _; first | refine yd_v rfl rfl rfl rfl rfl rfl ?_ | refine wd_v rfl rfl rfl rfl rfl rfl (by first | (show OpV _ _ _ _ (Oper.mk _ (Op.indexAddr _ _ _) _ _ _ _) _ _; first | exact ov_indexAddr rfl rfl (by (fail_if_success (with_reducible show (987654321 : Int) = _)); repeat' (first | with_reducible exact nc_cast | with_reducible exact nc_lit | apply nc_add | apply nc_div | apply nc_mod | apply nc_mul | refine nc_sub (m := _) (n := _) nc_cast nc_lit (by omega) | refine nc_sub (m := _) (n := _) nc_cast nc_cast (by omega))) (by first | with_reducible exact fun _ => rfl | with_reducible exact fun h => h | exact fun _ => rfl | exact fun h => h | (intro himp; simp_all; done)) (by first | with_reducible exact fun _ => rfl | with_reducible exact fun h => h | exact fun _ => rfl | exact fun h => h | (intro himp; simp_all; done)) rfl (by first | exact (rfl : _ = some 1) | exact (rfl : _ = some 2) | exact (rfl : _ = some 3) | exact (rfl : _ = some 4) | exact (rfl : _ = some 6) | exact rfl) (fun hcg => (h3 (by intro h; subst h; simp only [List.length_nil] at *; omega)).1) (by intro hcg; first | omega | (simp at hcg; omega)) | exact ov_indexAddr rfl rfl (by (fail_if_success (with_reducible show (987654321 : Int) = _)); repeat' (first | with_reducible exact nc_cast | with_reducible exact nc_lit | apply nc_add | apply nc_div | apply nc_mod | apply nc_mul | refine nc_sub (m := _) (n := _) nc_cast nc_lit (by omega) | refine nc_sub (m := _) (n := _) nc_cast nc_cast (by omega))) (by first | with_reducible exact fun _ => rfl | with_reducible exact fun h => h | exact fun _ => rfl | exact fun h => h | (intro himp; simp_all; done)) (by first | with_reducible exact fun _ => rfl | with_reducible exact fun h => h | exact fun _ => rfl | exact fun h => h | (intro himp; simp_all; done)) rfl (by first | exact (rfl : _ = some 1) | exact (rfl : _ = some 2) | exact (rfl : _ = some 3) | exact (rfl : _ = some 4) | exact (rfl : _ = some 6) | exact rfl) (fun hcg => (h3' (by intro h; subst h; simp only [List.length_nil] at *; omega)).1) (by intro hcg; first | omega | (simp at hcg; omega))) | (show OpV _ _ _ _ (Oper.mk _ (Op.load _ _) _ _ _ _) _ _; first | exact ov_load1M rfl (by first | with_reducible exact fun _ => rfl | with_reducible exact fun h => h | exact fun _ => rfl | exact fun h => h | (intro himp; simp_all; done)) rfl rfl (fun hcg => (h3 (by intro h; subst h; simp only [List.length_nil] at *; omega)).2) (fun hcg => h4 i (by omega)) | exact ov_load1M rfl (by first | with_reducible exact fun _ => rfl | with_reducible exact fun h => h | exact fun _ => rfl | exact fun h => h | (intro himp; simp_all; done)) rfl rfl (fun hcg => (h3' (by intro h; subst h; simp only [List.length_nil] at *; omega)).2) (fun hcg => h4' i (by omega))) | fail) ?_ | refine yd_new rfl rfl rfl rfl rfl rfl ?_ | refine wd_conv rfl rfl rfl rfl rfl rfl rfl rfl rfl rfl ?_) | (show WD _ _ _ _ _ _ _ _ _; first | refine wd_nil ?_ | refine wd_nilF ?_) | (first | refine wc_seq ?_ | refine wc_region ?_ | refine wl_nil ?_ | refine wn_seq ?_ | refine wn_blk ?_ | refine wc_skip ?_ | refine wc_block ?_ | refine wc_exit rfl ?_ | (show WL _ _ (_ :: _) _ _ _ _; first | refine yl_v rfl rfl rfl ?_ | refine wl_v rfl rfl rfl (by first | (show OpV _ _ _ _ (Oper.mk _ (Op.indexAddr _ _ _) _ _ _ _) _ _; first | exact ov_indexAddr rfl rfl (by (fail_if_success (with_reducible show (987654321 : Int) = _)); repeat' (first | with_reducible exact nc_cast | with_reducible exact nc_lit | apply nc_add | apply nc_div | apply nc_mod | apply nc_mul | refine nc_sub (m := _) (n := _) nc_cast nc_lit (by omega) | refine nc_sub (m := _) (n := _) nc_cast nc_cast (by omega))) (by first | with_reducible exact fun _ => rfl | with_reducible exact fun h => h | exact fun _ => rfl | exact fun h => h | (intro himp; simp_all; done)) (by first | with_reducible exact fun _ => rfl | with_reducible exact fun h => h | exact fun _ => rfl | exact fun h => h | (intro himp; simp_all; done)) rfl (by first | exact (rfl : _ = some 1) | exact (rfl : _ = some 2) | exact (rfl : _ = some 3) | exact (rfl : _ = some 4) | exact (rfl : _ = some 6) | exact rfl) (fun hcg => (h3 (by intro h; subst h; simp only [List.length_nil] at *; omega)).1) (by intro hcg; first | omega | (simp at hcg; omega)) | exact ov_indexAddr rfl rfl (by (fail_if_success (with_reducible show (987654321 : Int) = _)); repeat' (first | with_reducible exact nc_cast | with_reducible exact nc_lit | apply nc_add | apply nc_div | apply nc_mod | apply nc_mul | refine nc_sub (m := _) (n := _) nc_cast nc_lit (by omega) | refine nc_sub (m := _) (n := _) nc_cast nc_cast (by omega))) (by first | with_reducible exact fun _ => rfl | with_reducible exact fun h => h | exact fun _ => rfl | exact fun h => h | (intro himp; simp_all; done)) (by first | with_reducible exact fun _ => rfl | with_reducible exact fun h => h | exact fun _ => rfl | exact fun h => h | (intro himp; simp_all; done)) rfl (by first | exact (rfl : _ = some 1) | exact (rfl : _ = some 2) | exact (rfl : _ = some 3) | exact (rfl : _ = some 4) | exact (rfl : _ = some 6) | exact rfl) (fun hcg => (h3' (by intro h; subst h; simp only [List.length_nil] at *; omega)).1) (by intro hcg; first | omega | (simp at hcg; omega))) | (show OpV _ _ _ _ (Oper.mk _ (Op.load _ _) _ _ _ _) _ _; first | exact ov_load1M rfl (by first | with_reducible exact fun _ => rfl | with_reducible exact fun h => h | exact fun _ => rfl | exact fun h => h | (intro himp; simp_all; done)) rfl rfl (fun hcg => (h3 (by intro h; subst h; simp only [List.length_nil] at *; omega)).2) (fun hcg => h4 i (by omega)) | exact ov_load1M rfl (by first | with_reducible exact fun _ => rfl | with_reducible exact fun h => h | exact fun _ => rfl | exact fun h => h | (intro himp; simp_all; done)) rfl rfl (fun hcg => (h3' (by intro h; subst h; simp only [List.length_nil] at *; omega)).2) (fun hcg => h4' i (by omega))) | fail) ?_) | refine wc_ret rfl ?_))
      repeat' (first | (first | refine wc_seq ?_ | refine wc_region ?_ | refine wl_nil ?_ | refine wn_seq ?_ | refine wn_blk ?_ | refine wc_skip ?_ | refine wc_block ?_ | refine wc_exit rfl ?_ | (show WL _ _ (_ :: _) _ _ _ _; first | refine yl_v rfl rfl rfl ?_ | refine wl_v rfl rfl rfl (by first  | fail) ?_) | refine wc_ret rfl ?_) | (show WC _ (Code.cond _ _ _) _ _ _ _; (refine wc_cond rfl (fun hc => ?_) (fun hc => ?_) <;> (try (simp only [decide_eq_true_eq, decide_eq_false_iff_not, Bool.and_eq_true, Bool.or_eq_true, Bool.and_eq_false_iff, Bool.or_eq_false_iff, Bool.not_eq_true', Bool.not_eq_false', Int.not_lt, Int.not_le] at hc)) <;> (try (exfalso; first | omega | contradiction)))))
      · refine wr_tmp rfl rfl (congrArg Value.bool ?_)
        symm
        rw [decide_eq_false_iff_not]
        rintro rfl
        simp at hc
      · refine wn_cut ⟨i + 1, by omega, ?_⟩ (by show l.length - (i + 1) < l.length - i; omega) (by first | exact Sub.nil _ | (repeat (first | exact Sub.nil _ | refine Sub.cons (by first | rfl | (simp [look]; done)) ?_))) (fun _ h => h)
        intro j hj
        by_cases h : j = i
        · subst h; exact hc
        · exact hall j (by omega)
    · refine wr_tmp rfl rfl (congrArg Value.bool ?_)
      symm
      rw [decide_eq_true_iff]
      apply List.ext_getElem (by omega)
      intro j hj hj'
      have := hall j (by omega)
      simpa [hj, hj'] using this
/-- are two successes one? -/
def sameSu (s t : Suc) : Bool := decide (s.user = t.user) && decide (s.iou = t.iou) && decide (s.attrs = t.attrs) && decide (s.proxies = t.proxies)
theorem sameSu_self (s : Suc) : sameSu s s = true := by simp [sameSu]
theorem rsames_ok (hM : Laid M w) {s t : Suc} {v u : Value} (hs : SucC M s v) (ht : SucC M t u) : Calls Tryz.prog 30 #[v, u] w (RetE w (.bool (sameSu s t))) := by
  obtain ⟨a, l, c, a', l', c', rfl, h1, h2⟩ := hs
  obtain ⟨b, m, d, b', m', d', rfl, g1, g2⟩ := ht
  have hp := fun {w : World} (hw : Laid M w) => pairs_ok hw h1 g1
  have hq := fun {w : World} (hw : Laid M w) => txts_ok hw h2 g2
  unfold sameSu
  generalize decide (s.attrs = t.attrs) = x at *
  generalize decide (s.proxies = t.proxies) = y at *
  refine calls_st (l := [.agg [str s.user, .slice a l c, .slice a' l' c', str s.iou].toArray, .agg [str t.user, .slice b m d, .slice b' m' d', str t.iou].toArray]) hM Tryz.func30 rfl rfl rfl (E0 := [(0, true, .agg [str s.user, .slice a l c, .slice a' l' c', str s.iou].toArray), (1, true, .agg [str t.user, .slice b m d, .slice b' m' d', str t.iou].toArray)]) (params_cons rfl (params_cons rfl (params_nil _))) ?_
  repeat' (first | refine wc_seq ?_ | refine wc_region ?_ | refine wl_nil ?_ | refine wn_seq ?_ | refine wn_blk ?_ | refine wc_skip ?_ | refine wc_block ?_ | refine wc_exit rfl ?_ | (show WL _ _ (_ :: _) _ _ _ _; first | refine yl_v rfl rfl rfl ?_ | refine wl_v rfl rfl rfl (by first | ((show OpV _ _ _ _ (Oper.mk _ (Op.call ⟨.value (.func 31), _, _⟩) _ _ _ _) _ _; exact ov_call Tryz.call31 rfl (by intro himp; first | rfl | (simp_all; done)) (by rfl) (fun _ _ h k => h.ext k) (fun hcg w hw => hp hw.laid))) | ((show OpV _ _ _ _ (Oper.mk _ (Op.call ⟨.value (.func 59), _, _⟩) _ _ _ _) _ _; exact ov_call Tryz.call59 rfl (by intro himp; first | rfl | (simp_all; done)) (by rfl) (fun _ _ h k => h.ext k) (fun hcg w hw => hq hw.laid))) | fail) ?_ | refine xl_box rfl (fun _ => ?_)) | refine wc_ret rfl ?_)
  exact wr_weak (fun _ h => h.drop (List.nil_sublist _)) (wr_tmp rfl rfl rfl)
def fewPr (p : Go.Pct.Pr) : Bool := decide (p.1.length ≤ 80) && decide (p.2.length ≤ 80)
def fewSu (s : Suc) : Bool := s.attrs.all fewPr && s.proxies.all (fun p => decide (p.length ≤ 120)) && (decide (s.user.length ≤ 80) && decide (s.iou.length ≤ 80) && decide (s.attrs.length ≤ 20) && decide (s.proxies.length ≤ 20))
def shwPr (p : Go.Pct.Pr) : Bool := nameB (sCas ++ p.1) && shwB p.2
def shwSu (s : Suc) : Bool := s.attrs.all shwPr && s.proxies.all shwB && (shwB s.user && shwB s.iou)
theorem all_getD {α : Type} [Inhabited α] {l : List α} {p : α → Bool} (h : ∀ j, j < l.length → p (l.getD j default) = true) : l.all p = true := by
  rw [List.all_eq_true]
  intro x hx
  obtain ⟨j, hj, rfl⟩ := List.mem_iff_getElem.1 hx
  have := h j hj
  simpa [hj] using this
theorem all_no {α : Type} [Inhabited α] {l : List α} {p : α → Bool} {i : Nat} (hi : i < l.length) (h : p (l.getD i default) = false) : l.all p = false := by
  rw [List.all_eq_false]
  refine ⟨l[i], List.getElem_mem _, ?_⟩
  have e : l.getD i default = l[i] := by simp [hi]
  rw [← e, h]; simp
/-- so far all are -/
structure AllQ (α : Type) [Inhabited α] (l : List α) (p : α → Bool) where
  i : Nat
  hi : i ≤ l.length
  all : ∀ j, j < i → p (l.getD j default) = true
def AllQ.zero {α : Type} [Inhabited α] {l : List α} {p : α → Bool} : AllQ α l p := ⟨0, Nat.zero_le _, fun j hj => by omega⟩
theorem all_step {α : Type} [Inhabited α] {l : List α} {p : α → Bool} {i : Nat} (h : ∀ j, j < i → p (l.getD j default) = true) (hp : p (l.getD i default) = true) : ∀ j, j < i + 1 → p (l.getD j default) = true := by
  intro j hj
  by_cases e : j = i
  · subst e; exact hp
  · exact h j (by omega)
theorem fews_ok (hM : Laid M w) {s : Suc} {v : Value} (hs : SucC M s v) : Calls Tryz.prog 7 #[v] w (RetE w (.bool (fewSu s))) := by
  obtain ⟨va, vl, vc, va', vl', vc', rfl, hA, hP⟩ := hs
  obtain ⟨a, cap, b, o, cs, T, fz, e1, g1, g2, g3, g4⟩ := hA.open
  obtain ⟨a', cap', b', o', cs', T', fz', e2, f1, f2, f3, f4⟩ := hP.open
  cases e1; cases e2
  refine calls_st (l := [.agg [str s.user, .slice va s.attrs.length vc, .slice va' s.proxies.length vc', str s.iou].toArray]) hM Tryz.func7 rfl rfl rfl (E0 := [(0, true, .agg [str s.user, .slice va s.attrs.length vc, .slice va' s.proxies.length vc', str s.iou].toArray)]) (params_cons rfl (params_nil _)) ?_
  repeat' (first | refine wc_seq ?_ | refine wc_region ?_ | refine wl_nil ?_ | refine wn_seq ?_ | refine wn_blk ?_ | refine wc_skip ?_ | refine wc_block ?_ | refine wc_exit rfl ?_ | (show WL _ _ (_ :: _) _ _ _ _; first | refine yl_v rfl rfl rfl ?_ | refine wl_v rfl rfl rfl (by first  | fail) ?_ | refine xl_box rfl (fun _ => ?_)) | refine wc_ret rfl ?_)
  rename_i b1
  refine wc_loop (α := AllQ _ s.attrs fewPr) (fun x => [(1, true, .pointer (some ⟨b1, 0, none⟩)), (3, true, i64 (x.i : Int))]) (fun x => St w [] [(b1, .cells [str s.user, .slice va s.attrs.length vc, .slice va' s.proxies.length vc', str s.iou].toArray 25 (0, 0))] M) (fun x => s.attrs.length - x.i) AllQ.zero (by first | exact Sub.nil _ | (repeat (first | exact Sub.nil _ | refine Sub.cons (by first | rfl | (simp [look]; done)) ?_))) (fun _ h => h) ?_
  rintro ⟨i, hi, hall⟩
  dsimp only
  rcases Nat.lt_or_ge i s.attrs.length with hlt | hge
  · obtain ⟨rfl, hMb⟩ := g3 (by intro e; rw [e] at hlt; simp at hlt)
    have gi := g4 i hlt
    have hno := fun h => all_no (p := fewPr) hlt h
    have hst := fun h => all_step (p := fewPr) hall h
    unfold fewPr at hno hst
    generalize s.attrs.getD i default = p at *
    repeat' (first | (first | refine wc_seq ?_ | refine wc_region ?_ | refine wl_nil ?_ | refine wn_seq ?_ | refine wn_blk ?_ | refine wc_skip ?_ | refine wc_block ?_ | refine wc_exit rfl ?_ | (show WL _ _ (_ :: _) _ _ _ _; first | refine yl_v rfl rfl rfl ?_ | refine wl_v rfl rfl rfl (by first | (show OpV _ _ _ _ (Oper.mk _ (Op.indexAddr _ _ _) _ _ _ _) _ _; exact ov_indexAddr (i := i) (b := b) (o := o) rfl rfl rfl (by first | with_reducible exact fun _ => rfl | with_reducible exact fun h => h | exact fun _ => rfl | exact fun h => h | (intro himp; simp_all; done)) (by first | with_reducible exact fun _ => rfl | with_reducible exact fun h => h | exact fun _ => rfl | exact fun h => h | (intro himp; simp_all; done)) rfl (by first | exact (rfl : _ = some 1) | exact (rfl : _ = some 2) | exact (rfl : _ = some 3) | exact (rfl : _ = some 4) | exact (rfl : _ = some 6) | exact rfl) (fun _ => rfl) (by intro hcg; first | omega | (simp at hcg; omega))) | (show OpV _ _ _ _ (Oper.mk _ (Op.load _ _) _ _ _ _) _ _; first | exact ov_load1M rfl (by first | with_reducible exact fun _ => rfl | with_reducible exact fun h => h | exact fun _ => rfl | exact fun h => h | (intro himp; simp_all; done)) rfl rfl (fun _ => hMb) (fun _ => gi.1) | exact ov_load1M rfl (by first | with_reducible exact fun _ => rfl | with_reducible exact fun h => h | exact fun _ => rfl | exact fun h => h | (intro himp; simp_all; done)) rfl rfl (fun _ => hMb) (fun _ => gi.2)) | fail) ?_ | refine xl_box rfl (fun _ => ?_)) | refine wc_ret rfl ?_) | (show WC _ (Code.cond _ _ _) _ _ _ _; (refine wc_cond rfl (fun hc => ?_) (fun hc => ?_) <;> (try (simp only [decide_eq_true_eq, decide_eq_false_iff_not, Bool.and_eq_true, Bool.or_eq_true, Bool.and_eq_false_iff, Bool.or_eq_false_iff, Bool.not_eq_true', Bool.not_eq_false', Int.not_lt, Int.not_le] at hc)) <;> (try (exfalso; first | omega | contradiction)))))
    · refine wr_weak (fun _ h => h.drop (List.nil_sublist _)) (wr_tmp rfl rfl (congrArg Value.bool ?_))
      have : (decide (p.1.length ≤ 80) && decide (p.2.length ≤ 80)) = false := by
        rw [Bool.and_eq_false_iff, decide_eq_false_iff_not, decide_eq_false_iff_not]; omega
      unfold fewSu
      rw [show s.attrs.all fewPr = false from hno this]; rfl
    · refine wn_cut ⟨i + 1, by omega, hst (by rw [Bool.and_eq_true, decide_eq_true_eq, decide_eq_true_eq]; omega)⟩ (by show s.attrs.length - (i + 1) < s.attrs.length - i; omega) (by first | exact Sub.nil _ | (repeat (first | exact Sub.nil _ | refine Sub.cons (by first | rfl | (simp [look]; done)) ?_))) (fun _ h => h)
  obtain rfl : i = s.attrs.length := by omega
  have hA1 : s.attrs.all fewPr = true := all_getD hall
  repeat' (first | refine wc_seq ?_ | refine wc_region ?_ | refine wl_nil ?_ | refine wn_seq ?_ | refine wn_blk ?_ | refine wc_skip ?_ | refine wc_block ?_ | refine wc_exit rfl ?_ | (show WL _ _ (_ :: _) _ _ _ _; first | refine yl_v rfl rfl rfl ?_ | refine wl_v rfl rfl rfl (by first  | fail) ?_ | refine xl_box rfl (fun _ => ?_)) | refine wc_ret rfl ?_)
  refine wc_cond rfl (fun hc => by exfalso; simp at hc) (fun hc => ?_)
  repeat' (first | refine wc_seq ?_ | refine wc_region ?_ | refine wl_nil ?_ | refine wn_seq ?_ | refine wn_blk ?_ | refine wc_skip ?_ | refine wc_block ?_ | refine wc_exit rfl ?_ | (show WL _ _ (_ :: _) _ _ _ _; first | refine yl_v rfl rfl rfl ?_ | refine wl_v rfl rfl rfl (by first  | fail) ?_ | refine xl_box rfl (fun _ => ?_)) | refine wc_ret rfl ?_)
  refine wc_loop (α := AllQ _ s.proxies (fun p => decide (p.length ≤ 120))) (fun x => [(1, true, .pointer (some ⟨b1, 0, none⟩)), (4, true, i64 (x.i : Int))]) (fun x => St w [] [(b1, .cells [str s.user, .slice va s.attrs.length vc, .slice va' s.proxies.length vc', str s.iou].toArray 25 (0, 0))] M) (fun x => s.proxies.length - x.i) AllQ.zero (by first | exact Sub.nil _ | (repeat (first | exact Sub.nil _ | refine Sub.cons (by first | rfl | (simp [look]; done)) ?_))) (fun _ h => h) ?_
  rintro ⟨i, hi, hall2⟩
  dsimp only
  rcases Nat.lt_or_ge i s.proxies.length with hlt | hge
  · obtain ⟨rfl, hMb⟩ := f3 (by intro e; rw [e] at hlt; simp at hlt)
    have gi := f4 i hlt
    have hno := fun h => all_no (p := fun p : List UInt8 => decide (p.length ≤ 120)) hlt h
    have hst := fun h => all_step (p := fun p : List UInt8 => decide (p.length ≤ 120)) hall2 h
    generalize s.proxies.getD i default = p at *
    repeat' (first | (first | refine wc_seq ?_ | refine wc_region ?_ | refine wl_nil ?_ | refine wn_seq ?_ | refine wn_blk ?_ | refine wc_skip ?_ | refine wc_block ?_ | refine wc_exit rfl ?_ | (show WL _ _ (_ :: _) _ _ _ _; first | refine yl_v rfl rfl rfl ?_ | refine wl_v rfl rfl rfl (by first | (show OpV _ _ _ _ (Oper.mk _ (Op.indexAddr _ _ _) _ _ _ _) _ _; exact ov_indexAddr (i := i) (b := b') (o := o') rfl rfl rfl (by first | with_reducible exact fun _ => rfl | with_reducible exact fun h => h | exact fun _ => rfl | exact fun h => h | (intro himp; simp_all; done)) (by first | with_reducible exact fun _ => rfl | with_reducible exact fun h => h | exact fun _ => rfl | exact fun h => h | (intro himp; simp_all; done)) rfl (by first | exact (rfl : _ = some 1) | exact (rfl : _ = some 2) | exact (rfl : _ = some 3) | exact (rfl : _ = some 4) | exact (rfl : _ = some 6) | exact rfl) (fun _ => rfl) (by intro hcg; first | omega | (simp at hcg; omega))) | (show OpV _ _ _ _ (Oper.mk _ (Op.load _ _) _ _ _ _) _ _; exact ov_load1M rfl (by first | with_reducible exact fun _ => rfl | with_reducible exact fun h => h | exact fun _ => rfl | exact fun h => h | (intro himp; simp_all; done)) rfl rfl (fun _ => hMb) (fun _ => gi)) | fail) ?_ | refine xl_box rfl (fun _ => ?_)) | refine wc_ret rfl ?_) | (show WC _ (Code.cond _ _ _) _ _ _ _; (refine wc_cond rfl (fun hc => ?_) (fun hc => ?_) <;> (try (simp only [decide_eq_true_eq, decide_eq_false_iff_not, Bool.and_eq_true, Bool.or_eq_true, Bool.and_eq_false_iff, Bool.or_eq_false_iff, Bool.not_eq_true', Bool.not_eq_false', Int.not_lt, Int.not_le] at hc)) <;> (try (exfalso; first | omega | contradiction)))))
    · refine wr_weak (fun _ h => h.drop (List.nil_sublist _)) (wr_tmp rfl rfl (congrArg Value.bool ?_))
      unfold fewSu
      rw [hno (by rw [decide_eq_false_iff_not]; omega)]
      simp
    · refine wn_cut ⟨i + 1, by omega, hst (by rw [decide_eq_true_eq]; omega)⟩ (by show s.proxies.length - (i + 1) < s.proxies.length - i; omega) (by first | exact Sub.nil _ | (repeat (first | exact Sub.nil _ | refine Sub.cons (by first | rfl | (simp [look]; done)) ?_))) (fun _ h => h)
  obtain rfl : i = s.proxies.length := by omega
  have hP1 : s.proxies.all (fun p => decide (p.length ≤ 120)) = true := all_getD hall2
  repeat' (first | refine wc_seq ?_ | refine wc_region ?_ | refine wl_nil ?_ | refine wn_seq ?_ | refine wn_blk ?_ | refine wc_skip ?_ | refine wc_block ?_ | refine wc_exit rfl ?_ | (show WL _ _ (_ :: _) _ _ _ _; first | refine yl_v rfl rfl rfl ?_ | refine wl_v rfl rfl rfl (by first  | fail) ?_ | refine xl_box rfl (fun _ => ?_)) | refine wc_ret rfl ?_)
  refine wc_cond rfl (fun hc => by exfalso; simp at hc) (fun hc => ?_)
  repeat' (first | refine wc_seq ?_ | refine wc_region ?_ | refine wl_nil ?_ | refine wn_seq ?_ | refine wn_blk ?_ | refine wc_skip ?_ | refine wc_block ?_ | refine wc_exit rfl ?_ | (show WL _ _ (_ :: _) _ _ _ _; first | refine yl_v rfl rfl rfl ?_ | refine wl_v rfl rfl rfl (by first  | fail) ?_ | refine xl_box rfl (fun _ => ?_)) | refine wc_ret rfl ?_)
  refine wr_weak (fun _ h => h.drop (List.nil_sublist _)) (wr_tmp rfl rfl (congrArg Value.bool ?_))
  unfold fewSu
  rw [hA1, hP1, Bool.true_and, Bool.true_and]
  have c80 : ∀ n : Nat, decide ((n : Int) ≤ 80) = decide (n ≤ 80) := fun n => decide_eq_decide.2 (by omega)
  have c20 : ∀ n : Nat, decide ((n : Int) ≤ 20) = decide (n ≤ 20) := fun n => decide_eq_decide.2 (by omega)
  simp only [c80, c20]
end Go.Proofs.YtgfbieplidpebaaGreatDoor
/-
  What the document writes: matricularef24.one, written, cas, html, input, Proxy, Form, Page.
-/
namespace Go.Proofs.YtgfbieplidpebaaGreatDoor
open Go.Eng Go.Pct Go.Xml Go.Cas
set_option maxRecDepth 10000
set_option linter.unusedSimpArgs false
set_option linter.unusedVariables false

variable {M : Ghost} {w0 w : World} {bs : List Nat} {H : List (Nat × Obj)}
theorem rwritten_ok (hM : Laid M w) (kind : List UInt8) {D : Nat} {x : Nd} {un a1 l1 c1 ut a2 l2 c2} (hx : NodeC M D x [str un, .slice a1 l1 c1, str ut, .slice a2 l2 c2]) (hlen : (textN x).length ≤ 10000000000000) : Calls Tryz.prog 62 #[str kind, .agg [str un, .slice a1 l1 c1, str ut, .slice a2 l2 c2].toArray] w (RetS M w (fun M' H v => H = [] ∧ RspK M' kind (wr x) v)) := by
  have hwr := fun {w : World} (hw : Laid M w) => rwrite_ok hw hx hlen
  generalize (if rightN x = true then (0 : Int) else 1) = e at *
  refine calls_st (l := [str kind, .agg [str un, .slice a1 l1 c1, str ut, .slice a2 l2 c2].toArray]) hM Tryz.func62 rfl rfl rfl (E0 := [(0, true, str kind), (1, true, .agg [str un, .slice a1 l1 c1, str ut, .slice a2 l2 c2].toArray)]) (params_cons rfl (params_cons rfl (params_nil _))) ?_
  repeat' (first | refine wc_seq ?_ | refine wc_region ?_ | refine wl_nil ?_ | refine wn_seq ?_ | refine wn_blk ?_ | refine wc_skip ?_ | refine wc_block ?_ | refine wc_exit rfl ?_ | (show WL _ _ (_ :: _) _ _ _ _; first | refine yl_v rfl rfl rfl ?_ | refine wl_v rfl rfl rfl (by first | ((show OpV _ _ _ _ (Oper.mk _ (Op.call ⟨.value (.func 74), _, _⟩) _ _ _ _) _ _; exact ov_call Tryz.call74 rfl (by intro himp; first | rfl | (simp_all; done)) (by rfl) (fun _ _ h k => h.ext k) (fun hcg w hw => hwr hw.laid))) | fail) ?_ | refine xl_alloc (fun _ => ?_) | refine xl_box rfl (fun _ => ?_) | refine xl_store rfl rfl ?_ | refine xl_buildSlice rfl (fun _ => ?_)) | refine wc_ret rfl ?_)
  rename_i b1 b2 b3
  exact yr_layC (Hn := [(b3, .cells (cellsP [(sCT, kind)]).toArray 50 (0, 0))]) rfl rfl rfl rfl Since.refl (List.Sublist.cons_cons _ (List.nil_sublist _)) ⟨rfl, _, _, _, rfl, slP_blk (l := [(sCT, kind)]) (.inr (List.Mem.head _)) (by simp)⟩
theorem oneL_ok (hM : Laid M w) (n t v : List UInt8) : Calls Tryz.prog 37 #[str n, str t, str [], str v] w (RetE w (.agg [str n, .slice none 0 0, str t, .slice none 0 0].toArray)) := by
  refine calls_st (l := [str n, str t, str [], str v]) hM Tryz.func37 rfl rfl rfl (E0 := [(0, true, str n), (1, true, str t), (2, true, str []), (3, true, str v)]) (params_cons rfl (params_cons rfl (params_cons rfl (params_cons rfl (params_nil _))))) ?_
  repeat' (first | refine wc_seq ?_ | refine wc_region ?_ | refine wl_nil ?_ | refine wn_seq ?_ | refine wn_blk ?_ | refine wc_skip ?_ | refine wc_block ?_ | refine wc_exit rfl ?_ | (show WL _ _ (_ :: _) _ _ _ _; first | refine yl_v rfl rfl rfl ?_ | refine wl_v rfl rfl rfl (by first  | fail) ?_ | refine xl_alloc (fun _ => ?_) | refine xl_store rfl rfl ?_ | refine xl_buildSlice rfl (fun _ => ?_)) | refine wc_ret rfl ?_)
  refine wc_cond rfl (fun hc => by exfalso; simp at hc) (fun hc => ?_)
  repeat' (first | refine wc_seq ?_ | refine wc_region ?_ | refine wl_nil ?_ | refine wn_seq ?_ | refine wn_blk ?_ | refine wc_skip ?_ | refine wc_block ?_ | refine wc_exit rfl ?_ | (show WL _ _ (_ :: _) _ _ _ _; first | refine yl_v rfl rfl rfl ?_ | refine wl_v rfl rfl rfl (by first  | fail) ?_ | refine xl_alloc (fun _ => ?_) | refine xl_store rfl rfl ?_ | refine xl_buildSlice rfl (fun _ => ?_)) | refine wc_ret rfl ?_)
  exact wr_cell1 rfl rfl rfl (by first | exact List.Mem.head _ | exact List.Mem.tail _ (List.Mem.head _) | exact List.Mem.tail _ (List.Mem.tail _ (List.Mem.head _)) | exact List.Mem.tail _ (List.Mem.tail _ (List.Mem.tail _ (List.Mem.head _))) | exact List.Mem.tail _ (List.Mem.tail _ (List.Mem.tail _ (List.Mem.tail _ (List.Mem.head _)))) | exact List.mem_append_right _ (List.Mem.head _) | exact List.mem_append_right _ (List.Mem.tail _ (List.Mem.head _)) | exact List.mem_append_right _ (List.Mem.tail _ (List.Mem.tail _ (List.Mem.head _))) | exact List.mem_append_right _ (List.Mem.tail _ (List.Mem.tail _ (List.Mem.tail _ (List.Mem.head _)))) | exact List.Mem.tail _ (List.mem_append_right _ (List.Mem.head _)) | exact List.Mem.tail _ (List.mem_append_right _ (List.Mem.tail _ (List.Mem.head _))) | exact List.Mem.tail _ (List.mem_append_right _ (List.Mem.tail _ (List.Mem.tail _ (List.Mem.head _)))) | exact List.Mem.tail _ (List.mem_append_right _ (List.Mem.tail _ (List.Mem.tail _ (List.Mem.tail _ (List.Mem.head _))))) | exact List.Mem.tail _ (List.Mem.tail _ (List.mem_append_right _ (List.Mem.head _))) | exact List.Mem.tail _ (List.Mem.tail _ (List.mem_append_right _ (List.Mem.tail _ (List.Mem.head _)))) | exact List.Mem.tail _ (List.Mem.tail _ (List.mem_append_right _ (List.Mem.tail _ (List.Mem.tail _ (List.Mem.head _)))))) rfl rfl
theorem oneA_ok (hM : Laid M w) (n t key v : List UInt8) (hk : key ≠ []) (h1 : n.length ≤ 100000000) (h2 : t.length ≤ 100000000) (h3 : key.length ≤ 100000000) (h4 : v.length ≤ 100000000) : Calls Tryz.prog 37 #[str n, str t, str key, str v] w (RetS M w (fun M' H u => H = [] ∧ NdIs M' 1 (.mk n [(key, v)] t []) u)) := by
  refine calls_st (l := [str n, str t, str key, str v]) hM Tryz.func37 rfl rfl rfl (E0 := [(0, true, str n), (1, true, str t), (2, true, str key), (3, true, str v)]) (params_cons rfl (params_cons rfl (params_cons rfl (params_cons rfl (params_nil _))))) ?_
  repeat' (first | refine wc_seq ?_ | refine wc_region ?_ | refine wl_nil ?_ | refine wn_seq ?_ | refine wn_blk ?_ | refine wc_skip ?_ | refine wc_block ?_ | refine wc_exit rfl ?_ | (show WL _ _ (_ :: _) _ _ _ _; first | refine yl_v rfl rfl rfl ?_ | refine wl_v rfl rfl rfl (by first  | fail) ?_ | refine xl_alloc (fun _ => ?_) | refine xl_store rfl rfl ?_ | refine xl_buildSlice rfl (fun _ => ?_)) | refine wc_ret rfl ?_)
  refine wc_cond rfl (fun hc => ?_) (fun hc => by exfalso; apply hk; simpa using hc)
  repeat' (first | refine wc_seq ?_ | refine wc_region ?_ | refine wl_nil ?_ | refine wn_seq ?_ | refine wn_blk ?_ | refine wc_skip ?_ | refine wc_block ?_ | refine wc_exit rfl ?_ | (show WL _ _ (_ :: _) _ _ _ _; first | refine yl_v rfl rfl rfl ?_ | refine wl_v rfl rfl rfl (by first  | fail) ?_ | refine xl_alloc (fun _ => ?_) | refine xl_store rfl rfl ?_ | refine xl_buildSlice rfl (fun _ => ?_)) | refine wc_ret rfl ?_)
  rename_i b1 b2 b3
  refine yr_layC (Hn := [(b3, .cells (cellsP [(key, v)]).toArray 50 (0, 0))]) rfl rfl rfl rfl Since.refl (List.Sublist.cons_cons _ (List.nil_sublist _)) ⟨rfl, _, _, _, _, _, _, _, _, rfl, node_mk (slP_blk (l := [(key, v)]) (.inr (List.Mem.head _)) (by simp)) sl_nil h1 h2 (fun p hp => ?_)⟩
  simp only [List.mem_cons, List.not_mem_nil, or_false] at hp
  subst hp
  exact ⟨h3, h4⟩
theorem rcas_ok (hM : Laid M w) {D : Nat} {x : Nd} {un a1 l1 c1 ut a2 l2 c2} (hx : NodeC M D x [str un, .slice a1 l1 c1, str ut, .slice a2 l2 c2]) (hlen : (textN x).length ≤ 1000000000000) : Calls Tryz.prog 36 #[.agg [str un, .slice a1 l1 c1, str ut, .slice a2 l2 c2].toArray] w (RetS M w (fun M' H v => H = [] ∧ RspK M' sXml (wr (casN x)) v)) := by
  refine calls_st (l := [.agg [str un, .slice a1 l1 c1, str ut, .slice a2 l2 c2].toArray]) hM Tryz.func36 rfl rfl rfl (E0 := [(0, true, .agg [str un, .slice a1 l1 c1, str ut, .slice a2 l2 c2].toArray)]) (params_cons rfl (params_nil _)) ?_
  repeat' (first | refine wc_seq ?_ | refine wc_region ?_ | refine wl_nil ?_ | refine wn_seq ?_ | refine wn_blk ?_ | refine wc_skip ?_ | refine wc_block ?_ | refine wc_exit rfl ?_ | (show WL _ _ (_ :: _) _ _ _ _; first | refine yl_v rfl rfl rfl ?_ | refine wl_v rfl rfl rfl (by first  | fail) ?_ | refine xl_alloc (fun _ => ?_) | refine xl_box rfl (fun _ => ?_) | refine xl_store rfl rfl ?_ | refine xl_buildSlice rfl (fun _ => ?_)) | refine wc_ret rfl ?_)
  rename_i b1 b2 ba bk
  refine wl_weak (C' := St w [] ([(bk, .cells [str un, .slice a1 l1 c1, str ut, .slice a2 l2 c2].toArray tNd (0, 0)), (ba, .cells (cellsP [(sNs, sSpace)]).toArray 50 (0, 0))] ++ [(b2, .cells [i64 0, .slice none 0 0, str []].toArray 31 (0, 0))]) M) (Eng.Sub.refl _) (fun _ h => h.drop (List.Sublist.cons_cons _ (List.Sublist.cons_cons _ (List.Sublist.cons_cons _ (List.nil_sublist _))))) ?_
  refine wl_publish (fun hn => ?_)
  have hN : NodeC (With M [(bk, .cells [str un, .slice a1 l1 c1, str ut, .slice a2 l2 c2].toArray tNd (0, 0)), (ba, .cells (cellsP [(sNs, sSpace)]).toArray 50 (0, 0))]) (D + 1) (casN x) [str sResp, .slice (some ⟨ba, 0, none⟩) 1 1, str [], .slice (some ⟨bk, 0, none⟩) 1 1] :=
    node_mk (slP_blk (e := 50) (l := [(sNs, sSpace)]) (.inr (List.Mem.tail _ (List.Mem.head _))) (by simp)) (sl_blk (l := [x]) (vss := [[str un, .slice a1 l1 c1, str ut, .slice a2 l2 c2]]) (.inr (List.Mem.head _)) ⟨NodeC.mono (fun _ _ => .inl) hx, trivial⟩ (by simp)) (by decide) (by simp) (fun p hp => by
      simp only [List.mem_cons, List.not_mem_nil, or_false] at hp
      subst hp; decide)
  have hsi := since_new (M0 := M) Since.refl hn
  generalize With M [(bk, .cells [str un, .slice a1 l1 c1, str ut, .slice a2 l2 c2].toArray tNd (0, 0)), (ba, .cells (cellsP [(sNs, sSpace)]).toArray 50 (0, 0))] = M1 at *
  repeat' (first | refine wc_seq ?_ | refine wc_region ?_ | refine wl_nil ?_ | refine wn_seq ?_ | refine wn_blk ?_ | refine wc_skip ?_ | refine wc_block ?_ | refine wc_exit rfl ?_ | (show WL _ _ (_ :: _) _ _ _ _; first | refine yl_v rfl rfl rfl ?_ | refine wl_v rfl rfl rfl (by first  | fail) ?_ | refine xl_alloc (fun _ => ?_) | refine xl_box rfl (fun _ => ?_) | refine xl_store rfl rfl ?_ | refine xl_buildSlice rfl (fun _ => ?_)) | refine wc_ret rfl ?_)
  refine wl_callS rfl Tryz.call62 rfl rfl rfl rfl (fun w hw => rwritten_ok hw.laid sXml hN (by rw [cas_len]; omega)) ?_
  rintro _ H2 M2 hm2 hn2 ⟨rfl, a, l, c, rfl, hS⟩
  repeat' (first | refine wc_seq ?_ | refine wc_region ?_ | refine wl_nil ?_ | refine wn_seq ?_ | refine wn_blk ?_ | refine wc_skip ?_ | refine wc_block ?_ | refine wc_exit rfl ?_ | (show WL _ _ (_ :: _) _ _ _ _; first | refine yl_v rfl rfl rfl ?_ | refine wl_v rfl rfl rfl (by first  | fail) ?_ | refine xl_alloc (fun _ => ?_) | refine xl_box rfl (fun _ => ?_) | refine xl_store rfl rfl ?_ | refine xl_buildSlice rfl (fun _ => ?_)) | refine wc_ret rfl ?_)
  exact yr_layC (Hn := []) rfl rfl rfl rfl (hsi.step hm2 hn2) (List.nil_sublist _) ⟨rfl, _, _, _, rfl, Sl.mono hS (fun _ _ => .inl) (fun _ _ _ h => h)⟩
theorem rhtml_ok (hM : Laid M w) {D : Nat} {k : List Nd} {a : Option Addr} {l c : Nat} (hk : Sl M 4 (NodeC M D) (.slice a l c) k) (hlen : (textL k).length ≤ 1000000000000) : Calls Tryz.prog 47 #[.slice a l c] w (RetS M w (fun M' H v => H = [] ∧ RspK M' sHtmlT (wr (htmlN k)) v)) := by
  refine calls_st (l := [.slice a l c]) hM Tryz.func47 rfl rfl rfl (E0 := [(0, true, .slice a l c)]) (params_cons rfl (params_nil _)) ?_
  repeat' (first | refine wc_seq ?_ | refine wc_region ?_ | refine wl_nil ?_ | refine wn_seq ?_ | refine wn_blk ?_ | refine wc_skip ?_ | refine wc_block ?_ | refine wc_exit rfl ?_ | (show WL _ _ (_ :: _) _ _ _ _; first | refine yl_v rfl rfl rfl ?_ | refine wl_v rfl rfl rfl (by first  | fail) ?_ | refine xl_alloc (fun _ => ?_) | refine xl_store rfl rfl ?_ | refine xl_buildSlice rfl (fun _ => ?_)) | refine wc_ret rfl ?_)
  rename_i b2 b5
  refine wl_publish (H1 := [(b5, .cells [str sBody, .slice none 0 0, str [], .slice a l c].toArray tNd (0, 0))]) (fun hn => ?_)
  have hk1 : Sl (With M [(b5, .cells [str sBody, .slice none 0 0, str [], .slice a l c].toArray tNd (0, 0))]) 4 (NodeC (With M [(b5, .cells [str sBody, .slice none 0 0, str [], .slice a l c].toArray tNd (0, 0))]) D) (.slice a l c) k := Sl.mono hk (fun _ _ => .inl) (fun x vs _ h => NodeC.mono (fun _ _ => .inl) h)
  have hN := wrap_mk (n := sHtml) (sl_blk (l := [wrapN sBody k]) (vss := [[str sBody, .slice none 0 0, str [], .slice a l c]]) (.inr (List.Mem.head _)) ⟨wrap_mk hk1 (by decide), trivial⟩ (by simp)) (by decide)
  have hsi := since_new (M0 := M) Since.refl hn
  clear hk1
  generalize With M [(b5, .cells [str sBody, .slice none 0 0, str [], .slice a l c].toArray tNd (0, 0))] = M1 at *
  repeat' (first | refine wc_seq ?_ | refine wc_region ?_ | refine wl_nil ?_ | refine wn_seq ?_ | refine wn_blk ?_ | refine wc_skip ?_ | refine wc_block ?_ | refine wc_exit rfl ?_ | (show WL _ _ (_ :: _) _ _ _ _; first | refine yl_v rfl rfl rfl ?_ | refine wl_v rfl rfl rfl (by first  | fail) ?_ | refine xl_alloc (fun _ => ?_) | refine xl_store rfl rfl ?_ | refine xl_buildSlice rfl (fun _ => ?_)) | refine wc_ret rfl ?_)
  refine wl_callS rfl Tryz.call62 rfl rfl rfl rfl (fun w hw => rwritten_ok hw.laid sHtmlT (x := htmlN k) hN (by rw [html_len]; omega)) ?_
  rintro _ H2 M2 hm2 hn2 ⟨rfl, a', l', c', rfl, hS⟩
  repeat' (first | refine wc_seq ?_ | refine wc_region ?_ | refine wl_nil ?_ | refine wn_seq ?_ | refine wn_blk ?_ | refine wc_skip ?_ | refine wc_block ?_ | refine wc_exit rfl ?_ | (show WL _ _ (_ :: _) _ _ _ _; first | refine yl_v rfl rfl rfl ?_ | refine wl_v rfl rfl rfl (by first  | fail) ?_ | refine xl_alloc (fun _ => ?_) | refine xl_store rfl rfl ?_ | refine xl_buildSlice rfl (fun _ => ?_)) | refine wc_ret rfl ?_)
  exact yr_layC (Hn := []) rfl rfl rfl rfl (hsi.step hm2 hn2) (List.nil_sublist _) ⟨rfl, _, _, _, rfl, Sl.mono hS (fun _ _ => .inl) (fun _ _ _ h => h)⟩
theorem rinput_ok (hM : Laid M w) (a b : List UInt8) (ha : a.length ≤ 100000000) (hb : b.length ≤ 100000000) : Calls Tryz.prog 46 #[str a, str b] w (RetS M w (fun M' H v => H = [] ∧ NdIs M' 1 (inputN a b) v)) := by
  refine calls_st (l := [str a, str b]) hM Tryz.func46 rfl rfl rfl (E0 := [(0, true, str a), (1, true, str b)]) (params_cons rfl (params_cons rfl (params_nil _))) ?_
  repeat' (first | refine wc_seq ?_ | refine wc_region ?_ | refine wl_nil ?_ | refine wn_seq ?_ | refine wn_blk ?_ | refine wc_skip ?_ | refine wc_block ?_ | refine wc_exit rfl ?_ | (show WL _ _ (_ :: _) _ _ _ _; first | refine yl_v rfl rfl rfl ?_ | refine wl_v rfl rfl rfl (by first  | fail) ?_ | refine xl_alloc (fun _ => ?_) | refine xl_store rfl rfl ?_ | refine xl_buildSlice rfl (fun _ => ?_)) | refine wc_ret rfl ?_)
  rename_i b4 b9
  refine yr_layC (Hn := [(b9, .cells (cellsP [(sName, a), (sValue, b)]).toArray 50 (0, 0))]) rfl rfl rfl rfl Since.refl (List.Sublist.cons_cons _ (List.nil_sublist _)) ⟨rfl, _, _, _, _, _, _, _, _, rfl, node_mk (slP_blk (l := [(sName, a), (sValue, b)]) (.inr (List.Mem.head _)) (by simp)) sl_nil (by decide) (by simp) (fun p hp => ?_)⟩
  simp only [List.mem_cons, List.not_mem_nil, or_false] at hp
  rcases hp with rfl | rfl
  · exact ⟨by show sName.length ≤ _; decide, ha⟩
  · exact ⟨by show sValue.length ≤ _; decide, hb⟩
theorem rPage_ok (hM : Laid M w) (kind s : List UInt8) (hk : kind.length ≤ 1000000) (hs : s.length ≤ 1000000) : Calls Tryz.prog 20 #[str kind, str s] w (RetS M w (fun M' H v => H = [] ∧ RspK M' sHtmlT (wr (pageN kind s)) v)) := by
  refine calls_st (l := [str kind, str s]) hM Tryz.func20 rfl rfl rfl (E0 := [(0, true, str kind), (1, true, str s)]) (params_cons rfl (params_cons rfl (params_nil _))) ?_
  repeat' (first | refine wc_seq ?_ | refine wc_region ?_ | refine wl_nil ?_ | refine wn_seq ?_ | refine wn_blk ?_ | refine wc_skip ?_ | refine wc_block ?_ | refine wc_exit rfl ?_ | (show WL _ _ (_ :: _) _ _ _ _; first | refine yl_v rfl rfl rfl ?_ | refine wl_v rfl rfl rfl (by first  | fail) ?_ | refine xl_alloc (fun _ => ?_) | refine xl_store rfl rfl ?_ | refine xl_buildSlice rfl (fun _ => ?_)) | refine wc_ret rfl ?_)
  refine wl_callS rfl Tryz.call37 rfl rfl rfl rfl (fun w hw => oneA_ok hw.laid sP s sClass kind (by decide) (by decide) (by omega) (by decide) (by omega)) ?_
  rintro _ H1 M1 hm1 hn1 ⟨rfl, n1, p1, q1, r1, t1, p1', q1', r1', rfl, hx1⟩
  repeat' (first | refine wc_seq ?_ | refine wc_region ?_ | refine wl_nil ?_ | refine wn_seq ?_ | refine wn_blk ?_ | refine wc_skip ?_ | refine wc_block ?_ | refine wc_exit rfl ?_ | (show WL _ _ (_ :: _) _ _ _ _; first | refine yl_v rfl rfl rfl ?_ | refine wl_v rfl rfl rfl (by first  | fail) ?_ | refine xl_alloc (fun _ => ?_) | refine xl_store rfl rfl ?_ | refine xl_buildSlice rfl (fun _ => ?_)) | refine wc_ret rfl ?_)
  rename_i b4 bk
  refine wl_publish (H1 := [(bk, .cells [str n1, .slice p1 q1 r1, str t1, .slice p1' q1' r1'].toArray tNd (0, 0))]) (fun hn => ?_)
  have hN := sl_blk (M := With M1 [(bk, .cells [str n1, .slice p1 q1 r1, str t1, .slice p1' q1' r1'].toArray tNd (0, 0))]) (D := 1) (l := [.mk sP [(sClass, kind)] s []]) (vss := [[str n1, .slice p1 q1 r1, str t1, .slice p1' q1' r1']]) (.inr (List.Mem.head _)) ⟨NodeC.mono (fun _ _ => .inl) hx1, trivial⟩ (by simp)
  have hsi := since_new (Since.refl.step hm1 hn1) hn
  generalize With M1 [(bk, .cells [str n1, .slice p1 q1 r1, str t1, .slice p1' q1' r1'].toArray tNd (0, 0))] = M2 at *
  have hpl := pageN_len kind s
  unfold pageN at hpl
  rw [html_len] at hpl
  refine wl_callS rfl Tryz.call47 rfl rfl rfl rfl (fun w hw => rhtml_ok hw.laid hN (by omega)) ?_
  rintro _ H3 M3 hm3 hn3 ⟨rfl, a, l, c, rfl, hS⟩
  repeat' (first | refine wc_seq ?_ | refine wc_region ?_ | refine wl_nil ?_ | refine wn_seq ?_ | refine wn_blk ?_ | refine wc_skip ?_ | refine wc_block ?_ | refine wc_exit rfl ?_ | (show WL _ _ (_ :: _) _ _ _ _; first | refine yl_v rfl rfl rfl ?_ | refine wl_v rfl rfl rfl (by first  | fail) ?_ | refine xl_alloc (fun _ => ?_) | refine xl_store rfl rfl ?_ | refine xl_buildSlice rfl (fun _ => ?_)) | refine wc_ret rfl ?_)
  exact yr_layC (Hn := []) rfl rfl rfl rfl (hsi.step hm3 hn3) (List.nil_sublist _) ⟨rfl, _, _, _, rfl, Sl.mono hS (fun _ _ => .inl) (fun _ _ _ h => h)⟩
theorem rProxy_ok (hM : Laid M w) (pt : List UInt8) (e : Int) (hp : pt.length ≤ 1000000) : Calls Tryz.prog 16 #[str pt, i64 e] w (RetS M w (fun M' H v => H = [] ∧ RspK M' sXml (wr (proxyN pt e)) v)) := by
  have hcl := code_len e
  refine calls_st (l := [str pt, i64 e]) hM Tryz.func16 rfl rfl rfl (E0 := [(0, true, str pt), (1, true, i64 e)]) (params_cons rfl (params_cons rfl (params_nil _))) ?_
  repeat' (first | refine wc_seq ?_ | refine wc_region ?_ | refine wl_nil ?_ | refine wn_seq ?_ | refine wn_blk ?_ | refine wc_skip ?_ | refine wc_block ?_ | refine wc_exit rfl ?_ | (show WL _ _ (_ :: _) _ _ _ _; first | refine yl_v rfl rfl rfl ?_ | refine wl_v rfl rfl rfl (by first  | fail) ?_ | refine xl_alloc (fun _ => ?_) | refine xl_store rfl rfl ?_ | refine xl_buildSlice rfl (fun _ => ?_)) | refine wc_ret rfl ?_)
  refine wc_cond rfl (fun hc => ?_) (fun hc => ?_)
  · have he : ¬ e = 0 := by simpa using hc
    repeat' (first | refine wc_seq ?_ | refine wc_region ?_ | refine wl_nil ?_ | refine wn_seq ?_ | refine wn_blk ?_ | refine wc_skip ?_ | refine wc_block ?_ | refine wc_exit rfl ?_ | (show WL _ _ (_ :: _) _ _ _ _; first | refine yl_v rfl rfl rfl ?_ | refine wl_v rfl rfl rfl (by first | ((show OpV _ _ _ _ (Oper.mk _ (Op.call ⟨.value (.func 38), _, _⟩) _ _ _ _) _ _; exact ov_call Tryz.call38 rfl (by intro himp; first | rfl | (simp_all; done)) (by rfl) (fun _ _ h k => h.ext k) (fun hcg w hw => rcode_ok hw.laid _))) | fail) ?_ | refine xl_alloc (fun _ => ?_) | refine xl_store rfl rfl ?_ | refine xl_buildSlice rfl (fun _ => ?_)) | refine wc_ret rfl ?_)
    refine wl_callS rfl Tryz.call37 rfl rfl rfl rfl (fun w hw => oneA_ok hw.laid sPF sNoPt sCode (codeE e) (by decide) (by decide) (by decide) (by decide) (by omega)) ?_
    rintro _ H1 M1 hm1 hn1 ⟨rfl, n, a1, l1, c1, t, a2, l2, c2, rfl, hx⟩
    have hlen := proxy_len pt e
    unfold proxyN at hlen ⊢
    rw [if_neg he] at hlen ⊢
    rw [cas_len] at hlen
    refine wl_callS rfl Tryz.call36 rfl rfl rfl rfl (fun w hw => rcas_ok hw.laid (x := failN sPF sNoPt (codeE e)) hx (by omega)) ?_
    rintro _ H2 M2 hm2 hn2 ⟨rfl, a, l, c, rfl, hS⟩
    repeat' (first | refine wc_seq ?_ | refine wc_region ?_ | refine wl_nil ?_ | refine wn_seq ?_ | refine wn_blk ?_ | refine wc_skip ?_ | refine wc_block ?_ | refine wc_exit rfl ?_ | (show WL _ _ (_ :: _) _ _ _ _; first | refine yl_v rfl rfl rfl ?_ | refine wl_v rfl rfl rfl (by first  | fail) ?_ | refine xl_alloc (fun _ => ?_) | refine xl_store rfl rfl ?_ | refine xl_buildSlice rfl (fun _ => ?_)) | refine wc_ret rfl ?_)
    exact yr_layC (Hn := []) rfl rfl rfl rfl ((Since.refl.step hm1 hn1).step hm2 hn2) (List.nil_sublist _) ⟨rfl, _, _, _, rfl, Sl.mono hS (fun _ _ => .inl) (fun _ _ _ h => h)⟩
  · have he : e = 0 := by simpa using hc
    repeat' (first | refine wc_seq ?_ | refine wc_region ?_ | refine wl_nil ?_ | refine wn_seq ?_ | refine wn_blk ?_ | refine wc_skip ?_ | refine wc_block ?_ | refine wc_exit rfl ?_ | (show WL _ _ (_ :: _) _ _ _ _; first | refine yl_v rfl rfl rfl ?_ | refine wl_v rfl rfl rfl (by first | ((show OpV _ _ _ _ (Oper.mk _ (Op.call ⟨.value (.func 37), _, _⟩) _ _ _ _) _ _; exact ov_call Tryz.call37 rfl (by intro himp; first | rfl | (simp_all; done)) (by rfl) (fun _ _ h k => h.ext k) (fun hcg w hw => oneL_ok hw.laid _ _ _))) | fail) ?_ | refine xl_alloc (fun _ => ?_) | refine xl_store rfl rfl ?_ | refine xl_buildSlice rfl (fun _ => ?_)) | refine wc_ret rfl ?_)
    rename_i b4 bk
    refine wl_publish (H1 := [(bk, .cells [str sPT, .slice none 0 0, str pt, .slice none 0 0].toArray tNd (0, 0))]) (fun hn => ?_)
    have hN := wrap_mk (n := sPS) (sl_blk (D := 1) (M := With M [(bk, .cells [str sPT, .slice none 0 0, str pt, .slice none 0 0].toArray tNd (0, 0))]) (l := [leafN sPT pt]) (vss := [[str sPT, .slice none 0 0, str pt, .slice none 0 0]]) (.inr (List.Mem.head _)) ⟨leaf_mk (by decide) (by omega), trivial⟩ (by simp)) (by decide)
    have hsi := since_new (M0 := M) Since.refl hn
    generalize With M [(bk, .cells [str sPT, .slice none 0 0, str pt, .slice none 0 0].toArray tNd (0, 0))] = M1 at *
    have hlen := proxy_len pt e
    unfold proxyN at hlen ⊢
    rw [if_pos he] at hlen ⊢
    rw [cas_len] at hlen
    repeat' (first | refine wc_seq ?_ | refine wc_region ?_ | refine wl_nil ?_ | refine wn_seq ?_ | refine wn_blk ?_ | refine wc_skip ?_ | refine wc_block ?_ | refine wc_exit rfl ?_ | (show WL _ _ (_ :: _) _ _ _ _; first | refine yl_v rfl rfl rfl ?_ | refine wl_v rfl rfl rfl (by first  | fail) ?_ | refine xl_alloc (fun _ => ?_) | refine xl_store rfl rfl ?_ | refine xl_buildSlice rfl (fun _ => ?_)) | refine wc_ret rfl ?_)
    refine wl_callS rfl Tryz.call36 rfl rfl rfl rfl (fun w hw => rcas_ok hw.laid hN (by omega)) ?_
    rintro _ H2 M2 hm2 hn2 ⟨rfl, a, l, c, rfl, hS⟩
    repeat' (first | refine wc_seq ?_ | refine wc_region ?_ | refine wl_nil ?_ | refine wn_seq ?_ | refine wn_blk ?_ | refine wc_skip ?_ | refine wc_block ?_ | refine wc_exit rfl ?_ | (show WL _ _ (_ :: _) _ _ _ _; first | refine yl_v rfl rfl rfl ?_ | refine wl_v rfl rfl rfl (by first  | fail) ?_ | refine xl_alloc (fun _ => ?_) | refine xl_store rfl rfl ?_ | refine xl_buildSlice rfl (fun _ => ?_)) | refine wc_ret rfl ?_)
    exact yr_layC (Hn := []) rfl rfl rfl rfl (hsi.step hm2 hn2) (List.nil_sublist _) ⟨rfl, _, _, _, rfl, Sl.mono hS (fun _ _ => .inl) (fun _ _ _ h => h)⟩
end Go.Proofs.YtgfbieplidpebaaGreatDoor
/-
  matricularef24.Form, Answer.
-/
namespace Go.Proofs.YtgfbieplidpebaaGreatDoor
open Go.Eng Go.Pct Go.Xml Go.Cas
set_option maxRecDepth 10000
set_option linter.unusedSimpArgs false
set_option linter.unusedVariables false

variable {M : Ghost} {w0 w : World} {bs : List Nat} {H : List (Nat × Obj)}
set_option maxHeartbeats 1000000 in
theorem rForm_ok (hM : Laid M w) (a b c : List UInt8) (ha : a.length ≤ 1000000) (hb : b.length ≤ 1000000) (hcl : c.length ≤ 1000000) : Calls Tryz.prog 18 #[str a, str b, str c] w (RetS M w (fun M' H v => H = [] ∧ RspK M' sHtmlT (wr (formPN a b c)) v)) := by
  refine calls_st (l := [str a, str b, str c]) hM Tryz.func18 rfl rfl rfl (E0 := [(0, true, str a), (1, true, str b), (2, true, str c)]) (params_cons rfl (params_cons rfl (params_cons rfl (params_nil _)))) ?_
  repeat' (first | refine wc_seq ?_ | refine wc_region ?_ | refine wl_nil ?_ | refine wn_seq ?_ | refine wn_blk ?_ | refine wc_skip ?_ | refine wc_block ?_ | refine wc_exit rfl ?_ | (show WL _ _ (_ :: _) _ _ _ _; first | refine yl_v rfl rfl rfl ?_ | refine wl_v rfl rfl rfl (by first  | fail) ?_ | refine xl_alloc (fun _ => ?_) | refine xl_store rfl rfl ?_ | refine xl_buildSlice rfl (fun _ => ?_)) | refine wc_ret rfl ?_)
  rename_i b6 ba b7
  refine wl_callS rfl Tryz.call46 rfl rfl rfl rfl (fun w hw => rinput_ok hw.laid sLt a (by decide) (by omega)) ?_
  rintro _ H1 M1 hm1 hn1 ⟨rfl, n1, p1, q1, r1, t1, p1', q1', r1', rfl, hx1⟩
  repeat' (first | refine wc_seq ?_ | refine wc_region ?_ | refine wl_nil ?_ | refine wn_seq ?_ | refine wn_blk ?_ | refine wc_skip ?_ | refine wc_block ?_ | refine wc_exit rfl ?_ | (show WL _ _ (_ :: _) _ _ _ _; first | refine yl_v rfl rfl rfl ?_ | refine wl_v rfl rfl rfl (by first  | fail) ?_ | refine xl_alloc (fun _ => ?_) | refine xl_store rfl rfl ?_ | refine xl_buildSlice rfl (fun _ => ?_)) | refine wc_ret rfl ?_)
  refine wl_callS rfl Tryz.call46 rfl rfl rfl rfl (fun w hw => rinput_ok hw.laid sService b (by decide) (by omega)) ?_
  rintro _ H2 M2 hm2 hn2 ⟨rfl, n2, p2, q2, r2, t2, p2', q2', r2', rfl, hx2⟩
  refine wl_callS rfl Tryz.call46 rfl rfl rfl rfl (fun w hw => rinput_ok hw.laid sUn [] (by decide) (by simp)) ?_
  rintro _ H3 M3 hm3 hn3 ⟨rfl, n3, p3, q3, r3, t3, p3', q3', r3', rfl, hx3⟩
  refine wl_callS rfl Tryz.call46 rfl rfl rfl rfl (fun w hw => rinput_ok hw.laid sPw [] (by decide) (by simp)) ?_
  rintro _ H4 M4 hm4 hn4 ⟨rfl, n4, p4, q4, r4, t4, p4', q4', r4', rfl, hx4⟩
  have hsi := (((Since.refl.step hm1 hn1).step hm2 hn2).step hm3 hn3).step hm4 hn4
  have hy3 := NodeC.mono hm4 hx3
  have hy2 := NodeC.mono hm4 (NodeC.mono hm3 hx2)
  have hy1 := NodeC.mono hm4 (NodeC.mono hm3 (NodeC.mono hm2 hx1))
  clear hm1 hn1 hm2 hn2 hm3 hn3 hm4 hn4 hx1 hx2 hx3
  repeat' (first | refine wc_seq ?_ | refine wc_region ?_ | refine wl_nil ?_ | refine wn_seq ?_ | refine wn_blk ?_ | refine wc_skip ?_ | refine wc_block ?_ | refine wc_exit rfl ?_ | (show WL _ _ (_ :: _) _ _ _ _; first | refine yl_v rfl rfl rfl ?_ | refine wl_v rfl rfl rfl (by first  | fail) ?_ | refine xl_alloc (fun _ => ?_) | refine xl_store rfl rfl ?_ | refine xl_buildSlice rfl (fun _ => ?_)) | refine wc_ret rfl ?_)
  rename_i bk bf
  refine wc_weak (E' := [(2, true, str c), (6, true, .pointer (some ⟨b6, 0, none⟩)), (7, true, .pointer (some ⟨b7, 0, none⟩)), (8, true, .slice (some ⟨bf, 0, none⟩) 1 1), (24, true, .bool (!decide (c = [])))]) (by first | exact Sub.nil _ | (repeat (first | exact Sub.nil _ | refine Sub.cons (by first | rfl | (simp [look]; done)) ?_))) (fun _ h => h) ?_
  refine wc_weak (C' := St w [] ([(bf, .cells [str sForm, .slice (some ⟨ba, 0, none⟩) 2 2, str [], .slice (some ⟨bk, 0, none⟩) 4 4].toArray tNd (0, 0)), (bk, .cells [str n1, .slice p1 q1 r1, str t1, .slice p1' q1' r1', str n2, .slice p2 q2 r2, str t2, .slice p2' q2' r2', str n3, .slice p3 q3 r3, str t3, .slice p3' q3' r3', str n4, .slice p4 q4 r4, str t4, .slice p4' q4' r4'].toArray tNd (0, 0)), (ba, .cells (cellsP [(sAction, sLogin), (sMethod, sPost)]).toArray 50 (0, 0))] ++ [(b7, .cells [str sForm, .slice (some ⟨ba, 0, none⟩) 2 2, str [], .slice (some ⟨bk, 0, none⟩) 4 4].toArray tNd (0, 0)), (b6, .cells [i64 0, .slice none 0 0, str []].toArray 31 (0, 0))]) M4) (Eng.Sub.refl _) (fun _ h => h.perm ((((List.Perm.swap _ _ _).cons _).cons _))) ?_
  refine wc_publish (H1 := [(bf, .cells [str sForm, .slice (some ⟨ba, 0, none⟩) 2 2, str [], .slice (some ⟨bk, 0, none⟩) 4 4].toArray tNd (0, 0)), (bk, .cells [str n1, .slice p1 q1 r1, str t1, .slice p1' q1' r1', str n2, .slice p2 q2 r2, str t2, .slice p2' q2' r2', str n3, .slice p3 q3 r3, str t3, .slice p3' q3' r3', str n4, .slice p4 q4 r4, str t4, .slice p4' q4' r4'].toArray tNd (0, 0)), (ba, .cells (cellsP [(sAction, sLogin), (sMethod, sPost)]).toArray 50 (0, 0))]) (fun hn => ?_)
  have hN : NodeC (With M4 [(bf, .cells [str sForm, .slice (some ⟨ba, 0, none⟩) 2 2, str [], .slice (some ⟨bk, 0, none⟩) 4 4].toArray tNd (0, 0)), (bk, .cells [str n1, .slice p1 q1 r1, str t1, .slice p1' q1' r1', str n2, .slice p2 q2 r2, str t2, .slice p2' q2' r2', str n3, .slice p3 q3 r3, str t3, .slice p3' q3' r3', str n4, .slice p4 q4 r4, str t4, .slice p4' q4' r4'].toArray tNd (0, 0)), (ba, .cells (cellsP [(sAction, sLogin), (sMethod, sPost)]).toArray 50 (0, 0))]) 2 (formN a b) [str sForm, .slice (some ⟨ba, 0, none⟩) 2 2, str [], .slice (some ⟨bk, 0, none⟩) 4 4] :=
    node_mk (slP_blk (e := 50) (l := [(sAction, sLogin), (sMethod, sPost)]) (.inr (List.Mem.tail _ (List.Mem.tail _ (List.Mem.head _)))) (by simp)) (sl_blk (l := [inputN sLt a, inputN sService b, inputN sUn [], inputN sPw []]) (vss := [[str n1, .slice p1 q1 r1, str t1, .slice p1' q1' r1'], [str n2, .slice p2 q2 r2, str t2, .slice p2' q2' r2'], [str n3, .slice p3 q3 r3, str t3, .slice p3' q3' r3'], [str n4, .slice p4 q4 r4, str t4, .slice p4' q4' r4']]) (.inr (List.Mem.tail _ (List.Mem.head _))) ⟨NodeC.mono (fun _ _ => .inl) hy1, NodeC.mono (fun _ _ => .inl) hy2, NodeC.mono (fun _ _ => .inl) hy3, NodeC.mono (fun _ _ => .inl) hx4, trivial⟩ (by simp)) (by decide) (by simp) (fun p hp => by
      simp only [List.mem_cons, List.not_mem_nil, or_false] at hp
      rcases hp with rfl | rfl <;> decide)
  have hk := sl_blk (M := With M4 [(bf, .cells [str sForm, .slice (some ⟨ba, 0, none⟩) 2 2, str [], .slice (some ⟨bk, 0, none⟩) 4 4].toArray tNd (0, 0)), (bk, .cells [str n1, .slice p1 q1 r1, str t1, .slice p1' q1' r1', str n2, .slice p2 q2 r2, str t2, .slice p2' q2' r2', str n3, .slice p3 q3 r3, str t3, .slice p3' q3' r3', str n4, .slice p4 q4 r4, str t4, .slice p4' q4' r4'].toArray tNd (0, 0)), (ba, .cells (cellsP [(sAction, sLogin), (sMethod, sPost)]).toArray 50 (0, 0))]) (l := [formN a b]) (vss := [[str sForm, .slice (some ⟨ba, 0, none⟩) 2 2, str [], .slice (some ⟨bk, 0, none⟩) 4 4]]) (.inr (List.Mem.head _)) ⟨hN, trivial⟩ (by simp)
  have hs5 := since_new hsi hn
  clear hsi hy1 hy2 hy3 hx4 hn
  generalize With M4 [(bf, .cells [str sForm, .slice (some ⟨ba, 0, none⟩) 2 2, str [], .slice (some ⟨bk, 0, none⟩) 4 4].toArray tNd (0, 0)), (bk, .cells [str n1, .slice p1 q1 r1, str t1, .slice p1' q1' r1', str n2, .slice p2 q2 r2, str t2, .slice p2' q2' r2', str n3, .slice p3 q3 r3, str t3, .slice p3' q3' r3', str n4, .slice p4 q4 r4, str t4, .slice p4' q4' r4'].toArray tNd (0, 0)), (ba, .cells (cellsP [(sAction, sLogin), (sMethod, sPost)]).toArray 50 (0, 0))] = M5 at *
  have hlen := formP_len a b c
  unfold formPN at hlen ⊢
  rw [html_len] at hlen
  refine wc_cond rfl (fun hc => ?_) (fun hc => ?_)
  · have he : ¬ c = [] := by simpa using hc
    rw [if_neg he] at hlen ⊢
    repeat' (first | refine wc_seq ?_ | refine wc_region ?_ | refine wl_nil ?_ | refine wn_seq ?_ | refine wn_blk ?_ | refine wc_skip ?_ | refine wc_block ?_ | refine wc_exit rfl ?_ | (show WL _ _ (_ :: _) _ _ _ _; first | refine yl_v rfl rfl rfl ?_ | refine wl_v rfl rfl rfl (by first  | fail) ?_ | refine xl_alloc (fun _ => ?_) | refine xl_store rfl rfl ?_ | refine xl_buildSlice rfl (fun _ => ?_)) | refine wc_ret rfl ?_)
    refine wc_draw 4 (by kernel_rfl) rfl (by kernel_rfl) (fun _ _ h k => h.ext k) ?_
    repeat' (first | (show WD _ _ (_ :: _) _ _ _ _ _ _; first | refine yd_v rfl rfl rfl rfl rfl rfl ?_ | refine wd_v rfl rfl rfl rfl rfl rfl (by first | ((show OpV _ _ _ _ (Oper.mk _ (Op.call ⟨.value (.func 37), _, _⟩) _ _ _ _) _ _; exact ov_call Tryz.call37 rfl (by intro himp; first | rfl | (simp_all; done)) (by rfl) (fun _ _ h k => h.ext k) (fun hcg w hw => oneL_ok hw.laid _ _ _))) | fail) ?_ | refine yd_new rfl rfl rfl rfl rfl rfl ?_ | refine wd_conv rfl rfl rfl rfl rfl rfl rfl rfl rfl rfl ?_) | (show WD _ _ _ _ _ _ _ _ _; first | refine wd_nil ?_ | refine wd_nil1 (wl_fresh (fun _ => ?_))) | (first | refine wc_seq ?_ | refine wc_region ?_ | refine wl_nil ?_ | refine wn_seq ?_ | refine wn_blk ?_ | refine wc_skip ?_ | refine wc_block ?_ | refine wc_exit rfl ?_ | (show WL _ _ (_ :: _) _ _ _ _; first | refine yl_v rfl rfl rfl ?_ | refine wl_v rfl rfl rfl (by first | ((show OpV _ _ _ _ (Oper.mk _ (Op.call ⟨.value (.func 37), _, _⟩) _ _ _ _) _ _; exact ov_call Tryz.call37 rfl (by intro himp; first | rfl | (simp_all; done)) (by rfl) (fun _ _ h k => h.ext k) (fun hcg w hw => oneL_ok hw.laid _ _ _))) | fail) ?_ | refine xl_alloc (fun _ => ?_) | refine xl_store rfl rfl ?_ | refine xl_buildSlice rfl (fun _ => ?_)) | refine wc_ret rfl ?_))
    rename_i bg
    refine wl_publish (H1 := [(bg, .cells [str sP, .slice none 0 0, str c, .slice none 0 0, str sForm, .slice (some ⟨ba, 0, none⟩) 2 2, str [], .slice (some ⟨bk, 0, none⟩) 4 4].toArray tNd (0, 0))]) (fun hn => ?_)
    have hk := sl_blk (D := 2) (M := With M5 [(bg, .cells [str sP, .slice none 0 0, str c, .slice none 0 0, str sForm, .slice (some ⟨ba, 0, none⟩) 2 2, str [], .slice (some ⟨bk, 0, none⟩) 4 4].toArray tNd (0, 0))]) (l := [leafN sP c, formN a b]) (vss := [[str sP, .slice none 0 0, str c, .slice none 0 0], [str sForm, .slice (some ⟨ba, 0, none⟩) 2 2, str [], .slice (some ⟨bk, 0, none⟩) 4 4]]) (.inr (List.Mem.head _)) ⟨leaf_mk (by decide) (by omega), NodeC.mono (fun _ _ => .inl) hN, trivial⟩ (by simp)
    have hs6 := since_new hs5 hn
    repeat' (first | refine wc_seq ?_ | refine wc_region ?_ | refine wl_nil ?_ | refine wn_seq ?_ | refine wn_blk ?_ | refine wc_skip ?_ | refine wc_block ?_ | refine wc_exit rfl ?_ | (show WL _ _ (_ :: _) _ _ _ _; first | refine yl_v rfl rfl rfl ?_ | refine wl_v rfl rfl rfl (by first  | fail) ?_ | refine xl_alloc (fun _ => ?_) | refine xl_store rfl rfl ?_ | refine xl_buildSlice rfl (fun _ => ?_)) | refine wc_ret rfl ?_)
    refine wl_callS rfl Tryz.call47 rfl rfl rfl rfl (fun w hw => rhtml_ok hw.laid hk (by omega)) ?_
    rintro _ H7 M7 hm7 hn7 ⟨rfl, a', l', c', rfl, hS⟩
    repeat' (first | refine wc_seq ?_ | refine wc_region ?_ | refine wl_nil ?_ | refine wn_seq ?_ | refine wn_blk ?_ | refine wc_skip ?_ | refine wc_block ?_ | refine wc_exit rfl ?_ | (show WL _ _ (_ :: _) _ _ _ _; first | refine yl_v rfl rfl rfl ?_ | refine wl_v rfl rfl rfl (by first  | fail) ?_ | refine xl_alloc (fun _ => ?_) | refine xl_store rfl rfl ?_ | refine xl_buildSlice rfl (fun _ => ?_)) | refine wc_ret rfl ?_)
    exact yr_layC (Hn := []) rfl rfl rfl rfl (hs6.step hm7 hn7) (List.nil_sublist _) ⟨rfl, _, _, _, rfl, Sl.mono hS (fun _ _ => .inl) (fun _ _ _ h => h)⟩
  · have he : c = [] := by simpa using hc
    rw [if_pos he] at hlen ⊢
    repeat' (first | refine wc_seq ?_ | refine wc_region ?_ | refine wl_nil ?_ | refine wn_seq ?_ | refine wn_blk ?_ | refine wc_skip ?_ | refine wc_block ?_ | refine wc_exit rfl ?_ | (show WL _ _ (_ :: _) _ _ _ _; first | refine yl_v rfl rfl rfl ?_ | refine wl_v rfl rfl rfl (by first  | fail) ?_ | refine xl_alloc (fun _ => ?_) | refine xl_store rfl rfl ?_ | refine xl_buildSlice rfl (fun _ => ?_)) | refine wc_ret rfl ?_)
    refine wl_callS rfl Tryz.call47 rfl rfl rfl rfl (fun w hw => rhtml_ok hw.laid hk (by omega)) ?_
    rintro _ H7 M7 hm7 hn7 ⟨rfl, a', l', c', rfl, hS⟩
    repeat' (first | refine wc_seq ?_ | refine wc_region ?_ | refine wl_nil ?_ | refine wn_seq ?_ | refine wn_blk ?_ | refine wc_skip ?_ | refine wc_block ?_ | refine wc_exit rfl ?_ | (show WL _ _ (_ :: _) _ _ _ _; first | refine yl_v rfl rfl rfl ?_ | refine wl_v rfl rfl rfl (by first  | fail) ?_ | refine xl_alloc (fun _ => ?_) | refine xl_store rfl rfl ?_ | refine xl_buildSlice rfl (fun _ => ?_)) | refine wc_ret rfl ?_)
    exact yr_layC (Hn := []) rfl rfl rfl rfl (hs5.step hm7 hn7) (List.nil_sublist _) ⟨rfl, _, _, _, rfl, Sl.mono hS (fun _ _ => .inl) (fun _ _ _ h => h)⟩
end Go.Proofs.YtgfbieplidpebaaGreatDoor
/-
  matricularef24.Answer.
-/
namespace Go.Proofs.YtgfbieplidpebaaGreatDoor
open Go.Eng Go.Pct Go.Xml Go.Cas
set_option maxRecDepth 10000
set_option linter.unusedSimpArgs false
set_option linter.unusedVariables false

variable {M : Ghost} {w0 w : World} {bs : List Nat} {H : List (Nat × Obj)}
theorem perm_ab {α : Type} {x : α} {A B C : List α} : (A ++ (x :: (B ++ C))).Perm (x :: (A ++ (C ++ B))) := List.perm_middle.trans ((List.perm_append_comm.append_left A).cons x)
theorem sub_ab {α : Type} {x y : α} {A B C : List α} : (x :: (A ++ (C ++ B))).Sublist (x :: (A ++ ((y :: C) ++ B))) := List.Sublist.cons_cons x (List.Sublist.append_left (List.sublist_cons_self y (C ++ B)) A)
set_option maxHeartbeats 2000000 in
theorem rAnswer_ok (hM : Laid M w) (s : Suc) (e : Int) {va vp : Value} (hva : SlP M va s.attrs) (hvp : SlS M vp s.proxies) (hsm : SmS s 100000 100000) (at' : Bool) : Calls Tryz.prog 10 #[.agg [str s.user, va, vp, str s.iou].toArray, i64 e, .bool at'] w (RetS M w (fun M' H v => H = [] ∧ RspK M' sXml (wr (answerN s e at')) v)) := by
  obtain ⟨a, cap, b, o, cs, T, fz, rfl, g1, g2, g3, g4⟩ := hva.open
  obtain ⟨a', cap', b', o', cs', T', fz', rfl, f1, f2, f3, f4⟩ := hvp.open
  have hu1 := hsm.user
  have hu2 := hsm.iou
  have hu3 := hsm.nattrs
  have hu4 := hsm.nprox
  have hcl := code_len e
  have hlen := answer_len hsm e at'
  unfold answerN at hlen ⊢
  rw [cas_len] at hlen
  refine calls_st (l := [.agg [str s.user, .slice a s.attrs.length cap, .slice a' s.proxies.length cap', str s.iou].toArray, i64 e, .bool at']) hM Tryz.func10 rfl rfl rfl (E0 := [(0, true, .agg [str s.user, .slice a s.attrs.length cap, .slice a' s.proxies.length cap', str s.iou].toArray), (1, true, i64 e), (2, true, .bool at')]) (params_cons rfl (params_cons rfl (params_cons rfl (params_nil _)))) ?_
  repeat' (first | refine wc_seq ?_ | refine wc_region ?_ | refine wl_nil ?_ | refine wn_seq ?_ | refine wn_blk ?_ | refine wc_skip ?_ | refine wc_block ?_ | refine wc_exit rfl ?_ | (show WL _ _ (_ :: _) _ _ _ _; first | refine yl_v rfl rfl rfl ?_ | refine wl_v rfl rfl rfl (by first  | fail) ?_ | refine xl_alloc (fun _ => ?_) | refine xl_box rfl (fun _ => ?_) | refine xl_store rfl rfl ?_ | refine xl_buildSlice rfl (fun _ => ?_)) | refine wc_ret rfl ?_)
  rename_i b3 b6
  refine wc_cond rfl (fun hc => ?_) (fun hc => ?_)
  · have he : ¬ e = 0 := by simpa using hc
    rw [if_neg he] at hlen ⊢
    repeat' (first | refine wc_seq ?_ | refine wc_region ?_ | refine wl_nil ?_ | refine wn_seq ?_ | refine wn_blk ?_ | refine wc_skip ?_ | refine wc_block ?_ | refine wc_exit rfl ?_ | (show WL _ _ (_ :: _) _ _ _ _; first | refine yl_v rfl rfl rfl ?_ | refine wl_v rfl rfl rfl (by first | ((show OpV _ _ _ _ (Oper.mk _ (Op.call ⟨.value (.func 38), _, _⟩) _ _ _ _) _ _; exact ov_call Tryz.call38 rfl (by intro himp; first | rfl | (simp_all; done)) (by rfl) (fun _ _ h k => h.ext k) (fun hcg w hw => rcode_ok hw.laid _))) | fail) ?_ | refine xl_alloc (fun _ => ?_) | refine xl_box rfl (fun _ => ?_) | refine xl_store rfl rfl ?_ | refine xl_buildSlice rfl (fun _ => ?_)) | refine wc_ret rfl ?_)
    refine wl_callS rfl Tryz.call37 rfl rfl rfl rfl (fun w hw => oneA_ok hw.laid sAF sNotOk sCode (codeE e) (by decide) (by decide) (by decide) (by decide) (by omega)) ?_
    rintro _ H1 M1 hm1 hn1 ⟨rfl, n, a1, l1, c1, t, a2, l2, c2, rfl, hx⟩
    refine wl_callS rfl Tryz.call36 rfl rfl rfl rfl (fun w hw => rcas_ok hw.laid (x := failN sAF sNotOk (codeE e)) hx (by omega)) ?_
    rintro _ H2 M2 hm2 hn2 ⟨rfl, a, l, c, rfl, hS⟩
    repeat' (first | refine wc_seq ?_ | refine wc_region ?_ | refine wl_nil ?_ | refine wn_seq ?_ | refine wn_blk ?_ | refine wc_skip ?_ | refine wc_block ?_ | refine wc_exit rfl ?_ | (show WL _ _ (_ :: _) _ _ _ _; first | refine yl_v rfl rfl rfl ?_ | refine wl_v rfl rfl rfl (by first  | fail) ?_ | refine xl_alloc (fun _ => ?_) | refine xl_box rfl (fun _ => ?_) | refine xl_store rfl rfl ?_ | refine xl_buildSlice rfl (fun _ => ?_)) | refine wc_ret rfl ?_)
    exact yr_layC (Hn := []) rfl rfl rfl rfl ((Since.refl.step hm1 hn1).step hm2 hn2) (List.nil_sublist _) ⟨rfl, _, _, _, rfl, Sl.mono hS (fun _ _ => .inl) (fun _ _ _ h => h)⟩
  have he : e = 0 := by simpa using hc
  clear hc
  rw [if_pos he] at hlen ⊢
  repeat' (first | refine wc_seq ?_ | refine wc_region ?_ | refine wl_nil ?_ | refine wn_seq ?_ | refine wn_blk ?_ | refine wc_skip ?_ | refine wc_block ?_ | refine wc_exit rfl ?_ | (show WL _ _ (_ :: _) _ _ _ _; first | refine yl_v rfl rfl rfl ?_ | refine wl_v rfl rfl rfl (by first  | fail) ?_ | refine xl_alloc (fun _ => ?_) | refine xl_box rfl (fun _ => ?_) | refine xl_store rfl rfl ?_ | refine xl_buildSlice rfl (fun _ => ?_)) | refine wc_ret rfl ?_)
  rename_i bk b7
  refine wc_weak (E' := [(2, true, .bool at'), (3, true, .pointer (some ⟨b3, 0, none⟩)), (6, true, .pointer (some ⟨b6, 0, none⟩)), (7, true, .pointer (some ⟨b7, 0, none⟩)), (29, true, .bool (at' && decide ((0 : Int) < (s.attrs.length : Int))))]) (C' := St w [] ([(bk, .cells [str sUser, .slice none 0 0, str s.user, .slice none 0 0].toArray tNd (0, 0))] ++ [(b7, .cells [str sSuc, .slice none 0 0, str [], .slice (some ⟨bk, 0, none⟩) 1 1].toArray tNd (0, 0)), (b6, .cells [i64 0, .slice none 0 0, str []].toArray 31 (0, 0)), (b3, .cells [str s.user, .slice a s.attrs.length cap, .slice a' s.proxies.length cap', str s.iou].toArray 25 (0, 0))]) M) (by first | exact Sub.nil _ | (repeat (first | exact Sub.nil _ | refine Sub.cons (by first | rfl | (simp [look]; done)) ?_))) (fun _ h => h.perm (List.Perm.swap _ _ _)) ?_
  have own0 : OwnS tNd 4 (.slice (some ⟨bk, 0, none⟩) 1 1) [(bk, .cells [str sUser, .slice none 0 0, str s.user, .slice none 0 0].toArray tNd (0, 0))] [[str sUser, .slice none 0 0, str s.user, .slice none 0 0]].flatten := OwnS.lit rfl (by decide)
  have all0 : AllN M 2 [leafN sUser s.user] [[str sUser, .slice none 0 0, str s.user, .slice none 0 0]] := ⟨leaf_mk (by decide) (by omega), trivial⟩
  generalize [(bk, Obj.cells [str sUser, Value.slice none 0 0, str s.user, Value.slice none 0 0].toArray tNd (0, 0))] = Hs0 at *
  generalize hvs : [[str sUser, Value.slice none 0 0, str s.user, Value.slice none 0 0]] = vss0 at *
  clear hvs
  refine wc_split (α := SKQ w M ([leafN sUser s.user] ++ k1 s at')) (fun x => [(2, true, .bool at'), (3, true, .pointer (some ⟨b3, 0, none⟩)), (6, true, .pointer (some ⟨b6, 0, none⟩)), (7, true, .pointer (some ⟨b7, 0, none⟩))]) (fun x => St w [] (x.Hs ++ [(b7, .cells [str sSuc, .slice none 0 0, str [], x.v].toArray tNd (0, 0)), (b6, .cells [i64 0, .slice none 0 0, str []].toArray 31 (0, 0)), (b3, .cells [str s.user, .slice a s.attrs.length cap, .slice a' s.proxies.length cap', str s.iou].toArray 25 (0, 0))]) x.M') ?_ ?_
  · refine wc_cond rfl (fun hc => ?_) (fun hc => ?_)
    · obtain ⟨hat, hpos⟩ : at' = true ∧ 0 < s.attrs.length := by simpa using hc
      have hk1 : k1 s at' = [wrapN sAttrs (attrK s.attrs)] := by
        unfold k1
        rw [if_pos ⟨hat, by intro e; rw [e] at hpos; simp at hpos⟩]
      rw [hk1]
      repeat' (first | refine wc_seq ?_ | refine wc_region ?_ | refine wl_nil ?_ | refine wn_seq ?_ | refine wn_blk ?_ | refine wc_skip ?_ | refine wc_block ?_ | refine wc_exit rfl ?_ | (show WL _ _ (_ :: _) _ _ _ _; first | refine yl_v rfl rfl rfl ?_ | refine wl_v rfl rfl rfl (by first  | fail) ?_ | refine xl_alloc (fun _ => ?_) | refine xl_box rfl (fun _ => ?_) | refine xl_store rfl rfl ?_ | refine xl_buildSlice rfl (fun _ => ?_)) | refine wc_ret rfl ?_)
      rename_i b8
      refine wc_loop (α := SLQ M (attrK s.attrs)) (fun x => [(2, true, .bool at'), (3, true, .pointer (some ⟨b3, 0, none⟩)), (6, true, .pointer (some ⟨b6, 0, none⟩)), (7, true, .pointer (some ⟨b7, 0, none⟩)), (8, true, .pointer (some ⟨b8, 0, none⟩)), (9, true, i64 (x.i : Int))]) (fun x => St w [] (x.Hs ++ ([(b8, .cells [str sAttrs, .slice none 0 0, str [], x.v].toArray tNd (0, 0)), (b7, .cells [str sSuc, .slice none 0 0, str [], .slice (some ⟨bk, 0, none⟩) 1 1].toArray tNd (0, 0)), (b6, .cells [i64 0, .slice none 0 0, str []].toArray 31 (0, 0)), (b3, .cells [str s.user, .slice a s.attrs.length cap, .slice a' s.proxies.length cap', str s.iou].toArray 25 (0, 0))] ++ Hs0)) M) (fun x => s.attrs.length - x.i) ⟨0, .slice none 0 0, [], [], Nat.zero_le _, OwnS.nil, trivial⟩ (by first | exact Sub.nil _ | (repeat (first | exact Sub.nil _ | refine Sub.cons (by first | rfl | (simp [look]; done)) ?_))) (fun _ h => h.perm (List.perm_append_comm.cons _)) ?_
      rintro ⟨i, v, Hs, vss, hi, own, all⟩
      dsimp only
      rw [attrK_length] at hi
      have hcl0 : vss.flatten.length = i * 4 := by rw [all.len, List.length_take, attrK_length, Nat.min_eq_left hi]
      obtain ⟨v8, vcap8, rfl⟩ := own.slice (k := i) (by decide) hcl0
      rcases Nat.lt_or_ge i s.attrs.length with hlt | hge
      · have hne : s.attrs ≠ [] := by intro e; rw [e] at hlt; simp at hlt
        obtain ⟨rfl, hMb⟩ := g3 hne
        have hp3 := hsm.attrs (s.attrs.getD i default) (getD_memP hlt)
        have gi := g4 i hlt
        have hat2 := attrK_at hlt
        have hcnt := all.count
        rw [List.length_take, attrK_length] at hcnt
        generalize s.attrs.getD i default = p at *
        repeat' (first | refine wc_seq ?_ | refine wc_region ?_ | refine wl_nil ?_ | refine wn_seq ?_ | refine wn_blk ?_ | refine wc_skip ?_ | refine wc_block ?_ | refine wc_exit rfl ?_ | (show WL _ _ (_ :: _) _ _ _ _; first | refine yl_v rfl rfl rfl ?_ | refine wl_v rfl rfl rfl (by first  | fail) ?_ | refine xl_alloc (fun _ => ?_) | refine xl_box rfl (fun _ => ?_) | refine xl_store rfl rfl ?_ | refine xl_buildSlice rfl (fun _ => ?_)) | refine wc_ret rfl ?_)
        refine wc_cond rfl (fun hc => ?_) (fun hc => by exfalso; simp at hc; omega)
        clear hc
        repeat' (first | refine wc_seq ?_ | refine wc_region ?_ | refine wl_nil ?_ | refine wn_seq ?_ | refine wn_blk ?_ | refine wc_skip ?_ | refine wc_block ?_ | refine wc_exit rfl ?_ | (show WL _ _ (_ :: _) _ _ _ _; first | refine yl_v rfl rfl rfl ?_ | refine wl_v rfl rfl rfl (by first  | fail) ?_ | refine xl_alloc (fun _ => ?_) | refine xl_box rfl (fun _ => ?_) | refine xl_store rfl rfl ?_ | refine xl_buildSlice rfl (fun _ => ?_)) | refine wc_ret rfl ?_)
        refine wc_draw 17 (by kernel_rfl) rfl (by kernel_rfl) (fun _ _ h k => h.ext k) ?_
        repeat' (first | (show WD _ _ (_ :: _) _ _ _ _ _ _; first | refine yd_v rfl rfl rfl rfl rfl rfl ?_ | refine wd_v rfl rfl rfl rfl rfl rfl (by first | (show OpV _ _ _ _ (Oper.mk _ (Op.indexAddr _ _ _) _ _ _ _) _ _; exact ov_indexAddr (i := i) (b := b) (o := o) rfl rfl rfl (by first | with_reducible exact fun _ => rfl | with_reducible exact fun h => h | exact fun _ => rfl | exact fun h => h | (intro himp; simp_all; done)) (by first | with_reducible exact fun _ => rfl | with_reducible exact fun h => h | exact fun _ => rfl | exact fun h => h | (intro himp; simp_all; done)) rfl (by first | exact (rfl : _ = some 1) | exact (rfl : _ = some 2) | exact (rfl : _ = some 3) | exact (rfl : _ = some 4) | exact (rfl : _ = some 6) | exact rfl) (fun _ => rfl) (by intro hcg; first | omega | (simp at hcg; omega))) | (show OpV _ _ _ _ (Oper.mk _ (Op.load _ _) _ _ _ _) _ _; exact ov_load1M rfl (by first | with_reducible exact fun _ => rfl | with_reducible exact fun h => h | exact fun _ => rfl | exact fun h => h | (intro himp; simp_all; done)) rfl rfl (fun _ => hMb) (fun _ => gi.1)) | (show OpV _ _ _ _ (Oper.mk _ (Op.load _ _) _ _ _ _) _ _; exact ov_load1M rfl (by first | with_reducible exact fun _ => rfl | with_reducible exact fun h => h | exact fun _ => rfl | exact fun h => h | (intro himp; simp_all; done)) rfl rfl (fun _ => hMb) (fun _ => gi.2)) | ((show OpV _ _ _ _ (Oper.mk _ (Op.call ⟨.value (.func 37), _, _⟩) _ _ _ _) _ _; exact ov_call Tryz.call37 rfl (by intro himp; first | rfl | (simp_all; done)) (by rfl) (fun _ _ h k => h.ext k) (fun hcg w hw => oneL_ok hw.laid _ _ _))) | fail) ?_ | refine yd_new rfl rfl rfl rfl rfl rfl ?_ | refine wd_conv rfl rfl rfl rfl rfl rfl rfl rfl rfl rfl ?_) | (show WD _ _ _ _ _ _ _ _ _; first | refine wd_nil ?_ | refine wd_nil1 (wl_fresh (fun _ => ?_))) | (first | refine wc_seq ?_ | refine wc_region ?_ | refine wl_nil ?_ | refine wn_seq ?_ | refine wn_blk ?_ | refine wc_skip ?_ | refine wc_block ?_ | refine wc_exit rfl ?_ | (show WL _ _ (_ :: _) _ _ _ _; first | refine yl_v rfl rfl rfl ?_ | refine wl_v rfl rfl rfl (by first | (show OpV _ _ _ _ (Oper.mk _ (Op.indexAddr _ _ _) _ _ _ _) _ _; exact ov_indexAddr (i := i) (b := b) (o := o) rfl rfl rfl (by first | with_reducible exact fun _ => rfl | with_reducible exact fun h => h | exact fun _ => rfl | exact fun h => h | (intro himp; simp_all; done)) (by first | with_reducible exact fun _ => rfl | with_reducible exact fun h => h | exact fun _ => rfl | exact fun h => h | (intro himp; simp_all; done)) rfl (by first | exact (rfl : _ = some 1) | exact (rfl : _ = some 2) | exact (rfl : _ = some 3) | exact (rfl : _ = some 4) | exact (rfl : _ = some 6) | exact rfl) (fun _ => rfl) (by intro hcg; first | omega | (simp at hcg; omega))) | (show OpV _ _ _ _ (Oper.mk _ (Op.load _ _) _ _ _ _) _ _; exact ov_load1M rfl (by first | with_reducible exact fun _ => rfl | with_reducible exact fun h => h | exact fun _ => rfl | exact fun h => h | (intro himp; simp_all; done)) rfl rfl (fun _ => hMb) (fun _ => gi.1)) | (show OpV _ _ _ _ (Oper.mk _ (Op.load _ _) _ _ _ _) _ _; exact ov_load1M rfl (by first | with_reducible exact fun _ => rfl | with_reducible exact fun h => h | exact fun _ => rfl | exact fun h => h | (intro himp; simp_all; done)) rfl rfl (fun _ => hMb) (fun _ => gi.2)) | ((show OpV _ _ _ _ (Oper.mk _ (Op.call ⟨.value (.func 37), _, _⟩) _ _ _ _) _ _; exact ov_call Tryz.call37 rfl (by intro himp; first | rfl | (simp_all; done)) (by rfl) (fun _ _ h k => h.ext k) (fun hcg w hw => oneL_ok hw.laid _ _ _))) | fail) ?_ | refine xl_alloc (fun _ => ?_) | refine xl_box rfl (fun _ => ?_) | refine xl_store rfl rfl ?_ | refine xl_buildSlice rfl (fun _ => ?_)) | refine wc_ret rfl ?_))
        refine wl_append (H0 := ([(b8, .cells [str sAttrs, .slice none 0 0, str [], .slice v8 i vcap8].toArray tNd (0, 0)), (b7, .cells [str sSuc, .slice none 0 0, str [], .slice (some ⟨bk, 0, none⟩) 1 1].toArray tNd (0, 0)), (b6, .cells [i64 0, .slice none 0 0, str []].toArray 31 (0, 0)), (b3, .cells [str s.user, .slice (some ⟨b, o, none⟩) s.attrs.length cap, .slice a' s.proxies.length cap', str s.iou].toArray 25 (0, 0))] ++ Hs0)) rfl own rfl rfl rfl rfl rfl rfl rfl rfl rfl rfl (List.Mem.head _) rfl rfl (List.sublist_cons_self _ _) (by rw [hcnt]; omega) rfl ?_
        intro v' Hs' ho'
        rw [flat_snoc] at ho'
        have hall : AllN M 1 ((attrK s.attrs).take (i + 1)) (vss ++ [[str (sCas ++ p.1), .slice none 0 0, str p.2, .slice none 0 0]]) := by rw [hat2]; exact AllN.app (AllN.one (leaf_mk (by rw [List.length_append]; have : sCas.length = 4 := rfl; omega) (by omega))) all
        obtain ⟨v9, vcap9, rfl⟩ := ho'.slice (k := i + 1) (by decide) (hall.len.trans (by rw [List.length_take, attrK_length, Nat.min_eq_left hlt]))
        repeat' (first | refine wc_seq ?_ | refine wc_region ?_ | refine wl_nil ?_ | refine wn_seq ?_ | refine wn_blk ?_ | refine wc_skip ?_ | refine wc_block ?_ | refine wc_exit rfl ?_ | (show WL _ _ (_ :: _) _ _ _ _; first | refine yl_v rfl rfl rfl ?_ | refine wl_v rfl rfl rfl (by first  | fail) ?_ | refine xl_alloc (fun _ => ?_) | refine xl_box rfl (fun _ => ?_) | refine xl_store rfl rfl ?_ | refine xl_buildSlice rfl (fun _ => ?_)) | refine wc_ret rfl ?_)
        exact wn_cut ⟨i + 1, _, Hs', _, by rw [attrK_length]; omega, ho', hall⟩ (by show s.attrs.length - (i + 1) < s.attrs.length - i; omega) (by first | exact Sub.nil _ | (repeat (first | exact Sub.nil _ | refine Sub.cons (by first | rfl | (simp [look]; done)) ?_))) (fun _ h => h)
      obtain rfl : i = s.attrs.length := by omega
      rw [← attrK_length s.attrs, List.take_length] at all
      repeat' (first | refine wc_seq ?_ | refine wc_region ?_ | refine wl_nil ?_ | refine wn_seq ?_ | refine wn_blk ?_ | refine wc_skip ?_ | refine wc_block ?_ | refine wc_exit rfl ?_ | (show WL _ _ (_ :: _) _ _ _ _; first | refine yl_v rfl rfl rfl ?_ | refine wl_v rfl rfl rfl (by first  | fail) ?_ | refine xl_alloc (fun _ => ?_) | refine xl_box rfl (fun _ => ?_) | refine xl_store rfl rfl ?_ | refine xl_buildSlice rfl (fun _ => ?_)) | refine wc_ret rfl ?_)
      refine wc_cond rfl (fun hc => by exfalso; simp at hc) (fun hc => ?_)
      repeat' (first | refine wc_seq ?_ | refine wc_region ?_ | refine wl_nil ?_ | refine wn_seq ?_ | refine wn_blk ?_ | refine wc_skip ?_ | refine wc_block ?_ | refine wc_exit rfl ?_ | (show WL _ _ (_ :: _) _ _ _ _; first | refine yl_v rfl rfl rfl ?_ | refine wl_v rfl rfl rfl (by first  | fail) ?_ | refine xl_alloc (fun _ => ?_) | refine xl_box rfl (fun _ => ?_) | refine xl_store rfl rfl ?_ | refine xl_buildSlice rfl (fun _ => ?_)) | refine wc_ret rfl ?_)
      rename_i bq
      refine wl_weak (C' := St w [] (Hs ++ ((bq, .cells [str sAttrs, .slice none 0 0, str [], .slice v8 s.attrs.length vcap8].toArray tNd (0, 0)) :: (Hs0 ++ [(b7, .cells [str sSuc, .slice none 0 0, str [], .slice (some ⟨bk, 0, none⟩) 1 1].toArray tNd (0, 0)), (b6, .cells [i64 0, .slice none 0 0, str []].toArray 31 (0, 0)), (b3, .cells [str s.user, .slice a s.attrs.length cap, .slice a' s.proxies.length cap', str s.iou].toArray 25 (0, 0))]))) M) (Eng.Sub.refl _) (fun _ h => (h.drop sub_ab).perm perm_ab) ?_
      refine wl_publish (fun hn => ?_)
      have hsl := AllN.sl (all.mono (M' := With M Hs) (fun _ _ => .inl)) own (fun p hp => .inr hp) (by rw [attrK_length]; omega)
      have all1 := all0.mono (M' := With M Hs) (fun _ _ => .inl)
      have hsi := since_new (M0 := M) Since.refl hn
      have hwn := wrap_mk (n := sAttrs) hsl (by decide)
      generalize With M Hs = M1 at *
      refine wl_append (H0 := [(b7, .cells [str sSuc, .slice none 0 0, str [], .slice (some ⟨bk, 0, none⟩) 1 1].toArray tNd (0, 0)), (b6, .cells [i64 0, .slice none 0 0, str []].toArray 31 (0, 0)), (b3, .cells [str s.user, .slice a s.attrs.length cap, .slice a' s.proxies.length cap', str s.iou].toArray 25 (0, 0))]) rfl own0 rfl rfl rfl rfl rfl rfl rfl rfl rfl rfl (List.Mem.head _) rfl rfl (List.sublist_cons_self _ _) (by rw [all0.count]; show 1 + 1 ≤ _; decide) rfl ?_
      intro v' Hs' ho'
      rw [flat_snoc] at ho'
      have hall := AllN.app (AllN.one (x := wrapN sAttrs (attrK s.attrs)) hwn) all1
      obtain ⟨va2, vcap2, rfl⟩ := ho'.slice (k := 2) (by decide) (hall.len.trans rfl)
      repeat' (first | refine wc_seq ?_ | refine wc_region ?_ | refine wl_nil ?_ | refine wn_seq ?_ | refine wn_blk ?_ | refine wc_skip ?_ | refine wc_block ?_ | refine wc_exit rfl ?_ | (show WL _ _ (_ :: _) _ _ _ _; first | refine yl_v rfl rfl rfl ?_ | refine wl_v rfl rfl rfl (by first  | fail) ?_ | refine xl_alloc (fun _ => ?_) | refine xl_box rfl (fun _ => ?_) | refine xl_store rfl rfl ?_ | refine xl_buildSlice rfl (fun _ => ?_)) | refine wc_ret rfl ?_)
      exact wn_cut ⟨M1, _, Hs', _, ho', hall, hsi⟩ trivial (by first | exact Sub.nil _ | (repeat (first | exact Sub.nil _ | refine Sub.cons (by first | rfl | (simp [look]; done)) ?_))) (fun _ h => h)
    · have hk1 : k1 s at' = [] := by
        unfold k1
        rw [if_neg]
        rintro ⟨h1, h2⟩
        rw [h1] at hc
        exact h2 (by simpa using hc)
      rw [hk1, List.append_nil]
      repeat' (first | refine wc_seq ?_ | refine wc_region ?_ | refine wl_nil ?_ | refine wn_seq ?_ | refine wn_blk ?_ | refine wc_skip ?_ | refine wc_block ?_ | refine wc_exit rfl ?_ | (show WL _ _ (_ :: _) _ _ _ _; first | refine yl_v rfl rfl rfl ?_ | refine wl_v rfl rfl rfl (by first  | fail) ?_ | refine xl_alloc (fun _ => ?_) | refine xl_box rfl (fun _ => ?_) | refine xl_store rfl rfl ?_ | refine xl_buildSlice rfl (fun _ => ?_)) | refine wc_ret rfl ?_)
      exact wn_cut ⟨M, _, Hs0, vss0, own0, all0, Since.refl⟩ trivial (by first | exact Sub.nil _ | (repeat (first | exact Sub.nil _ | refine Sub.cons (by first | rfl | (simp [look]; done)) ?_))) (fun _ h => h)
  rintro ⟨M1, v, Hs0, vss0, own0, all0, si0⟩
  dsimp only
  have hK0 : ([leafN sUser s.user] ++ k1 s at').length ≤ 2 := by unfold k1; split <;> simp
  unfold sucN sucK at hlen ⊢
  generalize [leafN sUser s.user] ++ k1 s at' = K0 at *
  have hcnt0 := all0.count
  obtain ⟨va, vl, vc, rfl⟩ : ∃ va vl vc, v = .slice va vl vc := by
    obtain ⟨va, vc, h⟩ := own0.slice (k := K0.length) (by decide) all0.len
    exact ⟨_, _, _, h⟩
  repeat' (first | refine wc_seq ?_ | refine wc_region ?_ | refine wl_nil ?_ | refine wn_seq ?_ | refine wn_blk ?_ | refine wc_skip ?_ | refine wc_block ?_ | refine wc_exit rfl ?_ | (show WL _ _ (_ :: _) _ _ _ _; first | refine yl_v rfl rfl rfl ?_ | refine wl_v rfl rfl rfl (by first  | fail) ?_ | refine xl_alloc (fun _ => ?_) | refine xl_box rfl (fun _ => ?_) | refine xl_store rfl rfl ?_ | refine xl_buildSlice rfl (fun _ => ?_)) | refine wc_ret rfl ?_)
  refine wc_split (α := SKQ w M (K0 ++ k2 s)) (fun x => [(2, true, .bool at'), (3, true, .pointer (some ⟨b3, 0, none⟩)), (6, true, .pointer (some ⟨b6, 0, none⟩)), (7, true, .pointer (some ⟨b7, 0, none⟩))]) (fun x => St w [] (x.Hs ++ [(b7, .cells [str sSuc, .slice none 0 0, str [], x.v].toArray tNd (0, 0)), (b6, .cells [i64 0, .slice none 0 0, str []].toArray 31 (0, 0)), (b3, .cells [str s.user, .slice a s.attrs.length cap, .slice a' s.proxies.length cap', str s.iou].toArray 25 (0, 0))]) x.M') ?_ ?_
  · refine wc_cond rfl (fun hc => ?_) (fun hc => ?_)
    · have hne : s.iou ≠ [] := by simpa using hc
      have hk2 : k2 s = [leafN sIou s.iou] := by unfold k2; rw [if_pos hne]
      rw [hk2]
      refine wc_draw 6 (by kernel_rfl) rfl (by kernel_rfl) (fun _ _ h k => h.ext k) ?_
      repeat' (first | (show WD _ _ (_ :: _) _ _ _ _ _ _; first | refine yd_v rfl rfl rfl rfl rfl rfl ?_ | refine wd_v rfl rfl rfl rfl rfl rfl (by first | ((show OpV _ _ _ _ (Oper.mk _ (Op.call ⟨.value (.func 37), _, _⟩) _ _ _ _) _ _; exact ov_call Tryz.call37 rfl (by intro himp; first | rfl | (simp_all; done)) (by rfl) (fun _ _ h k => h.ext k) (fun hcg w hw => oneL_ok hw.laid _ _ _))) | fail) ?_ | refine yd_new rfl rfl rfl rfl rfl rfl ?_ | refine wd_conv rfl rfl rfl rfl rfl rfl rfl rfl rfl rfl ?_) | (show WD _ _ _ _ _ _ _ _ _; first | refine wd_nil ?_ | refine wd_nil1 (wl_fresh (fun _ => ?_))) | (first | refine wc_seq ?_ | refine wc_region ?_ | refine wl_nil ?_ | refine wn_seq ?_ | refine wn_blk ?_ | refine wc_skip ?_ | refine wc_block ?_ | refine wc_exit rfl ?_ | (show WL _ _ (_ :: _) _ _ _ _; first | refine yl_v rfl rfl rfl ?_ | refine wl_v rfl rfl rfl (by first | ((show OpV _ _ _ _ (Oper.mk _ (Op.call ⟨.value (.func 37), _, _⟩) _ _ _ _) _ _; exact ov_call Tryz.call37 rfl (by intro himp; first | rfl | (simp_all; done)) (by rfl) (fun _ _ h k => h.ext k) (fun hcg w hw => oneL_ok hw.laid _ _ _))) | fail) ?_ | refine xl_alloc (fun _ => ?_) | refine xl_box rfl (fun _ => ?_) | refine xl_store rfl rfl ?_ | refine xl_buildSlice rfl (fun _ => ?_)) | refine wc_ret rfl ?_))
      refine wl_append (H0 := [(b7, .cells [str sSuc, .slice none 0 0, str [], .slice va vl vc].toArray tNd (0, 0)), (b6, .cells [i64 0, .slice none 0 0, str []].toArray 31 (0, 0)), (b3, .cells [str s.user, .slice a s.attrs.length cap, .slice a' s.proxies.length cap', str s.iou].toArray 25 (0, 0))]) rfl own0 rfl rfl rfl rfl rfl rfl rfl rfl rfl rfl (List.Mem.head _) rfl rfl (List.sublist_cons_self _ _) (by rw [hcnt0]; omega) rfl ?_
      intro v' Hs' ho'
      rw [flat_snoc] at ho'
      have hall := AllN.app (AllN.one (x := leafN sIou s.iou) (leaf_mk (by decide) (by omega))) all0
      obtain ⟨va2, vcap2, rfl⟩ := ho'.slice (k := K0.length + 1) (by decide) (hall.len.trans (by rw [List.length_append]; rfl))
      repeat' (first | refine wc_seq ?_ | refine wc_region ?_ | refine wl_nil ?_ | refine wn_seq ?_ | refine wn_blk ?_ | refine wc_skip ?_ | refine wc_block ?_ | refine wc_exit rfl ?_ | (show WL _ _ (_ :: _) _ _ _ _; first | refine yl_v rfl rfl rfl ?_ | refine wl_v rfl rfl rfl (by first  | fail) ?_ | refine xl_alloc (fun _ => ?_) | refine xl_box rfl (fun _ => ?_) | refine xl_store rfl rfl ?_ | refine xl_buildSlice rfl (fun _ => ?_)) | refine wc_ret rfl ?_)
      exact wn_cut ⟨M1, _, Hs', _, ho', hall, si0⟩ trivial (by first | exact Sub.nil _ | (repeat (first | exact Sub.nil _ | refine Sub.cons (by first | rfl | (simp [look]; done)) ?_))) (fun _ h => h)
    · have he : s.iou = [] := by simpa using hc
      have hk2 : k2 s = [] := by unfold k2; rw [if_neg (by rw [he]; simp)]
      rw [hk2, List.append_nil]
      repeat' (first | refine wc_seq ?_ | refine wc_region ?_ | refine wl_nil ?_ | refine wn_seq ?_ | refine wn_blk ?_ | refine wc_skip ?_ | refine wc_block ?_ | refine wc_exit rfl ?_ | (show WL _ _ (_ :: _) _ _ _ _; first | refine yl_v rfl rfl rfl ?_ | refine wl_v rfl rfl rfl (by first  | fail) ?_ | refine xl_alloc (fun _ => ?_) | refine xl_box rfl (fun _ => ?_) | refine xl_store rfl rfl ?_ | refine xl_buildSlice rfl (fun _ => ?_)) | refine wc_ret rfl ?_)
      exact wn_cut ⟨M1, _, Hs0, vss0, own0, all0, si0⟩ trivial (by first | exact Sub.nil _ | (repeat (first | exact Sub.nil _ | refine Sub.cons (by first | rfl | (simp [look]; done)) ?_))) (fun _ h => h)
  clear own0 all0 si0 hcnt0
  rintro ⟨M2, v, Hs0, vss0, own0, all0, si0⟩
  dsimp only
  have hK1 : (K0 ++ k2 s).length ≤ 3 := by rw [List.length_append]; unfold k2; split <;> simp <;> omega
  generalize K0 ++ k2 s = K1 at *
  have hcnt0 := all0.count
  clear va vl vc
  obtain ⟨va, vl, vc, rfl⟩ : ∃ va vl vc, v = .slice va vl vc := by
    obtain ⟨va, vc, h⟩ := own0.slice (k := K1.length) (by decide) all0.len
    exact ⟨_, _, _, h⟩
  repeat' (first | refine wc_seq ?_ | refine wc_region ?_ | refine wl_nil ?_ | refine wn_seq ?_ | refine wn_blk ?_ | refine wc_skip ?_ | refine wc_block ?_ | refine wc_exit rfl ?_ | (show WL _ _ (_ :: _) _ _ _ _; first | refine yl_v rfl rfl rfl ?_ | refine wl_v rfl rfl rfl (by first  | fail) ?_ | refine xl_alloc (fun _ => ?_) | refine xl_box rfl (fun _ => ?_) | refine xl_store rfl rfl ?_ | refine xl_buildSlice rfl (fun _ => ?_)) | refine wc_ret rfl ?_)
  refine wc_split (α := SKQ w M (K1 ++ k3 s)) (fun x => [(2, true, .bool at'), (3, true, .pointer (some ⟨b3, 0, none⟩)), (6, true, .pointer (some ⟨b6, 0, none⟩)), (7, true, .pointer (some ⟨b7, 0, none⟩))]) (fun x => St w [] (x.Hs ++ [(b7, .cells [str sSuc, .slice none 0 0, str [], x.v].toArray tNd (0, 0)), (b6, .cells [i64 0, .slice none 0 0, str []].toArray 31 (0, 0)), (b3, .cells [str s.user, .slice a s.attrs.length cap, .slice a' s.proxies.length cap', str s.iou].toArray 25 (0, 0))]) x.M') ?_ ?_
  · refine wc_cond rfl (fun hc => ?_) (fun hc => ?_)
    · have hpos : 0 < s.proxies.length := by
        have := of_decide_eq_true hc
        omega
      have hne : s.proxies ≠ [] := by intro e; rw [e] at hpos; simp at hpos
      have hk3 : k3 s = [wrapN sProxies (proxK s.proxies)] := by unfold k3; rw [if_pos hne]
      rw [hk3]
      obtain ⟨rfl, hMb⟩ := f3 hne
      repeat' (first | refine wc_seq ?_ | refine wc_region ?_ | refine wl_nil ?_ | refine wn_seq ?_ | refine wn_blk ?_ | refine wc_skip ?_ | refine wc_block ?_ | refine wc_exit rfl ?_ | (show WL _ _ (_ :: _) _ _ _ _; first | refine yl_v rfl rfl rfl ?_ | refine wl_v rfl rfl rfl (by first  | fail) ?_ | refine xl_alloc (fun _ => ?_) | refine xl_box rfl (fun _ => ?_) | refine xl_store rfl rfl ?_ | refine xl_buildSlice rfl (fun _ => ?_)) | refine wc_ret rfl ?_)
      rename_i b10
      refine wc_loop (α := SLQ M2 (proxK s.proxies)) (fun x => [(2, true, .bool at'), (3, true, .pointer (some ⟨b3, 0, none⟩)), (6, true, .pointer (some ⟨b6, 0, none⟩)), (7, true, .pointer (some ⟨b7, 0, none⟩)), (10, true, .pointer (some ⟨b10, 0, none⟩)), (11, true, i64 (x.i : Int))]) (fun x => St w [] (x.Hs ++ ([(b10, .cells [str sProxies, .slice none 0 0, str [], x.v].toArray tNd (0, 0)), (b7, .cells [str sSuc, .slice none 0 0, str [], .slice va vl vc].toArray tNd (0, 0)), (b6, .cells [i64 0, .slice none 0 0, str []].toArray 31 (0, 0)), (b3, .cells [str s.user, .slice a s.attrs.length cap, .slice (some ⟨b', o', none⟩) s.proxies.length cap', str s.iou].toArray 25 (0, 0))] ++ Hs0)) M2) (fun x => s.proxies.length - x.i) ⟨0, .slice none 0 0, [], [], Nat.zero_le _, OwnS.nil, trivial⟩ (by first | exact Sub.nil _ | (repeat (first | exact Sub.nil _ | refine Sub.cons (by first | rfl | (simp [look]; done)) ?_))) (fun _ h => h.perm (List.perm_append_comm.cons _)) ?_
      rintro ⟨i, v, Hs, vss, hi, own, all⟩
      dsimp only
      rw [proxK_length] at hi
      have hcl0 : vss.flatten.length = i * 4 := by rw [all.len, List.length_take, proxK_length, Nat.min_eq_left hi]
      obtain ⟨v10, vcap10, rfl⟩ := own.slice (k := i) (by decide) hcl0
      rcases Nat.lt_or_ge i s.proxies.length with hlt | hge
      · have hp3 := hsm.prox (s.proxies.getD i default) (getD_memS hlt)
        have gi := f4 i hlt
        have hat2 := proxK_at hlt
        have hcnt := all.count
        rw [List.length_take, proxK_length] at hcnt
        generalize s.proxies.getD i default = p at *
        repeat' (first | refine wc_seq ?_ | refine wc_region ?_ | refine wl_nil ?_ | refine wn_seq ?_ | refine wn_blk ?_ | refine wc_skip ?_ | refine wc_block ?_ | refine wc_exit rfl ?_ | (show WL _ _ (_ :: _) _ _ _ _; first | refine yl_v rfl rfl rfl ?_ | refine wl_v rfl rfl rfl (by first  | fail) ?_ | refine xl_alloc (fun _ => ?_) | refine xl_box rfl (fun _ => ?_) | refine xl_store rfl rfl ?_ | refine xl_buildSlice rfl (fun _ => ?_)) | refine wc_ret rfl ?_)
        refine wc_cond rfl (fun hc => ?_) (fun hc => by exfalso; simp at hc; omega)
        clear hc
        repeat' (first | refine wc_seq ?_ | refine wc_region ?_ | refine wl_nil ?_ | refine wn_seq ?_ | refine wn_blk ?_ | refine wc_skip ?_ | refine wc_block ?_ | refine wc_exit rfl ?_ | (show WL _ _ (_ :: _) _ _ _ _; first | refine yl_v rfl rfl rfl ?_ | refine wl_v rfl rfl rfl (by first  | fail) ?_ | refine xl_alloc (fun _ => ?_) | refine xl_box rfl (fun _ => ?_) | refine xl_store rfl rfl ?_ | refine xl_buildSlice rfl (fun _ => ?_)) | refine wc_ret rfl ?_)
        refine wc_draw 9 (by kernel_rfl) rfl (by kernel_rfl) (fun _ _ h k => h.ext k) ?_
        repeat' (first | (show WD _ _ (_ :: _) _ _ _ _ _ _; first | refine yd_v rfl rfl rfl rfl rfl rfl ?_ | refine wd_v rfl rfl rfl rfl rfl rfl (by first | (show OpV _ _ _ _ (Oper.mk _ (Op.indexAddr _ _ _) _ _ _ _) _ _; exact ov_indexAddr (i := i) (b := b') (o := o') rfl rfl rfl (by first | with_reducible exact fun _ => rfl | with_reducible exact fun h => h | exact fun _ => rfl | exact fun h => h | (intro himp; simp_all; done)) (by first | with_reducible exact fun _ => rfl | with_reducible exact fun h => h | exact fun _ => rfl | exact fun h => h | (intro himp; simp_all; done)) rfl (by first | exact (rfl : _ = some 1) | exact (rfl : _ = some 2) | exact (rfl : _ = some 3) | exact (rfl : _ = some 4) | exact (rfl : _ = some 6) | exact rfl) (fun _ => rfl) (by intro hcg; first | omega | (simp at hcg; omega))) | (show OpV _ _ _ _ (Oper.mk _ (Op.load _ _) _ _ _ _) _ _; exact ov_load1M rfl (by first | with_reducible exact fun _ => rfl | with_reducible exact fun h => h | exact fun _ => rfl | exact fun h => h | (intro himp; simp_all; done)) rfl rfl (fun _ => si0.1 _ _ hMb) (fun _ => gi)) | ((show OpV _ _ _ _ (Oper.mk _ (Op.call ⟨.value (.func 37), _, _⟩) _ _ _ _) _ _; exact ov_call Tryz.call37 rfl (by intro himp; first | rfl | (simp_all; done)) (by rfl) (fun _ _ h k => h.ext k) (fun hcg w hw => oneL_ok hw.laid _ _ _))) | fail) ?_ | refine yd_new rfl rfl rfl rfl rfl rfl ?_ | refine wd_conv rfl rfl rfl rfl rfl rfl rfl rfl rfl rfl ?_) | (show WD _ _ _ _ _ _ _ _ _; first | refine wd_nil ?_ | refine wd_nil1 (wl_fresh (fun _ => ?_))) | (first | refine wc_seq ?_ | refine wc_region ?_ | refine wl_nil ?_ | refine wn_seq ?_ | refine wn_blk ?_ | refine wc_skip ?_ | refine wc_block ?_ | refine wc_exit rfl ?_ | (show WL _ _ (_ :: _) _ _ _ _; first | refine yl_v rfl rfl rfl ?_ | refine wl_v rfl rfl rfl (by first | (show OpV _ _ _ _ (Oper.mk _ (Op.indexAddr _ _ _) _ _ _ _) _ _; exact ov_indexAddr (i := i) (b := b') (o := o') rfl rfl rfl (by first | with_reducible exact fun _ => rfl | with_reducible exact fun h => h | exact fun _ => rfl | exact fun h => h | (intro himp; simp_all; done)) (by first | with_reducible exact fun _ => rfl | with_reducible exact fun h => h | exact fun _ => rfl | exact fun h => h | (intro himp; simp_all; done)) rfl (by first | exact (rfl : _ = some 1) | exact (rfl : _ = some 2) | exact (rfl : _ = some 3) | exact (rfl : _ = some 4) | exact (rfl : _ = some 6) | exact rfl) (fun _ => rfl) (by intro hcg; first | omega | (simp at hcg; omega))) | (show OpV _ _ _ _ (Oper.mk _ (Op.load _ _) _ _ _ _) _ _; exact ov_load1M rfl (by first | with_reducible exact fun _ => rfl | with_reducible exact fun h => h | exact fun _ => rfl | exact fun h => h | (intro himp; simp_all; done)) rfl rfl (fun _ => si0.1 _ _ hMb) (fun _ => gi)) | ((show OpV _ _ _ _ (Oper.mk _ (Op.call ⟨.value (.func 37), _, _⟩) _ _ _ _) _ _; exact ov_call Tryz.call37 rfl (by intro himp; first | rfl | (simp_all; done)) (by rfl) (fun _ _ h k => h.ext k) (fun hcg w hw => oneL_ok hw.laid _ _ _))) | fail) ?_ | refine xl_alloc (fun _ => ?_) | refine xl_box rfl (fun _ => ?_) | refine xl_store rfl rfl ?_ | refine xl_buildSlice rfl (fun _ => ?_)) | refine wc_ret rfl ?_))
        refine wl_append (H0 := ([(b10, .cells [str sProxies, .slice none 0 0, str [], .slice v10 i vcap10].toArray tNd (0, 0)), (b7, .cells [str sSuc, .slice none 0 0, str [], .slice va vl vc].toArray tNd (0, 0)), (b6, .cells [i64 0, .slice none 0 0, str []].toArray 31 (0, 0)), (b3, .cells [str s.user, .slice a s.attrs.length cap, .slice (some ⟨b', o', none⟩) s.proxies.length cap', str s.iou].toArray 25 (0, 0))] ++ Hs0)) rfl own rfl rfl rfl rfl rfl rfl rfl rfl rfl rfl (List.Mem.head _) rfl rfl (List.sublist_cons_self _ _) (by rw [hcnt]; omega) rfl ?_
        intro v' Hs' ho'
        rw [flat_snoc] at ho'
        have hall : AllN M2 1 ((proxK s.proxies).take (i + 1)) (vss ++ [[str sProxy, .slice none 0 0, str p, .slice none 0 0]]) := by rw [hat2]; exact AllN.app (AllN.one (leaf_mk (by decide) (by omega))) all
        obtain ⟨v9, vcap9, rfl⟩ := ho'.slice (k := i + 1) (by decide) (hall.len.trans (by rw [List.length_take, proxK_length, Nat.min_eq_left hlt]))
        repeat' (first | refine wc_seq ?_ | refine wc_region ?_ | refine wl_nil ?_ | refine wn_seq ?_ | refine wn_blk ?_ | refine wc_skip ?_ | refine wc_block ?_ | refine wc_exit rfl ?_ | (show WL _ _ (_ :: _) _ _ _ _; first | refine yl_v rfl rfl rfl ?_ | refine wl_v rfl rfl rfl (by first  | fail) ?_ | refine xl_alloc (fun _ => ?_) | refine xl_box rfl (fun _ => ?_) | refine xl_store rfl rfl ?_ | refine xl_buildSlice rfl (fun _ => ?_)) | refine wc_ret rfl ?_)
        exact wn_cut ⟨i + 1, _, Hs', _, by rw [proxK_length]; omega, ho', hall⟩ (by show s.proxies.length - (i + 1) < s.proxies.length - i; omega) (by first | exact Sub.nil _ | (repeat (first | exact Sub.nil _ | refine Sub.cons (by first | rfl | (simp [look]; done)) ?_))) (fun _ h => h)
      obtain rfl : i = s.proxies.length := by omega
      rw [← proxK_length s.proxies, List.take_length] at all
      repeat' (first | refine wc_seq ?_ | refine wc_region ?_ | refine wl_nil ?_ | refine wn_seq ?_ | refine wn_blk ?_ | refine wc_skip ?_ | refine wc_block ?_ | refine wc_exit rfl ?_ | (show WL _ _ (_ :: _) _ _ _ _; first | refine yl_v rfl rfl rfl ?_ | refine wl_v rfl rfl rfl (by first  | fail) ?_ | refine xl_alloc (fun _ => ?_) | refine xl_box rfl (fun _ => ?_) | refine xl_store rfl rfl ?_ | refine xl_buildSlice rfl (fun _ => ?_)) | refine wc_ret rfl ?_)
      refine wc_cond rfl (fun hc => by exfalso; simp at hc) (fun hc => ?_)
      repeat' (first | refine wc_seq ?_ | refine wc_region ?_ | refine wl_nil ?_ | refine wn_seq ?_ | refine wn_blk ?_ | refine wc_skip ?_ | refine wc_block ?_ | refine wc_exit rfl ?_ | (show WL _ _ (_ :: _) _ _ _ _; first | refine yl_v rfl rfl rfl ?_ | refine wl_v rfl rfl rfl (by first  | fail) ?_ | refine xl_alloc (fun _ => ?_) | refine xl_box rfl (fun _ => ?_) | refine xl_store rfl rfl ?_ | refine xl_buildSlice rfl (fun _ => ?_)) | refine wc_ret rfl ?_)
      rename_i bq
      refine wl_weak (C' := St w [] (Hs ++ ((bq, .cells [str sProxies, .slice none 0 0, str [], .slice v10 s.proxies.length vcap10].toArray tNd (0, 0)) :: (Hs0 ++ [(b7, .cells [str sSuc, .slice none 0 0, str [], .slice va vl vc].toArray tNd (0, 0)), (b6, .cells [i64 0, .slice none 0 0, str []].toArray 31 (0, 0)), (b3, .cells [str s.user, .slice a s.attrs.length cap, .slice (some ⟨b', o', none⟩) s.proxies.length cap', str s.iou].toArray 25 (0, 0))]))) M2) (Eng.Sub.refl _) (fun _ h => (h.drop sub_ab).perm perm_ab) ?_
      refine wl_publish (fun hn => ?_)
      have hsl := AllN.sl (all.mono (M' := With M2 Hs) (fun _ _ => .inl)) own (fun p hp => .inr hp) (by rw [proxK_length]; omega)
      have all1 := all0.mono (M' := With M2 Hs) (fun _ _ => .inl)
      have hsi := since_new si0 hn
      have hwn := wrap_mk (n := sProxies) hsl (by decide)
      generalize With M2 Hs = M3 at *
      refine wl_append (H0 := [(b7, .cells [str sSuc, .slice none 0 0, str [], .slice va vl vc].toArray tNd (0, 0)), (b6, .cells [i64 0, .slice none 0 0, str []].toArray 31 (0, 0)), (b3, .cells [str s.user, .slice a s.attrs.length cap, .slice (some ⟨b', o', none⟩) s.proxies.length cap', str s.iou].toArray 25 (0, 0))]) rfl own0 rfl rfl rfl rfl rfl rfl rfl rfl rfl rfl (List.Mem.head _) rfl rfl (List.sublist_cons_self _ _) (by rw [hcnt0]; omega) rfl ?_
      intro v' Hs' ho'
      rw [flat_snoc] at ho'
      have hall := AllN.app (AllN.one (x := wrapN sProxies (proxK s.proxies)) hwn) all1
      obtain ⟨va2, vcap2, rfl⟩ := ho'.slice (k := K1.length + 1) (by decide) (hall.len.trans (by rw [List.length_append]; rfl))
      repeat' (first | refine wc_seq ?_ | refine wc_region ?_ | refine wl_nil ?_ | refine wn_seq ?_ | refine wn_blk ?_ | refine wc_skip ?_ | refine wc_block ?_ | refine wc_exit rfl ?_ | (show WL _ _ (_ :: _) _ _ _ _; first | refine yl_v rfl rfl rfl ?_ | refine wl_v rfl rfl rfl (by first  | fail) ?_ | refine xl_alloc (fun _ => ?_) | refine xl_box rfl (fun _ => ?_) | refine xl_store rfl rfl ?_ | refine xl_buildSlice rfl (fun _ => ?_)) | refine wc_ret rfl ?_)
      exact wn_cut ⟨M3, _, Hs', _, ho', hall, hsi⟩ trivial (by first | exact Sub.nil _ | (repeat (first | exact Sub.nil _ | refine Sub.cons (by first | rfl | (simp [look]; done)) ?_))) (fun _ h => h)
    · have he : s.proxies = [] := by
        have := of_decide_eq_false hc
        exact List.eq_nil_of_length_eq_zero (by omega)
      have hk3 : k3 s = [] := by unfold k3; rw [if_neg (by rw [he]; simp)]
      rw [hk3, List.append_nil]
      repeat' (first | refine wc_seq ?_ | refine wc_region ?_ | refine wl_nil ?_ | refine wn_seq ?_ | refine wn_blk ?_ | refine wc_skip ?_ | refine wc_block ?_ | refine wc_exit rfl ?_ | (show WL _ _ (_ :: _) _ _ _ _; first | refine yl_v rfl rfl rfl ?_ | refine wl_v rfl rfl rfl (by first  | fail) ?_ | refine xl_alloc (fun _ => ?_) | refine xl_box rfl (fun _ => ?_) | refine xl_store rfl rfl ?_ | refine xl_buildSlice rfl (fun _ => ?_)) | refine wc_ret rfl ?_)
      exact wn_cut ⟨M2, _, Hs0, vss0, own0, all0, si0⟩ trivial (by first | exact Sub.nil _ | (repeat (first | exact Sub.nil _ | refine Sub.cons (by first | rfl | (simp [look]; done)) ?_))) (fun _ h => h)
  clear own0 all0 si0 hcnt0
  rintro ⟨M3, v, Hs0, vss0, own0, all0, si0⟩
  dsimp only
  have hK2 : (K1 ++ k3 s).length ≤ 4 := by rw [List.length_append]; unfold k3; split <;> simp <;> omega
  generalize K1 ++ k3 s = K2 at *
  clear va vl vc
  obtain ⟨va, vl, vc, rfl⟩ : ∃ va vl vc, v = .slice va vl vc := by
    obtain ⟨va, vc, h⟩ := own0.slice (k := K2.length) (by decide) all0.len
    exact ⟨_, _, _, h⟩
  refine wc_publish (fun hn => ?_)
  have hsl := AllN.sl (all0.mono (M' := With M3 Hs0) (fun _ _ => .inl)) own0 (fun p hp => .inr hp) (by omega)
  have hN := wrap_mk (n := sSuc) hsl (by decide)
  have hs4 := since_new si0 hn
  clear hsl own0 all0 si0 hn
  generalize With M3 Hs0 = M4 at *
  repeat' (first | refine wc_seq ?_ | refine wc_region ?_ | refine wl_nil ?_ | refine wn_seq ?_ | refine wn_blk ?_ | refine wc_skip ?_ | refine wc_block ?_ | refine wc_exit rfl ?_ | (show WL _ _ (_ :: _) _ _ _ _; first | refine yl_v rfl rfl rfl ?_ | refine wl_v rfl rfl rfl (by first  | fail) ?_ | refine xl_alloc (fun _ => ?_) | refine xl_box rfl (fun _ => ?_) | refine xl_store rfl rfl ?_ | refine xl_buildSlice rfl (fun _ => ?_)) | refine wc_ret rfl ?_)
  refine wl_callS rfl Tryz.call36 rfl rfl rfl rfl (fun w hw => rcas_ok hw.laid hN (by omega)) ?_
  rintro _ H5 M5 hm5 hn5 ⟨rfl, a5, l5, c5, rfl, hS⟩
  repeat' (first | refine wc_seq ?_ | refine wc_region ?_ | refine wl_nil ?_ | refine wn_seq ?_ | refine wn_blk ?_ | refine wc_skip ?_ | refine wc_block ?_ | refine wc_exit rfl ?_ | (show WL _ _ (_ :: _) _ _ _ _; first | refine yl_v rfl rfl rfl ?_ | refine wl_v rfl rfl rfl (by first  | fail) ?_ | refine xl_alloc (fun _ => ?_) | refine xl_box rfl (fun _ => ?_) | refine xl_store rfl rfl ?_ | refine xl_buildSlice rfl (fun _ => ?_)) | refine wc_ret rfl ?_)
  exact yr_layC (Hn := []) rfl rfl rfl rfl (hs4.step hm5 hn5) (List.nil_sublist _) ⟨rfl, _, _, _, rfl, Sl.mono hS (fun _ _ => .inl) (fun _ _ _ h => h)⟩
end Go.Proofs.YtgfbieplidpebaaGreatDoor
/-
  The engine at a drawn region in which a call takes what two others have laid. Nothing of the program stands here.
-/
namespace Go.Eng
open Go.RowKit
set_option linter.unusedVariables false
section
variable {P : Program} {n : Nat} {E : Env} {C : World → Prop} {k : Kont} {ops : Array Oper} {cg : Bool}
variable {dst : Option Tmp} {ty : TypeId} {pos : String} {af : Array Edge} {g : Option (Nat × Bool)}
variable {w0 : World} {bs : List Nat} {H : List (Nat × Obj)} {M : Ghost}
theorem wd_rel3 {d s t : Nat} {U U' : Tell} {v : Value} {o : Oper} {rest tail : List Oper} {F : REnv} (hg : gd ops E o.guard = some cg) (hcg : cg = true) (ho : o.dst = some d) (hd : Nat.blt d n = true) (hs : Nat.blt s n = true) (ht : Nat.blt t n = true) (hb : belowN n E = true) (hsel : noSel o = true) (hF : lookR F d = none)
    (hU : lookR F s = some U) (hU' : lookR F t = some U') (hv : ∀ u u', OpR P n ((s, true, u) :: (t, true, u') :: E) C (fun w => U u w ∧ U' u' w) o (exact1 true v)) (hlook : s ∈ o.looksAt ops) (hlook' : t ∈ o.looksAt ops) (h : WD P ops rest n ((d, true, v) :: E) F C tail k) : WD P ops (o :: rest) n E F C tail k := ⟨fun hdis G hG => by
  subst hcg
  have hd : d < n := by simpa [Nat.blt_eq] using hd
  have hs : s < n := by simpa [Nat.blt_eq] using hs
  have ht : t < n := by simpa [Nat.blt_eq] using ht
  have hEs : look E s = none := hdis s (by simp [hU])
  have hEt : look E t = none := hdis t (by simp [hU'])
  refine ⟨d, exact1 true v, ho, hd, steady_exact _ _, ⟨fun a w hw had has hHR => ?_⟩, h.run ?_ _ ?_⟩
  · obtain ⟨u, hu, hUu⟩ := hHR s U (by rw [hG]; simp [hU]) hlook
    obtain ⟨u', hu', hUu'⟩ := hHR t U' (by rw [hG]; simp [hU']) hlook'
    obtain ⟨b, hb1, hb2, hb3⟩ := turn (ops := ops) (E := (s, true, u) :: (t, true, u') :: E) o had has (fun i c u2 hi hm => by
      simp only [look] at hi
      by_cases e : s = i
      · subst e; simp at hi; obtain ⟨rfl, rfl⟩ := hi; exact hu
      · rw [beq_no e, cond_false] at hi
        by_cases e' : t = i
        · subst e'; simp at hi; obtain ⟨rfl, rfl⟩ := hi; exact hu'
        · rw [beq_no e', cond_false] at hi
          have hFi : lookR F i = none := by
            cases hf : lookR F i with
            | none => rfl
            | some V => rw [hdis i (by simp [hf])] at hi; cases hi
          obtain ⟨u3, h1, h2⟩ := hHR i (exact1 c u2) (by rw [hG]; simp [hFi, hi]) hm
          rw [h1, h2]) (noSel_spec hsel) (fun i c u2 hi => by
          simp only [look] at hi
          by_cases e : s = i
          · subst e; exact hs
          · rw [beq_no e, cond_false] at hi
            by_cases e' : t = i
            · subst e'; exact ht
            · rw [beq_no e', cond_false] at hi; exact belowN_look hb i c u2 hi)
    have hbE : Holds n E b := ⟨hb1.defers, hb1.size, fun i c u2 hi => hb1.reads i c u2 (by
      simp only [look]
      by_cases e : s = i
      · subst e; rw [hEs] at hi; cases hi
      · rw [beq_no e, cond_false]
        by_cases e' : t = i
        · subst e'; rw [hEt] at hi; cases hi
        · rw [beq_no e', cond_false]; exact hi)⟩
    have hwb := wanted_gd (ops := ops) hbE hg
    rw [hb3] at hwb
    refine ⟨fun _ => ?_, fun hno => by rw [hwb] at hno; cases hno⟩
    have := (hv u u').run b hb1 w hw ⟨hUu, hUu'⟩
    have : Tells P o a w (exact1 true v) C := by unfold Tells at *; rw [hb2] at this; exact this
    exact this.wp
  · intro q hq
    simp only [look]
    by_cases e : d = q
    · subst e; exact absurd hF hq
    · rw [beq_no e, cond_false]; exact hdis q hq
  · intro q
    by_cases e : d = q
    · subst e; simp [lookR, look, hF]
    · simp only [lookR, look, beq_no e, cond_false]; exact hG q⟩
/-- a call on what two others have laid -/
theorem or_callG2 {f : FuncId} {s t : Nat} {l : List Operand} {ats : Array TypeId} {vs : Value → Value → List (Bool × Value)} {args : Value → Value → Array Value} {v : Value} {R R' : Ghost → List (Nat × Obj) → Value → Prop} (hf : ∀ args w, (callFunc f args).run P w = .ok (.enter f args) w)
    (hl : ∀ u u', evg true ((s, true, u) :: (t, true, u') :: E) l = some (vs u u')) (hp : ∀ u u', (vs u u').all (·.1) = true) (hargs : ∀ u u', (vs u u').map (·.2) = (args u u').toList)
    (hc : ∀ u u' w M1 M2, R M1 [] u → R' M2 [] u' → Laid (Both M1 M2) w → Calls P f (args u u') w (RetE w v)) (u u' : Value) : OpR P n ((s, true, u) :: (t, true, u') :: E) (St w0 bs H M) (fun w => Got w0 bs H M R u w ∧ Got w0 bs H M R' u' w) ⟨dst, .call ⟨.value (.func f), l.toArray, ats⟩, ty, pos, af, g⟩ (exact1 true v) := ⟨fun a ha w hw ⟨⟨M1, _, _, k3, k4⟩, ⟨M2, _, _, j3, j4⟩⟩ => by
  unfold Tells
  rw [run_callf hf (args := args u u') (by rw [evg_eval ha (hl u u') (by simpa using hp u u'), hargs])]
  exact ⟨rfl, (hc u u' w M1 M2 k4 j4 (k3.both j3).laid).mono fun e w' he => ⟨v, he.1, rfl, he.2, hw.ext he.2⟩⟩⟩
end
end Go.Eng
/-
  Reasons; Plain, Refuse; the walks of RenderTells, RenderShows.
-/
namespace Go.Proofs.YtgfbieplidpebaaGreatDoor
open Go.Eng Go.Pct Go.Xml Go.Cas
set_option maxRecDepth 10000
set_option linter.unusedSimpArgs false
set_option linter.unusedVariables false

variable {M : Ghost} {w0 w : World} {bs : List Nat} {H : List (Nat × Obj)}
/-! ### reasons -/
def reasonS (z : Int) : List UInt8 :=
  if z = 200 then [79, 75] else
  if z = 302 then [70, 111, 117, 110, 100] else
  if z = 400 then [66, 97, 100, 32, 82, 101, 113, 117, 101, 115, 116] else
  if z = 403 then [70, 111, 114, 98, 105, 100, 100, 101, 110] else
  if z = 404 then [78, 111, 116, 32, 70, 111, 117, 110, 100] else
  if z = 405 then [77, 101, 116, 104, 111, 100, 32, 78, 111, 116, 32, 65, 108, 108, 111, 119, 101, 100] else
  if z = 503 then [83, 101, 114, 118, 105, 99, 101, 32, 85, 110, 97, 118, 97, 105, 108, 97, 98, 108, 101] else
  []
def reasonEs : List MapEntry := [⟨i64 200, str (reasonS 200), 0⟩, ⟨i64 302, str (reasonS 302), 1⟩, ⟨i64 400, str (reasonS 400), 2⟩, ⟨i64 403, str (reasonS 403), 3⟩, ⟨i64 404, str (reasonS 404), 4⟩, ⟨i64 405, str (reasonS 405), 5⟩, ⟨i64 503, str (reasonS 503), 6⟩]
theorem reasons_ok (hM : Laid M w) : Calls Tryz.prog 63 #[] w (RetS M w (fun M' H v => ∃ b, v = .map (some b) ∧ H = [(b, .map reasonEs.toArray 7)])) := by
  refine calls_st (l := []) hM Tryz.func63 rfl rfl rfl (E0 := []) (params_nil _) ?_
  repeat' (first | (first | refine wc_seq ?_ | refine wc_region ?_ | refine wl_nil ?_ | refine wn_seq ?_ | refine wn_blk ?_ | refine wc_skip ?_ | refine wc_block ?_ | refine wc_exit rfl ?_ | (show WL _ _ (_ :: _) _ _ _ _; first | refine yl_v rfl rfl rfl ?_ | refine wl_v rfl rfl rfl (by first  | fail) ?_ | refine wl_makeMap rfl rfl (fun _ => ?_) | refine wl_insert rfl rfl rfl rfl rfl rfl (by first | exact rfl | exact trivial) (by first | exact Upd.here | exact Upd.there Upd.here | exact Upd.there (Upd.there Upd.here) | exact Upd.there (Upd.there (Upd.there Upd.here)) | exact Upd.there (Upd.there (Upd.there (Upd.there Upd.here))) | exact Upd.app _ (Upd.here) | exact Upd.app _ (Upd.there Upd.here) | exact Upd.app _ (Upd.there (Upd.there Upd.here)) | exact Upd.app _ (Upd.there (Upd.there (Upd.there Upd.here))) | exact Upd.there (Upd.app _ (Upd.here)) | exact Upd.there (Upd.app _ (Upd.there Upd.here)) | exact Upd.there (Upd.app _ (Upd.there (Upd.there Upd.here))) | exact Upd.there (Upd.app _ (Upd.there (Upd.there (Upd.there Upd.here)))) | exact Upd.there (Upd.there (Upd.app _ (Upd.here))) | exact Upd.there (Upd.there (Upd.app _ (Upd.there Upd.here))) | exact Upd.there (Upd.there (Upd.app _ (Upd.there (Upd.there Upd.here))))) (by rfl) ?_) | refine wc_ret rfl ?_) | (show WC _ (Code.cond _ _ _) _ _ _ _; (refine wc_cond rfl (fun hc => ?_) (fun hc => ?_) <;> (try (simp only [decide_eq_true_eq, decide_eq_false_iff_not, Bool.and_eq_true, Bool.or_eq_true, Bool.and_eq_false_iff, Bool.or_eq_false_iff, Bool.not_eq_true', Bool.not_eq_false', Int.not_lt, Int.not_le] at hc)) <;> (try (exfalso; first | omega | contradiction)))))
  exact wr_S (Hn := [(_, .map reasonEs.toArray 7)]) rfl rfl Since.refl (List.Sublist.refl _) ⟨_, rfl, rfl⟩
theorem find_reason (z : Int) : ∃ r, Instr.findNow (.int .i64) (i64 z) reasonEs 0 = some r ∧ foundV (str []) r = str (reasonS z) := by
  have step : ∀ (z m : Int) (v : Value) (n i : Nat) (l : List MapEntry), Instr.findNow (.int .i64) (i64 z) (⟨i64 m, v, n⟩ :: l) i = if z = m then some (some (i, v)) else Instr.findNow (.int .i64) (i64 z) l (i + 1) := by
    intro z m v n i l
    by_cases h : z = m
    · simp [Instr.findNow, Instr.sameNow, h]
    · have h' : (z == m) = false := by simpa using h
      simp [Instr.findNow, Instr.sameNow, h, h']
  unfold reasonEs
  simp only [step]
  repeat' split
  all_goals first
    | (subst_vars; exact ⟨_, rfl, rfl⟩)
    | (refine ⟨_, rfl, ?_⟩; unfold reasonS; simp [foundV, *])
theorem reason_ok (hM : Laid M w) (z : Int) : Calls Tryz.prog 40 #[i64 z] w (RetE w (str (reasonS z))) := by
  obtain ⟨r, hr1, hr2⟩ := find_reason z
  refine calls_st (l := [i64 z]) hM Tryz.func40 rfl rfl rfl (E0 := [(0, true, i64 z)]) (params_cons rfl (params_nil _)) ?_
  repeat' (first | (first | refine wc_seq ?_ | refine wc_region ?_ | refine wl_nil ?_ | refine wn_seq ?_ | refine wn_blk ?_ | refine wc_skip ?_ | refine wc_block ?_ | refine wc_exit rfl ?_ | (show WL _ _ (_ :: _) _ _ _ _; first | refine yl_v rfl rfl rfl ?_ | refine wl_v rfl rfl rfl (by first  | fail) ?_) | refine wc_ret rfl ?_) | (show WC _ (Code.cond _ _ _) _ _ _ _; (refine wc_cond rfl (fun hc => ?_) (fun hc => ?_) <;> (try (simp only [decide_eq_true_eq, decide_eq_false_iff_not, Bool.and_eq_true, Bool.or_eq_true, Bool.and_eq_false_iff, Bool.or_eq_false_iff, Bool.not_eq_true', Bool.not_eq_false', Int.not_lt, Int.not_le] at hc)) <;> (try (exfalso; first | omega | contradiction)))))
  refine wl_callS rfl Tryz.call63 rfl rfl rfl rfl (fun w hw => reasons_ok hw.laid) ?_
  rintro v Hn M' hm hnew ⟨b, rfl, rfl⟩
  repeat' (first | (first | refine wc_seq ?_ | refine wc_region ?_ | refine wl_nil ?_ | refine wn_seq ?_ | refine wn_blk ?_ | refine wc_skip ?_ | refine wc_block ?_ | refine wc_exit rfl ?_ | (show WL _ _ (_ :: _) _ _ _ _; first | refine yl_v rfl rfl rfl ?_ | refine wl_v rfl rfl rfl (by first | (show OpV _ _ _ _ (Oper.mk _ (Op.lookup _ _ _ _) _ _ _ _) _ _; exact ov_lookup rfl rfl (by first | with_reducible exact fun _ => rfl | with_reducible exact fun h => h | exact fun _ => rfl | exact fun h => h | (intro himp; simp_all; done)) (by first | with_reducible exact fun _ => rfl | with_reducible exact fun h => h | exact fun _ => rfl | exact fun h => h | (intro himp; simp_all; done)) rfl rfl (by exact rfl) (by first | exact List.Mem.head _ | exact List.Mem.tail _ (List.Mem.head _) | exact List.Mem.tail _ (List.Mem.tail _ (List.Mem.head _)) | exact List.Mem.tail _ (List.Mem.tail _ (List.Mem.tail _ (List.Mem.head _))) | exact List.Mem.tail _ (List.Mem.tail _ (List.Mem.tail _ (List.Mem.tail _ (List.Mem.head _)))) | exact List.mem_append_right _ (List.Mem.head _) | exact List.mem_append_right _ (List.Mem.tail _ (List.Mem.head _)) | exact List.mem_append_right _ (List.Mem.tail _ (List.Mem.tail _ (List.Mem.head _))) | exact List.mem_append_right _ (List.Mem.tail _ (List.Mem.tail _ (List.Mem.tail _ (List.Mem.head _)))) | exact List.Mem.tail _ (List.mem_append_right _ (List.Mem.head _)) | exact List.Mem.tail _ (List.mem_append_right _ (List.Mem.tail _ (List.Mem.head _))) | exact List.Mem.tail _ (List.mem_append_right _ (List.Mem.tail _ (List.Mem.tail _ (List.Mem.head _)))) | exact List.Mem.tail _ (List.mem_append_right _ (List.Mem.tail _ (List.Mem.tail _ (List.Mem.tail _ (List.Mem.head _))))) | exact List.Mem.tail _ (List.Mem.tail _ (List.mem_append_right _ (List.Mem.head _))) | exact List.Mem.tail _ (List.Mem.tail _ (List.mem_append_right _ (List.Mem.tail _ (List.Mem.head _)))) | exact List.Mem.tail _ (List.Mem.tail _ (List.mem_append_right _ (List.Mem.tail _ (List.Mem.tail _ (List.Mem.head _)))))) (fun _ => rfl) hr1 hr2) | fail) ?_) | refine wc_ret rfl ?_) | (show WC _ (Code.cond _ _ _) _ _ _ _; (refine wc_cond rfl (fun hc => ?_) (fun hc => ?_) <;> (try (simp only [decide_eq_true_eq, decide_eq_false_iff_not, Bool.and_eq_true, Bool.or_eq_true, Bool.and_eq_false_iff, Bool.or_eq_false_iff, Bool.not_eq_true', Bool.not_eq_false', Int.not_lt, Int.not_le] at hc)) <;> (try (exfalso; first | omega | contradiction)))))
  exact wr_tmp rfl rfl rfl
theorem rreason_ok (hM : Laid M w) (z : Int) : Calls Tryz.prog 41 #[i64 z] w (RetE w (str (reasonS z))) := by
  refine calls_st (l := [i64 z]) hM Tryz.func41 rfl rfl rfl (E0 := [(0, true, i64 z)]) (params_cons rfl (params_nil _)) ?_
  repeat' (first | (first | refine wc_seq ?_ | refine wc_region ?_ | refine wl_nil ?_ | refine wn_seq ?_ | refine wn_blk ?_ | refine wc_skip ?_ | refine wc_block ?_ | refine wc_exit rfl ?_ | (show WL _ _ (_ :: _) _ _ _ _; first | refine yl_v rfl rfl rfl ?_ | refine wl_v rfl rfl rfl (by first  | fail) ?_) | refine wc_ret rfl ?_) | (show WC _ (Code.cond _ _ _) _ _ _ _; (refine wc_cond rfl (fun hc => ?_) (fun hc => ?_) <;> (try (simp only [decide_eq_true_eq, decide_eq_false_iff_not, Bool.and_eq_true, Bool.or_eq_true, Bool.and_eq_false_iff, Bool.or_eq_false_iff, Bool.not_eq_true', Bool.not_eq_false', Int.not_lt, Int.not_le] at hc)) <;> (try (exfalso; first | omega | contradiction)))))
  all_goals refine wr_tmp rfl rfl ?_
  all_goals (unfold reasonS; first | (subst hc; rfl) | simp [*])
theorem reason_len (z : Int) : (reasonS z).length ≤ 40 := by
  unfold reasonS
  repeat' split
  all_goals decide
/-! ### plain responses -/
def RspZ (M' : Ghost) (st : Int) (kind body : List UInt8) (v : Value) : Prop := ∃ a l c, v = .agg [i64 st, .slice a l c, str body].toArray ∧ SlP M' (.slice a l c) [(sCT, kind)]
def plainT (u : List UInt8) (ok : Bool) : List UInt8 := if ok = true then ([121, 101, 115, 10] ++ u) ++ [10] else [110, 111, 10, 10]
theorem pageZ_ok (hM : Laid M w) (st : Int) (kind bd : List UInt8) : Calls Tryz.prog 39 #[i64 st, str kind, str bd] w (RetS M w (fun M' H v => H = [] ∧ RspZ M' st kind bd v)) := by
  refine calls_st (l := [i64 st, str kind, str bd]) hM Tryz.func39 rfl rfl rfl (E0 := [(0, true, i64 st), (1, true, str kind), (2, true, str bd)]) (params_cons rfl (params_cons rfl (params_cons rfl (params_nil _)))) ?_
  repeat' (first | refine wc_seq ?_ | refine wc_region ?_ | refine wl_nil ?_ | refine wn_seq ?_ | refine wn_blk ?_ | refine wc_skip ?_ | refine wc_block ?_ | refine wc_exit rfl ?_ | (show WL _ _ (_ :: _) _ _ _ _; first | refine yl_v rfl rfl rfl ?_ | refine wl_v rfl rfl rfl (by first  | fail) ?_ | refine xl_alloc (fun _ => ?_) | refine xl_store rfl rfl ?_ | refine xl_buildSlice rfl (fun _ => ?_)) | refine wc_ret rfl ?_)
  rename_i b1 b2
  exact yr_layC (Hn := [(b2, .cells (cellsP [(sCT, kind)]).toArray 50 (0, 0))]) rfl rfl rfl rfl Since.refl (List.Sublist.cons_cons _ (List.nil_sublist _)) ⟨rfl, _, _, _, rfl, slP_blk (l := [(sCT, kind)]) (.inr (List.Mem.head _)) (by simp)⟩
theorem refuse_ok (hM : Laid M w) (st : Int) : Calls Tryz.prog 13 #[i64 st] w (RetS M w (fun M' H v => H = [] ∧ RspZ M' st sTextT (reasonS st ++ [10]) v)) := by
  have hl := reason_len st
  have hr := fun {w : World} (hw : Laid M w) => reason_ok hw st
  generalize reasonS st = rs at *
  refine calls_st (l := [i64 st]) hM Tryz.func13 rfl rfl rfl (E0 := [(0, true, i64 st)]) (params_cons rfl (params_nil _)) ?_
  repeat' (first | refine wc_seq ?_ | refine wc_region ?_ | refine wl_nil ?_ | refine wn_seq ?_ | refine wn_blk ?_ | refine wc_skip ?_ | refine wc_block ?_ | refine wc_exit rfl ?_ | (show WL _ _ (_ :: _) _ _ _ _; first | refine yl_v rfl rfl rfl ?_ | refine wl_v rfl rfl rfl (by first | ((show OpV _ _ _ _ (Oper.mk _ (Op.call ⟨.value (.func 40), _, _⟩) _ _ _ _) _ _; exact ov_call Tryz.call40 rfl (by intro himp; first | rfl | (simp_all; done)) (by rfl) (fun _ _ h k => h.ext k) (fun hcg w hw => hr hw.laid))) | fail) ?_ | refine xl_alloc (fun _ => ?_) | refine xl_store rfl rfl ?_) | refine wc_ret rfl ?_)
  refine wl_callS rfl Tryz.call39 rfl rfl rfl rfl (fun w hw => pageZ_ok hw.laid st sTextT (rs ++ [10])) ?_
  rintro _ H1 M1 hm1 hn1 ⟨rfl, a, l, c, rfl, hS⟩
  repeat' (first | refine wc_seq ?_ | refine wc_region ?_ | refine wl_nil ?_ | refine wn_seq ?_ | refine wn_blk ?_ | refine wc_skip ?_ | refine wc_block ?_ | refine wc_exit rfl ?_ | (show WL _ _ (_ :: _) _ _ _ _; first | refine yl_v rfl rfl rfl ?_ | refine wl_v rfl rfl rfl (by first  | fail) ?_ | refine xl_alloc (fun _ => ?_) | refine xl_store rfl rfl ?_) | refine wc_ret rfl ?_)
  exact yr_layC (Hn := []) rfl rfl rfl rfl (Since.refl.step hm1 hn1) (List.nil_sublist _) ⟨rfl, _, _, _, rfl, Sl.mono hS (fun _ _ => .inl) (fun _ _ _ h => h)⟩
theorem rrefuse_ok (hM : Laid M w) (st : Int) : Calls Tryz.prog 14 #[i64 st] w (RetS M w (fun M' H v => H = [] ∧ RspZ M' st sTextT (reasonS st ++ [10]) v)) := by
  have hl := reason_len st
  have hr := fun {w : World} (hw : Laid M w) => rreason_ok hw st
  generalize reasonS st = rs at *
  refine calls_st (l := [i64 st]) hM Tryz.func14 rfl rfl rfl (E0 := [(0, true, i64 st)]) (params_cons rfl (params_nil _)) ?_
  repeat' (first | refine wc_seq ?_ | refine wc_region ?_ | refine wl_nil ?_ | refine wn_seq ?_ | refine wn_blk ?_ | refine wc_skip ?_ | refine wc_block ?_ | refine wc_exit rfl ?_ | (show WL _ _ (_ :: _) _ _ _ _; first | refine yl_v rfl rfl rfl ?_ | refine wl_v rfl rfl rfl (by first | ((show OpV _ _ _ _ (Oper.mk _ (Op.call ⟨.value (.func 41), _, _⟩) _ _ _ _) _ _; exact ov_call Tryz.call41 rfl (by intro himp; first | rfl | (simp_all; done)) (by rfl) (fun _ _ h k => h.ext k) (fun hcg w hw => hr hw.laid))) | fail) ?_ | refine xl_alloc (fun _ => ?_) | refine xl_store rfl rfl ?_ | refine xl_buildSlice rfl (fun _ => ?_)) | refine wc_ret rfl ?_)
  rename_i b1 b2
  exact yr_layC (Hn := [(b2, .cells (cellsP [(sCT, sTextT)]).toArray 50 (0, 0))]) rfl rfl rfl rfl Since.refl (List.Sublist.cons_cons _ (List.nil_sublist _)) ⟨rfl, _, _, _, rfl, slP_blk (l := [(sCT, sTextT)]) (.inr (List.Mem.head _)) (by simp)⟩
theorem plain_ok (hM : Laid M w) (u : List UInt8) (ok : Bool) (hu : u.length ≤ 1000000000000000) : Calls Tryz.prog 11 #[str u, .bool ok] w (RetS M w (fun M' H v => H = [] ∧ RspZ M' 200 sTextT (plainT u ok) v)) := by
  refine calls_st (l := [str u, .bool ok]) hM Tryz.func11 rfl rfl rfl (E0 := [(0, true, str u), (1, true, .bool ok)]) (params_cons rfl (params_cons rfl (params_nil _))) ?_
  repeat' (first | refine wc_seq ?_ | refine wc_region ?_ | refine wl_nil ?_ | refine wn_seq ?_ | refine wn_blk ?_ | refine wc_skip ?_ | refine wc_block ?_ | refine wc_exit rfl ?_ | (show WL _ _ (_ :: _) _ _ _ _; first | refine yl_v rfl rfl rfl ?_ | refine wl_v rfl rfl rfl (by first  | fail) ?_ | refine xl_alloc (fun _ => ?_) | refine xl_store rfl rfl ?_) | refine wc_ret rfl ?_)
  cases ok with
  | true =>
    refine wc_cond rfl (fun hc => by exfalso; simp at hc) (fun hc => ?_)
    repeat' (first | refine wc_seq ?_ | refine wc_region ?_ | refine wl_nil ?_ | refine wn_seq ?_ | refine wn_blk ?_ | refine wc_skip ?_ | refine wc_block ?_ | refine wc_exit rfl ?_ | (show WL _ _ (_ :: _) _ _ _ _; first | refine yl_v rfl rfl rfl ?_ | refine wl_v rfl rfl rfl (by first  | fail) ?_ | refine xl_alloc (fun _ => ?_) | refine xl_store rfl rfl ?_) | refine wc_ret rfl ?_)
    refine wl_callS rfl Tryz.call39 rfl rfl rfl rfl (fun w hw => pageZ_ok hw.laid 200 sTextT (plainT u true)) ?_
    rintro _ H1 M1 hm1 hn1 ⟨rfl, a, l, c, rfl, hS⟩
    repeat' (first | refine wc_seq ?_ | refine wc_region ?_ | refine wl_nil ?_ | refine wn_seq ?_ | refine wn_blk ?_ | refine wc_skip ?_ | refine wc_block ?_ | refine wc_exit rfl ?_ | (show WL _ _ (_ :: _) _ _ _ _; first | refine yl_v rfl rfl rfl ?_ | refine wl_v rfl rfl rfl (by first  | fail) ?_ | refine xl_alloc (fun _ => ?_) | refine xl_store rfl rfl ?_) | refine wc_ret rfl ?_)
    exact yr_layC (Hn := []) rfl rfl rfl rfl (Since.refl.step hm1 hn1) (List.nil_sublist _) ⟨rfl, _, _, _, rfl, Sl.mono hS (fun _ _ => .inl) (fun _ _ _ h => h)⟩
  | false =>
    refine wc_cond rfl (fun hc => ?_) (fun hc => by exfalso; simp at hc)
    repeat' (first | refine wc_seq ?_ | refine wc_region ?_ | refine wl_nil ?_ | refine wn_seq ?_ | refine wn_blk ?_ | refine wc_skip ?_ | refine wc_block ?_ | refine wc_exit rfl ?_ | (show WL _ _ (_ :: _) _ _ _ _; first | refine yl_v rfl rfl rfl ?_ | refine wl_v rfl rfl rfl (by first  | fail) ?_ | refine xl_alloc (fun _ => ?_) | refine xl_store rfl rfl ?_) | refine wc_ret rfl ?_)
    refine wl_callS rfl Tryz.call39 rfl rfl rfl rfl (fun w hw => pageZ_ok hw.laid 200 sTextT (plainT u false)) ?_
    rintro _ H1 M1 hm1 hn1 ⟨rfl, a, l, c, rfl, hS⟩
    repeat' (first | refine wc_seq ?_ | refine wc_region ?_ | refine wl_nil ?_ | refine wn_seq ?_ | refine wn_blk ?_ | refine wc_skip ?_ | refine wc_block ?_ | refine wc_exit rfl ?_ | (show WL _ _ (_ :: _) _ _ _ _; first | refine yl_v rfl rfl rfl ?_ | refine wl_v rfl rfl rfl (by first  | fail) ?_ | refine xl_alloc (fun _ => ?_) | refine xl_store rfl rfl ?_) | refine wc_ret rfl ?_)
    exact yr_layC (Hn := []) rfl rfl rfl rfl (Since.refl.step hm1 hn1) (List.nil_sublist _) ⟨rfl, _, _, _, rfl, Sl.mono hS (fun _ _ => .inl) (fun _ _ _ h => h)⟩
theorem rplain_ok (hM : Laid M w) (u : List UInt8) (ok : Bool) (hu : u.length ≤ 1000000000000000) : Calls Tryz.prog 12 #[str u, .bool ok] w (RetS M w (fun M' H v => H = [] ∧ RspZ M' 200 sTextT (plainT u ok) v)) := by
  refine calls_st (l := [str u, .bool ok]) hM Tryz.func12 rfl rfl rfl (E0 := [(0, true, str u), (1, true, .bool ok)]) (params_cons rfl (params_cons rfl (params_nil _))) ?_
  repeat' (first | refine wc_seq ?_ | refine wc_region ?_ | refine wl_nil ?_ | refine wn_seq ?_ | refine wn_blk ?_ | refine wc_skip ?_ | refine wc_block ?_ | refine wc_exit rfl ?_ | (show WL _ _ (_ :: _) _ _ _ _; first | refine yl_v rfl rfl rfl ?_ | refine wl_v rfl rfl rfl (by first  | fail) ?_ | refine xl_alloc (fun _ => ?_) | refine xl_store rfl rfl ?_ | refine xl_buildSlice rfl (fun _ => ?_)) | refine wc_ret rfl ?_)
  rename_i b4 b7 b5
  cases ok with
  | true =>
    refine wc_cond rfl (fun hc => ?_) (fun hc => by exfalso; cases hc)
    repeat' (first | refine wc_seq ?_ | refine wc_region ?_ | refine wl_nil ?_ | refine wn_seq ?_ | refine wn_blk ?_ | refine wc_skip ?_ | refine wc_block ?_ | refine wc_exit rfl ?_ | (show WL _ _ (_ :: _) _ _ _ _; first | refine yl_v rfl rfl rfl ?_ | refine wl_v rfl rfl rfl (by first  | fail) ?_ | refine xl_alloc (fun _ => ?_) | refine xl_store rfl rfl ?_ | refine xl_buildSlice rfl (fun _ => ?_)) | refine wc_ret rfl ?_)
    exact yr_layC (Hn := [(b7, .cells (cellsP [(sCT, sTextT)]).toArray 50 (0, 0))]) rfl rfl rfl rfl Since.refl (by apply List.Sublist.cons; exact List.Sublist.cons_cons _ (List.nil_sublist _)) ⟨rfl, _, _, _, rfl, slP_blk (l := [(sCT, sTextT)]) (.inr (List.Mem.head _)) (by simp)⟩
  | false =>
    refine wc_cond rfl (fun hc => by exfalso; cases hc) (fun hc => ?_)
    repeat' (first | refine wc_seq ?_ | refine wc_region ?_ | refine wl_nil ?_ | refine wn_seq ?_ | refine wn_blk ?_ | refine wc_skip ?_ | refine wc_block ?_ | refine wc_exit rfl ?_ | (show WL _ _ (_ :: _) _ _ _ _; first | refine yl_v rfl rfl rfl ?_ | refine wl_v rfl rfl rfl (by first  | fail) ?_ | refine xl_alloc (fun _ => ?_) | refine xl_store rfl rfl ?_ | refine xl_buildSlice rfl (fun _ => ?_)) | refine wc_ret rfl ?_)
    exact yr_layC (Hn := [(b7, .cells (cellsP [(sCT, sTextT)]).toArray 50 (0, 0))]) rfl rfl rfl rfl Since.refl (by apply List.Sublist.cons; exact List.Sublist.cons_cons _ (List.nil_sublist _)) ⟨rfl, _, _, _, rfl, slP_blk (l := [(sCT, sTextT)]) (.inr (List.Mem.head _)) (by simp)⟩
end Go.Proofs.YtgfbieplidpebaaGreatDoor
/-
  What is told is read as it was; how many marks there are.
-/
namespace Go.Cas
open Go.Pct Go.Xml Go.Proofs.YtgfbieplidpebaaGreatDoor
set_option linter.unusedVariables false
set_option linter.unusedSimpArgs false

theorem rsp_read {kind : List UInt8} {x : Nd} (h : rightN x = true) : readP (rsp kind x).body = some x := by
  unfold rsp wr
  simp only [h, if_true]
  exact readP_back h
theorem rsp_hdr (kind : List UInt8) (x : Nd) : hdrOk (rsp kind x) kind := ⟨rfl, rfl⟩
theorem rsp_same {kind : List UInt8} {x : Nd} (h : rightN x = true) : sameR (rsp kind x) (rsp kind x) = true := (same_iff _ _ _).2 ⟨rsp_hdr kind x, rsp_read h⟩
theorem rsp_rd {kind : List UInt8} {x : Nd} (h : rightN x = true) : rd (rsp kind x) = x := rd_of (rsp_read h)
theorem rsp_other {kind : List UInt8} {x y : Nd} (h : rightN x = true) (hne : x ≠ y) : ¬ sameR (rsp kind x) (rsp kind y) = true := by
  intro hs
  have := ((same_iff _ _ _).1 hs).2
  rw [rsp_read h] at this
  exact hne (by simpa using this)
theorem cas_inj {x y : Nd} (h : casN x = casN y) : x = y := by
  unfold casN at h
  simpa using h
theorem known_code {e : Int} (h : e ≠ 0) : ∃ i, knownE (codeE e) = some i := by
  have k1 : knownE cReq = some 32 := by decide +kernel
  have k2 : knownE cTkt = some 29 := by decide +kernel
  have k3 : knownE cSpec = some 31 := by decide +kernel
  have k4 : knownE cSvc = some 30 := by decide +kernel
  have k5 : knownE cUna = some 35 := by decide +kernel
  have k6 : knownE cCb = some 33 := by decide +kernel
  have k7 : knownE cInt = some 0 := by decide +kernel
  unfold codeE
  simp only [h, if_false]
  repeat' split
  all_goals first
    | exact ⟨_, k1⟩
    | exact ⟨_, k2⟩
    | exact ⟨_, k3⟩
    | exact ⟨_, k4⟩
    | exact ⟨_, k5⟩
    | exact ⟨_, k6⟩
    | exact ⟨_, k7⟩
theorem suc_fail (s : Suc) (at' : Bool) (n t c : List UInt8) (hn : n ≠ sSuc) : sucN s at' ≠ failN n t c := by
  intro h
  have := congrArg nmN h
  exact hn this.symm
theorem answer_back {s : Suc} (h : rightN (answerN s 0 true) = true) : readAnswerP (rsp sXml (answerN s 0 true)) = (s, [], true) := by
  unfold readAnswerP
  rw [if_neg]
  · rw [rsp_rd h]
    have e : sucOf (answerN s 0 true) = s := by rw [answer_suc, sucOf_back]
    rw [e, if_pos (rsp_same h)]
  · intro hc
    obtain ⟨v, i, _, _, hx⟩ := (failP_iff (fun e => answerN suc0 e true) (fun e h => answer_fail e h true suc0)).1 hc
    rw [rsp_read h, answer_suc] at hx
    exact suc_fail s true sAF sNotOk v (by decide) (cas_inj (by simpa using hx))
theorem answer_plain (s : Suc) : answerN s 0 false = answerN ⟨s.user, [], s.proxies, s.iou⟩ 0 true := by
  unfold answerN sucN sucK k1 k2 k3
  simp
theorem answer_fail_back {s : Suc} {e : Int} (he : e ≠ 0) {at' : Bool} (h : rightN (answerN s e at') = true) : readAnswerP (rsp sXml (answerN s e at')) = (suc0, codeE e, true) := by
  obtain ⟨i, hi⟩ := known_code he
  unfold readAnswerP
  rw [if_pos]
  · rw [rsp_rd h, answer_fail e he, failed_cas hi]
  · exact (failP_iff (fun e => answerN suc0 e true) (fun e h => answer_fail e h true suc0)).2 ⟨codeE e, i, hi, rsp_hdr _ _, by rw [rsp_read h, answer_fail e he]⟩
theorem proxy_back {pt : List UInt8} (h : rightN (proxyN pt 0) = true) : readProxyP (rsp sXml (proxyN pt 0)) = (pt, [], true) := by
  unfold readProxyP
  rw [if_neg]
  · rw [rsp_rd h]
    have e : txN (foundN (proxyN pt 0) [sPS, sPT]) = pt := by rw [proxy_suc, found_pt]
    rw [e, if_pos (rsp_same h)]
  · intro hc
    obtain ⟨v, i, _, _, hx⟩ := (failP_iff (fun e => proxyN [] e) (fun e h => proxy_fail e h [])).1 hc
    rw [rsp_read h, proxy_suc] at hx
    have := congrArg nmN (cas_inj (by simpa using hx))
    exact absurd this (by show ¬ sPS = sPF; decide)
theorem proxy_fail_back {pt : List UInt8} {e : Int} (he : e ≠ 0) (h : rightN (proxyN pt e) = true) : readProxyP (rsp sXml (proxyN pt e)) = ([], codeE e, true) := by
  obtain ⟨i, hi⟩ := known_code he
  unfold readProxyP
  rw [if_pos]
  · rw [rsp_rd h, proxy_fail e he, failed_cas hi]
  · exact (failP_iff (fun e => proxyN [] e) (fun e h => proxy_fail e h [])).2 ⟨codeE e, i, hi, rsp_hdr _ _, by rw [rsp_read h, proxy_fail e he]⟩
theorem proxy_of_answer {s : Suc} {at' : Bool} (h : rightN (answerN s 0 at') = true) : readProxyP (rsp sXml (answerN s 0 at')) = ([], [], false) := by
  unfold readProxyP
  rw [if_neg, if_neg]
  · refine rsp_other h fun hx => ?_
    rw [answer_suc, proxy_suc] at hx
    have := congrArg nmN (cas_inj hx)
    exact absurd this (by show ¬ sSuc = sPS; decide)
  · intro hc
    obtain ⟨v, i, _, _, hx⟩ := (failP_iff (fun e => proxyN [] e) (fun e h => proxy_fail e h [])).1 hc
    rw [rsp_read h, answer_suc] at hx
    exact suc_fail s at' sPF sNoPt v (by decide) (cas_inj (by simpa using hx))
theorem form_back {a b c : List UInt8} (h : rightN (formPN a b c) = true) : readFormP (rsp sHtmlT (formPN a b c)) = (a, b, c, true) := by
  unfold readFormP
  rw [rsp_rd h, form_found, form_p, (at2_form a b).1, (at2_form a b).2, if_pos ⟨formOk_form a b, rsp_same h⟩]
theorem page_back {a b : List UInt8} (h : rightN (pageN a b) = true) : readPageP (rsp sHtmlT (pageN a b)) = (a, b, true) := by
  unfold readPageP
  rw [rsp_rd h, page_p]
  exact if_pos ⟨rfl, rsp_same h⟩
theorem form_of_page {a b : List UInt8} (h : rightN (pageN a b) = true) : readFormP (rsp sHtmlT (pageN a b)) = ([], [], [], false) := by
  have e : foundN (pageN a b) [sBody, sForm] = nodeZ := by
    have d : ¬ nmN (Nd.mk sP [(sClass, a)] b []) = sForm := by show ¬ sP = sForm; decide
    unfold pageN
    rw [found_html]
    simp [d]
  unfold readFormP
  rw [rsp_rd h, e, if_neg]
  rintro ⟨⟨h1, _⟩, _⟩
  exact absurd h1 (by decide)
theorem page_of_form {a b c : List UInt8} (h : rightN (formPN a b c) = true) : readPageP (rsp sHtmlT (formPN a b c)) = ([], [], false) := by
  have e : (atN (foundN (formPN a b c) [sBody, sP])).length = 0 := by
    have d1 : ¬ nmN (formN a b) = sP := by show ¬ sForm = sP; decide
    have n2 : nmN (leafN sP c) = sP := rfl
    rw [form_eq, found_html]
    unfold formK
    by_cases h : c = []
    · simp [h, d1]; rfl
    · simp [h, n2]; rfl
  unfold readPageP
  rw [rsp_rd h, if_neg]
  rintro ⟨h1, _⟩
  omega

/-! ### marks -/
def mkB (c : UInt8) : Bool := decide (c = 60) || decide (c = 62)
def cntM (s : List UInt8) : Nat := s.countP mkB
theorem cntM_app (s t : List UInt8) : cntM (s ++ t) = cntM s + cntM t := List.countP_append
theorem cntM_esc (s : List UInt8) : cntM (esc s) = 0 := by
  unfold cntM
  rw [List.countP_eq_zero]
  intro c hc
  have := esc_bad c hc
  revert this
  unfold badC mkB
  simp only [Bool.or_eq_false_iff, beq_eq_false_iff_ne, Bool.or_eq_true, decide_eq_true_eq, not_or]
  rintro ⟨⟨⟨h1, h2⟩, _⟩, _⟩
  exact ⟨h1, h2⟩
theorem cntM_text (n : List UInt8) (a : List Pr) (t : List UInt8) (k : List Nd) : cntM (textN (.mk n a t k)) = 4 + 2 * cntM n + cntM (attrT a) + cntM (textL k) := by
  have e1 : cntM [60] = 1 := rfl
  have e2 : cntM [62] = 1 := rfl
  have e3 : cntM [60, 47] = 1 := rfl
  simp only [textN, cntM_app, cntM_esc, e1, e2, e3]
  omega
theorem cntM_attr (n v : List UInt8) : cntM (attrT [(n, v)]) = cntM n := by
  have e1 : cntM [32] = 0 := rfl
  have e2 : cntM [61, 34] = 0 := rfl
  have e3 : cntM [34] = 0 := rfl
  simp only [attrT, List.flatMap_cons, List.flatMap_nil, List.append_nil, cntM_app, cntM_esc, e1, e2, e3]
  omega
theorem cntM_one (x : Nd) : cntM (textL [x]) = cntM (textN x) := by
  simp only [textL, List.append_nil]
theorem cntM_page (a b : List UInt8) : cntM (textN (pageN a b)) = 12 := by
  have h1 : cntM sHtml = 0 := by decide
  have h2 : cntM sBody = 0 := by decide
  have h3 : cntM sP = 0 := by decide
  have h4 : cntM sClass = 0 := by decide
  have e : cntM (attrT []) = 0 := rfl
  have e2 : cntM (textL []) = 0 := rfl
  unfold pageN htmlN wrapN
  rw [cntM_text, cntM_one, cntM_text, cntM_one, cntM_text, cntM_attr, h1, h2, h3, h4, e, e2]
theorem cntM_user (u : List UInt8) : cntM (textN (answerN ⟨u, [], [], []⟩ 0 true)) = 12 := by
  have h1 : cntM sResp = 0 := by decide
  have h2 : cntM sSuc = 0 := by decide
  have h3 : cntM sUser = 0 := by decide
  have h4 : cntM sNs = 0 := by decide
  have e : cntM (attrT []) = 0 := rfl
  have e2 : cntM (textL []) = 0 := rfl
  have ek : sucK ⟨u, [], [], []⟩ true = [leafN sUser u] := by simp [sucK, k1, k2, k3]
  rw [answer_suc]
  unfold sucN wrapN casN
  rw [ek]
  unfold leafN
  rw [cntM_text, cntM_one, cntM_text, cntM_one, cntM_text, cntM_attr, h1, h2, h3, h4, e, e2]
theorem wr_right {x : Nd} (h : rightN x = true) : wr x = textN x := by unfold wr; rw [if_pos h]
theorem user_sh {u : List UInt8} (h : shwB u = true) : rightN (answerN ⟨u, [], [], []⟩ 0 true) = true :=
  right_answer ⟨h, (show shwB [] = true by decide), (fun p hp => by cases hp), (fun p hp => by cases hp)⟩ (by simp) (by simp) 0 true
/-- cas:user of a success -/
theorem user_found (u : List UInt8) : foundN (answerN ⟨u, [], [], []⟩ 0 true) [sSuc, sUser] = leafN sUser u := by
  have ek : sucK ⟨u, [], [], []⟩ true = [leafN sUser u] := by simp [sucK, k1, k2, k3]
  unfold foundN
  rw [answer_suc]
  unfold casN
  rw [find_one, if_pos (show nmN (sucN ⟨u, [], [], []⟩ true) = sSuc from rfl)]
  unfold sucN wrapN
  rw [ek, find_one, if_pos (show nmN (leafN sUser u) = sUser from rfl)]
  rfl
theorem user_isSome (u : List UInt8) : (findN (answerN ⟨u, [], [], []⟩ 0 true) [sSuc, sUser]).isSome = true := by
  have ek : sucK ⟨u, [], [], []⟩ true = [leafN sUser u] := by simp [sucK, k1, k2, k3]
  rw [answer_suc]
  unfold casN
  rw [find_one, if_pos (show nmN (sucN ⟨u, [], [], []⟩ true) = sSuc from rfl)]
  unfold sucN wrapN
  rw [ek, find_one, if_pos (show nmN (leafN sUser u) = sUser from rfl)]
  rfl
theorem page_isSome (a b : List UInt8) : (findN (pageN a b) [sBody, sP]).isSome = true := by
  unfold pageN htmlN wrapN
  rw [find_one, if_pos (show nmN (Nd.mk sBody [] [] [Nd.mk sP [(sClass, a)] b []]) = sBody from rfl), find_one, if_pos (show nmN (Nd.mk sP [(sClass, a)] b []) = sP from rfl)]
  rfl
end Go.Cas
/-
  matricularef05.Same; the chapter's example; the walks of RenderTells, RenderShows.
-/
namespace Go.Proofs.YtgfbieplidpebaaGreatDoor
open Go.Eng Go.Pct Go.Xml Go.Cas
set_option maxRecDepth 10000
set_option linter.unusedSimpArgs false
set_option linter.unusedVariables false

variable {M : Ghost} {w0 w : World} {bs : List Nat} {H : List (Nat × Obj)}
theorem same05_ok (hM : Laid M w) {st : Int} {a : Option Addr} {l c : Nat} {a' : Option Addr} {l' c' : Nat} {bd : List UInt8} {hd : List Go.Pct.Pr} (hu : SlP M (.slice a l c) hd) (hv : SlP M (.slice a' l' c') hd) : Calls Tryz.prog 8 #[.agg [i64 st, .slice a l c, str bd].toArray, .agg [i64 st, .slice a' l' c', str bd].toArray] w (RetE w (.bool true)) := by
  have hp := fun {w : World} (hw : Laid M w) => pairs_ok hw hu hv
  rw [decide_eq_true rfl] at hp
  refine calls_st (l := [.agg [i64 st, .slice a l c, str bd].toArray, .agg [i64 st, .slice a' l' c', str bd].toArray]) hM Tryz.func8 rfl rfl rfl (E0 := [(0, true, .agg [i64 st, .slice a l c, str bd].toArray), (1, true, .agg [i64 st, .slice a' l' c', str bd].toArray)]) (params_cons rfl (params_cons rfl (params_nil _))) ?_
  repeat' (first | refine wc_seq ?_ | refine wc_region ?_ | refine wl_nil ?_ | refine wn_seq ?_ | refine wn_blk ?_ | refine wc_skip ?_ | refine wc_block ?_ | refine wc_exit rfl ?_ | (show WL _ _ (_ :: _) _ _ _ _; first | refine yl_v rfl rfl rfl ?_ | refine wl_v rfl rfl rfl (by first | ((show OpV _ _ _ _ (Oper.mk _ (Op.call ⟨.value (.func 31), _, _⟩) _ _ _ _) _ _; exact ov_call Tryz.call31 rfl (by intro himp; first | rfl | (simp_all; done)) (by rfl) (fun _ _ h k => h.ext k) (fun hcg w hw => hp hw.laid))) | fail) ?_ | refine xl_box rfl (fun _ => ?_)) | refine wc_ret rfl ?_)
  exact wr_weak (fun _ h => h.drop (List.nil_sublist _)) (wr_tmp rfl rfl rfl)
/-- two responses of one kind, laid apart -/
theorem same05_Z {M1 M2 : Ghost} {st : Int} {kind body : List UInt8} {u v : Value} (hu : RspZ M1 st kind body u) (hv : RspZ M2 st kind body v) (w : World) (hM : Laid (Both M1 M2) w) : Calls Tryz.prog 8 #[u, v] w (RetE w (.bool true)) := by
  obtain ⟨a, l, c, rfl, h1⟩ := hu
  obtain ⟨a', l', c', rfl, h2⟩ := hv
  exact same05_ok hM (Sl.mono h1 (fun _ _ => .inl) (fun _ _ _ h => h)) (Sl.mono h2 (fun _ _ => .inr) (fun _ _ _ h => h))
theorem few_sm {s : Suc} (h : fewSu s = true) : SmS s 20 120 := by
  unfold fewSu fewPr at h
  simp only [Bool.and_eq_true, List.all_eq_true, decide_eq_true_eq] at h
  obtain ⟨⟨h1, h2⟩, ⟨⟨h3, h4⟩, h5⟩, h6⟩ := h
  exact ⟨by omega, by omega, h5, h6, fun p hp => by have := h1 p hp; omega, fun p hp => h2 p hp⟩
def exS : Suc := ⟨[117], [], [], []⟩
def exX : Nd := answerN exS 0 true
/-- the example's text -/
def exT : List UInt8 := [60, 99, 97, 115, 58, 115, 101, 114, 118, 105, 99, 101, 82, 101, 115, 112, 111, 110, 115, 101, 32, 120, 109, 108, 110, 115, 58, 99, 97, 115, 61, 34, 104, 116, 116, 112, 58, 47, 47, 119, 119, 119, 46, 121, 97, 108, 101, 46, 101, 100, 117, 47, 116, 112, 47, 99, 97, 115, 34, 62, 60, 99, 97, 115, 58, 97, 117, 116, 104, 101, 110, 116, 105, 99, 97, 116, 105, 111, 110, 83, 117, 99, 99, 101, 115, 115, 62, 60, 99, 97, 115, 58, 117, 115, 101, 114, 62, 117, 60, 47, 99, 97, 115, 58, 117, 115, 101, 114, 62, 60, 47, 99, 97, 115, 58, 97, 117, 116, 104, 101, 110, 116, 105, 99, 97, 116, 105, 111, 110, 83, 117, 99, 99, 101, 115, 115, 62, 60, 47, 99, 97, 115, 58, 115, 101, 114, 118, 105, 99, 101, 82, 101, 115, 112, 111, 110, 115, 101, 62]
theorem exS_sm : SmS exS 100000 100000 := ⟨by decide, by decide, by decide, by decide, (fun p hp => by cases hp), (fun p hp => by cases hp)⟩
theorem exX_right : rightN exX = true := user_sh (by decide +kernel)
theorem exX_text : wr exX = exT := by rw [wr_right exX_right]; decide +kernel
theorem exX_back : readAnswerP (rsp sXml exX) = (exS, [], true) := answer_back exX_right
theorem awake_ok (hG : Glob M) (hM : Laid M w) : Calls Tryz.prog 6 #[] w (RetE w (.bool true)) := by
  have hA := fun {w : World} {M : Ghost} (hG : Glob M) (hM : Laid M w) => Answer_ok hG hM exS 0 sl_nil sl_nil exS_sm true
  rw [show answerN exS 0 true = exX from rfl] at hA
  have hR := fun {w : World} {M : Ghost} {st : Int} {a l c bd} (hG : Glob M) (hM : Laid M w) (h : RsC M (rsp sXml exX) st a l c bd) (hb : bd.length ≤ 90000) => ReadAnswer_ok hG hM h hb
  rw [exX_back] at hR
  rw [exX_text] at hA
  have hb : (rsp sXml exX).body = exT := exX_text
  have hbl : exT.length ≤ 90000 := by decide
  generalize hx : rsp sXml exX = r at *
  have hst : r.status = 200 := by rw [← hx]; rfl
  have hhd : r.headers = [(sCT, sXml)] := by rw [← hx]; rfl
  clear hx
  unfold exS at hA hR
  unfold exT at hA hb hbl
  refine calls_st (l := []) hM Tryz.func6 rfl rfl rfl (E0 := []) (params_nil _) ?_
  repeat' (first | refine wc_seq ?_ | refine wc_region ?_ | refine wl_nil ?_ | refine wn_seq ?_ | refine wn_blk ?_ | refine wc_skip ?_ | refine wc_block ?_ | refine wc_exit rfl ?_ | (show WL _ _ (_ :: _) _ _ _ _; first | refine yl_v rfl rfl rfl ?_ | refine wl_v rfl rfl rfl (by first  | fail) ?_ | refine xl_alloc (fun _ => ?_) | refine xl_store rfl rfl ?_) | refine wc_ret rfl ?_)
  refine wl_callS rfl Tryz.call9 rfl rfl rfl rfl (fun w hw => hA hG hw.laid) ?_
  rintro _ H1 M1 hm1 hn1 ⟨rfl, a1, l1, c1, rfl, hS1⟩
  repeat' (first | refine wc_seq ?_ | refine wc_region ?_ | refine wl_nil ?_ | refine wn_seq ?_ | refine wn_blk ?_ | refine wc_skip ?_ | refine wc_block ?_ | refine wc_exit rfl ?_ | (show WL _ _ (_ :: _) _ _ _ _; first | refine yl_v rfl rfl rfl ?_ | refine wl_v rfl rfl rfl (by first  | fail) ?_ | refine xl_alloc (fun _ => ?_) | refine xl_store rfl rfl ?_) | refine wc_ret rfl ?_)
  refine wl_callS rfl Tryz.call22 rfl rfl rfl rfl (fun w hw => hR (hG.mono hm1) hw.laid ⟨hst, hb, by rw [hhd]; exact hS1⟩ hbl) ?_
  rintro _ H2 M2 hm2 hn2 ⟨rfl, _, rfl, a2, l2, c2, a3, l3, c3, rfl, hS2, hS3⟩
  repeat' (first | refine wc_seq ?_ | refine wc_region ?_ | refine wl_nil ?_ | refine wn_seq ?_ | refine wn_blk ?_ | refine wc_skip ?_ | refine wc_block ?_ | refine wc_exit rfl ?_ | (show WL _ _ (_ :: _) _ _ _ _; first | refine yl_v rfl rfl rfl ?_ | refine wl_v rfl rfl rfl (by first  | fail) ?_ | refine xl_alloc (fun _ => ?_) | refine xl_store rfl rfl ?_) | refine wc_ret rfl ?_)
  exact wr_weak (fun _ h => h.drop (List.nil_sublist _)) (wr_tmp rfl rfl rfl)
theorem rspK_Z {M' : Ghost} {kind body : List UInt8} {v : Value} (h : RspK M' kind body v) : RspZ M' 200 kind body v := h
set_option maxHeartbeats 1000000 in
theorem tells_ok (hG : Glob M) (hM : Laid M w) {s : Suc} {va : Option Addr} {vl vc : Nat} {va' : Option Addr} {vl' vc' : Nat} (hA : SlP M (.slice va vl vc) s.attrs) (hP : SlS M (.slice va' vl' vc') s.proxies) (e : Int) (at' : Bool) (st : Int) : Calls Tryz.prog 3 #[.agg [str s.user, .slice va vl vc, .slice va' vl' vc', str s.iou].toArray, i64 e, .bool at', i64 st] w (RetE w (.bool true)) := by
  have hf := fun {w : World} (hw : Laid M w) => fews_ok hw (s := s) ⟨_, _, _, _, _, _, rfl, hA, hP⟩
  refine calls_st (l := [.agg [str s.user, .slice va vl vc, .slice va' vl' vc', str s.iou].toArray, i64 e, .bool at', i64 st]) hM Tryz.func3 rfl rfl rfl (E0 := [(0, true, .agg [str s.user, .slice va vl vc, .slice va' vl' vc', str s.iou].toArray), (1, true, i64 e), (2, true, .bool at'), (3, true, i64 st)]) (params_cons rfl (params_cons rfl (params_cons rfl (params_cons rfl (params_nil _))))) ?_
  cases hfew : fewSu s with
  | false =>
    rw [hfew] at hf
    repeat' (first | refine wc_seq ?_ | refine wc_region ?_ | refine wl_nil ?_ | refine wn_seq ?_ | refine wn_blk ?_ | refine wc_skip ?_ | refine wc_block ?_ | refine wc_exit rfl ?_ | (show WL _ _ (_ :: _) _ _ _ _; first | refine yl_v rfl rfl rfl ?_ | refine wl_v rfl rfl rfl (by first | ((show OpV _ _ _ _ (Oper.mk _ (Op.call ⟨.value (.func 6), _, _⟩) _ _ _ _) _ _; exact ov_call Tryz.call6 rfl (by intro himp; first | rfl | (simp_all; done)) (by rfl) (fun _ _ h k => h.ext k) (fun hcg w hw => awake_ok hG hw.laid))) | ((show OpV _ _ _ _ (Oper.mk _ (Op.call ⟨.value (.func 7), _, _⟩) _ _ _ _) _ _; exact ov_call Tryz.call7 rfl (by intro himp; first | rfl | (simp_all; done)) (by rfl) (fun _ _ h k => h.ext k) (fun hcg w hw => hf hw.laid))) | fail) ?_ | refine xl_box rfl (fun _ => ?_)) | refine wc_ret rfl ?_)
    refine wc_cond rfl (fun hc => ?_) (fun hc => by exfalso; simp at hc)
    repeat' (first | refine wc_seq ?_ | refine wc_region ?_ | refine wl_nil ?_ | refine wn_seq ?_ | refine wn_blk ?_ | refine wc_skip ?_ | refine wc_block ?_ | refine wc_exit rfl ?_ | (show WL _ _ (_ :: _) _ _ _ _; first | refine yl_v rfl rfl rfl ?_ | refine wl_v rfl rfl rfl (by first  | fail) ?_ | refine xl_box rfl (fun _ => ?_)) | refine wc_ret rfl ?_)
    exact wr_weak (fun _ h => h.drop (List.nil_sublist _)) (wr_tmp rfl rfl rfl)
  | true =>
    rw [hfew] at hf
    have hsm := few_sm hfew
    have hsm2 : SmS s 100000 100000 := hsm.mono (by omega) (by omega)
    have hus := hsm.user
    repeat' (first | refine wc_seq ?_ | refine wc_region ?_ | refine wl_nil ?_ | refine wn_seq ?_ | refine wn_blk ?_ | refine wc_skip ?_ | refine wc_block ?_ | refine wc_exit rfl ?_ | (show WL _ _ (_ :: _) _ _ _ _; first | refine yl_v rfl rfl rfl ?_ | refine wl_v rfl rfl rfl (by first | ((show OpV _ _ _ _ (Oper.mk _ (Op.call ⟨.value (.func 6), _, _⟩) _ _ _ _) _ _; exact ov_call Tryz.call6 rfl (by intro himp; first | rfl | (simp_all; done)) (by rfl) (fun _ _ h k => h.ext k) (fun hcg w hw => awake_ok hG hw.laid))) | ((show OpV _ _ _ _ (Oper.mk _ (Op.call ⟨.value (.func 7), _, _⟩) _ _ _ _) _ _; exact ov_call Tryz.call7 rfl (by intro himp; first | rfl | (simp_all; done)) (by rfl) (fun _ _ h k => h.ext k) (fun hcg w hw => hf hw.laid))) | fail) ?_ | refine xl_box rfl (fun _ => ?_)) | refine wc_ret rfl ?_)
    refine wc_cond rfl (fun hc => by exfalso; simp at hc) (fun hc => ?_)
    clear hc hf
    repeat' (first | refine wc_seq ?_ | refine wc_region ?_ | refine wl_nil ?_ | refine wn_seq ?_ | refine wn_blk ?_ | refine wc_skip ?_ | refine wc_block ?_ | refine wc_exit rfl ?_ | (show WL _ _ (_ :: _) _ _ _ _; first | refine yl_v rfl rfl rfl ?_ | refine wl_v rfl rfl rfl (by first  | fail) ?_ | refine xl_box rfl (fun _ => ?_)) | refine wc_ret rfl ?_)
    refine wc_draw 39 (by kernel_rfl) rfl (by kernel_rfl) (fun _ _ h k => h.ext k) ?_
    repeat' (first | (show WD _ _ (_ :: _) _ _ _ _ _ _; first | refine yd_v rfl rfl rfl rfl rfl rfl ?_ | refine wd_v rfl rfl rfl rfl rfl rfl (by first  | fail) ?_ | refine yd_new rfl rfl rfl rfl rfl rfl ?_ | refine wd_conv rfl rfl rfl rfl rfl rfl rfl rfl rfl rfl ?_) | (show WD _ _ _ _ _ _ _ _ _; first | refine wd_nil ?_ | refine wd_nilF ?_) | (first | refine wc_seq ?_ | refine wc_region ?_ | refine wl_nil ?_ | refine wn_seq ?_ | refine wn_blk ?_ | refine wc_skip ?_ | refine wc_block ?_ | refine wc_exit rfl ?_ | (show WL _ _ (_ :: _) _ _ _ _; first | refine yl_v rfl rfl rfl ?_ | refine wl_v rfl rfl rfl (by first  | fail) ?_ | refine xl_box rfl (fun _ => ?_)) | refine wc_ret rfl ?_))
    refine wd_newG rfl (by rfl) rfl rfl rfl rfl rfl steady_got (or_callS (R := fun M' H v => H = [] ∧ RspZ M' 200 sXml (wr (answerN s e at')) v) (args := #[.agg [str s.user, .slice va vl vc, .slice va' vl' vc', str s.iou].toArray, i64 e, .bool at']) Tryz.call9 rfl rfl rfl (fun _ _ _ h => h.1) (fun w hw => Answer_ok hG hw.laid s e hA hP hsm2 at')) ?_
    repeat' (first | (show WD _ _ (_ :: _) _ _ _ _ _ _; first | refine yd_v rfl rfl rfl rfl rfl rfl ?_ | refine wd_v rfl rfl rfl rfl rfl rfl (by first  | fail) ?_ | refine yd_new rfl rfl rfl rfl rfl rfl ?_ | refine wd_conv rfl rfl rfl rfl rfl rfl rfl rfl rfl rfl ?_) | (show WD _ _ _ _ _ _ _ _ _; first | refine wd_nil ?_ | refine wd_nilF ?_) | (first | refine wc_seq ?_ | refine wc_region ?_ | refine wl_nil ?_ | refine wn_seq ?_ | refine wn_blk ?_ | refine wc_skip ?_ | refine wc_block ?_ | refine wc_exit rfl ?_ | (show WL _ _ (_ :: _) _ _ _ _; first | refine yl_v rfl rfl rfl ?_ | refine wl_v rfl rfl rfl (by first  | fail) ?_ | refine xl_box rfl (fun _ => ?_)) | refine wc_ret rfl ?_))
    refine wd_newG rfl (by rfl) rfl rfl rfl rfl rfl steady_got (or_callS (R := fun M' H v => H = [] ∧ RspZ M' 200 sXml (wr (answerN s e at')) v) (args := #[.agg [str s.user, .slice va vl vc, .slice va' vl' vc', str s.iou].toArray, i64 e, .bool at']) Tryz.call10 rfl rfl rfl (fun _ _ _ h => h.1) (fun w hw => rAnswer_ok hw.laid s e hA hP hsm2 at')) ?_
    refine wd_rel3 (s := 22) (t := 26) rfl (by rfl) rfl rfl rfl rfl rfl rfl rfl rfl rfl (or_callG2 (args := fun u u' => #[u, u']) Tryz.call8 (fun _ _ => rfl) (fun _ _ => rfl) (fun _ _ => rfl) (fun u u' w M1 M2 h1 h2 hl => same05_Z h1.2 h2.2 w hl)) (looks_of rfl) (looks_of rfl) ?_
    repeat' (first | (show WD _ _ (_ :: _) _ _ _ _ _ _; first | refine yd_v rfl rfl rfl rfl rfl rfl ?_ | refine wd_v rfl rfl rfl rfl rfl rfl (by first  | fail) ?_ | refine yd_new rfl rfl rfl rfl rfl rfl ?_ | refine wd_conv rfl rfl rfl rfl rfl rfl rfl rfl rfl rfl ?_) | (show WD _ _ _ _ _ _ _ _ _; first | refine wd_nil ?_ | refine wd_nilF ?_) | (first | refine wc_seq ?_ | refine wc_region ?_ | refine wl_nil ?_ | refine wn_seq ?_ | refine wn_blk ?_ | refine wc_skip ?_ | refine wc_block ?_ | refine wc_exit rfl ?_ | (show WL _ _ (_ :: _) _ _ _ _; first | refine yl_v rfl rfl rfl ?_ | refine wl_v rfl rfl rfl (by first  | fail) ?_ | refine xl_box rfl (fun _ => ?_)) | refine wc_ret rfl ?_))
    refine wd_newG rfl (by rfl) rfl rfl rfl rfl rfl steady_got (or_callS (R := fun M' H v => H = [] ∧ RspZ M' 200 sXml (wr (answerN s 0 at')) v) (args := #[.agg [str s.user, .slice va vl vc, .slice va' vl' vc', str s.iou].toArray, i64 0, .bool at']) Tryz.call9 rfl rfl rfl (fun _ _ _ h => h.1) (fun w hw => Answer_ok hG hw.laid s 0 hA hP hsm2 at')) ?_
    repeat' (first | (show WD _ _ (_ :: _) _ _ _ _ _ _; first | refine yd_v rfl rfl rfl rfl rfl rfl ?_ | refine wd_v rfl rfl rfl rfl rfl rfl (by first  | fail) ?_ | refine yd_new rfl rfl rfl rfl rfl rfl ?_ | refine wd_conv rfl rfl rfl rfl rfl rfl rfl rfl rfl rfl ?_) | (show WD _ _ _ _ _ _ _ _ _; first | refine wd_nil ?_ | refine wd_nilF ?_) | (first | refine wc_seq ?_ | refine wc_region ?_ | refine wl_nil ?_ | refine wn_seq ?_ | refine wn_blk ?_ | refine wc_skip ?_ | refine wc_block ?_ | refine wc_exit rfl ?_ | (show WL _ _ (_ :: _) _ _ _ _; first | refine yl_v rfl rfl rfl ?_ | refine wl_v rfl rfl rfl (by first  | fail) ?_ | refine xl_box rfl (fun _ => ?_)) | refine wc_ret rfl ?_))
    refine wd_newG rfl (by rfl) rfl rfl rfl rfl rfl steady_got (or_callS (R := fun M' H v => H = [] ∧ RspZ M' 200 sXml (wr (answerN s 0 at')) v) (args := #[.agg [str s.user, .slice va vl vc, .slice va' vl' vc', str s.iou].toArray, i64 0, .bool at']) Tryz.call10 rfl rfl rfl (fun _ _ _ h => h.1) (fun w hw => rAnswer_ok hw.laid s 0 hA hP hsm2 at')) ?_
    refine wd_rel3 (s := 32) (t := 35) rfl (by rfl) rfl rfl rfl rfl rfl rfl rfl rfl rfl (or_callG2 (args := fun u u' => #[u, u']) Tryz.call8 (fun _ _ => rfl) (fun _ _ => rfl) (fun _ _ => rfl) (fun u u' w M1 M2 h1 h2 hl => same05_Z h1.2 h2.2 w hl)) (looks_of rfl) (looks_of rfl) ?_
    repeat' (first | (show WD _ _ (_ :: _) _ _ _ _ _ _; first | refine yd_v rfl rfl rfl rfl rfl rfl ?_ | refine wd_v rfl rfl rfl rfl rfl rfl (by first  | fail) ?_ | refine yd_new rfl rfl rfl rfl rfl rfl ?_ | refine wd_conv rfl rfl rfl rfl rfl rfl rfl rfl rfl rfl ?_) | (show WD _ _ _ _ _ _ _ _ _; first | refine wd_nil ?_ | refine wd_nilF ?_) | (first | refine wc_seq ?_ | refine wc_region ?_ | refine wl_nil ?_ | refine wn_seq ?_ | refine wn_blk ?_ | refine wc_skip ?_ | refine wc_block ?_ | refine wc_exit rfl ?_ | (show WL _ _ (_ :: _) _ _ _ _; first | refine yl_v rfl rfl rfl ?_ | refine wl_v rfl rfl rfl (by first  | fail) ?_ | refine xl_box rfl (fun _ => ?_)) | refine wc_ret rfl ?_))
    refine wd_newG rfl (by rfl) rfl rfl rfl rfl rfl steady_got (or_callS (R := fun M' H v => H = [] ∧ RspZ M' 200 sTextT (plainT s.user at') v) (args := #[str s.user, .bool at']) Tryz.call11 rfl rfl rfl (fun _ _ _ h => h.1) (fun w hw => plain_ok hw.laid s.user at' (by omega))) ?_
    repeat' (first | (show WD _ _ (_ :: _) _ _ _ _ _ _; first | refine yd_v rfl rfl rfl rfl rfl rfl ?_ | refine wd_v rfl rfl rfl rfl rfl rfl (by first  | fail) ?_ | refine yd_new rfl rfl rfl rfl rfl rfl ?_ | refine wd_conv rfl rfl rfl rfl rfl rfl rfl rfl rfl rfl ?_) | (show WD _ _ _ _ _ _ _ _ _; first | refine wd_nil ?_ | refine wd_nilF ?_) | (first | refine wc_seq ?_ | refine wc_region ?_ | refine wl_nil ?_ | refine wn_seq ?_ | refine wn_blk ?_ | refine wc_skip ?_ | refine wc_block ?_ | refine wc_exit rfl ?_ | (show WL _ _ (_ :: _) _ _ _ _; first | refine yl_v rfl rfl rfl ?_ | refine wl_v rfl rfl rfl (by first  | fail) ?_ | refine xl_box rfl (fun _ => ?_)) | refine wc_ret rfl ?_))
    refine wd_newG rfl (by rfl) rfl rfl rfl rfl rfl steady_got (or_callS (R := fun M' H v => H = [] ∧ RspZ M' 200 sTextT (plainT s.user at') v) (args := #[str s.user, .bool at']) Tryz.call12 rfl rfl rfl (fun _ _ _ h => h.1) (fun w hw => rplain_ok hw.laid s.user at' (by omega))) ?_
    refine wd_rel3 (s := 42) (t := 46) rfl (by rfl) rfl rfl rfl rfl rfl rfl rfl rfl rfl (or_callG2 (args := fun u u' => #[u, u']) Tryz.call8 (fun _ _ => rfl) (fun _ _ => rfl) (fun _ _ => rfl) (fun u u' w M1 M2 h1 h2 hl => same05_Z h1.2 h2.2 w hl)) (looks_of rfl) (looks_of rfl) ?_
    repeat' (first | (show WD _ _ (_ :: _) _ _ _ _ _ _; first | refine yd_v rfl rfl rfl rfl rfl rfl ?_ | refine wd_v rfl rfl rfl rfl rfl rfl (by first  | fail) ?_ | refine yd_new rfl rfl rfl rfl rfl rfl ?_ | refine wd_conv rfl rfl rfl rfl rfl rfl rfl rfl rfl rfl ?_) | (show WD _ _ _ _ _ _ _ _ _; first | refine wd_nil ?_ | refine wd_nilF ?_) | (first | refine wc_seq ?_ | refine wc_region ?_ | refine wl_nil ?_ | refine wn_seq ?_ | refine wn_blk ?_ | refine wc_skip ?_ | refine wc_block ?_ | refine wc_exit rfl ?_ | (show WL _ _ (_ :: _) _ _ _ _; first | refine yl_v rfl rfl rfl ?_ | refine wl_v rfl rfl rfl (by first  | fail) ?_ | refine xl_box rfl (fun _ => ?_)) | refine wc_ret rfl ?_))
    refine wd_newG rfl (by rfl) rfl rfl rfl rfl rfl steady_got (or_callS (R := fun M' H v => H = [] ∧ RspZ M' st sTextT (reasonS st ++ [10]) v) (args := #[i64 st]) Tryz.call13 rfl rfl rfl (fun _ _ _ h => h.1) (fun w hw => refuse_ok hw.laid st)) ?_
    repeat' (first | (show WD _ _ (_ :: _) _ _ _ _ _ _; first | refine yd_v rfl rfl rfl rfl rfl rfl ?_ | refine wd_v rfl rfl rfl rfl rfl rfl (by first  | fail) ?_ | refine yd_new rfl rfl rfl rfl rfl rfl ?_ | refine wd_conv rfl rfl rfl rfl rfl rfl rfl rfl rfl rfl ?_) | (show WD _ _ _ _ _ _ _ _ _; first | refine wd_nil ?_ | refine wd_nilF ?_) | (first | refine wc_seq ?_ | refine wc_region ?_ | refine wl_nil ?_ | refine wn_seq ?_ | refine wn_blk ?_ | refine wc_skip ?_ | refine wc_block ?_ | refine wc_exit rfl ?_ | (show WL _ _ (_ :: _) _ _ _ _; first | refine yl_v rfl rfl rfl ?_ | refine wl_v rfl rfl rfl (by first  | fail) ?_ | refine xl_box rfl (fun _ => ?_)) | refine wc_ret rfl ?_))
    refine wd_newG rfl (by rfl) rfl rfl rfl rfl rfl steady_got (or_callS (R := fun M' H v => H = [] ∧ RspZ M' st sTextT (reasonS st ++ [10]) v) (args := #[i64 st]) Tryz.call14 rfl rfl rfl (fun _ _ _ h => h.1) (fun w hw => rrefuse_ok hw.laid st)) ?_
    refine wd_rel3 (s := 51) (t := 53) rfl (by rfl) rfl rfl rfl rfl rfl rfl rfl rfl rfl (or_callG2 (args := fun u u' => #[u, u']) Tryz.call8 (fun _ _ => rfl) (fun _ _ => rfl) (fun _ _ => rfl) (fun u u' w M1 M2 h1 h2 hl => same05_Z h1.2 h2.2 w hl)) (looks_of rfl) (looks_of rfl) ?_
    repeat' (first | (show WD _ _ (_ :: _) _ _ _ _ _ _; first | refine yd_v rfl rfl rfl rfl rfl rfl ?_ | refine wd_v rfl rfl rfl rfl rfl rfl (by first  | fail) ?_ | refine yd_new rfl rfl rfl rfl rfl rfl ?_ | refine wd_conv rfl rfl rfl rfl rfl rfl rfl rfl rfl rfl ?_) | (show WD _ _ _ _ _ _ _ _ _; first | refine wd_nil ?_ | refine wd_nilF ?_) | (first | refine wc_seq ?_ | refine wc_region ?_ | refine wl_nil ?_ | refine wn_seq ?_ | refine wn_blk ?_ | refine wc_skip ?_ | refine wc_block ?_ | refine wc_exit rfl ?_ | (show WL _ _ (_ :: _) _ _ _ _; first | refine yl_v rfl rfl rfl ?_ | refine wl_v rfl rfl rfl (by first  | fail) ?_ | refine xl_box rfl (fun _ => ?_)) | refine wc_ret rfl ?_))
    exact wr_weak (fun _ h => h.drop (List.nil_sublist _)) (wr_tmp rfl rfl rfl)
theorem same05_two {M1 M2 : Ghost} (hm : ∀ b o, M1 b o → M2 b o) {st : Int} {kind body : List UInt8} {a : Option Addr} {l c : Nat} {a' : Option Addr} {l' c' : Nat} (hu : SlP M1 (.slice a l c) [(sCT, kind)]) (hv : SlP M2 (.slice a' l' c') [(sCT, kind)]) {w : World} (hM : Laid M2 w) : Calls Tryz.prog 8 #[.agg [i64 st, .slice a l c, str body].toArray, .agg [i64 st, .slice a' l' c', str body].toArray] w (RetE w (.bool true)) :=
  same05_ok hM (Sl.mono hu hm (fun _ _ _ h => h)) hv
set_option maxHeartbeats 1000000 in
theorem shows_ok (hG : Glob M) (hM : Laid M w) (a b c : List UInt8) (e : Int) : Calls Tryz.prog 4 #[str a, str b, str c, i64 e] w (RetE w (.bool true)) := by
  refine calls_st (l := [str a, str b, str c, i64 e]) hM Tryz.func4 rfl rfl rfl (E0 := [(0, true, str a), (1, true, str b), (2, true, str c), (3, true, i64 e)]) (params_cons rfl (params_cons rfl (params_cons rfl (params_cons rfl (params_nil _))))) ?_
  repeat' (first | refine wc_seq ?_ | refine wc_region ?_ | refine wl_nil ?_ | refine wn_seq ?_ | refine wn_blk ?_ | refine wc_skip ?_ | refine wc_block ?_ | refine wc_exit rfl ?_ | (show WL _ _ (_ :: _) _ _ _ _; first | refine yl_v rfl rfl rfl ?_ | refine wl_v rfl rfl rfl (by first | ((show OpV _ _ _ _ (Oper.mk _ (Op.call ⟨.value (.func 6), _, _⟩) _ _ _ _) _ _; exact ov_call Tryz.call6 rfl (by intro himp; first | rfl | (simp_all; done)) (by rfl) (fun _ _ h k => h.ext k) (fun hcg w hw => awake_ok hG hw.laid))) | fail) ?_) | refine wc_ret rfl ?_)
  refine wc_cond rfl (fun hc => ?_) (fun hc => ?_)
  · repeat' (first | refine wc_seq ?_ | refine wc_region ?_ | refine wl_nil ?_ | refine wn_seq ?_ | refine wn_blk ?_ | refine wc_skip ?_ | refine wc_block ?_ | refine wc_exit rfl ?_ | (show WL _ _ (_ :: _) _ _ _ _; first | refine yl_v rfl rfl rfl ?_ | refine wl_v rfl rfl rfl (by first  | fail) ?_) | refine wc_ret rfl ?_)
    exact wr_weak (fun _ h => h.drop (List.nil_sublist _)) (wr_tmp rfl rfl rfl)
  obtain ⟨⟨la, lb⟩, lc⟩ : (a.length ≤ 200 ∧ b.length ≤ 200) ∧ c.length ≤ 200 := by
    simp only [Bool.or_eq_false_iff, decide_eq_false_iff_not] at hc
    obtain ⟨⟨h1, h2⟩, h3⟩ := hc
    exact ⟨⟨by omega, by omega⟩, by omega⟩
  clear hc
  repeat' (first | refine wc_seq ?_ | refine wc_region ?_ | refine wl_nil ?_ | refine wn_seq ?_ | refine wn_blk ?_ | refine wc_skip ?_ | refine wc_block ?_ | refine wc_exit rfl ?_ | (show WL _ _ (_ :: _) _ _ _ _; first | refine yl_v rfl rfl rfl ?_ | refine wl_v rfl rfl rfl (by first  | fail) ?_) | refine wc_ret rfl ?_)
  refine wl_callS rfl Tryz.call15 rfl rfl rfl rfl (fun w hw => Proxy_ok hG hw.laid a e (by omega)) ?_
  rintro _ H1 M1 hm1 hn1 ⟨rfl, a1, l1, c1, rfl, hS1⟩
  have hG1 := hG.mono hm1
  repeat' (first | refine wc_seq ?_ | refine wc_region ?_ | refine wl_nil ?_ | refine wn_seq ?_ | refine wn_blk ?_ | refine wc_skip ?_ | refine wc_block ?_ | refine wc_exit rfl ?_ | (show WL _ _ (_ :: _) _ _ _ _; first | refine yl_v rfl rfl rfl ?_ | refine wl_v rfl rfl rfl (by first  | fail) ?_) | refine wc_ret rfl ?_)
  refine wl_callS rfl Tryz.call16 rfl rfl rfl rfl (fun w hw => rProxy_ok hw.laid a e (by omega)) ?_
  rintro _ H2 M2 hm2 hn2 ⟨rfl, a2, l2, c2, rfl, hS2⟩
  have hG2 := hG1.mono hm2
  have hs2 := fun {w : World} (hw : Laid M2 w) => same05_two (st := 200) (body := wr (proxyN a e)) hm2 hS1 hS2 hw
  repeat' (first | refine wc_seq ?_ | refine wc_region ?_ | refine wl_nil ?_ | refine wn_seq ?_ | refine wn_blk ?_ | refine wc_skip ?_ | refine wc_block ?_ | refine wc_exit rfl ?_ | (show WL _ _ (_ :: _) _ _ _ _; first | refine yl_v rfl rfl rfl ?_ | refine wl_v rfl rfl rfl (by first | ((show OpV _ _ _ _ (Oper.mk _ (Op.call ⟨.value (.func 8), _, _⟩) _ _ _ _) _ _; exact ov_call Tryz.call8 rfl (by intro himp; first | rfl | (simp_all; done)) (by rfl) (fun _ _ h k => h.ext k) (fun hcg w hw => hs2 hw.laid))) | fail) ?_) | refine wc_ret rfl ?_)
  refine wl_callS rfl Tryz.call15 rfl rfl rfl rfl (fun w hw => Proxy_ok hG2 hw.laid a 0 (by omega)) ?_
  rintro _ H3 M3 hm3 hn3 ⟨rfl, a3, l3, c3, rfl, hS3⟩
  have hG3 := hG2.mono hm3
  repeat' (first | refine wc_seq ?_ | refine wc_region ?_ | refine wl_nil ?_ | refine wn_seq ?_ | refine wn_blk ?_ | refine wc_skip ?_ | refine wc_block ?_ | refine wc_exit rfl ?_ | (show WL _ _ (_ :: _) _ _ _ _; first | refine yl_v rfl rfl rfl ?_ | refine wl_v rfl rfl rfl (by first  | fail) ?_) | refine wc_ret rfl ?_)
  refine wl_callS rfl Tryz.call16 rfl rfl rfl rfl (fun w hw => rProxy_ok hw.laid a 0 (by omega)) ?_
  rintro _ H4 M4 hm4 hn4 ⟨rfl, a4, l4, c4, rfl, hS4⟩
  have hG4 := hG3.mono hm4
  have hs4 := fun {w : World} (hw : Laid M4 w) => same05_two (st := 200) (body := wr (proxyN a 0)) hm4 hS3 hS4 hw
  repeat' (first | refine wc_seq ?_ | refine wc_region ?_ | refine wl_nil ?_ | refine wn_seq ?_ | refine wn_blk ?_ | refine wc_skip ?_ | refine wc_block ?_ | refine wc_exit rfl ?_ | (show WL _ _ (_ :: _) _ _ _ _; first | refine yl_v rfl rfl rfl ?_ | refine wl_v rfl rfl rfl (by first | ((show OpV _ _ _ _ (Oper.mk _ (Op.call ⟨.value (.func 8), _, _⟩) _ _ _ _) _ _; exact ov_call Tryz.call8 rfl (by intro himp; first | rfl | (simp_all; done)) (by rfl) (fun _ _ h k => h.ext k) (fun hcg w hw => hs4 hw.laid))) | fail) ?_) | refine wc_ret rfl ?_)
  refine wl_callS rfl Tryz.call17 rfl rfl rfl rfl (fun w hw => Form_ok hG4 hw.laid a b c (by omega) (by omega) (by omega)) ?_
  rintro _ H5 M5 hm5 hn5 ⟨rfl, a5, l5, c5, rfl, hS5⟩
  have hG5 := hG4.mono hm5
  repeat' (first | refine wc_seq ?_ | refine wc_region ?_ | refine wl_nil ?_ | refine wn_seq ?_ | refine wn_blk ?_ | refine wc_skip ?_ | refine wc_block ?_ | refine wc_exit rfl ?_ | (show WL _ _ (_ :: _) _ _ _ _; first | refine yl_v rfl rfl rfl ?_ | refine wl_v rfl rfl rfl (by first  | fail) ?_) | refine wc_ret rfl ?_)
  refine wl_callS rfl Tryz.call18 rfl rfl rfl rfl (fun w hw => rForm_ok hw.laid a b c (by omega) (by omega) (by omega)) ?_
  rintro _ H6 M6 hm6 hn6 ⟨rfl, a6, l6, c6, rfl, hS6⟩
  have hG6 := hG5.mono hm6
  have hs6 := fun {w : World} (hw : Laid M6 w) => same05_two (st := 200) (body := wr (formPN a b c)) hm6 hS5 hS6 hw
  repeat' (first | refine wc_seq ?_ | refine wc_region ?_ | refine wl_nil ?_ | refine wn_seq ?_ | refine wn_blk ?_ | refine wc_skip ?_ | refine wc_block ?_ | refine wc_exit rfl ?_ | (show WL _ _ (_ :: _) _ _ _ _; first | refine yl_v rfl rfl rfl ?_ | refine wl_v rfl rfl rfl (by first | ((show OpV _ _ _ _ (Oper.mk _ (Op.call ⟨.value (.func 8), _, _⟩) _ _ _ _) _ _; exact ov_call Tryz.call8 rfl (by intro himp; first | rfl | (simp_all; done)) (by rfl) (fun _ _ h k => h.ext k) (fun hcg w hw => hs6 hw.laid))) | fail) ?_) | refine wc_ret rfl ?_)
  refine wl_callS rfl Tryz.call19 rfl rfl rfl rfl (fun w hw => Page_ok hG6 hw.laid a b (by omega) (by omega)) ?_
  rintro _ H7 M7 hm7 hn7 ⟨rfl, a7, l7, c7, rfl, hS7⟩
  have hG7 := hG6.mono hm7
  repeat' (first | refine wc_seq ?_ | refine wc_region ?_ | refine wl_nil ?_ | refine wn_seq ?_ | refine wn_blk ?_ | refine wc_skip ?_ | refine wc_block ?_ | refine wc_exit rfl ?_ | (show WL _ _ (_ :: _) _ _ _ _; first | refine yl_v rfl rfl rfl ?_ | refine wl_v rfl rfl rfl (by first  | fail) ?_) | refine wc_ret rfl ?_)
  refine wl_callS rfl Tryz.call20 rfl rfl rfl rfl (fun w hw => rPage_ok hw.laid a b (by omega) (by omega)) ?_
  rintro _ H8 M8 hm8 hn8 ⟨rfl, a8, l8, c8, rfl, hS8⟩
  have hG8 := hG7.mono hm8
  have hs8 := fun {w : World} (hw : Laid M8 w) => same05_two (st := 200) (body := wr (pageN a b)) hm8 hS7 hS8 hw
  repeat' (first | refine wc_seq ?_ | refine wc_region ?_ | refine wl_nil ?_ | refine wn_seq ?_ | refine wn_blk ?_ | refine wc_skip ?_ | refine wc_block ?_ | refine wc_exit rfl ?_ | (show WL _ _ (_ :: _) _ _ _ _; first | refine yl_v rfl rfl rfl ?_ | refine wl_v rfl rfl rfl (by first | ((show OpV _ _ _ _ (Oper.mk _ (Op.call ⟨.value (.func 8), _, _⟩) _ _ _ _) _ _; exact ov_call Tryz.call8 rfl (by intro himp; first | rfl | (simp_all; done)) (by rfl) (fun _ _ h k => h.ext k) (fun hcg w hw => hs8 hw.laid))) | fail) ?_) | refine wc_ret rfl ?_)
  exact wr_weak (fun _ h => h.drop (List.nil_sublist _)) (wr_tmp rfl rfl rfl)
end Go.Proofs.YtgfbieplidpebaaGreatDoor
/-
  Arguments opened: what the reading of an argument says of memory, with the sizes that a row allows. Nothing of the program stands here.
-/
namespace Go.Eng
open Go.RowKit Go.ChangeShapes Go.WideShapes

/-- all that stands in a world -/
def All (W : World) : Ghost := fun b o => W.heap[b]? = some o
theorem all_laid (W : World) : Laid (All W) W := fun _ _ h => h
theorem cell_inv {W : World} {g i : Nat} {v : Value} (h : W.cell? ⟨g, i, none⟩ = some v) : ∃ cs T fz, W.heap[g]? = some (.cells cs T fz) ∧ cs[i]? = some v := by
  unfold World.cell? at h
  split at h
  · rename_i cs T fz e; exact ⟨cs, T, fz, e, by simpa using h⟩
  · cases h
/-- a datum's sizes -/
def Wt {H : Type} (P : Program) (t : TypeId) (d : DataW H) : Prop := ∀ n ∈ d.weights P t, n ≤ reachBytes
/-- how the cells of a type open -/
structure Opens (P : Program) (w : World) (t : TypeId) {α : Type} (R : α → List Value → Prop) : Prop where
  go : ∀ {H : Type} (enc : TypeId × Value → H) (fuel : Nat) (cs : List Value) (d : DataW H) (ps : List MemPlace), DataW.trod enc P w 0 (fun _ => true) true fuel t cs = some (d, ps) → Wt P t d → ∃ x, R x cs
section
variable {P : Program} {w : World} {t : TypeId}
theorem str_of (s : ByteArray) : Value.string s = str s.data.toList := by cases s; simp
theorem opens_str (ht : P.underlying t = some .string) : Opens P w t (fun s vs => vs = [str s] ∧ s.length ≤ reachBytes) := ⟨fun enc fuel cs d ps h hw => by
  obtain ⟨s, e1, e2, _⟩ := DataW.trod_string ht h
  simp only [Prod.mk.injEq] at e2
  refine ⟨s.data.toList, by rw [e1, str_of], ?_⟩
  exact hw _ (by rw [e2.1]; simp [DataW.weights])⟩
theorem opens_bool (ht : P.underlying t = some .bool) : Opens P w t (fun b vs => vs = [.bool b]) := ⟨fun enc fuel cs d ps h hw => by
  cases fuel with
  | zero => simp [DataW.trod] at h
  | succ n =>
    unfold DataW.trod at h
    rw [ht] at h
    split at h <;> simp_all⟩
theorem opens_int {k : IntKind} (ht : P.underlying t = some (.int k)) : Opens P w t (fun z vs => vs = [.int k z] ∧ k.min ≤ z ∧ z ≤ k.max) := ⟨fun enc fuel cs d ps h hw => by
  obtain ⟨z, e1, _, hwf⟩ := DataW.trod_int ht h
  refine ⟨z, e1, ?_⟩
  simpa [Lit.wf] using hwf⟩
theorem wt_all {H : Type} {e : TypeId} {d : DataW H} : ∀ {ds : List (DataW H)}, d ∈ ds → ∀ n ∈ d.weights P e, n ∈ DataW.weightsAll P e ds
  | x :: ds, hd, n, hn => by
    simp only [DataW.weightsAll, List.mem_append]
    rcases List.mem_cons.1 hd with rfl | hd
    · exact .inl hn
    · exact .inr (wt_all hd n hn)
theorem opens_slice {e : TypeId} {m : Nat} {α : Type} {R : α → List Value → Prop} (ht : P.underlying t = some (.slice e)) (hc : P.cellsOf e = m) (hm : 0 < m) (he : Opens P w e R) :
    Opens P w t (fun (l : List α) vs => ∃ v, vs = [v] ∧ Sl (All w) m R v l ∧ l.length * P.bytesOf e ≤ reachBytes) := ⟨fun enc fuel cs d ps h hw => by
  rcases Go.Deep.open_slice ht h with ⟨rfl, _⟩ | ⟨a, len, cap, q, n, D, Pl, rfl, _, hl, hcm, hq, hx, hel⟩
  · exact ⟨[], _, rfl, sl_nil, by simp⟩
  · simp only [if_true] at hq
    subst hq
    simp only [Prod.mk.injEq] at hx
    have hwt : ∀ i, i < len → Wt P e (D i) := by
      intro i hi k hk
      refine hw k ?_
      rw [hx.1]
      simp only [DataW.weights, ht, List.mem_cons, List.mem_append]
      exact .inr (.inl (wt_all (List.mem_map.2 ⟨i, by simpa using hi, rfl⟩) k hk))
    have hbytes : len * P.bytesOf e ≤ reachBytes := by
      refine Nat.le_trans (Nat.mul_le_mul_right _ (Nat.le_add_right len (q - len))) (hw ((len + (q - len)) * P.bytesOf e) ?_)
      rw [hx.1]
      simp [DataW.weights, ht]
    have each : ∀ i, i < len → ∃ y : α, ∃ cs' : List Value, cs'.length = m ∧ R y cs' ∧ ∀ j, j < m → w.cell? (a.add (i * m + j)) = cs'[j]? := by
      intro i hi
      obtain ⟨cs', h1, h2⟩ := hel i (by omega)
      rw [hc] at h1
      obtain ⟨_, hlen, hcell⟩ := World.cells?_some h1
      obtain ⟨y, hy⟩ := he.go enc n cs' (D i) (Pl i) h2 (hwt i hi)
      exact ⟨y, cs', hlen, hy, fun j hj => by rw [← hcell j hj, Go.Deep.add_add]⟩
    have hmax : len ≤ 9223372036854775807 := by unfold maxLen at hcm; omega
    by_cases h0 : len = 0
    · subst h0
      exact ⟨[], _, rfl, ⟨some a, q, rfl, Nat.zero_le _, by simp, fun h => absurd rfl h⟩, by simp⟩
    · obtain ⟨y0, cs0, hl0, _, hc0⟩ := each 0 (by omega)
      have hc00 := hc0 0 hm
      have hsome : ∃ v, cs0[0]? = some v := ⟨cs0[0]'(by omega), by simp [show 0 < cs0.length by omega]⟩
      obtain ⟨v0, hv0⟩ := hsome
      rw [hv0] at hc00
      simp only [Nat.zero_mul, Nat.add_zero, Addr.add, if_true] at hc00
      obtain ⟨b, o, spot⟩ := a
      cases spot with
      | some x =>
        simp only [World.cell?] at hc00
        split at hc00
        · simp at hc00
        · cases hc00
      | none =>
        obtain ⟨cells, T, fz, hh, _⟩ := cell_inv hc00
        have : ∀ n, n ≤ len → ∃ l : List α, l.length = n ∧ ∀ i (hi : i < l.length), ∃ vs, vs.length = m ∧ R l[i] vs ∧ ∀ j, j < m → cells[o + i * m + j]? = vs[j]? := by
          intro n
          induction n with
          | zero => intro _; exact ⟨[], rfl, fun i hi => absurd hi (by simp)⟩
          | succ n ih =>
            intro hn
            obtain ⟨l, hl', hall⟩ := ih (by omega)
            obtain ⟨y, cs', h1, h2, h3⟩ := each n (by omega)
            refine ⟨l ++ [y], by simp [hl'], fun i hi => ?_⟩
            by_cases hin : i < l.length
            · obtain ⟨vs, g1, g2, g3⟩ := hall i hin
              exact ⟨vs, g1, by rw [List.getElem_append_left hin]; exact g2, g3⟩
            · have : i = n := by simp at hi; omega
              subst this
              refine ⟨cs', h1, ?_, fun j hj => ?_⟩
              · rw [List.getElem_append_right (by omega)]; simpa using h2
              · rw [← h3 j hj]
                have hadd : ∀ k, (⟨b, o, none⟩ : Addr).add k = ⟨b, o + k, none⟩ := by
                  intro k; unfold Addr.add; split
                  · simp_all
                  · rfl
                rw [hadd, cell_of hh, Nat.add_assoc]
        obtain ⟨l, hl', hall⟩ := this len (Nat.le_refl _)
        subst hl'
        exact ⟨l, _, rfl, ⟨some ⟨b, o, none⟩, q, rfl, hl, hmax, fun _ => ⟨b, o, cells, T, fz, rfl, hh, hall⟩⟩, hbytes⟩⟩
theorem wt_each {H : Type} : ∀ {ts : List TypeId} {ds : List (DataW H)} {j : Nat} {t : TypeId} {d : DataW H}, ts[j]? = some t → ds[j]? = some d → (∀ n ∈ DataW.weightsEach P ts ds, n ≤ reachBytes) → Wt P t d :=
  fun ht hd h n hn => h n (DataW.weights_mem_each ht hd n hn)
/-- a struct whose fields are of one cell each -/
theorem open_fields {fs : Array Field} (ht : P.underlying t = some (.struct fs)) (hone : (fs.toList.zipIdx.all fun x => Nat.beq x.1.offset x.2 && Nat.beq (P.cellsOf x.1.type) 1) = true) (hct : P.cellsOf t = fs.size)
    {H : Type} (enc : TypeId × Value → H) (fuel : Nat) (cs : List Value) (d : DataW H) (ps : List MemPlace) (h : DataW.trod enc P w 0 (fun _ => true) true fuel t cs = some (d, ps)) (hw : Wt P t d) :
    cs.length = fs.size ∧ ∀ (i : Nat) (f : Field), fs[i]? = some f → ∃ v, cs[i]? = some v ∧ ∀ {α : Type} {R : α → List Value → Prop}, Opens P w f.type R → ∃ x, R x [v] := by
  obtain ⟨xs, n, rfl, e, hl, hxl, hf⟩ := DataW.trod_struct ht h
  simp only [Prod.mk.injEq] at e
  rw [hct] at hl
  refine ⟨hl, fun i f hfi => ?_⟩
  have hi : i < fs.size := by
    rcases Nat.lt_or_ge i fs.size with h' | h'
    · exact h'
    · simp [Array.getElem?_eq_none h'] at hfi
  have h1 := List.all_eq_true.1 hone (f, i) (by
    rw [List.mem_zipIdx_iff_getElem?]
    simpa using hfi)
  simp only [Bool.and_eq_true] at h1
  have ho : f.offset = i := Nat.eq_of_beq_eq_true h1.1
  have hc1 : P.cellsOf f.type = 1 := Nat.eq_of_beq_eq_true h1.2
  have hg := hf i f hfi
  have hcs : i < cs.length := by omega
  rw [ho, hc1, List.drop_eq_getElem_cons hcs, List.take_succ_cons, List.take_zero] at hg
  refine ⟨cs[i], by simp [hcs], fun {α R} hR => ?_⟩
  have hxi : i < xs.length := by omega
  rw [List.getElem?_eq_getElem hxi] at hg
  refine hR.go enc n [cs[i]] (xs[i]).1 (xs[i]).2 hg ?_
  intro k hk
  refine hw k ?_
  rw [e.1]
  simp only [DataW.weights, ht]
  exact DataW.weights_mem_each (j := i) (t := f.type) (d := (xs[i]).1) (by simp [hfi]) (by simp [hxi]) k hk
/-- a pair of texts -/
def IsPr (p : List UInt8 × List UInt8) (vs : List Value) : Prop := vs = [str p.1, str p.2] ∧ p.1.length ≤ reachBytes ∧ p.2.length ≤ reachBytes
theorem two_cells {cs : List Value} {v0 v1 : Value} (hl : cs.length = 2) (h0 : cs[0]? = some v0) (h1 : cs[1]? = some v1) : cs = [v0, v1] := by
  match cs, hl with
  | [a, b], _ => simp at h0 h1; rw [h0, h1]
theorem opens_pr {f0 f1 : Field} (ht : P.underlying t = some (.struct #[f0, f1])) (hone : ((#[f0, f1] : Array Field).toList.zipIdx.all fun x => Nat.beq x.1.offset x.2 && Nat.beq (P.cellsOf x.1.type) 1) = true) (hct : P.cellsOf t = 2)
    (t0 : P.underlying f0.type = some .string) (t1 : P.underlying f1.type = some .string) : Opens P w t IsPr := ⟨fun enc fuel cs d ps h hw => by
  obtain ⟨hl, hf⟩ := open_fields ht hone hct enc fuel cs d ps h hw
  obtain ⟨v0, e0, g0⟩ := hf 0 f0 rfl
  obtain ⟨v1, e1, g1⟩ := hf 1 f1 rfl
  obtain ⟨s0, k0, b0⟩ := g0 (opens_str t0)
  obtain ⟨s1, k1, b1⟩ := g1 (opens_str t1)
  simp only [List.cons.injEq, and_true] at k0 k1
  refine ⟨(s0, s1), ?_, b0, b1⟩
  rw [two_cells hl e0 e1, k0, k1]⟩
/-- an argument -/
theorem open_arg {α : Type} {R : α → List Value → Prop} (hR : Opens P w t R) {H : Type} {enc : TypeId × Value → H} {v : Value} {d : DataW H} {ps : List MemPlace} (h : DataW.Trod enc P w 0 (fun _ => true) true t v d ps) (hw : Wt P t d) : ∃ x, R x v.cells.toList := by
  obtain ⟨fuel, hf⟩ := h
  exact hR.go enc fuel _ d ps hf hw
theorem sl_slS {M : Ghost} {v : Value} {l : List (List UInt8)} (h : Sl M 1 (fun s vs => vs = [str s] ∧ s.length ≤ reachBytes) v l) : SlS M v l ∧ ∀ s ∈ l, s.length ≤ reachBytes := by
  refine ⟨h.mono (fun _ _ h => h) (fun _ _ _ h => h.1), fun s hs => ?_⟩
  obtain ⟨_, _, _, _, _, h4⟩ := h
  obtain ⟨b, o, cs, T, fz, _, _, h7⟩ := h4 (by rintro rfl; cases hs)
  obtain ⟨i, hi, rfl⟩ := List.mem_iff_getElem.1 hs
  obtain ⟨vs, _, hR, _⟩ := h7 i hi
  exact hR.2
theorem sl_slP {M : Ghost} {v : Value} {l : List (List UInt8 × List UInt8)} (h : Sl M 2 IsPr v l) : SlP M v l ∧ ∀ p ∈ l, p.1.length ≤ reachBytes ∧ p.2.length ≤ reachBytes := by
  refine ⟨h.mono (fun _ _ h => h) (fun _ _ _ h => h.1), fun s hs => ?_⟩
  obtain ⟨_, _, _, _, _, h4⟩ := h
  obtain ⟨b, o, cs, T, fz, _, _, h7⟩ := h4 (by rintro rfl; cases hs)
  obtain ⟨i, hi, rfl⟩ := List.mem_iff_getElem.1 hs
  obtain ⟨vs, _, hR, _⟩ := h7 i hi
  exact hR.2
end
end Go.Eng
/-
  The arguments of this program's laws, opened, with the sizes that a row allows.
-/
namespace Go.Proofs.YtgfbieplidpebaaGreatDoor
open Go.ChangeShapes Go.WideShapes Go.RowKit Go.Eng Go.Pct
set_option maxRecDepth 100000
set_option linter.unusedVariables false
set_option linter.unusedSimpArgs false

variable {H : Type} {enc : TypeId × Value → H} {W : World} {base : Nat} {v : Value} {d : DataW H} {ps : List MemPlace}
theorem reach_le {n : Nat} (h : n ≤ reachBytes) : n ≤ 140737488355328 := Nat.le_trans h (by decide)
theorem small_of {l : List Pr} (h : ∀ p ∈ l, p.1.length ≤ reachBytes ∧ p.2.length ≤ reachBytes) : Small 140737488355328 l := fun p hp => ⟨reach_le (h p hp).1, reach_le (h p hp).2⟩
theorem opn_str : Opens Tryz.prog W 9 (fun s vs => vs = [str s] ∧ s.length ≤ reachBytes) := opens_str Tryz.underlying9
theorem opn_pr : Opens Tryz.prog W 50 IsPr := opens_pr Tryz.underlying50 (by kernel_rfl) (by kernel_rfl) Tryz.underlying9 Tryz.underlying9
theorem opn_prs : Opens Tryz.prog W 22 (fun (l : List Pr) vs => ∃ v, vs = [v] ∧ Sl (All W) 2 IsPr v l ∧ l.length * Tryz.prog.bytesOf 50 ≤ reachBytes) := opens_slice Tryz.underlying22 (by kernel_rfl) (by decide) opn_pr
theorem opn_strs : Opens Tryz.prog W 23 (fun (l : List (List UInt8)) vs => ∃ v, vs = [v] ∧ Sl (All W) 1 (fun s vs => vs = [str s] ∧ s.length ≤ reachBytes) v l ∧ l.length * Tryz.prog.bytesOf 9 ≤ reachBytes) := opens_slice Tryz.underlying23 (by kernel_rfl) (by decide) opn_str

theorem arg_str (hval : Value.okWide Tryz.prog W .any base 9 v) (hd : DataW.Trod enc Tryz.prog W 0 (fun _ => true) true 9 v d ps) (hw : Wt Tryz.prog 9 d) : ∃ s, v = str s ∧ s.length ≤ reachBytes := by
  obtain ⟨s0, rfl⟩ := okWide_string Tryz.underlying9 hval
  obtain ⟨s, hs, hl⟩ := open_arg opn_str hd hw
  simp only [Value.cells, List.cons.injEq, and_true] at hs
  exact ⟨s, hs, hl⟩
theorem arg_bool (hval : Value.okWide Tryz.prog W .any base 4 v) : ∃ b, v = .bool b := okWide_bool Tryz.underlying4 hval
theorem arg_int (hval : Value.okWide Tryz.prog W .any base 3 v) (hd : DataW.Trod enc Tryz.prog W 0 (fun _ => true) true 3 v d ps) (hw : Wt Tryz.prog 3 d) : ∃ z : Int, v = i64 z ∧ -9223372036854775808 ≤ z ∧ z ≤ 9223372036854775807 := by
  obtain ⟨z0, rfl⟩ := okWide_int Tryz.underlying3 hval
  obtain ⟨z, hz, h1, h2⟩ := open_arg (opens_int Tryz.underlying3) hd hw
  simp only [Value.cells, List.cons.injEq, and_true] at hz
  exact ⟨z, hz, h1, h2⟩
theorem arg_u8 (hval : Value.okWide Tryz.prog W .any base 5 v) (hd : DataW.Trod enc Tryz.prog W 0 (fun _ => true) true 5 v d ps) (hw : Wt Tryz.prog 5 d) : ∃ c : UInt8, v = byt c := by
  obtain ⟨z0, rfl⟩ := okWide_int Tryz.underlying5 hval
  obtain ⟨z, hz, h1, h2⟩ := open_arg (opens_int Tryz.underlying5) hd hw
  simp only [Value.cells, List.cons.injEq, and_true] at hz
  rw [hz]
  have h1 : (0 : Int) ≤ z := h1
  have h2 : z ≤ 255 := h2
  refine ⟨UInt8.ofNat z.toNat, ?_⟩
  have h3 : ((UInt8.ofNat z.toNat).toNat : Int) = z := by
    have : z.toNat < 256 := by omega
    simp [Nat.mod_eq_of_lt this]; omega
  rw [byt, h3]
theorem arg_prs (hval : Value.okWide Tryz.prog W .any base 22 v) (hd : DataW.Trod enc Tryz.prog W 0 (fun _ => true) true 22 v d ps) (hw : Wt Tryz.prog 22 d) : ∃ l : List Pr, SlP (All W) v l ∧ Small 140737488355328 l := by
  obtain ⟨a0, len, cap, rfl⟩ := okWide_slice Tryz.underlying22 hval
  obtain ⟨l, u, hu, hl, _⟩ := open_arg opn_prs hd hw
  simp only [Value.cells, List.cons.injEq, and_true] at hu
  subst hu
  exact ⟨l, (sl_slP hl).1, small_of (sl_slP hl).2⟩
theorem arg_strs (hval : Value.okWide Tryz.prog W .any base 23 v) (hd : DataW.Trod enc Tryz.prog W 0 (fun _ => true) true 23 v d ps) (hw : Wt Tryz.prog 23 d) : ∃ l : List (List UInt8), SlS (All W) v l ∧ ∀ s ∈ l, s.length ≤ 140737488355328 := by
  obtain ⟨a0, len, cap, rfl⟩ := okWide_slice Tryz.underlying23 hval
  obtain ⟨l, u, hu, hl, _⟩ := open_arg opn_strs hd hw
  simp only [Value.cells, List.cons.injEq, and_true] at hu
  subst hu
  exact ⟨l, (sl_slS hl).1, fun s hs => reach_le ((sl_slS hl).2 s hs)⟩
theorem arg_agg {t : TypeId} {fs : Array Field} (ht : Tryz.prog.underlying t = some (.struct fs)) (hval : Value.okWide Tryz.prog W .any base t v) : ∃ cs, v = .agg cs := by
  simp only [Value.okWide, ht] at hval
  obtain ⟨cs, h, _⟩ := hval
  exact ⟨cs, h⟩
theorem three_cells {cs : List Value} {v0 v1 v2 : Value} (hl : cs.length = 3) (h0 : cs[0]? = some v0) (h1 : cs[1]? = some v1) (h2 : cs[2]? = some v2) : cs = [v0, v1, v2] := by
  match cs, hl with
  | [a, b, c], _ => simp at h0 h1 h2; rw [h0, h1, h2]
theorem four_cells {cs : List Value} {v0 v1 v2 v3 : Value} (hl : cs.length = 4) (h0 : cs[0]? = some v0) (h1 : cs[1]? = some v1) (h2 : cs[2]? = some v2) (h3 : cs[3]? = some v3) : cs = [v0, v1, v2, v3] := by
  match cs, hl with
  | [a, b, c, d], _ => simp at h0 h1 h2 h3; rw [h0, h1, h2, h3]
theorem arg_rsp (hval : Value.okWide Tryz.prog W .any base 31 v) (hd : DataW.Trod enc Tryz.prog W 0 (fun _ => true) true 31 v d ps) (hw : Wt Tryz.prog 31 d) :
    ∃ (st : Int) (hv : Value) (l : List Pr) (bd : List UInt8), v = .agg #[i64 st, hv, str bd] ∧ SlP (All W) hv l ∧ Small 140737488355328 l ∧ bd.length ≤ 140737488355328 := by
  obtain ⟨cs, rfl⟩ := arg_agg Tryz.underlying31 hval
  obtain ⟨fuel, hf⟩ := hd
  obtain ⟨hlen, hfs⟩ := open_fields Tryz.underlying31 (by kernel_rfl) (by kernel_rfl) enc fuel _ d ps hf hw
  obtain ⟨v0, e0, g0⟩ := hfs 0 _ rfl
  obtain ⟨v1, e1, g1⟩ := hfs 1 _ rfl
  obtain ⟨v2, e2, g2⟩ := hfs 2 _ rfl
  obtain ⟨z, hz, _⟩ := g0 (opens_int Tryz.underlying3)
  obtain ⟨l, u, hu, hl, _⟩ := g1 opn_prs
  obtain ⟨s, hs, hb⟩ := g2 opn_str
  simp only [List.cons.injEq, and_true] at hz hu hs
  have h3 := three_cells hlen e0 e1 e2
  refine ⟨z, u, l, s, ?_, (sl_slP hl).1, small_of (sl_slP hl).2, reach_le hb⟩
  rw [hz, hu, hs] at h3
  have h4 : cs.toList = [i64 z, u, str s] := h3
  have h5 : cs = #[i64 z, u, str s] := by rw [← Array.toArray_toList (xs := cs), h4]
  rw [h5]
end Go.Proofs.YtgfbieplidpebaaGreatDoor
/-
  A success as an argument, opened; an error as an argument.
-/
namespace Go.Proofs.YtgfbieplidpebaaGreatDoor
open Go.ChangeShapes Go.WideShapes Go.RowKit Go.Eng Go.Pct Go.Cas
set_option maxRecDepth 100000
set_option linter.unusedVariables false
set_option linter.unusedSimpArgs false

variable {H : Type} {enc : TypeId × Value → H} {W : World} {base : Nat} {v : Value} {d : DataW H} {ps : List MemPlace}
theorem arg_err (hval : Value.okWide Tryz.prog W .any base 26 v) (hd : DataW.Trod enc Tryz.prog W 0 (fun _ => true) true 26 v d ps) (hw : Wt Tryz.prog 26 d) : ∃ z : Int, v = i64 z ∧ -9223372036854775808 ≤ z ∧ z ≤ 9223372036854775807 := by
  obtain ⟨z0, rfl⟩ := okWide_int Tryz.underlying26 hval
  obtain ⟨z, hz, h1, h2⟩ := open_arg (opens_int Tryz.underlying26) hd hw
  simp only [Value.cells, List.cons.injEq, and_true] at hz
  exact ⟨z, hz, h1, h2⟩
theorem four_cells' {cs : List Value} {v0 v1 v2 v3 : Value} (hl : cs.length = 4) (h0 : cs[0]? = some v0) (h1 : cs[1]? = some v1) (h2 : cs[2]? = some v2) (h3 : cs[3]? = some v3) : cs = [v0, v1, v2, v3] := four_cells hl h0 h1 h2 h3
theorem arg_suc (hval : Value.okWide Tryz.prog W .any base 25 v) (hd : DataW.Trod enc Tryz.prog W 0 (fun _ => true) true 25 v d ps) (hw : Wt Tryz.prog 25 d) :
    ∃ (s : Suc) (a : Option Addr) (l c : Nat) (a' : Option Addr) (l' c' : Nat), v = .agg [str s.user, .slice a l c, .slice a' l' c', str s.iou].toArray ∧ SlP (All W) (.slice a l c) s.attrs ∧ SlS (All W) (.slice a' l' c') s.proxies ∧ SmS s 140737488355328 140737488355328 := by
  obtain ⟨cs, rfl⟩ := arg_agg Tryz.underlying25 hval
  obtain ⟨fuel, hf⟩ := hd
  obtain ⟨hlen, hfs⟩ := open_fields Tryz.underlying25 (by kernel_rfl) (by kernel_rfl) enc fuel _ d ps hf hw
  obtain ⟨v0, e0, g0⟩ := hfs 0 _ rfl
  obtain ⟨v1, e1, g1⟩ := hfs 1 _ rfl
  obtain ⟨v2, e2, g2⟩ := hfs 2 _ rfl
  obtain ⟨v3, e3, g3⟩ := hfs 3 _ rfl
  obtain ⟨s0, hs0, hb0⟩ := g0 opn_str
  obtain ⟨l1, u1, hu1, hl1, hn1⟩ := g1 opn_prs
  obtain ⟨l2, u2, hu2, hl2, hn2⟩ := g2 opn_strs
  obtain ⟨s3, hs3, hb3⟩ := g3 opn_str
  simp only [List.cons.injEq, and_true] at hs0 hu1 hu2 hs3
  have h4 := four_cells hlen e0 e1 e2 e3
  rw [hs0, hu1, hu2, hs3] at h4
  have h6 := (sl_slP hl1).1.open
  have h7 := (sl_slS hl2).1.open
  obtain ⟨a, cap, _, _, _, _, _, e5, _⟩ := h6
  obtain ⟨a', cap', _, _, _, _, _, e6, _⟩ := h7
  subst e5
  subst e6
  have nb : 1 ≤ Tryz.prog.bytesOf 50 := by decide +kernel
  have nb2 : 1 ≤ Tryz.prog.bytesOf 9 := by decide +kernel
  refine ⟨⟨s0, l1, l2, s3⟩, a, _, cap, a', _, cap', ?_, (sl_slP hl1).1, (sl_slS hl2).1, ⟨reach_le hb0, reach_le hb3, reach_le (Nat.le_trans (Nat.le_mul_of_pos_right _ nb) hn1), reach_le (Nat.le_trans (Nat.le_mul_of_pos_right _ nb2) hn2), fun p hp => ?_, fun p hp => reach_le ((sl_slS hl2).2 p hp)⟩⟩
  · have h5 : cs = [str s0, .slice a l1.length cap, .slice a' l2.length cap', str s3].toArray := by
      have h6 : cs.toList = [str s0, .slice a l1.length cap, .slice a' l2.length cap', str s3] := h4
      rw [← Array.toArray_toList (xs := cs), h6]
    rw [h5]
  · have := (sl_slP hl1).2 p hp
    exact ⟨reach_le this.1, reach_le this.2⟩
end Go.Proofs.YtgfbieplidpebaaGreatDoor
/-
  The frames' common part: what a row's world holds; a world for the witness.
-/
namespace Go.Proofs.YtgfbieplidpebaaGreatDoor
open Go.ChangeShapes Go.WideShapes Go.ChangeAt Go.RowKit Go.Eng Go.Pct
set_option maxRecDepth 100000

theorem own : ownKnob Tryz.prog.godebug = none := by kernel_rfl
theorem gMarks : Tryz.prog.globalNamed "matricula/xml.marks" = some 0 := by kernel_rfl
theorem gMarksT : (Tryz.prog.globals[0]?).map (·.type) = some 122 := by kernel_rfl
theorem cellsPrM : Tryz.prog.cellsOf 50 = 2 := by kernel_rfl
theorem cellsStrM : Tryz.prog.cellsOf 9 = 1 := by kernel_rfl
def markD : DataW Unit := .agg [.agg [.lit (.string [38]), .lit (.string [38, 97, 109, 112, 59])], .agg [.lit (.string [60]), .lit (.string [38, 108, 116, 59])], .agg [.lit (.string [62]), .lit (.string [38, 103, 116, 59])], .agg [.lit (.string [34]), .lit (.string [38, 113, 117, 111, 116, 59])], .agg [.lit (.string [39]), .lit (.string [38, 35, 51, 57, 59])]]
theorem pair_cells {W : World} {fuel : Nat} {cs : List Value} {a b : List UInt8} {q : List MemPlace} (h : DataW.trod (fun _ => ()) Tryz.prog W 0 (fun _ => true) false fuel 50 cs = some (.agg [.lit (.string a), .lit (.string b)], q)) : cs[0]? = some (str a) ∧ cs[1]? = some (str b) := by
  obtain ⟨xs, n, rfl, hx, hl, hxl, hall⟩ := DataW.trod_struct Tryz.underlying50 h
  have hxs : xs.map (·.1) = [.lit (.string a), .lit (.string b)] := by
    have := congrArg Prod.fst hx
    simpa using this.symm
  match xs, hxs with
  | [x0, x1], hxs =>
    simp only [List.map_cons, List.map_nil, List.cons.injEq, and_true] at hxs
    have h0 := hall 0 _ rfl
    have h1 := hall 1 _ rfl
    obtain ⟨s0, e0, e0', _⟩ := DataW.trod_string Tryz.underlying9 h0
    obtain ⟨s1, e1, e1', _⟩ := DataW.trod_string Tryz.underlying9 h1
    have e0 : (cs.drop 0).take (Tryz.prog.cellsOf 9) = [.string s0] := e0
    have e1 : (cs.drop 1).take (Tryz.prog.cellsOf 9) = [.string s1] := e1
    rw [cellsStrM] at e0 e1
    obtain rfl : x0 = _ := e0'
    obtain rfl : x1 = _ := e1'
    simp only [DataW.lit.injEq, Lit.string.injEq] at hxs
    obtain ⟨rfl, rfl⟩ := hxs
    constructor
    · have := congrArg (·[0]?) e0
      simp only [List.getElem?_take, List.getElem?_drop] at this
      rw [if_pos (by decide)] at this
      rw [← str_of]
      simpa using this
    · have := congrArg (·[0]?) e1
      simp only [List.getElem?_take, List.getElem?_drop] at this
      rw [if_pos (by decide)] at this
      rw [← str_of]
      simpa using this
theorem marks_of {W : World} {rest : List (String × DataW Unit)} (h : laidMet Tryz.prog (("matricula/xml.marks", markD) :: rest) W) : ∃ cs T fz, All W 0 (.cells cs T fz) ∧ ∀ j, j < 10 → cs[j]? = markCells[j]? := by
  obtain ⟨ps, ⟨g', t', cs, fuel, p, q, hg', ht', hvar, hd, _, _⟩, _⟩ := h
  obtain rfl := Option.some.inj (gMarks.symm.trans hg')
  obtain rfl := Option.some.inj (gMarksT.symm.trans ht')
  have hcell : ∃ T fz, All W 0 (.cells cs T fz) := by
    unfold World.var? at hvar
    rw [gMarks, Option.bind_some] at hvar
    split at hvar
    · rename_i cs' T fz hh
      simp only [Option.some.injEq] at hvar
      exact ⟨T, fz, by rw [← hvar]; exact hh⟩
    · cases hvar
  obtain ⟨T, fz, hh⟩ := hcell
  refine ⟨cs, T, fz, hh, ?_⟩
  have key : ∀ i, i < 5 → cs[i * 2]? = markCells[i * 2]? ∧ cs[i * 2 + 1]? = markCells[i * 2 + 1]? := by
    intro i hi
    obtain ⟨f', d, q', h1, h2⟩ := Lib.array_elem Tryz.underlying122 hd i hi
    rw [cellsPrM] at h2
    have tail : ∀ (a b : List UInt8), d = .agg [.lit (.string a), .lit (.string b)] → cs[i * 2]? = some (str a) ∧ cs[i * 2 + 1]? = some (str b) := by
      rintro a b rfl
      obtain ⟨g0, g1⟩ := pair_cells h2
      simp only [List.getElem?_take, List.getElem?_drop] at g0 g1
      rw [if_pos (by decide)] at g0 g1
      exact ⟨by simpa using g0, by simpa using g1⟩
    match i, hi, h1, tail with
    | 0, _, h1, tail => cases h1; exact tail _ _ rfl
    | 1, _, h1, tail => cases h1; exact tail _ _ rfl
    | 2, _, h1, tail => cases h1; exact tail _ _ rfl
    | 3, _, h1, tail => cases h1; exact tail _ _ rfl
    | 4, _, h1, tail => cases h1; exact tail _ _ rfl
  intro j hj
  have e : j = j / 2 * 2 + j % 2 := by omega
  have h2 := key (j / 2) (by omega)
  rcases Nat.mod_two_eq_zero_or_one j with h | h
  · rw [h] at e; rw [e]; exact h2.1
  · rw [h] at e; rw [e]; exact h2.2
/-- what is asked of a row's list -/
structure Lists (l : List (String × DataW Unit)) : Prop where
  marks : l.filter (fun x => x.1 == "matricula/xml.marks") = [("matricula/xml.marks", markD)]
theorem glob_of {W : World} {l : List (String × DataW Unit)} (hl : Lists l) (h : laidMetH Tryz.prog l W) (hsh : W.ShapedOpen Tryz.prog) : Glob (All W) := by
  constructor
  · obtain ⟨m, hm⟩ := (Tryz.laysM219).s1_3 W hsh
    obtain ⟨cs, T, fz, hh, h2⟩ := cell_inv hm
    exact ⟨cs, T, fz, m, hh, h2⟩
  · have h1 := h.filter (fun x => x.1 == "matricula/xml.marks")
    rw [hl.marks, Go.MakeChecks.laidMetH_plain _ _ _ (by rfl)] at h1
    exact marks_of h1

theorem laidOut : laidOutB Tryz.prog = true := by kernel_rfl
theorem trodAll_below {H : Type} {enc : TypeId × Value → H} {P : Program} (hl : laidOutB P = true) {W W' : World} (hb : Below W.heap.size W W') : ∀ {ts : List TypeId} {vs : List Value} {ds : List (DataW H)} {ps : List MemPlace},
    (ts.all fun t => P.readableRec t && decide (t < P.types.size)) = true → DataW.TrodAll enc P W 0 (fun _ => true) true ts vs ds ps → (∀ x ∈ ps, x.block < W.heap.size) → DataW.TrodAll enc P W' 0 (fun b => decide (b < W.heap.size)) true ts vs ds ps
  | [], [], [], _, _, h, _ => h
  | _ :: _, _ :: _, _ :: _, _, hT, ⟨p, q, h1, h2, e⟩, hs => by
    simp only [List.all_cons, Bool.and_eq_true, decide_eq_true_eq] at hT
    exact ⟨p, q, Below.trod hl hT.1.1 hT.1.2 h1 hb (fun x hx => hs x (by rw [e]; exact List.mem_append_left _ hx)), trodAll_below hl hb hT.2 h2 (fun x hx => hs x (by rw [e]; exact List.mem_append_right _ hx)), e⟩
/-- what a table's datum lays -/
def cellsD : Nat → DataW Unit → List Value
  | 0, _ => []
  | n + 1, .agg l => l.flatMap (cellsD n)
  | _ + 1, .lit (.int k z) => [.int k z]
  | _ + 1, .lit (.string s) => [.string ⟨s.toArray⟩]
  | _, _ => []
def layAt (d : DataW Unit) : Obj → Obj
  | .cells _ t fz => .cells (cellsD 5 d).toArray t fz
  | o => o
/-- A world for the witness: the settled one, the tables holding what their initialisers lay. -/
noncomputable def laidWorld (os : Os) (l : List (String × DataW Unit)) : World :=
  { World.holding Tryz.prog os ⟨#[], #[], []⟩ with heap := l.foldl (fun h x => match Tryz.prog.globalNamed x.1 with | some g => h.modify g (layAt x.2) | none => h) (World.holding Tryz.prog os ⟨#[], #[], []⟩).heap }
theorem noStand (t : TypeId) (ts : Array TypeId) (h : ts.all (fun t => !Tryz.prog.wantsStandIn t) = true) (j : Nat) (ht : ts[j]? = some t) : Tryz.prog.wantsStandIn t = false := by
  have := (Array.all_eq_true'.1 h) t (Array.mem_of_getElem? ht)
  simpa using this
theorem sizes_of {H : Type} {ts us : List TypeId} {ds gs : List (DataW H)} (h : (DataW.weightsEach Tryz.prog (ts ++ us) (ds ++ gs)).all (· ≤ reachBytes) = true) {j : Nat} {t : TypeId} {d : DataW H} (ht : (ts ++ us)[j]? = some t) (hd : (ds ++ gs)[j]? = some d) : Wt Tryz.prog t d :=
  wt_each ht hd (fun n hn => by simpa using List.all_eq_true.1 h n hn)
end Go.Proofs.YtgfbieplidpebaaGreatDoor
/-
  The given statement of RenderTells: from the walk of RenderTells to the card.
-/
namespace Go.Proofs.YtgfbieplidpebaaGreatDoor
open Go.ChangeShapes Go.WideShapes Go.ChangeAt Go.RowKit Go.Eng Go.Pct
set_option maxRecDepth 100000
set_option linter.unusedSimpArgs false

theorem renderTells_lists : Lists Rows.renderTellsRow.laid := by constructor <;> kernel_rfl
theorem renderTells_contract (H : Type) (enc : TypeId × Value → H) (W : World) (base : Nat) (args : Array Value) (ds gs : List (DataW H)) (before : List MemPlace)
    (hval : ∀ (j : Nat) t v, Tryz.f3.params[j]? = some t → args[j]? = some v → Value.okWide Tryz.prog W .any base t v)
    (hW : DataW.Whole enc Tryz.prog Tryz.f3.params.toList Rows.renderTellsSpec.vars false W args.toList ds gs before)
    (hz : (DataW.weightsEach Tryz.prog (Tryz.f3.params.toList ++ (OpenSpec.ofChange Rows.renderTellsSpec).bare.plain.varTypes Tryz.prog) (ds ++ gs)).all (· ≤ reachBytes) = true) (hL : laidMetH Tryz.prog Rows.renderTellsRow.laid W) (hsh : W.ShapedOpen Tryz.prog) :
    Calls Tryz.prog 3 args W fun e W' => ∃ v, e = .returned v ∧ Rows.renderTellsSpec.post enc Tryz.prog Tryz.f3 false true false false W args v W' := by
  have hW' := hW
  obtain ⟨p, q, hA0, hV, rfl, hfz, hnd⟩ := hW
  have hAk : DataW.TrodAll enc Tryz.prog W 0 (fun _ => true) true Tryz.f3.params.toList args.toList ds p := hA0
  have hA := hAk
  rw [Tryz.params3] at hA hval hz
  obtain ⟨rfl, rfl⟩ := trodVars_none hV
  obtain ⟨v0, vs0, d0, ds0, p0, q0, hargs, rfl, hq0, h0, r0⟩ := trodAll_cons hA
  obtain ⟨v1, vs1, d1, ds1, p1, q1, rfl, rfl, hq1, h1, r1⟩ := trodAll_cons r0
  obtain ⟨v2, vs2, d2, ds2, p2, q2, rfl, rfl, hq2, h2, r2⟩ := trodAll_cons r1
  obtain ⟨v3, vs3, d3, ds3, p3, q3, rfl, rfl, hq3, h3, r3⟩ := trodAll_cons r2
  obtain ⟨rfl, rfl, hqn⟩ := trodAll_nil r3
  obtain rfl : args = #[v0, v1, v2, v3] := by cases args; simp_all
  obtain ⟨s0, va0, vl0, vc0, wa0, wl0, wc0, rfl, hsa0, hsp0, k0⟩ := arg_suc (hval 0 25 v0 rfl rfl) h0 (sizes_of (j := 0) hz rfl rfl)
  obtain ⟨e1, rfl, k1, kk1⟩ := arg_err (hval 1 26 v1 rfl rfl) h1 (sizes_of (j := 1) hz rfl rfl)
  obtain ⟨b2, rfl⟩ := arg_bool (hval 2 4 v2 rfl rfl)
  obtain ⟨z3, rfl, k3, kk3⟩ := arg_int (hval 3 3 v3 rfl rfl) h3 (sizes_of (j := 3) hz rfl rfl)
  have hG := glob_of (W := W) renderTells_lists hL hsh
  have walk := tells_ok hG (all_laid W) hsa0 hsp0 e1 b2 z3
  refine walk.mono fun e W' ⟨he, hg⟩ => ?_
  subst he
  have hb := hg.below
  refine ⟨_, rfl, ⟨_, _, _, [], _, [], hW', trodAll_mk1 (shut_bool Tryz.underlying4 _), trodAll_below laidOut hb (by kernel_rfl) hAk (fun x hx => ?_), rfl, hb.frame _, fun h => by cases h⟩⟩
  have := hW'.lt x (by simpa using hx)
  simpa using this

theorem renderTells_laid (os : Os) : laidMet Tryz.prog Rows.renderTellsRow.laid ((laidWorld os Rows.renderTellsRow.laid).forCall (fun _ _ => 0) ⟨#[], #[.agg #[.string ⟨#[]⟩, .slice none 0 0, .slice none 0 0, .string ⟨#[]⟩], .int .i64 0, .bool false, .int .i64 0], []⟩).memory :=
  laidMet_of_run' 8 (by kernel_rfl) (by kernel_rfl)
theorem renderTells_reads (os : Os) {H : Type} (enc : TypeId × Value → H) : ∃ places, DataW.whole enc Tryz.prog ((laidWorld os Rows.renderTellsRow.laid).forCall (fun _ _ => 0) ⟨#[], #[.agg #[.string ⟨#[]⟩, .slice none 0 0, .slice none 0 0, .string ⟨#[]⟩], .int .i64 0, .bool false, .int .i64 0], []⟩).memory Tryz.f3.params.toList Rows.renderTellsSpec.vars false (#[Value.agg #[.string ⟨#[]⟩, .slice none 0 0, .slice none 0 0, .string ⟨#[]⟩], Value.int .i64 0, Value.bool false, Value.int .i64 0] : Array Value).toList 8 = some ([.agg [.lit (.string []), .nil, .nil, .lit (.string [])], .lit (.int .i64 0), .lit (.bool false), .lit (.int .i64 0)], [], places) :=
  ⟨[], by kernel_rfl⟩
theorem renderTells_lifted (os : Os) (started : os.Started) (H : Type) (enc : TypeId × Value → H) (F : Stop.Interp) :
    ReturnsInHanded {} Tryz.checked os 3 .any ((OpenSpec.ofChange Rows.renderTellsSpec).preRow enc Tryz.prog Tryz.f3 Rows.renderTellsRow.domain false Rows.renderTellsRow.laid) (((OpenSpec.ofChange Rows.renderTellsSpec).at F).post enc Tryz.prog Tryz.f3 false true false false) := by
  obtain ⟨places, hx⟩ := renderTells_reads os enc
  refine returnsInHanded_of_row (C := Tryz.checked) (s := OpenSpec.ofChange Rows.renderTellsSpec) own started (by kernel_rfl) Tryz.func3
    (witness_row_at (enc := enc) (C := Tryz.checked) false (laidWorld os Rows.renderTellsRow.laid) #[.agg #[.string ⟨#[]⟩, .slice none 0 0, .slice none 0 0, .string ⟨#[]⟩], .int .i64 0, .bool false, .int .i64 0] rfl (by kernel_rfl) (by kernel_rfl) (by kernel_rfl)
      (OpenSpec.preRow_of_cond 8 hx (by kernel_rfl) (fun k hk => by cases hk) (by kernel_rfl) (renderTells_laid os))) ?_
  intro W base args ds gs before hval hW _ _ hz hL hsh _
  exact renderTells_contract H enc W base args ds gs before hval hW hz hL hsh
theorem renderTells_said : Rows.RenderTellsSaid :=
  OpenClaim.holds_of_cond 3 Tryz.f3 rfl rfl rfl rfl rfl rfl rfl ⟨rfl, rfl, rfl, rfl, rfl⟩ rfl rfl rfl rfl rfl (by kernel_rfl) Tryz.func3 (by kernel_rfl)
    (of_decide_eq_true (by kernel_rfl)) (by unfold Func.isWrapper; first | (rw [if_pos (by decide +kernel)]; kernel_rfl) | (rw [if_neg (by decide +kernel)]; exact ⟨rfl, rfl⟩))
    (fun os started H enc _ F => by rw [OpenClaim.pre_eq_preRow]; exact renderTells_lifted os started H enc F)
theorem renderTells_plain (f : FuncId) (fn : Func) (hf : Tryz.pinned.checked.prog.funcNamed "matricula/matriculalaw24.RenderTells" = some f) (hfn : Tryz.pinned.checked.prog.funcs[f]? = some fn) :
    false = Tryz.pinned.checked.prog.looks [] ∧ ∀ (j : Nat) t, fn.params[j]? = some t → Tryz.pinned.checked.prog.wantsStandIn t = false := by
  obtain rfl : f = 3 := Option.some.inj ((show Tryz.prog.funcNamed "matricula/matriculalaw24.RenderTells" = some 3 by kernel_rfl).symm.trans hf) |>.symm
  obtain rfl : fn = Tryz.f3 := (Option.some.inj (Tryz.func3.symm.trans hfn)).symm
  refine ⟨by kernel_rfl, fun j t ht => ?_⟩
  rw [Tryz.params3] at ht
  exact noStand t _ (by kernel_rfl) j ht
/-- The given statement. -/
theorem renderTells_card : Rows.RenderTellsCardSaid :=
  Claim7.holds_tied_plain_at .later [] _ _ _ _ renderTells_said (fun _ h => by cases h) (by kernel_rfl) (fun _ h => by cases h) renderTells_row_tie rfl ⟨rfl, rfl⟩ (by kernel_rfl) rfl renderTells_plain (by kernel_rfl)
end Go.Proofs.YtgfbieplidpebaaGreatDoor
