/-
  Texts of a proof, joined: CkB, EngJ, CkC, EngI, CkD, CkE, CkF, CkG, CkH.
-/
import Derived.Lib.LazyBuf
import Derived.Test.YtmfelfhingmmbaaDoorJFCOnce1
import Derived.Test.YtmfelfhingmmbaaDoorJFCOnce2
/-
  Slices of cookies: Clone, IndexFunc, DeleteFunc; the engine's rules for them.
-/
namespace Go.Eng
set_option linter.unusedSimpArgs false
set_option linter.unusedVariables false
section
variable {P : Program} {n : Nat} {E : Env} {k : Kont} {ops : Array Oper} {rest : List Oper} {cg cx cy : Bool} {x y : Operand} {tx tyy : TypeId}
variable {dst : Option Tmp} {ty : TypeId} {pos : String} {af : Array Edge} {g : Option (Nat × Bool)}
variable {w0 : World} {bs : List Nat} {H : List (Nat × Obj)} {M : Ghost} {C : World → Prop}
/-- a slice against nil -/
theorem ov_eqNil {e : TypeId} {a0 : Option Addr} {len cap : Nat} (hx : ev E x = some (cx, .slice a0 len cap)) (hy : ev E y = some (cy, .slice none 0 0)) (h1 : Imp cg cx) (h2 : Imp cg cy) (ht : P.underlying tx = some (.slice e)) :
    OpV P n E C ⟨dst, .binOp .eql tx x y tyy, ty, pos, af, g⟩ cg (.bool a0.isNone) :=
  ov_run fun h _ ha w _ => run_bin (ha.evalc hx (h1 h)) (ha.evalc hy (h2 h)) (by rfl) (Lib.run_eql_slice_nil w tx e a0 len cap 0 0 ht)
theorem setCells_eq : ∀ (vs l : List Value) (o : Nat), o + vs.length ≤ l.length → setCells l o vs = l.take o ++ vs ++ l.drop (o + vs.length)
  | [], l, o, h => by simp [setCells]
  | v :: vs, l, o, h => by
    simp only [List.length_cons] at h
    rw [setCells, setCells_eq vs (l.set o v) (o + 1) (by rw [List.length_set]; omega)]
    have e1 : (l.set o v).take (o + 1) = l.take o ++ [v] := by
      rw [List.take_succ_eq_append_getElem (by rw [List.length_set]; omega), List.getElem_set_self]
      rw [List.take_set_of_le (Nat.le_refl _)]
    have e2 : (l.set o v).drop (o + 1 + vs.length) = l.drop (o + (vs.length + 1)) := by
      rw [List.drop_set_of_lt (by omega)]; congr 1; omega
    rw [e1, e2, List.length_cons]; simp
theorem setCells_length (vs l : List Value) (o : Nat) : (setCells l o vs).length = l.length := length_setCells vs l o
/-- clear(s) of a part of a block of one's own -/
theorem wl_clear {t e : TypeId} {b o m c : Nat} {z : Value} {l : List Value} {T : TypeId} {H' : List (Nat × Obj)} (hg : gd ops E g = some true) (hx : ev E x = some (true, .slice (some ⟨b, o, none⟩) (m + 1) c)) (ht : P.underlying t = some (.slice e)) (hz : ∀ w, (zeroValue e).run P w = .ok z w)
    (hu : Upd H b (.cells l.toArray T (0, 0)) (.cells (setCells l o (Builtin.zeroCells z.cells (m + 1)).toList).toArray T (0, 0)) H') (hl : o + (Builtin.zeroCells z.cells (m + 1)).toList.length ≤ l.length) (hp : (Builtin.zeroCells z.cells (m + 1)).toList.all plainV = true)
    (h : WL P ops rest n E (St w0 bs H' M) k) : WL P ops (⟨none, .call ⟨.builtin .clear, #[x], #[t]⟩, ty, pos, af, g⟩ :: rest) n E (St w0 bs H M) k := by
  refine wl_op hg fun a w ha hw => ?_
  obtain ⟨w', h1, h2, h3⟩ := run_storeCells (P := P) (Builtin.zeroCells z.cells (m + 1)).toList 0 l w (hw.get hu.mem) (by simpa using hl) hp
  unfold Oper.wp
  have hr : (execOp a.eval ⟨none, .call ⟨.builtin .clear, #[x], #[t]⟩, ty, pos, af, g⟩).run P w = .ok (.value (.tuple #[])) w' := by
    simp [execOp, resolve, invoke, builtin, ha.eval hx, Builtin.clear_, run_underlying ht, hz, h1]
  rw [hr]
  simp only [Oper.upon]
  exact h.run _ _ (by simpa [Act.put] using ha) (hw.upd hu h2 (by simpa using h3))
end
end Go.Eng

namespace Go.Proofs.YtmfelfhingmmbaaDoor
open Go.Eng Go.Pct Go.Txt Go.Ck
set_option maxRecDepth 10000
set_option linter.unusedSimpArgs false
set_option linter.unusedVariables false
variable {M : Ghost} {w : World}
abbrev tCk : TypeId := 28
instance : Inhabited Ckie := ⟨⟨[], [], [], 0, false, false⟩⟩
def cellsC (l : List Ckie) : List Value := l.flatMap ckCells
theorem ckCells_length (c : Ckie) : (ckCells c).length = 6 := rfl
theorem cellsC_length (l : List Ckie) : (cellsC l).length = l.length * 6 := by
  induction l with
  | nil => rfl
  | cons c l ih =>
    simp only [cellsC, List.flatMap_cons, List.length_append, List.length_cons, ckCells_length] at *; omega
theorem cellsC_append (a b : List Ckie) : cellsC (a ++ b) = cellsC a ++ cellsC b := by simp [cellsC]
theorem cellsC_one (c : Ckie) : cellsC [c] = ckCells c := by simp [cellsC]
theorem cellsC_cons (c : Ckie) (l : List Ckie) : cellsC (c :: l) = ckCells c ++ cellsC l := by simp [cellsC]
theorem cellsC_plain (l : List Ckie) : (cellsC l).all plainV = true := by
  induction l with
  | nil => rfl
  | cons c l ih => rw [cellsC_cons, List.all_append, ih]; rfl
theorem cellsC_drop : ∀ (l : List Ckie) (i : Nat), (cellsC l).drop (i * 6) = cellsC (l.drop i)
  | [], i => by simp [cellsC]
  | c :: l, 0 => by simp
  | c :: l, i + 1 => by
    rw [cellsC_cons, List.drop_succ_cons, ← cellsC_drop l i, show (i + 1) * 6 = (ckCells c).length + i * 6 from by rw [ckCells_length]; omega, ← List.drop_drop, List.drop_left]
theorem cellsC_take : ∀ (l : List Ckie) (i : Nat), (cellsC l).take (i * 6) = cellsC (l.take i)
  | [], i => by simp [cellsC]
  | c :: l, 0 => by simp [cellsC]
  | c :: l, i + 1 => by
    rw [cellsC_cons, List.take_succ_cons, cellsC_cons, ← cellsC_take l i, show (i + 1) * 6 = (ckCells c).length + i * 6 from by rw [ckCells_length]; omega, List.take_length_add_append]
theorem cellsC_at (l : List Ckie) (i : Nat) (h : i < l.length) : ((cellsC l).drop (i * 6)).take 6 = ckCells l[i] := by
  rw [cellsC_drop, List.drop_eq_getElem_cons h, cellsC_cons]
  exact List.take_left' (ckCells_length _)
def SlC (M : Ghost) (v : Value) (l : List Ckie) : Prop := Sl M 6 (fun c vs => vs = ckCells c) v l
theorem OwnS.slC {e : TypeId} {v : Value} {Hs : List (Nat × Obj)} {l : List Ckie} (h : OwnS e 6 v Hs (cellsC l)) (hM : ∀ p ∈ Hs, M p.1 p.2) (hb : l.length ≤ 9223372036854775807) : SlC M v l :=
  h.sl (by decide) hM (cellsC_length l) hb (fun i hi => cellsC_at l i hi)
theorem SlC.open {v : Value} {l : List Ckie} (h : SlC M v l) :
    ∃ a cap b o cs T fz, v = .slice a l.length cap ∧ l.length ≤ cap ∧ l.length ≤ 9223372036854775807 ∧ (l ≠ [] → a = some ⟨b, o, none⟩ ∧ M b (.cells cs T fz)) ∧ ∀ i, i < l.length → ∀ j, j < (ckCells (l.getD i default)).length → cs[o + i * 6 + j]? = (ckCells (l.getD i default))[j]? := by
  obtain ⟨a, cap, b, o, cs, T, fz, h1, h2, h3, h4, h5⟩ := Sl.open h
  refine ⟨a, cap, b, o, cs, T, fz, h1, h2, h3, h4, fun i hi j hj => ?_⟩
  obtain ⟨vs, _, rfl, h6⟩ := h5 i hi
  have e : l.getD i default = l[i] := by simp [hi]
  rw [e]
  exact h6 j hj
theorem slC_cells {a : Option Addr} {b o : Nat} {cs : Array Value} {T : TypeId} {fz : Nat × Nat} {l : List Ckie} (h3 : l ≠ [] → a = some ⟨b, o, none⟩ ∧ M b (.cells cs T fz)) (h4 : ∀ i, i < l.length → ∀ j, j < (ckCells (l.getD i default)).length → cs[o + i * 6 + j]? = (ckCells (l.getD i default))[j]?) : l.length = 0 ∨ ∃ b o cs T fz, a = some ⟨b, o, none⟩ ∧ M b (.cells cs T fz) ∧ ∀ j u, (cellsC l)[j]? = some u → cs[o + j]? = some u := by
  cases hl : l with
  | nil => exact .inl rfl
  | cons p r =>
    rw [← hl]
    obtain ⟨h5, h6⟩ := h3 (by rw [hl]; simp)
    refine .inr ⟨b, o, cs, T, fz, h5, h6, fun j u hj => ?_⟩
    have hjl : j < l.length * 6 := by
      rw [← cellsC_length]
      exact (List.getElem?_eq_some_iff.1 hj).1
    have hi : j / 6 < l.length := by omega
    have h7 := h4 (j / 6) hi (j % 6) (by rw [ckCells_length]; omega)
    have e : l.getD (j / 6) default = l[j / 6] := by simp [hi]
    rw [e, ← cellsC_at l (j / 6) hi, List.getElem?_take_of_lt (by omega), List.getElem?_drop, show j / 6 * 6 + j % 6 = j by omega, hj] at h7
    rw [← h7]; congr 1; omega
theorem clone_ok (hM : Laid M w) {v : Value} {l : List Ckie} (hv : SlC M v l) (hl : l.length ≤ 1000000) : Calls Tryd.prog 29 #[v] w (RetS M w (fun _ H v' => OwnS tCk 6 v' H (cellsC l))) := by
  obtain ⟨a, cap, b, o, cs, T, fz, rfl, h1, h2, h3, h4⟩ := hv.open
  refine calls_st (l := [.slice a l.length cap]) hM Tryd.func29 rfl rfl rfl (E0 := [(0, true, .slice a l.length cap)]) (params_cons rfl (params_nil _)) ?_
  cases a with
  | none =>
    have hn : l = [] := Decidable.byContradiction fun hne => by have := (h3 hne).1; cases this
    subst hn
    repeat' (first | refine wc_seq ?_ | refine wc_region ?_ | refine wl_nil ?_ | refine wn_seq ?_ | refine wn_blk ?_ | refine wc_skip ?_ | refine wc_block ?_ | refine wc_exit rfl ?_ | (show WL _ _ (_ :: _) _ _ _ _; first | refine yl_v rfl rfl rfl ?_ | refine wl_v rfl rfl rfl (by first | (show OpV _ _ _ _ (Oper.mk _ (Op.binOp BinOp.eql _ _ _ _) _ _ _ _) _ _; exact ov_eqNil rfl rfl (by first | with_reducible exact fun _ => rfl | with_reducible exact fun h => h | exact fun _ => rfl | exact fun h => h | (intro himp; simp_all; done)) (by first | with_reducible exact fun _ => rfl | with_reducible exact fun h => h | exact fun _ => rfl | exact fun h => h | (intro himp; simp_all; done)) rfl) | fail) ?_ | refine xl_buildSlice rfl (fun _ => ?_)) | refine wc_ret rfl ?_)
    refine wc_cond rfl (fun hc => ?_) (fun hc => by exfalso; cases hc)
    repeat' (first | refine wc_seq ?_ | refine wc_region ?_ | refine wl_nil ?_ | refine wn_seq ?_ | refine wn_blk ?_ | refine wc_skip ?_ | refine wc_block ?_ | refine wc_exit rfl ?_ | (show WL _ _ (_ :: _) _ _ _ _; first | refine yl_v rfl rfl rfl ?_ | refine wl_v rfl rfl rfl (by first  | fail) ?_ | refine xl_buildSlice rfl (fun _ => ?_)) | refine wc_ret rfl ?_)
    exact wr_S (Hn := []) rfl rfl Since.refl (List.nil_sublist _) OwnS.nil
  | some ad =>
    repeat' (first | refine wc_seq ?_ | refine wc_region ?_ | refine wl_nil ?_ | refine wn_seq ?_ | refine wn_blk ?_ | refine wc_skip ?_ | refine wc_block ?_ | refine wc_exit rfl ?_ | (show WL _ _ (_ :: _) _ _ _ _; first | refine yl_v rfl rfl rfl ?_ | refine wl_v rfl rfl rfl (by first | (show OpV _ _ _ _ (Oper.mk _ (Op.binOp BinOp.eql _ _ _ _) _ _ _ _) _ _; exact ov_eqNil rfl rfl (by first | with_reducible exact fun _ => rfl | with_reducible exact fun h => h | exact fun _ => rfl | exact fun h => h | (intro himp; simp_all; done)) (by first | with_reducible exact fun _ => rfl | with_reducible exact fun h => h | exact fun _ => rfl | exact fun h => h | (intro himp; simp_all; done)) rfl) | fail) ?_ | refine xl_buildSlice rfl (fun _ => ?_)) | refine wc_ret rfl ?_)
    refine wc_cond rfl (fun hc => by exfalso; cases hc) (fun hc => ?_)
    repeat' (first | refine wc_seq ?_ | refine wc_region ?_ | refine wl_nil ?_ | refine wn_seq ?_ | refine wn_blk ?_ | refine wc_skip ?_ | refine wc_block ?_ | refine wc_exit rfl ?_ | (show WL _ _ (_ :: _) _ _ _ _; first | refine yl_v rfl rfl rfl ?_ | refine wl_v rfl rfl rfl (by first  | fail) ?_ | refine xl_buildSlice rfl (fun _ => ?_)) | refine wc_ret rfl ?_)
    rename_i b5
    refine wl_appendM (news := cellsC l) (H0 := []) rfl (OwnS.lit (e := tCk) (m := 6) (b := b5) (l := []) rfl (by decide)) rfl rfl rfl rfl rfl rfl rfl rfl rfl rfl (slC_cells h3 h4) (cellsC_length _) (cellsC_plain _) (List.Sublist.cons_cons _ (List.nil_sublist _)) (by simp; omega) rfl ?_
    intro v' Hs' ho'
    rw [List.nil_append] at ho'
    repeat' (first | refine wc_seq ?_ | refine wc_region ?_ | refine wl_nil ?_ | refine wn_seq ?_ | refine wn_blk ?_ | refine wc_skip ?_ | refine wc_block ?_ | refine wc_exit rfl ?_ | (show WL _ _ (_ :: _) _ _ _ _; first | refine yl_v rfl rfl rfl ?_ | refine wl_v rfl rfl rfl (by first  | fail) ?_ | refine xl_buildSlice rfl (fun _ => ?_)) | refine wc_ret rfl ?_)
    exact wr_S (Hn := Hs') rfl rfl Since.refl (by simp) ho'
def idxC (p : Ckie → Bool) : List Ckie → Nat
  | [] => 0
  | x :: l => if p x = true then 0 else idxC p l + 1
def idxZC (p : Ckie → Bool) (l : List Ckie) : Int := if idxC p l < l.length then (idxC p l : Int) else -1
theorem idxC_hit (p : Ckie → Bool) : ∀ {l : List Ckie} {i : Nat}, i < l.length → (∀ j, j < i → p (l.getD j default) = false) → p (l.getD i default) = true → idxC p l = i
  | x :: l, 0, _, _, h => by rw [idxC, if_pos (by simpa using h)]
  | x :: l, i + 1, hi, ha, h => by
    have hx : p x = false := by simpa using ha 0 (by omega)
    rw [idxC, if_neg (by rw [hx]; decide), idxC_hit p (l := l) (i := i) (by simpa using hi) (fun j hj => by simpa using ha (j + 1) (by omega)) (by simpa using h)]
theorem idxC_no (p : Ckie → Bool) : ∀ {l : List Ckie}, (∀ j, j < l.length → p (l.getD j default) = false) → idxC p l = l.length
  | [], _ => rfl
  | x :: l, h => by
    have hx : p x = false := by simpa using h 0 (by simp)
    rw [idxC, if_neg (by rw [hx]; decide), idxC_no p (l := l) (fun j hj => by simpa using h (j + 1) (by simpa using hj))]; rfl
theorem idxC_before (p : Ckie → Bool) : ∀ (l : List Ckie), (l.take (idxC p l)).filter (fun x => !p x) = l.take (idxC p l)
  | [] => rfl
  | x :: l => by
    rw [idxC]
    split
    · rfl
    · rename_i h
      rw [List.take_succ_cons, List.filter_cons, if_pos (by simpa using h), idxC_before p l]
theorem idxC_le (p : Ckie → Bool) : ∀ (l : List Ckie), idxC p l ≤ l.length
  | [] => Nat.le_refl _
  | x :: l => by rw [idxC]; have := idxC_le p l; split <;> simp <;> omega
theorem idxC_at (p : Ckie → Bool) : ∀ {l : List Ckie}, idxC p l < l.length → p (l.getD (idxC p l) default) = true
  | [], h => by simp at h
  | x :: l, h => by
    rw [idxC] at h ⊢
    split
    · rename_i hx; simpa using hx
    · rename_i hx
      rw [if_neg hx] at h
      simpa using idxC_at p (l := l) (by simpa using h)
theorem ifuncC_ok (hM : Laid M w) {v : Value} {l : List Ckie} (hv : SlC M v l) (p : Ckie → Bool) (f : FuncId) (first captured : List Value) (hf : ∀ args w, (callFunc f args).run Tryd.prog w = .ok (.enter f args) w)
    (hby : ∀ x w, Laid M w → Calls Tryd.prog f (first ++ [Value.agg (ckCells x).toArray] ++ captured).toArray w (RetE w (.bool (p x)))) : Calls Tryd.prog 45 #[v, .func (.func f) first.toArray captured.toArray] w (RetE w (i64 (idxZC p l))) := by
  obtain ⟨a, cap, b, o, cs, T, fz, rfl, h1, h2, h3, h4⟩ := hv.open
  refine calls_st (l := [.slice a l.length cap, .func (.func f) first.toArray captured.toArray]) hM Tryd.func45 rfl rfl rfl (E0 := [(0, true, .slice a l.length cap), (1, true, .func (.func f) first.toArray captured.toArray)]) (params_cons rfl (params_cons rfl (params_nil _))) ?_
  repeat' (first | (first | refine wc_seq ?_ | refine wc_region ?_ | refine wl_nil ?_ | refine wn_seq ?_ | refine wn_blk ?_ | refine wc_skip ?_ | refine wc_block ?_ | refine wc_exit rfl ?_ | (show WL _ _ (_ :: _) _ _ _ _; first | refine yl_v rfl rfl rfl ?_ | refine wl_v rfl rfl rfl (by first  | fail) ?_) | refine wc_ret rfl ?_) | (show WC _ (Code.cond _ _ _) _ _ _ _; (refine wc_cond rfl (fun hc => ?_) (fun hc => ?_) <;> (try (simp only [decide_eq_true_eq, decide_eq_false_iff_not, Bool.and_eq_true, Bool.or_eq_true, Bool.and_eq_false_iff, Bool.or_eq_false_iff, Bool.not_eq_true', Bool.not_eq_false', Int.not_lt, Int.not_le] at hc)) <;> (try (exfalso; first | omega | contradiction)))))
  refine wc_loop (α := { i : Nat // i ≤ l.length ∧ ∀ j, j < i → p (l.getD j default) = false }) (fun x => [(0, true, .slice a l.length cap), (1, true, .func (.func f) first.toArray captured.toArray), (7, true, i64 (l.length : Int)), (8, true, i64 (x.1 : Int))]) (fun _ => St w [] [] M) (fun x => l.length - x.1) ⟨0, by omega, by intro j hj; omega⟩ (by first | exact Sub.nil _ | (repeat (first | exact Sub.nil _ | refine Sub.cons (by first | rfl | (simp [look]; done)) ?_))) (fun _ h => h) ?_
  rintro ⟨i, hi, hall⟩
  dsimp only
  rcases Nat.lt_or_ge i l.length with hlt | hge
  · have hne : l ≠ [] := by intro h; subst h; simp at hlt
    repeat' (first | (first | refine wc_seq ?_ | refine wc_region ?_ | refine wl_nil ?_ | refine wn_seq ?_ | refine wn_blk ?_ | refine wc_skip ?_ | refine wc_block ?_ | refine wc_exit rfl ?_ | (show WL _ _ (_ :: _) _ _ _ _; first | refine yl_v rfl rfl rfl ?_ | refine wl_v rfl rfl rfl (by first | (show OpV _ _ _ _ (Oper.mk _ (Op.indexAddr _ _ _) _ _ _ _) _ _; exact ov_indexAddr rfl rfl (by (fail_if_success (with_reducible show (987654321 : Int) = _)); repeat' (first | with_reducible exact nc_cast | with_reducible exact nc_lit | apply nc_add | apply nc_div | apply nc_mod | apply nc_mul | refine nc_sub (m := _) (n := _) nc_cast nc_lit (by omega) | refine nc_sub (m := _) (n := _) nc_cast nc_cast (by omega))) (by first | with_reducible exact fun _ => rfl | with_reducible exact fun h => h | exact fun _ => rfl | exact fun h => h | (intro himp; simp_all; done)) (by first | with_reducible exact fun _ => rfl | with_reducible exact fun h => h | exact fun _ => rfl | exact fun h => h | (intro himp; simp_all; done)) rfl (by first | exact (rfl : _ = some 1) | exact (rfl : _ = some 2) | exact (rfl : _ = some 3) | exact (rfl : _ = some 4) | exact (rfl : _ = some 6) | exact rfl) (fun hcg => (h3 hne).1) (by intro hcg; first | omega | (simp at hcg; omega))) | (show OpV _ _ _ _ (Oper.mk _ (Op.load _ _) _ _ _ _) _ _; exact ov_loadSM rfl (by first | with_reducible exact fun _ => rfl | with_reducible exact fun h => h | exact fun _ => rfl | exact fun h => h | (intro himp; simp_all; done)) rfl (by rfl) (fun hcg => (h3 hne).2) (fun hcg => h4 i (by omega))) | (show OpV _ _ _ _ (Oper.mk _ (Op.call ⟨.value (.tmp _), _, _⟩) _ _ _ _) _ _; exact ov_callV (first := first) (captured := captured) rfl hf rfl (by intro himp; first | rfl | (simp_all; done)) (by rfl) (fun _ _ h k => h.ext k) (fun hcg w hw => hby _ w hw.laid)) | fail) ?_) | refine wc_ret rfl ?_) | (show WC _ (Code.cond _ _ _) _ _ _ _; (refine wc_cond rfl (fun hc => ?_) (fun hc => ?_) <;> (try (simp only [decide_eq_true_eq, decide_eq_false_iff_not, Bool.and_eq_true, Bool.or_eq_true, Bool.and_eq_false_iff, Bool.or_eq_false_iff, Bool.not_eq_true', Bool.not_eq_false', Int.not_lt, Int.not_le] at hc)) <;> (try (exfalso; first | omega | contradiction)))))
    · refine wr_tmp rfl rfl ?_
      unfold idxZC
      rw [idxC_hit p hlt hall hc, if_pos hlt]
    · refine wn_cut ⟨i + 1, by omega, ?_⟩ (by show l.length - (i + 1) < l.length - i; omega) (by first | exact Sub.nil _ | (repeat (first | exact Sub.nil _ | refine Sub.cons (by first | rfl | (simp [look]; done)) ?_))) (fun _ h => h)
      intro j hj
      by_cases h : j = i
      · subst h; exact hc
      · exact hall j (by omega)
  · repeat' (first | (first | refine wc_seq ?_ | refine wc_region ?_ | refine wl_nil ?_ | refine wn_seq ?_ | refine wn_blk ?_ | refine wc_skip ?_ | refine wc_block ?_ | refine wc_exit rfl ?_ | (show WL _ _ (_ :: _) _ _ _ _; first | refine yl_v rfl rfl rfl ?_ | refine wl_v rfl rfl rfl (by first  | fail) ?_) | refine wc_ret rfl ?_) | (show WC _ (Code.cond _ _ _) _ _ _ _; (refine wc_cond rfl (fun hc => ?_) (fun hc => ?_) <;> (try (simp only [decide_eq_true_eq, decide_eq_false_iff_not, Bool.and_eq_true, Bool.or_eq_true, Bool.and_eq_false_iff, Bool.or_eq_false_iff, Bool.not_eq_true', Bool.not_eq_false', Int.not_lt, Int.not_le] at hc)) <;> (try (exfalso; first | omega | contradiction)))))
    refine wr_tmp rfl rfl ?_
    unfold idxZC
    rw [idxC_no p (fun j hj => hall j (by omega)), if_neg (by omega)]
end Go.Proofs.YtmfelfhingmmbaaDoor
/-
  The engine at a call that is lent blocks of its caller's: told by a class of worlds ahead and behind. Nothing of the program stands here.
-/
namespace Go.Eng
open Go.RowKit
set_option linter.unusedVariables false

section
variable {P : Program} {n : Nat} {E : Env} {k : Kont} {ops : Array Oper} {rest : List Oper} {C C' : World → Prop}
variable {dst : Option Tmp} {ty : TypeId} {pos : String} {af : Array Edge} {g : Option (Nat × Bool)}
/-- what a lent call ends in -/
def RetC (C' : World → Prop) (v : Value) : Ending → World → Prop := fun e w' => e = .returned v ∧ C' w'
/-- A call that leads from one class of worlds to another. -/
theorem wl_callL {f : FuncId} {l : List Operand} {ats : Array TypeId} {vs : List (Bool × Value)} {args : Array Value} {d : Nat} {v : Value}
    (hg : gd ops E g = some true) (hf : ∀ args w, (callFunc f args).run P w = .ok (.enter f args) w) (hl : evg true E l = some vs) (hp : vs.all (·.1) = true) (hargs : vs.map (·.2) = args.toList) (hd : Nat.blt d n = true)
    (hc : ∀ w, C w → Calls P f args w (RetC C' v))
    (h : WL P ops rest n ((d, true, v) :: E) C' k) :
    WL P ops (⟨some d, .call ⟨.value (.func f), l.toArray, ats⟩, ty, pos, af, g⟩ :: rest) n E C k := by
  have hd : d < n := by simpa [Nat.blt_eq] using hd
  refine wl_op hg fun a w ha hw => ?_
  unfold Oper.wp
  rw [run_callf hf (args := args) (by rw [evg_eval ha hl (by simpa using hp), hargs]), Oper.upon_enter]
  refine (hc w hw).mono ?_
  rintro e w' ⟨rfl, hC⟩
  exact h.run _ w' (ha.put hd rfl) hC
/-- A lent call is its body's walk. -/
theorem calls_lent {fn : Func} {f : FuncId} {c : Code} {l : List Value} {w : World} {R : Ending → World → Prop} (hC : C w) (hf : P.funcs[f]? = some fn) (hb : fn.body = some c) {m : Nat} (hm : fn.ntmps = m) (hl : Nat.ble l.length m = true) {E0 : Env}
    (hE : ∀ i cc v, look E0 i = some (cc, v) → cc = true ∧ l[i]? = some v) (h : WC P c m E0 C (.fin (bodyPost P fn R))) : Calls P f l.toArray w R :=
  calls_ex hf hb hm (Nat.le_of_ble_eq_true hl) hE ⟨fun a w' ha hw => by subst hw; exact h.run a w' ha hC⟩
theorem wrl_tmp2 {fn : Func} {t u : Nat} {v v' r r' : Value} (hr : fn.results = #[.tmp t, .tmp u]) (ht : look E t = some (true, v')) (hu : look E u = some (true, r')) (hv : v' = v) (hv2 : r' = r) (hC : ∀ w, C w → C' w) : WR n E C (bodyPost P fn (RetC C' (.tuple #[v, r]))) := ⟨fun a w ha hw => by
  refine bodyPost_ret (v := .tuple #[v, r]) ?_ ha.defers ⟨rfl, hC _ hw⟩
  have h1 := ha.reads t true v' ht
  have h2 := ha.reads u true r' hu
  rw [results_tmp2 hr]
  simp [h1, h2, hv, hv2]⟩
/-- what a lent call ends in that lays something for good: blocks that are new since w0 -/
def RetCS (w0 : World) (bs : List Nat) (H : List (Nat × Obj)) (M : Ghost) (R : Ghost → Value → Prop) : Ending → World → Prop := fun e w' => ∃ v M', e = .returned v ∧ (∀ b o, M b o → M' b o) ∧ (∀ b o, M' b o → M b o ∨ w0.heap.size ≤ b) ∧ St w0 bs H M' w' ∧ R M' v
theorem wl_callLS {w0 : World} {bs : List Nat} {H : List (Nat × Obj)} {M : Ghost} {R : Ghost → Value → Prop} {f : FuncId} {l : List Operand} {ats : Array TypeId} {vs : List (Bool × Value)} {args : Array Value} {d : Nat}
    (hg : gd ops E g = some true) (hf : ∀ args w, (callFunc f args).run P w = .ok (.enter f args) w) (hl : evg true E l = some vs) (hp : vs.all (·.1) = true) (hargs : vs.map (·.2) = args.toList) (hd : Nat.blt d n = true)
    (hc : ∀ w, C w → Calls P f args w (RetCS w0 bs H M R))
    (h : ∀ v M', (∀ b o, M b o → M' b o) → (∀ b o, M' b o → M b o ∨ w0.heap.size ≤ b) → R M' v → WL P ops rest n ((d, true, v) :: E) (St w0 bs H M') k) :
    WL P ops (⟨some d, .call ⟨.value (.func f), l.toArray, ats⟩, ty, pos, af, g⟩ :: rest) n E C k := by
  have hd : d < n := by simpa [Nat.blt_eq] using hd
  refine wl_op hg fun a w ha hw => ?_
  unfold Oper.wp
  rw [run_callf hf (args := args) (by rw [evg_eval ha hl (by simpa using hp), hargs]), Oper.upon_enter]
  refine (hc w hw).mono ?_
  rintro e w' ⟨v, M', rfl, h1, h2, h3, h4⟩
  exact (h v M' h1 h2 h4).run _ w' (ha.put hd rfl) h3
/-- the return of such a call: what is laid -/
theorem wrl_lay2 {w0 : World} {H H' Hn : List (Nat × Obj)} {M M0 : Ghost} {R : Ghost → Value → Prop} {fn : Func} {t u : Nat} {v' r' : Value} (hr : fn.results = #[.tmp t, .tmp u]) (ht : look E t = some (true, v')) (hu : look E u = some (true, r'))
    (hs : Since w0 M0 M) (hH : (Hn ++ H').Sublist H) (hR : R (With M Hn) (.tuple #[v', r'])) : WR n E (St w0 [] H M) (bodyPost P fn (RetCS w0 [] H' M0 R)) := ⟨fun a w ha hw => by
  have h1 := ha.reads t true v' ht
  have h2 := ha.reads u true r' hu
  have hw2 := hw.drop hH
  refine bodyPost_ret (v := .tuple #[v', r']) ?_ ha.defers ⟨_, With M Hn, rfl, fun b o h => .inl (hs.1 b o h), fun b o h => ?_, hw2.publish, hR⟩
  · rw [results_tmp2 hr]
    simp [h1, h2]
  · rcases h with h | h
    · exact hs.2 b o h
    · rcases hw2.new (b, o) (List.mem_append_left _ h) with h3 | h3
      · exact .inr h3
      · cases h3⟩
end
end Go.Eng
/-
  slices.DeleteFunc over cookies of one's own; a jar's methods.
-/
namespace Go.Eng
set_option linter.unusedSimpArgs false
set_option linter.unusedVariables false
/-- a call that is lent blocks, and gives back blocks of one's own -/
def RetO (w0 : World) (bs : List Nat) (H : List (Nat × Obj)) (M : Ghost) (R : Value → List (Nat × Obj) → Prop) : Ending → World → Prop := fun e w' => ∃ v Hs', e = .returned v ∧ St w0 bs (Hs' ++ H) M w' ∧ R v Hs'
section
variable {P : Program} {n : Nat} {E : Env} {k : Kont} {ops : Array Oper} {rest : List Oper} {C : World → Prop}
variable {ty : TypeId} {pos : String} {af : Array Edge} {g : Option (Nat × Bool)} {w0 : World} {bs : List Nat} {H : List (Nat × Obj)} {M : Ghost} {R : Value → List (Nat × Obj) → Prop}
theorem wl_callO {f : FuncId} {l : List Operand} {ats : Array TypeId} {vs : List (Bool × Value)} {args : Array Value} {d : Nat}
    (hg : gd ops E g = some true) (hf : ∀ args w, (callFunc f args).run P w = .ok (.enter f args) w) (hl : evg true E l = some vs) (hp : vs.all (·.1) = true) (hargs : vs.map (·.2) = args.toList) (hd : Nat.blt d n = true)
    (hc : ∀ w, C w → Calls P f args w (RetO w0 bs H M R))
    (h : ∀ v Hs', R v Hs' → WL P ops rest n ((d, true, v) :: E) (St w0 bs (Hs' ++ H) M) k) :
    WL P ops (⟨some d, .call ⟨.value (.func f), l.toArray, ats⟩, ty, pos, af, g⟩ :: rest) n E C k := by
  have hd : d < n := by simpa [Nat.blt_eq] using hd
  refine wl_op hg fun a w ha hw => ?_
  unfold Oper.wp
  rw [run_callf hf (args := args) (by rw [evg_eval ha hl (by simpa using hp), hargs]), Oper.upon_enter]
  refine (hc w hw).mono ?_
  rintro e w' ⟨v, Hs', rfl, h3, h4⟩
  exact (h v Hs' h4).run _ w' (ha.put hd rfl) h3
theorem wro_tmp {fn : Func} {t : Nat} {v' : Value} {Hs' : List (Nat × Obj)} (hr : fn.results = #[.tmp t]) (ht : look E t = some (true, v')) (hC : ∀ w, C w → St w0 bs (Hs' ++ H) M w) (hR : R v' Hs') : WR n E C (bodyPost P fn (RetO w0 bs H M R)) := ⟨fun a w ha hw => by
  have h1 := ha.reads t true v' ht
  refine bodyPost_ret (v := v') ?_ ha.defers ⟨v', Hs', rfl, hC w hw, hR⟩
  rw [results_tmp hr]
  simp [h1]⟩
theorem ov_loadSO {cg cx : Bool} {x : Operand} {dst : Option Tmp} {t : TypeId} {fs : Array Field} {b o : Nat} {cs : Array Value} {l : List Value} {T : TypeId} {fz : Nat × Nat} (hx : ev E x = some (cx, .pointer (some ⟨b, o, none⟩))) (h1 : Imp cg cx) (ht : P.underlying t = some (.struct fs))
    (hs : (P.info? t).map (·.size) = some l.length) (hm : (b, Obj.cells cs T fz) ∈ H) (hv : ∀ j, j < l.length → cs[o + j]? = l[j]?) : OpV P n E (St w0 bs H M) ⟨dst, .load t x, ty, pos, af, g⟩ cg (.agg l.toArray) :=
  ov_run fun h a ha w hw => by
    simp [execOp, ha.evalc hx (h1 h), Instr.loadAt, Instr.sureAddr, loadVar, isAgg_struct ht, run_sizeOf hs, run_loadCells (hw.get hm) l hv]
theorem zero_length (zc : Array Value) (n : Nat) : (Builtin.zeroCells zc n).toList.length = n * zc.size := by
  simp [Builtin.zeroCells]
theorem slc_pos {b i n cap m : Nat} (h1 : i < n) (h2 : n ≤ cap) : slc (some ⟨b, 0, none⟩) m i n cap = .slice (some ⟨b, i * m, none⟩) ((n - i - 1) + 1) (cap - i) := by
  unfold slc
  rw [if_neg (by omega), show n - i - 1 + 1 = n - i by omega]
  simp [Addr.add]
  exact fun h => h.symm
end
end Go.Eng
namespace Go.Proofs.YtmfelfhingmmbaaDoor
open Go.Eng Go.Pct Go.Txt Go.Ck
set_option maxRecDepth 10000
set_option linter.unusedSimpArgs false
set_option linter.unusedVariables false
variable {M : Ghost} {w0 w : World} {bs : List Nat} {H : List (Nat × Obj)}
structure DS (l : List Ckie) (p : Ckie → Bool) (L : List Value) where
  j : Nat
  cur : List Value
  hj : idxC p l < j ∧ j ≤ l.length
  hK : ((l.take j).filter fun x => !p x).length < j
  len : cur.length = L.length
  kept : cur.take (((l.take j).filter fun x => !p x).length * 6) = cellsC ((l.take j).filter fun x => !p x)
  tail : cur.drop (j * 6) = L.drop (j * 6)
theorem filter_next {l : List Ckie} {p : Ckie → Bool} {j : Nat} (h : j < l.length) : (l.take (j + 1)).filter (fun x => !p x) = (l.take j).filter (fun x => !p x) ++ (if p (l.getD j default) = true then [] else [l.getD j default]) := by
  have e : l.getD j default = l[j] := by simp [h]
  rw [List.take_succ_eq_append_getElem h, List.filter_append, e]
  congr 1
  by_cases hp : p l[j] = true
  · rw [if_pos hp]; simp [hp]
  · rw [if_neg hp]; simp [hp]
theorem zero_plain (n : Nat) : (Builtin.zeroCells (Value.cells (.agg #[str [], str [], str [], i64 0, .bool false, .bool false])) n).toList.all plainV = true := by
  rw [List.all_eq_true]
  intro v hv
  simp only [Builtin.zeroCells, Array.toList_map, List.mem_map] at hv
  obtain ⟨i, _, rfl⟩ := hv
  have key : ∀ r, r < 6 → plainV ((Value.cells (.agg #[str [], str [], str [], i64 0, .bool false, .bool false]))[r]!) = true := by decide
  exact key _ (Nat.mod_lt _ (by decide))
def zCk : Value := .agg #[str [], str [], str [], i64 0, .bool false, .bool false]
set_option maxHeartbeats 1000000 in
theorem del_ok {l : List Ckie} {v : Value} {Hs : List (Nat × Obj)} (own : OwnS tCk 6 v Hs (cellsC l)) (hl : l.length ≤ 1000000) (p : Ckie → Bool) (f : FuncId) (first captured : List Value) (hf : ∀ args w, (callFunc f args).run Tryd.prog w = .ok (.enter f args) w)
    (hby : ∀ x w, Laid M w → Calls Tryd.prog f (first ++ [Value.agg (ckCells x).toArray] ++ captured).toArray w (RetE w (.bool (p x)))) (hw : St w0 bs (Hs ++ H) M w) : Calls Tryd.prog 28 #[v, .func (.func f) first.toArray captured.toArray] w (RetO w0 bs H M (fun v' Hs' => OwnS tCk 6 v' Hs' (cellsC (l.filter fun x => !p x)))) := by
  have own0 := own
  rcases own with ⟨rfl, rfl, hx⟩ | ⟨b, len, cap, cur, rfl, rfl, q1, q2, q3, q4, q5⟩
  · have hl0 : l = [] := by
      have := congrArg List.length hx
      rw [cellsC_length] at this
      exact List.eq_nil_of_length_eq_zero (by simp at this; omega)
    subst hl0
    have hif := fun {w : World} (hw : Laid M w) => ifuncC_ok hw (v := .slice none 0 0) (l := []) sl_nil p f first captured hf hby
    refine calls_lent (C := St w0 bs H M) (l := [.slice none 0 0, .func (.func f) first.toArray captured.toArray]) hw Tryd.func28 rfl rfl rfl (E0 := [(0, true, .slice none 0 0), (1, true, .func (.func f) first.toArray captured.toArray)]) (params_cons rfl (params_cons rfl (params_nil _))) ?_
    repeat' (first | refine wc_seq ?_ | refine wc_region ?_ | refine wl_nil ?_ | refine wn_seq ?_ | refine wn_blk ?_ | refine wc_skip ?_ | refine wc_scope ?_ | refine wc_label ?_ | refine wn_noGoto ?_ | refine wc_block ?_ | refine wc_exit rfl ?_ | (show WL _ _ (_ :: _) _ _ _ _; first | refine yl_v rfl rfl rfl ?_ | refine wl_v rfl rfl rfl (by first | ((show OpV _ _ _ _ (Oper.mk _ (Op.call ⟨.value (.func 45), _, _⟩) _ _ _ _) _ _; exact ov_call Tryd.call45 rfl (by intro himp; first | rfl | (simp_all; done)) (by rfl) (fun _ _ h k => h.ext k) (fun hcg w hw => hif hw.laid))) | fail) ?_ | refine xl_alloc (fun _ => ?_) | refine xl_box rfl (fun _ => ?_) | refine xl_store rfl rfl ?_ | refine xl_buildSlice rfl (fun _ => ?_) | refine wl_makeMap rfl rfl (fun _ => ?_) | refine wl_insert rfl rfl rfl rfl rfl rfl (by first | exact rfl | exact trivial) (by first | exact Upd.here | exact Upd.there Upd.here | exact Upd.there (Upd.there Upd.here) | exact Upd.there (Upd.there (Upd.there Upd.here)) | exact Upd.there (Upd.there (Upd.there (Upd.there Upd.here))) | exact Upd.app _ (Upd.here) | exact Upd.app _ (Upd.there Upd.here) | exact Upd.app _ (Upd.there (Upd.there Upd.here)) | exact Upd.app _ (Upd.there (Upd.there (Upd.there Upd.here))) | exact Upd.there (Upd.app _ (Upd.here)) | exact Upd.there (Upd.app _ (Upd.there Upd.here)) | exact Upd.there (Upd.app _ (Upd.there (Upd.there Upd.here))) | exact Upd.there (Upd.app _ (Upd.there (Upd.there (Upd.there Upd.here)))) | exact Upd.there (Upd.there (Upd.app _ (Upd.here))) | exact Upd.there (Upd.there (Upd.app _ (Upd.there Upd.here))) | exact Upd.there (Upd.there (Upd.app _ (Upd.there (Upd.there Upd.here))))) (by rfl) ?_) | refine wc_ret rfl ?_)
    refine wc_cond rfl (fun hc => ?_) (fun hc => by exfalso; cases hc)
    repeat' (first | refine wc_seq ?_ | refine wc_region ?_ | refine wl_nil ?_ | refine wn_seq ?_ | refine wn_blk ?_ | refine wc_skip ?_ | refine wc_scope ?_ | refine wc_label ?_ | refine wn_noGoto ?_ | refine wc_block ?_ | refine wc_exit rfl ?_ | (show WL _ _ (_ :: _) _ _ _ _; first | refine yl_v rfl rfl rfl ?_ | refine wl_v rfl rfl rfl (by first  | fail) ?_ | refine xl_alloc (fun _ => ?_) | refine xl_box rfl (fun _ => ?_) | refine xl_store rfl rfl ?_ | refine xl_buildSlice rfl (fun _ => ?_) | refine wl_makeMap rfl rfl (fun _ => ?_) | refine wl_insert rfl rfl rfl rfl rfl rfl (by first | exact rfl | exact trivial) (by first | exact Upd.here | exact Upd.there Upd.here | exact Upd.there (Upd.there Upd.here) | exact Upd.there (Upd.there (Upd.there Upd.here)) | exact Upd.there (Upd.there (Upd.there (Upd.there Upd.here))) | exact Upd.app _ (Upd.here) | exact Upd.app _ (Upd.there Upd.here) | exact Upd.app _ (Upd.there (Upd.there Upd.here)) | exact Upd.app _ (Upd.there (Upd.there (Upd.there Upd.here))) | exact Upd.there (Upd.app _ (Upd.here)) | exact Upd.there (Upd.app _ (Upd.there Upd.here)) | exact Upd.there (Upd.app _ (Upd.there (Upd.there Upd.here))) | exact Upd.there (Upd.app _ (Upd.there (Upd.there (Upd.there Upd.here)))) | exact Upd.there (Upd.there (Upd.app _ (Upd.here))) | exact Upd.there (Upd.there (Upd.app _ (Upd.there Upd.here))) | exact Upd.there (Upd.there (Upd.app _ (Upd.there (Upd.there Upd.here))))) (by rfl) ?_) | refine wc_ret rfl ?_)
    exact wro_tmp (Hs' := []) rfl rfl (fun _ h => h) OwnS.nil
  · obtain ⟨L, rfl⟩ : ∃ L : List Value, cur = L.toArray := ⟨cur.toList, by simp⟩
    have hlen : len = l.length := by rw [cellsC_length] at q1; omega
    subst hlen
    have q4 : L.length = cap * 6 := by simpa using q4
    have q5 : L.take (l.length * 6) = cellsC l := q5
    have hif : ∀ {w' : World}, St w0 bs ((b, .cells L.toArray tCk (0, 0)) :: H) M w' → Calls Tryd.prog 45 #[.slice (some ⟨b, 0, none⟩) l.length cap, .func (.func f) first.toArray captured.toArray] w' (RetE w' (i64 (idxZC p l))) := fun hw' =>
      ifuncC_ok (St.lay (H1 := [(b, .cells L.toArray tCk (0, 0))]) (H2 := []) (hw'.drop (List.Sublist.cons_cons _ (List.nil_sublist _)))).laid (OwnS.slC own0 (fun p hp => .inr hp) (by omega)) p f first captured hf (fun x w h => hby x w (fun b o hb => h b o (.inl hb)))
    refine calls_lent (C := St w0 bs ((b, .cells L.toArray tCk (0, 0)) :: H) M) (l := [.slice (some ⟨b, 0, none⟩) l.length cap, .func (.func f) first.toArray captured.toArray]) hw Tryd.func28 rfl rfl rfl (E0 := [(0, true, .slice (some ⟨b, 0, none⟩) l.length cap), (1, true, .func (.func f) first.toArray captured.toArray)]) (params_cons rfl (params_cons rfl (params_nil _))) ?_
    have hile := idxC_le p l
    have hbef := idxC_before p l
    unfold idxZC at hif
    by_cases hlt : idxC p l < l.length
    · rw [if_pos hlt] at hif
      have hat := idxC_at p hlt
      have hst := filter_next (p := p) hlt
      rw [if_pos hat, List.append_nil, hbef] at hst
      repeat' (first | refine wc_seq ?_ | refine wc_region ?_ | refine wl_nil ?_ | refine wn_seq ?_ | refine wn_blk ?_ | refine wc_skip ?_ | refine wc_scope ?_ | refine wc_label ?_ | refine wn_noGoto ?_ | refine wc_block ?_ | refine wc_exit rfl ?_ | (show WL _ _ (_ :: _) _ _ _ _; first | refine yl_v rfl rfl rfl ?_ | refine wl_v rfl rfl rfl (by first | ((show OpV _ _ _ _ (Oper.mk _ (Op.call ⟨.value (.func 45), _, _⟩) _ _ _ _) _ _; exact ov_call Tryd.call45 rfl (by intro himp; first | rfl | (simp_all; done)) (by rfl) (fun _ _ h k => h.ext k) (fun hcg w hw => hif hw))) | fail) ?_ | refine xl_alloc (fun _ => ?_) | refine xl_box rfl (fun _ => ?_) | refine xl_store rfl rfl ?_ | refine xl_buildSlice rfl (fun _ => ?_) | refine wl_makeMap rfl rfl (fun _ => ?_) | refine wl_insert rfl rfl rfl rfl rfl rfl (by first | exact rfl | exact trivial) (by first | exact Upd.here | exact Upd.there Upd.here | exact Upd.there (Upd.there Upd.here) | exact Upd.there (Upd.there (Upd.there Upd.here)) | exact Upd.there (Upd.there (Upd.there (Upd.there Upd.here))) | exact Upd.app _ (Upd.here) | exact Upd.app _ (Upd.there Upd.here) | exact Upd.app _ (Upd.there (Upd.there Upd.here)) | exact Upd.app _ (Upd.there (Upd.there (Upd.there Upd.here))) | exact Upd.there (Upd.app _ (Upd.here)) | exact Upd.there (Upd.app _ (Upd.there Upd.here)) | exact Upd.there (Upd.app _ (Upd.there (Upd.there Upd.here))) | exact Upd.there (Upd.app _ (Upd.there (Upd.there (Upd.there Upd.here)))) | exact Upd.there (Upd.there (Upd.app _ (Upd.here))) | exact Upd.there (Upd.there (Upd.app _ (Upd.there Upd.here))) | exact Upd.there (Upd.there (Upd.app _ (Upd.there (Upd.there Upd.here))))) (by rfl) ?_) | refine wc_ret rfl ?_)
      refine wc_cond rfl (fun hc => by exfalso; simp at hc) (fun hc => ?_)
      clear hc
      repeat' (first | refine wc_seq ?_ | refine wc_region ?_ | refine wl_nil ?_ | refine wn_seq ?_ | refine wn_blk ?_ | refine wc_skip ?_ | refine wc_scope ?_ | refine wc_label ?_ | refine wn_noGoto ?_ | refine wc_block ?_ | refine wc_exit rfl ?_ | (show WL _ _ (_ :: _) _ _ _ _; first | refine yl_v rfl rfl rfl ?_ | refine wl_v rfl rfl rfl (by first  | fail) ?_ | refine xl_alloc (fun _ => ?_) | refine xl_box rfl (fun _ => ?_) | refine xl_store rfl rfl ?_ | refine xl_buildSlice rfl (fun _ => ?_) | refine wl_makeMap rfl rfl (fun _ => ?_) | refine wl_insert rfl rfl rfl rfl rfl rfl (by first | exact rfl | exact trivial) (by first | exact Upd.here | exact Upd.there Upd.here | exact Upd.there (Upd.there Upd.here) | exact Upd.there (Upd.there (Upd.there Upd.here)) | exact Upd.there (Upd.there (Upd.there (Upd.there Upd.here))) | exact Upd.app _ (Upd.here) | exact Upd.app _ (Upd.there Upd.here) | exact Upd.app _ (Upd.there (Upd.there Upd.here)) | exact Upd.app _ (Upd.there (Upd.there (Upd.there Upd.here))) | exact Upd.there (Upd.app _ (Upd.here)) | exact Upd.there (Upd.app _ (Upd.there Upd.here)) | exact Upd.there (Upd.app _ (Upd.there (Upd.there Upd.here))) | exact Upd.there (Upd.app _ (Upd.there (Upd.there (Upd.there Upd.here)))) | exact Upd.there (Upd.there (Upd.app _ (Upd.here))) | exact Upd.there (Upd.there (Upd.app _ (Upd.there Upd.here))) | exact Upd.there (Upd.there (Upd.app _ (Upd.there (Upd.there Upd.here))))) (by rfl) ?_) | refine wc_ret rfl ?_)
      refine wc_loop (α := DS l p L) (fun x => [(0, true, .slice (some ⟨b, 0, none⟩) l.length cap), (1, true, .func (.func f) first.toArray captured.toArray), (5, true, i64 ((((l.take x.j).filter fun x => !p x).length : Nat) : Int)), (6, true, i64 (x.j : Int))]) (fun x => St w0 bs ((b, .cells x.cur.toArray tCk (0, 0)) :: H) M) (fun x => l.length - x.j)
        ⟨idxC p l + 1, L, ⟨by omega, by omega⟩, by rw [hst, List.length_take]; omega, rfl, by rw [hst, List.length_take, Nat.min_eq_left (by omega), ← cellsC_take, ← q5, List.take_take, Nat.min_eq_left (by omega)], rfl⟩ (Eng.Sub.cons rfl (Eng.Sub.cons rfl (Eng.Sub.cons (by show some (true, i64 (idxC p l : Int)) = some (true, i64 ((((l.take (idxC p l + 1)).filter fun x => !p x).length : Nat) : Int)); rw [hst, List.length_take, Nat.min_eq_left (by omega)]) (by first | exact Sub.nil _ | (repeat (first | exact Sub.nil _ | refine Sub.cons (by first | rfl | (simp [look]; done)) ?_)))))) (fun _ h => h) ?_
      rintro ⟨j, cur, ⟨hj1, hj2⟩, hK, hcl, hkept, htail⟩
      dsimp only
      by_cases hjl : j < l.length
      · have hfn := filter_next (p := p) hjl
        have hcell : ∀ k, k < (ckCells (l.getD j default)).length → cur.toArray[0 + j * 6 + k]? = (ckCells (l.getD j default))[k]? := fun k hk => by
          have e : l.getD j default = l[j] := by simp [hjl]
          rw [ckCells_length] at hk
          have e1 : (cur.drop (j * 6))[k]? = (L.drop (j * 6))[k]? := by rw [htail]
          have e2 : ((L.take (l.length * 6)).drop (j * 6))[k]? = (L.drop (j * 6))[k]? := by
            rw [List.drop_take, List.getElem?_take_of_lt (by omega)]
          rw [q5] at e2
          have e3 : (((cellsC l).drop (j * 6)).take 6)[k]? = ((cellsC l).drop (j * 6))[k]? := List.getElem?_take_of_lt hk
          rw [cellsC_at l j hjl] at e3
          rw [e, e3, e2, ← e1, List.getElem?_drop]
          simp
        repeat' (first | refine wc_seq ?_ | refine wc_region ?_ | refine wl_nil ?_ | refine wn_seq ?_ | refine wn_blk ?_ | refine wc_skip ?_ | refine wc_scope ?_ | refine wc_label ?_ | refine wn_noGoto ?_ | refine wc_block ?_ | refine wc_exit rfl ?_ | (show WL _ _ (_ :: _) _ _ _ _; first | refine yl_v rfl rfl rfl ?_ | refine wl_v rfl rfl rfl (by first  | fail) ?_ | refine xl_alloc (fun _ => ?_) | refine xl_box rfl (fun _ => ?_) | refine xl_store rfl rfl ?_ | refine xl_buildSlice rfl (fun _ => ?_) | refine wl_makeMap rfl rfl (fun _ => ?_) | refine wl_insert rfl rfl rfl rfl rfl rfl (by first | exact rfl | exact trivial) (by first | exact Upd.here | exact Upd.there Upd.here | exact Upd.there (Upd.there Upd.here) | exact Upd.there (Upd.there (Upd.there Upd.here)) | exact Upd.there (Upd.there (Upd.there (Upd.there Upd.here))) | exact Upd.app _ (Upd.here) | exact Upd.app _ (Upd.there Upd.here) | exact Upd.app _ (Upd.there (Upd.there Upd.here)) | exact Upd.app _ (Upd.there (Upd.there (Upd.there Upd.here))) | exact Upd.there (Upd.app _ (Upd.here)) | exact Upd.there (Upd.app _ (Upd.there Upd.here)) | exact Upd.there (Upd.app _ (Upd.there (Upd.there Upd.here))) | exact Upd.there (Upd.app _ (Upd.there (Upd.there (Upd.there Upd.here)))) | exact Upd.there (Upd.there (Upd.app _ (Upd.here))) | exact Upd.there (Upd.there (Upd.app _ (Upd.there Upd.here))) | exact Upd.there (Upd.there (Upd.app _ (Upd.there (Upd.there Upd.here))))) (by rfl) ?_) | refine wc_ret rfl ?_)
        refine wc_cond rfl (fun hc => ?_) (fun hc => by exfalso; simp at hc; omega)
        clear hc
        generalize l.getD j default = x at *
        obtain ⟨xn, xv, xp, xz, xa, xb⟩ := x
        have hbx : ∀ w, Laid M w → Calls Tryd.prog f (first ++ [Value.agg [str xn, str xv, str xp, i64 xz, .bool xa, .bool xb].toArray] ++ captured).toArray w (RetE w (.bool (p ⟨xn, xv, xp, xz, xa, xb⟩))) := fun w h => hby ⟨xn, xv, xp, xz, xa, xb⟩ w h
        have hcell2 : ∀ k, k < [str xn, str xv, str xp, i64 xz, .bool xa, .bool xb].length → cur.toArray[0 + j * 6 + k]? = [str xn, str xv, str xp, i64 xz, .bool xa, .bool xb][k]? := hcell
        clear hcell
        have hc6 : cellsC [⟨xn, xv, xp, xz, xa, xb⟩] = [str xn, str xv, str xp, i64 xz, .bool xa, .bool xb] := rfl
        generalize (⟨xn, xv, xp, xz, xa, xb⟩ : Ckie) = x at *
        generalize ((l.take j).filter fun x => !p x) = K at *
        repeat' (first | refine wc_seq ?_ | refine wc_region ?_ | refine wl_nil ?_ | refine wn_seq ?_ | refine wn_blk ?_ | refine wc_skip ?_ | refine wc_scope ?_ | refine wc_label ?_ | refine wn_noGoto ?_ | refine wc_block ?_ | refine wc_exit rfl ?_ | (show WL _ _ (_ :: _) _ _ _ _; first | refine yl_v rfl rfl rfl ?_ | refine wl_v rfl rfl rfl (by first | (show OpV _ _ _ _ (Oper.mk _ (Op.indexAddr _ _ _) _ _ _ _) _ _; exact ov_indexAddr (i := j) (b := b) (o := 0) rfl rfl rfl (by first | with_reducible exact fun _ => rfl | with_reducible exact fun h => h | exact fun _ => rfl | exact fun h => h | (intro himp; simp_all; done)) (by first | with_reducible exact fun _ => rfl | with_reducible exact fun h => h | exact fun _ => rfl | exact fun h => h | (intro himp; simp_all; done)) rfl (by first | exact (rfl : _ = some 1) | exact (rfl : _ = some 2) | exact (rfl : _ = some 3) | exact (rfl : _ = some 4) | exact (rfl : _ = some 6) | exact rfl) (fun _ => rfl) (by intro hcg; first | omega | (simp at hcg; omega))) | (show OpV _ _ _ _ (Oper.mk _ (Op.load _ _) _ _ _ _) _ _; exact ov_loadSO rfl (by first | with_reducible exact fun _ => rfl | with_reducible exact fun h => h | exact fun _ => rfl | exact fun h => h | (intro himp; simp_all; done)) rfl (by rfl) (List.Mem.head _) hcell2) | (show OpV _ _ _ _ (Oper.mk _ (Op.call ⟨.value (.tmp _), _, _⟩) _ _ _ _) _ _; exact ov_callV (first := first) (captured := captured) rfl hf rfl (by intro himp; first | rfl | (simp_all; done)) (by rfl) (fun _ _ h k => h.ext k) (fun hcg w hw => hbx w hw.laid)) | fail) ?_ | refine xl_alloc (fun _ => ?_) | refine xl_box rfl (fun _ => ?_) | refine xl_store rfl rfl ?_ | refine xl_buildSlice rfl (fun _ => ?_) | refine wl_makeMap rfl rfl (fun _ => ?_) | refine wl_insert rfl rfl rfl rfl rfl rfl (by first | exact rfl | exact trivial) (by first | exact Upd.here | exact Upd.there Upd.here | exact Upd.there (Upd.there Upd.here) | exact Upd.there (Upd.there (Upd.there Upd.here)) | exact Upd.there (Upd.there (Upd.there (Upd.there Upd.here))) | exact Upd.app _ (Upd.here) | exact Upd.app _ (Upd.there Upd.here) | exact Upd.app _ (Upd.there (Upd.there Upd.here)) | exact Upd.app _ (Upd.there (Upd.there (Upd.there Upd.here))) | exact Upd.there (Upd.app _ (Upd.here)) | exact Upd.there (Upd.app _ (Upd.there Upd.here)) | exact Upd.there (Upd.app _ (Upd.there (Upd.there Upd.here))) | exact Upd.there (Upd.app _ (Upd.there (Upd.there (Upd.there Upd.here)))) | exact Upd.there (Upd.there (Upd.app _ (Upd.here))) | exact Upd.there (Upd.there (Upd.app _ (Upd.there Upd.here))) | exact Upd.there (Upd.there (Upd.app _ (Upd.there (Upd.there Upd.here))))) (by rfl) ?_) | refine wc_ret rfl ?_)
        refine wc_cond rfl (fun hc => ?_) (fun hc => ?_)
        · have hpx : ¬ p x = true := by simpa using hc
          rw [if_neg hpx] at hfn
          repeat' (first | refine wc_seq ?_ | refine wc_region ?_ | refine wl_nil ?_ | refine wn_seq ?_ | refine wn_blk ?_ | refine wc_skip ?_ | refine wc_scope ?_ | refine wc_label ?_ | refine wn_noGoto ?_ | refine wc_block ?_ | refine wc_exit rfl ?_ | (show WL _ _ (_ :: _) _ _ _ _; first | refine yl_v rfl rfl rfl ?_ | refine wl_v rfl rfl rfl (by first | (show OpV _ _ _ _ (Oper.mk _ (Op.indexAddr _ _ _) _ _ _ _) _ _; exact ov_indexAddr (i := K.length) (b := b) (o := 0) rfl rfl rfl (by first | with_reducible exact fun _ => rfl | with_reducible exact fun h => h | exact fun _ => rfl | exact fun h => h | (intro himp; simp_all; done)) (by first | with_reducible exact fun _ => rfl | with_reducible exact fun h => h | exact fun _ => rfl | exact fun h => h | (intro himp; simp_all; done)) rfl (by first | exact (rfl : _ = some 1) | exact (rfl : _ = some 2) | exact (rfl : _ = some 3) | exact (rfl : _ = some 4) | exact (rfl : _ = some 6) | exact rfl) (fun _ => rfl) (fun _ => by omega)) | fail) ?_ | refine xl_alloc (fun _ => ?_) | refine xl_box rfl (fun _ => ?_) | refine xl_store rfl rfl ?_ | refine xl_buildSlice rfl (fun _ => ?_) | refine wl_makeMap rfl rfl (fun _ => ?_) | refine wl_insert rfl rfl rfl rfl rfl rfl (by first | exact rfl | exact trivial) (by first | exact Upd.here | exact Upd.there Upd.here | exact Upd.there (Upd.there Upd.here) | exact Upd.there (Upd.there (Upd.there Upd.here)) | exact Upd.there (Upd.there (Upd.there (Upd.there Upd.here))) | exact Upd.app _ (Upd.here) | exact Upd.app _ (Upd.there Upd.here) | exact Upd.app _ (Upd.there (Upd.there Upd.here)) | exact Upd.app _ (Upd.there (Upd.there (Upd.there Upd.here))) | exact Upd.there (Upd.app _ (Upd.here)) | exact Upd.there (Upd.app _ (Upd.there Upd.here)) | exact Upd.there (Upd.app _ (Upd.there (Upd.there Upd.here))) | exact Upd.there (Upd.app _ (Upd.there (Upd.there (Upd.there Upd.here)))) | exact Upd.there (Upd.there (Upd.app _ (Upd.here))) | exact Upd.there (Upd.there (Upd.app _ (Upd.there Upd.here))) | exact Upd.there (Upd.there (Upd.app _ (Upd.there (Upd.there Upd.here))))) (by rfl) ?_) | refine wc_ret rfl ?_)
          have hfit : 0 + K.length * 6 + [str xn, str xv, str xp, i64 xz, .bool xa, .bool xb].length ≤ cur.length := by simp only [List.length_cons, List.length_nil]; omega
          refine wl_store (l := cur) (o := 0 + K.length * 6) rfl rfl rfl rfl (Upd.there Upd.here) rfl (by rw [Nat.ble_eq]; exact hfit) rfl ?_
          repeat' (first | refine wc_seq ?_ | refine wc_region ?_ | refine wl_nil ?_ | refine wn_seq ?_ | refine wn_blk ?_ | refine wc_skip ?_ | refine wc_scope ?_ | refine wc_label ?_ | refine wn_noGoto ?_ | refine wc_block ?_ | refine wc_exit rfl ?_ | (show WL _ _ (_ :: _) _ _ _ _; first | refine yl_v rfl rfl rfl ?_ | refine wl_v rfl rfl rfl (by first  | fail) ?_ | refine xl_alloc (fun _ => ?_) | refine xl_box rfl (fun _ => ?_) | refine xl_store rfl rfl ?_ | refine xl_buildSlice rfl (fun _ => ?_) | refine wl_makeMap rfl rfl (fun _ => ?_) | refine wl_insert rfl rfl rfl rfl rfl rfl (by first | exact rfl | exact trivial) (by first | exact Upd.here | exact Upd.there Upd.here | exact Upd.there (Upd.there Upd.here) | exact Upd.there (Upd.there (Upd.there Upd.here)) | exact Upd.there (Upd.there (Upd.there (Upd.there Upd.here))) | exact Upd.app _ (Upd.here) | exact Upd.app _ (Upd.there Upd.here) | exact Upd.app _ (Upd.there (Upd.there Upd.here)) | exact Upd.app _ (Upd.there (Upd.there (Upd.there Upd.here))) | exact Upd.there (Upd.app _ (Upd.here)) | exact Upd.there (Upd.app _ (Upd.there Upd.here)) | exact Upd.there (Upd.app _ (Upd.there (Upd.there Upd.here))) | exact Upd.there (Upd.app _ (Upd.there (Upd.there (Upd.there Upd.here)))) | exact Upd.there (Upd.there (Upd.app _ (Upd.here))) | exact Upd.there (Upd.there (Upd.app _ (Upd.there Upd.here))) | exact Upd.there (Upd.there (Upd.app _ (Upd.there (Upd.there Upd.here))))) (by rfl) ?_) | refine wc_ret rfl ?_)
          refine wn_cut ⟨j + 1, setCells cur (0 + K.length * 6) [str xn, str xv, str xp, i64 xz, .bool xa, .bool xb], ⟨by omega, by omega⟩, by rw [hfn, List.length_append, List.length_singleton]; omega, by rw [setCells_length]; exact hcl, ?_, ?_⟩ (by show l.length - (j + 1) < l.length - j; omega) (Eng.Sub.cons rfl (Eng.Sub.cons rfl (Eng.Sub.cons (by show some (true, i64 ((K.length : Int) + 1)) = some (true, i64 ((((l.take (j + 1)).filter fun x => !p x).length : Nat) : Int)); rw [hfn, List.length_append, List.length_singleton]; rfl) (by first | exact Sub.nil _ | (repeat (first | exact Sub.nil _ | refine Sub.cons (by first | rfl | (simp [look]; done)) ?_)))))) (fun _ h => h.drop (List.sublist_cons_self _ _))
          · rw [hfn, List.length_append, List.length_singleton, cellsC_append, hc6, setCells_eq _ _ _ hfit, Nat.zero_add, ← hkept]
            rw [List.take_append_of_le_length (by simp only [List.length_append, List.length_take, List.length_cons, List.length_nil]; omega), List.take_of_length_le (by simp only [List.length_append, List.length_take, List.length_cons, List.length_nil]; omega)]
          · rw [setCells_eq _ _ _ hfit, Nat.zero_add, List.drop_append, List.drop_eq_nil_of_le (by simp only [List.length_append, List.length_take, List.length_cons, List.length_nil]; omega), List.nil_append, List.drop_drop]
            have e1 : (j + 1) * 6 = j * 6 + 6 := by omega
            have e2 : K.length * 6 + [str xn, str xv, str xp, i64 xz, .bool xa, .bool xb].length + ((j + 1) * 6 - (cur.take (K.length * 6) ++ [str xn, str xv, str xp, i64 xz, .bool xa, .bool xb]).length) = j * 6 + 6 := by
              simp only [List.length_append, List.length_take, List.length_cons, List.length_nil]; omega
            rw [e2, e1, ← List.drop_drop, ← List.drop_drop, htail]
        · have hpx : p x = true := by simpa using hc
          rw [if_pos hpx, List.append_nil] at hfn
          repeat' (first | refine wc_seq ?_ | refine wc_region ?_ | refine wl_nil ?_ | refine wn_seq ?_ | refine wn_blk ?_ | refine wc_skip ?_ | refine wc_scope ?_ | refine wc_label ?_ | refine wn_noGoto ?_ | refine wc_block ?_ | refine wc_exit rfl ?_ | (show WL _ _ (_ :: _) _ _ _ _; first | refine yl_v rfl rfl rfl ?_ | refine wl_v rfl rfl rfl (by first  | fail) ?_ | refine xl_alloc (fun _ => ?_) | refine xl_box rfl (fun _ => ?_) | refine xl_store rfl rfl ?_ | refine xl_buildSlice rfl (fun _ => ?_) | refine wl_makeMap rfl rfl (fun _ => ?_) | refine wl_insert rfl rfl rfl rfl rfl rfl (by first | exact rfl | exact trivial) (by first | exact Upd.here | exact Upd.there Upd.here | exact Upd.there (Upd.there Upd.here) | exact Upd.there (Upd.there (Upd.there Upd.here)) | exact Upd.there (Upd.there (Upd.there (Upd.there Upd.here))) | exact Upd.app _ (Upd.here) | exact Upd.app _ (Upd.there Upd.here) | exact Upd.app _ (Upd.there (Upd.there Upd.here)) | exact Upd.app _ (Upd.there (Upd.there (Upd.there Upd.here))) | exact Upd.there (Upd.app _ (Upd.here)) | exact Upd.there (Upd.app _ (Upd.there Upd.here)) | exact Upd.there (Upd.app _ (Upd.there (Upd.there Upd.here))) | exact Upd.there (Upd.app _ (Upd.there (Upd.there (Upd.there Upd.here)))) | exact Upd.there (Upd.there (Upd.app _ (Upd.here))) | exact Upd.there (Upd.there (Upd.app _ (Upd.there Upd.here))) | exact Upd.there (Upd.there (Upd.app _ (Upd.there (Upd.there Upd.here))))) (by rfl) ?_) | refine wc_ret rfl ?_)
          exact wn_cut ⟨j + 1, cur, ⟨by omega, by omega⟩, by rw [hfn]; omega, hcl, by rw [hfn]; exact hkept, by rw [show (j + 1) * 6 = j * 6 + 6 from by omega, ← List.drop_drop, ← List.drop_drop, htail]⟩ (by show l.length - (j + 1) < l.length - j; omega) (Eng.Sub.cons rfl (Eng.Sub.cons rfl (Eng.Sub.cons (by show some (true, i64 ((K.length : Nat) : Int)) = some (true, i64 ((((l.take (j + 1)).filter fun x => !p x).length : Nat) : Int)); rw [hfn]) (by first | exact Sub.nil _ | (repeat (first | exact Sub.nil _ | refine Sub.cons (by first | rfl | (simp [look]; done)) ?_)))))) (fun _ h => h.drop (List.sublist_cons_self _ _))
      obtain rfl : j = l.length := by omega
      rw [List.take_length] at hK hkept ⊢
      generalize (l.filter fun x => !p x) = K at *
      have hzl := zero_length (Value.cells zCk) (l.length - K.length - 1 + 1)
      have hz6 : (Value.cells zCk).size = 6 := rfl
      rw [hz6] at hzl
      have hfit : K.length * 6 + (Builtin.zeroCells (Value.cells zCk) (l.length - K.length - 1 + 1)).toList.length ≤ cur.length := by rw [hzl]; omega
      repeat' (first | refine wc_seq ?_ | refine wc_region ?_ | refine wl_nil ?_ | refine wn_seq ?_ | refine wn_blk ?_ | refine wc_skip ?_ | refine wc_scope ?_ | refine wc_label ?_ | refine wn_noGoto ?_ | refine wc_block ?_ | refine wc_exit rfl ?_ | (show WL _ _ (_ :: _) _ _ _ _; first | refine yl_v rfl rfl rfl ?_ | refine wl_v rfl rfl rfl (by first  | fail) ?_ | refine xl_alloc (fun _ => ?_) | refine xl_box rfl (fun _ => ?_) | refine xl_store rfl rfl ?_ | refine xl_buildSlice rfl (fun _ => ?_) | refine wl_makeMap rfl rfl (fun _ => ?_) | refine wl_insert rfl rfl rfl rfl rfl rfl (by first | exact rfl | exact trivial) (by first | exact Upd.here | exact Upd.there Upd.here | exact Upd.there (Upd.there Upd.here) | exact Upd.there (Upd.there (Upd.there Upd.here)) | exact Upd.there (Upd.there (Upd.there (Upd.there Upd.here))) | exact Upd.app _ (Upd.here) | exact Upd.app _ (Upd.there Upd.here) | exact Upd.app _ (Upd.there (Upd.there Upd.here)) | exact Upd.app _ (Upd.there (Upd.there (Upd.there Upd.here))) | exact Upd.there (Upd.app _ (Upd.here)) | exact Upd.there (Upd.app _ (Upd.there Upd.here)) | exact Upd.there (Upd.app _ (Upd.there (Upd.there Upd.here))) | exact Upd.there (Upd.app _ (Upd.there (Upd.there (Upd.there Upd.here)))) | exact Upd.there (Upd.there (Upd.app _ (Upd.here))) | exact Upd.there (Upd.there (Upd.app _ (Upd.there Upd.here))) | exact Upd.there (Upd.there (Upd.app _ (Upd.there (Upd.there Upd.here))))) (by rfl) ?_) | refine wc_ret rfl ?_)
      refine wc_cond rfl (fun hc => by exfalso; simp at hc) (fun hc => ?_)
      clear hc
      repeat' (first | refine wc_seq ?_ | refine wc_region ?_ | refine wl_nil ?_ | refine wn_seq ?_ | refine wn_blk ?_ | refine wc_skip ?_ | refine wc_scope ?_ | refine wc_label ?_ | refine wn_noGoto ?_ | refine wc_block ?_ | refine wc_exit rfl ?_ | (show WL _ _ (_ :: _) _ _ _ _; first | refine yl_v rfl rfl rfl ?_ | refine wl_v rfl rfl rfl (by first  | fail) ?_ | refine xl_alloc (fun _ => ?_) | refine xl_box rfl (fun _ => ?_) | refine xl_store rfl rfl ?_ | refine xl_buildSlice rfl (fun _ => ?_) | refine wl_makeMap rfl rfl (fun _ => ?_) | refine wl_insert rfl rfl rfl rfl rfl rfl (by first | exact rfl | exact trivial) (by first | exact Upd.here | exact Upd.there Upd.here | exact Upd.there (Upd.there Upd.here) | exact Upd.there (Upd.there (Upd.there Upd.here)) | exact Upd.there (Upd.there (Upd.there (Upd.there Upd.here))) | exact Upd.app _ (Upd.here) | exact Upd.app _ (Upd.there Upd.here) | exact Upd.app _ (Upd.there (Upd.there Upd.here)) | exact Upd.app _ (Upd.there (Upd.there (Upd.there Upd.here))) | exact Upd.there (Upd.app _ (Upd.here)) | exact Upd.there (Upd.app _ (Upd.there Upd.here)) | exact Upd.there (Upd.app _ (Upd.there (Upd.there Upd.here))) | exact Upd.there (Upd.app _ (Upd.there (Upd.there (Upd.there Upd.here)))) | exact Upd.there (Upd.there (Upd.app _ (Upd.here))) | exact Upd.there (Upd.there (Upd.app _ (Upd.there Upd.here))) | exact Upd.there (Upd.there (Upd.app _ (Upd.there (Upd.there Upd.here))))) (by rfl) ?_) | refine wc_ret rfl ?_)
      rw [slc_pos hK q2]
      refine wl_clear (z := zCk) rfl rfl rfl (fun _ => rfl) Upd.here hfit (zero_plain _) ?_
      repeat' (first | refine wc_seq ?_ | refine wc_region ?_ | refine wl_nil ?_ | refine wn_seq ?_ | refine wn_blk ?_ | refine wc_skip ?_ | refine wc_scope ?_ | refine wc_label ?_ | refine wn_noGoto ?_ | refine wc_block ?_ | refine wc_exit rfl ?_ | (show WL _ _ (_ :: _) _ _ _ _; first | refine yl_v rfl rfl rfl ?_ | refine wl_v rfl rfl rfl (by first  | fail) ?_ | refine xl_alloc (fun _ => ?_) | refine xl_box rfl (fun _ => ?_) | refine xl_store rfl rfl ?_ | refine xl_buildSlice rfl (fun _ => ?_) | refine wl_makeMap rfl rfl (fun _ => ?_) | refine wl_insert rfl rfl rfl rfl rfl rfl (by first | exact rfl | exact trivial) (by first | exact Upd.here | exact Upd.there Upd.here | exact Upd.there (Upd.there Upd.here) | exact Upd.there (Upd.there (Upd.there Upd.here)) | exact Upd.there (Upd.there (Upd.there (Upd.there Upd.here))) | exact Upd.app _ (Upd.here) | exact Upd.app _ (Upd.there Upd.here) | exact Upd.app _ (Upd.there (Upd.there Upd.here)) | exact Upd.app _ (Upd.there (Upd.there (Upd.there Upd.here))) | exact Upd.there (Upd.app _ (Upd.here)) | exact Upd.there (Upd.app _ (Upd.there Upd.here)) | exact Upd.there (Upd.app _ (Upd.there (Upd.there Upd.here))) | exact Upd.there (Upd.app _ (Upd.there (Upd.there (Upd.there Upd.here)))) | exact Upd.there (Upd.there (Upd.app _ (Upd.here))) | exact Upd.there (Upd.there (Upd.app _ (Upd.there Upd.here))) | exact Upd.there (Upd.there (Upd.app _ (Upd.there (Upd.there Upd.here))))) (by rfl) ?_) | refine wc_ret rfl ?_)
      refine wro_tmp (Hs' := [(b, .cells (setCells cur (K.length * 6) (Builtin.zeroCells zCk.cells (l.length - K.length - 1 + 1)).toList).toArray tCk (0, 0))]) rfl rfl (fun _ h => h) (.inr ⟨b, K.length, cap, _, rfl, rfl, cellsC_length K, by omega, q3, ?_, ?_⟩)
      · rw [List.size_toArray, setCells_length, hcl]; exact q4
      · show (setCells cur (K.length * 6) _).take (K.length * 6) = _
        rw [setCells_eq _ _ _ hfit, List.append_assoc, List.take_append_of_le_length (by rw [List.length_take]; omega), List.take_take, Nat.min_self, hkept]
    · have he : idxC p l = l.length := by omega
      rw [if_neg hlt] at hif
      rw [he, List.take_length] at hbef
      rw [hbef]
      repeat' (first | refine wc_seq ?_ | refine wc_region ?_ | refine wl_nil ?_ | refine wn_seq ?_ | refine wn_blk ?_ | refine wc_skip ?_ | refine wc_scope ?_ | refine wc_label ?_ | refine wn_noGoto ?_ | refine wc_block ?_ | refine wc_exit rfl ?_ | (show WL _ _ (_ :: _) _ _ _ _; first | refine yl_v rfl rfl rfl ?_ | refine wl_v rfl rfl rfl (by first | ((show OpV _ _ _ _ (Oper.mk _ (Op.call ⟨.value (.func 45), _, _⟩) _ _ _ _) _ _; exact ov_call Tryd.call45 rfl (by intro himp; first | rfl | (simp_all; done)) (by rfl) (fun _ _ h k => h.ext k) (fun hcg w hw => hif hw))) | fail) ?_ | refine xl_alloc (fun _ => ?_) | refine xl_box rfl (fun _ => ?_) | refine xl_store rfl rfl ?_ | refine xl_buildSlice rfl (fun _ => ?_) | refine wl_makeMap rfl rfl (fun _ => ?_) | refine wl_insert rfl rfl rfl rfl rfl rfl (by first | exact rfl | exact trivial) (by first | exact Upd.here | exact Upd.there Upd.here | exact Upd.there (Upd.there Upd.here) | exact Upd.there (Upd.there (Upd.there Upd.here)) | exact Upd.there (Upd.there (Upd.there (Upd.there Upd.here))) | exact Upd.app _ (Upd.here) | exact Upd.app _ (Upd.there Upd.here) | exact Upd.app _ (Upd.there (Upd.there Upd.here)) | exact Upd.app _ (Upd.there (Upd.there (Upd.there Upd.here))) | exact Upd.there (Upd.app _ (Upd.here)) | exact Upd.there (Upd.app _ (Upd.there Upd.here)) | exact Upd.there (Upd.app _ (Upd.there (Upd.there Upd.here))) | exact Upd.there (Upd.app _ (Upd.there (Upd.there (Upd.there Upd.here)))) | exact Upd.there (Upd.there (Upd.app _ (Upd.here))) | exact Upd.there (Upd.there (Upd.app _ (Upd.there Upd.here))) | exact Upd.there (Upd.there (Upd.app _ (Upd.there (Upd.there Upd.here))))) (by rfl) ?_) | refine wc_ret rfl ?_)
      refine wc_cond rfl (fun hc => ?_) (fun hc => by exfalso; simp at hc)
      repeat' (first | refine wc_seq ?_ | refine wc_region ?_ | refine wl_nil ?_ | refine wn_seq ?_ | refine wn_blk ?_ | refine wc_skip ?_ | refine wc_scope ?_ | refine wc_label ?_ | refine wn_noGoto ?_ | refine wc_block ?_ | refine wc_exit rfl ?_ | (show WL _ _ (_ :: _) _ _ _ _; first | refine yl_v rfl rfl rfl ?_ | refine wl_v rfl rfl rfl (by first  | fail) ?_ | refine xl_alloc (fun _ => ?_) | refine xl_box rfl (fun _ => ?_) | refine xl_store rfl rfl ?_ | refine xl_buildSlice rfl (fun _ => ?_) | refine wl_makeMap rfl rfl (fun _ => ?_) | refine wl_insert rfl rfl rfl rfl rfl rfl (by first | exact rfl | exact trivial) (by first | exact Upd.here | exact Upd.there Upd.here | exact Upd.there (Upd.there Upd.here) | exact Upd.there (Upd.there (Upd.there Upd.here)) | exact Upd.there (Upd.there (Upd.there (Upd.there Upd.here))) | exact Upd.app _ (Upd.here) | exact Upd.app _ (Upd.there Upd.here) | exact Upd.app _ (Upd.there (Upd.there Upd.here)) | exact Upd.app _ (Upd.there (Upd.there (Upd.there Upd.here))) | exact Upd.there (Upd.app _ (Upd.here)) | exact Upd.there (Upd.app _ (Upd.there Upd.here)) | exact Upd.there (Upd.app _ (Upd.there (Upd.there Upd.here))) | exact Upd.there (Upd.app _ (Upd.there (Upd.there (Upd.there Upd.here)))) | exact Upd.there (Upd.there (Upd.app _ (Upd.here))) | exact Upd.there (Upd.there (Upd.app _ (Upd.there Upd.here))) | exact Upd.there (Upd.there (Upd.app _ (Upd.there (Upd.there Upd.here))))) (by rfl) ?_) | refine wc_ret rfl ?_)
      exact wro_tmp (Hs' := [(b, .cells L.toArray tCk (0, 0))]) rfl rfl (fun _ h => h) own0
end Go.Proofs.YtmfelfhingmmbaaDoor
/-
  The engine at a region that draws its order and in which one operation turns a block that the others do not look at: told as in EngD, the worlds before and behind related by whatever relation serves. Nothing of the program stands here.
-/
namespace Go.Eng
open Go.RowKit
set_option linter.unusedVariables false

def SteadyX (X : World → World → Prop) (V : Tell) : Prop := ∀ u w w', X w w' → V u w → V u w'
theorem steadyX_exact (X : World → World → Prop) (c : Bool) (v : Value) : SteadyX X (exact1 c v) := fun _ _ _ _ h => h
section
variable {P : Program} {n : Nat} {E : Env} {C : World → Prop} {k : Kont} {ops : Array Oper} {X : World → World → Prop}
structure ObX (P : Program) (ops : Array Oper) (n : Nat) (C : World → Prop) (X : World → World → Prop) (o : Oper) (G : REnv) (V : Tell) : Prop where
  run : ∀ a w, C w → a.defers = [] → a.tmps.size = n → HR G (· ∈ o.looksAt ops) a w →
    (Region.wanted o (yielded ops a.tmps) = true → o.wp P a w (fun a' w' => ∃ v, a' = a.put o.dst v ∧ (o.dst = none → v = undef) ∧ V v w' ∧ X w w' ∧ C w') (fun _ _ _ => False)) ∧
    (Region.wanted o (yielded ops a.tmps) = false → V undef w)
def putG (o : Oper) (V : Tell) (G : REnv) : REnv := match o.dst with
  | some d => (d, V) :: G
  | none => G
def putQ (o : Oper) (V : Tell) (Q : World → Prop) : World → Prop := match o.dst with
  | some _ => Q
  | none => fun w => Q w ∧ V undef w
def WDsX (P : Program) (ops : Array Oper) (n : Nat) (C : World → Prop) (X : World → World → Prop) : List Oper → REnv → (World → Prop) → (REnv → (World → Prop) → Prop) → Prop
  | [], G, Q, fin => fin G Q
  | o :: rest, G, Q, fin => ∃ V, (∀ d, o.dst = some d → d < n) ∧ SteadyX X V ∧ ObX P ops n C X o G V ∧ WDsX P ops n C X rest (putG o V G) (putQ o V Q) fin

theorem wds_outX : ∀ (l : List Oper) (i : Nat) (G : REnv) (Q : World → Prop) (fin : REnv → (World → Prop) → Prop), (∀ j, j < l.length → ops[i + j]? = l[j]?) → WDsX P ops n C X l G Q fin →
    ∃ (Vs : Nat → Tell) (Q' : World → Prop), (∀ j, j < l.length → ∃ o, ops[i + j]? = some o ∧ (∀ d, o.dst = some d → d < n) ∧ SteadyX X (Vs j) ∧ ObX P ops n C X o (Gam (ops.extract i ops.size) Vs G j) (Vs j)) ∧ fin (Gam (ops.extract i ops.size) Vs G l.length) Q' ∧
      ∀ w, Q w → (∀ j o, j < l.length → ops[i + j]? = some o → o.dst = none → Vs j undef w) → Q' w
  | [], i, G, Q, fin, _, h => ⟨fun _ => fun _ _ => True, Q, by simp, h, fun _ hq _ => hq⟩
  | o :: rest, i, G, Q, fin, hl, h => by
    obtain ⟨V, hdn, hst, hob, hr⟩ := h
    have hoi : ops[i]? = some o := by simpa using hl 0 (by simp)
    obtain ⟨Vs, Q', h1, h2, h3⟩ := wds_outX rest (i + 1) (putG o V G) (putQ o V Q) fin (fun j hj => by have := hl (j + 1) (by simp; omega); simpa [Nat.add_assoc, Nat.add_comm 1 j] using this) hr
    have hilt : i < ops.size := by
      rcases Nat.lt_or_ge i ops.size with h' | h'
      · exact h'
      · simp [Array.getElem?_eq_none h'] at hoi
    have key : ∀ j, Gam (ops.extract i ops.size) (fun | 0 => V | q + 1 => Vs q) G (j + 1) = Gam (ops.extract (i + 1) ops.size) Vs (putG o V G) j := by
      intro j
      induction j with
      | zero =>
        have : (ops.extract i ops.size)[0]? = some o := by rw [Array.getElem?_extract, if_pos (by omega)]; simpa using hoi
        cases hd : o.dst <;> simp [Gam, this, putG, hd]
      | succ j ih =>
        have e : (ops.extract i ops.size)[j + 1]? = (ops.extract (i + 1) ops.size)[j]? := by
          simp only [Array.getElem?_extract]
          have : i + (j + 1) = i + 1 + j := by omega
          rw [this]
          by_cases h' : j < min ops.size ops.size - (i + 1)
          · rw [if_pos (by omega), if_pos h']
          · rw [if_neg (by omega), if_neg h']
        have hS : ∀ (q : Nat) (A : Array Oper) (W : Nat → Tell) (G : REnv), Gam A W G (q + 1) = match (A[q]?).bind (·.dst) with | some d => (d, W q) :: Gam A W G q | none => Gam A W G q := fun _ _ _ _ => rfl
        rw [hS (j + 1) (ops.extract i ops.size) _ G, hS j (ops.extract (i + 1) ops.size) Vs, e, ih]
    refine ⟨fun | 0 => V | q + 1 => Vs q, Q', ?_, ?_, ?_⟩
    · intro j hj
      cases j with
      | zero => exact ⟨o, by simpa using hoi, hdn, hst, hob⟩
      | succ j =>
        obtain ⟨o', ho', hdn', hst', hob'⟩ := h1 j (by simpa using hj)
        exact ⟨o', by rw [← ho']; congr 1; omega, hdn', hst', by rw [key]; exact hob'⟩
    · rw [List.length_cons, key]; exact h2
    · intro w hq hall
      refine h3 w ?_ (fun j p hj hp hd => ?_)
      · unfold putQ
        cases hd : o.dst with
        | some d => exact hq
        | none => exact ⟨hq, hall 0 o (by simp) (by simpa using hoi) hd⟩
      · exact hall (j + 1) p (by simpa using hj) (by rw [← hp]; congr 1; omega) hd

/-- The state in the midst of the first part. -/
structure MidX (ops : Array Oper) (n m : Nat) (C : World → Prop) (Vs : Nat → Tell) (G0 : REnv) (listed : Array Bool) (a : Act) (w : World) : Prop where
  closed : Closed ops listed
  inC : C w
  defers : a.defers = []
  size : a.tmps.size = n
  few : ∀ j, On listed j → j < m
  vals : ∀ j o d, On listed j → ops[j]? = some o → o.dst = some d → ∃ u, a.tmps[d]? = some u ∧ Vs j u w
  facts : ∀ j o, On listed j → ops[j]? = some o → o.dst = none → Vs j undef w
  base : ∀ s U, lookR G0 s = some U → (∀ j o, On listed j → ops[j]? = some o → o.dst ≠ some s) → ∃ u, a.tmps[s]? = some u ∧ U u w

theorem mid_allX {Q : Exit → Act → World → Prop} {m : Nat} {Vs : Nat → Tell} {G0 : REnv} (hord : orderly ops m = true) (hm : m ≤ ops.size) (hst0 : ∀ s U, lookR G0 s = some U → SteadyX X U) (hrefl : ∀ w, X w w)
    (hV : ∀ j, j < m → ∃ o, ops[j]? = some o ∧ (∀ d, o.dst = some d → d < n) ∧ SteadyX X (Vs j) ∧ ObX P ops n C X o (Gam ops Vs G0 j) (Vs j))
    (hfin : ∀ a w, C w → HA n (Gam ops Vs G0 m) a w → (∀ j o, j < m → ops[j]? = some o → o.dst = none → Vs j undef w) → wpList P ops Q (ops.toList.drop m) a w) :
    ∀ (fuel : Nat) (listed : Array Bool) (a : Act) (w : World), left listed = fuel → MidX ops n m C Vs G0 listed a w → wpAny P .any ops Q fuel listed a w := by
  -- all of the prefix is done
  have done : ∀ (fuel : Nat) (listed : Array Bool) (a : Act) (w : World), left listed = fuel → MidX ops n m C Vs G0 listed a w → (∀ j, j < m → On listed j) → wpAny P .any ops Q fuel listed a w := by
    intro fuel listed a w hf hmid hall
    have hon : ∀ j, On listed j ↔ j < m := fun j => ⟨hmid.few j, hall j⟩
    have hlen : left listed = (ops.toList.drop m).length := by
      have : listed = Array.ofFn (n := ops.size) (fun i => decide (i.val < m)) := by
        apply Array.ext
        · simp [hmid.closed.size]
        · intro i h1 h2
          have := hon i
          simp [On, h1] at this
          simp
          cases hb : listed[i] with
          | true => simp [← this, hb]
          | false => simp [hb] at this; simp; omega
      have hc : ∀ (q : Nat), (List.ofFn (n := q) (fun i => decide (i.val < m))).countP (fun b => !b) = q - m := by
        intro q
        induction q with
        | zero => simp
        | succ q ih =>
          rw [List.ofFn_succ_last]
          simp only [List.countP_append, Fin.val_castSucc] 
          rw [ih]
          by_cases h' : q < m
          · simp [h']; omega
          · simp [h']; omega
      unfold left
      rw [this, Array.toList_ofFn, hc]
      simp
    rw [← hf, hlen]
    refine tail_any hord (ops.toList.drop m) m listed a w (Nat.le_refl _) (by simp; omega) (fun j hj => by simp) hmid.closed.size hon (hfin a w hmid.inC ⟨hmid.defers, hmid.size, ?_⟩ (fun j o hj ho hd => hmid.facts j o (hall j hj) ho hd))
    intro s U hs _
    rcases look_gam hs with ⟨j, o, hj, ho, hd, rfl⟩ | ⟨h0, hn⟩
    · exact hmid.vals j o s (hall j hj) ho hd
    · exact hmid.base s U h0 (fun j o hj ho => hn j o ((hon j).1 hj) ho)
  intro fuel
  induction fuel with
  | zero =>
    intro listed a w hf hmid
    exact done 0 listed a w hf hmid (fun j hj => left_zero hf (by rw [hmid.closed.size]; omega))
  | succ fuel ih =>
    intro listed a w hf hmid
    by_cases hall : ∀ j, j < m → On listed j
    · exact done _ listed a w hf hmid hall
    have hready : ∃ i o, i < m ∧ ops[i]? = some o ∧ ¬ On listed i ∧ ∀ l ∈ edges o, On listed l := by
      have : ∃ i, i < m ∧ ¬ On listed i := by
        rcases Classical.em (∃ i, i < m ∧ ¬ On listed i) with h' | h'
        · exact h'
        · exact absurd (fun j hj => Classical.byContradiction fun hn => h' ⟨j, hj, hn⟩) hall
      obtain ⟨i, ⟨hi, hni⟩, hleast⟩ := exists_least this
      have hilt : i < ops.size := by omega
      refine ⟨i, ops[i], hi, by simp [hilt], hni, fun l hl => ?_⟩
      have hli := (orderly_at hord (i := i) (o := ops[i]) (by simp [hilt])).1 l hl
      exact Classical.byContradiction fun hn => by have := hleast l ⟨by omega, hn⟩; omega
    refine ⟨fun h0 => ?_, fun i hi => ?_⟩
    · obtain ⟨i, o, him, ho, hno, hr⟩ := hready
      have : i ∈ Region.ready .any ops listed := (ready_iff hmid.closed.size).2 ⟨o, ho, hno, hr⟩
      rw [h0] at this; cases this
    · obtain ⟨o, ho, hno, hr⟩ := (ready_iff hmid.closed.size).1 hi
      have hord1 := orderly_at hord ho
      have him : i < m := by
        rcases Nat.lt_or_ge i m with h' | h'
        · exact h'
        · obtain ⟨q, p, hqm, hp, hnq, _⟩ := hready
          exact absurd (anc_on hmid.closed (i + 1) i o ho hr q (hord1.2.2.2 h' q (by omega))) hnq
      obtain ⟨o', ho', hdn, hst, hob⟩ := hV i him
      obtain rfl : o = o' := by rw [ho] at ho'; simpa using ho'
      have hilt : i < listed.size := by rw [hmid.closed.size]; omega
      have hHR : HR (Gam ops Vs G0 i) (· ∈ o.looksAt ops) a w := by
        intro s U hs hlook
        rcases look_gam hs with ⟨j, p, hj, hp, hd', rfl⟩ | ⟨h0, hn⟩
        · have := ((hord1.2.2.1 j p s hp (by omega) hd').2 hlook)
          rw [if_pos hj] at this
          exact hmid.vals j p s (hr j this) hp hd'
        · refine hmid.base s U h0 (fun j p hj hp hs' => ?_)
          by_cases hji : j < i
          · exact hn j p hji hp hs'
          · have hne : j ≠ i := fun e => hno (e ▸ hj)
            have := ((hord1.2.2.1 j p s hp hne hs').2 hlook)
            rw [if_neg hji] at this
            exact hno (hmid.closed.back j p hp hj i this)
      have hnext : ∀ v w', (o.dst = none → v = undef) → Vs i v w' → X w w' → C w' → wpAny P .any ops Q fuel (listed.setIfInBounds i true) (a.put o.dst v) w' := by
        intro v w' hun hv hx hC'
        have hsz : (a.put o.dst v).tmps.size = n := by
          cases hd : o.dst <;> simp [Act.put, hmid.size]
        have hdf : (a.put o.dst v).defers = [] := by
          cases hd : o.dst <;> simp [Act.put, hmid.defers]
        have hoth : ∀ s, o.dst ≠ some s → (a.put o.dst v).tmps[s]? = a.tmps[s]? := by
          intro s hs
          cases hd : o.dst with
          | none => simp [Act.put]
          | some d =>
            have hne : d ≠ s := fun e => hs (by rw [hd, e])
            simp only [Act.put]; rw [Array.getElem?_setIfInBounds_ne hne]
        refine ih _ _ _ (by have := left_set hilt hno; omega) ⟨⟨by simpa using hmid.closed.size, ?_⟩, hC', hdf, hsz, ?_, ?_, ?_, ?_⟩
        · intro q p hp hq j hj
          rw [on_set hilt] at hq ⊢
          rcases hq with rfl | hq
          · rw [ho] at hp; obtain rfl : o = p := by simpa using hp
            exact .inr (hr j hj)
          · exact .inr (hmid.closed.back q p hp hq j hj)
        · intro j hj
          rw [on_set hilt] at hj
          rcases hj with rfl | hj
          · exact him
          · exact hmid.few j hj
        · intro j p d' hj hp hd'
          rw [on_set hilt] at hj
          by_cases e : j = i
          · subst e; rw [ho] at hp; obtain rfl : o = p := by simpa using hp
            have hdn' := hdn d' hd'
            exact ⟨v, by rw [hd']; simp [Act.put, hmid.size, hdn'], hv⟩
          · have hj : On listed j := hj.resolve_left e
            obtain ⟨u, hu, hVu⟩ := hmid.vals j p d' hj hp hd'
            have hne := (hord1.2.2.1 j p d' hp e hd').1
            obtain ⟨o2, ho2, _, hst2, _⟩ := hV j (hmid.few j hj)
            exact ⟨u, by rw [hoth d' hne]; exact hu, hst2 _ _ _ hx hVu⟩
        · intro j p hj hp hd'
          rw [on_set hilt] at hj
          by_cases e : j = i
          · subst e; rw [ho] at hp; obtain rfl : o = p := by simpa using hp
            rw [← hun hd']; exact hv
          · have hj : On listed j := hj.resolve_left e
            obtain ⟨o2, ho2, _, hst2, _⟩ := hV j (hmid.few j hj)
            exact hst2 _ _ _ hx (hmid.facts j p hj hp hd')
        · intro s U hs hn
          have hne : o.dst ≠ some s := hn i o (by rw [on_set hilt]; exact .inl rfl) ho
          obtain ⟨u, hu, hU⟩ := hmid.base s U hs (fun j p hj hp => hn j p (by rw [on_set hilt]; exact .inr hj) hp)
          exact ⟨u, by rw [hoth s hne]; exact hu, hst0 s U hs _ _ _ hx hU⟩
      obtain ⟨h1, h2⟩ := hob.run a w hmid.inC hmid.defers hmid.size hHR
      unfold wpOp
      simp only [ho]
      split
      · rename_i hw
        refine .inl ?_
        have := h1 hw
        unfold Oper.wp at this ⊢
        generalize (execOp a.eval o).run P w = r at *
        cases r with
        | ok nx w1 =>
          cases nx <;> simp only [Oper.upon] at this ⊢
          case value u => obtain ⟨v, e, hun, h3, h4, h5⟩ := this; rw [e]; exact hnext v _ hun h3 h4 h5
          case skip => obtain ⟨v, e, hun, h3, h4, h5⟩ := this; rw [e]; exact hnext v _ hun h3 h4 h5
          case defer => obtain ⟨v, e, hun, h3, h4, h5⟩ := this; rw [e]; exact hnext v _ hun h3 h4 h5
          case enter f args =>
            refine this.mono fun e w2 he => ?_
            cases e with
            | returned u => obtain ⟨v, e, hun, h3, h4, h5⟩ := he; show wpAny P .any ops Q fuel _ (a.put o.dst u) w2; rw [e]; exact hnext v _ hun h3 h4 h5
            | panicked c => exact he.elim
            | outgrown => obtain ⟨_, _, h⟩ := he; exact h.elim
          case row row args => refine this.mono fun u w2 he => ?_; obtain ⟨v, e, hun, h3, h4, h5⟩ := he; rw [e]; exact hnext v _ hun h3 h4 h5
        | halt x w1 => cases x <;> simp only [Oper.upon] at this
      · rename_i hw
        have hw' : Region.wanted o (yielded ops a.tmps) = false := by simpa using hw
        exact hnext undef w (fun _ => rfl) (h2 hw') (hrefl _) hmid.inC


/-- The told part (exact entries only), the facts that its writers leave; what is left is walked in the order of the text. -/
structure WX (P : Program) (ops : Array Oper) (l : List Oper) (n : Nat) (E : Env) (C : World → Prop) (X : World → World → Prop) (Q : World → Prop) (tail : List Oper) (k : Kont) : Prop where
  run : ∀ G, (∀ s, lookR G s = (look E s).map fun cv => exact1 cv.1 cv.2) → WDsX P ops n C X l G Q (fun G' Q' => ∀ a w, C w → Q' w → HA n G' a w → wpList P ops (k.post P) tail a w)
theorem wc_drawX {id : Nat} {l : List Oper} (m : Nat) (X : World → World → Prop) (C' : World → Prop) (hm : P.follows .mixedOrders = true) (hml : Nat.ble m l.length = true) (hord : orderly l.toArray m = true) (hrefl : ∀ w, X w w) (hC : ∀ w, C w → C' w.drew)
    (h : WX P l.toArray (l.take m) n E C' X (fun _ => True) (l.drop m) k) : WC P (.region id l.toArray true) n E C k := by
  have hml : m ≤ l.length := Nat.le_of_ble_eq_true hml
  refine ⟨fun a w ha hw => wp_region_any hm ?_⟩
  have h := h.run (ofEnv E) (by intro s; rw [lookR_ofEnv])
  obtain ⟨Vs, Q', hV, hfin, hQ⟩ := wds_outX (ops := l.toArray) (l.take m) 0 _ _ _ (by intro j hj; simp at hj; simp [hj]) h
  have hex : l.toArray.extract 0 l.toArray.size = l.toArray := by simp
  rw [hex] at hV hfin
  have hlen : (l.take m).length = m := by simp; omega
  rw [hlen] at hV hfin hQ
  refine mid_allX (m := m) (C := C') (X := X) (G0 := ofEnv E) hord (by simpa using hml) ?_ hrefl (fun j hj => ?_) (fun a w hCw hA hf => by simpa using hfin a w hCw (hQ w trivial (fun j o hj ho hd => hf j o hj (by simpa using ho) hd)) hA) _ _ a _ (start_left _) ?_
  · intro s U hs
    rw [lookR_ofEnv] at hs
    obtain ⟨cv, _, rfl⟩ := Option.map_eq_some_iff.1 hs
    exact steadyX_exact _ _ _
  · obtain ⟨o, h1, h2⟩ := hV j hj
    exact ⟨o, by simpa using h1, h2⟩
  · refine ⟨⟨by simp, fun i o _ hi => absurd hi (start_on _ _)⟩, hC w hw, ha.defers, ha.size, fun j hj => absurd hj (start_on _ _), fun j o d hj => absurd hj (start_on _ _), fun j o hj => absurd hj (start_on _ _), ?_⟩
    intro s U hs _
    rw [lookR_ofEnv] at hs
    obtain ⟨cv, hcv, rfl⟩ := Option.map_eq_some_iff.1 hs
    exact ⟨_, ha.reads s cv.1 cv.2 hcv, rfl⟩
theorem wx_nil {Q : World → Prop} {tail : List Oper} (h : WL P ops tail n E (fun w => C w ∧ Q w) k) : WX P ops [] n E C X Q tail k := ⟨fun G hG a w hw hq hA => h.run a w ⟨hA.1, hA.2.1, fun i c v hi => by
  obtain ⟨u, hu, hU⟩ := hA.2.2 i (exact1 c v) (by rw [hG]; simp [hi]) trivial
  rw [hu, hU]⟩ ⟨hw, hq⟩⟩
theorem wx_v {d : Nat} {cg : Bool} {v : Value} {o : Oper} {rest tail : List Oper} {Q : World → Prop} (hX : ∀ w w', Ext w w' → X w w') (hg : gd ops E o.guard = some cg) (ho : o.dst = some d) (hd : Nat.blt d n = true) (hb : belowN n E = true) (hsel : noSel o = true)
    (hv : OpV P n E C o cg v) (h : WX P ops rest n ((d, cg, v) :: E) C X Q tail k) : WX P ops (o :: rest) n E C X Q tail k := ⟨fun G hG => by
  have hd : d < n := by simpa [Nat.blt_eq] using hd
  refine ⟨exact1 cg v, (fun d' hd' => by rw [ho] at hd'; cases hd'; exact hd), steadyX_exact _ _ _, ⟨fun a w hw had has hHR => ?_⟩, ?_⟩
  · obtain ⟨b, hb1, hb2, hb3⟩ := turn (ops := ops) (E := E) o had has (fun i c u hi hm => by
      obtain ⟨u', h1, h2⟩ := hHR i (exact1 c u) (by rw [hG]; simp [hi]) hm
      rw [h1, h2]) (noSel_spec hsel) (belowN_look hb)
    have hwb := wanted_gd (ops := ops) hb1 hg
    rw [hb3] at hwb
    refine ⟨fun hwant => ?_, fun hno => ?_⟩
    · have hcg : cg = true := by rw [← hwb]; exact hwant
      have := hv.run hcg b hb1 w hw
      have : YAt P o a C w v := by unfold YAt at *; rw [hb2] at this; exact this
      exact this.wp hw fun w' hw' hx => ⟨v, rfl, (fun h => by rw [ho] at h; cases h), by simp [exact1, hcg], hX _ _ hx, hw'⟩
    · have hcg : cg = false := by rw [← hwb]; exact hno
      simp [exact1, hcg]
  · unfold putG putQ
    rw [ho]
    refine h.run _ ?_
    intro s
    simp only [lookR, look]
    by_cases e : d = s
    · subst e; simp
    · rw [beq_no e, cond_false, cond_false]; exact hG s⟩
/-- a writer: what it leaves is a fact -/
theorem wx_w {o : Oper} {rest tail : List Oper} {Q F : World → Prop} (hg : o.guard = none) (ho : o.dst = none) (hb : belowN n E = true) (hsel : noSel o = true) (hF : ∀ w w', X w w' → F w → F w')
    (hv : ∀ a w, Holds n E a → C w → ∃ w', (execOp a.eval o).run P w = .ok .skip w' ∧ X w w' ∧ C w' ∧ F w') (h : WX P ops rest n E C X (fun w => Q w ∧ F w) tail k) : WX P ops (o :: rest) n E C X Q tail k := ⟨fun G hG => by
  refine ⟨fun _ w => F w, (fun d' hd' => by rw [ho] at hd'; cases hd'), fun _ _ _ hx hf => hF _ _ hx hf, ⟨fun a w hw had has hHR => ?_⟩, ?_⟩
  · obtain ⟨b, hb1, hb2, hb3⟩ := turn (ops := ops) (E := E) o had has (fun i c u hi hm => by
      obtain ⟨u', h1, h2⟩ := hHR i (exact1 c u) (by rw [hG]; simp [hi]) hm
      rw [h1, h2]) (noSel_spec hsel) (belowN_look hb)
    refine ⟨fun _ => ?_, fun hno => by simp [Region.wanted, hg] at hno⟩
    obtain ⟨w', h1, h2, h3, h4⟩ := hv b w hb1 hw
    unfold Oper.wp
    rw [← hb2, h1, Oper.upon_skip, ho]
    exact ⟨undef, by simp [Act.put], fun _ => rfl, h4, h2, h3⟩
  · have e1 : putG o (fun _ w => F w) G = G := by unfold putG; rw [ho]
    have e2 : putQ o (fun _ w => F w) Q = fun w => Q w ∧ F w := by unfold putQ; rw [ho]
    rw [e1, e2]
    exact h.run G hG⟩
/-- laid for good from here on; that it is new is known -/
theorem wl_publish {w0 : World} {H1 H2 : List (Nat × Obj)} {M : Ghost} {l : List Oper} (h : (∀ p ∈ H1, w0.heap.size ≤ p.1) → WL P ops l n E (St w0 [] H2 (With M H1)) k) : WL P ops l n E (St w0 [] (H1 ++ H2) M) k :=
  ⟨fun a w ha hw => (h (fun p hp => by have := hw.new p (List.mem_append_left _ hp); simpa using this)).run a w ha hw.publish⟩
theorem wc_publish {w0 : World} {H1 H2 : List (Nat × Obj)} {M : Ghost} {c : Code} (h : (∀ p ∈ H1, w0.heap.size ≤ p.1) → WC P c n E (St w0 [] H2 (With M H1)) k) : WC P c n E (St w0 [] (H1 ++ H2) M) k :=
  ⟨fun a w ha hw => (h (fun p hp => by have := hw.new p (List.mem_append_left _ hp); simpa using this)).run a w ha hw.publish⟩
theorem since_new {w0 : World} {M0 M : Ghost} {H1 : List (Nat × Obj)} (h : Since w0 M0 M) (hn : ∀ p ∈ H1, w0.heap.size ≤ p.1) : Since w0 M0 (With M H1) := h.step (fun _ _ h => .inl h) (fun b o hb => hb.elim .inl fun hm => .inr (hn (b, o) hm))
/-- a class of worlds that leaves open what one block holds -/
theorem ov_ex {α : Type} {D : α → World → Prop} {o : Oper} {cg : Bool} {v : Value} (h : ∀ x, OpV P n E (D x) o cg v) : OpV P n E (fun w => ∃ x, D x w) o cg v := ⟨fun hc a ha w ⟨x, hw⟩ => by
  have := (h x).run hc a ha w hw
  unfold YAt at *
  generalize (execOp a.eval o).run P w = r at *
  cases r with
  | ok nx w1 =>
    cases nx <;> simp only [] at this ⊢
    case value u => exact this
    case enter f args => exact ⟨this.1, this.2.mono fun e w2 ⟨h1, h2, h3⟩ => ⟨h1, h2, x, h3⟩⟩
  | halt x w1 => simp only [] at this⟩
/-- a store of a whole block of one's own, run -/
theorem exec_store {w0 : World} {bs : List Nat} {H : List (Nat × Obj)} {M : Ghost} {x y : Operand} {ty t : TypeId} {pos : String} {af : Array Edge} {g : Option (Nat × Bool)} {b : Nat} {c l : List Value} {T : TypeId} {v : Value} {a : Act} {w : World} (hw : St w0 bs ((b, .cells c.toArray T (0, 0)) :: H) M w)
    (hx : a.eval x = .pointer (some ⟨b, 0, none⟩)) (hy : a.eval y = v) (hs : (P.info? t).map (·.size) = some v.cells.size) (hv : v.cells.toList = l) (hl : l.length = c.length) (hp : l.all plainV = true) :
    ∃ w', (execOp a.eval ⟨none, .store t x y, ty, pos, af, g⟩).run P w = .ok .skip w' ∧ Keep [b] w w' ∧ St w0 bs ((b, .cells l.toArray T (0, 0)) :: H) M w' ∧ w'.heap[b]? = some (.cells l.toArray T (0, 0)) := by
  have hsz : v.cells.size = l.length := by rw [← hv]; simp
  obtain ⟨w', h1, h2, h3⟩ := run_storeCells (P := P) (b := b) (o := 0) (T := T) v.cells.toList 0 c w (hw.get List.mem_cons_self) (by rw [hv]; omega) (by rw [hv]; exact hp)
  have e : setCells c (0 + 0) v.cells.toList = l := by
    rw [hv]
    have := set_past ([] : List Value) l c (by omega)
    simp only [List.nil_append, List.length_nil] at this
    rw [this, List.drop_eq_nil_of_le (by omega), List.append_nil]
  rw [e] at h3
  refine ⟨w', ?_, h2, hw.upd (o := .cells c.toArray T (0, 0)) Upd.here h2 h3, h3⟩
  simp [execOp, hx, hy, Instr.storeAt, Instr.sureAddr, storeVar, run_sizeOf hs, h1]
/-- what is known of a block said of it -/
theorem St.known {w0 : World} {bs : List Nat} {H : List (Nat × Obj)} {M : Ghost} {b : Nat} {o o' : Obj} {w : World} (h : St w0 bs ((b, o) :: H) M w) (hb : w.heap[b]? = some o') : St w0 bs ((b, o') :: H) M w := by
  refine ⟨h.keep, fun p hp => ?_, fun p hp => ?_, by simpa using h.nodup, h.laid, fun q r hm p hp => ?_⟩
  · rcases List.mem_cons.1 hp with rfl | hp
    · exact hb
    · exact h.own p (List.mem_cons_of_mem _ hp)
  · rcases List.mem_cons.1 hp with rfl | hp
    · exact h.new (b, o) List.mem_cons_self
    · exact h.new p (List.mem_cons_of_mem _ hp)
  · rcases List.mem_cons.1 hp with rfl | hp
    · exact h.apart q r hm (b, o) List.mem_cons_self
    · exact h.apart q r hm p (List.mem_cons_of_mem _ hp)
/-- one block may turn, once, to what is said -/
def TurnsTo (b : Nat) (o : Obj) (w w' : World) : Prop := Keep [b] w w' ∧ (w.heap[b]? = some o → w'.heap[b]? = some o)
theorem TurnsTo.refl (b : Nat) (o : Obj) (w : World) : TurnsTo b o w w := ⟨Keep.refl _ _, id⟩
theorem TurnsTo.ext {b : Nat} {o : Obj} {w w' : World} (h : Ext w w') : TurnsTo b o w w' := ⟨h.to, fun hb => by rw [h.block b (lt_of_get hb) (by simp)]; exact hb⟩
end
end Go.Eng
/-
  A jar: New, Put, All, Pairs; the document's Put, Pairs, Cookies.
-/
namespace Go.Eng
set_option linter.unusedSimpArgs false
set_option linter.unusedVariables false
/-- a call that is lent a block: what is in it then, what is laid for good -/
def RetY (w0 : World) (H : List (Nat × Obj)) (M : Ghost) (b : Nat) (R : Ghost → Obj → Value → Prop) : Ending → World → Prop := fun e w' => ∃ v M' o, e = .returned v ∧ (∀ b o, M b o → M' b o) ∧ (∀ k o, M' k o → M k o ∨ w0.heap.size ≤ k) ∧ St w0 [] ((b, o) :: H) M' w' ∧ R M' o v
section
variable {P : Program} {n : Nat} {E : Env} {k : Kont} {ops : Array Oper} {rest : List Oper} {C : World → Prop}
variable {ty : TypeId} {pos : String} {af : Array Edge} {g : Option (Nat × Bool)} {w0 w : World} {H : List (Nat × Obj)} {M : Ghost} {b : Nat} {R : Ghost → Obj → Value → Prop}
theorem wl_callY {f : FuncId} {l : List Operand} {ats : Array TypeId} {vs : List (Bool × Value)} {args : Array Value} {d : Nat}
    (hg : gd ops E g = some true) (hf : ∀ args w, (callFunc f args).run P w = .ok (.enter f args) w) (hl : evg true E l = some vs) (hp : vs.all (·.1) = true) (hargs : vs.map (·.2) = args.toList) (hd : Nat.blt d n = true)
    (hc : ∀ w, C w → Calls P f args w (RetY w0 H M b R))
    (h : ∀ v M' o, (∀ b o, M b o → M' b o) → (∀ b o, M' b o → M b o ∨ w0.heap.size ≤ b) → R M' o v → WL P ops rest n ((d, true, v) :: E) (St w0 [] ((b, o) :: H) M') k) :
    WL P ops (⟨some d, .call ⟨.value (.func f), l.toArray, ats⟩, ty, pos, af, g⟩ :: rest) n E C k := by
  have hd : d < n := by simpa [Nat.blt_eq] using hd
  refine wl_op hg fun a w ha hw => ?_
  unfold Oper.wp
  rw [run_callf hf (args := args) (by rw [evg_eval ha hl (by simpa using hp), hargs]), Oper.upon_enter]
  refine (hc w hw).mono ?_
  rintro e w' ⟨v, M', o, rfl, h1, h2, h3, h4⟩
  exact (h v M' o h1 h2 h4).run _ w' (ha.put hd rfl) h3
theorem retY_lay {H1 Hn : List (Nat × Obj)} {M0 : Ghost} {o : Obj} {v : Value} (hw : St w0 [] H1 M w) (hs : Since w0 M0 M) (hH : (Hn ++ ((b, o) :: H)).Sublist H1) (hR : R (With M Hn) o v) : RetY w0 H M0 b R (.returned v) w := by
  have hw2 := hw.drop hH
  refine ⟨_, With M Hn, o, rfl, fun b o h => .inl (hs.1 b o h), fun b o h => ?_, hw2.publish, hR⟩
  rcases h with h | h
  · exact hs.2 b o h
  · rcases hw2.new (b, o) (List.mem_append_left _ h) with h3 | h3
    · exact .inr h3
    · cases h3
theorem wry_tmp {H1 Hn : List (Nat × Obj)} {M0 : Ghost} {o : Obj} {fn : Func} {t : Nat} {v' : Value} (hr : fn.results = #[.tmp t]) (ht : look E t = some (true, v')) (hs : Since w0 M0 M) (hH : (Hn ++ ((b, o) :: H)).Sublist H1) (hR : R (With M Hn) o v') : WR n E (St w0 [] H1 M) (bodyPost P fn (RetY w0 H M0 b R)) := ⟨fun a w ha hw => by
  have h1 := ha.reads t true v' ht
  refine bodyPost_ret (v := v') ?_ ha.defers (retY_lay hw hs hH hR)
  rw [results_tmp hr]
  simp [h1]⟩
end
end Go.Eng
namespace Go.Proofs.YtmfelfhingmmbaaDoor
open Go.Eng Go.Pct Go.Txt Go.Ck
set_option maxRecDepth 10000
set_option linter.unusedSimpArgs false
set_option linter.unusedVariables false
variable {M : Ghost} {w0 w : World} {bs : List Nat} {H : List (Nat × Obj)}
def jarO (v : Value) : Obj := .cells [v].toArray 55 (0, 0)
theorem new_ok (hM : Laid M w) : Calls Tryd.prog 9 #[] w (RetS M w (fun _ H v => ∃ b, v = .pointer (some ⟨b, 0, none⟩) ∧ H = [(b, jarO (.slice none 0 0))])) := by
  refine calls_st (l := []) hM Tryd.func9 rfl rfl rfl (E0 := []) (params_nil _) ?_
  repeat' (first | refine wc_seq ?_ | refine wc_region ?_ | refine wl_nil ?_ | refine wn_seq ?_ | refine wn_blk ?_ | refine wc_skip ?_ | refine wc_block ?_ | refine wc_exit rfl ?_ | (show WL _ _ (_ :: _) _ _ _ _; first | refine yl_v rfl rfl rfl ?_ | refine wl_v rfl rfl rfl (by first  | fail) ?_ | refine xl_box rfl (fun _ => ?_)) | refine wc_ret rfl ?_)
  rename_i b
  exact wr_S (Hn := [(b, jarO (.slice none 0 0))]) rfl rfl Since.refl (List.Sublist.refl _) ⟨b, rfl, rfl⟩
theorem by_ok (hM : Laid M w) (x c : Ckie) {b : Nat} {T : TypeId} {fz : Nat × Nat} (hb : M b (.cells (ckCells c).toArray T fz)) : Calls Tryd.prog 30 #[.agg (ckCells x).toArray, .pointer (some ⟨b, 0, none⟩)] w (RetE w (.bool (sameC x c))) := by
  obtain ⟨n, v, p, z, a, b1⟩ := x
  obtain ⟨n', v', p', z', a', b'⟩ := c
  unfold ckCells at hb ⊢
  unfold sameC
  dsimp only at hb ⊢
  refine calls_st (l := [.agg [str n, str v, str p, i64 z, .bool a, .bool b1].toArray, .pointer (some ⟨b, 0, none⟩)]) hM Tryd.func30 rfl rfl rfl (E0 := [(0, true, .agg [str n, str v, str p, i64 z, .bool a, .bool b1].toArray), (1, true, .pointer (some ⟨b, 0, none⟩))]) (params_cons rfl (params_cons rfl (params_nil _))) ?_
  repeat' (first | refine wc_seq ?_ | refine wc_region ?_ | refine wl_nil ?_ | refine wn_seq ?_ | refine wn_blk ?_ | refine wc_skip ?_ | refine wc_block ?_ | refine wc_exit rfl ?_ | (show WL _ _ (_ :: _) _ _ _ _; first | refine yl_v rfl rfl rfl ?_ | refine wl_v rfl rfl rfl (by first | (show OpV _ _ _ _ (Oper.mk _ (Op.load _ _) _ _ _ _) _ _; exact ov_load1M rfl (by first | with_reducible exact fun _ => rfl | with_reducible exact fun h => h | exact fun _ => rfl | exact fun h => h | (intro himp; simp_all; done)) rfl rfl (fun _ => hb) (fun _ => rfl)) | fail) ?_ | refine xl_box rfl (fun _ => ?_)) | refine wc_ret rfl ?_)
  exact wr_weak (fun _ h => h.drop (List.nil_sublist _)) (wr_tmp rfl rfl rfl)
theorem laidC_length (J : List Ckie) (c : Ckie) : (laidC J c).length ≤ J.length + 1 := by
  unfold laidC
  have := List.length_filter_le (fun x => !sameC x c) J
  rw [List.length_append]
  split <;> simp <;> omega
set_option maxHeartbeats 1000000 in
theorem put_ok {jv : Value} {J : List Ckie} {b : Nat} (hJ : SlC M jv J) (hJl : J.length ≤ 100000) (c : Ckie) (hc : SmC c) (hw : St w0 [] ((b, jarO jv) :: H) M w) : Calls Tryd.prog 11 #[.pointer (some ⟨b, 0, none⟩), .agg (ckCells c).toArray] w (RetY w0 H M b (fun M' o v => v = i64 (putP J c).2 ∧ ∃ jv', o = jarO jv' ∧ SlC M' jv' (putP J c).1)) := by
  have hri := fun {w : World} (hw : Laid M w) => cright_ok hw c hc
  have hll := laidC_length J c
  have hby := fun {M : Ghost} {b3 : Nat} (hb : M b3 (.cells (ckCells c).toArray 28 (0, 0))) (x : Ckie) (w : World) (hM : Laid M w) => by_ok hM x c hb
  have hck : ckCells c = [str c.name, str c.value, str c.path, i64 c.age, .bool c.secure, .bool c.http] := rfl
  unfold putP
  refine calls_lent (C := St w0 [] ((b, jarO jv) :: H) M) (l := [.pointer (some ⟨b, 0, none⟩), .agg (ckCells c).toArray]) hw Tryd.func11 rfl rfl rfl (E0 := [(0, true, .pointer (some ⟨b, 0, none⟩)), (1, true, .agg (ckCells c).toArray)]) (params_cons rfl (params_cons rfl (params_nil _))) ?_
  clear hw
  unfold jarO
  rw [hck] at hri hby ⊢
  repeat' (first | refine wc_seq ?_ | refine wc_region ?_ | refine wl_nil ?_ | refine wn_seq ?_ | refine wn_blk ?_ | refine wc_skip ?_ | refine wc_scope ?_ | refine wc_label ?_ | refine wn_noGoto ?_ | refine wc_block ?_ | refine wc_exit rfl ?_ | (show WL _ _ (_ :: _) _ _ _ _; first | refine yl_v rfl rfl rfl ?_ | refine wl_v rfl rfl rfl (by first | ((show OpV _ _ _ _ (Oper.mk _ (Op.call ⟨.value (.func 25), _, _⟩) _ _ _ _) _ _; exact ov_call Tryd.call25 rfl (by intro himp; first | rfl | (simp_all; done)) (by rfl) (fun _ _ h k => h.ext k) (fun hcg w hw => hri hw.laid))) | fail) ?_ | refine xl_alloc (fun _ => ?_) | refine xl_box rfl (fun _ => ?_) | refine xl_store rfl rfl ?_ | refine xl_buildSlice rfl (fun _ => ?_) | refine wl_makeMap rfl rfl (fun _ => ?_) | refine wl_insert rfl rfl rfl rfl rfl rfl (by first | exact rfl | exact trivial) (by first | exact Upd.here | exact Upd.there Upd.here | exact Upd.there (Upd.there Upd.here) | exact Upd.there (Upd.there (Upd.there Upd.here)) | exact Upd.there (Upd.there (Upd.there (Upd.there Upd.here))) | exact Upd.app _ (Upd.here) | exact Upd.app _ (Upd.there Upd.here) | exact Upd.app _ (Upd.there (Upd.there Upd.here)) | exact Upd.app _ (Upd.there (Upd.there (Upd.there Upd.here))) | exact Upd.there (Upd.app _ (Upd.here)) | exact Upd.there (Upd.app _ (Upd.there Upd.here)) | exact Upd.there (Upd.app _ (Upd.there (Upd.there Upd.here))) | exact Upd.there (Upd.app _ (Upd.there (Upd.there (Upd.there Upd.here)))) | exact Upd.there (Upd.there (Upd.app _ (Upd.here))) | exact Upd.there (Upd.there (Upd.app _ (Upd.there Upd.here))) | exact Upd.there (Upd.there (Upd.app _ (Upd.there (Upd.there Upd.here))))) (by rfl) ?_) | refine wc_ret rfl ?_)
  rename_i b3
  refine wc_cond rfl (fun hc => ?_) (fun hc => ?_)
  · have hno : ¬ rightC c = true := by simpa using hc
    repeat' (first | refine wc_seq ?_ | refine wc_region ?_ | refine wl_nil ?_ | refine wn_seq ?_ | refine wn_blk ?_ | refine wc_skip ?_ | refine wc_scope ?_ | refine wc_label ?_ | refine wn_noGoto ?_ | refine wc_block ?_ | refine wc_exit rfl ?_ | (show WL _ _ (_ :: _) _ _ _ _; first | refine yl_v rfl rfl rfl ?_ | refine wl_v rfl rfl rfl (by first  | fail) ?_ | refine xl_alloc (fun _ => ?_) | refine xl_box rfl (fun _ => ?_) | refine xl_store rfl rfl ?_ | refine xl_buildSlice rfl (fun _ => ?_) | refine wl_makeMap rfl rfl (fun _ => ?_) | refine wl_insert rfl rfl rfl rfl rfl rfl (by first | exact rfl | exact trivial) (by first | exact Upd.here | exact Upd.there Upd.here | exact Upd.there (Upd.there Upd.here) | exact Upd.there (Upd.there (Upd.there Upd.here)) | exact Upd.there (Upd.there (Upd.there (Upd.there Upd.here))) | exact Upd.app _ (Upd.here) | exact Upd.app _ (Upd.there Upd.here) | exact Upd.app _ (Upd.there (Upd.there Upd.here)) | exact Upd.app _ (Upd.there (Upd.there (Upd.there Upd.here))) | exact Upd.there (Upd.app _ (Upd.here)) | exact Upd.there (Upd.app _ (Upd.there Upd.here)) | exact Upd.there (Upd.app _ (Upd.there (Upd.there Upd.here))) | exact Upd.there (Upd.app _ (Upd.there (Upd.there (Upd.there Upd.here)))) | exact Upd.there (Upd.there (Upd.app _ (Upd.here))) | exact Upd.there (Upd.there (Upd.app _ (Upd.there Upd.here))) | exact Upd.there (Upd.there (Upd.app _ (Upd.there (Upd.there Upd.here))))) (by rfl) ?_) | refine wc_ret rfl ?_)
    rw [if_neg hno]
    exact wry_tmp (Hn := []) rfl rfl Since.refl (List.sublist_cons_self _ _) ⟨rfl, jv, rfl, hJ.mono (fun _ _ => .inl) (fun _ _ _ h => h)⟩
  · have hyes : rightC c = true := by simpa using hc
    rw [if_pos hyes]
    clear hc
    repeat' (first | refine wc_seq ?_ | refine wc_region ?_ | refine wl_nil ?_ | refine wn_seq ?_ | refine wn_blk ?_ | refine wc_skip ?_ | refine wc_scope ?_ | refine wc_label ?_ | refine wn_noGoto ?_ | refine wc_block ?_ | refine wc_exit rfl ?_ | (show WL _ _ (_ :: _) _ _ _ _; first | refine yl_v rfl rfl rfl ?_ | refine wl_v rfl rfl rfl (by first  | fail) ?_ | refine xl_alloc (fun _ => ?_) | refine xl_box rfl (fun _ => ?_) | refine xl_store rfl rfl ?_ | refine xl_buildSlice rfl (fun _ => ?_) | refine wl_makeMap rfl rfl (fun _ => ?_) | refine wl_insert rfl rfl rfl rfl rfl rfl (by first | exact rfl | exact trivial) (by first | exact Upd.here | exact Upd.there Upd.here | exact Upd.there (Upd.there Upd.here) | exact Upd.there (Upd.there (Upd.there Upd.here)) | exact Upd.there (Upd.there (Upd.there (Upd.there Upd.here))) | exact Upd.app _ (Upd.here) | exact Upd.app _ (Upd.there Upd.here) | exact Upd.app _ (Upd.there (Upd.there Upd.here)) | exact Upd.app _ (Upd.there (Upd.there (Upd.there Upd.here))) | exact Upd.there (Upd.app _ (Upd.here)) | exact Upd.there (Upd.app _ (Upd.there Upd.here)) | exact Upd.there (Upd.app _ (Upd.there (Upd.there Upd.here))) | exact Upd.there (Upd.app _ (Upd.there (Upd.there (Upd.there Upd.here)))) | exact Upd.there (Upd.there (Upd.app _ (Upd.here))) | exact Upd.there (Upd.there (Upd.app _ (Upd.there Upd.here))) | exact Upd.there (Upd.there (Upd.app _ (Upd.there (Upd.there Upd.here))))) (by rfl) ?_) | refine wc_ret rfl ?_)
    refine wl_callS rfl Tryd.call29 rfl rfl rfl rfl (fun w hw => clone_ok hw.laid hJ (by omega)) ?_
    intro v1 H1 M1 hm1 hn1 own1
    repeat' (first | refine wc_seq ?_ | refine wc_region ?_ | refine wl_nil ?_ | refine wn_seq ?_ | refine wn_blk ?_ | refine wc_skip ?_ | refine wc_scope ?_ | refine wc_label ?_ | refine wn_noGoto ?_ | refine wc_block ?_ | refine wc_exit rfl ?_ | (show WL _ _ (_ :: _) _ _ _ _; first | refine yl_v rfl rfl rfl ?_ | refine wl_v rfl rfl rfl (by first  | fail) ?_ | refine xl_alloc (fun _ => ?_) | refine xl_box rfl (fun _ => ?_) | refine xl_store rfl rfl ?_ | refine xl_buildSlice rfl (fun _ => ?_) | refine wl_makeMap rfl rfl (fun _ => ?_) | refine wl_insert rfl rfl rfl rfl rfl rfl (by first | exact rfl | exact trivial) (by first | exact Upd.here | exact Upd.there Upd.here | exact Upd.there (Upd.there Upd.here) | exact Upd.there (Upd.there (Upd.there Upd.here)) | exact Upd.there (Upd.there (Upd.there (Upd.there Upd.here))) | exact Upd.app _ (Upd.here) | exact Upd.app _ (Upd.there Upd.here) | exact Upd.app _ (Upd.there (Upd.there Upd.here)) | exact Upd.app _ (Upd.there (Upd.there (Upd.there Upd.here))) | exact Upd.there (Upd.app _ (Upd.here)) | exact Upd.there (Upd.app _ (Upd.there Upd.here)) | exact Upd.there (Upd.app _ (Upd.there (Upd.there Upd.here))) | exact Upd.there (Upd.app _ (Upd.there (Upd.there (Upd.there Upd.here)))) | exact Upd.there (Upd.there (Upd.app _ (Upd.here))) | exact Upd.there (Upd.there (Upd.app _ (Upd.there Upd.here))) | exact Upd.there (Upd.there (Upd.app _ (Upd.there (Upd.there Upd.here))))) (by rfl) ?_) | refine wc_ret rfl ?_)
    refine wl_weak (Eng.Sub.refl _) (fun _ h => h.perm (H' := [(b3, .cells [str c.name, str c.value, str c.path, i64 c.age, .bool c.secure, .bool c.http].toArray 28 (0, 0))] ++ (H1 ++ ((b, .cells [jv].toArray 55 (0, 0)) :: H))) ?_) ?_
    · rw [List.singleton_append]; exact List.perm_middle.symm
    refine wl_publish fun hnew3 => ?_
    have hs2 : Since w0 M (With M1 [(b3, .cells [str c.name, str c.value, str c.path, i64 c.age, .bool c.secure, .bool c.http].toArray 28 (0, 0))]) := since_new (Since.refl.step hm1 hn1) hnew3
    have hb3 : (With M1 [(b3, .cells [str c.name, str c.value, str c.path, i64 c.age, .bool c.secure, .bool c.http].toArray 28 (0, 0))]) b3 (.cells [str c.name, str c.value, str c.path, i64 c.age, .bool c.secure, .bool c.http].toArray 28 (0, 0)) := .inr (List.mem_singleton.2 rfl)
    have hJ2 := hJ.mono hs2.1 (fun _ _ _ h => h)
    have hby2 := hby hb3
    clear hnew3 hm1 hn1
    generalize With M1 [(b3, .cells [str c.name, str c.value, str c.path, i64 c.age, .bool c.secure, .bool c.http].toArray 28 (0, 0))] = M2 at *
    refine wl_callO (R := fun v' Hs' => OwnS tCk 6 v' Hs' (cellsC (J.filter fun x => !sameC x c))) rfl Tryd.call28 rfl rfl rfl rfl (fun w hw => del_ok own1 (by omega) (fun x => sameC x c) 30 [] [.pointer (some ⟨b3, 0, none⟩)] Tryd.call30 hby2 hw) ?_
    intro v2 H2 own2
    repeat' (first | refine wc_seq ?_ | refine wc_region ?_ | refine wl_nil ?_ | refine wn_seq ?_ | refine wn_blk ?_ | refine wc_skip ?_ | refine wc_scope ?_ | refine wc_label ?_ | refine wn_noGoto ?_ | refine wc_block ?_ | refine wc_exit rfl ?_ | (show WL _ _ (_ :: _) _ _ _ _; first | refine yl_v rfl rfl rfl ?_ | refine wl_v rfl rfl rfl (by first | (show OpV _ _ _ _ (Oper.mk _ (Op.load _ _) _ _ _ _) _ _; exact ov_load1M (v := i64 c.age) rfl (by first | with_reducible exact fun _ => rfl | with_reducible exact fun h => h | exact fun _ => rfl | exact fun h => h | (intro himp; simp_all; done)) rfl rfl (fun _ => hb3) (fun _ => rfl)) | fail) ?_ | refine xl_alloc (fun _ => ?_) | refine xl_box rfl (fun _ => ?_) | refine xl_store rfl rfl ?_ | refine xl_buildSlice rfl (fun _ => ?_) | refine wl_makeMap rfl rfl (fun _ => ?_) | refine wl_insert rfl rfl rfl rfl rfl rfl (by first | exact rfl | exact trivial) (by first | exact Upd.here | exact Upd.there Upd.here | exact Upd.there (Upd.there Upd.here) | exact Upd.there (Upd.there (Upd.there Upd.here)) | exact Upd.there (Upd.there (Upd.there (Upd.there Upd.here))) | exact Upd.app _ (Upd.here) | exact Upd.app _ (Upd.there Upd.here) | exact Upd.app _ (Upd.there (Upd.there Upd.here)) | exact Upd.app _ (Upd.there (Upd.there (Upd.there Upd.here))) | exact Upd.there (Upd.app _ (Upd.here)) | exact Upd.there (Upd.app _ (Upd.there Upd.here)) | exact Upd.there (Upd.app _ (Upd.there (Upd.there Upd.here))) | exact Upd.there (Upd.app _ (Upd.there (Upd.there (Upd.there Upd.here)))) | exact Upd.there (Upd.there (Upd.app _ (Upd.here))) | exact Upd.there (Upd.there (Upd.app _ (Upd.there Upd.here))) | exact Upd.there (Upd.there (Upd.app _ (Upd.there (Upd.there Upd.here))))) (by rfl) ?_) | refine wc_ret rfl ?_)
    refine wc_split (α := { x : Value × List (Nat × Obj) // OwnS tCk 6 x.1 x.2 (cellsC (laidC J c)) }) (fun x => [(0, true, .pointer (some ⟨b, 0, none⟩)), (5, true, x.1.1)]) (fun x => St w0 [] (x.1.2 ++ ((b, .cells [jv].toArray 55 (0, 0)) :: H)) M2) ?_ ?_
    · refine wc_cond rfl (fun hc => ?_) (fun hc => ?_)
      · have hz : ¬ c.age = 0 := by simpa using hc
        have e : laidC J c = (J.filter fun x => !sameC x c) ++ [c] := by unfold laidC; rw [if_neg hz]
        have hfl := List.length_filter_le (fun x => !sameC x c) J
        repeat' (first | refine wc_seq ?_ | refine wc_region ?_ | refine wl_nil ?_ | refine wn_seq ?_ | refine wn_blk ?_ | refine wc_skip ?_ | refine wc_scope ?_ | refine wc_label ?_ | refine wn_noGoto ?_ | refine wc_block ?_ | refine wc_exit rfl ?_ | (show WL _ _ (_ :: _) _ _ _ _; first | refine yl_v rfl rfl rfl ?_ | refine wl_v rfl rfl rfl (by first | (show OpV _ _ _ _ (Oper.mk _ (Op.load _ _) _ _ _ _) _ _; exact ov_loadSM (l := [str c.name, str c.value, str c.path, i64 c.age, .bool c.secure, .bool c.http]) rfl (by first | with_reducible exact fun _ => rfl | with_reducible exact fun h => h | exact fun _ => rfl | exact fun h => h | (intro himp; simp_all; done)) rfl rfl (fun _ => hb3) (fun _ => by intro j hj; simp)) | fail) ?_ | refine xl_alloc (fun _ => ?_) | refine xl_box rfl (fun _ => ?_) | refine xl_store rfl rfl ?_ | refine xl_buildSlice rfl (fun _ => ?_) | refine wl_makeMap rfl rfl (fun _ => ?_) | refine wl_insert rfl rfl rfl rfl rfl rfl (by first | exact rfl | exact trivial) (by first | exact Upd.here | exact Upd.there Upd.here | exact Upd.there (Upd.there Upd.here) | exact Upd.there (Upd.there (Upd.there Upd.here)) | exact Upd.there (Upd.there (Upd.there (Upd.there Upd.here))) | exact Upd.app _ (Upd.here) | exact Upd.app _ (Upd.there Upd.here) | exact Upd.app _ (Upd.there (Upd.there Upd.here)) | exact Upd.app _ (Upd.there (Upd.there (Upd.there Upd.here))) | exact Upd.there (Upd.app _ (Upd.here)) | exact Upd.there (Upd.app _ (Upd.there Upd.here)) | exact Upd.there (Upd.app _ (Upd.there (Upd.there Upd.here))) | exact Upd.there (Upd.app _ (Upd.there (Upd.there (Upd.there Upd.here)))) | exact Upd.there (Upd.there (Upd.app _ (Upd.here))) | exact Upd.there (Upd.there (Upd.app _ (Upd.there Upd.here))) | exact Upd.there (Upd.there (Upd.app _ (Upd.there (Upd.there Upd.here))))) (by rfl) ?_) | refine wc_ret rfl ?_)
        rename_i b21
        refine wl_append (H0 := (b, .cells [jv].toArray 55 (0, 0)) :: H) rfl own2 rfl rfl rfl rfl rfl rfl rfl rfl rfl rfl (List.Mem.head _) rfl rfl (List.sublist_cons_self _ _) (by rw [cellsC_length]; omega) rfl ?_
        intro v3 H3 own3
        repeat' (first | refine wc_seq ?_ | refine wc_region ?_ | refine wl_nil ?_ | refine wn_seq ?_ | refine wn_blk ?_ | refine wc_skip ?_ | refine wc_scope ?_ | refine wc_label ?_ | refine wn_noGoto ?_ | refine wc_block ?_ | refine wc_exit rfl ?_ | (show WL _ _ (_ :: _) _ _ _ _; first | refine yl_v rfl rfl rfl ?_ | refine wl_v rfl rfl rfl (by first  | fail) ?_ | refine xl_alloc (fun _ => ?_) | refine xl_box rfl (fun _ => ?_) | refine xl_store rfl rfl ?_ | refine xl_buildSlice rfl (fun _ => ?_) | refine wl_makeMap rfl rfl (fun _ => ?_) | refine wl_insert rfl rfl rfl rfl rfl rfl (by first | exact rfl | exact trivial) (by first | exact Upd.here | exact Upd.there Upd.here | exact Upd.there (Upd.there Upd.here) | exact Upd.there (Upd.there (Upd.there Upd.here)) | exact Upd.there (Upd.there (Upd.there (Upd.there Upd.here))) | exact Upd.app _ (Upd.here) | exact Upd.app _ (Upd.there Upd.here) | exact Upd.app _ (Upd.there (Upd.there Upd.here)) | exact Upd.app _ (Upd.there (Upd.there (Upd.there Upd.here))) | exact Upd.there (Upd.app _ (Upd.here)) | exact Upd.there (Upd.app _ (Upd.there Upd.here)) | exact Upd.there (Upd.app _ (Upd.there (Upd.there Upd.here))) | exact Upd.there (Upd.app _ (Upd.there (Upd.there (Upd.there Upd.here)))) | exact Upd.there (Upd.there (Upd.app _ (Upd.here))) | exact Upd.there (Upd.there (Upd.app _ (Upd.there Upd.here))) | exact Upd.there (Upd.there (Upd.app _ (Upd.there (Upd.there Upd.here))))) (by rfl) ?_) | refine wc_ret rfl ?_)
        exact wn_cut ⟨(v3, H3), by rw [e, cellsC_append, cellsC_one]; exact own3⟩ trivial (by first | exact Sub.nil _ | (repeat (first | exact Sub.nil _ | refine Sub.cons (by first | rfl | (simp [look]; done)) ?_))) (fun _ h => h)
      · have hz : c.age = 0 := by simpa using hc
        have e : laidC J c = J.filter fun x => !sameC x c := by unfold laidC; rw [if_pos hz, List.append_nil]
        repeat' (first | refine wc_seq ?_ | refine wc_region ?_ | refine wl_nil ?_ | refine wn_seq ?_ | refine wn_blk ?_ | refine wc_skip ?_ | refine wc_scope ?_ | refine wc_label ?_ | refine wn_noGoto ?_ | refine wc_block ?_ | refine wc_exit rfl ?_ | (show WL _ _ (_ :: _) _ _ _ _; first | refine yl_v rfl rfl rfl ?_ | refine wl_v rfl rfl rfl (by first  | fail) ?_ | refine xl_alloc (fun _ => ?_) | refine xl_box rfl (fun _ => ?_) | refine xl_store rfl rfl ?_ | refine xl_buildSlice rfl (fun _ => ?_) | refine wl_makeMap rfl rfl (fun _ => ?_) | refine wl_insert rfl rfl rfl rfl rfl rfl (by first | exact rfl | exact trivial) (by first | exact Upd.here | exact Upd.there Upd.here | exact Upd.there (Upd.there Upd.here) | exact Upd.there (Upd.there (Upd.there Upd.here)) | exact Upd.there (Upd.there (Upd.there (Upd.there Upd.here))) | exact Upd.app _ (Upd.here) | exact Upd.app _ (Upd.there Upd.here) | exact Upd.app _ (Upd.there (Upd.there Upd.here)) | exact Upd.app _ (Upd.there (Upd.there (Upd.there Upd.here))) | exact Upd.there (Upd.app _ (Upd.here)) | exact Upd.there (Upd.app _ (Upd.there Upd.here)) | exact Upd.there (Upd.app _ (Upd.there (Upd.there Upd.here))) | exact Upd.there (Upd.app _ (Upd.there (Upd.there (Upd.there Upd.here)))) | exact Upd.there (Upd.there (Upd.app _ (Upd.here))) | exact Upd.there (Upd.there (Upd.app _ (Upd.there Upd.here))) | exact Upd.there (Upd.there (Upd.app _ (Upd.there (Upd.there Upd.here))))) (by rfl) ?_) | refine wc_ret rfl ?_)
        exact wn_cut ⟨(v2, H2), by rw [e]; exact own2⟩ trivial (by first | exact Sub.nil _ | (repeat (first | exact Sub.nil _ | refine Sub.cons (by first | rfl | (simp [look]; done)) ?_))) (fun _ h => h)
    rintro ⟨⟨v3, H3⟩, own3⟩
    dsimp only at own3 ⊢
    obtain ⟨a3, c3, rfl⟩ := own3.slice (k := (laidC J c).length) (by decide) (cellsC_length _)
    repeat' (first | refine wc_seq ?_ | refine wc_region ?_ | refine wl_nil ?_ | refine wn_seq ?_ | refine wn_blk ?_ | refine wc_skip ?_ | refine wc_scope ?_ | refine wc_label ?_ | refine wn_noGoto ?_ | refine wc_block ?_ | refine wc_exit rfl ?_ | (show WL _ _ (_ :: _) _ _ _ _; first | refine yl_v rfl rfl rfl ?_ | refine wl_v rfl rfl rfl (by first  | fail) ?_ | refine xl_alloc (fun _ => ?_) | refine xl_box rfl (fun _ => ?_) | refine xl_store rfl rfl ?_ | refine xl_buildSlice rfl (fun _ => ?_) | refine wl_makeMap rfl rfl (fun _ => ?_) | refine wl_insert rfl rfl rfl rfl rfl rfl (by first | exact rfl | exact trivial) (by first | exact Upd.here | exact Upd.there Upd.here | exact Upd.there (Upd.there Upd.here) | exact Upd.there (Upd.there (Upd.there Upd.here)) | exact Upd.there (Upd.there (Upd.there (Upd.there Upd.here))) | exact Upd.app _ (Upd.here) | exact Upd.app _ (Upd.there Upd.here) | exact Upd.app _ (Upd.there (Upd.there Upd.here)) | exact Upd.app _ (Upd.there (Upd.there (Upd.there Upd.here))) | exact Upd.there (Upd.app _ (Upd.here)) | exact Upd.there (Upd.app _ (Upd.there Upd.here)) | exact Upd.there (Upd.app _ (Upd.there (Upd.there Upd.here))) | exact Upd.there (Upd.app _ (Upd.there (Upd.there (Upd.there Upd.here)))) | exact Upd.there (Upd.there (Upd.app _ (Upd.here))) | exact Upd.there (Upd.there (Upd.app _ (Upd.there Upd.here))) | exact Upd.there (Upd.there (Upd.app _ (Upd.there (Upd.there Upd.here))))) (by rfl) ?_) | refine wc_ret rfl ?_)
    refine wc_cond rfl (fun hc => ?_) (fun hc => ?_)
    · have hbig : 20 < (laidC J c).length := by simp at hc; omega
      repeat' (first | refine wc_seq ?_ | refine wc_region ?_ | refine wl_nil ?_ | refine wn_seq ?_ | refine wn_blk ?_ | refine wc_skip ?_ | refine wc_scope ?_ | refine wc_label ?_ | refine wn_noGoto ?_ | refine wc_block ?_ | refine wc_exit rfl ?_ | (show WL _ _ (_ :: _) _ _ _ _; first | refine yl_v rfl rfl rfl ?_ | refine wl_v rfl rfl rfl (by first  | fail) ?_ | refine xl_alloc (fun _ => ?_) | refine xl_box rfl (fun _ => ?_) | refine xl_store rfl rfl ?_ | refine xl_buildSlice rfl (fun _ => ?_) | refine wl_makeMap rfl rfl (fun _ => ?_) | refine wl_insert rfl rfl rfl rfl rfl rfl (by first | exact rfl | exact trivial) (by first | exact Upd.here | exact Upd.there Upd.here | exact Upd.there (Upd.there Upd.here) | exact Upd.there (Upd.there (Upd.there Upd.here)) | exact Upd.there (Upd.there (Upd.there (Upd.there Upd.here))) | exact Upd.app _ (Upd.here) | exact Upd.app _ (Upd.there Upd.here) | exact Upd.app _ (Upd.there (Upd.there Upd.here)) | exact Upd.app _ (Upd.there (Upd.there (Upd.there Upd.here))) | exact Upd.there (Upd.app _ (Upd.here)) | exact Upd.there (Upd.app _ (Upd.there Upd.here)) | exact Upd.there (Upd.app _ (Upd.there (Upd.there Upd.here))) | exact Upd.there (Upd.app _ (Upd.there (Upd.there (Upd.there Upd.here)))) | exact Upd.there (Upd.there (Upd.app _ (Upd.here))) | exact Upd.there (Upd.there (Upd.app _ (Upd.there Upd.here))) | exact Upd.there (Upd.there (Upd.app _ (Upd.there (Upd.there Upd.here))))) (by rfl) ?_) | refine wc_ret rfl ?_)
      rw [if_pos hbig]
      exact wry_tmp (Hn := []) rfl rfl hs2 (List.sublist_append_right _ _) ⟨rfl, jv, rfl, hJ2.mono (fun _ _ => .inl) (fun _ _ _ h => h)⟩
    · have hsm : ¬ 20 < (laidC J c).length := by simp at hc; omega
      repeat' (first | refine wc_seq ?_ | refine wc_region ?_ | refine wl_nil ?_ | refine wn_seq ?_ | refine wn_blk ?_ | refine wc_skip ?_ | refine wc_scope ?_ | refine wc_label ?_ | refine wn_noGoto ?_ | refine wc_block ?_ | refine wc_exit rfl ?_ | (show WL _ _ (_ :: _) _ _ _ _; first | refine yl_v rfl rfl rfl ?_ | refine wl_v rfl rfl rfl (by first  | fail) ?_ | refine xl_alloc (fun _ => ?_) | refine xl_box rfl (fun _ => ?_) | refine xl_store rfl rfl ?_ | refine xl_buildSlice rfl (fun _ => ?_) | refine wl_makeMap rfl rfl (fun _ => ?_) | refine wl_insert rfl rfl rfl rfl rfl rfl (by first | exact rfl | exact trivial) (by first | exact Upd.here | exact Upd.there Upd.here | exact Upd.there (Upd.there Upd.here) | exact Upd.there (Upd.there (Upd.there Upd.here)) | exact Upd.there (Upd.there (Upd.there (Upd.there Upd.here))) | exact Upd.app _ (Upd.here) | exact Upd.app _ (Upd.there Upd.here) | exact Upd.app _ (Upd.there (Upd.there Upd.here)) | exact Upd.app _ (Upd.there (Upd.there (Upd.there Upd.here))) | exact Upd.there (Upd.app _ (Upd.here)) | exact Upd.there (Upd.app _ (Upd.there Upd.here)) | exact Upd.there (Upd.app _ (Upd.there (Upd.there Upd.here))) | exact Upd.there (Upd.app _ (Upd.there (Upd.there (Upd.there Upd.here)))) | exact Upd.there (Upd.there (Upd.app _ (Upd.here))) | exact Upd.there (Upd.there (Upd.app _ (Upd.there Upd.here))) | exact Upd.there (Upd.there (Upd.app _ (Upd.there (Upd.there Upd.here))))) (by rfl) ?_) | refine wc_ret rfl ?_)
      rw [if_neg hsm]
      exact wry_tmp (Hn := H3) rfl rfl hs2 (List.Sublist.refl _) ⟨rfl, _, rfl, OwnS.slC own3 (fun p hp => .inr hp) (by show (laidC J c).length ≤ _; omega)⟩
end Go.Proofs.YtmfelfhingmmbaaDoor
/-
  A jar: All, Pairs; the document's Put, Pairs, Cookies.
-/
namespace Go.Proofs.YtmfelfhingmmbaaDoor
open Go.Eng Go.Pct Go.Txt Go.Ck
set_option maxRecDepth 10000
set_option linter.unusedSimpArgs false
set_option linter.unusedVariables false
variable {M : Ghost} {w0 w : World} {bs : List Nat} {H : List (Nat × Obj)}
abbrev tPr : TypeId := 41
theorem all_ok {jv : Value} {J : List Ckie} {b : Nat} (hJ : SlC M jv J) (hJl : J.length ≤ 100000) (hw : St w0 [] ((b, jarO jv) :: H) M w) : Calls Tryd.prog 14 #[.pointer (some ⟨b, 0, none⟩)] w (RetY w0 H M b (fun M' o v => o = jarO jv ∧ SlC M' v J)) := by
  refine calls_lent (C := St w0 [] ((b, jarO jv) :: H) M) (l := [.pointer (some ⟨b, 0, none⟩)]) hw Tryd.func14 rfl rfl rfl (E0 := [(0, true, .pointer (some ⟨b, 0, none⟩))]) (params_cons rfl (params_nil _)) ?_
  clear hw
  unfold jarO
  repeat' (first | refine wc_seq ?_ | refine wc_region ?_ | refine wl_nil ?_ | refine wn_seq ?_ | refine wn_blk ?_ | refine wc_skip ?_ | refine wc_scope ?_ | refine wc_label ?_ | refine wn_noGoto ?_ | refine wc_block ?_ | refine wc_exit rfl ?_ | (show WL _ _ (_ :: _) _ _ _ _; first | refine yl_v rfl rfl rfl ?_ | refine wl_v rfl rfl rfl (by first  | fail) ?_ | refine xl_alloc (fun _ => ?_) | refine xl_box rfl (fun _ => ?_) | refine xl_store rfl rfl ?_ | refine xl_buildSlice rfl (fun _ => ?_) | refine wl_makeMap rfl rfl (fun _ => ?_) | refine wl_insert rfl rfl rfl rfl rfl rfl (by first | exact rfl | exact trivial) (by first | exact Upd.here | exact Upd.there Upd.here | exact Upd.there (Upd.there Upd.here) | exact Upd.there (Upd.there (Upd.there Upd.here)) | exact Upd.there (Upd.there (Upd.there (Upd.there Upd.here))) | exact Upd.app _ (Upd.here) | exact Upd.app _ (Upd.there Upd.here) | exact Upd.app _ (Upd.there (Upd.there Upd.here)) | exact Upd.app _ (Upd.there (Upd.there (Upd.there Upd.here))) | exact Upd.there (Upd.app _ (Upd.here)) | exact Upd.there (Upd.app _ (Upd.there Upd.here)) | exact Upd.there (Upd.app _ (Upd.there (Upd.there Upd.here))) | exact Upd.there (Upd.app _ (Upd.there (Upd.there (Upd.there Upd.here)))) | exact Upd.there (Upd.there (Upd.app _ (Upd.here))) | exact Upd.there (Upd.there (Upd.app _ (Upd.there Upd.here))) | exact Upd.there (Upd.there (Upd.app _ (Upd.there (Upd.there Upd.here))))) (by rfl) ?_) | refine wc_ret rfl ?_)
  refine wl_callS rfl Tryd.call29 rfl rfl rfl rfl (fun w hw => clone_ok hw.laid hJ (by omega)) ?_
  intro v1 H1 M1 hm1 hn1 own1
  repeat' (first | refine wc_seq ?_ | refine wc_region ?_ | refine wl_nil ?_ | refine wn_seq ?_ | refine wn_blk ?_ | refine wc_skip ?_ | refine wc_scope ?_ | refine wc_label ?_ | refine wn_noGoto ?_ | refine wc_block ?_ | refine wc_exit rfl ?_ | (show WL _ _ (_ :: _) _ _ _ _; first | refine yl_v rfl rfl rfl ?_ | refine wl_v rfl rfl rfl (by first  | fail) ?_ | refine xl_alloc (fun _ => ?_) | refine xl_box rfl (fun _ => ?_) | refine xl_store rfl rfl ?_ | refine xl_buildSlice rfl (fun _ => ?_) | refine wl_makeMap rfl rfl (fun _ => ?_) | refine wl_insert rfl rfl rfl rfl rfl rfl (by first | exact rfl | exact trivial) (by first | exact Upd.here | exact Upd.there Upd.here | exact Upd.there (Upd.there Upd.here) | exact Upd.there (Upd.there (Upd.there Upd.here)) | exact Upd.there (Upd.there (Upd.there (Upd.there Upd.here))) | exact Upd.app _ (Upd.here) | exact Upd.app _ (Upd.there Upd.here) | exact Upd.app _ (Upd.there (Upd.there Upd.here)) | exact Upd.app _ (Upd.there (Upd.there (Upd.there Upd.here))) | exact Upd.there (Upd.app _ (Upd.here)) | exact Upd.there (Upd.app _ (Upd.there Upd.here)) | exact Upd.there (Upd.app _ (Upd.there (Upd.there Upd.here))) | exact Upd.there (Upd.app _ (Upd.there (Upd.there (Upd.there Upd.here)))) | exact Upd.there (Upd.there (Upd.app _ (Upd.here))) | exact Upd.there (Upd.there (Upd.app _ (Upd.there Upd.here))) | exact Upd.there (Upd.there (Upd.app _ (Upd.there (Upd.there Upd.here))))) (by rfl) ?_) | refine wc_ret rfl ?_)
  exact wry_tmp (Hn := H1) rfl rfl (Since.refl.step hm1 hn1) (List.Sublist.refl _) ⟨rfl, OwnS.slC own1 (fun p hp => .inr hp) (by omega)⟩
theorem pairsP_next {J : List Ckie} {path : List UInt8} {secure : Bool} {i : Nat} (h : i < J.length) : pairsP (J.take (i + 1)) path secure = pairsP (J.take i) path secure ++ (if (underP path (J.getD i default).path && (secure || !(J.getD i default).secure)) = true then [((J.getD i default).name, (J.getD i default).value)] else []) := by
  have e : J.getD i default = J[i] := by simp [h]
  unfold pairsP
  rw [List.take_succ_eq_append_getElem h, List.filter_append, List.map_append, e]
  congr 1
  by_cases hp : (underP path J[i].path && (secure || !J[i].secure)) = true
  · rw [if_pos hp]; simp only [List.filter_cons, hp, if_true, List.filter_nil, List.map_cons, List.map_nil]
  · rw [if_neg hp]; simp only [List.filter_cons, hp, List.filter_nil]; rfl
theorem pairsP_length (J : List Ckie) (path : List UInt8) (secure : Bool) : (pairsP J path secure).length ≤ J.length := by
  unfold pairsP; rw [List.length_map]; exact List.length_filter_le _ _
structure PS (J : List Ckie) (path : List UInt8) (secure : Bool) where
  i : Nat
  v : Value
  Hs : List (Nat × Obj)
  hi : i ≤ J.length
  own : OwnS tPr 2 v Hs (cellsP (pairsP (J.take i) path secure))
theorem sm_at {J : List Ckie} (h : ∀ c ∈ J, SmC c) {i : Nat} (hi : i < J.length) : SmC (J.getD i default) := by
  have e : J.getD i default = J[i] := by simp [hi]
  rw [e]; exact h _ (List.getElem_mem _)
set_option maxHeartbeats 1000000 in
theorem jpairs_ok {jv : Value} {J : List Ckie} {b : Nat} (hJ : SlC M jv J) (hJl : J.length ≤ 100000) (hsm : ∀ c ∈ J, SmC c) (path : List UInt8) (secure : Bool) (hp : path.length ≤ 9223372036854775807) (hw : St w0 [] ((b, jarO jv) :: H) M w) : Calls Tryd.prog 16 #[.pointer (some ⟨b, 0, none⟩), str path, .bool secure] w (RetY w0 H M b (fun M' o v => o = jarO jv ∧ SlP M' v (pairsP J path secure))) := by
  obtain ⟨a, cap, bb, o, cs, T, fz, rfl, h1, h2, h3, h4⟩ := hJ.open
  refine calls_lent (C := St w0 [] ((b, jarO (.slice a J.length cap)) :: H) M) (l := [.pointer (some ⟨b, 0, none⟩), str path, .bool secure]) hw Tryd.func16 rfl rfl rfl (E0 := [(0, true, .pointer (some ⟨b, 0, none⟩)), (1, true, str path), (2, true, .bool secure)]) (params_cons rfl (params_cons rfl (params_cons rfl (params_nil _)))) ?_
  clear hw
  unfold jarO
  repeat' (first | refine wc_seq ?_ | refine wc_region ?_ | refine wl_nil ?_ | refine wn_seq ?_ | refine wn_blk ?_ | refine wc_skip ?_ | refine wc_scope ?_ | refine wc_label ?_ | refine wn_noGoto ?_ | refine wc_block ?_ | refine wc_exit rfl ?_ | (show WL _ _ (_ :: _) _ _ _ _; first | refine yl_v rfl rfl rfl ?_ | refine wl_v rfl rfl rfl (by first  | fail) ?_ | refine xl_alloc (fun _ => ?_) | refine xl_box rfl (fun _ => ?_) | refine xl_store rfl rfl ?_ | refine xl_buildSlice rfl (fun _ => ?_) | refine wl_makeMap rfl rfl (fun _ => ?_) | refine wl_insert rfl rfl rfl rfl rfl rfl (by first | exact rfl | exact trivial) (by first | exact Upd.here | exact Upd.there Upd.here | exact Upd.there (Upd.there Upd.here) | exact Upd.there (Upd.there (Upd.there Upd.here)) | exact Upd.there (Upd.there (Upd.there (Upd.there Upd.here))) | exact Upd.app _ (Upd.here) | exact Upd.app _ (Upd.there Upd.here) | exact Upd.app _ (Upd.there (Upd.there Upd.here)) | exact Upd.app _ (Upd.there (Upd.there (Upd.there Upd.here))) | exact Upd.there (Upd.app _ (Upd.here)) | exact Upd.there (Upd.app _ (Upd.there Upd.here)) | exact Upd.there (Upd.app _ (Upd.there (Upd.there Upd.here))) | exact Upd.there (Upd.app _ (Upd.there (Upd.there (Upd.there Upd.here)))) | exact Upd.there (Upd.there (Upd.app _ (Upd.here))) | exact Upd.there (Upd.there (Upd.app _ (Upd.there Upd.here))) | exact Upd.there (Upd.there (Upd.app _ (Upd.there (Upd.there Upd.here))))) (by rfl) ?_) | refine wc_ret rfl ?_)
  refine wc_loop (α := PS J path secure) (fun x => [(1, true, str path), (2, true, .bool secure), (7, true, x.v), (13, true, .slice a J.length cap), (14, true, i64 (J.length : Int)), (15, true, i64 (x.i : Int))]) (fun x => St w0 [] (x.Hs ++ ((b, .cells [.slice a J.length cap].toArray 55 (0, 0)) :: H)) M) (fun x => J.length - x.i) ⟨0, .slice none 0 0, [], Nat.zero_le _, OwnS.nil⟩ (by first | exact Sub.nil _ | (repeat (first | exact Sub.nil _ | refine Sub.cons (by first | rfl | (simp [look]; done)) ?_))) (fun _ h => h) ?_
  rintro ⟨i, v, Hs, hi, own⟩
  dsimp only
  have hpl := pairsP_length (J.take i) path secure
  rw [List.length_take] at hpl
  by_cases hlt : i < J.length
  · have hne : J ≠ [] := by rintro rfl; simp at hlt
    obtain ⟨rfl, hMb⟩ := h3 hne
    have hcell := h4 i hlt
    have hnx := pairsP_next (path := path) (secure := secure) hlt
    have hs := sm_at hsm hlt
    generalize J.getD i default = x at *
    have hun := fun {w : World} (hw : Laid M w) => under_ok hw path x.path hp hs.2.2
    have hcell2 : ∀ k, k < [str x.name, str x.value, str x.path, i64 x.age, .bool x.secure, .bool x.http].length → cs[o + i * 6 + k]? = [str x.name, str x.value, str x.path, i64 x.age, .bool x.secure, .bool x.http][k]? := hcell
    clear hcell
    repeat' (first | refine wc_seq ?_ | refine wc_region ?_ | refine wl_nil ?_ | refine wn_seq ?_ | refine wn_blk ?_ | refine wc_skip ?_ | refine wc_scope ?_ | refine wc_label ?_ | refine wn_noGoto ?_ | refine wc_block ?_ | refine wc_exit rfl ?_ | (show WL _ _ (_ :: _) _ _ _ _; first | refine yl_v rfl rfl rfl ?_ | refine wl_v rfl rfl rfl (by first  | fail) ?_ | refine xl_alloc (fun _ => ?_) | refine xl_box rfl (fun _ => ?_) | refine xl_store rfl rfl ?_ | refine xl_buildSlice rfl (fun _ => ?_) | refine wl_makeMap rfl rfl (fun _ => ?_) | refine wl_insert rfl rfl rfl rfl rfl rfl (by first | exact rfl | exact trivial) (by first | exact Upd.here | exact Upd.there Upd.here | exact Upd.there (Upd.there Upd.here) | exact Upd.there (Upd.there (Upd.there Upd.here)) | exact Upd.there (Upd.there (Upd.there (Upd.there Upd.here))) | exact Upd.app _ (Upd.here) | exact Upd.app _ (Upd.there Upd.here) | exact Upd.app _ (Upd.there (Upd.there Upd.here)) | exact Upd.app _ (Upd.there (Upd.there (Upd.there Upd.here))) | exact Upd.there (Upd.app _ (Upd.here)) | exact Upd.there (Upd.app _ (Upd.there Upd.here)) | exact Upd.there (Upd.app _ (Upd.there (Upd.there Upd.here))) | exact Upd.there (Upd.app _ (Upd.there (Upd.there (Upd.there Upd.here)))) | exact Upd.there (Upd.there (Upd.app _ (Upd.here))) | exact Upd.there (Upd.there (Upd.app _ (Upd.there Upd.here))) | exact Upd.there (Upd.there (Upd.app _ (Upd.there (Upd.there Upd.here))))) (by rfl) ?_) | refine wc_ret rfl ?_)
    refine wc_cond rfl (fun hc => ?_) (fun hc => by exfalso; simp at hc; omega)
    clear hc
    repeat' (first | refine wc_seq ?_ | refine wc_region ?_ | refine wl_nil ?_ | refine wn_seq ?_ | refine wn_blk ?_ | refine wc_skip ?_ | refine wc_scope ?_ | refine wc_label ?_ | refine wn_noGoto ?_ | refine wc_block ?_ | refine wc_exit rfl ?_ | (show WL _ _ (_ :: _) _ _ _ _; first | refine yl_v rfl rfl rfl ?_ | refine wl_v rfl rfl rfl (by first | (show OpV _ _ _ _ (Oper.mk _ (Op.indexAddr _ _ _) _ _ _ _) _ _; exact ov_indexAddr (i := i) (b := bb) (o := o) rfl rfl rfl (by first | with_reducible exact fun _ => rfl | with_reducible exact fun h => h | exact fun _ => rfl | exact fun h => h | (intro himp; simp_all; done)) (by first | with_reducible exact fun _ => rfl | with_reducible exact fun h => h | exact fun _ => rfl | exact fun h => h | (intro himp; simp_all; done)) rfl (by first | exact (rfl : _ = some 1) | exact (rfl : _ = some 2) | exact (rfl : _ = some 3) | exact (rfl : _ = some 4) | exact (rfl : _ = some 6) | exact rfl) (fun _ => rfl) (by intro hcg; first | omega | (simp at hcg; omega))) | (show OpV _ _ _ _ (Oper.mk _ (Op.load _ _) _ _ _ _) _ _; exact ov_loadSM rfl (by first | with_reducible exact fun _ => rfl | with_reducible exact fun h => h | exact fun _ => rfl | exact fun h => h | (intro himp; simp_all; done)) rfl (by rfl) (fun _ => hMb) (fun _ => hcell2)) | ((show OpV _ _ _ _ (Oper.mk _ (Op.call ⟨.value (.func 32), _, _⟩) _ _ _ _) _ _; exact ov_call Tryd.call32 rfl (by intro himp; first | rfl | (simp_all; done)) (by rfl) (fun _ _ h k => h.ext k) (fun hcg w hw => hun hw.laid))) | fail) ?_ | refine xl_alloc (fun _ => ?_) | refine xl_box rfl (fun _ => ?_) | refine xl_store rfl rfl ?_ | refine xl_buildSlice rfl (fun _ => ?_) | refine wl_makeMap rfl rfl (fun _ => ?_) | refine wl_insert rfl rfl rfl rfl rfl rfl (by first | exact rfl | exact trivial) (by first | exact Upd.here | exact Upd.there Upd.here | exact Upd.there (Upd.there Upd.here) | exact Upd.there (Upd.there (Upd.there Upd.here)) | exact Upd.there (Upd.there (Upd.there (Upd.there Upd.here))) | exact Upd.app _ (Upd.here) | exact Upd.app _ (Upd.there Upd.here) | exact Upd.app _ (Upd.there (Upd.there Upd.here)) | exact Upd.app _ (Upd.there (Upd.there (Upd.there Upd.here))) | exact Upd.there (Upd.app _ (Upd.here)) | exact Upd.there (Upd.app _ (Upd.there Upd.here)) | exact Upd.there (Upd.app _ (Upd.there (Upd.there Upd.here))) | exact Upd.there (Upd.app _ (Upd.there (Upd.there (Upd.there Upd.here)))) | exact Upd.there (Upd.there (Upd.app _ (Upd.here))) | exact Upd.there (Upd.there (Upd.app _ (Upd.there Upd.here))) | exact Upd.there (Upd.there (Upd.app _ (Upd.there (Upd.there Upd.here))))) (by rfl) ?_) | refine wc_ret rfl ?_)
    refine wc_cond rfl (fun hc => ?_) (fun hc => ?_)
    · have hyes : (underP path x.path && (secure || !x.secure)) = true := hc
      rw [if_pos hyes] at hnx
      repeat' (first | refine wc_seq ?_ | refine wc_region ?_ | refine wl_nil ?_ | refine wn_seq ?_ | refine wn_blk ?_ | refine wc_skip ?_ | refine wc_scope ?_ | refine wc_label ?_ | refine wn_noGoto ?_ | refine wc_block ?_ | refine wc_exit rfl ?_ | (show WL _ _ (_ :: _) _ _ _ _; first | refine yl_v rfl rfl rfl ?_ | refine wl_v rfl rfl rfl (by first  | fail) ?_ | refine xl_alloc (fun _ => ?_) | refine xl_box rfl (fun _ => ?_) | refine xl_store rfl rfl ?_ | refine xl_buildSlice rfl (fun _ => ?_) | refine wl_makeMap rfl rfl (fun _ => ?_) | refine wl_insert rfl rfl rfl rfl rfl rfl (by first | exact rfl | exact trivial) (by first | exact Upd.here | exact Upd.there Upd.here | exact Upd.there (Upd.there Upd.here) | exact Upd.there (Upd.there (Upd.there Upd.here)) | exact Upd.there (Upd.there (Upd.there (Upd.there Upd.here))) | exact Upd.app _ (Upd.here) | exact Upd.app _ (Upd.there Upd.here) | exact Upd.app _ (Upd.there (Upd.there Upd.here)) | exact Upd.app _ (Upd.there (Upd.there (Upd.there Upd.here))) | exact Upd.there (Upd.app _ (Upd.here)) | exact Upd.there (Upd.app _ (Upd.there Upd.here)) | exact Upd.there (Upd.app _ (Upd.there (Upd.there Upd.here))) | exact Upd.there (Upd.app _ (Upd.there (Upd.there (Upd.there Upd.here)))) | exact Upd.there (Upd.there (Upd.app _ (Upd.here))) | exact Upd.there (Upd.there (Upd.app _ (Upd.there Upd.here))) | exact Upd.there (Upd.there (Upd.app _ (Upd.there (Upd.there Upd.here))))) (by rfl) ?_) | refine wc_ret rfl ?_)
      rename_i b37
      refine wl_append (H0 := (b, .cells [.slice (some ⟨bb, o, none⟩) J.length cap].toArray 55 (0, 0)) :: H) rfl own rfl rfl rfl rfl rfl rfl rfl rfl rfl rfl (List.Mem.head _) rfl rfl (List.Sublist.cons _ (List.sublist_cons_self _ _)) (by rw [cellsP_length]; omega) rfl ?_
      intro v' Hs' ho'
      have ho2 : OwnS tPr 2 v' Hs' (cellsP (pairsP (J.take (i + 1)) path secure)) := by rw [hnx, cellsP_append]; exact ho'
      repeat' (first | refine wc_seq ?_ | refine wc_region ?_ | refine wl_nil ?_ | refine wn_seq ?_ | refine wn_blk ?_ | refine wc_skip ?_ | refine wc_scope ?_ | refine wc_label ?_ | refine wn_noGoto ?_ | refine wc_block ?_ | refine wc_exit rfl ?_ | (show WL _ _ (_ :: _) _ _ _ _; first | refine yl_v rfl rfl rfl ?_ | refine wl_v rfl rfl rfl (by first  | fail) ?_ | refine xl_alloc (fun _ => ?_) | refine xl_box rfl (fun _ => ?_) | refine xl_store rfl rfl ?_ | refine xl_buildSlice rfl (fun _ => ?_) | refine wl_makeMap rfl rfl (fun _ => ?_) | refine wl_insert rfl rfl rfl rfl rfl rfl (by first | exact rfl | exact trivial) (by first | exact Upd.here | exact Upd.there Upd.here | exact Upd.there (Upd.there Upd.here) | exact Upd.there (Upd.there (Upd.there Upd.here)) | exact Upd.there (Upd.there (Upd.there (Upd.there Upd.here))) | exact Upd.app _ (Upd.here) | exact Upd.app _ (Upd.there Upd.here) | exact Upd.app _ (Upd.there (Upd.there Upd.here)) | exact Upd.app _ (Upd.there (Upd.there (Upd.there Upd.here))) | exact Upd.there (Upd.app _ (Upd.here)) | exact Upd.there (Upd.app _ (Upd.there Upd.here)) | exact Upd.there (Upd.app _ (Upd.there (Upd.there Upd.here))) | exact Upd.there (Upd.app _ (Upd.there (Upd.there (Upd.there Upd.here)))) | exact Upd.there (Upd.there (Upd.app _ (Upd.here))) | exact Upd.there (Upd.there (Upd.app _ (Upd.there Upd.here))) | exact Upd.there (Upd.there (Upd.app _ (Upd.there (Upd.there Upd.here))))) (by rfl) ?_) | refine wc_ret rfl ?_)
      exact wn_cut ⟨i + 1, v', Hs', by omega, ho2⟩ (by show J.length - (i + 1) < J.length - i; omega) (by first | exact Sub.nil _ | (repeat (first | exact Sub.nil _ | refine Sub.cons (by first | rfl | (simp [look]; done)) ?_))) (fun _ h => h)
    · have hno : ¬ (underP path x.path && (secure || !x.secure)) = true := by rw [show (underP path x.path && (secure || !x.secure)) = false from hc]; decide
      rw [if_neg hno, List.append_nil] at hnx
      repeat' (first | refine wc_seq ?_ | refine wc_region ?_ | refine wl_nil ?_ | refine wn_seq ?_ | refine wn_blk ?_ | refine wc_skip ?_ | refine wc_scope ?_ | refine wc_label ?_ | refine wn_noGoto ?_ | refine wc_block ?_ | refine wc_exit rfl ?_ | (show WL _ _ (_ :: _) _ _ _ _; first | refine yl_v rfl rfl rfl ?_ | refine wl_v rfl rfl rfl (by first  | fail) ?_ | refine xl_alloc (fun _ => ?_) | refine xl_box rfl (fun _ => ?_) | refine xl_store rfl rfl ?_ | refine xl_buildSlice rfl (fun _ => ?_) | refine wl_makeMap rfl rfl (fun _ => ?_) | refine wl_insert rfl rfl rfl rfl rfl rfl (by first | exact rfl | exact trivial) (by first | exact Upd.here | exact Upd.there Upd.here | exact Upd.there (Upd.there Upd.here) | exact Upd.there (Upd.there (Upd.there Upd.here)) | exact Upd.there (Upd.there (Upd.there (Upd.there Upd.here))) | exact Upd.app _ (Upd.here) | exact Upd.app _ (Upd.there Upd.here) | exact Upd.app _ (Upd.there (Upd.there Upd.here)) | exact Upd.app _ (Upd.there (Upd.there (Upd.there Upd.here))) | exact Upd.there (Upd.app _ (Upd.here)) | exact Upd.there (Upd.app _ (Upd.there Upd.here)) | exact Upd.there (Upd.app _ (Upd.there (Upd.there Upd.here))) | exact Upd.there (Upd.app _ (Upd.there (Upd.there (Upd.there Upd.here)))) | exact Upd.there (Upd.there (Upd.app _ (Upd.here))) | exact Upd.there (Upd.there (Upd.app _ (Upd.there Upd.here))) | exact Upd.there (Upd.there (Upd.app _ (Upd.there (Upd.there Upd.here))))) (by rfl) ?_) | refine wc_ret rfl ?_)
      exact wn_cut ⟨i + 1, v, Hs, by omega, by rw [hnx]; exact own⟩ (by show J.length - (i + 1) < J.length - i; omega) (by first | exact Sub.nil _ | (repeat (first | exact Sub.nil _ | refine Sub.cons (by first | rfl | (simp [look]; done)) ?_))) (fun _ h => h.drop (List.sublist_cons_self _ _))
  obtain rfl : i = J.length := by omega
  rw [List.take_length] at own
  have hpl2 := pairsP_length J path secure
  repeat' (first | refine wc_seq ?_ | refine wc_region ?_ | refine wl_nil ?_ | refine wn_seq ?_ | refine wn_blk ?_ | refine wc_skip ?_ | refine wc_scope ?_ | refine wc_label ?_ | refine wn_noGoto ?_ | refine wc_block ?_ | refine wc_exit rfl ?_ | (show WL _ _ (_ :: _) _ _ _ _; first | refine yl_v rfl rfl rfl ?_ | refine wl_v rfl rfl rfl (by first  | fail) ?_ | refine xl_alloc (fun _ => ?_) | refine xl_box rfl (fun _ => ?_) | refine xl_store rfl rfl ?_ | refine xl_buildSlice rfl (fun _ => ?_) | refine wl_makeMap rfl rfl (fun _ => ?_) | refine wl_insert rfl rfl rfl rfl rfl rfl (by first | exact rfl | exact trivial) (by first | exact Upd.here | exact Upd.there Upd.here | exact Upd.there (Upd.there Upd.here) | exact Upd.there (Upd.there (Upd.there Upd.here)) | exact Upd.there (Upd.there (Upd.there (Upd.there Upd.here))) | exact Upd.app _ (Upd.here) | exact Upd.app _ (Upd.there Upd.here) | exact Upd.app _ (Upd.there (Upd.there Upd.here)) | exact Upd.app _ (Upd.there (Upd.there (Upd.there Upd.here))) | exact Upd.there (Upd.app _ (Upd.here)) | exact Upd.there (Upd.app _ (Upd.there Upd.here)) | exact Upd.there (Upd.app _ (Upd.there (Upd.there Upd.here))) | exact Upd.there (Upd.app _ (Upd.there (Upd.there (Upd.there Upd.here)))) | exact Upd.there (Upd.there (Upd.app _ (Upd.here))) | exact Upd.there (Upd.there (Upd.app _ (Upd.there Upd.here))) | exact Upd.there (Upd.there (Upd.app _ (Upd.there (Upd.there Upd.here))))) (by rfl) ?_) | refine wc_ret rfl ?_)
  refine wc_cond rfl (fun hc => by exfalso; simp at hc) (fun hc => ?_)
  repeat' (first | refine wc_seq ?_ | refine wc_region ?_ | refine wl_nil ?_ | refine wn_seq ?_ | refine wn_blk ?_ | refine wc_skip ?_ | refine wc_scope ?_ | refine wc_label ?_ | refine wn_noGoto ?_ | refine wc_block ?_ | refine wc_exit rfl ?_ | (show WL _ _ (_ :: _) _ _ _ _; first | refine yl_v rfl rfl rfl ?_ | refine wl_v rfl rfl rfl (by first  | fail) ?_ | refine xl_alloc (fun _ => ?_) | refine xl_box rfl (fun _ => ?_) | refine xl_store rfl rfl ?_ | refine xl_buildSlice rfl (fun _ => ?_) | refine wl_makeMap rfl rfl (fun _ => ?_) | refine wl_insert rfl rfl rfl rfl rfl rfl (by first | exact rfl | exact trivial) (by first | exact Upd.here | exact Upd.there Upd.here | exact Upd.there (Upd.there Upd.here) | exact Upd.there (Upd.there (Upd.there Upd.here)) | exact Upd.there (Upd.there (Upd.there (Upd.there Upd.here))) | exact Upd.app _ (Upd.here) | exact Upd.app _ (Upd.there Upd.here) | exact Upd.app _ (Upd.there (Upd.there Upd.here)) | exact Upd.app _ (Upd.there (Upd.there (Upd.there Upd.here))) | exact Upd.there (Upd.app _ (Upd.here)) | exact Upd.there (Upd.app _ (Upd.there Upd.here)) | exact Upd.there (Upd.app _ (Upd.there (Upd.there Upd.here))) | exact Upd.there (Upd.app _ (Upd.there (Upd.there (Upd.there Upd.here)))) | exact Upd.there (Upd.there (Upd.app _ (Upd.here))) | exact Upd.there (Upd.there (Upd.app _ (Upd.there Upd.here))) | exact Upd.there (Upd.there (Upd.app _ (Upd.there (Upd.there Upd.here))))) (by rfl) ?_) | refine wc_ret rfl ?_)
  exact wry_tmp (Hn := Hs) rfl rfl Since.refl (List.Sublist.refl _) ⟨rfl, own.slP (fun p hp => .inr hp) (by omega)⟩
set_option maxHeartbeats 1000000 in
theorem rpairsJ_ok (hM : Laid M w) {jv : Value} {J : List Ckie} (hJ : SlC M jv J) (hJl : J.length ≤ 100000) (hsm : ∀ c ∈ J, SmC c) (path : List UInt8) (secure : Bool) (hp : path.length ≤ 9223372036854775807) : Calls Tryd.prog 17 #[jv, str path, .bool secure] w (RetS M w (fun M' H v => H = [] ∧ SlP M' v (pairsP J path secure))) := by
  obtain ⟨a, cap, bb, o, cs, T, fz, rfl, h1, h2, h3, h4⟩ := hJ.open
  refine calls_st (l := [.slice a J.length cap, str path, .bool secure]) hM Tryd.func17 rfl rfl rfl (E0 := [(0, true, .slice a J.length cap), (1, true, str path), (2, true, .bool secure)]) (params_cons rfl (params_cons rfl (params_cons rfl (params_nil _)))) ?_
  repeat' (first | refine wc_seq ?_ | refine wc_region ?_ | refine wl_nil ?_ | refine wn_seq ?_ | refine wn_blk ?_ | refine wc_skip ?_ | refine wc_block ?_ | refine wc_exit rfl ?_ | (show WL _ _ (_ :: _) _ _ _ _; first | refine yl_v rfl rfl rfl ?_ | refine wl_v rfl rfl rfl (by first  | fail) ?_ | refine xl_buildSlice rfl (fun _ => ?_)) | refine wc_ret rfl ?_)
  refine wc_loop (α := PS J path secure) (fun x => [(0, true, .slice a J.length cap), (1, true, str path), (2, true, .bool secure), (7, true, x.v), (8, true, i64 (x.i : Int))]) (fun x => St w [] x.Hs M) (fun x => J.length - x.i) ⟨0, .slice none 0 0, [], Nat.zero_le _, OwnS.nil⟩ (by first | exact Sub.nil _ | (repeat (first | exact Sub.nil _ | refine Sub.cons (by first | rfl | (simp [look]; done)) ?_))) (fun _ h => h) ?_
  rintro ⟨i, v, Hs, hi, own⟩
  dsimp only
  have hpl := pairsP_length (J.take i) path secure
  rw [List.length_take] at hpl
  by_cases hlt : i < J.length
  · have hne : J ≠ [] := by rintro rfl; simp at hlt
    obtain ⟨rfl, hMb⟩ := h3 hne
    have hcell := h4 i hlt
    have hnx := pairsP_next (path := path) (secure := secure) hlt
    have hs := sm_at hsm hlt
    generalize J.getD i default = x at *
    have hun := fun {w : World} (hw : Laid M w) => runder_ok hw path x.path hp hs.2.2
    have c0 : cs[o + i * 6 + 0]? = some (str x.name) := hcell 0 (by rw [ckCells_length]; decide)
    have c1 : cs[o + i * 6 + 1]? = some (str x.value) := hcell 1 (by rw [ckCells_length]; decide)
    have c2 : cs[o + i * 6 + 2]? = some (str x.path) := hcell 2 (by rw [ckCells_length]; decide)
    have c4 : cs[o + i * 6 + 4]? = some (.bool x.secure) := hcell 4 (by rw [ckCells_length]; decide)
    clear hcell
    repeat' (first | refine wc_seq ?_ | refine wc_region ?_ | refine wl_nil ?_ | refine wn_seq ?_ | refine wn_blk ?_ | refine wc_skip ?_ | refine wc_block ?_ | refine wc_exit rfl ?_ | (show WL _ _ (_ :: _) _ _ _ _; first | refine yl_v rfl rfl rfl ?_ | refine wl_v rfl rfl rfl (by first  | fail) ?_ | refine xl_buildSlice rfl (fun _ => ?_)) | refine wc_ret rfl ?_)
    refine wc_cond rfl (fun hc => ?_) (fun hc => by exfalso; simp at hc; omega)
    clear hc
    repeat' (first | refine wc_seq ?_ | refine wc_region ?_ | refine wl_nil ?_ | refine wn_seq ?_ | refine wn_blk ?_ | refine wc_skip ?_ | refine wc_block ?_ | refine wc_exit rfl ?_ | (show WL _ _ (_ :: _) _ _ _ _; first | refine yl_v rfl rfl rfl ?_ | refine wl_v rfl rfl rfl (by first | (show OpV _ _ _ _ (Oper.mk _ (Op.indexAddr _ _ _) _ _ _ _) _ _; exact ov_indexAddr (i := i) (b := bb) (o := o) rfl rfl rfl (by first | with_reducible exact fun _ => rfl | with_reducible exact fun h => h | exact fun _ => rfl | exact fun h => h | (intro himp; simp_all; done)) (by first | with_reducible exact fun _ => rfl | with_reducible exact fun h => h | exact fun _ => rfl | exact fun h => h | (intro himp; simp_all; done)) rfl (by first | exact (rfl : _ = some 1) | exact (rfl : _ = some 2) | exact (rfl : _ = some 3) | exact (rfl : _ = some 4) | exact (rfl : _ = some 6) | exact rfl) (fun _ => rfl) (by intro hcg; first | omega | (simp at hcg; omega))) | (show OpV _ _ _ _ (Oper.mk _ (Op.load _ _) _ _ _ _) _ _; first | exact ov_load1M rfl (by first | with_reducible exact fun _ => rfl | with_reducible exact fun h => h | exact fun _ => rfl | exact fun h => h | (intro himp; simp_all; done)) rfl rfl (fun _ => hMb) (fun _ => c2) | exact ov_load1M rfl (by first | with_reducible exact fun _ => rfl | with_reducible exact fun h => h | exact fun _ => rfl | exact fun h => h | (intro himp; simp_all; done)) rfl rfl (fun _ => hMb) (fun _ => c4)) | ((show OpV _ _ _ _ (Oper.mk _ (Op.call ⟨.value (.func 33), _, _⟩) _ _ _ _) _ _; exact ov_call Tryd.call33 rfl (by intro himp; first | rfl | (simp_all; done)) (by rfl) (fun _ _ h k => h.ext k) (fun hcg w hw => hun hw.laid))) | fail) ?_ | refine xl_buildSlice rfl (fun _ => ?_)) | refine wc_ret rfl ?_)
    refine wc_cond rfl (fun hc => ?_) (fun hc => ?_)
    · have hyes : (underP path x.path && (secure || !x.secure)) = true := hc
      rw [if_pos hyes] at hnx
      repeat' (first | refine wc_seq ?_ | refine wc_region ?_ | refine wl_nil ?_ | refine wn_seq ?_ | refine wn_blk ?_ | refine wc_skip ?_ | refine wc_block ?_ | refine wc_exit rfl ?_ | (show WL _ _ (_ :: _) _ _ _ _; first | refine yl_v rfl rfl rfl ?_ | refine wl_v rfl rfl rfl (by first  | fail) ?_ | refine xl_buildSlice rfl (fun _ => ?_)) | refine wc_ret rfl ?_)
      refine wc_draw 13 (by kernel_rfl) rfl (by kernel_rfl) (fun _ _ h k => h.ext k) ?_
      repeat' (first | (show WD _ _ (_ :: _) _ _ _ _ _ _; first | refine yd_v rfl rfl rfl rfl rfl rfl ?_ | refine wd_v rfl rfl rfl rfl rfl rfl (by first | (show OpV _ _ _ _ (Oper.mk _ (Op.indexAddr _ _ _) _ _ _ _) _ _; exact ov_indexAddr (i := i) (b := bb) (o := o) rfl rfl rfl (by first | with_reducible exact fun _ => rfl | with_reducible exact fun h => h | exact fun _ => rfl | exact fun h => h | (intro himp; simp_all; done)) (by first | with_reducible exact fun _ => rfl | with_reducible exact fun h => h | exact fun _ => rfl | exact fun h => h | (intro himp; simp_all; done)) rfl (by first | exact (rfl : _ = some 1) | exact (rfl : _ = some 2) | exact (rfl : _ = some 3) | exact (rfl : _ = some 4) | exact (rfl : _ = some 6) | exact rfl) (fun _ => rfl) (by intro hcg; first | omega | (simp at hcg; omega))) | (show OpV _ _ _ _ (Oper.mk _ (Op.load _ _) _ _ _ _) _ _; first | exact ov_load1M rfl (by first | with_reducible exact fun _ => rfl | with_reducible exact fun h => h | exact fun _ => rfl | exact fun h => h | (intro himp; simp_all; done)) rfl rfl (fun _ => hMb) (fun _ => c0) | exact ov_load1M rfl (by first | with_reducible exact fun _ => rfl | with_reducible exact fun h => h | exact fun _ => rfl | exact fun h => h | (intro himp; simp_all; done)) rfl rfl (fun _ => hMb) (fun _ => c1)) | fail) ?_ | refine yd_new rfl rfl rfl rfl rfl rfl ?_ | refine wd_conv rfl rfl rfl rfl rfl rfl rfl rfl rfl rfl ?_) | (show WD _ _ _ _ _ _ _ _ _; first | refine wd_nil ?_ | refine wd_nil1 (wl_fresh (fun _ => ?_))) | (first | refine wc_seq ?_ | refine wc_region ?_ | refine wl_nil ?_ | refine wn_seq ?_ | refine wn_blk ?_ | refine wc_skip ?_ | refine wc_block ?_ | refine wc_exit rfl ?_ | (show WL _ _ (_ :: _) _ _ _ _; first | refine yl_v rfl rfl rfl ?_ | refine wl_v rfl rfl rfl (by first | (show OpV _ _ _ _ (Oper.mk _ (Op.indexAddr _ _ _) _ _ _ _) _ _; exact ov_indexAddr (i := i) (b := bb) (o := o) rfl rfl rfl (by first | with_reducible exact fun _ => rfl | with_reducible exact fun h => h | exact fun _ => rfl | exact fun h => h | (intro himp; simp_all; done)) (by first | with_reducible exact fun _ => rfl | with_reducible exact fun h => h | exact fun _ => rfl | exact fun h => h | (intro himp; simp_all; done)) rfl (by first | exact (rfl : _ = some 1) | exact (rfl : _ = some 2) | exact (rfl : _ = some 3) | exact (rfl : _ = some 4) | exact (rfl : _ = some 6) | exact rfl) (fun _ => rfl) (by intro hcg; first | omega | (simp at hcg; omega))) | (show OpV _ _ _ _ (Oper.mk _ (Op.load _ _) _ _ _ _) _ _; first | exact ov_load1M rfl (by first | with_reducible exact fun _ => rfl | with_reducible exact fun h => h | exact fun _ => rfl | exact fun h => h | (intro himp; simp_all; done)) rfl rfl (fun _ => hMb) (fun _ => c0) | exact ov_load1M rfl (by first | with_reducible exact fun _ => rfl | with_reducible exact fun h => h | exact fun _ => rfl | exact fun h => h | (intro himp; simp_all; done)) rfl rfl (fun _ => hMb) (fun _ => c1)) | fail) ?_ | refine xl_buildSlice rfl (fun _ => ?_)) | refine wc_ret rfl ?_))
      refine wl_append (H0 := []) rfl own rfl rfl rfl rfl rfl rfl rfl rfl rfl rfl (List.Mem.head _) rfl rfl (by rw [List.append_nil]; exact List.sublist_cons_self _ _) (by rw [cellsP_length]; omega) rfl ?_
      intro v' Hs' ho'
      have ho2 : OwnS tPr 2 v' Hs' (cellsP (pairsP (J.take (i + 1)) path secure)) := by rw [hnx, cellsP_append]; exact ho'
      repeat' (first | refine wc_seq ?_ | refine wc_region ?_ | refine wl_nil ?_ | refine wn_seq ?_ | refine wn_blk ?_ | refine wc_skip ?_ | refine wc_block ?_ | refine wc_exit rfl ?_ | (show WL _ _ (_ :: _) _ _ _ _; first | refine yl_v rfl rfl rfl ?_ | refine wl_v rfl rfl rfl (by first  | fail) ?_ | refine xl_buildSlice rfl (fun _ => ?_)) | refine wc_ret rfl ?_)
      exact wn_cut ⟨i + 1, v', Hs', by omega, ho2⟩ (by show J.length - (i + 1) < J.length - i; omega) (by first | exact Sub.nil _ | (repeat (first | exact Sub.nil _ | refine Sub.cons (by first | rfl | (simp [look]; done)) ?_))) (fun _ h => by simpa using h)
    · have hno : ¬ (underP path x.path && (secure || !x.secure)) = true := by rw [show (underP path x.path && (secure || !x.secure)) = false from hc]; decide
      rw [if_neg hno, List.append_nil] at hnx
      repeat' (first | refine wc_seq ?_ | refine wc_region ?_ | refine wl_nil ?_ | refine wn_seq ?_ | refine wn_blk ?_ | refine wc_skip ?_ | refine wc_block ?_ | refine wc_exit rfl ?_ | (show WL _ _ (_ :: _) _ _ _ _; first | refine yl_v rfl rfl rfl ?_ | refine wl_v rfl rfl rfl (by first  | fail) ?_ | refine xl_buildSlice rfl (fun _ => ?_)) | refine wc_ret rfl ?_)
      exact wn_cut ⟨i + 1, v, Hs, by omega, by rw [hnx]; exact own⟩ (by show J.length - (i + 1) < J.length - i; omega) (by first | exact Sub.nil _ | (repeat (first | exact Sub.nil _ | refine Sub.cons (by first | rfl | (simp [look]; done)) ?_))) (fun _ h => h)
  obtain rfl : i = J.length := by omega
  rw [List.take_length] at own
  have hpl2 := pairsP_length J path secure
  repeat' (first | refine wc_seq ?_ | refine wc_region ?_ | refine wl_nil ?_ | refine wn_seq ?_ | refine wn_blk ?_ | refine wc_skip ?_ | refine wc_block ?_ | refine wc_exit rfl ?_ | (show WL _ _ (_ :: _) _ _ _ _; first | refine yl_v rfl rfl rfl ?_ | refine wl_v rfl rfl rfl (by first  | fail) ?_ | refine xl_buildSlice rfl (fun _ => ?_)) | refine wc_ret rfl ?_)
  refine wc_cond rfl (fun hc => by exfalso; simp at hc) (fun hc => ?_)
  repeat' (first | refine wc_seq ?_ | refine wc_region ?_ | refine wl_nil ?_ | refine wn_seq ?_ | refine wn_blk ?_ | refine wc_skip ?_ | refine wc_block ?_ | refine wc_exit rfl ?_ | (show WL _ _ (_ :: _) _ _ _ _; first | refine yl_v rfl rfl rfl ?_ | refine wl_v rfl rfl rfl (by first  | fail) ?_ | refine xl_buildSlice rfl (fun _ => ?_)) | refine wc_ret rfl ?_)
  exact wr_lay (Hn := Hs) rfl rfl Since.refl (List.Sublist.refl _) ⟨rfl, own.slP (fun p hp => .inr hp) (by omega)⟩
end Go.Proofs.YtmfelfhingmmbaaDoor
/-
  The document's Put; are two lists of cookies one?
-/
namespace Go.Proofs.YtmfelfhingmmbaaDoor
open Go.Eng Go.Pct Go.Txt Go.Ck
set_option maxRecDepth 10000
set_option linter.unusedSimpArgs false
set_option linter.unusedVariables false
variable {M : Ghost} {w0 w : World} {bs : List Nat} {H : List (Nat × Obj)}
structure QS (J : List Ckie) (c : Ckie) where
  i : Nat
  v : Value
  Hs : List (Nat × Obj)
  hi : i ≤ J.length
  own : OwnS tCk 6 v Hs (cellsC ((J.take i).filter fun x => !sameC x c))
set_option maxHeartbeats 1000000 in
theorem rput_ok (hM : Laid M w) {jv : Value} {J : List Ckie} (hJ : SlC M jv J) (hJl : J.length ≤ 100000) (c : Ckie) (hc : SmC c) : Calls Tryd.prog 12 #[jv, .agg (ckCells c).toArray] w (RetS M w (fun M' H v => H = [] ∧ ∃ sv, v = .tuple #[sv, i64 (putP J c).2] ∧ SlC M' sv (putP J c).1)) := by
  have hri := fun {w : World} (hw : Laid M w) => rrightC_ok hw c hc
  have hll := laidC_length J c
  have hck : ckCells c = [str c.name, str c.value, str c.path, i64 c.age, .bool c.secure, .bool c.http] := rfl
  obtain ⟨a, cap, bb, o, cs, T, fz, rfl, h1, h2, h3, h4⟩ := hJ.open
  unfold putP
  rw [hck] at hri ⊢
  refine calls_st (l := [.slice a J.length cap, .agg [str c.name, str c.value, str c.path, i64 c.age, .bool c.secure, .bool c.http].toArray]) hM Tryd.func12 rfl rfl rfl (E0 := [(0, true, .slice a J.length cap), (1, true, .agg [str c.name, str c.value, str c.path, i64 c.age, .bool c.secure, .bool c.http].toArray)]) (params_cons rfl (params_cons rfl (params_nil _))) ?_
  repeat' (first | refine wc_seq ?_ | refine wc_region ?_ | refine wl_nil ?_ | refine wn_seq ?_ | refine wn_blk ?_ | refine wc_skip ?_ | refine wc_block ?_ | refine wc_exit rfl ?_ | (show WL _ _ (_ :: _) _ _ _ _; first | refine yl_v rfl rfl rfl ?_ | refine wl_v rfl rfl rfl (by first | ((show OpV _ _ _ _ (Oper.mk _ (Op.call ⟨.value (.func 31), _, _⟩) _ _ _ _) _ _; exact ov_call Tryd.call31 rfl (by intro himp; first | rfl | (simp_all; done)) (by rfl) (fun _ _ h k => h.ext k) (fun hcg w hw => hri hw.laid))) | fail) ?_ | refine xl_box rfl (fun _ => ?_) | refine xl_buildSlice rfl (fun _ => ?_)) | refine wc_ret rfl ?_)
  rename_i b3
  refine wc_cond rfl (fun hc => ?_) (fun hc => ?_)
  · have hno : ¬ rightC c = true := by simpa using hc
    repeat' (first | refine wc_seq ?_ | refine wc_region ?_ | refine wl_nil ?_ | refine wn_seq ?_ | refine wn_blk ?_ | refine wc_skip ?_ | refine wc_block ?_ | refine wc_exit rfl ?_ | (show WL _ _ (_ :: _) _ _ _ _; first | refine yl_v rfl rfl rfl ?_ | refine wl_v rfl rfl rfl (by first  | fail) ?_ | refine xl_box rfl (fun _ => ?_) | refine xl_buildSlice rfl (fun _ => ?_)) | refine wc_ret rfl ?_)
    rw [if_neg hno]
    exact wr_S2 (Hn := []) rfl rfl rfl Since.refl (List.nil_sublist _) ⟨rfl, _, rfl, hJ⟩
  have hyes : rightC c = true := by simpa using hc
  rw [if_pos hyes]
  clear hc
  repeat' (first | refine wc_seq ?_ | refine wc_region ?_ | refine wl_nil ?_ | refine wn_seq ?_ | refine wn_blk ?_ | refine wc_skip ?_ | refine wc_block ?_ | refine wc_exit rfl ?_ | (show WL _ _ (_ :: _) _ _ _ _; first | refine yl_v rfl rfl rfl ?_ | refine wl_v rfl rfl rfl (by first  | fail) ?_ | refine xl_box rfl (fun _ => ?_) | refine xl_buildSlice rfl (fun _ => ?_)) | refine wc_ret rfl ?_)
  refine wc_loop (α := QS J c) (fun x => [(0, true, .slice a J.length cap), (3, true, .pointer (some ⟨b3, 0, none⟩)), (7, true, x.v), (8, true, i64 (x.i : Int))]) (fun x => St w [] (x.Hs ++ [(b3, .cells [str c.name, str c.value, str c.path, i64 c.age, .bool c.secure, .bool c.http].toArray 28 (0, 0))]) M) (fun x => J.length - x.i) ⟨0, .slice none 0 0, [], Nat.zero_le _, OwnS.nil⟩ (by first | exact Sub.nil _ | (repeat (first | exact Sub.nil _ | refine Sub.cons (by first | rfl | (simp [look]; done)) ?_))) (fun _ h => h) ?_
  rintro ⟨i, v, Hs, hi, own⟩
  dsimp only
  have hfl := List.length_filter_le (fun x => !sameC x c) (J.take i)
  rw [List.length_take] at hfl
  by_cases hlt : i < J.length
  · have hne : J ≠ [] := by rintro rfl; simp at hlt
    obtain ⟨rfl, hMb⟩ := h3 hne
    have hcell := h4 i hlt
    have hnx := filter_next (p := fun x => sameC x c) hlt
    generalize J.getD i default = x at *
    have c0 : cs[o + i * 6 + 0]? = some (str x.name) := hcell 0 (by rw [ckCells_length]; decide)
    have c2 : cs[o + i * 6 + 2]? = some (str x.path) := hcell 2 (by rw [ckCells_length]; decide)
    have hcell2 : ∀ k, k < [str x.name, str x.value, str x.path, i64 x.age, .bool x.secure, .bool x.http].length → cs[o + i * 6 + k]? = [str x.name, str x.value, str x.path, i64 x.age, .bool x.secure, .bool x.http][k]? := hcell
    clear hcell
    have hsc : (sameC x c = true) ↔ (x.name = c.name ∧ x.path = c.path) := by unfold sameC; rw [Bool.and_eq_true, decide_eq_true_eq, decide_eq_true_eq]
    repeat' (first | refine wc_seq ?_ | refine wc_region ?_ | refine wl_nil ?_ | refine wn_seq ?_ | refine wn_blk ?_ | refine wc_skip ?_ | refine wc_block ?_ | refine wc_exit rfl ?_ | (show WL _ _ (_ :: _) _ _ _ _; first | refine yl_v rfl rfl rfl ?_ | refine wl_v rfl rfl rfl (by first  | fail) ?_ | refine xl_box rfl (fun _ => ?_) | refine xl_buildSlice rfl (fun _ => ?_)) | refine wc_ret rfl ?_)
    refine wc_cond rfl (fun hc => ?_) (fun hc => by exfalso; simp at hc; omega)
    clear hc
    repeat' (first | refine wc_seq ?_ | refine wc_region ?_ | refine wl_nil ?_ | refine wn_seq ?_ | refine wn_blk ?_ | refine wc_skip ?_ | refine wc_block ?_ | refine wc_exit rfl ?_ | (show WL _ _ (_ :: _) _ _ _ _; first | refine yl_v rfl rfl rfl ?_ | refine wl_v rfl rfl rfl (by first  | fail) ?_ | refine xl_box rfl (fun _ => ?_) | refine xl_buildSlice rfl (fun _ => ?_)) | refine wc_ret rfl ?_)
    refine wc_draw 18 (by kernel_rfl) rfl (by kernel_rfl) (fun _ _ h k => h.ext k) ?_
    repeat' (first | (show WD _ _ (_ :: _) _ _ _ _ _ _; first | refine yd_v rfl rfl rfl rfl rfl rfl ?_ | refine wd_v rfl rfl rfl rfl rfl rfl (by first | (show OpV _ _ _ _ (Oper.mk _ (Op.indexAddr _ _ _) _ _ _ _) _ _; exact ov_indexAddr (i := i) (b := bb) (o := o) rfl rfl rfl (by first | with_reducible exact fun _ => rfl | with_reducible exact fun h => h | exact fun _ => rfl | exact fun h => h | (intro himp; simp_all; done)) (by first | with_reducible exact fun _ => rfl | with_reducible exact fun h => h | exact fun _ => rfl | exact fun h => h | (intro himp; simp_all; done)) rfl (by first | exact (rfl : _ = some 1) | exact (rfl : _ = some 2) | exact (rfl : _ = some 3) | exact (rfl : _ = some 4) | exact (rfl : _ = some 6) | exact rfl) (fun _ => rfl) (by intro hcg; first | omega | (simp at hcg; omega))) | (show OpV _ _ _ _ (Oper.mk _ (Op.load _ _) _ _ _ _) _ _; first | exact ov_load1M rfl (by first | with_reducible exact fun _ => rfl | with_reducible exact fun h => h | exact fun _ => rfl | exact fun h => h | (intro himp; simp_all; done)) rfl rfl (fun _ => hMb) (fun _ => c0) | exact ov_load1M rfl (by first | with_reducible exact fun _ => rfl | with_reducible exact fun h => h | exact fun _ => rfl | exact fun h => h | (intro himp; simp_all; done)) rfl rfl (fun _ => hMb) (fun _ => c2) | exact ov_load1 rfl (by first | with_reducible exact fun _ => rfl | with_reducible exact fun h => h | exact fun _ => rfl | exact fun h => h | (intro himp; simp_all; done)) rfl rfl (List.mem_append_right _ (List.Mem.head _)) rfl) | fail) ?_ | refine yd_new rfl rfl rfl rfl rfl rfl ?_ | refine wd_conv rfl rfl rfl rfl rfl rfl rfl rfl rfl rfl ?_) | (show WD _ _ _ _ _ _ _ _ _; first | refine wd_nil ?_ | refine wd_nil1 (wl_fresh (fun _ => ?_))) | (first | refine wc_seq ?_ | refine wc_region ?_ | refine wl_nil ?_ | refine wn_seq ?_ | refine wn_blk ?_ | refine wc_skip ?_ | refine wc_block ?_ | refine wc_exit rfl ?_ | (show WL _ _ (_ :: _) _ _ _ _; first | refine yl_v rfl rfl rfl ?_ | refine wl_v rfl rfl rfl (by first | (show OpV _ _ _ _ (Oper.mk _ (Op.indexAddr _ _ _) _ _ _ _) _ _; exact ov_indexAddr (i := i) (b := bb) (o := o) rfl rfl rfl (by first | with_reducible exact fun _ => rfl | with_reducible exact fun h => h | exact fun _ => rfl | exact fun h => h | (intro himp; simp_all; done)) (by first | with_reducible exact fun _ => rfl | with_reducible exact fun h => h | exact fun _ => rfl | exact fun h => h | (intro himp; simp_all; done)) rfl (by first | exact (rfl : _ = some 1) | exact (rfl : _ = some 2) | exact (rfl : _ = some 3) | exact (rfl : _ = some 4) | exact (rfl : _ = some 6) | exact rfl) (fun _ => rfl) (by intro hcg; first | omega | (simp at hcg; omega))) | (show OpV _ _ _ _ (Oper.mk _ (Op.load _ _) _ _ _ _) _ _; first | exact ov_load1M rfl (by first | with_reducible exact fun _ => rfl | with_reducible exact fun h => h | exact fun _ => rfl | exact fun h => h | (intro himp; simp_all; done)) rfl rfl (fun _ => hMb) (fun _ => c0) | exact ov_load1M rfl (by first | with_reducible exact fun _ => rfl | with_reducible exact fun h => h | exact fun _ => rfl | exact fun h => h | (intro himp; simp_all; done)) rfl rfl (fun _ => hMb) (fun _ => c2) | exact ov_load1 rfl (by first | with_reducible exact fun _ => rfl | with_reducible exact fun h => h | exact fun _ => rfl | exact fun h => h | (intro himp; simp_all; done)) rfl rfl (List.mem_append_right _ (List.Mem.head _)) rfl) | fail) ?_ | refine xl_box rfl (fun _ => ?_) | refine xl_buildSlice rfl (fun _ => ?_)) | refine wc_ret rfl ?_))
    repeat' (first | refine wc_seq ?_ | refine wc_region ?_ | refine wl_nil ?_ | refine wn_seq ?_ | refine wn_blk ?_ | refine wc_skip ?_ | refine wc_block ?_ | refine wc_exit rfl ?_ | (show WL _ _ (_ :: _) _ _ _ _; first | refine yl_v rfl rfl rfl ?_ | refine wl_v rfl rfl rfl (by first  | fail) ?_ | refine xl_box rfl (fun _ => ?_) | refine xl_buildSlice rfl (fun _ => ?_)) | refine wc_ret rfl ?_)
    refine wc_cond rfl (fun hc => ?_) (fun hc => ?_)
    · have hno : ¬ sameC x c = true := by
        rw [hsc]; rintro ⟨g1, g2⟩; simp [g1, g2] at hc
      rw [if_neg hno] at hnx
      repeat' (first | refine wc_seq ?_ | refine wc_region ?_ | refine wl_nil ?_ | refine wn_seq ?_ | refine wn_blk ?_ | refine wc_skip ?_ | refine wc_block ?_ | refine wc_exit rfl ?_ | (show WL _ _ (_ :: _) _ _ _ _; first | refine yl_v rfl rfl rfl ?_ | refine wl_v rfl rfl rfl (by first | (show OpV _ _ _ _ (Oper.mk _ (Op.indexAddr _ _ _) _ _ _ _) _ _; exact ov_indexAddr (i := i) (b := bb) (o := o) rfl rfl rfl (by first | with_reducible exact fun _ => rfl | with_reducible exact fun h => h | exact fun _ => rfl | exact fun h => h | (intro himp; simp_all; done)) (by first | with_reducible exact fun _ => rfl | with_reducible exact fun h => h | exact fun _ => rfl | exact fun h => h | (intro himp; simp_all; done)) rfl (by first | exact (rfl : _ = some 1) | exact (rfl : _ = some 2) | exact (rfl : _ = some 3) | exact (rfl : _ = some 4) | exact (rfl : _ = some 6) | exact rfl) (fun _ => rfl) (by intro hcg; first | omega | (simp at hcg; omega))) | (show OpV _ _ _ _ (Oper.mk _ (Op.load _ _) _ _ _ _) _ _; exact ov_loadSM rfl (by first | with_reducible exact fun _ => rfl | with_reducible exact fun h => h | exact fun _ => rfl | exact fun h => h | (intro himp; simp_all; done)) rfl (by rfl) (fun _ => hMb) (fun _ => hcell2)) | fail) ?_ | refine xl_box rfl (fun _ => ?_) | refine xl_buildSlice rfl (fun _ => ?_)) | refine wc_ret rfl ?_)
      rename_i b43
      refine wl_append (H0 := [(b3, .cells [str c.name, str c.value, str c.path, i64 c.age, .bool c.secure, .bool c.http].toArray 28 (0, 0))]) rfl own rfl rfl rfl rfl rfl rfl rfl rfl rfl rfl (List.Mem.head _) rfl rfl (List.sublist_cons_self _ _) (by rw [cellsC_length]; omega) rfl ?_
      intro v' Hs' ho'
      have ho2 : OwnS tCk 6 v' Hs' (cellsC ((J.take (i + 1)).filter fun x => !sameC x c)) := by rw [hnx, cellsC_append, cellsC_one]; exact ho'
      repeat' (first | refine wc_seq ?_ | refine wc_region ?_ | refine wl_nil ?_ | refine wn_seq ?_ | refine wn_blk ?_ | refine wc_skip ?_ | refine wc_block ?_ | refine wc_exit rfl ?_ | (show WL _ _ (_ :: _) _ _ _ _; first | refine yl_v rfl rfl rfl ?_ | refine wl_v rfl rfl rfl (by first  | fail) ?_ | refine xl_box rfl (fun _ => ?_) | refine xl_buildSlice rfl (fun _ => ?_)) | refine wc_ret rfl ?_)
      exact wn_cut ⟨i + 1, v', Hs', by omega, ho2⟩ (by show J.length - (i + 1) < J.length - i; omega) (by first | exact Sub.nil _ | (repeat (first | exact Sub.nil _ | refine Sub.cons (by first | rfl | (simp [look]; done)) ?_))) (fun _ h => h)
    · have hyes : sameC x c = true := by
        rw [hsc]; simp at hc; exact hc
      rw [if_pos hyes, List.append_nil] at hnx
      repeat' (first | refine wc_seq ?_ | refine wc_region ?_ | refine wl_nil ?_ | refine wn_seq ?_ | refine wn_blk ?_ | refine wc_skip ?_ | refine wc_block ?_ | refine wc_exit rfl ?_ | (show WL _ _ (_ :: _) _ _ _ _; first | refine yl_v rfl rfl rfl ?_ | refine wl_v rfl rfl rfl (by first  | fail) ?_ | refine xl_box rfl (fun _ => ?_) | refine xl_buildSlice rfl (fun _ => ?_)) | refine wc_ret rfl ?_)
      exact wn_cut ⟨i + 1, v, Hs, by omega, by rw [hnx]; exact own⟩ (by show J.length - (i + 1) < J.length - i; omega) (by first | exact Sub.nil _ | (repeat (first | exact Sub.nil _ | refine Sub.cons (by first | rfl | (simp [look]; done)) ?_))) (fun _ h => h)
  obtain rfl : i = J.length := by omega
  rw [List.take_length] at own hfl
  repeat' (first | refine wc_seq ?_ | refine wc_region ?_ | refine wl_nil ?_ | refine wn_seq ?_ | refine wn_blk ?_ | refine wc_skip ?_ | refine wc_block ?_ | refine wc_exit rfl ?_ | (show WL _ _ (_ :: _) _ _ _ _; first | refine yl_v rfl rfl rfl ?_ | refine wl_v rfl rfl rfl (by first  | fail) ?_ | refine xl_box rfl (fun _ => ?_) | refine xl_buildSlice rfl (fun _ => ?_)) | refine wc_ret rfl ?_)
  refine wc_cond rfl (fun hc => by exfalso; simp at hc) (fun hc => ?_)
  clear hc
  repeat' (first | refine wc_seq ?_ | refine wc_region ?_ | refine wl_nil ?_ | refine wn_seq ?_ | refine wn_blk ?_ | refine wc_skip ?_ | refine wc_block ?_ | refine wc_exit rfl ?_ | (show WL _ _ (_ :: _) _ _ _ _; first | refine yl_v rfl rfl rfl ?_ | refine wl_v rfl rfl rfl (by first | (show OpV _ _ _ _ (Oper.mk _ (Op.load _ _) _ _ _ _) _ _; exact ov_load1 (v := i64 c.age) rfl (by first | with_reducible exact fun _ => rfl | with_reducible exact fun h => h | exact fun _ => rfl | exact fun h => h | (intro himp; simp_all; done)) rfl rfl (List.mem_append_right _ (List.Mem.head _)) rfl) | fail) ?_ | refine xl_box rfl (fun _ => ?_) | refine xl_buildSlice rfl (fun _ => ?_)) | refine wc_ret rfl ?_)
  refine wc_split (α := { x : Value × List (Nat × Obj) // OwnS tCk 6 x.1 x.2 (cellsC (laidC J c)) }) (fun x => [(0, true, .slice a J.length cap), (7, true, x.1.1)]) (fun x => St w [] x.1.2 M) ?_ ?_
  · refine wc_cond rfl (fun hc => ?_) (fun hc => ?_)
    · have hz : ¬ c.age = 0 := by simpa using hc
      have e : laidC J c = (J.filter fun x => !sameC x c) ++ [c] := by unfold laidC; rw [if_neg hz]
      repeat' (first | refine wc_seq ?_ | refine wc_region ?_ | refine wl_nil ?_ | refine wn_seq ?_ | refine wn_blk ?_ | refine wc_skip ?_ | refine wc_block ?_ | refine wc_exit rfl ?_ | (show WL _ _ (_ :: _) _ _ _ _; first | refine yl_v rfl rfl rfl ?_ | refine wl_v rfl rfl rfl (by first | (show OpV _ _ _ _ (Oper.mk _ (Op.load _ _) _ _ _ _) _ _; exact ov_loadS (l := [str c.name, str c.value, str c.path, i64 c.age, .bool c.secure, .bool c.http]) rfl (by first | with_reducible exact fun _ => rfl | with_reducible exact fun h => h | exact fun _ => rfl | exact fun h => h | (intro himp; simp_all; done)) rfl rfl (List.mem_append_right _ (List.Mem.head _))) | fail) ?_ | refine xl_box rfl (fun _ => ?_) | refine xl_buildSlice rfl (fun _ => ?_)) | refine wc_ret rfl ?_)
      rename_i b50
      refine wl_append (H0 := []) rfl own rfl rfl rfl rfl rfl rfl rfl rfl rfl rfl (List.Mem.head _) rfl rfl (List.Sublist.cons _ (List.Sublist.append_left (List.nil_sublist _) _)) (by rw [cellsC_length]; omega) rfl ?_
      intro v3 H3 own3
      repeat' (first | refine wc_seq ?_ | refine wc_region ?_ | refine wl_nil ?_ | refine wn_seq ?_ | refine wn_blk ?_ | refine wc_skip ?_ | refine wc_block ?_ | refine wc_exit rfl ?_ | (show WL _ _ (_ :: _) _ _ _ _; first | refine yl_v rfl rfl rfl ?_ | refine wl_v rfl rfl rfl (by first  | fail) ?_ | refine xl_box rfl (fun _ => ?_) | refine xl_buildSlice rfl (fun _ => ?_)) | refine wc_ret rfl ?_)
      exact wn_cut ⟨(v3, H3), by rw [e, cellsC_append, cellsC_one]; exact own3⟩ trivial (by first | exact Sub.nil _ | (repeat (first | exact Sub.nil _ | refine Sub.cons (by first | rfl | (simp [look]; done)) ?_))) (fun _ h => by simpa using h)
    · have hz : c.age = 0 := by simpa using hc
      have e : laidC J c = J.filter fun x => !sameC x c := by unfold laidC; rw [if_pos hz, List.append_nil]
      repeat' (first | refine wc_seq ?_ | refine wc_region ?_ | refine wl_nil ?_ | refine wn_seq ?_ | refine wn_blk ?_ | refine wc_skip ?_ | refine wc_block ?_ | refine wc_exit rfl ?_ | (show WL _ _ (_ :: _) _ _ _ _; first | refine yl_v rfl rfl rfl ?_ | refine wl_v rfl rfl rfl (by first  | fail) ?_ | refine xl_box rfl (fun _ => ?_) | refine xl_buildSlice rfl (fun _ => ?_)) | refine wc_ret rfl ?_)
      exact wn_cut ⟨(v, Hs), by rw [e]; exact own⟩ trivial (by first | exact Sub.nil _ | (repeat (first | exact Sub.nil _ | refine Sub.cons (by first | rfl | (simp [look]; done)) ?_))) (fun _ h => h.drop (List.sublist_append_left _ _))
  rintro ⟨⟨v3, H3⟩, own3⟩
  dsimp only at own3 ⊢
  obtain ⟨a3, c3, rfl⟩ := own3.slice (k := (laidC J c).length) (by decide) (cellsC_length _)
  repeat' (first | refine wc_seq ?_ | refine wc_region ?_ | refine wl_nil ?_ | refine wn_seq ?_ | refine wn_blk ?_ | refine wc_skip ?_ | refine wc_block ?_ | refine wc_exit rfl ?_ | (show WL _ _ (_ :: _) _ _ _ _; first | refine yl_v rfl rfl rfl ?_ | refine wl_v rfl rfl rfl (by first  | fail) ?_ | refine xl_box rfl (fun _ => ?_) | refine xl_buildSlice rfl (fun _ => ?_)) | refine wc_ret rfl ?_)
  refine wc_cond rfl (fun hc => ?_) (fun hc => ?_)
  · have hbig : 20 < (laidC J c).length := by simp at hc; omega
    repeat' (first | refine wc_seq ?_ | refine wc_region ?_ | refine wl_nil ?_ | refine wn_seq ?_ | refine wn_blk ?_ | refine wc_skip ?_ | refine wc_block ?_ | refine wc_exit rfl ?_ | (show WL _ _ (_ :: _) _ _ _ _; first | refine yl_v rfl rfl rfl ?_ | refine wl_v rfl rfl rfl (by first  | fail) ?_ | refine xl_box rfl (fun _ => ?_) | refine xl_buildSlice rfl (fun _ => ?_)) | refine wc_ret rfl ?_)
    rw [if_pos hbig]
    exact wr_S2 (Hn := []) rfl rfl rfl Since.refl (List.nil_sublist _) ⟨rfl, _, rfl, hJ⟩
  · have hsm : ¬ 20 < (laidC J c).length := by simp at hc; omega
    repeat' (first | refine wc_seq ?_ | refine wc_region ?_ | refine wl_nil ?_ | refine wn_seq ?_ | refine wn_blk ?_ | refine wc_skip ?_ | refine wc_block ?_ | refine wc_exit rfl ?_ | (show WL _ _ (_ :: _) _ _ _ _; first | refine yl_v rfl rfl rfl ?_ | refine wl_v rfl rfl rfl (by first  | fail) ?_ | refine xl_box rfl (fun _ => ?_) | refine xl_buildSlice rfl (fun _ => ?_)) | refine wc_ret rfl ?_)
    rw [if_neg hsm]
    exact wr_lay2 (Hn := H3) rfl rfl rfl Since.refl (List.Sublist.refl _) ⟨rfl, _, rfl, OwnS.slC own3 (fun p hp => .inr hp) (by show (laidC J c).length ≤ _; omega)⟩
theorem cookies_ok (hM : Laid M w) {u v : Value} {l m : List Ckie} (hu : SlC M u l) (hv : SlC M v m) : Calls Tryd.prog 13 #[u, v] w (RetE w (.bool (decide (l = m)))) := by
  obtain ⟨a, cap, b, o, cs, T, fz, rfl, h1, h2, h3, h4⟩ := hu.open
  obtain ⟨a', cap', b', o', cs', T', fz', rfl, h1', h2', h3', h4'⟩ := hv.open
  refine calls_st (l := [.slice a l.length cap, .slice a' m.length cap']) hM Tryd.func13 rfl rfl rfl (E0 := [(0, true, .slice a l.length cap), (1, true, .slice a' m.length cap')]) (params_cons rfl (params_cons rfl (params_nil _))) ?_
  repeat' (first | refine wc_seq ?_ | refine wc_region ?_ | refine wl_nil ?_ | refine wn_seq ?_ | refine wn_blk ?_ | refine wc_skip ?_ | refine wc_block ?_ | refine wc_exit rfl ?_ | (show WL _ _ (_ :: _) _ _ _ _; first | refine yl_v rfl rfl rfl ?_ | refine wl_v rfl rfl rfl (by first  | fail) ?_) | refine wc_ret rfl ?_)
  refine wc_cond rfl (fun hc => ?_) (fun hc => ?_)
  · have hne : ¬ l = m := by rintro rfl; simp at hc
    rw [decide_eq_false hne]
    repeat' (first | refine wc_seq ?_ | refine wc_region ?_ | refine wl_nil ?_ | refine wn_seq ?_ | refine wn_blk ?_ | refine wc_skip ?_ | refine wc_block ?_ | refine wc_exit rfl ?_ | (show WL _ _ (_ :: _) _ _ _ _; first | refine yl_v rfl rfl rfl ?_ | refine wl_v rfl rfl rfl (by first  | fail) ?_) | refine wc_ret rfl ?_)
    exact wr_tmp rfl rfl rfl
  have hlm : l.length = m.length := by simp at hc; omega
  clear hc
  repeat' (first | refine wc_seq ?_ | refine wc_region ?_ | refine wl_nil ?_ | refine wn_seq ?_ | refine wn_blk ?_ | refine wc_skip ?_ | refine wc_block ?_ | refine wc_exit rfl ?_ | (show WL _ _ (_ :: _) _ _ _ _; first | refine yl_v rfl rfl rfl ?_ | refine wl_v rfl rfl rfl (by first  | fail) ?_) | refine wc_ret rfl ?_)
  refine wc_loop (α := { i : Nat // i ≤ l.length ∧ ∀ j, j < i → l.getD j default = m.getD j default }) (fun x => [(0, true, .slice a l.length cap), (1, true, .slice a' m.length cap'), (5, true, i64 (x.1 : Int))]) (fun x => St w [] [] M) (fun x => l.length - x.1) ⟨0, by omega, by intro j hj; omega⟩ (by first | exact Sub.nil _ | (repeat (first | exact Sub.nil _ | refine Sub.cons (by first | rfl | (simp [look]; done)) ?_))) (fun _ h => h) ?_
  rintro ⟨i, hi, hall⟩
  dsimp only
  by_cases hlt : i < l.length
  · have hne : l ≠ [] := by rintro rfl; simp at hlt
    have hne' : m ≠ [] := by rintro rfl; rw [hlm] at hlt; simp at hlt
    obtain ⟨rfl, hMb⟩ := h3 hne
    obtain ⟨rfl, hMb'⟩ := h3' hne'
    have hc1 := h4 i hlt
    have hc2 := h4' i (by omega)
    have hxy : l.getD i default = m.getD i default ∨ ¬ l.getD i default = m.getD i default := Decidable.em _
    have hdif : ¬ l.getD i default = m.getD i default → ¬ l = m := fun h e => h (by rw [e])
    have hext : l.getD i default = m.getD i default → ∀ j, j < i + 1 → l.getD j default = m.getD j default := fun h j hj => by
      by_cases e : j = i
      · rw [e]; exact h
      · exact hall j (by omega)
    generalize l.getD i default = x at *
    generalize m.getD i default = y at *
    have d1 : ∀ k, k < [str x.name, str x.value, str x.path, i64 x.age, .bool x.secure, .bool x.http].length → cs[o + i * 6 + k]? = [str x.name, str x.value, str x.path, i64 x.age, .bool x.secure, .bool x.http][k]? := hc1
    have d2 : ∀ k, k < [str y.name, str y.value, str y.path, i64 y.age, .bool y.secure, .bool y.http].length → cs'[o' + i * 6 + k]? = [str y.name, str y.value, str y.path, i64 y.age, .bool y.secure, .bool y.http][k]? := hc2
    clear hc1 hc2
    have hiff : x = y ↔ (x.name = y.name ∧ x.value = y.value ∧ x.path = y.path ∧ x.age = y.age ∧ x.secure = y.secure ∧ x.http = y.http) := by
      obtain ⟨x1, x2, x3, x4, x5, x6⟩ := x
      obtain ⟨y1, y2, y3, y4, y5, y6⟩ := y
      simp
    repeat' (first | refine wc_seq ?_ | refine wc_region ?_ | refine wl_nil ?_ | refine wn_seq ?_ | refine wn_blk ?_ | refine wc_skip ?_ | refine wc_block ?_ | refine wc_exit rfl ?_ | (show WL _ _ (_ :: _) _ _ _ _; first | refine yl_v rfl rfl rfl ?_ | refine wl_v rfl rfl rfl (by first  | fail) ?_) | refine wc_ret rfl ?_)
    refine wc_cond rfl (fun hc => ?_) (fun hc => by exfalso; simp at hc; omega)
    clear hc
    repeat' (first | refine wc_seq ?_ | refine wc_region ?_ | refine wl_nil ?_ | refine wn_seq ?_ | refine wn_blk ?_ | refine wc_skip ?_ | refine wc_block ?_ | refine wc_exit rfl ?_ | (show WL _ _ (_ :: _) _ _ _ _; first | refine yl_v rfl rfl rfl ?_ | refine wl_v rfl rfl rfl (by first  | fail) ?_) | refine wc_ret rfl ?_)
    refine wc_draw 9 (by kernel_rfl) rfl (by kernel_rfl) (fun _ _ h k => h.ext k) ?_
    repeat' (first | (show WD _ _ (_ :: _) _ _ _ _ _ _; first | refine yd_v rfl rfl rfl rfl rfl rfl ?_ | refine wd_v rfl rfl rfl rfl rfl rfl (by first | (show OpV _ _ _ _ (Oper.mk _ (Op.indexAddr _ _ _) _ _ _ _) _ _; first | exact ov_indexAddr (len := l.length) (i := i) (b := b) (o := o) rfl rfl rfl (by first | with_reducible exact fun _ => rfl | with_reducible exact fun h => h | exact fun _ => rfl | exact fun h => h | (intro himp; simp_all; done)) (by first | with_reducible exact fun _ => rfl | with_reducible exact fun h => h | exact fun _ => rfl | exact fun h => h | (intro himp; simp_all; done)) rfl (by first | exact (rfl : _ = some 1) | exact (rfl : _ = some 2) | exact (rfl : _ = some 3) | exact (rfl : _ = some 4) | exact (rfl : _ = some 6) | exact rfl) (fun _ => rfl) (by intro hcg; first | omega | (simp at hcg; omega)) | exact ov_indexAddr (len := m.length) (i := i) (b := b') (o := o') rfl rfl rfl (by first | with_reducible exact fun _ => rfl | with_reducible exact fun h => h | exact fun _ => rfl | exact fun h => h | (intro himp; simp_all; done)) (by first | with_reducible exact fun _ => rfl | with_reducible exact fun h => h | exact fun _ => rfl | exact fun h => h | (intro himp; simp_all; done)) rfl (by first | exact (rfl : _ = some 1) | exact (rfl : _ = some 2) | exact (rfl : _ = some 3) | exact (rfl : _ = some 4) | exact (rfl : _ = some 6) | exact rfl) (fun _ => rfl) (by intro hcg; first | omega | (simp at hcg; omega))) | (show OpV _ _ _ _ (Oper.mk _ (Op.load _ _) _ _ _ _) _ _; first | exact ov_loadSM rfl (by first | with_reducible exact fun _ => rfl | with_reducible exact fun h => h | exact fun _ => rfl | exact fun h => h | (intro himp; simp_all; done)) rfl (by rfl) (fun _ => hMb) (fun _ => d1) | exact ov_loadSM rfl (by first | with_reducible exact fun _ => rfl | with_reducible exact fun h => h | exact fun _ => rfl | exact fun h => h | (intro himp; simp_all; done)) rfl (by rfl) (fun _ => hMb') (fun _ => d2)) | fail) ?_ | refine yd_new rfl rfl rfl rfl rfl rfl ?_ | refine wd_conv rfl rfl rfl rfl rfl rfl rfl rfl rfl rfl ?_) | (show WD _ _ _ _ _ _ _ _ _; first | refine wd_nil ?_ | refine wd_nil1 (wl_fresh (fun _ => ?_))) | (first | refine wc_seq ?_ | refine wc_region ?_ | refine wl_nil ?_ | refine wn_seq ?_ | refine wn_blk ?_ | refine wc_skip ?_ | refine wc_block ?_ | refine wc_exit rfl ?_ | (show WL _ _ (_ :: _) _ _ _ _; first | refine yl_v rfl rfl rfl ?_ | refine wl_v rfl rfl rfl (by first | (show OpV _ _ _ _ (Oper.mk _ (Op.indexAddr _ _ _) _ _ _ _) _ _; first | exact ov_indexAddr (len := l.length) (i := i) (b := b) (o := o) rfl rfl rfl (by first | with_reducible exact fun _ => rfl | with_reducible exact fun h => h | exact fun _ => rfl | exact fun h => h | (intro himp; simp_all; done)) (by first | with_reducible exact fun _ => rfl | with_reducible exact fun h => h | exact fun _ => rfl | exact fun h => h | (intro himp; simp_all; done)) rfl (by first | exact (rfl : _ = some 1) | exact (rfl : _ = some 2) | exact (rfl : _ = some 3) | exact (rfl : _ = some 4) | exact (rfl : _ = some 6) | exact rfl) (fun _ => rfl) (by intro hcg; first | omega | (simp at hcg; omega)) | exact ov_indexAddr (len := m.length) (i := i) (b := b') (o := o') rfl rfl rfl (by first | with_reducible exact fun _ => rfl | with_reducible exact fun h => h | exact fun _ => rfl | exact fun h => h | (intro himp; simp_all; done)) (by first | with_reducible exact fun _ => rfl | with_reducible exact fun h => h | exact fun _ => rfl | exact fun h => h | (intro himp; simp_all; done)) rfl (by first | exact (rfl : _ = some 1) | exact (rfl : _ = some 2) | exact (rfl : _ = some 3) | exact (rfl : _ = some 4) | exact (rfl : _ = some 6) | exact rfl) (fun _ => rfl) (by intro hcg; first | omega | (simp at hcg; omega))) | (show OpV _ _ _ _ (Oper.mk _ (Op.load _ _) _ _ _ _) _ _; first | exact ov_loadSM rfl (by first | with_reducible exact fun _ => rfl | with_reducible exact fun h => h | exact fun _ => rfl | exact fun h => h | (intro himp; simp_all; done)) rfl (by rfl) (fun _ => hMb) (fun _ => d1) | exact ov_loadSM rfl (by first | with_reducible exact fun _ => rfl | with_reducible exact fun h => h | exact fun _ => rfl | exact fun h => h | (intro himp; simp_all; done)) rfl (by rfl) (fun _ => hMb') (fun _ => d2)) | fail) ?_) | refine wc_ret rfl ?_))
    repeat' (first | refine wc_seq ?_ | refine wc_region ?_ | refine wl_nil ?_ | refine wn_seq ?_ | refine wn_blk ?_ | refine wc_skip ?_ | refine wc_block ?_ | refine wc_exit rfl ?_ | (show WL _ _ (_ :: _) _ _ _ _; first | refine yl_v rfl rfl rfl ?_ | refine wl_v rfl rfl rfl (by first  | fail) ?_) | refine wc_ret rfl ?_)
    refine wc_cond rfl (fun hc => ?_) (fun hc => ?_)
    · have hne : ¬ x = y := by rintro rfl; simp at hc
      rw [decide_eq_false (hdif hne)]
      repeat' (first | refine wc_seq ?_ | refine wc_region ?_ | refine wl_nil ?_ | refine wn_seq ?_ | refine wn_blk ?_ | refine wc_skip ?_ | refine wc_block ?_ | refine wc_exit rfl ?_ | (show WL _ _ (_ :: _) _ _ _ _; first | refine yl_v rfl rfl rfl ?_ | refine wl_v rfl rfl rfl (by first  | fail) ?_) | refine wc_ret rfl ?_)
      exact wr_tmp rfl rfl rfl
    · have he : x = y := by
        rw [hiff]; simp at hc; exact hc
      repeat' (first | refine wc_seq ?_ | refine wc_region ?_ | refine wl_nil ?_ | refine wn_seq ?_ | refine wn_blk ?_ | refine wc_skip ?_ | refine wc_block ?_ | refine wc_exit rfl ?_ | (show WL _ _ (_ :: _) _ _ _ _; first | refine yl_v rfl rfl rfl ?_ | refine wl_v rfl rfl rfl (by first  | fail) ?_) | refine wc_ret rfl ?_)
      exact wn_cut ⟨i + 1, by omega, hext he⟩ (by show l.length - (i + 1) < l.length - i; omega) (by first | exact Sub.nil _ | (repeat (first | exact Sub.nil _ | refine Sub.cons (by first | rfl | (simp [look]; done)) ?_))) (fun _ h => h)
  have he : l = m := by
    apply List.ext_getElem hlm
    intro j hj hj'
    have := hall j (by omega)
    simpa [hj, hj'] using this
  rw [decide_eq_true he]
  repeat' (first | refine wc_seq ?_ | refine wc_region ?_ | refine wl_nil ?_ | refine wn_seq ?_ | refine wn_blk ?_ | refine wc_skip ?_ | refine wc_block ?_ | refine wc_exit rfl ?_ | (show WL _ _ (_ :: _) _ _ _ _; first | refine yl_v rfl rfl rfl ?_ | refine wl_v rfl rfl rfl (by first  | fail) ?_) | refine wc_ret rfl ?_)
  refine wc_cond rfl (fun hc => by exfalso; simp at hc; omega) (fun hc => ?_)
  repeat' (first | refine wc_seq ?_ | refine wc_region ?_ | refine wl_nil ?_ | refine wn_seq ?_ | refine wn_blk ?_ | refine wc_skip ?_ | refine wc_block ?_ | refine wc_exit rfl ?_ | (show WL _ _ (_ :: _) _ _ _ _; first | refine yl_v rfl rfl rfl ?_ | refine wl_v rfl rfl rfl (by first  | fail) ?_) | refine wc_ret rfl ?_)
  exact wr_tmp rfl rfl rfl
end Go.Proofs.YtmfelfhingmmbaaDoor
/-
  Headers of cookies: Sent, Line; the document's.
-/
namespace Go.Ck
open Go.Pct Go.Txt Go.Proofs.YtmfelfhingmmbaaDoor
open Go.Rsp (tokC tokenB)
theorem trim1_len (s : List UInt8) : (trim1 s).length ≤ s.length := by
  have h1 := (List.dropWhile_sublist (l := s) spc).length_le
  have h2 := (List.dropWhile_sublist (l := (lf1 s).reverse) spc).length_le
  unfold trim1 rt1 lf1 at *
  rw [List.length_reverse] at *
  omega
theorem cut_eq (t : List UInt8) : cutS [61] t = if idx 61 t < t.length then some (t.take (idx 61 t), t.drop (idx 61 t + 1)) else none := by
  split
  · rename_i h
    have e := at_idx h
    have := cutS_mid (c := 61) (t := []) (a := t.take (idx 61 t)) (t.drop (idx 61 t + 1)) (idx_before 61 t)
    rw [List.append_assoc] at this
    rw [← this]
    congr 1
  · rename_i h
    refine cutS_no (fun hm => h ?_)
    rcases Nat.lt_or_ge (idx 61 t) t.length with h' | h'
    · exact h'
    · have := idx_before 61 t
      rw [List.take_of_length_le h'] at this
      exact absurd hm this
theorem sent_skip {l : List (List UInt8)} {i : Nat} {out : List Pr} (h : i < l.length) (ht : trim1 (l.getD i default) = []) : sentGo (l.drop i) out = sentGo (l.drop (i + 1)) out := by
  rw [drop_get h, sentGo, if_pos ht]
theorem sent_full {l : List (List UInt8)} {i : Nat} {out : List Pr} (h : i < l.length) (ht : ¬ trim1 (l.getD i default) = []) (hf : 20 ≤ out.length) : sentGo (l.drop i) out = ([], 5) := by
  rw [drop_get h, sentGo, if_neg ht, if_pos hf]
theorem sent_bad {l : List (List UInt8)} {i : Nat} {out : List Pr} (h : i < l.length) (ht : ¬ trim1 (l.getD i default) = []) (hf : ¬ 20 ≤ out.length) (hb : ckPair (trim1 (l.getD i default)) = none) : sentGo (l.drop i) out = ([], 10) := by
  rw [drop_get h, sentGo, if_neg ht, if_neg hf, hb]
theorem sent_one {l : List (List UInt8)} {i : Nat} {out : List Pr} {p : Pr} (h : i < l.length) (ht : ¬ trim1 (l.getD i default) = []) (hf : ¬ 20 ≤ out.length) (hb : ckPair (trim1 (l.getD i default)) = some p) : sentGo (l.drop i) out = sentGo (l.drop (i + 1)) (out ++ [p]) := by
  rw [drop_get h, sentGo, if_neg ht, if_neg hf, hb]
theorem line_snoc (l : List Pr) (p : Pr) : lineP (l ++ [p]) = lineP l ++ (if l = [] then [] else [59, 32]) ++ eqP p := by
  cases l with
  | nil => simp [lineP]
  | cons q l => simp [lineP, List.flatMap_append]
theorem line_take {l : List Pr} {i : Nat} (h : i < l.length) : lineP (l.take (i + 1)) = lineP (l.take i) ++ (if i = 0 then [] else [59, 32]) ++ eqP (l.getD i default) := by
  have e : l.getD i default = l[i] := by simp [h]
  rw [List.take_succ_eq_append_getElem h, line_snoc, e]
  congr 2
  by_cases hi : i = 0
  · subst hi; simp
  · rw [if_neg hi, if_neg (by intro e; have := congrArg List.length e; rw [List.length_take, List.length_nil] at this; omega)]
theorem line_join (l : List Pr) : Lib.join (l.map eqP) [59, 32] = lineP l := by
  cases l with
  | nil => rfl
  | cons p l =>
    rw [List.map_cons, Lib.join_cons, lineP, Lib.joinTail, List.map_map, List.flatMap_def]
    rfl
theorem line_len {l : List Pr} {m : Nat} (h : Small m l) : (lineP l).length ≤ l.length * (2 * m + 3) := by
  cases l with
  | nil => simp [lineP]
  | cons p l =>
    have key : ∀ l : List Pr, Small m l → (l.flatMap fun q => 59 :: 32 :: eqP q).length ≤ l.length * (2 * m + 3) := by
      intro l
      induction l with
      | nil => simp
      | cons q l ih =>
        intro hs
        have h1 := hs q (List.mem_cons_self ..)
        have := ih (fun x hx => hs x (List.mem_cons_of_mem _ hx))
        rw [List.flatMap_cons, List.length_append]
        simp only [eqP, List.length_cons, List.length_append] at *
        rw [Nat.add_mul]; omega
    have h1 := h p (List.mem_cons_self ..)
    have := key l (fun x hx => h x (List.mem_cons_of_mem _ hx))
    unfold lineP
    rw [List.length_append]
    simp only [eqP, List.length_cons, List.length_append] at *
    rw [Nat.add_mul]; omega
theorem line_take_len {l : List Pr} {m : Nat} (h : Small m l) {i : Nat} (hi : i ≤ l.length) : (lineP (l.take i)).length ≤ i * (2 * m + 3) := by
  have := line_len (l := l.take i) (fun p hp => h p (List.mem_of_mem_take hp))
  rwa [List.length_take, Nat.min_eq_left hi] at this
end Go.Ck
namespace Go.Proofs.YtmfelfhingmmbaaDoor
open Go.Eng Go.Pct Go.Txt Go.Ck
open Go.Rsp (tokC tokenB)
set_option maxRecDepth 10000
set_option linter.unusedSimpArgs false
set_option linter.unusedVariables false
variable {M : Ghost} {w0 w : World} {bs : List Nat} {H : List (Nat × Obj)}
theorem split59 (s : List UInt8) : Lib.split s [59] = pieces 59 s := split_pieces 59 _ s (Nat.le_refl _)
structure NS (l : List (List UInt8)) where
  i : Nat
  out : List Pr
  v : Value
  Hs : List (Nat × Obj)
  hi : i ≤ l.length
  hl : out.length ≤ 20
  inv : sentGo l [] = sentGo (l.drop i) out
  own : OwnS tPr 2 v Hs (cellsP out)
set_option maxHeartbeats 1000000 in
theorem csent_ok (hG : Glob M) (hM : Laid M w) (s : List UInt8) (hs : s.length ≤ 1000000) : Calls Tryd.prog 19 #[str s] w (RetS M w (fun M' H v => H = [] ∧ ∃ sv, v = .tuple #[sv, i64 (sentP s).2] ∧ SlP M' sv (sentP s).1)) := by
  unfold sentP
  refine calls_st (l := [str s]) hM Tryd.func19 rfl rfl rfl (E0 := [(0, true, str s)]) (params_cons rfl (params_nil _)) ?_
  repeat' (first | refine wc_seq ?_ | refine wc_region ?_ | refine wl_nil ?_ | refine wn_seq ?_ | refine wn_blk ?_ | refine wc_skip ?_ | refine wc_block ?_ | refine wc_exit rfl ?_ | (show WL _ _ (_ :: _) _ _ _ _; first | refine yl_v rfl rfl rfl ?_ | refine wl_v rfl rfl rfl (by first  | fail) ?_ | refine xl_buildSlice rfl (fun _ => ?_)) | refine wc_ret rfl ?_)
  refine wl_callS rfl Tryd.call34 rfl rfl rfl rfl (fun w hw => splitM_ok hG hw.laid s [59] (by decide) (by omega)) ?_
  rintro v1 H1 M1 hm1 hn1 ⟨rfl, hS⟩
  have hG1 := hG.mono hm1
  rw [split59] at hS
  have hpl := pieces_length 59 s
  have hpt := pieces_total 59 s
  generalize pieces 59 s = l at *
  obtain ⟨a, cap, b, o, cs, T, fz, rfl, h1, h2, h3, h4⟩ := hS.open
  repeat' (first | refine wc_seq ?_ | refine wc_region ?_ | refine wl_nil ?_ | refine wn_seq ?_ | refine wn_blk ?_ | refine wc_skip ?_ | refine wc_block ?_ | refine wc_exit rfl ?_ | (show WL _ _ (_ :: _) _ _ _ _; first | refine yl_v rfl rfl rfl ?_ | refine wl_v rfl rfl rfl (by first  | fail) ?_ | refine xl_buildSlice rfl (fun _ => ?_)) | refine wc_ret rfl ?_)
  refine wc_loop (α := NS l) (fun x => [(4, true, x.v), (11, true, .slice a l.length cap), (12, true, i64 (l.length : Int)), (13, true, i64 (x.i : Int))]) (fun x => St w [] x.Hs M1) (fun x => l.length - x.i) ⟨0, [], .slice none 0 0, [], Nat.zero_le _, by simp, rfl, OwnS.nil⟩ (by first | exact Sub.nil _ | (repeat (first | exact Sub.nil _ | refine Sub.cons (by first | rfl | (simp [look]; done)) ?_))) (fun _ h => h) ?_
  rintro ⟨i, out, v, Hs, hi, hol, hinv, own⟩
  dsimp only
  have own0 := own
  obtain ⟨va, vcap, rfl⟩ := own.slice (k := out.length) (by decide) (cellsP_length _)
  by_cases hlt : i < l.length
  · have hne : l ≠ [] := by rintro rfl; simp at hlt
    obtain ⟨rfl, hMb⟩ := h3 hne
    have hcell := h4 i hlt
    have hxl := hpt (l.getD i default) (by have e : l.getD i default = l[i] := by simp [hlt]
                                           rw [e]; exact List.getElem_mem _)
    have hsk := sent_skip (out := out) hlt
    have hfu := sent_full (out := out) hlt
    have hba := sent_bad (out := out) hlt
    have hon := fun {p} => sent_one (out := out) (p := p) hlt
    have htl := trim1_len (l.getD i default)
    have htr := fun {w : World} (hw : Laid M1 w) => trim1_ok hw (l.getD i default) (by omega)
    generalize l.getD i default = x at *
    generalize trim1 x = t at *
    have hce := cut_eq t
    have hidx := idx_le 61 t
    repeat' (first | refine wc_seq ?_ | refine wc_region ?_ | refine wl_nil ?_ | refine wn_seq ?_ | refine wn_blk ?_ | refine wc_skip ?_ | refine wc_block ?_ | refine wc_exit rfl ?_ | (show WL _ _ (_ :: _) _ _ _ _; first | refine yl_v rfl rfl rfl ?_ | refine wl_v rfl rfl rfl (by first  | fail) ?_ | refine xl_buildSlice rfl (fun _ => ?_)) | refine wc_ret rfl ?_)
    refine wc_cond rfl (fun hc => ?_) (fun hc => by exfalso; simp at hc; omega)
    clear hc
    repeat' (first | refine wc_seq ?_ | refine wc_region ?_ | refine wl_nil ?_ | refine wn_seq ?_ | refine wn_blk ?_ | refine wc_skip ?_ | refine wc_block ?_ | refine wc_exit rfl ?_ | (show WL _ _ (_ :: _) _ _ _ _; first | refine yl_v rfl rfl rfl ?_ | refine wl_v rfl rfl rfl (by first | (show OpV _ _ _ _ (Oper.mk _ (Op.indexAddr _ _ _) _ _ _ _) _ _; exact ov_indexAddr (i := i) (b := b) (o := o) rfl rfl rfl (by first | with_reducible exact fun _ => rfl | with_reducible exact fun h => h | exact fun _ => rfl | exact fun h => h | (intro himp; simp_all; done)) (by first | with_reducible exact fun _ => rfl | with_reducible exact fun h => h | exact fun _ => rfl | exact fun h => h | (intro himp; simp_all; done)) rfl (by first | exact (rfl : _ = some 1) | exact (rfl : _ = some 2) | exact (rfl : _ = some 3) | exact (rfl : _ = some 4) | exact (rfl : _ = some 6) | exact rfl) (fun _ => rfl) (by intro hcg; first | omega | (simp at hcg; omega))) | (show OpV _ _ _ _ (Oper.mk _ (Op.load _ _) _ _ _ _) _ _; exact ov_load1M rfl (by first | with_reducible exact fun _ => rfl | with_reducible exact fun h => h | exact fun _ => rfl | exact fun h => h | (intro himp; simp_all; done)) rfl rfl (fun _ => hMb) (fun _ => hcell)) | ((show OpV _ _ _ _ (Oper.mk _ (Op.call ⟨.value (.func 35), _, _⟩) _ _ _ _) _ _; exact ov_call Tryd.call35 rfl (by intro himp; first | rfl | (simp_all; done)) (by rfl) (fun _ _ h k => h.ext k) (fun hcg w hw => htr hw.laid))) | fail) ?_ | refine xl_buildSlice rfl (fun _ => ?_)) | refine wc_ret rfl ?_)
    refine wc_cond rfl (fun hc => ?_) (fun hc => ?_)
    · have ht : t = [] := by simpa using hc
      repeat' (first | refine wc_seq ?_ | refine wc_region ?_ | refine wl_nil ?_ | refine wn_seq ?_ | refine wn_blk ?_ | refine wc_skip ?_ | refine wc_block ?_ | refine wc_exit rfl ?_ | (show WL _ _ (_ :: _) _ _ _ _; first | refine yl_v rfl rfl rfl ?_ | refine wl_v rfl rfl rfl (by first  | fail) ?_ | refine xl_buildSlice rfl (fun _ => ?_)) | refine wc_ret rfl ?_)
      exact wn_cut ⟨i + 1, out, _, Hs, by omega, hol, by rw [hinv, hsk ht], own0⟩ (by show l.length - (i + 1) < l.length - i; omega) (by first | exact Sub.nil _ | (repeat (first | exact Sub.nil _ | refine Sub.cons (by first | rfl | (simp [look]; done)) ?_))) (fun _ h => h)
    have ht : ¬ t = [] := by simpa using hc
    clear hc hsk
    have hfu := hfu ht
    have hba := hba ht
    have hon := fun {p} => hon (p := p) ht
    repeat' (first | refine wc_seq ?_ | refine wc_region ?_ | refine wl_nil ?_ | refine wn_seq ?_ | refine wn_blk ?_ | refine wc_skip ?_ | refine wc_block ?_ | refine wc_exit rfl ?_ | (show WL _ _ (_ :: _) _ _ _ _; first | refine yl_v rfl rfl rfl ?_ | refine wl_v rfl rfl rfl (by first  | fail) ?_ | refine xl_buildSlice rfl (fun _ => ?_)) | refine wc_ret rfl ?_)
    refine wc_cond rfl (fun hc => ?_) (fun hc => ?_)
    · have hf : 20 ≤ out.length := by simp at hc; omega
      repeat' (first | refine wc_seq ?_ | refine wc_region ?_ | refine wl_nil ?_ | refine wn_seq ?_ | refine wn_blk ?_ | refine wc_skip ?_ | refine wc_block ?_ | refine wc_exit rfl ?_ | (show WL _ _ (_ :: _) _ _ _ _; first | refine yl_v rfl rfl rfl ?_ | refine wl_v rfl rfl rfl (by first  | fail) ?_ | refine xl_buildSlice rfl (fun _ => ?_)) | refine wc_ret rfl ?_)
      rw [hinv, hfu hf]
      exact wr_S2 (Hn := []) rfl rfl rfl (Since.refl.step hm1 hn1) (List.nil_sublist _) ⟨rfl, _, rfl, sl_nil⟩
    have hf : ¬ 20 ≤ out.length := by simp at hc; omega
    clear hc hfu
    have hba := hba hf
    have hon := fun {p} => hon (p := p) hf
    unfold ckPair at hba hon
    by_cases hk : idx 61 t < t.length
    · rw [if_pos hk] at hce hba hon
      have hcu := fun {w : World} (hw : Laid M1 w) => cut_yes hG1 hw (by decide) (by omega) hce
      have hto := fun {w : World} (hw : Laid M1 w) => ctoken_ok hw (t.take (idx 61 t)) (by rw [List.length_take]; omega)
      have hva := fun {w : World} (hw : Laid M1 w) => cvalue_ok hw (t.drop (idx 61 t + 1)) (by rw [List.length_drop]; omega)
      have hl1 : (t.take (idx 61 t)).length ≤ 1000000 := by rw [List.length_take]; omega
      generalize t.take (idx 61 t) = n at *
      generalize t.drop (idx 61 t + 1) = m at *
      repeat' (first | refine wc_seq ?_ | refine wc_region ?_ | refine wl_nil ?_ | refine wn_seq ?_ | refine wn_blk ?_ | refine wc_skip ?_ | refine wc_block ?_ | refine wc_exit rfl ?_ | (show WL _ _ (_ :: _) _ _ _ _; first | refine yl_v rfl rfl rfl ?_ | refine wl_v rfl rfl rfl (by first | ((show OpV _ _ _ _ (Oper.mk _ (Op.call ⟨.value (.func 36), _, _⟩) _ _ _ _) _ _; exact ov_call Tryd.call36 rfl (by intro himp; first | rfl | (simp_all; done)) (by rfl) (fun _ _ h k => h.ext k) (fun hcg w hw => hcu hw.laid))) | ((show OpV _ _ _ _ (Oper.mk _ (Op.call ⟨.value (.func 37), _, _⟩) _ _ _ _) _ _; exact ov_call Tryd.call37 rfl (by intro himp; first | rfl | (simp_all; done)) (by rfl) (fun _ _ h k => h.ext k) (fun hcg w hw => hto hw.laid))) | ((show OpV _ _ _ _ (Oper.mk _ (Op.call ⟨.value (.func 38), _, _⟩) _ _ _ _) _ _; exact ov_call Tryd.call38 rfl (by intro himp; first | rfl | (simp_all; done)) (by rfl) (fun _ _ h k => h.ext k) (fun hcg w hw => hva hw.laid))) | fail) ?_ | refine xl_buildSlice rfl (fun _ => ?_)) | refine wc_ret rfl ?_)
      refine wc_cond rfl (fun hc => ?_) (fun hc => ?_)
      · have hno : ¬ (tokenB n = true ∧ valueB m = true) := by rintro ⟨g1, g2⟩; simp [g1, g2] at hc
        rw [if_neg hno] at hba
        repeat' (first | refine wc_seq ?_ | refine wc_region ?_ | refine wl_nil ?_ | refine wn_seq ?_ | refine wn_blk ?_ | refine wc_skip ?_ | refine wc_block ?_ | refine wc_exit rfl ?_ | (show WL _ _ (_ :: _) _ _ _ _; first | refine yl_v rfl rfl rfl ?_ | refine wl_v rfl rfl rfl (by first  | fail) ?_ | refine xl_buildSlice rfl (fun _ => ?_)) | refine wc_ret rfl ?_)
        rw [hinv, hba rfl]
        exact wr_S2 (Hn := []) rfl rfl rfl (Since.refl.step hm1 hn1) (List.nil_sublist _) ⟨rfl, _, rfl, sl_nil⟩
      · have hyes : tokenB n = true ∧ valueB m = true := by simp at hc; exact hc
        rw [if_pos hyes] at hon
        have hon := hon rfl
        repeat' (first | refine wc_seq ?_ | refine wc_region ?_ | refine wl_nil ?_ | refine wn_seq ?_ | refine wn_blk ?_ | refine wc_skip ?_ | refine wc_block ?_ | refine wc_exit rfl ?_ | (show WL _ _ (_ :: _) _ _ _ _; first | refine yl_v rfl rfl rfl ?_ | refine wl_v rfl rfl rfl (by first  | fail) ?_ | refine xl_buildSlice rfl (fun _ => ?_)) | refine wc_ret rfl ?_)
        rename_i b46
        refine wl_append (H0 := []) rfl own0 rfl rfl rfl rfl rfl rfl rfl rfl rfl rfl (List.Mem.head _) rfl rfl (by rw [List.append_nil]; exact List.sublist_cons_self _ _) (by rw [cellsP_length]; omega) rfl ?_
        intro v' Hs' ho'
        have ho2 : OwnS tPr 2 v' Hs' (cellsP (out ++ [(n, m)])) := by rw [cellsP_append]; exact ho'
        repeat' (first | refine wc_seq ?_ | refine wc_region ?_ | refine wl_nil ?_ | refine wn_seq ?_ | refine wn_blk ?_ | refine wc_skip ?_ | refine wc_block ?_ | refine wc_exit rfl ?_ | (show WL _ _ (_ :: _) _ _ _ _; first | refine yl_v rfl rfl rfl ?_ | refine wl_v rfl rfl rfl (by first  | fail) ?_ | refine xl_buildSlice rfl (fun _ => ?_)) | refine wc_ret rfl ?_)
        exact wn_cut ⟨i + 1, out ++ [(n, m)], v', Hs', by omega, by rw [List.length_append]; simp; omega, by rw [hinv, hon], ho2⟩ (by show l.length - (i + 1) < l.length - i; omega) (by first | exact Sub.nil _ | (repeat (first | exact Sub.nil _ | refine Sub.cons (by first | rfl | (simp [look]; done)) ?_))) (fun _ h => by simpa using h)
    · rw [if_neg hk] at hce hba hon
      have hcu := fun {w : World} (hw : Laid M1 w) => cut_no hG1 hw (by decide) (by omega) hce
      repeat' (first | refine wc_seq ?_ | refine wc_region ?_ | refine wl_nil ?_ | refine wn_seq ?_ | refine wn_blk ?_ | refine wc_skip ?_ | refine wc_block ?_ | refine wc_exit rfl ?_ | (show WL _ _ (_ :: _) _ _ _ _; first | refine yl_v rfl rfl rfl ?_ | refine wl_v rfl rfl rfl (by first | ((show OpV _ _ _ _ (Oper.mk _ (Op.call ⟨.value (.func 36), _, _⟩) _ _ _ _) _ _; exact ov_call Tryd.call36 rfl (by intro himp; first | rfl | (simp_all; done)) (by rfl) (fun _ _ h k => h.ext k) (fun hcg w hw => hcu hw.laid))) | ((show OpV _ _ _ _ (Oper.mk _ (Op.call ⟨.value (.func 37), _, _⟩) _ _ _ _) _ _; exact ov_call Tryd.call37 rfl (by intro himp; first | rfl | (simp_all; done)) (by rfl) (fun _ _ h k => h.ext k) (fun hcg w hw => ctoken_ok hw.laid _ (by omega)))) | ((show OpV _ _ _ _ (Oper.mk _ (Op.call ⟨.value (.func 38), _, _⟩) _ _ _ _) _ _; exact ov_call Tryd.call38 rfl (by intro himp; first | rfl | (simp_all; done)) (by rfl) (fun _ _ h k => h.ext k) (fun hcg w hw => cvalue_ok hw.laid _ (by simp)))) | fail) ?_ | refine xl_buildSlice rfl (fun _ => ?_)) | refine wc_ret rfl ?_)
      refine wc_cond rfl (fun hc => ?_) (fun hc => by exfalso; simp at hc)
      repeat' (first | refine wc_seq ?_ | refine wc_region ?_ | refine wl_nil ?_ | refine wn_seq ?_ | refine wn_blk ?_ | refine wc_skip ?_ | refine wc_block ?_ | refine wc_exit rfl ?_ | (show WL _ _ (_ :: _) _ _ _ _; first | refine yl_v rfl rfl rfl ?_ | refine wl_v rfl rfl rfl (by first  | fail) ?_ | refine xl_buildSlice rfl (fun _ => ?_)) | refine wc_ret rfl ?_)
      rw [hinv, hba rfl]
      exact wr_S2 (Hn := []) rfl rfl rfl (Since.refl.step hm1 hn1) (List.nil_sublist _) ⟨rfl, _, rfl, sl_nil⟩
  obtain rfl : i = l.length := by omega
  rw [List.drop_length, sentGo] at hinv
  rw [hinv]
  repeat' (first | refine wc_seq ?_ | refine wc_region ?_ | refine wl_nil ?_ | refine wn_seq ?_ | refine wn_blk ?_ | refine wc_skip ?_ | refine wc_block ?_ | refine wc_exit rfl ?_ | (show WL _ _ (_ :: _) _ _ _ _; first | refine yl_v rfl rfl rfl ?_ | refine wl_v rfl rfl rfl (by first  | fail) ?_ | refine xl_buildSlice rfl (fun _ => ?_)) | refine wc_ret rfl ?_)
  refine wc_cond rfl (fun hc => by exfalso; simp at hc) (fun hc => ?_)
  repeat' (first | refine wc_seq ?_ | refine wc_region ?_ | refine wl_nil ?_ | refine wn_seq ?_ | refine wn_blk ?_ | refine wc_skip ?_ | refine wc_block ?_ | refine wc_exit rfl ?_ | (show WL _ _ (_ :: _) _ _ _ _; first | refine yl_v rfl rfl rfl ?_ | refine wl_v rfl rfl rfl (by first  | fail) ?_ | refine xl_buildSlice rfl (fun _ => ?_)) | refine wc_ret rfl ?_)
  exact wr_lay2 (Hn := Hs) rfl rfl rfl (Since.refl.step hm1 hn1) (List.Sublist.refl _) ⟨rfl, _, rfl, own0.slP (fun p hp => .inr hp) (by omega)⟩
structure LW (l : List Pr) where
  i : Nat
  v : Value
  Hs : List (Nat × Obj)
  hi : i ≤ l.length
  own : OwnS tSt 1 v Hs (cellsS ((l.take i).map eqP))
theorem cline_ok (hM : Laid M w) {v : Value} {l : List Pr} (hv : SlP M v l) (hsm : Small 1000000 l) (hn : l.length ≤ 50) : Calls Tryd.prog 21 #[v] w (RetE w (str (lineP l))) := by
  obtain ⟨a, cap, b, o, cs, T, fz, rfl, h1, h2, h3, h4⟩ := hv.open
  refine calls_st (l := [.slice a l.length cap]) hM Tryd.func21 rfl rfl rfl (E0 := [(0, true, .slice a l.length cap)]) (params_cons rfl (params_nil _)) ?_
  repeat' (first | refine wc_seq ?_ | refine wc_region ?_ | refine wl_nil ?_ | refine wn_seq ?_ | refine wn_blk ?_ | refine wc_skip ?_ | refine wc_block ?_ | refine wc_exit rfl ?_ | (show WL _ _ (_ :: _) _ _ _ _; first | refine yl_v rfl rfl rfl ?_ | refine wl_v rfl rfl rfl (by first  | fail) ?_ | refine xl_alloc (fun _ => ?_) | refine xl_store rfl rfl ?_ | refine xl_buildSlice rfl (fun _ => ?_)) | refine wc_ret rfl ?_)
  refine wc_loop (α := LW l) (fun x => [(3, true, x.v), (6, true, .slice a l.length cap), (7, true, i64 (l.length : Int)), (8, true, i64 (x.i : Int))]) (fun x => St w [] x.Hs M) (fun x => l.length - x.i) ⟨0, .slice none 0 0, [], Nat.zero_le _, OwnS.nil⟩ (by first | exact Sub.nil _ | (repeat (first | exact Sub.nil _ | refine Sub.cons (by first | rfl | (simp [look]; done)) ?_))) (fun _ h => h) ?_
  rintro ⟨i, v, Hs, hi, own⟩
  dsimp only
  by_cases hlt : i < l.length
  · have hne : l ≠ [] := by rintro rfl; simp at hlt
    obtain ⟨rfl, hMb⟩ := h3 hne
    have hc := h4 i hlt
    have e : l.getD i default = l[i] := by simp [hlt]
    have hml : (l.getD i default).1.length ≤ 1000000 ∧ (l.getD i default).2.length ≤ 1000000 := by rw [e]; exact hsm _ (List.getElem_mem _)
    have htk : (l.take (i + 1)).map eqP = (l.take i).map eqP ++ [eqP (l.getD i default)] := by
      rw [List.take_succ_eq_append_getElem hlt, List.map_append, e]; rfl
    have hcell2 : ∀ k, k < [str (l.getD i default).1, str (l.getD i default).2].length → cs[o + i * 2 + k]? = [str (l.getD i default).1, str (l.getD i default).2][k]? := pcell hc
    generalize l.getD i default = x at *
    obtain ⟨n, m⟩ := x
    dsimp only at *
    repeat' (first | refine wc_seq ?_ | refine wc_region ?_ | refine wl_nil ?_ | refine wn_seq ?_ | refine wn_blk ?_ | refine wc_skip ?_ | refine wc_block ?_ | refine wc_exit rfl ?_ | (show WL _ _ (_ :: _) _ _ _ _; first | refine yl_v rfl rfl rfl ?_ | refine wl_v rfl rfl rfl (by first  | fail) ?_ | refine xl_alloc (fun _ => ?_) | refine xl_store rfl rfl ?_ | refine xl_buildSlice rfl (fun _ => ?_)) | refine wc_ret rfl ?_)
    refine wc_cond rfl (fun hc => ?_) (fun hc => by exfalso; simp at hc; omega)
    repeat' (first | refine wc_seq ?_ | refine wc_region ?_ | refine wl_nil ?_ | refine wn_seq ?_ | refine wn_blk ?_ | refine wc_skip ?_ | refine wc_block ?_ | refine wc_exit rfl ?_ | (show WL _ _ (_ :: _) _ _ _ _; first | refine yl_v rfl rfl rfl ?_ | refine wl_v rfl rfl rfl (by first | (show OpV _ _ _ _ (Oper.mk _ (Op.indexAddr _ _ _) _ _ _ _) _ _; exact ov_indexAddr (i := i) (b := b) (o := o) rfl rfl rfl (by first | with_reducible exact fun _ => rfl | with_reducible exact fun h => h | exact fun _ => rfl | exact fun h => h | (intro himp; simp_all; done)) (by first | with_reducible exact fun _ => rfl | with_reducible exact fun h => h | exact fun _ => rfl | exact fun h => h | (intro himp; simp_all; done)) rfl (by first | exact (rfl : _ = some 1) | exact (rfl : _ = some 2) | exact (rfl : _ = some 3) | exact (rfl : _ = some 4) | exact (rfl : _ = some 6) | exact rfl) (fun _ => rfl) (by intro hcg; first | omega | (simp at hcg; omega))) | (show OpV _ _ _ _ (Oper.mk _ (Op.load _ _) _ _ _ _) _ _; exact ov_loadSM rfl (by first | with_reducible exact fun _ => rfl | with_reducible exact fun h => h | exact fun _ => rfl | exact fun h => h | (intro himp; simp_all; done)) rfl (by rfl) (fun _ => hMb) (fun _ => hcell2)) | fail) ?_ | refine xl_alloc (fun _ => ?_) | refine xl_store rfl rfl ?_ | refine xl_buildSlice rfl (fun _ => ?_)) | refine wc_ret rfl ?_)
    rename_i b19
    have hlen : (cellsS ((l.take i).map eqP)).length = ((l.take i).map eqP).length * 1 := cellsS_length _
    have hlt2 : (l.take i).length ≤ i := List.length_take_le _ _
    rw [List.length_map] at hlen
    refine wl_append (H0 := []) rfl own rfl rfl rfl rfl rfl rfl rfl rfl rfl rfl (List.Mem.head _) rfl rfl (by rw [List.append_nil]; exact List.Sublist.cons _ (List.sublist_cons_self _ _)) (by rw [hlen]; omega) rfl ?_
    intro v' Hs' ho'
    have ho2 : OwnS tSt 1 v' Hs' (cellsS ((l.take (i + 1)).map eqP)) := by
      have e2 : eqP (n, m) = n ++ [61] ++ m := by simp [eqP]
      rw [htk, cellsS_snoc, e2]; exact ho'
    repeat' (first | refine wc_seq ?_ | refine wc_region ?_ | refine wl_nil ?_ | refine wn_seq ?_ | refine wn_blk ?_ | refine wc_skip ?_ | refine wc_block ?_ | refine wc_exit rfl ?_ | (show WL _ _ (_ :: _) _ _ _ _; first | refine yl_v rfl rfl rfl ?_ | refine wl_v rfl rfl rfl (by first  | fail) ?_ | refine xl_alloc (fun _ => ?_) | refine xl_store rfl rfl ?_ | refine xl_buildSlice rfl (fun _ => ?_)) | refine wc_ret rfl ?_)
    exact wn_cut ⟨i + 1, v', Hs', by omega, ho2⟩ (by show l.length - (i + 1) < l.length - i; omega) (by first | exact Sub.nil _ | (repeat (first | exact Sub.nil _ | refine Sub.cons (by first | rfl | (simp [look]; done)) ?_))) (fun _ h => by simpa using h)
  obtain rfl : i = l.length := by omega
  rw [List.take_length] at own
  have hll := line_len hsm
  have hmul : l.length * (2 * 1000000 + 3) ≤ 50 * 2000003 := Nat.mul_le_mul (by omega) (by omega)
  repeat' (first | refine wc_seq ?_ | refine wc_region ?_ | refine wl_nil ?_ | refine wn_seq ?_ | refine wn_blk ?_ | refine wc_skip ?_ | refine wc_block ?_ | refine wc_exit rfl ?_ | (show WL _ _ (_ :: _) _ _ _ _; first | refine yl_v rfl rfl rfl ?_ | refine wl_v rfl rfl rfl (by first  | fail) ?_ | refine xl_alloc (fun _ => ?_) | refine xl_store rfl rfl ?_ | refine xl_buildSlice rfl (fun _ => ?_)) | refine wc_ret rfl ?_)
  refine wc_cond rfl (fun hc => by exfalso; simp at hc) (fun hc => ?_)
  refine wc_weak (C' := St w [] (Hs ++ []) M) (Eng.Sub.refl _) (fun _ h => by simpa using h) ?_
  refine wc_publish fun hnew => ?_
  have hsl : SlS (With M Hs) v (l.map eqP) := own.slS (fun p hp => .inr hp) (by rw [List.length_map]; omega)
  repeat' (first | refine wc_seq ?_ | refine wc_region ?_ | refine wl_nil ?_ | refine wn_seq ?_ | refine wn_blk ?_ | refine wc_skip ?_ | refine wc_block ?_ | refine wc_exit rfl ?_ | (show WL _ _ (_ :: _) _ _ _ _; first | refine yl_v rfl rfl rfl ?_ | refine wl_v rfl rfl rfl (by first | ((show OpV _ _ _ _ (Oper.mk _ (Op.call ⟨.value (.func 41), _, _⟩) _ _ _ _) _ _; exact ov_call Tryd.call41 rfl (by intro himp; first | rfl | (simp_all; done)) (by rfl) (fun _ _ h k => h.ext k) (fun hcg w hw => join_ok hw.laid hsl [59, 32] (by rw [List.length_map]; omega) (by rw [line_join]; omega)))) | fail) ?_ | refine xl_alloc (fun _ => ?_) | refine xl_store rfl rfl ?_ | refine xl_buildSlice rfl (fun _ => ?_)) | refine wc_ret rfl ?_)
  exact wr_tmp rfl rfl (by rw [line_join])
theorem rline_ok (hM : Laid M w) {v : Value} {l : List Pr} (hv : SlP M v l) (hsm : Small 1000000 l) (hn : l.length ≤ 50) : Calls Tryd.prog 22 #[v] w (RetE w (str (lineP l))) := by
  obtain ⟨a, cap, b, o, cs, T, fz, rfl, h1, h2, h3, h4⟩ := hv.open
  refine calls_st (l := [.slice a l.length cap]) hM Tryd.func22 rfl rfl rfl (E0 := [(0, true, .slice a l.length cap)]) (params_cons rfl (params_nil _)) ?_
  repeat' (first | refine wc_seq ?_ | refine wc_region ?_ | refine wl_nil ?_ | refine wn_seq ?_ | refine wn_blk ?_ | refine wc_skip ?_ | refine wc_block ?_ | refine wc_exit rfl ?_ | (show WL _ _ (_ :: _) _ _ _ _; first | refine yl_v rfl rfl rfl ?_ | refine wl_v rfl rfl rfl (by first  | fail) ?_) | refine wc_ret rfl ?_)
  refine wc_loop (α := { i : Nat // i ≤ l.length }) (fun x => [(0, true, .slice a l.length cap), (3, true, str (lineP (l.take x.1))), (4, true, i64 (x.1 : Int))]) (fun _ => St w [] [] M) (fun x => l.length - x.1) ⟨0, Nat.zero_le _⟩ (by first | exact Sub.nil _ | (repeat (first | exact Sub.nil _ | refine Sub.cons (by first | rfl | (simp [look]; done)) ?_))) (fun _ h => h) ?_
  rintro ⟨i, hi⟩
  dsimp only
  have hll := line_take_len hsm hi
  have hmul : i * (2 * 1000000 + 3) ≤ 50 * 2000003 := Nat.mul_le_mul (by omega) (by omega)
  by_cases hlt : i < l.length
  · have hne : l ≠ [] := by rintro rfl; simp at hlt
    obtain ⟨rfl, hMb⟩ := h3 hne
    obtain ⟨c0, c1⟩ := h4 i hlt
    have e : l.getD i default = l[i] := by simp [hlt]
    have hml : (l.getD i default).1.length ≤ 1000000 ∧ (l.getD i default).2.length ≤ 1000000 := by rw [e]; exact hsm _ (List.getElem_mem _)
    have htk := line_take hlt
    generalize l.getD i default = x at *
    obtain ⟨n, m⟩ := x
    have e2 : eqP (n, m) = n ++ 61 :: m := rfl
    rw [e2] at htk
    dsimp only at *
    generalize lineP (l.take i) = q at *
    repeat' (first | refine wc_seq ?_ | refine wc_region ?_ | refine wl_nil ?_ | refine wn_seq ?_ | refine wn_blk ?_ | refine wc_skip ?_ | refine wc_block ?_ | refine wc_exit rfl ?_ | (show WL _ _ (_ :: _) _ _ _ _; first | refine yl_v rfl rfl rfl ?_ | refine wl_v rfl rfl rfl (by first  | fail) ?_) | refine wc_ret rfl ?_)
    refine wc_cond rfl (fun hc => ?_) (fun hc => by exfalso; simp at hc; omega)
    clear hc
    repeat' (first | refine wc_seq ?_ | refine wc_region ?_ | refine wl_nil ?_ | refine wn_seq ?_ | refine wn_blk ?_ | refine wc_skip ?_ | refine wc_block ?_ | refine wc_exit rfl ?_ | (show WL _ _ (_ :: _) _ _ _ _; first | refine yl_v rfl rfl rfl ?_ | refine wl_v rfl rfl rfl (by first  | fail) ?_) | refine wc_ret rfl ?_)
    refine wc_split (α := { r : List UInt8 // r = q ++ (if i = 0 then [] else [59, 32]) }) (fun x => [(0, true, .slice (some ⟨b, o, none⟩) l.length cap), (3, true, str x.1), (4, true, i64 (i : Int))]) (fun _ => St w [] [] M) ?_ ?_
    · refine wc_cond rfl (fun hc => ?_) (fun hc => ?_)
      · have h0 : ¬ i = 0 := by simp at hc; omega
        repeat' (first | refine wc_seq ?_ | refine wc_region ?_ | refine wl_nil ?_ | refine wn_seq ?_ | refine wn_blk ?_ | refine wc_skip ?_ | refine wc_block ?_ | refine wc_exit rfl ?_ | (show WL _ _ (_ :: _) _ _ _ _; first | refine yl_v rfl rfl rfl ?_ | refine wl_v rfl rfl rfl (by first  | fail) ?_) | refine wc_ret rfl ?_)
        exact wn_cut ⟨q ++ [59, 32], by rw [if_neg h0]⟩ trivial (by first | exact Sub.nil _ | (repeat (first | exact Sub.nil _ | refine Sub.cons (by first | rfl | (simp [look]; done)) ?_))) (fun _ h => h)
      · have h0 : i = 0 := by simp at hc; omega
        repeat' (first | refine wc_seq ?_ | refine wc_region ?_ | refine wl_nil ?_ | refine wn_seq ?_ | refine wn_blk ?_ | refine wc_skip ?_ | refine wc_block ?_ | refine wc_exit rfl ?_ | (show WL _ _ (_ :: _) _ _ _ _; first | refine yl_v rfl rfl rfl ?_ | refine wl_v rfl rfl rfl (by first  | fail) ?_) | refine wc_ret rfl ?_)
        exact wn_cut ⟨q, by rw [if_pos h0, List.append_nil]⟩ trivial (by first | exact Sub.nil _ | (repeat (first | exact Sub.nil _ | refine Sub.cons (by first | rfl | (simp [look]; done)) ?_))) (fun _ h => h)
    rintro ⟨r, hr⟩
    dsimp only
    rw [← hr] at htk
    have hrl : r.length ≤ 200000000 := by
      rw [hr, List.length_append]
      split <;> simp only [List.length_nil, List.length_cons] <;> omega
    repeat' (first | refine wc_seq ?_ | refine wc_region ?_ | refine wl_nil ?_ | refine wn_seq ?_ | refine wn_blk ?_ | refine wc_skip ?_ | refine wc_block ?_ | refine wc_exit rfl ?_ | (show WL _ _ (_ :: _) _ _ _ _; first | refine yl_v rfl rfl rfl ?_ | refine wl_v rfl rfl rfl (by first  | fail) ?_) | refine wc_ret rfl ?_)
    refine wc_draw 14 (by kernel_rfl) rfl (by kernel_rfl) (fun _ _ h k => h.ext k) ?_
    repeat' (first | (show WD _ _ (_ :: _) _ _ _ _ _ _; first | refine yd_v rfl rfl rfl rfl rfl rfl ?_ | refine wd_v rfl rfl rfl rfl rfl rfl (by first | (show OpV _ _ _ _ (Oper.mk _ (Op.indexAddr _ _ _) _ _ _ _) _ _; exact ov_indexAddr (i := i) (b := b) (o := o) rfl rfl rfl (by first | with_reducible exact fun _ => rfl | with_reducible exact fun h => h | exact fun _ => rfl | exact fun h => h | (intro himp; simp_all; done)) (by first | with_reducible exact fun _ => rfl | with_reducible exact fun h => h | exact fun _ => rfl | exact fun h => h | (intro himp; simp_all; done)) rfl (by first | exact (rfl : _ = some 1) | exact (rfl : _ = some 2) | exact (rfl : _ = some 3) | exact (rfl : _ = some 4) | exact (rfl : _ = some 6) | exact rfl) (fun _ => rfl) (by intro hcg; first | omega | (simp at hcg; omega))) | (show OpV _ _ _ _ (Oper.mk _ (Op.load _ _) _ _ _ _) _ _; first | exact ov_load1M rfl (by first | with_reducible exact fun _ => rfl | with_reducible exact fun h => h | exact fun _ => rfl | exact fun h => h | (intro himp; simp_all; done)) rfl rfl (fun _ => hMb) (fun _ => c0) | exact ov_load1M rfl (by first | with_reducible exact fun _ => rfl | with_reducible exact fun h => h | exact fun _ => rfl | exact fun h => h | (intro himp; simp_all; done)) rfl rfl (fun _ => hMb) (fun _ => c1)) | fail) ?_ | refine yd_new rfl rfl rfl rfl rfl rfl ?_ | refine wd_conv rfl rfl rfl rfl rfl rfl rfl rfl rfl rfl ?_) | (show WD _ _ _ _ _ _ _ _ _; first | refine wd_nil ?_ | refine wd_nil1 (wl_fresh (fun _ => ?_))) | (first | refine wc_seq ?_ | refine wc_region ?_ | refine wl_nil ?_ | refine wn_seq ?_ | refine wn_blk ?_ | refine wc_skip ?_ | refine wc_block ?_ | refine wc_exit rfl ?_ | (show WL _ _ (_ :: _) _ _ _ _; first | refine yl_v rfl rfl rfl ?_ | refine wl_v rfl rfl rfl (by first | (show OpV _ _ _ _ (Oper.mk _ (Op.indexAddr _ _ _) _ _ _ _) _ _; exact ov_indexAddr (i := i) (b := b) (o := o) rfl rfl rfl (by first | with_reducible exact fun _ => rfl | with_reducible exact fun h => h | exact fun _ => rfl | exact fun h => h | (intro himp; simp_all; done)) (by first | with_reducible exact fun _ => rfl | with_reducible exact fun h => h | exact fun _ => rfl | exact fun h => h | (intro himp; simp_all; done)) rfl (by first | exact (rfl : _ = some 1) | exact (rfl : _ = some 2) | exact (rfl : _ = some 3) | exact (rfl : _ = some 4) | exact (rfl : _ = some 6) | exact rfl) (fun _ => rfl) (by intro hcg; first | omega | (simp at hcg; omega))) | (show OpV _ _ _ _ (Oper.mk _ (Op.load _ _) _ _ _ _) _ _; first | exact ov_load1M rfl (by first | with_reducible exact fun _ => rfl | with_reducible exact fun h => h | exact fun _ => rfl | exact fun h => h | (intro himp; simp_all; done)) rfl rfl (fun _ => hMb) (fun _ => c0) | exact ov_load1M rfl (by first | with_reducible exact fun _ => rfl | with_reducible exact fun h => h | exact fun _ => rfl | exact fun h => h | (intro himp; simp_all; done)) rfl rfl (fun _ => hMb) (fun _ => c1)) | fail) ?_) | refine wc_ret rfl ?_))
    repeat' (first | refine wc_seq ?_ | refine wc_region ?_ | refine wl_nil ?_ | refine wn_seq ?_ | refine wn_blk ?_ | refine wc_skip ?_ | refine wc_block ?_ | refine wc_exit rfl ?_ | (show WL _ _ (_ :: _) _ _ _ _; first | refine yl_v rfl rfl rfl ?_ | refine wl_v rfl rfl rfl (by first  | fail) ?_) | refine wc_ret rfl ?_)
    exact wn_cut ⟨i + 1, by omega⟩ (by show l.length - (i + 1) < l.length - i; omega) (Eng.Sub.cons rfl (Eng.Sub.cons (by show some (true, str (r ++ n ++ [61] ++ m)) = some (true, str (lineP (l.take (i + 1)))); rw [htk]; simp) (by first | exact Sub.nil _ | (repeat (first | exact Sub.nil _ | refine Sub.cons (by first | rfl | (simp [look]; done)) ?_))))) (fun _ h => h)
  obtain rfl : i = l.length := by omega
  rw [List.take_length]
  repeat' (first | refine wc_seq ?_ | refine wc_region ?_ | refine wl_nil ?_ | refine wn_seq ?_ | refine wn_blk ?_ | refine wc_skip ?_ | refine wc_block ?_ | refine wc_exit rfl ?_ | (show WL _ _ (_ :: _) _ _ _ _; first | refine yl_v rfl rfl rfl ?_ | refine wl_v rfl rfl rfl (by first  | fail) ?_) | refine wc_ret rfl ?_)
  refine wc_cond rfl (fun hc => by exfalso; simp at hc) (fun hc => ?_)
  repeat' (first | refine wc_seq ?_ | refine wc_region ?_ | refine wl_nil ?_ | refine wn_seq ?_ | refine wn_blk ?_ | refine wc_skip ?_ | refine wc_block ?_ | refine wc_exit rfl ?_ | (show WL _ _ (_ :: _) _ _ _ _; first | refine yl_v rfl rfl rfl ?_ | refine wl_v rfl rfl rfl (by first  | fail) ?_) | refine wc_ret rfl ?_)
  exact wr_tmp rfl rfl rfl
end Go.Proofs.YtmfelfhingmmbaaDoor
/-
  The document's Sent; cookie.Set.
-/
namespace Go.Ck
open Go.Pct Go.Txt Go.Proofs.YtmfelfhingmmbaaDoor
set_option linter.unusedSimpArgs false
def ps1 (c : Ckie) : List (List UInt8) := [eqP (c.name, c.value), [80, 97, 116, 104, 61] ++ c.path]
def ps2 (c : Ckie) : List (List UInt8) := ps1 c ++ (if 0 ≤ c.age then [[77, 97, 120, 45, 65, 103, 101, 61] ++ Lib.decDigits c.age.toNat] else [])
def ps3 (c : Ckie) : List (List UInt8) := ps2 c ++ (if c.secure = true then [[83, 101, 99, 117, 114, 101]] else [])
def ps4 (c : Ckie) : List (List UInt8) := ps3 c ++ (if c.http = true then [[72, 116, 116, 112, 79, 110, 108, 121]] else [])
theorem join_one (a b : List UInt8) (l : List (List UInt8)) : Lib.join (a :: l ++ [b]) [59, 32] = Lib.join (a :: l) [59, 32] ++ 59 :: 32 :: b := by
  rw [List.cons_append, Lib.join_cons, Lib.join_cons, Lib.joinTail, Lib.joinTail]
  simp
theorem ps_join (c : Ckie) : Lib.join (ps4 c) [59, 32] = setC c := by
  obtain ⟨n, v, p, z, a, b⟩ := c
  unfold ps4 ps3 ps2 ps1 setC ageT secT hoT
  simp only
  by_cases h0 : 0 ≤ z
  · rw [if_pos h0, if_pos h0]
    cases a <;> cases b <;> simp [Lib.join_cons, Lib.joinTail, eqP, sPath, sAge, sSec, sHo]
  · rw [if_neg h0, if_neg h0]
    cases a <;> cases b <;> simp [Lib.join_cons, Lib.joinTail, eqP, sPath, sAge, sSec, sHo]
theorem ps_length (c : Ckie) : (ps1 c).length = 2 ∧ (ps2 c).length ≤ 3 ∧ (ps3 c).length ≤ 4 ∧ (ps4 c).length ≤ 5 := by
  unfold ps4 ps3 ps2 ps1
  refine ⟨rfl, ?_, ?_, ?_⟩ <;> (simp only [List.length_append]; repeat' split) <;> simp
end Go.Ck
namespace Go.Proofs.YtmfelfhingmmbaaDoor
open Go.Eng Go.Pct Go.Txt Go.Ck
open Go.Rsp (tokC tokenB)
set_option maxRecDepth 10000
set_option linter.unusedSimpArgs false
set_option linter.unusedVariables false
variable {M : Ghost} {w0 w : World} {bs : List Nat} {H : List (Nat × Obj)}
set_option maxHeartbeats 1000000 in
theorem rsent_ok (hM : Laid M w) (s : List UInt8) (hs : s.length ≤ 1000000) : Calls Tryd.prog 20 #[str s] w (RetS M w (fun M' H v => H = [] ∧ ∃ sv, v = .tuple #[sv, i64 (sentP s).2] ∧ SlP M' sv (sentP s).1)) := by
  unfold sentP
  refine calls_st (l := [str s]) hM Tryd.func20 rfl rfl rfl (E0 := [(0, true, str s)]) (params_cons rfl (params_nil _)) ?_
  repeat' (first | refine wc_seq ?_ | refine wc_region ?_ | refine wl_nil ?_ | refine wn_seq ?_ | refine wn_blk ?_ | refine wc_skip ?_ | refine wc_block ?_ | refine wc_exit rfl ?_ | (show WL _ _ (_ :: _) _ _ _ _; first | refine yl_v rfl rfl rfl ?_ | refine wl_v rfl rfl rfl (by first  | fail) ?_ | refine xl_buildSlice rfl (fun _ => ?_)) | refine wc_ret rfl ?_)
  refine wl_callS rfl Tryd.call39 rfl rfl rfl rfl (fun w hw => rcut_ok hw.laid s 59 (by omega)) ?_
  rintro v1 H1 M1 hm1 hn1 ⟨rfl, hS⟩
  have hpl := pieces_length 59 s
  have hpt := pieces_total 59 s
  generalize pieces 59 s = l at *
  obtain ⟨a, cap, b, o, cs, T, fz, rfl, h1, h2, h3, h4⟩ := hS.open
  repeat' (first | refine wc_seq ?_ | refine wc_region ?_ | refine wl_nil ?_ | refine wn_seq ?_ | refine wn_blk ?_ | refine wc_skip ?_ | refine wc_block ?_ | refine wc_exit rfl ?_ | (show WL _ _ (_ :: _) _ _ _ _; first | refine yl_v rfl rfl rfl ?_ | refine wl_v rfl rfl rfl (by first  | fail) ?_ | refine xl_buildSlice rfl (fun _ => ?_)) | refine wc_ret rfl ?_)
  refine wc_loop (α := NS l) (fun x => [(4, true, x.v), (5, true, .slice a l.length cap), (6, true, i64 (x.i : Int))]) (fun x => St w [] x.Hs M1) (fun x => l.length - x.i) ⟨0, [], .slice none 0 0, [], Nat.zero_le _, by simp, rfl, OwnS.nil⟩ (by first | exact Sub.nil _ | (repeat (first | exact Sub.nil _ | refine Sub.cons (by first | rfl | (simp [look]; done)) ?_))) (fun _ h => h) ?_
  rintro ⟨i, out, v, Hs, hi, hol, hinv, own⟩
  dsimp only
  have own0 := own
  obtain ⟨va, vcap, rfl⟩ := own.slice (k := out.length) (by decide) (cellsP_length _)
  by_cases hlt : i < l.length
  · have hne : l ≠ [] := by rintro rfl; simp at hlt
    obtain ⟨rfl, hMb⟩ := h3 hne
    have hcell := h4 i hlt
    have hxl := hpt (l.getD i default) (by have e : l.getD i default = l[i] := by simp [hlt]
                                           rw [e]; exact List.getElem_mem _)
    have hsk := sent_skip (out := out) hlt
    have hfu := sent_full (out := out) hlt
    have hba := sent_bad (out := out) hlt
    have hon := fun {p} => sent_one (out := out) (p := p) hlt
    have htl := trim1_len (l.getD i default)
    have htr := fun {w : World} (hw : Laid M1 w) => rtrim1_ok hw (l.getD i default) (by omega)
    generalize l.getD i default = x at *
    generalize trim1 x = t at *
    repeat' (first | refine wc_seq ?_ | refine wc_region ?_ | refine wl_nil ?_ | refine wn_seq ?_ | refine wn_blk ?_ | refine wc_skip ?_ | refine wc_block ?_ | refine wc_exit rfl ?_ | (show WL _ _ (_ :: _) _ _ _ _; first | refine yl_v rfl rfl rfl ?_ | refine wl_v rfl rfl rfl (by first  | fail) ?_ | refine xl_buildSlice rfl (fun _ => ?_)) | refine wc_ret rfl ?_)
    refine wc_cond rfl (fun hc => ?_) (fun hc => by exfalso; simp at hc; omega)
    clear hc
    repeat' (first | refine wc_seq ?_ | refine wc_region ?_ | refine wl_nil ?_ | refine wn_seq ?_ | refine wn_blk ?_ | refine wc_skip ?_ | refine wc_block ?_ | refine wc_exit rfl ?_ | (show WL _ _ (_ :: _) _ _ _ _; first | refine yl_v rfl rfl rfl ?_ | refine wl_v rfl rfl rfl (by first | (show OpV _ _ _ _ (Oper.mk _ (Op.indexAddr _ _ _) _ _ _ _) _ _; exact ov_indexAddr (i := i) (b := b) (o := o) rfl rfl rfl (by first | with_reducible exact fun _ => rfl | with_reducible exact fun h => h | exact fun _ => rfl | exact fun h => h | (intro himp; simp_all; done)) (by first | with_reducible exact fun _ => rfl | with_reducible exact fun h => h | exact fun _ => rfl | exact fun h => h | (intro himp; simp_all; done)) rfl (by first | exact (rfl : _ = some 1) | exact (rfl : _ = some 2) | exact (rfl : _ = some 3) | exact (rfl : _ = some 4) | exact (rfl : _ = some 6) | exact rfl) (fun _ => rfl) (by intro hcg; first | omega | (simp at hcg; omega))) | (show OpV _ _ _ _ (Oper.mk _ (Op.load _ _) _ _ _ _) _ _; exact ov_load1M rfl (by first | with_reducible exact fun _ => rfl | with_reducible exact fun h => h | exact fun _ => rfl | exact fun h => h | (intro himp; simp_all; done)) rfl rfl (fun _ => hMb) (fun _ => hcell)) | ((show OpV _ _ _ _ (Oper.mk _ (Op.call ⟨.value (.func 40), _, _⟩) _ _ _ _) _ _; exact ov_call Tryd.call40 rfl (by intro himp; first | rfl | (simp_all; done)) (by rfl) (fun _ _ h k => h.ext k) (fun hcg w hw => htr hw.laid))) | fail) ?_ | refine xl_buildSlice rfl (fun _ => ?_)) | refine wc_ret rfl ?_)
    refine wc_cond rfl (fun hc => ?_) (fun hc => ?_)
    · have ht : t = [] := by simpa using hc
      repeat' (first | refine wc_seq ?_ | refine wc_region ?_ | refine wl_nil ?_ | refine wn_seq ?_ | refine wn_blk ?_ | refine wc_skip ?_ | refine wc_block ?_ | refine wc_exit rfl ?_ | (show WL _ _ (_ :: _) _ _ _ _; first | refine yl_v rfl rfl rfl ?_ | refine wl_v rfl rfl rfl (by first  | fail) ?_ | refine xl_buildSlice rfl (fun _ => ?_)) | refine wc_ret rfl ?_)
      exact wn_cut ⟨i + 1, out, _, Hs, by omega, hol, by rw [hinv, hsk ht], own0⟩ (by show l.length - (i + 1) < l.length - i; omega) (by first | exact Sub.nil _ | (repeat (first | exact Sub.nil _ | refine Sub.cons (by first | rfl | (simp [look]; done)) ?_))) (fun _ h => h)
    have ht : ¬ t = [] := by simpa using hc
    clear hc hsk
    have hfu := hfu ht
    have hba := hba ht
    have hon := fun {p} => hon (p := p) ht
    repeat' (first | refine wc_seq ?_ | refine wc_region ?_ | refine wl_nil ?_ | refine wn_seq ?_ | refine wn_blk ?_ | refine wc_skip ?_ | refine wc_block ?_ | refine wc_exit rfl ?_ | (show WL _ _ (_ :: _) _ _ _ _; first | refine yl_v rfl rfl rfl ?_ | refine wl_v rfl rfl rfl (by first  | fail) ?_ | refine xl_buildSlice rfl (fun _ => ?_)) | refine wc_ret rfl ?_)
    refine wc_cond rfl (fun hc => ?_) (fun hc => ?_)
    · have hf : 20 ≤ out.length := by simp at hc; omega
      repeat' (first | refine wc_seq ?_ | refine wc_region ?_ | refine wl_nil ?_ | refine wn_seq ?_ | refine wn_blk ?_ | refine wc_skip ?_ | refine wc_block ?_ | refine wc_exit rfl ?_ | (show WL _ _ (_ :: _) _ _ _ _; first | refine yl_v rfl rfl rfl ?_ | refine wl_v rfl rfl rfl (by first  | fail) ?_ | refine xl_buildSlice rfl (fun _ => ?_)) | refine wc_ret rfl ?_)
      rw [hinv, hfu hf]
      exact wr_S2 (Hn := []) rfl rfl rfl (Since.refl.step hm1 hn1) (List.nil_sublist _) ⟨rfl, _, rfl, sl_nil⟩
    have hf : ¬ 20 ≤ out.length := by simp at hc; omega
    clear hc hfu
    have hba := hba hf
    have hon := fun {p} => hon (p := p) hf
    unfold ckPair at hba hon
    repeat' (first | refine wc_seq ?_ | refine wc_region ?_ | refine wl_nil ?_ | refine wn_seq ?_ | refine wn_blk ?_ | refine wc_skip ?_ | refine wc_block ?_ | refine wc_exit rfl ?_ | (show WL _ _ (_ :: _) _ _ _ _; first | refine yl_v rfl rfl rfl ?_ | refine wl_v rfl rfl rfl (by first  | fail) ?_ | refine xl_buildSlice rfl (fun _ => ?_)) | refine wc_ret rfl ?_)
    refine wc_loop (α := { k : Nat // k ≤ t.length ∧ ∀ j, j < k → t.getD j 0 ≠ 61 }) (fun x => [(4, true, .slice va out.length vcap), (5, true, .slice (some ⟨b, o, none⟩) l.length cap), (6, true, i64 (i : Int)), (7, true, str t), (8, true, i64 (x.1 : Int))]) (fun _ => St w [] Hs M1) (fun x => t.length - x.1) ⟨0, Nat.zero_le _, fun j hj => absurd hj (by omega)⟩ (by first | exact Sub.nil _ | (repeat (first | exact Sub.nil _ | refine Sub.cons (by first | rfl | (simp [look]; done)) ?_))) (fun _ h => h) ?_
    rintro ⟨k, hk, hall⟩
    dsimp only
    repeat' (first | refine wc_seq ?_ | refine wc_region ?_ | refine wl_nil ?_ | refine wn_seq ?_ | refine wn_blk ?_ | refine wc_skip ?_ | refine wc_block ?_ | refine wc_exit rfl ?_ | (show WL _ _ (_ :: _) _ _ _ _; first | refine yl_v rfl rfl rfl ?_ | refine wl_v rfl rfl rfl (by first  | fail) ?_ | refine xl_buildSlice rfl (fun _ => ?_)) | refine wc_ret rfl ?_)
    refine wc_cond rfl (fun hc => ?_) (fun hc => ?_)
    · (simp only [decide_eq_true_eq, decide_eq_false_iff_not, Bool.and_eq_true, Bool.or_eq_true, Bool.and_eq_false_iff, Bool.or_eq_false_iff, Bool.not_eq_true', Bool.not_eq_false', Int.not_lt, Int.not_le] at hc)
      repeat' (first | refine wc_seq ?_ | refine wc_region ?_ | refine wl_nil ?_ | refine wn_seq ?_ | refine wn_blk ?_ | refine wc_skip ?_ | refine wc_block ?_ | refine wc_exit rfl ?_ | (show WL _ _ (_ :: _) _ _ _ _; first | refine yl_v rfl rfl rfl ?_ | refine wl_v rfl rfl rfl (by first  | fail) ?_ | refine xl_buildSlice rfl (fun _ => ?_)) | refine wc_ret rfl ?_)
      refine wn_cut ⟨k + 1, by omega, fun j hj => ?_⟩ (by show t.length - (k + 1) < t.length - k; omega) (by first | exact Sub.nil _ | (repeat (first | exact Sub.nil _ | refine Sub.cons (by first | rfl | (simp [look]; done)) ?_))) (fun _ h => h)
      by_cases e : j = k
      · subst e; exact fun h => hc.2 ((getD_cast _ 61).2 h)
      · exact hall j (by omega)
    have hkk : k = t.length ∨ t.getD k 0 = 61 := by
      rcases Nat.lt_or_ge k t.length with h' | h'
      · right
        rw [decide_eq_true (show (k : Int) < (t.length : Int) by omega), Bool.true_and] at hc
        simp only [Bool.not_eq_false', decide_eq_true_eq] at hc
        exact (getD_cast _ 61).1 hc
      · left; omega
    clear hc
    have hid := idx_eq hk hall hkk
    rw [hid] at hba hon
    clear hall hkk
    repeat' (first | refine wc_seq ?_ | refine wc_region ?_ | refine wl_nil ?_ | refine wn_seq ?_ | refine wn_blk ?_ | refine wc_skip ?_ | refine wc_block ?_ | refine wc_exit rfl ?_ | (show WL _ _ (_ :: _) _ _ _ _; first | refine yl_v rfl rfl rfl ?_ | refine wl_v rfl rfl rfl (by first  | fail) ?_ | refine xl_buildSlice rfl (fun _ => ?_)) | refine wc_ret rfl ?_)
    refine wc_cond rfl (fun hc => ?_) (fun hc => ?_)
    · have hke : ¬ k < t.length := by simp at hc; omega
      rw [if_neg hke] at hba
      repeat' (first | refine wc_seq ?_ | refine wc_region ?_ | refine wl_nil ?_ | refine wn_seq ?_ | refine wn_blk ?_ | refine wc_skip ?_ | refine wc_block ?_ | refine wc_exit rfl ?_ | (show WL _ _ (_ :: _) _ _ _ _; first | refine yl_v rfl rfl rfl ?_ | refine wl_v rfl rfl rfl (by first  | fail) ?_ | refine xl_buildSlice rfl (fun _ => ?_)) | refine wc_ret rfl ?_)
      rw [hinv, hba rfl]
      exact wr_S2 (Hn := []) rfl rfl rfl (Since.refl.step hm1 hn1) (List.nil_sublist _) ⟨rfl, _, rfl, sl_nil⟩
    have hke : k < t.length := by simp at hc; omega
    rw [if_pos hke] at hba hon
    clear hc
    have hto := fun {w : World} (hw : Laid M1 w) => rtoken_ok hw (t.take k) (by rw [List.length_take]; omega)
    have hva := fun {w : World} (hw : Laid M1 w) => rvalue_ok hw (t.drop (k + 1)) (by rw [List.length_drop]; omega)
    repeat' (first | refine wc_seq ?_ | refine wc_region ?_ | refine wl_nil ?_ | refine wn_seq ?_ | refine wn_blk ?_ | refine wc_skip ?_ | refine wc_block ?_ | refine wc_exit rfl ?_ | (show WL _ _ (_ :: _) _ _ _ _; first | refine yl_v rfl rfl rfl ?_ | refine wl_v rfl rfl rfl (by first | (show OpV _ _ _ _ (Oper.mk _ (Op.slice _ _ none (some _) none) _ _ _ _) _ _; exact ov_to (j := k) rfl rfl rfl (by first | with_reducible exact fun _ => rfl | with_reducible exact fun h => h | exact fun _ => rfl | exact fun h => h | (intro himp; simp_all; done)) (by first | with_reducible exact fun _ => rfl | with_reducible exact fun h => h | exact fun _ => rfl | exact fun h => h | (intro himp; simp_all; done)) rfl (fun _ => by omega)) | (show OpV _ _ _ _ (Oper.mk _ (Op.slice _ _ (some _) none none) _ _ _ _) _ _; exact ov_from (i := k + 1) rfl rfl rfl (by first | with_reducible exact fun _ => rfl | with_reducible exact fun h => h | exact fun _ => rfl | exact fun h => h | (intro himp; simp_all; done)) (by first | with_reducible exact fun _ => rfl | with_reducible exact fun h => h | exact fun _ => rfl | exact fun h => h | (intro himp; simp_all; done)) rfl (fun _ => by omega)) | ((show OpV _ _ _ _ (Oper.mk _ (Op.call ⟨.value (.func 23), _, _⟩) _ _ _ _) _ _; exact ov_call Tryd.call23 rfl (by intro himp; first | rfl | (simp_all; done)) (by rfl) (fun _ _ h k => h.ext k) (fun hcg w hw => hto hw.laid))) | ((show OpV _ _ _ _ (Oper.mk _ (Op.call ⟨.value (.func 24), _, _⟩) _ _ _ _) _ _; exact ov_call Tryd.call24 rfl (by intro himp; first | rfl | (simp_all; done)) (by rfl) (fun _ _ h k => h.ext k) (fun hcg w hw => hva hw.laid))) | fail) ?_ | refine xl_buildSlice rfl (fun _ => ?_)) | refine wc_ret rfl ?_)
    refine wc_cond rfl (fun hc => ?_) (fun hc => ?_)
    · have hno : ¬ (tokenB (t.take k) = true ∧ valueB (t.drop (k + 1)) = true) := by rintro ⟨g1, g2⟩; simp [g1, g2] at hc
      rw [if_neg hno] at hba
      repeat' (first | refine wc_seq ?_ | refine wc_region ?_ | refine wl_nil ?_ | refine wn_seq ?_ | refine wn_blk ?_ | refine wc_skip ?_ | refine wc_block ?_ | refine wc_exit rfl ?_ | (show WL _ _ (_ :: _) _ _ _ _; first | refine yl_v rfl rfl rfl ?_ | refine wl_v rfl rfl rfl (by first  | fail) ?_ | refine xl_buildSlice rfl (fun _ => ?_)) | refine wc_ret rfl ?_)
      rw [hinv, hba rfl]
      exact wr_S2 (Hn := []) rfl rfl rfl (Since.refl.step hm1 hn1) (List.nil_sublist _) ⟨rfl, _, rfl, sl_nil⟩
    · have hyes : tokenB (t.take k) = true ∧ valueB (t.drop (k + 1)) = true := by simp at hc; exact hc
      rw [if_pos hyes] at hon
      have hon := hon rfl
      repeat' (first | refine wc_seq ?_ | refine wc_region ?_ | refine wl_nil ?_ | refine wn_seq ?_ | refine wn_blk ?_ | refine wc_skip ?_ | refine wc_block ?_ | refine wc_exit rfl ?_ | (show WL _ _ (_ :: _) _ _ _ _; first | refine yl_v rfl rfl rfl ?_ | refine wl_v rfl rfl rfl (by first  | fail) ?_ | refine xl_buildSlice rfl (fun _ => ?_)) | refine wc_ret rfl ?_)
      refine wc_draw 10 (by kernel_rfl) rfl (by kernel_rfl) (fun _ _ h k => h.ext k) ?_
      repeat' (first | (show WD _ _ (_ :: _) _ _ _ _ _ _; first | refine yd_v rfl rfl rfl rfl rfl rfl ?_ | refine wd_v rfl rfl rfl rfl rfl rfl (by first | (show OpV _ _ _ _ (Oper.mk _ (Op.slice _ _ none (some _) none) _ _ _ _) _ _; exact ov_to (j := k) rfl rfl rfl (by first | with_reducible exact fun _ => rfl | with_reducible exact fun h => h | exact fun _ => rfl | exact fun h => h | (intro himp; simp_all; done)) (by first | with_reducible exact fun _ => rfl | with_reducible exact fun h => h | exact fun _ => rfl | exact fun h => h | (intro himp; simp_all; done)) rfl (fun _ => by omega)) | (show OpV _ _ _ _ (Oper.mk _ (Op.slice _ _ (some _) none none) _ _ _ _) _ _; exact ov_from (i := k + 1) rfl rfl rfl (by first | with_reducible exact fun _ => rfl | with_reducible exact fun h => h | exact fun _ => rfl | exact fun h => h | (intro himp; simp_all; done)) (by first | with_reducible exact fun _ => rfl | with_reducible exact fun h => h | exact fun _ => rfl | exact fun h => h | (intro himp; simp_all; done)) rfl (fun _ => by omega)) | fail) ?_ | refine yd_new rfl rfl rfl rfl rfl rfl ?_ | refine wd_conv rfl rfl rfl rfl rfl rfl rfl rfl rfl rfl ?_) | (show WD _ _ _ _ _ _ _ _ _; first | refine wd_nil ?_ | refine wd_nil1 (wl_fresh (fun _ => ?_))) | (first | refine wc_seq ?_ | refine wc_region ?_ | refine wl_nil ?_ | refine wn_seq ?_ | refine wn_blk ?_ | refine wc_skip ?_ | refine wc_block ?_ | refine wc_exit rfl ?_ | (show WL _ _ (_ :: _) _ _ _ _; first | refine yl_v rfl rfl rfl ?_ | refine wl_v rfl rfl rfl (by first | (show OpV _ _ _ _ (Oper.mk _ (Op.slice _ _ none (some _) none) _ _ _ _) _ _; exact ov_to (j := k) rfl rfl rfl (by first | with_reducible exact fun _ => rfl | with_reducible exact fun h => h | exact fun _ => rfl | exact fun h => h | (intro himp; simp_all; done)) (by first | with_reducible exact fun _ => rfl | with_reducible exact fun h => h | exact fun _ => rfl | exact fun h => h | (intro himp; simp_all; done)) rfl (fun _ => by omega)) | (show OpV _ _ _ _ (Oper.mk _ (Op.slice _ _ (some _) none none) _ _ _ _) _ _; exact ov_from (i := k + 1) rfl rfl rfl (by first | with_reducible exact fun _ => rfl | with_reducible exact fun h => h | exact fun _ => rfl | exact fun h => h | (intro himp; simp_all; done)) (by first | with_reducible exact fun _ => rfl | with_reducible exact fun h => h | exact fun _ => rfl | exact fun h => h | (intro himp; simp_all; done)) rfl (fun _ => by omega)) | fail) ?_ | refine xl_buildSlice rfl (fun _ => ?_)) | refine wc_ret rfl ?_))
      refine wl_append (H0 := []) rfl own0 rfl rfl rfl rfl rfl rfl rfl rfl rfl rfl (List.Mem.head _) rfl rfl (by rw [List.append_nil]; exact List.sublist_cons_self _ _) (by rw [cellsP_length]; omega) rfl ?_
      intro v' Hs' ho'
      have ho2 : OwnS tPr 2 v' Hs' (cellsP (out ++ [(t.take k, t.drop (k + 1))])) := by rw [cellsP_append]; exact ho'
      repeat' (first | refine wc_seq ?_ | refine wc_region ?_ | refine wl_nil ?_ | refine wn_seq ?_ | refine wn_blk ?_ | refine wc_skip ?_ | refine wc_block ?_ | refine wc_exit rfl ?_ | (show WL _ _ (_ :: _) _ _ _ _; first | refine yl_v rfl rfl rfl ?_ | refine wl_v rfl rfl rfl (by first  | fail) ?_ | refine xl_buildSlice rfl (fun _ => ?_)) | refine wc_ret rfl ?_)
      exact wn_cut ⟨i + 1, out ++ [(t.take k, t.drop (k + 1))], v', Hs', by omega, by rw [List.length_append]; simp; omega, by rw [hinv, hon], ho2⟩ (by show l.length - (i + 1) < l.length - i; omega) (by first | exact Sub.nil _ | (repeat (first | exact Sub.nil _ | refine Sub.cons (by first | rfl | (simp [look]; done)) ?_))) (fun _ h => by simpa using h)
  obtain rfl : i = l.length := by omega
  rw [List.drop_length, sentGo] at hinv
  rw [hinv]
  repeat' (first | refine wc_seq ?_ | refine wc_region ?_ | refine wl_nil ?_ | refine wn_seq ?_ | refine wn_blk ?_ | refine wc_skip ?_ | refine wc_block ?_ | refine wc_exit rfl ?_ | (show WL _ _ (_ :: _) _ _ _ _; first | refine yl_v rfl rfl rfl ?_ | refine wl_v rfl rfl rfl (by first  | fail) ?_ | refine xl_buildSlice rfl (fun _ => ?_)) | refine wc_ret rfl ?_)
  refine wc_cond rfl (fun hc => by exfalso; simp at hc) (fun hc => ?_)
  repeat' (first | refine wc_seq ?_ | refine wc_region ?_ | refine wl_nil ?_ | refine wn_seq ?_ | refine wn_blk ?_ | refine wc_skip ?_ | refine wc_block ?_ | refine wc_exit rfl ?_ | (show WL _ _ (_ :: _) _ _ _ _; first | refine yl_v rfl rfl rfl ?_ | refine wl_v rfl rfl rfl (by first  | fail) ?_ | refine xl_buildSlice rfl (fun _ => ?_)) | refine wc_ret rfl ?_)
  exact wr_lay2 (Hn := Hs) rfl rfl rfl (Since.refl.step hm1 hn1) (List.Sublist.refl _) ⟨rfl, _, rfl, own0.slP (fun p hp => .inr hp) (by omega)⟩
/-- .. of a size that can be written -/
def SmW (c : Ckie) : Prop := c.name.length ≤ 100000000 ∧ c.value.length ≤ 100000000 ∧ c.path.length ≤ 100000000
theorem SmW.sm {c : Ckie} (h : SmW c) : SmC c := ⟨Nat.le_trans h.1 (by decide), Nat.le_trans h.2.1 (by decide), Nat.le_trans h.2.2 (by decide)⟩
theorem ageT_len (z : Int) (h : z ≤ 99999999) : (ageT z).length ≤ 18 := by
  unfold ageT
  split
  · have := Url.dec_five 7 z.toNat (by omega)
    rw [List.length_append]
    have e : sAge.length = 10 := rfl
    omega
  · simp
theorem set_len {c : Ckie} (h : SmW c) (hr : rightC c = true) : (setC c).length ≤ 300001000 := by
  obtain ⟨h1, h2, h3⟩ := h
  have h4 := ageT_len c.age (right_parts hr).2.2.2.2.2
  have h5 : (secT c.secure).length ≤ 8 := by cases c.secure <;> decide
  have h6 : (hoT c.http).length ≤ 10 := by cases c.http <;> decide
  have e : sPath.length = 7 := rfl
  unfold setC
  simp only [List.length_append, List.length_cons]
  omega
set_option maxHeartbeats 1000000 in
theorem cset_ok (hG : Glob M) (hM : Laid M w) (c : Ckie) (h : SmW c) : Calls Tryd.prog 26 #[.agg (ckCells c).toArray] w (RetE w (.tuple #[str (setP c).1, i64 (setP c).2])) := by
  have hri := fun {w : World} (hw : Laid M w) => cright_ok hw c h.sm
  have hck : ckCells c = [str c.name, str c.value, str c.path, i64 c.age, .bool c.secure, .bool c.http] := rfl
  have hpj := ps_join c
  have hsl := fun hr => set_len h hr
  have hps := ps_length c
  obtain ⟨g1, g2, g3⟩ := h
  unfold setP
  rw [hck] at hri ⊢
  refine calls_st (l := [.agg [str c.name, str c.value, str c.path, i64 c.age, .bool c.secure, .bool c.http].toArray]) hM Tryd.func26 rfl rfl rfl (E0 := [(0, true, .agg [str c.name, str c.value, str c.path, i64 c.age, .bool c.secure, .bool c.http].toArray)]) (params_cons rfl (params_nil _)) ?_
  repeat' (first | refine wc_seq ?_ | refine wc_region ?_ | refine wl_nil ?_ | refine wn_seq ?_ | refine wn_blk ?_ | refine wc_skip ?_ | refine wc_block ?_ | refine wc_exit rfl ?_ | (show WL _ _ (_ :: _) _ _ _ _; first | refine yl_v rfl rfl rfl ?_ | refine wl_v rfl rfl rfl (by first | ((show OpV _ _ _ _ (Oper.mk _ (Op.call ⟨.value (.func 25), _, _⟩) _ _ _ _) _ _; exact ov_call Tryd.call25 rfl (by intro himp; first | rfl | (simp_all; done)) (by rfl) (fun _ _ h k => h.ext k) (fun hcg w hw => hri hw.laid))) | fail) ?_ | refine xl_box rfl (fun _ => ?_) | refine xl_buildSlice rfl (fun _ => ?_)) | refine wc_ret rfl ?_)
  rename_i b1
  refine wc_cond rfl (fun hc => ?_) (fun hc => ?_)
  · have hno : ¬ rightC c = true := by simpa using hc
    repeat' (first | refine wc_seq ?_ | refine wc_region ?_ | refine wl_nil ?_ | refine wn_seq ?_ | refine wn_blk ?_ | refine wc_skip ?_ | refine wc_block ?_ | refine wc_exit rfl ?_ | (show WL _ _ (_ :: _) _ _ _ _; first | refine yl_v rfl rfl rfl ?_ | refine wl_v rfl rfl rfl (by first  | fail) ?_ | refine xl_box rfl (fun _ => ?_) | refine xl_buildSlice rfl (fun _ => ?_)) | refine wc_ret rfl ?_)
    rw [if_neg hno]
    exact wr_weak (fun _ h => h.drop (List.nil_sublist _)) (wr_tmp2 rfl rfl rfl rfl rfl)
  have hyes : rightC c = true := by simpa using hc
  rw [if_pos hyes]
  clear hc
  have hag := (right_parts hyes).2.2.2.2.2
  have hsl := hsl hyes
  repeat' (first | refine wc_seq ?_ | refine wc_region ?_ | refine wl_nil ?_ | refine wn_seq ?_ | refine wn_blk ?_ | refine wc_skip ?_ | refine wc_block ?_ | refine wc_exit rfl ?_ | (show WL _ _ (_ :: _) _ _ _ _; first | refine yl_v rfl rfl rfl ?_ | refine wl_v rfl rfl rfl (by first  | fail) ?_ | refine xl_box rfl (fun _ => ?_) | refine xl_buildSlice rfl (fun _ => ?_)) | refine wc_ret rfl ?_)
  rename_i b17
  have own1 : OwnS tSt 1 (.slice (some ⟨b17, 0, none⟩) 2 2) [(b17, .cells [str (c.name ++ [61] ++ c.value), str ([80, 97, 116, 104, 61] ++ c.path)].toArray tSt (0, 0))] (cellsS (ps1 c)) := by
    have e : cellsS (ps1 c) = [str (c.name ++ [61] ++ c.value), str ([80, 97, 116, 104, 61] ++ c.path)] := by simp [ps1, cellsS, eqP]
    rw [e]; exact OwnS.lit rfl (by decide)
  refine wc_split (α := { x : Value × List (Nat × Obj) // OwnS tSt 1 x.1 x.2 (cellsS (ps2 c)) }) (fun x => [(1, true, .pointer (some ⟨b1, 0, none⟩)), (4, true, x.1.1)]) (fun x => St w [] (x.1.2 ++ [(b1, .cells [str c.name, str c.value, str c.path, i64 c.age, .bool c.secure, .bool c.http].toArray 28 (0, 0))]) M) ?_ ?_
  · refine wc_cond rfl (fun hc => ?_) (fun hc => ?_)
    · have h0 : 0 ≤ c.age := by simpa using hc
      obtain ⟨n, hn⟩ : ∃ n : Nat, c.age = (n : Int) := ⟨c.age.toNat, by omega⟩
      have hit := fun {w : World} (hw : Laid M w) => itoa_ok hG hw n (by omega)
      rw [Lib.itoa_nonneg, ← hn] at hit
      have hdl := Url.dec_five 7 n (by omega)
      have e2 : ps2 c = ps1 c ++ [[77, 97, 120, 45, 65, 103, 101, 61] ++ Lib.decDigits n] := by unfold ps2; rw [if_pos h0, hn, Int.toNat_natCast]
      repeat' (first | refine wc_seq ?_ | refine wc_region ?_ | refine wl_nil ?_ | refine wn_seq ?_ | refine wn_blk ?_ | refine wc_skip ?_ | refine wc_block ?_ | refine wc_exit rfl ?_ | (show WL _ _ (_ :: _) _ _ _ _; first | refine yl_v rfl rfl rfl ?_ | refine wl_v rfl rfl rfl (by first | ((show OpV _ _ _ _ (Oper.mk _ (Op.call ⟨.value (.func 43), _, _⟩) _ _ _ _) _ _; exact ov_call Tryd.call43 rfl (by intro himp; first | rfl | (simp_all; done)) (by rfl) (fun _ _ h k => h.ext k) (fun hcg w hw => hit hw.laid))) | fail) ?_ | refine xl_box rfl (fun _ => ?_) | refine xl_buildSlice rfl (fun _ => ?_)) | refine wc_ret rfl ?_)
      refine wl_append (H0 := [(b1, .cells [str c.name, str c.value, str c.path, i64 c.age, .bool c.secure, .bool c.http].toArray 28 (0, 0))]) rfl own1 rfl rfl rfl rfl rfl rfl rfl rfl rfl rfl (List.Mem.head _) rfl rfl (List.sublist_cons_self _ _) (by rw [cellsS_length, hps.1]; decide) rfl ?_
      intro v' Hs' ho'
      repeat' (first | refine wc_seq ?_ | refine wc_region ?_ | refine wl_nil ?_ | refine wn_seq ?_ | refine wn_blk ?_ | refine wc_skip ?_ | refine wc_block ?_ | refine wc_exit rfl ?_ | (show WL _ _ (_ :: _) _ _ _ _; first | refine yl_v rfl rfl rfl ?_ | refine wl_v rfl rfl rfl (by first  | fail) ?_ | refine xl_box rfl (fun _ => ?_) | refine xl_buildSlice rfl (fun _ => ?_)) | refine wc_ret rfl ?_)
      exact wn_cut ⟨(v', Hs'), by rw [e2, cellsS_snoc]; exact ho'⟩ trivial (by first | exact Sub.nil _ | (repeat (first | exact Sub.nil _ | refine Sub.cons (by first | rfl | (simp [look]; done)) ?_))) (fun _ h => h)
    · have h0 : ¬ 0 ≤ c.age := by simp at hc; omega
      have e2 : ps2 c = ps1 c := by unfold ps2; rw [if_neg h0, List.append_nil]
      repeat' (first | refine wc_seq ?_ | refine wc_region ?_ | refine wl_nil ?_ | refine wn_seq ?_ | refine wn_blk ?_ | refine wc_skip ?_ | refine wc_block ?_ | refine wc_exit rfl ?_ | (show WL _ _ (_ :: _) _ _ _ _; first | refine yl_v rfl rfl rfl ?_ | refine wl_v rfl rfl rfl (by first  | fail) ?_ | refine xl_box rfl (fun _ => ?_) | refine xl_buildSlice rfl (fun _ => ?_)) | refine wc_ret rfl ?_)
      exact wn_cut ⟨(.slice (some ⟨b17, 0, none⟩) 2 2, [(b17, .cells [str (c.name ++ [61] ++ c.value), str ([80, 97, 116, 104, 61] ++ c.path)].toArray tSt (0, 0))]), by rw [e2]; exact own1⟩ trivial (by first | exact Sub.nil _ | (repeat (first | exact Sub.nil _ | refine Sub.cons (by first | rfl | (simp [look]; done)) ?_))) (fun _ h => by simpa using h)
  rintro ⟨⟨v2, H2⟩, own2⟩
  dsimp only at own2 ⊢
  repeat' (first | refine wc_seq ?_ | refine wc_region ?_ | refine wl_nil ?_ | refine wn_seq ?_ | refine wn_blk ?_ | refine wc_skip ?_ | refine wc_block ?_ | refine wc_exit rfl ?_ | (show WL _ _ (_ :: _) _ _ _ _; first | refine yl_v rfl rfl rfl ?_ | refine wl_v rfl rfl rfl (by first | (show OpV _ _ _ _ (Oper.mk _ (Op.load _ _) _ _ _ _) _ _; exact ov_load1 (v := .bool c.secure) rfl (by first | with_reducible exact fun _ => rfl | with_reducible exact fun h => h | exact fun _ => rfl | exact fun h => h | (intro himp; simp_all; done)) rfl rfl (List.mem_append_right _ (List.Mem.head _)) rfl) | fail) ?_ | refine xl_box rfl (fun _ => ?_) | refine xl_buildSlice rfl (fun _ => ?_)) | refine wc_ret rfl ?_)
  refine wc_split (α := { x : Value × List (Nat × Obj) // OwnS tSt 1 x.1 x.2 (cellsS (ps3 c)) }) (fun x => [(1, true, .pointer (some ⟨b1, 0, none⟩)), (4, true, x.1.1)]) (fun x => St w [] (x.1.2 ++ [(b1, .cells [str c.name, str c.value, str c.path, i64 c.age, .bool c.secure, .bool c.http].toArray 28 (0, 0))]) M) ?_ ?_
  · refine wc_cond rfl (fun hc => ?_) (fun hc => ?_)
    · have e3 : ps3 c = ps2 c ++ [[83, 101, 99, 117, 114, 101]] := by unfold ps3; rw [if_pos hc]
      repeat' (first | refine wc_seq ?_ | refine wc_region ?_ | refine wl_nil ?_ | refine wn_seq ?_ | refine wn_blk ?_ | refine wc_skip ?_ | refine wc_block ?_ | refine wc_exit rfl ?_ | (show WL _ _ (_ :: _) _ _ _ _; first | refine yl_v rfl rfl rfl ?_ | refine wl_v rfl rfl rfl (by first  | fail) ?_ | refine xl_box rfl (fun _ => ?_) | refine xl_buildSlice rfl (fun _ => ?_)) | refine wc_ret rfl ?_)
      refine wl_append (H0 := [(b1, .cells [str c.name, str c.value, str c.path, i64 c.age, .bool c.secure, .bool c.http].toArray 28 (0, 0))]) rfl own2 rfl rfl rfl rfl rfl rfl rfl rfl rfl rfl (List.Mem.head _) rfl rfl (List.sublist_cons_self _ _) (by rw [cellsS_length]; omega) rfl ?_
      intro v' Hs' ho'
      repeat' (first | refine wc_seq ?_ | refine wc_region ?_ | refine wl_nil ?_ | refine wn_seq ?_ | refine wn_blk ?_ | refine wc_skip ?_ | refine wc_block ?_ | refine wc_exit rfl ?_ | (show WL _ _ (_ :: _) _ _ _ _; first | refine yl_v rfl rfl rfl ?_ | refine wl_v rfl rfl rfl (by first  | fail) ?_ | refine xl_box rfl (fun _ => ?_) | refine xl_buildSlice rfl (fun _ => ?_)) | refine wc_ret rfl ?_)
      exact wn_cut ⟨(v', Hs'), by rw [e3, cellsS_snoc]; exact ho'⟩ trivial (by first | exact Sub.nil _ | (repeat (first | exact Sub.nil _ | refine Sub.cons (by first | rfl | (simp [look]; done)) ?_))) (fun _ h => h)
    · have e3 : ps3 c = ps2 c := by unfold ps3; rw [if_neg (by rw [hc]; decide), List.append_nil]
      repeat' (first | refine wc_seq ?_ | refine wc_region ?_ | refine wl_nil ?_ | refine wn_seq ?_ | refine wn_blk ?_ | refine wc_skip ?_ | refine wc_block ?_ | refine wc_exit rfl ?_ | (show WL _ _ (_ :: _) _ _ _ _; first | refine yl_v rfl rfl rfl ?_ | refine wl_v rfl rfl rfl (by first  | fail) ?_ | refine xl_box rfl (fun _ => ?_) | refine xl_buildSlice rfl (fun _ => ?_)) | refine wc_ret rfl ?_)
      exact wn_cut ⟨(v2, H2), by rw [e3]; exact own2⟩ trivial (by first | exact Sub.nil _ | (repeat (first | exact Sub.nil _ | refine Sub.cons (by first | rfl | (simp [look]; done)) ?_))) (fun _ h => h)
  rintro ⟨⟨v3, H3⟩, own3⟩
  dsimp only at own3 ⊢
  repeat' (first | refine wc_seq ?_ | refine wc_region ?_ | refine wl_nil ?_ | refine wn_seq ?_ | refine wn_blk ?_ | refine wc_skip ?_ | refine wc_block ?_ | refine wc_exit rfl ?_ | (show WL _ _ (_ :: _) _ _ _ _; first | refine yl_v rfl rfl rfl ?_ | refine wl_v rfl rfl rfl (by first | (show OpV _ _ _ _ (Oper.mk _ (Op.load _ _) _ _ _ _) _ _; exact ov_load1 (v := .bool c.http) rfl (by first | with_reducible exact fun _ => rfl | with_reducible exact fun h => h | exact fun _ => rfl | exact fun h => h | (intro himp; simp_all; done)) rfl rfl (List.mem_append_right _ (List.Mem.head _)) rfl) | fail) ?_ | refine xl_box rfl (fun _ => ?_) | refine xl_buildSlice rfl (fun _ => ?_)) | refine wc_ret rfl ?_)
  refine wc_split (α := { x : Value × List (Nat × Obj) // OwnS tSt 1 x.1 x.2 (cellsS (ps4 c)) }) (fun x => [(1, true, .pointer (some ⟨b1, 0, none⟩)), (4, true, x.1.1)]) (fun x => St w [] (x.1.2 ++ [(b1, .cells [str c.name, str c.value, str c.path, i64 c.age, .bool c.secure, .bool c.http].toArray 28 (0, 0))]) M) ?_ ?_
  · refine wc_cond rfl (fun hc => ?_) (fun hc => ?_)
    · have e3 : ps4 c = ps3 c ++ [[72, 116, 116, 112, 79, 110, 108, 121]] := by unfold ps4; rw [if_pos hc]
      repeat' (first | refine wc_seq ?_ | refine wc_region ?_ | refine wl_nil ?_ | refine wn_seq ?_ | refine wn_blk ?_ | refine wc_skip ?_ | refine wc_block ?_ | refine wc_exit rfl ?_ | (show WL _ _ (_ :: _) _ _ _ _; first | refine yl_v rfl rfl rfl ?_ | refine wl_v rfl rfl rfl (by first  | fail) ?_ | refine xl_box rfl (fun _ => ?_) | refine xl_buildSlice rfl (fun _ => ?_)) | refine wc_ret rfl ?_)
      refine wl_append (H0 := [(b1, .cells [str c.name, str c.value, str c.path, i64 c.age, .bool c.secure, .bool c.http].toArray 28 (0, 0))]) rfl own3 rfl rfl rfl rfl rfl rfl rfl rfl rfl rfl (List.Mem.head _) rfl rfl (List.sublist_cons_self _ _) (by rw [cellsS_length]; omega) rfl ?_
      intro v' Hs' ho'
      repeat' (first | refine wc_seq ?_ | refine wc_region ?_ | refine wl_nil ?_ | refine wn_seq ?_ | refine wn_blk ?_ | refine wc_skip ?_ | refine wc_block ?_ | refine wc_exit rfl ?_ | (show WL _ _ (_ :: _) _ _ _ _; first | refine yl_v rfl rfl rfl ?_ | refine wl_v rfl rfl rfl (by first  | fail) ?_ | refine xl_box rfl (fun _ => ?_) | refine xl_buildSlice rfl (fun _ => ?_)) | refine wc_ret rfl ?_)
      exact wn_cut ⟨(v', Hs'), by rw [e3, cellsS_snoc]; exact ho'⟩ trivial (by first | exact Sub.nil _ | (repeat (first | exact Sub.nil _ | refine Sub.cons (by first | rfl | (simp [look]; done)) ?_))) (fun _ h => h)
    · have e3 : ps4 c = ps3 c := by unfold ps4; rw [if_neg (by rw [hc]; decide), List.append_nil]
      repeat' (first | refine wc_seq ?_ | refine wc_region ?_ | refine wl_nil ?_ | refine wn_seq ?_ | refine wn_blk ?_ | refine wc_skip ?_ | refine wc_block ?_ | refine wc_exit rfl ?_ | (show WL _ _ (_ :: _) _ _ _ _; first | refine yl_v rfl rfl rfl ?_ | refine wl_v rfl rfl rfl (by first  | fail) ?_ | refine xl_box rfl (fun _ => ?_) | refine xl_buildSlice rfl (fun _ => ?_)) | refine wc_ret rfl ?_)
      exact wn_cut ⟨(v3, H3), by rw [e3]; exact own3⟩ trivial (by first | exact Sub.nil _ | (repeat (first | exact Sub.nil _ | refine Sub.cons (by first | rfl | (simp [look]; done)) ?_))) (fun _ h => h)
  rintro ⟨⟨v4, H4⟩, own4⟩
  dsimp only at own4 ⊢
  refine wc_publish fun hnew => ?_
  have hss : SlS (With M H4) v4 (ps4 c) := own4.slS (fun p hp => .inr hp) (by omega)
  have hjo := fun {w : World} (hw : Laid (With M H4) w) => join_ok hw hss [59, 32] (by omega) (by rw [hpj]; omega)
  rw [hpj] at hjo
  repeat' (first | refine wc_seq ?_ | refine wc_region ?_ | refine wl_nil ?_ | refine wn_seq ?_ | refine wn_blk ?_ | refine wc_skip ?_ | refine wc_block ?_ | refine wc_exit rfl ?_ | (show WL _ _ (_ :: _) _ _ _ _; first | refine yl_v rfl rfl rfl ?_ | refine wl_v rfl rfl rfl (by first | ((show OpV _ _ _ _ (Oper.mk _ (Op.call ⟨.value (.func 41), _, _⟩) _ _ _ _) _ _; exact ov_call Tryd.call41 rfl (by intro himp; first | rfl | (simp_all; done)) (by rfl) (fun _ _ h k => h.ext k) (fun hcg w hw => hjo hw.laid))) | fail) ?_ | refine xl_box rfl (fun _ => ?_) | refine xl_buildSlice rfl (fun _ => ?_)) | refine wc_ret rfl ?_)
  exact wr_weak (fun _ h => h.drop (List.nil_sublist _)) (wr_tmp2 rfl rfl rfl rfl rfl)
end Go.Proofs.YtmfelfhingmmbaaDoor
