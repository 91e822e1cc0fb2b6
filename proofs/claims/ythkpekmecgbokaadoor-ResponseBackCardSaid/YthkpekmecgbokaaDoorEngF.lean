/-
  More rules of the engine: slices that are laid and read cell by cell, results that are kept in cells, a new block behind a drawn region. Nothing of the program stands here.
-/
import Derived.Test.YthkpekmecgbokaaDoorEngE
namespace Go.Eng
open Go.RowKit

/-- A laid slice, opened: the row's place is known where there is an element. -/
theorem Sl.open {M : Ghost} {α : Type} {m : Nat} {R : α → List Value → Prop} {v : Value} {l : List α} (h : Sl M m R v l) :
    ∃ a cap b o cs T fz, v = .slice a l.length cap ∧ l.length ≤ cap ∧ l.length ≤ 9223372036854775807 ∧ (l ≠ [] → a = some ⟨b, o, none⟩ ∧ M b (.cells cs T fz)) ∧ ∀ i (h : i < l.length), ∃ vs, vs.length = m ∧ R l[i] vs ∧ ∀ j, j < m → cs[o + i * m + j]? = vs[j]? := by
  obtain ⟨a, cap, h1, h2, h3, h4⟩ := h
  by_cases hl : l = []
  · subst hl
    exact ⟨a, cap, 0, 0, #[], 0, (0, 0), h1, h2, h3, fun h => absurd rfl h, fun i hi => absurd hi (by simp)⟩
  · obtain ⟨b, o, cs, T, fz, h5, h6, h7⟩ := h4 hl
    exact ⟨a, cap, b, o, cs, T, fz, h1, h2, h3, fun _ => ⟨h5, h6⟩, h7⟩
/-- a slice of texts -/
def SlS (M : Ghost) (v : Value) (l : List (List UInt8)) : Prop := Sl M 1 (fun s vs => vs = [str s]) v l
theorem SlS.open {M : Ghost} {v : Value} {l : List (List UInt8)} (h : SlS M v l) :
    ∃ a cap b o cs T fz, v = .slice a l.length cap ∧ l.length ≤ cap ∧ l.length ≤ 9223372036854775807 ∧ (l ≠ [] → a = some ⟨b, o, none⟩ ∧ M b (.cells cs T fz)) ∧ ∀ i, i < l.length → cs[o + i * 1]? = some (str (l.getD i default)) := by
  obtain ⟨a, cap, b, o, cs, T, fz, h1, h2, h3, h4, h5⟩ := Sl.open h
  refine ⟨a, cap, b, o, cs, T, fz, h1, h2, h3, h4, fun i hi => ?_⟩
  obtain ⟨vs, _, rfl, h6⟩ := h5 i hi
  have := h6 0 (by omega)
  simpa [hi] using this
/-- a slice of pairs of texts -/
def SlP (M : Ghost) (v : Value) (l : List (List UInt8 × List UInt8)) : Prop := Sl M 2 (fun p vs => vs = [str p.1, str p.2]) v l
theorem SlP.open {M : Ghost} {v : Value} {l : List (List UInt8 × List UInt8)} (h : SlP M v l) :
    ∃ a cap b o cs T fz, v = .slice a l.length cap ∧ l.length ≤ cap ∧ l.length ≤ 9223372036854775807 ∧ (l ≠ [] → a = some ⟨b, o, none⟩ ∧ M b (.cells cs T fz)) ∧ ∀ i, i < l.length → cs[o + i * 2]? = some (str (l.getD i default).1) ∧ cs[o + i * 2 + 1]? = some (str (l.getD i default).2) := by
  obtain ⟨a, cap, b, o, cs, T, fz, h1, h2, h3, h4, h5⟩ := Sl.open h
  refine ⟨a, cap, b, o, cs, T, fz, h1, h2, h3, h4, fun i hi => ?_⟩
  obtain ⟨vs, _, rfl, h6⟩ := h5 i hi
  have h7 := h6 0 (by omega)
  have h8 := h6 1 (by omega)
  simp at h7 h8
  simp [hi, h7, h8]

section
variable {P : Program} {n : Nat} {E : Env} {k : Kont} {ops : Array Oper} {rest : List Oper} {l : List Oper} {C C' : World → Prop}
variable {w0 : World} {bs : List Nat} {H : List (Nat × Obj)} {M : Ghost}
/-- behind a drawn region: the new block has a place -/
theorem wl_fresh {d len : Nat} {o : Obj} (h : ∀ b, WL P ops l n ((d, true, .slice (some ⟨b, 0, none⟩) len len) :: E) (St w0 bs ((b, o) :: H) M) k) (v : Value) :
    WL P ops l n ((d, true, v) :: E) (fun w => St w0 bs H M w ∧ Fresh w0 bs H M len o v w) k := ⟨fun a w ha ⟨_, b, hv, hst⟩ => by
  subst hv
  exact (h b).run a w ha hst⟩
theorem wr_weak {Q : Exit → Act → World → Prop} (hC : ∀ w, C w → C' w) (h : WR n E C' Q) : WR n E C Q := ⟨fun a w ha hw => h.run a w ha (hC w hw)⟩
theorem Sub.refl (E : Env) : Sub E E := fun _ _ _ h => h
/-- an owned result that is not written any more: laid -/
theorem wr_lay {M0 : Ghost} {fn : Func} {t : Nat} {v' : Value} {Hn : List (Nat × Obj)} {R : Ghost → List (Nat × Obj) → Value → Prop} (hr : fn.results = #[.tmp t]) (ht : look E t = some (true, v')) (hs : Since w0 M0 M) (hH : List.Sublist Hn H) (hR : R (With M Hn) [] v') : WR n E (St w0 [] H M) (bodyPost P fn (RetS M0 w0 R)) := ⟨fun a w ha hw => by
  have := ha.reads t true v' ht
  refine bodyPost_ret (v := v') ?_ ha.defers (retS_lay (H' := []) hw hs hH hR)
  rw [results_tmp hr]
  simp [this]⟩
theorem wr_lay2 {M0 : Ghost} {fn : Func} {t u : Nat} {v' r' : Value} {Hn : List (Nat × Obj)} {R : Ghost → List (Nat × Obj) → Value → Prop} (hr : fn.results = #[.tmp t, .tmp u]) (ht : look E t = some (true, v')) (hu : look E u = some (true, r')) (hs : Since w0 M0 M) (hH : List.Sublist Hn H) (hR : R (With M Hn) [] (.tuple #[v', r'])) : WR n E (St w0 [] H M) (bodyPost P fn (RetS M0 w0 R)) := ⟨fun a w ha hw => by
  have h1 := ha.reads t true v' ht
  have h2 := ha.reads u true r' hu
  refine bodyPost_ret (v := .tuple #[v', r']) ?_ ha.defers (retS_lay (H' := []) hw hs hH hR)
  rw [results_tmp2 hr]
  simp [h1, h2]⟩
/-! owned rows of texts, of pairs -/
def cellsS (l : List (List UInt8)) : List Value := l.map str
def cellsP (l : List (List UInt8 × List UInt8)) : List Value := l.flatMap fun p => [str p.1, str p.2]
theorem cellsS_length (l : List (List UInt8)) : (cellsS l).length = l.length * 1 := by simp [cellsS]
theorem cellsP_length (l : List (List UInt8 × List UInt8)) : (cellsP l).length = l.length * 2 := by
  induction l with
  | nil => rfl
  | cons p l ih => simp only [cellsP, List.flatMap_cons, List.length_append, List.length_cons, List.length_nil] at *; omega
theorem cellsS_snoc (l : List (List UInt8)) (x : List UInt8) : cellsS (l ++ [x]) = cellsS l ++ [str x] := by simp [cellsS]
theorem cellsP_snoc (l : List (List UInt8 × List UInt8)) (p : List UInt8 × List UInt8) : cellsP (l ++ [p]) = cellsP l ++ [str p.1, str p.2] := by simp [cellsP]
theorem cellsP_append (l m : List (List UInt8 × List UInt8)) : cellsP (l ++ m) = cellsP l ++ cellsP m := by simp [cellsP]
theorem cellsP_at : ∀ (l : List (List UInt8 × List UInt8)) (i : Nat) (h : i < l.length), ((cellsP l).drop (i * 2)).take 2 = [str l[i].1, str l[i].2]
  | p :: l, 0, _ => rfl
  | p :: l, i + 1, h => by
    have := cellsP_at l i (by simpa using h)
    rw [show (i + 1) * 2 = i * 2 + 2 from by omega]
    simpa [cellsP] using this
theorem cellsP_plain (l : List (List UInt8 × List UInt8)) : (cellsP l).all plainV = true := by
  induction l with
  | nil => rfl
  | cons p l ih => simp [cellsP, plainV]
theorem OwnS.slice {e : TypeId} {m : Nat} {v : Value} {Hs : List (Nat × Obj)} {xs : List Value} {k : Nat} (h : OwnS e m v Hs xs) (hm : 0 < m) (hl : xs.length = k * m) : ∃ a cap, v = .slice a k cap := by
  rcases h with ⟨rfl, rfl, rfl⟩ | ⟨b, len, cap, cur, rfl, rfl, h1, _⟩
  · have : k * m = 0 := by simpa using hl.symm
    have : k = 0 := by rcases Nat.mul_eq_zero.1 this with h | h <;> omega
    subst this; exact ⟨_, _, rfl⟩
  · have : len = k := Nat.eq_of_mul_eq_mul_right hm (by omega)
    subst this; exact ⟨_, _, rfl⟩
theorem OwnS.slS {e : TypeId} {v : Value} {Hs : List (Nat × Obj)} {l : List (List UInt8)} (h : OwnS e 1 v Hs (cellsS l)) (hM : ∀ p ∈ Hs, M p.1 p.2) (hb : l.length ≤ 9223372036854775807) : SlS M v l :=
  h.sl (by decide) hM (cellsS_length l) hb (fun i hi => by
    simp only [cellsS, Nat.mul_one, ← List.map_drop, ← List.map_take]
    rw [List.drop_eq_getElem_cons hi]; rfl)
theorem OwnS.slP {e : TypeId} {v : Value} {Hs : List (Nat × Obj)} {l : List (List UInt8 × List UInt8)} (h : OwnS e 2 v Hs (cellsP l)) (hM : ∀ p ∈ Hs, M p.1 p.2) (hb : l.length ≤ 9223372036854775807) : SlP M v l :=
  h.sl (by decide) hM (cellsP_length l) hb (fun i hi => cellsP_at l i hi)
/-- results: a struct in a cell, a value -/
theorem wr_cellS {fn : Func} {t u b : Nat} {tid : TypeId} {fs : Array Field} {l : List Value} {T : TypeId} {fz : Nat × Nat} {r r' : Value} {v : Value} (hr : fn.results = #[.cell t tid, .tmp u]) (ht : look E t = some (true, .pointer (some ⟨b, 0, none⟩))) (hu : look E u = some (true, r'))
    (hty : P.underlying tid = some (.struct fs)) (hm : (b, Obj.cells l.toArray T fz) ∈ H) (hs : (P.info? tid).map (·.size) = some l.length) (hv : .agg l.toArray = v) (hv2 : r' = r) : WR n E (St w0 [] H M) (bodyPost P fn (RetE w0 (.tuple #[v, r]))) := ⟨fun a w ha hw => by
  refine bodyPost_ret (v := .tuple #[v, r]) ?_ ha.defers ⟨rfl, hw.keep⟩
  have h1 := ha.reads t true _ ht
  have h2 := ha.reads u true _ hu
  subst hv hv2
  simp [results, hr, h1, h2, asAddr, loadVar, isAgg_struct hty, run_sizeOf hs, run_loadCells (o := 0) (hw.get hm) l (by simp)]⟩
end
end Go.Eng
