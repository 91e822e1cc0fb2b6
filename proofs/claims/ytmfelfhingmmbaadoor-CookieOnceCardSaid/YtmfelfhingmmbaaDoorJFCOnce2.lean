/-
  Texts of a proof, joined: EngF, EngG, EngH, EngN, BytA, RspA, Tr1, CkS, Shelf, Glob, Prs, Str, Jn, CkA, EngO.
-/
import Derived.MapKept
import Derived.WideMake
import Derived.Test.YtmfelfhingmmbaaDoorProg
import Derived.Lib.SlTrimSet
import Derived.Lib.AtoiTie
import Derived.Shelf.Strings.Builder1
import Derived.Shelf.Strings.Builder2
import Derived.Shelf.Strings.OnBuilder
import Derived.Shelf.Strings.Trim
import Derived.Shelf.Small.Utf8
import Derived.Shelf.Small.Strs
import Derived.Shelf.Strings.BuilderF
import Derived.Shelf.Strings.BuilderK
import Derived.Shelf.Utf8.RuneCount
import Derived.Shelf.Strings.Builder2Cap
import Derived.Shelf.Strconv.Atoi
import Derived.Shelf.Strconv.Itoa0
import Derived.Shelf.Strconv.Itoa1
import Derived.Shelf.LaysM
import Derived.Shelf.Strconv.Itoa2
import Derived.Shelf.Strconv.Itoa3
import Derived.Shelf.Strconv.AtoiErrFast
import Derived.Shelf.Strconv.ParseIntEmpty
import Derived.Shelf.Strconv.AtoiFail
import Derived.Shelf.Strconv.Clone
import Derived.Shelf.Strconv.SyntaxError
import Derived.Shelf.LaysC
import Derived.Shelf.Strconv.ToError
import Derived.Shelf.Strconv.AtoiErr
import Derived.Shelf.Strconv.Lower
import Derived.Shelf.Strconv.ParseUint10
import Derived.Shelf.Strconv.ParseUint10Empty
import Derived.Shelf.Strconv.ParseUint10Any
import Derived.Shelf.Strconv.ParseInt10
import Derived.Shelf.Strconv.AtoiLong
import Derived.Shelf.Strconv.AtoiInnerAll
import Derived.Shelf.Strconv.RangeError
import Derived.Shelf.Strconv.ToErrorRange
import Derived.Shelf.Strconv.AtoiAll
import Derived.Shelf.Strconv.ErrVarAll
import Derived.Shelf.Strings.Search1
import Derived.Shelf.Strings.Search2
import Derived.Shelf.Strings.Search3
import Derived.Shelf.Strings.Cut
import Derived.Shelf.Strings.Count
import Derived.Shelf.Strings.Shaped
import Derived.Shelf.Strings.Prefix
import Derived.Shelf.Strings.Split
import Derived.Shelf.Strings.SplitShaped
import Derived.Shelf.Unicode.Decode
import Derived.Shelf.Strings.Runes
import Derived.Shelf.Strings.RuneCount
import Derived.Shelf.Strings.AsciiSet
import Derived.Shelf.Strings.Explode
import Derived.Shelf.Unicode.DecodeSlow
import Derived.Shelf.Unicode.DecodeAny
import Derived.Shelf.Unicode.DecodeLast
import Derived.Shelf.Strings.BuilderCap
import Derived.Lib.LaidTab
import Derived.Lib.ItoaNum
import Derived.Sort.Grow
import Derived.Lib.AtoiErrMem
import Derived.Shelf.Strings.SlTrimAscii
import Derived.Lib.ConvBytes
import Derived.Laws.AppendOwn
import Derived.Test.YtmfelfhingmmbaaDoorJFCOnce1
/-
  More rules of the engine: slices that are laid and read cell by cell, results that are kept in cells, a new block behind a drawn region. Nothing of the program stands here.
-/
namespace Go.Eng
open Go.RowKit

/-- A laid slice, opened: the row's place is known where there is an element. -/
theorem Sl.open {M : Ghost} {α : Type} {m : Nat} {R : α → List Value → Prop} {v : Value} {l : List α} (h : Sl M m R v l) :
    ∃ a cap b o cs T fz, v = .slice a l.length cap ∧ l.length ≤ cap ∧ l.length ≤ 9223372036854775807 ∧ (l ≠ [] → a = some ⟨b, o, none⟩ ∧ M b (.cells cs T fz)) ∧ ∀ i (h : i < l.length), ∃ vs, vs.length = m ∧ R l[i] vs ∧ ∀ j, j < m → cs[o + i * m + j]? = vs[j]? := by
  obtain ⟨a, cap, h1, h2, h3, h4⟩ := h
  by_cases hl : l = []
  · subst hl
    exact ⟨a, cap, 0, 0, #[], 0, (0, 0), h1, h2, h3, fun h => absurd rfl h, fun i hi => absurd hi (by simp)⟩
  · obtain ⟨b, o, cs, T, fz, h5, h6, h7⟩ := h4 hl
    exact ⟨a, cap, b, o, cs, T, fz, h1, h2, h3, fun _ => ⟨h5, h6⟩, h7⟩
/-- a slice of texts -/
def SlS (M : Ghost) (v : Value) (l : List (List UInt8)) : Prop := Sl M 1 (fun s vs => vs = [str s]) v l
theorem SlS.open {M : Ghost} {v : Value} {l : List (List UInt8)} (h : SlS M v l) :
    ∃ a cap b o cs T fz, v = .slice a l.length cap ∧ l.length ≤ cap ∧ l.length ≤ 9223372036854775807 ∧ (l ≠ [] → a = some ⟨b, o, none⟩ ∧ M b (.cells cs T fz)) ∧ ∀ i, i < l.length → cs[o + i * 1]? = some (str (l.getD i default)) := by
  obtain ⟨a, cap, b, o, cs, T, fz, h1, h2, h3, h4, h5⟩ := Sl.open h
  refine ⟨a, cap, b, o, cs, T, fz, h1, h2, h3, h4, fun i hi => ?_⟩
  obtain ⟨vs, _, rfl, h6⟩ := h5 i hi
  have := h6 0 (by omega)
  simpa [hi] using this
/-- a slice of pairs of texts -/
def SlP (M : Ghost) (v : Value) (l : List (List UInt8 × List UInt8)) : Prop := Sl M 2 (fun p vs => vs = [str p.1, str p.2]) v l
theorem SlP.open {M : Ghost} {v : Value} {l : List (List UInt8 × List UInt8)} (h : SlP M v l) :
    ∃ a cap b o cs T fz, v = .slice a l.length cap ∧ l.length ≤ cap ∧ l.length ≤ 9223372036854775807 ∧ (l ≠ [] → a = some ⟨b, o, none⟩ ∧ M b (.cells cs T fz)) ∧ ∀ i, i < l.length → cs[o + i * 2]? = some (str (l.getD i default).1) ∧ cs[o + i * 2 + 1]? = some (str (l.getD i default).2) := by
  obtain ⟨a, cap, b, o, cs, T, fz, h1, h2, h3, h4, h5⟩ := Sl.open h
  refine ⟨a, cap, b, o, cs, T, fz, h1, h2, h3, h4, fun i hi => ?_⟩
  obtain ⟨vs, _, rfl, h6⟩ := h5 i hi
  have h7 := h6 0 (by omega)
  have h8 := h6 1 (by omega)
  simp at h7 h8
  simp [hi, h7, h8]

section
variable {P : Program} {n : Nat} {E : Env} {k : Kont} {ops : Array Oper} {rest : List Oper} {l : List Oper} {C C' : World → Prop}
variable {w0 : World} {bs : List Nat} {H : List (Nat × Obj)} {M : Ghost}
/-- behind a drawn region: the new block has a place -/
theorem wl_fresh {d len : Nat} {o : Obj} (h : ∀ b, WL P ops l n ((d, true, .slice (some ⟨b, 0, none⟩) len len) :: E) (St w0 bs ((b, o) :: H) M) k) (v : Value) :
    WL P ops l n ((d, true, v) :: E) (fun w => St w0 bs H M w ∧ Fresh w0 bs H M len o v w) k := ⟨fun a w ha ⟨_, b, hv, hst⟩ => by
  subst hv
  exact (h b).run a w ha hst⟩
theorem wr_weak {Q : Exit → Act → World → Prop} (hC : ∀ w, C w → C' w) (h : WR n E C' Q) : WR n E C Q := ⟨fun a w ha hw => h.run a w ha (hC w hw)⟩
theorem Sub.refl (E : Env) : Sub E E := fun _ _ _ h => h
/-- an owned result that is not written any more: laid -/
theorem wr_lay {M0 : Ghost} {fn : Func} {t : Nat} {v' : Value} {Hn : List (Nat × Obj)} {R : Ghost → List (Nat × Obj) → Value → Prop} (hr : fn.results = #[.tmp t]) (ht : look E t = some (true, v')) (hs : Since w0 M0 M) (hH : List.Sublist Hn H) (hR : R (With M Hn) [] v') : WR n E (St w0 [] H M) (bodyPost P fn (RetS M0 w0 R)) := ⟨fun a w ha hw => by
  have := ha.reads t true v' ht
  refine bodyPost_ret (v := v') ?_ ha.defers (retS_lay (H' := []) hw hs hH hR)
  rw [results_tmp hr]
  simp [this]⟩
theorem wr_lay2 {M0 : Ghost} {fn : Func} {t u : Nat} {v' r' : Value} {Hn : List (Nat × Obj)} {R : Ghost → List (Nat × Obj) → Value → Prop} (hr : fn.results = #[.tmp t, .tmp u]) (ht : look E t = some (true, v')) (hu : look E u = some (true, r')) (hs : Since w0 M0 M) (hH : List.Sublist Hn H) (hR : R (With M Hn) [] (.tuple #[v', r'])) : WR n E (St w0 [] H M) (bodyPost P fn (RetS M0 w0 R)) := ⟨fun a w ha hw => by
  have h1 := ha.reads t true v' ht
  have h2 := ha.reads u true r' hu
  refine bodyPost_ret (v := .tuple #[v', r']) ?_ ha.defers (retS_lay (H' := []) hw hs hH hR)
  rw [results_tmp2 hr]
  simp [h1, h2]⟩
/-! owned rows of texts, of pairs -/
def cellsS (l : List (List UInt8)) : List Value := l.map str
def cellsP (l : List (List UInt8 × List UInt8)) : List Value := l.flatMap fun p => [str p.1, str p.2]
theorem cellsS_length (l : List (List UInt8)) : (cellsS l).length = l.length * 1 := by simp [cellsS]
theorem cellsP_length (l : List (List UInt8 × List UInt8)) : (cellsP l).length = l.length * 2 := by
  induction l with
  | nil => rfl
  | cons p l ih => simp only [cellsP, List.flatMap_cons, List.length_append, List.length_cons, List.length_nil] at *; omega
theorem cellsS_snoc (l : List (List UInt8)) (x : List UInt8) : cellsS (l ++ [x]) = cellsS l ++ [str x] := by simp [cellsS]
theorem cellsP_snoc (l : List (List UInt8 × List UInt8)) (p : List UInt8 × List UInt8) : cellsP (l ++ [p]) = cellsP l ++ [str p.1, str p.2] := by simp [cellsP]
theorem cellsP_append (l m : List (List UInt8 × List UInt8)) : cellsP (l ++ m) = cellsP l ++ cellsP m := by simp [cellsP]
theorem cellsP_at : ∀ (l : List (List UInt8 × List UInt8)) (i : Nat) (h : i < l.length), ((cellsP l).drop (i * 2)).take 2 = [str l[i].1, str l[i].2]
  | p :: l, 0, _ => rfl
  | p :: l, i + 1, h => by
    have := cellsP_at l i (by simpa using h)
    rw [show (i + 1) * 2 = i * 2 + 2 from by omega]
    simpa [cellsP] using this
theorem cellsP_plain (l : List (List UInt8 × List UInt8)) : (cellsP l).all plainV = true := by
  induction l with
  | nil => rfl
  | cons p l ih => simp [cellsP, plainV]
theorem OwnS.slice {e : TypeId} {m : Nat} {v : Value} {Hs : List (Nat × Obj)} {xs : List Value} {k : Nat} (h : OwnS e m v Hs xs) (hm : 0 < m) (hl : xs.length = k * m) : ∃ a cap, v = .slice a k cap := by
  rcases h with ⟨rfl, rfl, rfl⟩ | ⟨b, len, cap, cur, rfl, rfl, h1, _⟩
  · have : k * m = 0 := by simpa using hl.symm
    have : k = 0 := by rcases Nat.mul_eq_zero.1 this with h | h <;> omega
    subst this; exact ⟨_, _, rfl⟩
  · have : len = k := Nat.eq_of_mul_eq_mul_right hm (by omega)
    subst this; exact ⟨_, _, rfl⟩
theorem OwnS.slS {e : TypeId} {v : Value} {Hs : List (Nat × Obj)} {l : List (List UInt8)} (h : OwnS e 1 v Hs (cellsS l)) (hM : ∀ p ∈ Hs, M p.1 p.2) (hb : l.length ≤ 9223372036854775807) : SlS M v l :=
  h.sl (by decide) hM (cellsS_length l) hb (fun i hi => by
    simp only [cellsS, Nat.mul_one, ← List.map_drop, ← List.map_take]
    rw [List.drop_eq_getElem_cons hi]; rfl)
theorem OwnS.slP {e : TypeId} {v : Value} {Hs : List (Nat × Obj)} {l : List (List UInt8 × List UInt8)} (h : OwnS e 2 v Hs (cellsP l)) (hM : ∀ p ∈ Hs, M p.1 p.2) (hb : l.length ≤ 9223372036854775807) : SlP M v l :=
  h.sl (by decide) hM (cellsP_length l) hb (fun i hi => cellsP_at l i hi)
/-- results: a struct in a cell, a value -/
theorem wr_cellS {fn : Func} {t u b : Nat} {tid : TypeId} {fs : Array Field} {l : List Value} {T : TypeId} {fz : Nat × Nat} {r r' : Value} {v : Value} (hr : fn.results = #[.cell t tid, .tmp u]) (ht : look E t = some (true, .pointer (some ⟨b, 0, none⟩))) (hu : look E u = some (true, r'))
    (hty : P.underlying tid = some (.struct fs)) (hm : (b, Obj.cells l.toArray T fz) ∈ H) (hs : (P.info? tid).map (·.size) = some l.length) (hv : .agg l.toArray = v) (hv2 : r' = r) : WR n E (St w0 [] H M) (bodyPost P fn (RetE w0 (.tuple #[v, r]))) := ⟨fun a w ha hw => by
  refine bodyPost_ret (v := .tuple #[v, r]) ?_ ha.defers ⟨rfl, hw.keep⟩
  have h1 := ha.reads t true _ ht
  have h2 := ha.reads u true _ hu
  subst hv hv2
  simp [results, hr, h1, h2, asAddr, loadVar, isAgg_struct hty, run_sizeOf hs, run_loadCells (o := 0) (hw.get hm) l (by simp)]⟩
end
end Go.Eng
/-
  More rules of the engine: maps with keys of one cell, slices of slices, an append that has no room, results in cells, a drawn region that makes one row out of another. Nothing of the program stands here.
-/
namespace Go.Eng
open Go.RowKit
set_option linter.unusedVariables false
section
variable {P : Program} {n : Nat} {E : Env} {k : Kont} {ops : Array Oper} {rest : List Oper} {cg : Bool}
variable {dst : Option Tmp} {ty : TypeId} {pos : String} {af : Array Edge} {g : Option (Nat × Bool)}
variable {w0 : World} {bs : List Nat} {H : List (Nat × Obj)} {M : Ghost} {C : World → Prop}
variable {x y z : Operand} {cx cy : Bool} {tx tyy : TypeId}

/-- an operation that does not run: whatever it would yield -/
theorem ov_off {o : Oper} {v : Value} (h : cg = false) : OpV P n E C o cg v := ⟨fun h2 => by rw [h] at h2; cases h2⟩

/-- what is owned, in another order -/
theorem St.perm {H' : List (Nat × Obj)} {w : World} (h : St w0 bs H M w) (hp : H'.Perm H) : St w0 bs H' M w :=
  ⟨h.keep, fun p hm => h.own p (hp.subset hm), fun p hm => h.new p (hp.subset hm), (hp.map _).nodup_iff.2 h.nodup, h.laid, fun b o hm p hm' => h.apart b o hm p (hp.subset hm')⟩

/-! ### maps -/
theorem wl_makeMap {T : TypeId} {d : Nat} (hg : gd ops E g = some true) (hd : Nat.blt d n = true)
    (h : ∀ b, WL P ops rest n ((d, true, .map (some b)) :: E) (St w0 bs ((b, .map ([] : List MapEntry).toArray 0) :: H) M) k) :
    WL P ops (⟨some d, .makeMap T none, ty, pos, af, g⟩ :: rest) n E (St w0 bs H M) k := by
  have hd : d < n := by simpa [Nat.blt_eq] using hd
  refine wl_op hg fun a w ha hw => ?_
  unfold Oper.wp
  have : (execOp a.eval ⟨some d, .makeMap T none, ty, pos, af, g⟩).run P w = .ok (.value (.map (some w.heap.size))) { w with heap := w.heap.push (.map #[] 0) } := by
    simp only [execOp, Option.map_none, run_makeMap_plain, Sem.run_bind, Result.andThen_ok, Sem.run_pure]
    rfl
  rw [this, Oper.upon_value]
  exact (h _).run _ _ (ha.put hd rfl) (hw.alloc _)
theorem wl_insert {mt kt et : TypeId} {d : TypeDesc} {b clock : Nat} {es : List MapEntry} {key v : Value} {H' : List (Nat × Obj)} (hg : gd ops E g = some true) (hx : ev E x = some (true, .map (some b))) (hy : ev E y = some (true, key)) (hz : ev E z = some (true, v))
    (ht : P.underlying mt = some (.map kt et)) (hk : P.underlying kt = some d) (hkey : MapKept.IsKey d key) (hu : Upd H b (.map es.toArray clock) (.map (es ++ [MapEntry.mk key v clock]).toArray (clock + 1)) H') (hf : Instr.findNow d key es 0 = some none)
    (h : WL P ops rest n E (St w0 bs H' M) k) : WL P ops (⟨none, .insert mt x y z, ty, pos, af, g⟩ :: rest) n E (St w0 bs H M) k := by
  refine wl_op hg fun a w ha hw => ?_
  have hb := hw.get hu.mem
  have hlt := lt_of_get hb
  unfold Oper.wp
  have : (execOp a.eval ⟨none, .insert mt x y z, ty, pos, af, g⟩).run P w = .ok .skip { w with heap := w.heap.setIfInBounds b (.map (es ++ [MapEntry.mk key v clock]).toArray (clock + 1)) } := by
    have hf' : Instr.findNow d key es.toArray.toList 0 = some none := by simpa using hf
    simp [execOp, ha.eval hx, ha.eval hy, ha.eval hz, Instr.mapUpdate, run_underlying ht, MapKept.run_getObj_map hb, MapKept.run_checkKey hk hkey, MapKept.run_findKey hk hf', MapKept.run_setObj_map _ hb]
  rw [this, Oper.upon_skip]
  refine h.run _ _ (by simpa [Act.put] using ha) (hw.upd hu ⟨rfl, rfl, rfl, by simp, fun i _ hi => ?_⟩ (by simp [hlt]))
  have : b ≠ i := fun e => hi (by simp [e])
  simp [Array.getElem?_setIfInBounds_ne this]
/-- what a look at a map yields -/
def foundV (zv : Value) : Option (Nat × Value) → Value
  | some (_, u) => u
  | none => zv
theorem ov_lookup {mt kt et : TypeId} {d : TypeDesc} {b clock : Nat} {es : List MapEntry} {key v zv : Value} {r : Option (Nat × Value)} (hx : ev E x = some (cx, .map (some b))) (hy : ev E y = some (cy, key)) (h1 : Imp cg cx) (h2 : Imp cg cy)
    (ht : P.underlying mt = some (.map kt et)) (hk : P.underlying kt = some d) (hkey : MapKept.IsKey d key) (hm : (b, Obj.map es.toArray clock) ∈ H) (hz : ∀ w, (zeroValue et).run P w = .ok zv w) (hf : Instr.findNow d key es 0 = some r) (hv : foundV zv r = v) :
    OpV P n E (St w0 bs H M) ⟨dst, .lookup mt x y false, ty, pos, af, g⟩ cg v :=
  ov_run fun h a ha w hw => by
    have hf' : Instr.findNow d key es.toArray.toList 0 = some r := by simpa using hf
    subst hv
    cases r with
    | none => simp [foundV, execOp, ha.evalc hx (h1 h), ha.evalc hy (h2 h), Instr.lookup, run_underlying ht, MapKept.run_getObj_map (hw.get hm), MapKept.run_checkKey hk hkey, MapKept.run_findKey hk hf', hz]
    | some iv => obtain ⟨i, u⟩ := iv; simp [foundV, execOp, ha.evalc hx (h1 h), ha.evalc hy (h2 h), Instr.lookup, run_underlying ht, MapKept.run_getObj_map (hw.get hm), MapKept.run_checkKey hk hkey, MapKept.run_findKey hk hf']

theorem cells2 {cs : Array Value} {o : Nat} {u v : Value} (h : cs[o]? = some u ∧ cs[o + 1]? = some v) : ∀ j, j < [u, v].length → cs[o + j]? = [u, v][j]? := by
  intro j hj
  match j, hj with
  | 0, _ => exact h.1
  | 1, _ => exact h.2

/-! ### slices of slices -/
def slc (a : Option Addr) (m l h c : Nat) : Value := .slice (if c = l then a else a.map (·.add (l * m))) (h - l) (c - l)
theorem run_bound {k1 : IntKind} {i y : Nat} {code : BoundsCode} {w : World} (h : i ≤ y) : (Instr.sliceBound (.int k1 (i : Int)) y code).run P w = .ok i w := by
  have h3 : (0 : Int) ≤ (i : Int) ∧ (i : Int) ≤ (y : Int) := by omega
  simp only [Instr.sliceBound, asIntOf, Sem.run_bind, Sem.run_pure, Result.andThen_ok]
  rw [if_pos h3]; simp
theorem slc_zero (a : Option Addr) (m h c : Nat) : slc a m 0 h c = .slice a h c := by
  unfold slc
  cases a with
  | none => simp
  | some x => simp [Addr.add]
/-- x[:h:c] -/
theorem ov_slc3 {t e : TypeId} {hi mx : Operand} {ch cm : Bool} {k1 k2 : IntKind} {a0 : Option Addr} {len cap h c m : Nat} {u v : Int} (hx : ev E x = some (cx, .slice a0 len cap)) (hh : ev E hi = some (ch, .int k1 u)) (hm : ev E mx = some (cm, .int k2 v)) (e1 : u = (h : Int)) (e2 : v = (c : Int)) (h1 : Imp cg cx) (h2 : Imp cg ch) (h3 : Imp cg cm)
    (ht : P.underlying t = some (.slice e)) (hs : (P.info? e).map (·.size) = some m) (hf : cg = true → h ≤ c ∧ c ≤ cap) : OpV P n E C ⟨dst, .slice t x none (some hi) (some mx), ty, pos, af, g⟩ cg (.slice a0 h c) :=
  slc_zero a0 m h c ▸
  ov_run fun hc a ha w _ => by
    obtain ⟨hf1, hf2⟩ := hf hc
    subst e1; subst e2
    simp only [execOp, ha.evalc hx (h1 hc), Option.map, ha.evalc hh (h2 hc), ha.evalc hm (h3 hc), Sem.run_bind, Instr.slice, Instr.sliceAt, run_underlying ht, Result.andThen_ok, Instr.sliceBounds, run_bound hf2, run_bound hf1, Sem.run_pure, run_sizeOf hs]
    rfl
/-- x[:h] -/
theorem ov_slcTo {t e : TypeId} {hi : Operand} {ch : Bool} {k1 : IntKind} {a0 : Option Addr} {len cap h m : Nat} {u : Int} (hx : ev E x = some (cx, .slice a0 len cap)) (hh : ev E hi = some (ch, .int k1 u)) (e1 : u = (h : Int)) (h1 : Imp cg cx) (h2 : Imp cg ch)
    (ht : P.underlying t = some (.slice e)) (hs : (P.info? e).map (·.size) = some m) (hf : cg = true → h ≤ cap) : OpV P n E C ⟨dst, .slice t x none (some hi) none, ty, pos, af, g⟩ cg (.slice a0 h cap) :=
  slc_zero a0 m h cap ▸
  ov_run fun hc a ha w _ => by
    have hf1 := hf hc
    subst e1
    simp only [execOp, ha.evalc hx (h1 hc), Option.map, ha.evalc hh (h2 hc), Sem.run_bind, Instr.slice, Instr.sliceAt, run_underlying ht, Result.andThen_ok, Instr.sliceBounds, run_bound hf1, Sem.run_pure, run_sizeOf hs]
    rfl
/-- x[l:] -/
theorem ov_slcFrom {t e : TypeId} {lo : Operand} {cl : Bool} {k1 : IntKind} {a0 : Option Addr} {len cap l m : Nat} {u : Int} (hx : ev E x = some (cx, .slice a0 len cap)) (hh : ev E lo = some (cl, .int k1 u)) (e1 : u = (l : Int)) (h1 : Imp cg cx) (h2 : Imp cg cl)
    (ht : P.underlying t = some (.slice e)) (hs : (P.info? e).map (·.size) = some m) (hf : cg = true → l ≤ len) : OpV P n E C ⟨dst, .slice t x (some lo) none none, ty, pos, af, g⟩ cg (slc a0 m l len cap) :=
  ov_run fun hc a ha w _ => by
    have hf1 := hf hc
    subst e1
    simp only [execOp, ha.evalc hx (h1 hc), Option.map, ha.evalc hh (h2 hc), Sem.run_bind, Instr.slice, Instr.sliceAt, run_underlying ht, Result.andThen_ok, Instr.sliceBounds, run_bound hf1, Sem.run_pure, run_sizeOf hs]
    rfl
/-- x[l:h] -/
theorem ov_slcB {t e : TypeId} {lo hi : Operand} {cl ch : Bool} {k1 k2 : IntKind} {a0 : Option Addr} {len cap l h m : Nat} {u v : Int} (hx : ev E x = some (cx, .slice a0 len cap)) (hlo : ev E lo = some (cl, .int k1 u)) (hh : ev E hi = some (ch, .int k2 v)) (e1 : u = (l : Int)) (e2 : v = (h : Int)) (h1 : Imp cg cx) (h2 : Imp cg cl) (h3 : Imp cg ch)
    (ht : P.underlying t = some (.slice e)) (hs : (P.info? e).map (·.size) = some m) (hf : cg = true → l ≤ h ∧ h ≤ cap) : OpV P n E C ⟨dst, .slice t x (some lo) (some hi) none, ty, pos, af, g⟩ cg (slc a0 m l h cap) :=
  ov_run fun hc a ha w _ => by
    obtain ⟨hf1, hf2⟩ := hf hc
    subst e1; subst e2
    simp only [execOp, ha.evalc hx (h1 hc), Option.map, ha.evalc hlo (h2 hc), ha.evalc hh (h3 hc), Sem.run_bind, Instr.slice, Instr.sliceAt, run_underlying ht, Result.andThen_ok, Instr.sliceBounds, run_bound hf2, run_bound hf1, Sem.run_pure, run_sizeOf hs]
    rfl
/-- a slice's part holds the list's part -/
theorem Sl.slc {α : Type} {m : Nat} {R : α → List Value → Prop} {a : Option Addr} {l : List α} {len cap i j c : Nat} (h : Sl M m R (.slice a len cap) l) (hij : i ≤ j) (hj : j ≤ l.length) (hc : j ≤ c) (hc2 : c ≤ cap) : Sl M m R (Eng.slc a m i j c) ((l.drop i).take (j - i)) := by
  obtain ⟨a', cap', e, h2, h3, h4⟩ := h
  simp only [Value.slice.injEq] at e
  obtain ⟨rfl, rfl, rfl⟩ := e
  have hlen : ((l.drop i).take (j - i)).length = j - i := by simp; omega
  refine ⟨_, _, by rw [hlen]; rfl, by rw [hlen]; omega, by rw [hlen]; omega, fun hne => ?_⟩
  have hpos : i < j := by
    have : 0 < ((l.drop i).take (j - i)).length := List.length_pos_iff.2 hne
    omega
  obtain ⟨b, o, cs, T, fz, rfl, h5, h6⟩ := h4 (by intro e; subst e; simp at hj; omega)
  refine ⟨b, o + i * m, cs, T, fz, ?_, h5, fun q hq => ?_⟩
  · rw [if_neg (by omega)]; simp [add_addr]
  · rw [hlen] at hq
    obtain ⟨vs, e1, e2, e3⟩ := h6 (i + q) (by omega)
    refine ⟨vs, e1, ?_, fun r hr => ?_⟩
    · have : ((l.drop i).take (j - i))[q]'(by rw [hlen]; exact hq) = l[i + q]'(by omega) := by simp
      rw [this]; exact e2
    · rw [← e3 r hr]; congr 1; rw [Nat.add_mul]; omega
/-- the same with the value to come -/
theorem wl_sl {α : Type} {m : Nat} {R : α → List Value → Prop} {d : Nat} {v : Value} {o : Oper} {l : List α} (hg : gd ops E o.guard = some true) (ho : o.dst = some d) (hd : Nat.blt d n = true) (hv : OpV P n E C o true v) (hs : Sl M m R v l)
    (h : ∀ u, Sl M m R u l → WL P ops rest n ((d, true, u) :: E) C k) : WL P ops (o :: rest) n E C k := wl_v hg ho hd hv (h v hs)

/-! ### an append that has no room -/
/-- the row that a slice reads as, whatever its place -/
def RowAt (M : Ghost) (a : Option Addr) (xs : List Value) : Prop := xs = [] ∨ ∃ b o cs T fz, a = some ⟨b, o, none⟩ ∧ M b (.cells cs T fz) ∧ ∀ j u, xs[j]? = some u → cs[o + j]? = some u
theorem run_appendN {t e : TypeId} {m by' : Nat} {i : TypeInfo} {zv : Value} {H0 : List (Nat × Obj)} {a : Option Addr} {xs news : List Value} {len len2 c : Nat} {ad : Addr} {w : World} (ht : P.underlying t = some (.slice e)) (hi : P.info? e = some i) (hz : i.zero = some zv) (hsz : i.size = m) (hby : i.bytes = by') (hzs : zv.cells.size = m) (hm : 0 < m)
    (hrow : RowAt M a xs) (hxs : xs.length = len * m) (hw : St w0 bs H0 M w) (hl2 : news.length = len2 * m) (hpos : 0 < len2) (hnews : ∀ j u, news[j]? = some u → w.cell? (ad.add j) = some u) (hb1 : len + len2 ≤ 1000000000) (hb2 : by' ≤ 140000) :
    ∃ v' Hs' w', (Builtin.append_ #[t, t] ty #[.slice a len len, .slice (some ad) len2 c]).run P w = .ok v' w' ∧ OwnS e m v' Hs' (xs ++ news) ∧ St w0 bs (Hs' ++ H0) M w' ∧ Ext w w' := by
  subst hsz; subst hby
  have hh : ∀ old, old < len + len2 → OwnS e i.size (.slice (some ⟨w.heap.size, 0, none⟩) (len + len2) (grownCap w (len + len2) old e)) [(w.heap.size, .cells (xs.toArray ++ news.toArray ++ Builtin.zeroCells zv.cells (grownCap w (len + len2) old e - (len + len2))) e (0, 0))] (xs ++ news) ∧
      St w0 bs ([(w.heap.size, .cells (xs.toArray ++ news.toArray ++ Builtin.zeroCells zv.cells (grownCap w (len + len2) old e - (len + len2))) e (0, 0))] ++ H0) M (w.drew.alloc (.cells (xs.toArray ++ news.toArray ++ Builtin.zeroCells zv.cells (grownCap w (len + len2) old e - (len + len2))) e)) ∧
      Ext w (w.drew.alloc (.cells (xs.toArray ++ news.toArray ++ Builtin.zeroCells zv.cells (grownCap w (len + len2) old e - (len + len2))) e)) := by
    intro old ho
    have hge := grownCap_ge w (len + len2) old e
    have hcm : grownCap w (len + len2) old e ≤ maxLen := grownCap_le_maxLen w (len + len2) old e (by simp only [maxLen]; omega)
    have hxl : (xs ++ news).length = (len + len2) * i.size := by rw [List.length_append, hxs, hl2, Nat.add_mul]
    have h3 : St w0 bs H0 M w.drew := hw.ext (Ext.drew w 1)
    refine ⟨.inr ⟨_, _, _, _, rfl, rfl, hxl, hge, hcm, ?_, ?_⟩, h3.alloc _, ⟨rfl, rfl, rfl, by show _ ≤ (w.heap.push _).size; simp, fun b hb _ => ?_⟩⟩
    · simp only [Array.size_append, List.size_toArray, size_zeroCells, hzs, hxs, hl2, ← Nat.add_mul]
      congr 1
      omega
    · simp only [Array.toList_append, List.append_assoc]
      rw [← List.append_assoc, ← hxl]
      exact List.take_left
    · show (w.heap.push _)[b]? = w.heap[b]?
      simp only [Array.getElem?_push]; rw [if_neg (by omega)]
  cases a with
  | none =>
    have hx0 : xs = [] := by
      rcases hrow with h | ⟨_, _, _, _, _, h, _⟩
      · exact h
      · cases h
    subst hx0
    have hl0 : len = 0 := by
      have : len * i.size = 0 := by simpa using hxs.symm
      rcases Nat.mul_eq_zero.1 this with h | h
      · exact h
      · omega
    subst hl0
    have hr := run_append_nil (P := P) w t ty e i zv ht hi hz ad len2 c news hl2 hnews (by omega) (by omega) (by have := Nat.mul_le_mul hb1 hb2; rw [Nat.zero_add] at this; omega)
    have := hh 0 (by omega)
    simp only [Nat.zero_add, List.nil_append, Array.empty_append] at this hr
    exact ⟨_, _, _, hr, this.1, this.2⟩
  | some ad0 =>
    have holds : ∀ j u, xs[j]? = some u → w.cell? (ad0.add j) = some u := by
      intro j u hj
      rcases hrow with h | ⟨b, o, cs, T, fz, e1, e2, e3⟩
      · subst h; simp at hj
      · obtain rfl : ad0 = ⟨b, o, none⟩ := by simpa using e1
        rw [add_addr, cell_of (hw.laid _ _ e2)]; exact e3 j u hj
    have hr := run_append_grow (P := P) w t ty e i zv ht hi hz ad0 len len xs hxs holds ad len2 c news hl2 hnews (by omega) (by omega) (growslice_fits (by omega) (by have := Nat.mul_le_mul hb1 hb2; omega))
    have := hh len (by omega)
    exact ⟨_, _, _, hr, this.1, this.2⟩
/-- append(s, literal) where s is laid and full -/
theorem wl_appendN {s src : Operand} {t e : TypeId} {m by' d : Nat} {i : TypeInfo} {zv : Value} {a0 : Option Addr} {xs news : List Value} {b c len len2 : Nat} {T2 : TypeId} {fz : Nat × Nat} (hg : gd ops E g = some true) (hrow : RowAt M a0 xs) (hxs : xs.length = len * m) (hd : Nat.blt d n = true)
    (hx : ev E s = some (true, .slice a0 len len)) (hy : ev E src = some (true, .slice (some ⟨b, 0, none⟩) len2 c)) (ht : P.underlying t = some (.slice e)) (hi : P.info? e = some i) (hz : i.zero = some zv) (hsz : i.size = m) (hby : i.bytes = by') (hzs : zv.cells.size = m) (hm : Nat.blt 0 m = true)
    (hmem : (b, Obj.cells news.toArray T2 fz) ∈ H) (hl2 : news.length = len2 * m) (hpos : Nat.blt 0 len2 = true) (hb1 : len + len2 ≤ 1000000000) (hb2 : Nat.ble by' 140000 = true)
    (h : ∀ v' Hs', OwnS e m v' Hs' (xs ++ news) → WL P ops rest n ((d, true, v') :: E) (St w0 bs (Hs' ++ H) M) k) :
    WL P ops (⟨some d, .call ⟨.builtin .append, #[s, src], #[t, t]⟩, ty, pos, af, g⟩ :: rest) n E (St w0 bs H M) k := by
  have hd : d < n := by simpa [Nat.blt_eq] using hd
  refine wl_op hg fun a w ha hw => ?_
  obtain ⟨v', Hs', w', hr, h2, h3, _⟩ := run_appendN (ty := ty) (ad := ⟨b, 0, none⟩) (c := c) ht hi hz hsz hby hzs (by simpa [Nat.blt_eq] using hm) hrow hxs hw hl2 (by simpa [Nat.blt_eq] using hpos) (fun j u hj => by rw [add_addr, cell_of (hw.get hmem)]; simpa using hj) hb1 (Nat.le_of_ble_eq_true hb2)
  unfold Oper.wp
  rw [run_appendOp (ha.eval hx) (ha.eval hy) hr, Oper.upon_value]
  exact (h v' Hs' h2).run _ _ (ha.put hd rfl) h3

/-! ### a drawn region that makes a row out of another -/
theorem looks_of {o : Oper} {s : Nat} (h : (o.op.operands.toList.any fun x => match x with | .tmp t => Nat.beq t s | _ => false) = true) : s ∈ o.looksAt ops := by
  rw [List.any_eq_true] at h
  obtain ⟨x, hx, hb⟩ := h
  cases x with
  | tmp t =>
    have : t = s := Nat.eq_of_beq_eq_true hb
    subst this
    unfold Oper.looksAt
    exact List.mem_append_left _ (List.mem_filterMap.2 ⟨.tmp t, hx, rfl⟩)
  | _ => cases hb
/-- an owned row, told -/
def Grown (w0 : World) (bs : List Nat) (H : List (Nat × Obj)) (M : Ghost) (e : TypeId) (m : Nat) (xs : List Value) : Tell := fun v w => ∃ Hs, OwnS e m v Hs xs ∧ St w0 bs (Hs ++ H) M w
theorem steady_grown {e : TypeId} {m : Nat} {xs : List Value} : Steady (Grown w0 bs H M e m xs) := fun _ _ _ hx ⟨Hs, h1, h2⟩ => ⟨Hs, h1, h2.ext hx⟩
/-- an operation that looks at a told entry, and is told by more than a value -/
theorem wd_rel2 {d s : Nat} {U V : Tell} {o : Oper} {rest tail : List Oper} {F : REnv} (hg : o.guard = none) (ho : o.dst = some d) (hd : Nat.blt d n = true) (hs : Nat.blt s n = true) (hb : belowN n E = true) (hsel : noSel o = true) (hE : look E d = none) (hU : lookR F s = some U) (hst : Steady V)
    (hv : ∀ u, OpR P n ((s, true, u) :: E) C (U u) o V) (hlook : s ∈ o.looksAt ops) (h : WD P ops rest n E ((d, V) :: F) C tail k) : WD P ops (o :: rest) n E F C tail k := ⟨fun hdis G hG => by
  have hd : d < n := by simpa [Nat.blt_eq] using hd
  have hs : s < n := by simpa [Nat.blt_eq] using hs
  refine ⟨d, V, ho, hd, hst, ⟨fun a w hw had has hHR => ?_⟩, h.run ?_ _ ?_⟩
  · obtain ⟨u, hu, hUu⟩ := hHR s U (by rw [hG]; simp [hU]) hlook
    obtain ⟨b, hb1, hb2, hb3⟩ := turn (ops := ops) (E := (s, true, u) :: E) o had has (fun i c u' hi hm => by
      simp only [look] at hi
      by_cases e : s = i
      · subst e; simp at hi; obtain ⟨rfl, rfl⟩ := hi; exact hu
      · rw [beq_no e, cond_false] at hi
        have hFi : lookR F i = none := by
          cases hf : lookR F i with
          | none => rfl
          | some V => rw [hdis i (by simp [hf])] at hi; cases hi
        obtain ⟨u2, h1, h2⟩ := hHR i (exact1 c u') (by rw [hG]; simp [hFi, hi]) hm
        rw [h1, h2]) (noSel_spec hsel) (fun i c u' hi => by
          simp only [look] at hi
          by_cases e : s = i
          · subst e; exact hs
          · rw [beq_no e, cond_false] at hi; exact belowN_look hb i c u' hi)
    refine ⟨fun _ => ?_, fun hno => by simp [Region.wanted, hg] at hno⟩
    have := (hv u).run b hb1 w hw hUu
    have : Tells P o a w V C := by unfold Tells at *; rw [hb2] at this; exact this
    exact this.wp
  · intro q hq
    simp only [lookR] at hq
    by_cases e : d = q
    · subst e; exact hE
    · rw [beq_no e, cond_false] at hq; exact hdis q hq
  · intro q
    simp only [lookR]
    by_cases e : d = q
    · subst e; simp
    · rw [beq_no e, cond_false, cond_false]; exact hG q⟩
/-- append(s, fresh literal) where s is laid and full -/
theorem or_appendN {x : Operand} {s : Nat} {t e : TypeId} {m by' : Nat} {i : TypeInfo} {zv : Value} {a0 : Option Addr} {xs news : List Value} {len len2 : Nat} {T2 : TypeId} (hrow : RowAt M a0 xs) (hxs : xs.length = len * m)
    (hx : ∀ u, ev ((s, true, u) :: E) x = some (true, .slice a0 len len)) (ht : P.underlying t = some (.slice e)) (hi : P.info? e = some i) (hz : i.zero = some zv) (hsz : i.size = m) (hby : i.bytes = by') (hzs : zv.cells.size = m) (hm : Nat.blt 0 m = true)
    (hl2 : news.length = len2 * m) (hpos : Nat.blt 0 len2 = true) (hb1 : len + len2 ≤ 1000000000) (hb2 : Nat.ble by' 140000 = true) (u : Value) :
    OpR P n ((s, true, u) :: E) (St w0 bs H M) (Fresh w0 bs H M len2 (.cells news.toArray T2 (0, 0)) u) ⟨dst, .call ⟨.builtin .append, #[x, .tmp s], #[t, t]⟩, ty, pos, af, none⟩ (Grown w0 bs H M e m (xs ++ news)) := ⟨fun a ha w hw ⟨b, hu, hst⟩ => by
  subst hu
  have hy : a.eval (.tmp s) = .slice (some ⟨b, 0, none⟩) len2 len2 := ha.eval (by simp [ev, look])
  obtain ⟨v', Hs', w', hr, h2, h3, h4⟩ := run_appendN (ty := ty) (ad := ⟨b, 0, none⟩) (c := len2) ht hi hz hsz hby hzs (by simpa [Nat.blt_eq] using hm) hrow hxs hw hl2 (by simpa [Nat.blt_eq] using hpos) (fun j u hj => by rw [add_addr, cell_of (hst.get List.mem_cons_self)]; simpa using hj) hb1 (Nat.le_of_ble_eq_true hb2)
  unfold Tells
  rw [run_appendOp (ha.eval (hx _)) hy hr]
  exact ⟨⟨Hs', h2, h3⟩, h4, h3.drop (List.sublist_append_right _ _)⟩⟩
/-- its length -/
theorem or_lenG {s : Nat} {t e e' : TypeId} {m q : Nat} {xs : List Value} (ht : P.underlying t = some (.slice e')) (hm : Nat.blt 0 m = true) (hxs : xs.length = q * m) (u : Value) :
    OpR P n ((s, true, u) :: E) (St w0 bs H M) (Grown w0 bs H M e m xs u) ⟨dst, .call ⟨.builtin .len, #[.tmp s], #[t]⟩, ty, pos, af, none⟩ (exact1 true (i64 (q : Int))) := ⟨fun a ha w hw ⟨Hs, ho, _⟩ => by
  obtain ⟨a0, cap, rfl⟩ := ho.slice (by simpa [Nat.blt_eq] using hm) hxs
  have hy : a.eval (.tmp s) = .slice a0 q cap := ha.eval (by simp [ev, look])
  unfold Tells
  have : (execOp a.eval ⟨dst, .call ⟨.builtin .len, #[.tmp s], #[t]⟩, ty, pos, af, none⟩).run P w = .ok (.value (i64 (q : Int))) w := by
    simp [execOp, resolve, invoke, builtin, hy, Builtin.len_, run_underlying ht, goInt]
  rw [this]
  exact ⟨rfl, Keep.refl _ _, hw⟩⟩
/-- behind it: one told entry is kept -/
theorem wd_nilD {d : Nat} {V : Tell} {F : REnv} {tail : List Oper} (hF : lookR F d = some V) (h : ∀ v, WL P ops tail n ((d, true, v) :: E) (fun w => C w ∧ V v w) k) : WD P ops [] n E F C tail k := ⟨fun hdis G hG a w hw hA => by
  obtain ⟨u, hu, hU⟩ := hA.2.2 d V (by rw [hG]; simp [hF]) trivial
  refine (h u).run a w ⟨hA.1, hA.2.1, fun i c v hi => ?_⟩ ⟨hw, hU⟩
  simp only [look] at hi
  by_cases e : d = i
  · subst e; simp at hi; obtain ⟨rfl, rfl⟩ := hi; exact hu
  · rw [beq_no e, cond_false] at hi
    have hFi : lookR F i = none := by
      cases hf : lookR F i with
      | none => rfl
      | some V => rw [hdis i (by simp [hf])] at hi; cases hi
    obtain ⟨u', hu', hU'⟩ := hA.2.2 i (exact1 c v) (by rw [hG]; simp [hFi, hi]) trivial
    rw [hu', hU']⟩
theorem wl_grown {l : List Oper} {d : Nat} {e : TypeId} {m : Nat} {xs : List Value} {D : World → Prop} (h : ∀ v Hs, OwnS e m v Hs xs → WL P ops l n ((d, true, v) :: E) (St w0 bs (Hs ++ H) M) k) (v : Value) :
    WL P ops l n ((d, true, v) :: E) (fun w => D w ∧ Grown w0 bs H M e m xs v w) k := ⟨fun a w ha ⟨_, Hs, ho, hst⟩ => (h v Hs ho).run a w ha hst⟩

/-! ### calls that lay something, inside a drawn region -/
/-- what such a call leaves -/
def Got (w0 : World) (bs : List Nat) (H : List (Nat × Obj)) (M : Ghost) (R : Ghost → List (Nat × Obj) → Value → Prop) : Tell := fun v w => ∃ M', (∀ b o, M b o → M' b o) ∧ (∀ b o, M' b o → M b o ∨ w0.heap.size ≤ b) ∧ St w0 bs H M' w ∧ R M' [] v
theorem steady_got {R : Ghost → List (Nat × Obj) → Value → Prop} : Steady (Got w0 bs H M R) := fun _ _ _ hx ⟨M', h1, h2, h3, h4⟩ => ⟨M', h1, h2, h3.ext hx, h4⟩
theorem or_callS {f : FuncId} {l : List Operand} {ats : Array TypeId} {vs : List (Bool × Value)} {args : Array Value} {R : Ghost → List (Nat × Obj) → Value → Prop} (hf : ∀ args w, (callFunc f args).run P w = .ok (.enter f args) w) (hl : evg true E l = some vs) (hp : vs.all (·.1) = true) (hargs : vs.map (·.2) = args.toList)
    (h0 : ∀ M' H v, R M' H v → H = []) (hc : ∀ w, St w0 bs H M w → Calls P f args w (RetS M w R)) : OpR P n E (St w0 bs H M) (fun _ => True) ⟨dst, .call ⟨.value (.func f), l.toArray, ats⟩, ty, pos, af, g⟩ (Got w0 bs H M R) := ⟨fun a ha w hw _ => by
  unfold Tells
  rw [run_callf hf (args := args) (by rw [evg_eval ha hl (by simpa using hp), hargs])]
  refine ⟨rfl, (hc w hw).mono ?_⟩
  rintro e w' ⟨v, Hn, M', rfl, hm, hnew, hst, hR⟩
  obtain rfl := h0 _ _ _ hR
  have hx : Ext w w' := hst.keep
  have hold := hw.ext hx
  refine ⟨v, rfl, ⟨M', hm, fun b o h1 => (hnew b o h1).imp id (fun h2 => Nat.le_trans hw.keep.size h2), ⟨hold.keep, hold.own, hold.new, hold.nodup, hst.laid, fun b o hm' p hp => ?_⟩, hR⟩, hx, hold⟩
  rcases hnew b o hm' with h1 | h1
  · exact hold.apart b o h1 p hp
  · have := lt_of_get (hw.own p hp); omega⟩
/-- an operation told by more than a value, under a guard that is known to hold -/
theorem wd_newG {d : Nat} {V : Tell} {o : Oper} {rest tail : List Oper} {F : REnv} (hg : gd ops E o.guard = some cg) (hcg : cg = true) (ho : o.dst = some d) (hd : Nat.blt d n = true) (hb : belowN n E = true) (hsel : noSel o = true) (hE : look E d = none) (hst : Steady V)
    (hv : OpR P n E C (fun _ => True) o V) (h : WD P ops rest n E ((d, V) :: F) C tail k) : WD P ops (o :: rest) n E F C tail k := ⟨fun hdis G hG => by
  subst hcg
  have hd : d < n := by simpa [Nat.blt_eq] using hd
  refine ⟨d, V, ho, hd, hst, ⟨fun a w hw had has hHR => ?_⟩, h.run ?_ _ ?_⟩
  · obtain ⟨b, hb1, hb2, hb3⟩ := turn (ops := ops) (E := E) o had has (fun i c u hi hm => by
      have hFi : lookR F i = none := by
        cases hf : lookR F i with
        | none => rfl
        | some V => rw [hdis i (by simp [hf])] at hi; cases hi
      obtain ⟨u', h1, h2⟩ := hHR i (exact1 c u) (by rw [hG]; simp [hFi, hi]) hm
      rw [h1, h2]) (noSel_spec hsel) (belowN_look hb)
    have hwb := wanted_gd (ops := ops) hb1 hg
    rw [hb3] at hwb
    refine ⟨fun _ => ?_, fun hno => by rw [hwb] at hno; cases hno⟩
    have := hv.run b hb1 w hw trivial
    have : Tells P o a w V C := by unfold Tells at *; rw [hb2] at this; exact this
    exact this.wp
  · intro s hs
    simp only [lookR] at hs
    by_cases e : d = s
    · subst e; exact hE
    · rw [beq_no e, cond_false] at hs; exact hdis s hs
  · intro s
    simp only [lookR]
    by_cases e : d = s
    · subst e; simp
    · rw [beq_no e, cond_false, cond_false]; exact hG s⟩
/-- behind it: two told entries are kept -/
theorem wd_nil2 {d d' : Nat} {V V' : Tell} {F : REnv} {tail : List Oper} (hF : lookR F d = some V) (hF' : lookR F d' = some V') (h : ∀ v v', WL P ops tail n ((d, true, v) :: (d', true, v') :: E) (fun w => C w ∧ V v w ∧ V' v' w) k) : WD P ops [] n E F C tail k := ⟨fun hdis G hG a w hw hA => by
  obtain ⟨u, hu, hU⟩ := hA.2.2 d V (by rw [hG]; simp [hF]) trivial
  obtain ⟨u', hu', hU'⟩ := hA.2.2 d' V' (by rw [hG]; simp [hF']) trivial
  refine (h u u').run a w ⟨hA.1, hA.2.1, fun i c v hi => ?_⟩ ⟨hw, hU, hU'⟩
  simp only [look] at hi
  by_cases e : d = i
  · subst e; simp at hi; obtain ⟨rfl, rfl⟩ := hi; exact hu
  · rw [beq_no e, cond_false] at hi
    by_cases e' : d' = i
    · subst e'; simp at hi; obtain ⟨rfl, rfl⟩ := hi; exact hu'
    · rw [beq_no e', cond_false] at hi
      have hFi : lookR F i = none := by
        cases hf : lookR F i with
        | none => rfl
        | some V => rw [hdis i (by simp [hf])] at hi; cases hi
      obtain ⟨u2, hu2, hU2⟩ := hA.2.2 i (exact1 c v) (by rw [hG]; simp [hFi, hi]) trivial
      rw [hu2, hU2]⟩
/-- what two calls have laid -/
def Both (M1 M2 : Ghost) : Ghost := fun b o => M1 b o ∨ M2 b o
theorem St.both {M1 M2 : Ghost} {w : World} (h1 : St w0 bs H M1 w) (h2 : St w0 bs H M2 w) : St w0 bs H (Both M1 M2) w :=
  ⟨h1.keep, h1.own, h1.new, h1.nodup, fun b o h => h.elim (h1.laid b o) (h2.laid b o), fun b o h => h.elim (h1.apart b o) (h2.apart b o)⟩
theorem wl_got {l : List Oper} {d : Nat} {R : Ghost → List (Nat × Obj) → Value → Prop} {D : World → Prop} (h : ∀ v M1, (∀ b o, M b o → M1 b o) → (∀ b o, M1 b o → M b o ∨ w0.heap.size ≤ b) → R M1 [] v → WL P ops l n ((d, true, v) :: E) (St w0 bs H M1) k) (v : Value) :
    WL P ops l n ((d, true, v) :: E) (fun w => D w ∧ Got w0 bs H M R v w) k := ⟨fun a w ha ⟨_, M1, k1, k2, k3, k4⟩ => (h v M1 k1 k2 k4).run a w ha k3⟩
theorem wl_got2 {l : List Oper} {d d' : Nat} {R R' : Ghost → List (Nat × Obj) → Value → Prop} {D : World → Prop} (h : ∀ v v' M1 M2, (∀ b o, M b o → M1 b o) → (∀ b o, M b o → M2 b o) → (∀ b o, Both M1 M2 b o → M b o ∨ w0.heap.size ≤ b) → R M1 [] v → R' M2 [] v' → WL P ops l n ((d, true, v) :: (d', true, v') :: E) (St w0 bs H (Both M1 M2)) k) (v v' : Value) :
    WL P ops l n ((d, true, v) :: (d', true, v') :: E) (fun w => D w ∧ Got w0 bs H M R v w ∧ Got w0 bs H M R' v' w) k := ⟨fun a w ha ⟨_, ⟨M1, k1, k2, k3, k4⟩, ⟨M2, j1, j2, j3, j4⟩⟩ => (h v v' M1 M2 k1 j1 (fun b o hb => hb.elim (k2 b o) (j2 b o)) k4 j4).run a w ha (k3.both j3)⟩

/-! ### ends -/
theorem OwnS.block {e : TypeId} {m : Nat} {v : Value} {Hs : List (Nat × Obj)} {xs : List Value} {q : Nat} (h : OwnS e m v Hs xs) (hm : 0 < m) (hq : xs.length = q * m) (hne : 0 < q) : ∃ b cap cur, v = .slice (some ⟨b, 0, none⟩) q cap ∧ Hs = [(b, .cells cur e (0, 0))] ∧ q ≤ cap ∧ cap ≤ maxLen ∧ cur.size = cap * m ∧ cur.toList.take (q * m) = xs := by
  rcases h with ⟨rfl, rfl, rfl⟩ | ⟨b, len, cap, cur, rfl, rfl, h1, h2, h3, h4, h5⟩
  · have : q * m = 0 := by simpa using hq.symm
    rcases Nat.mul_eq_zero.1 this with h | h <;> omega
  · have : len = q := Nat.eq_of_mul_eq_mul_right hm (by omega)
    subst this
    exact ⟨b, cap, cur, rfl, rfl, h2, h3, h4, h5⟩
theorem Upd.app {H H' : List (Nat × Obj)} {b : Nat} {o o' : Obj} (Hs : List (Nat × Obj)) (h : Upd H b o o' H') : Upd (Hs ++ H) b o o' (Hs ++ H') := by
  induction Hs with
  | nil => exact h
  | cons p Hs ih => exact .there ih
/-- the cells of the result's struct -/
theorem run_cellRes {fn : Func} {t b : Nat} {tid : TypeId} {fs : Array Field} {l : List Value} {T : TypeId} {fz : Nat × Nat} {a : Act} {w : World} (hw : St w0 bs H M w) (ha : Holds n E a) (ht : look E t = some (true, .pointer (some ⟨b, 0, none⟩)))
    (hty : P.underlying tid = some (.struct fs)) (hm : (b, Obj.cells l.toArray T fz) ∈ H) (hs : (P.info? tid).map (·.size) = some l.length) (hr : fn.results = #[.cell t tid]) : (results fn a.tmps).run P w = .ok (.agg l.toArray) w := by
  have h1 := ha.reads t true _ ht
  simp [results, hr, h1, asAddr, loadVar, isAgg_struct hty, run_sizeOf hs, run_loadCells (o := 0) (hw.get hm) l (by simp)]
theorem run_cellRes2 {fn : Func} {t u b : Nat} {tid : TypeId} {fs : Array Field} {l : List Value} {T : TypeId} {fz : Nat × Nat} {r : Value} {a : Act} {w : World} (hw : St w0 bs H M w) (ha : Holds n E a) (ht : look E t = some (true, .pointer (some ⟨b, 0, none⟩))) (hu : look E u = some (true, r))
    (hty : P.underlying tid = some (.struct fs)) (hm : (b, Obj.cells l.toArray T fz) ∈ H) (hs : (P.info? tid).map (·.size) = some l.length) (hr : fn.results = #[.cell t tid, .tmp u]) : (results fn a.tmps).run P w = .ok (.tuple #[.agg l.toArray, r]) w := by
  have h1 := ha.reads t true _ ht
  have h2 := ha.reads u true _ hu
  simp [results, hr, h1, h2, asAddr, loadVar, isAgg_struct hty, run_sizeOf hs, run_loadCells (o := 0) (hw.get hm) l (by simp)]
/-- one result, a struct in a cell: exact -/
theorem wr_cell1 {fn : Func} {t b : Nat} {tid : TypeId} {fs : Array Field} {l : List Value} {T : TypeId} {fz : Nat × Nat} {v : Value} (hr : fn.results = #[.cell t tid]) (ht : look E t = some (true, .pointer (some ⟨b, 0, none⟩)))
    (hty : P.underlying tid = some (.struct fs)) (hm : (b, Obj.cells l.toArray T fz) ∈ H) (hs : (P.info? tid).map (·.size) = some l.length) (hv : .agg l.toArray = v) : WR n E (St w0 [] H M) (bodyPost P fn (RetE w0 v)) := ⟨fun a w ha hw => by
  subst hv
  exact bodyPost_ret (run_cellRes hw ha ht hty hm hs hr) ha.defers ⟨rfl, hw.keep⟩⟩
/-- one result, a struct in a cell; some of what is owned is laid for good -/
theorem wr_layC {M0 : Ghost} {fn : Func} {t b : Nat} {tid : TypeId} {fs : Array Field} {l : List Value} {T : TypeId} {fz : Nat × Nat} {Hn : List (Nat × Obj)} {R : Ghost → List (Nat × Obj) → Value → Prop} (hr : fn.results = #[.cell t tid]) (ht : look E t = some (true, .pointer (some ⟨b, 0, none⟩)))
    (hty : P.underlying tid = some (.struct fs)) (hm : (b, Obj.cells l.toArray T fz) ∈ H) (hs : (P.info? tid).map (·.size) = some l.length) (hsi : Since w0 M0 M) (hH : List.Sublist Hn H) (hR : R (With M Hn) [] (.agg l.toArray)) : WR n E (St w0 [] H M) (bodyPost P fn (RetS M0 w0 R)) := ⟨fun a w ha hw =>
  bodyPost_ret (run_cellRes hw ha ht hty hm hs hr) ha.defers (retS_lay (H' := []) hw hsi hH hR)⟩
/-- two results, the first a struct in a cell -/
theorem wr_layC2 {M0 : Ghost} {fn : Func} {t u b : Nat} {tid : TypeId} {fs : Array Field} {l : List Value} {T : TypeId} {fz : Nat × Nat} {r : Value} {Hn : List (Nat × Obj)} {R : Ghost → List (Nat × Obj) → Value → Prop} (hr : fn.results = #[.cell t tid, .tmp u]) (ht : look E t = some (true, .pointer (some ⟨b, 0, none⟩))) (hu : look E u = some (true, r))
    (hty : P.underlying tid = some (.struct fs)) (hm : (b, Obj.cells l.toArray T fz) ∈ H) (hs : (P.info? tid).map (·.size) = some l.length) (hsi : Since w0 M0 M) (hH : List.Sublist Hn H) (hR : R (With M Hn) [] (.tuple #[.agg l.toArray, r])) : WR n E (St w0 [] H M) (bodyPost P fn (RetS M0 w0 R)) := ⟨fun a w ha hw =>
  bodyPost_ret (run_cellRes2 hw ha ht hu hty hm hs hr) ha.defers (retS_lay (H' := []) hw hsi hH hR)⟩
end
end Go.Eng
/-
  The engine's rules once more: their routine premises are closed by tactics of their own, so that the texts that use them stay small. Nothing of the program stands here.
-/
namespace Go.Eng
open Go.RowKit
set_option linter.unusedVariables false
set_option linter.unusedSimpArgs false
section
variable {P : Program} {n : Nat} {E : Env} {k : Kont} {ops : Array Oper} {rest : List Oper} {cg : Bool}
variable {dst : Option Tmp} {ty : TypeId} {pos : String} {af : Array Edge} {g : Option (Nat × Bool)}
variable {w0 : World} {bs : List Nat} {H : List (Nat × Obj)} {M : Ghost} {C : World → Prop}
variable {x y z : Operand} {cx cy : Bool} {tx tyy : TypeId}

theorem xo_move {x : Operand} {c : Bool} {v : Value} (hx : ev E x = some (c, v)) (hc : Imp cg c := by first | with_reducible exact fun _ => rfl | with_reducible exact fun h => h | exact fun _ => rfl | exact fun h => h | (intro himp; simp_all; done)) : OpV P n E C ⟨dst, .move x, ty, pos, af, g⟩ cg v :=
  ov_move (hx := hx) (hc := hc)
theorem xo_assign {x : Operand} {c : Bool} {v : Value} (hx : ev E x = some (c, v)) (hc : Imp cg c := by first | with_reducible exact fun _ => rfl | with_reducible exact fun h => h | exact fun _ => rfl | exact fun h => h | (intro himp; simp_all; done)) : OpV P n E C ⟨dst, .assign x, ty, pos, af, g⟩ cg v :=
  ov_assign (hx := hx) (hc := hc)
theorem xo_extract {vs : Array Value} {i : Nat} {v : Value} (hx : ev E x = some (cx, .tuple vs)) (hi : vs[i]? = some v := by first | exact tup2_0 | exact tup2_1 | exact tup3_0 | exact tup3_1 | exact tup3_2 | rfl) (h1 : Imp cg cx := by first | with_reducible exact fun _ => rfl | with_reducible exact fun h => h | exact fun _ => rfl | exact fun h => h | (intro himp; simp_all; done)) : OpV P n E C ⟨dst, .extract x i, ty, pos, af, g⟩ cg v :=
  ov_extract (hx := hx) (hi := hi) (h1 := h1)
theorem xo_slen {s : List UInt8} {t : TypeId} (hx : ev E x = some (cx, str s)) (h1 : Imp cg cx := by first | with_reducible exact fun _ => rfl | with_reducible exact fun h => h | exact fun _ => rfl | exact fun h => h | (intro himp; simp_all; done)) (ht : P.underlying t = some .string := by rfl) : OpV P n E C ⟨dst, .call ⟨.builtin .len, #[x], #[t]⟩, ty, pos, af, g⟩ cg (i64 (s.length : Int)) :=
  ov_slen (hx := hx) (h1 := h1) (ht := ht)
theorem xo_len {t e : TypeId} {a0 : Option Addr} {len cap : Nat} (hx : ev E x = some (cx, .slice a0 len cap)) (h1 : Imp cg cx := by first | with_reducible exact fun _ => rfl | with_reducible exact fun h => h | exact fun _ => rfl | exact fun h => h | (intro himp; simp_all; done)) (ht : P.underlying t = some (.slice e) := by rfl) : OpV P n E C ⟨dst, .call ⟨.builtin .len, #[x], #[t]⟩, ty, pos, af, g⟩ cg (i64 (len : Int)) :=
  ov_len (hx := hx) (h1 := h1) (ht := ht)
theorem xo_aeql {xs ys : Array Value} {fs : Array Field} {r : Bool} (hx : ev E x = some (cx, .agg xs)) (hy : ev E y = some (cy, .agg ys)) (h1 : Imp cg cx := by first | with_reducible exact fun _ => rfl | with_reducible exact fun h => h | exact fun _ => rfl | exact fun h => h | (intro himp; simp_all; done)) (h2 : Imp cg cy := by first | with_reducible exact fun _ => rfl | with_reducible exact fun h => h | exact fun _ => rfl | exact fun h => h | (intro himp; simp_all; done)) (hm : P.eqGuardType P.depth tx = false := by kernel_rfl) (ht : P.underlying tx = some (.struct fs) := by rfl) (hst : P.stoodInHeld tx = false := by kernel_rfl) (hr : EqF P 9999 xs ys fs.toList r := by repeat (first | exact eqG_nil | apply eqG_str (by kernel_rfl) (by rfl) (by rfl) (by rfl) | apply eqG_int (by kernel_rfl) (by rfl) (by rfl) (by rfl) | apply eqG_bool (by kernel_rfl) (by rfl) (by rfl) (by rfl))) : OpV P n E C ⟨dst, .binOp .eql tx x y tyy, ty, pos, af, g⟩ cg (.bool r) :=
  ov_aeql (hx := hx) (hy := hy) (h1 := h1) (h2 := h2) (hm := hm) (ht := ht) (hst := hst) (hr := hr)
theorem xo_aneq {xs ys : Array Value} {fs : Array Field} {r : Bool} (hx : ev E x = some (cx, .agg xs)) (hy : ev E y = some (cy, .agg ys)) (h1 : Imp cg cx := by first | with_reducible exact fun _ => rfl | with_reducible exact fun h => h | exact fun _ => rfl | exact fun h => h | (intro himp; simp_all; done)) (h2 : Imp cg cy := by first | with_reducible exact fun _ => rfl | with_reducible exact fun h => h | exact fun _ => rfl | exact fun h => h | (intro himp; simp_all; done)) (hm : P.eqGuardType P.depth tx = false := by kernel_rfl) (ht : P.underlying tx = some (.struct fs) := by rfl) (hst : P.stoodInHeld tx = false := by kernel_rfl) (hr : EqF P 9999 xs ys fs.toList r := by repeat (first | exact eqG_nil | apply eqG_str (by kernel_rfl) (by rfl) (by rfl) (by rfl) | apply eqG_int (by kernel_rfl) (by rfl) (by rfl) (by rfl) | apply eqG_bool (by kernel_rfl) (by rfl) (by rfl) (by rfl))) : OpV P n E C ⟨dst, .binOp .neq tx x y tyy, ty, pos, af, g⟩ cg (.bool (!r)) :=
  ov_aneq (hx := hx) (hy := hy) (h1 := h1) (h2 := h2) (hm := hm) (ht := ht) (hst := hst) (hr := hr)
theorem xo_lss {kd : IntKind} {u : Int} {z : Int} (hx : ev E x = some (cx, .int kd u)) (hy : ev E y = some (cy, .int kd z)) (h1 : Imp cg cx := by first | with_reducible exact fun _ => rfl | with_reducible exact fun h => h | exact fun _ => rfl | exact fun h => h | (intro himp; simp_all; done)) (h2 : Imp cg cy := by first | with_reducible exact fun _ => rfl | with_reducible exact fun h => h | exact fun _ => rfl | exact fun h => h | (intro himp; simp_all; done)) : OpV P n E C ⟨dst, .binOp .lss tx x y tyy, ty, pos, af, g⟩ cg (.bool (decide (u < z))) :=
  ov_lss (hx := hx) (hy := hy) (h1 := h1) (h2 := h2)
theorem xo_leq {kd : IntKind} {u : Int} {z : Int} (hx : ev E x = some (cx, .int kd u)) (hy : ev E y = some (cy, .int kd z)) (h1 : Imp cg cx := by first | with_reducible exact fun _ => rfl | with_reducible exact fun h => h | exact fun _ => rfl | exact fun h => h | (intro himp; simp_all; done)) (h2 : Imp cg cy := by first | with_reducible exact fun _ => rfl | with_reducible exact fun h => h | exact fun _ => rfl | exact fun h => h | (intro himp; simp_all; done)) : OpV P n E C ⟨dst, .binOp .leq tx x y tyy, ty, pos, af, g⟩ cg (.bool (decide (u ≤ z))) :=
  ov_leq (hx := hx) (hy := hy) (h1 := h1) (h2 := h2)
theorem xo_gtr {kd : IntKind} {u : Int} {z : Int} (hx : ev E x = some (cx, .int kd u)) (hy : ev E y = some (cy, .int kd z)) (h1 : Imp cg cx := by first | with_reducible exact fun _ => rfl | with_reducible exact fun h => h | exact fun _ => rfl | exact fun h => h | (intro himp; simp_all; done)) (h2 : Imp cg cy := by first | with_reducible exact fun _ => rfl | with_reducible exact fun h => h | exact fun _ => rfl | exact fun h => h | (intro himp; simp_all; done)) : OpV P n E C ⟨dst, .binOp .gtr tx x y tyy, ty, pos, af, g⟩ cg (.bool (decide (z < u))) :=
  ov_gtr (hx := hx) (hy := hy) (h1 := h1) (h2 := h2)
theorem xo_geq {kd : IntKind} {u : Int} {z : Int} (hx : ev E x = some (cx, .int kd u)) (hy : ev E y = some (cy, .int kd z)) (h1 : Imp cg cx := by first | with_reducible exact fun _ => rfl | with_reducible exact fun h => h | exact fun _ => rfl | exact fun h => h | (intro himp; simp_all; done)) (h2 : Imp cg cy := by first | with_reducible exact fun _ => rfl | with_reducible exact fun h => h | exact fun _ => rfl | exact fun h => h | (intro himp; simp_all; done)) : OpV P n E C ⟨dst, .binOp .geq tx x y tyy, ty, pos, af, g⟩ cg (.bool (decide (z ≤ u))) :=
  ov_geq (hx := hx) (hy := hy) (h1 := h1) (h2 := h2)
theorem xo_add {kd : IntKind} {u : Int} {z : Int} (hx : ev E x = some (cx, .int kd u)) (hy : ev E y = some (cy, .int kd z)) (h1 : Imp cg cx := by first | with_reducible exact fun _ => rfl | with_reducible exact fun h => h | exact fun _ => rfl | exact fun h => h | (intro himp; simp_all; done)) (h2 : Imp cg cy := by first | with_reducible exact fun _ => rfl | with_reducible exact fun h => h | exact fun _ => rfl | exact fun h => h | (intro himp; simp_all; done)) (hf : cg = true → Fits kd (u + z) := by intro hcg; clear hcg; first | exact fits_i64 (by omega) (by omega) | exact fits_u8 (by omega) (by omega) | exact fits_i32 (by omega) (by omega) | exact fits_u64 (by omega) (by omega) | exact fits_u32 (by omega) (by omega)) : OpV P n E C ⟨dst, .binOp .add tx x y tyy, ty, pos, af, g⟩ cg (.int kd (u + z)) :=
  ov_add (hx := hx) (hy := hy) (h1 := h1) (h2 := h2) (hf := hf)
theorem xo_sub {kd : IntKind} {u : Int} {z : Int} (hx : ev E x = some (cx, .int kd u)) (hy : ev E y = some (cy, .int kd z)) (h1 : Imp cg cx := by first | with_reducible exact fun _ => rfl | with_reducible exact fun h => h | exact fun _ => rfl | exact fun h => h | (intro himp; simp_all; done)) (h2 : Imp cg cy := by first | with_reducible exact fun _ => rfl | with_reducible exact fun h => h | exact fun _ => rfl | exact fun h => h | (intro himp; simp_all; done)) (hf : cg = true → Fits kd (u - z) := by intro hcg; clear hcg; first | exact fits_i64 (by omega) (by omega) | exact fits_u8 (by omega) (by omega) | exact fits_i32 (by omega) (by omega) | exact fits_u64 (by omega) (by omega) | exact fits_u32 (by omega) (by omega)) : OpV P n E C ⟨dst, .binOp .sub tx x y tyy, ty, pos, af, g⟩ cg (.int kd (u - z)) :=
  ov_sub (hx := hx) (hy := hy) (h1 := h1) (h2 := h2) (hf := hf)
theorem xo_mul {kd : IntKind} {u : Int} {z : Int} (hx : ev E x = some (cx, .int kd u)) (hy : ev E y = some (cy, .int kd z)) (h1 : Imp cg cx := by first | with_reducible exact fun _ => rfl | with_reducible exact fun h => h | exact fun _ => rfl | exact fun h => h | (intro himp; simp_all; done)) (h2 : Imp cg cy := by first | with_reducible exact fun _ => rfl | with_reducible exact fun h => h | exact fun _ => rfl | exact fun h => h | (intro himp; simp_all; done)) (hf : cg = true → Fits kd (u * z) := by intro hcg; clear hcg; first | exact fits_i64 (by omega) (by omega) | exact fits_u8 (by omega) (by omega) | exact fits_i32 (by omega) (by omega) | exact fits_u64 (by omega) (by omega) | exact fits_u32 (by omega) (by omega)) : OpV P n E C ⟨dst, .binOp .mul tx x y tyy, ty, pos, af, g⟩ cg (.int kd (u * z)) :=
  ov_mul (hx := hx) (hy := hy) (h1 := h1) (h2 := h2) (hf := hf)
theorem xo_quo {kd : IntKind} {u : Int} {z : Int} (hx : ev E x = some (cx, .int kd u)) (hy : ev E y = some (cy, .int kd z)) (h1 : Imp cg cx := by first | with_reducible exact fun _ => rfl | with_reducible exact fun h => h | exact fun _ => rfl | exact fun h => h | (intro himp; simp_all; done)) (h2 : Imp cg cy := by first | with_reducible exact fun _ => rfl | with_reducible exact fun h => h | exact fun _ => rfl | exact fun h => h | (intro himp; simp_all; done)) (hf : cg = true → 0 ≤ u ∧ 0 < z ∧ Fits kd (u / z) := by intro _; exact ⟨by omega, by omega, by first | exact fits_i64 (by omega) (by omega) | exact fits_u8 (by omega) (by omega)⟩) : OpV P n E C ⟨dst, .binOp .quo tx x y tyy, ty, pos, af, g⟩ cg (.int kd (u / z)) :=
  ov_quo (hx := hx) (hy := hy) (h1 := h1) (h2 := h2) (hf := hf)
theorem xo_rem {kd : IntKind} {u : Int} {z : Int} (hx : ev E x = some (cx, .int kd u)) (hy : ev E y = some (cy, .int kd z)) (h1 : Imp cg cx := by first | with_reducible exact fun _ => rfl | with_reducible exact fun h => h | exact fun _ => rfl | exact fun h => h | (intro himp; simp_all; done)) (h2 : Imp cg cy := by first | with_reducible exact fun _ => rfl | with_reducible exact fun h => h | exact fun _ => rfl | exact fun h => h | (intro himp; simp_all; done)) (hf : cg = true → 0 ≤ u ∧ 0 < z := by intro _; exact ⟨by omega, by omega⟩) : OpV P n E C ⟨dst, .binOp .rem tx x y tyy, ty, pos, af, g⟩ cg (.int kd (u % z)) :=
  ov_rem (hx := hx) (hy := hy) (h1 := h1) (h2 := h2) (hf := hf)
theorem xo_sindex {u : Int} {s : List UInt8} {k1 : IntKind} {i : Nat} (hx : ev E x = some (cx, str s)) (hy : ev E y = some (cy, .int k1 u)) (hi : u = (i : Int) := by (fail_if_success (with_reducible show (987654321 : Int) = _)); repeat' (first | with_reducible exact nc_cast | with_reducible exact nc_lit | apply nc_add | apply nc_div | apply nc_mod | apply nc_mul | refine nc_sub (m := _) (n := _) nc_cast nc_lit (by omega) | refine nc_sub (m := _) (n := _) nc_cast nc_cast (by omega))) (h1 : Imp cg cx := by first | with_reducible exact fun _ => rfl | with_reducible exact fun h => h | exact fun _ => rfl | exact fun h => h | (intro himp; simp_all; done)) (h2 : Imp cg cy := by first | with_reducible exact fun _ => rfl | with_reducible exact fun h => h | exact fun _ => rfl | exact fun h => h | (intro himp; simp_all; done)) (ht : P.underlying tx = some .string := by rfl) (hf : cg = true → i < s.length := by intro hcg; first | omega | (simp at hcg; omega)) : OpV P n E C ⟨dst, .index tx x y, ty, pos, af, g⟩ cg (byt (s.getD i 0)) :=
  ov_sindex (hx := hx) (hy := hy) (hi := hi) (h1 := h1) (h2 := h2) (ht := ht) (hf := hf)
theorem xo_slice {u : Int} {z : Int} {s : List UInt8} {lo hi : Operand} {cl ch : Bool} {k1 k2 : IntKind} {i j : Nat} (hx : ev E x = some (cx, str s)) (hl : ev E lo = some (cl, .int k1 u)) (hh : ev E hi = some (ch, .int k2 z)) (hi1 : u = (i : Int) := by (fail_if_success (with_reducible show (987654321 : Int) = _)); repeat' (first | with_reducible exact nc_cast | with_reducible exact nc_lit | apply nc_add | apply nc_div | apply nc_mod | apply nc_mul | refine nc_sub (m := _) (n := _) nc_cast nc_lit (by omega) | refine nc_sub (m := _) (n := _) nc_cast nc_cast (by omega))) (hi2 : z = (j : Int) := by (fail_if_success (with_reducible show (987654321 : Int) = _)); repeat' (first | with_reducible exact nc_cast | with_reducible exact nc_lit | apply nc_add | apply nc_div | apply nc_mod | apply nc_mul | refine nc_sub (m := _) (n := _) nc_cast nc_lit (by omega) | refine nc_sub (m := _) (n := _) nc_cast nc_cast (by omega))) (h1 : Imp cg cx := by first | with_reducible exact fun _ => rfl | with_reducible exact fun h => h | exact fun _ => rfl | exact fun h => h | (intro himp; simp_all; done)) (h2 : Imp cg cl := by first | with_reducible exact fun _ => rfl | with_reducible exact fun h => h | exact fun _ => rfl | exact fun h => h | (intro himp; simp_all; done)) (h3 : Imp cg ch := by first | with_reducible exact fun _ => rfl | with_reducible exact fun h => h | exact fun _ => rfl | exact fun h => h | (intro himp; simp_all; done)) (ht : P.underlying tx = some .string := by rfl) (hf : cg = true → i ≤ j ∧ j ≤ s.length := by intro hcg; first | omega | (simp at hcg; omega)) : OpV P n E C ⟨dst, .slice tx x (some lo) (some hi) none, ty, pos, af, g⟩ cg (str ((s.drop i).take (j - i))) :=
  ov_slice (hx := hx) (hl := hl) (hh := hh) (hi1 := hi1) (hi2 := hi2) (h1 := h1) (h2 := h2) (h3 := h3) (ht := ht) (hf := hf)
theorem xo_from {u : Int} {s : List UInt8} {lo : Operand} {cl : Bool} {k1 : IntKind} {i : Nat} (hx : ev E x = some (cx, str s)) (hl : ev E lo = some (cl, .int k1 u)) (hi1 : u = (i : Int) := by (fail_if_success (with_reducible show (987654321 : Int) = _)); repeat' (first | with_reducible exact nc_cast | with_reducible exact nc_lit | apply nc_add | apply nc_div | apply nc_mod | apply nc_mul | refine nc_sub (m := _) (n := _) nc_cast nc_lit (by omega) | refine nc_sub (m := _) (n := _) nc_cast nc_cast (by omega))) (h1 : Imp cg cx := by first | with_reducible exact fun _ => rfl | with_reducible exact fun h => h | exact fun _ => rfl | exact fun h => h | (intro himp; simp_all; done)) (h2 : Imp cg cl := by first | with_reducible exact fun _ => rfl | with_reducible exact fun h => h | exact fun _ => rfl | exact fun h => h | (intro himp; simp_all; done)) (ht : P.underlying tx = some .string := by rfl) (hf : cg = true → i ≤ s.length := by intro hcg; first | omega | (simp at hcg; omega)) : OpV P n E C ⟨dst, .slice tx x (some lo) none none, ty, pos, af, g⟩ cg (str (s.drop i)) :=
  ov_from (hx := hx) (hl := hl) (hi1 := hi1) (h1 := h1) (h2 := h2) (ht := ht) (hf := hf)
theorem xo_to {z : Int} {s : List UInt8} {hi : Operand} {ch : Bool} {k2 : IntKind} {j : Nat} (hx : ev E x = some (cx, str s)) (hh : ev E hi = some (ch, .int k2 z)) (hi2 : z = (j : Int) := by (fail_if_success (with_reducible show (987654321 : Int) = _)); repeat' (first | with_reducible exact nc_cast | with_reducible exact nc_lit | apply nc_add | apply nc_div | apply nc_mod | apply nc_mul | refine nc_sub (m := _) (n := _) nc_cast nc_lit (by omega) | refine nc_sub (m := _) (n := _) nc_cast nc_cast (by omega))) (h1 : Imp cg cx := by first | with_reducible exact fun _ => rfl | with_reducible exact fun h => h | exact fun _ => rfl | exact fun h => h | (intro himp; simp_all; done)) (h3 : Imp cg ch := by first | with_reducible exact fun _ => rfl | with_reducible exact fun h => h | exact fun _ => rfl | exact fun h => h | (intro himp; simp_all; done)) (ht : P.underlying tx = some .string := by rfl) (hf : cg = true → j ≤ s.length := by intro hcg; first | omega | (simp at hcg; omega)) : OpV P n E C ⟨dst, .slice tx x none (some hi) none, ty, pos, af, g⟩ cg (str (s.take j)) :=
  ov_to (hx := hx) (hh := hh) (hi2 := hi2) (h1 := h1) (h3 := h3) (ht := ht) (hf := hf)
theorem xo_slcB {t e : TypeId} {lo hi : Operand} {cl ch : Bool} {k1 k2 : IntKind} {a0 : Option Addr} {len cap l h m : Nat} {u v : Int} (hx : ev E x = some (cx, .slice a0 len cap)) (hlo : ev E lo = some (cl, .int k1 u)) (hh : ev E hi = some (ch, .int k2 v)) (e1 : u = (l : Int) := by (fail_if_success (with_reducible show (987654321 : Int) = _)); repeat' (first | with_reducible exact nc_cast | with_reducible exact nc_lit | apply nc_add | apply nc_div | apply nc_mod | apply nc_mul | refine nc_sub (m := _) (n := _) nc_cast nc_lit (by omega) | refine nc_sub (m := _) (n := _) nc_cast nc_cast (by omega))) (e2 : v = (h : Int) := by (fail_if_success (with_reducible show (987654321 : Int) = _)); repeat' (first | with_reducible exact nc_cast | with_reducible exact nc_lit | apply nc_add | apply nc_div | apply nc_mod | apply nc_mul | refine nc_sub (m := _) (n := _) nc_cast nc_lit (by omega) | refine nc_sub (m := _) (n := _) nc_cast nc_cast (by omega))) (h1 : Imp cg cx := by first | with_reducible exact fun _ => rfl | with_reducible exact fun h => h | exact fun _ => rfl | exact fun h => h | (intro himp; simp_all; done)) (h2 : Imp cg cl := by first | with_reducible exact fun _ => rfl | with_reducible exact fun h => h | exact fun _ => rfl | exact fun h => h | (intro himp; simp_all; done)) (h3 : Imp cg ch := by first | with_reducible exact fun _ => rfl | with_reducible exact fun h => h | exact fun _ => rfl | exact fun h => h | (intro himp; simp_all; done)) (ht : P.underlying t = some (.slice e) := by rfl) (hs : (P.info? e).map (·.size) = some m := by first | exact (rfl : _ = some 1) | exact (rfl : _ = some 2) | exact (rfl : _ = some 3) | exact (rfl : _ = some 4) | exact (rfl : _ = some 6) | exact rfl) (hf : cg = true → l ≤ h ∧ h ≤ cap := by intro hcg; first | omega | (simp at hcg; omega)) : OpV P n E C ⟨dst, .slice t x (some lo) (some hi) none, ty, pos, af, g⟩ cg (slc a0 m l h cap) :=
  ov_slcB (hx := hx) (hlo := hlo) (hh := hh) (e1 := e1) (e2 := e2) (h1 := h1) (h2 := h2) (h3 := h3) (ht := ht) (hs := hs) (hf := hf)
theorem xo_slcFrom {t e : TypeId} {lo : Operand} {cl : Bool} {k1 : IntKind} {a0 : Option Addr} {len cap l m : Nat} {u : Int} (hx : ev E x = some (cx, .slice a0 len cap)) (hh : ev E lo = some (cl, .int k1 u)) (e1 : u = (l : Int) := by (fail_if_success (with_reducible show (987654321 : Int) = _)); repeat' (first | with_reducible exact nc_cast | with_reducible exact nc_lit | apply nc_add | apply nc_div | apply nc_mod | apply nc_mul | refine nc_sub (m := _) (n := _) nc_cast nc_lit (by omega) | refine nc_sub (m := _) (n := _) nc_cast nc_cast (by omega))) (h1 : Imp cg cx := by first | with_reducible exact fun _ => rfl | with_reducible exact fun h => h | exact fun _ => rfl | exact fun h => h | (intro himp; simp_all; done)) (h2 : Imp cg cl := by first | with_reducible exact fun _ => rfl | with_reducible exact fun h => h | exact fun _ => rfl | exact fun h => h | (intro himp; simp_all; done)) (ht : P.underlying t = some (.slice e) := by rfl) (hs : (P.info? e).map (·.size) = some m := by first | exact (rfl : _ = some 1) | exact (rfl : _ = some 2) | exact (rfl : _ = some 3) | exact (rfl : _ = some 4) | exact (rfl : _ = some 6) | exact rfl) (hf : cg = true → l ≤ len := by intro hcg; first | omega | (simp at hcg; omega)) : OpV P n E C ⟨dst, .slice t x (some lo) none none, ty, pos, af, g⟩ cg (slc a0 m l len cap) :=
  ov_slcFrom (hx := hx) (hh := hh) (e1 := e1) (h1 := h1) (h2 := h2) (ht := ht) (hs := hs) (hf := hf)
theorem xo_slcTo {t e : TypeId} {hi : Operand} {ch : Bool} {k1 : IntKind} {a0 : Option Addr} {len cap h m : Nat} {u : Int} (hx : ev E x = some (cx, .slice a0 len cap)) (hh : ev E hi = some (ch, .int k1 u)) (e1 : u = (h : Int) := by (fail_if_success (with_reducible show (987654321 : Int) = _)); repeat' (first | with_reducible exact nc_cast | with_reducible exact nc_lit | apply nc_add | apply nc_div | apply nc_mod | apply nc_mul | refine nc_sub (m := _) (n := _) nc_cast nc_lit (by omega) | refine nc_sub (m := _) (n := _) nc_cast nc_cast (by omega))) (h1 : Imp cg cx := by first | with_reducible exact fun _ => rfl | with_reducible exact fun h => h | exact fun _ => rfl | exact fun h => h | (intro himp; simp_all; done)) (h2 : Imp cg ch := by first | with_reducible exact fun _ => rfl | with_reducible exact fun h => h | exact fun _ => rfl | exact fun h => h | (intro himp; simp_all; done)) (ht : P.underlying t = some (.slice e) := by rfl) (hs : (P.info? e).map (·.size) = some m := by first | exact (rfl : _ = some 1) | exact (rfl : _ = some 2) | exact (rfl : _ = some 3) | exact (rfl : _ = some 4) | exact (rfl : _ = some 6) | exact rfl) (hf : cg = true → h ≤ cap := by intro hcg; first | omega | (simp at hcg; omega)) : OpV P n E C ⟨dst, .slice t x none (some hi) none, ty, pos, af, g⟩ cg (.slice a0 h cap) :=
  ov_slcTo (hx := hx) (hh := hh) (e1 := e1) (h1 := h1) (h2 := h2) (ht := ht) (hs := hs) (hf := hf)
theorem xo_slc3 {t e : TypeId} {hi mx : Operand} {ch cm : Bool} {k1 k2 : IntKind} {a0 : Option Addr} {len cap h c m : Nat} {u v : Int} (hx : ev E x = some (cx, .slice a0 len cap)) (hh : ev E hi = some (ch, .int k1 u)) (hm : ev E mx = some (cm, .int k2 v)) (e1 : u = (h : Int) := by (fail_if_success (with_reducible show (987654321 : Int) = _)); repeat' (first | with_reducible exact nc_cast | with_reducible exact nc_lit | apply nc_add | apply nc_div | apply nc_mod | apply nc_mul | refine nc_sub (m := _) (n := _) nc_cast nc_lit (by omega) | refine nc_sub (m := _) (n := _) nc_cast nc_cast (by omega))) (e2 : v = (c : Int) := by (fail_if_success (with_reducible show (987654321 : Int) = _)); repeat' (first | with_reducible exact nc_cast | with_reducible exact nc_lit | apply nc_add | apply nc_div | apply nc_mod | apply nc_mul | refine nc_sub (m := _) (n := _) nc_cast nc_lit (by omega) | refine nc_sub (m := _) (n := _) nc_cast nc_cast (by omega))) (h1 : Imp cg cx := by first | with_reducible exact fun _ => rfl | with_reducible exact fun h => h | exact fun _ => rfl | exact fun h => h | (intro himp; simp_all; done)) (h2 : Imp cg ch := by first | with_reducible exact fun _ => rfl | with_reducible exact fun h => h | exact fun _ => rfl | exact fun h => h | (intro himp; simp_all; done)) (h3 : Imp cg cm := by first | with_reducible exact fun _ => rfl | with_reducible exact fun h => h | exact fun _ => rfl | exact fun h => h | (intro himp; simp_all; done)) (ht : P.underlying t = some (.slice e) := by rfl) (hs : (P.info? e).map (·.size) = some m := by first | exact (rfl : _ = some 1) | exact (rfl : _ = some 2) | exact (rfl : _ = some 3) | exact (rfl : _ = some 4) | exact (rfl : _ = some 6) | exact rfl) (hf : cg = true → h ≤ c ∧ c ≤ cap := by intro hcg; first | omega | (simp at hcg; omega)) : OpV P n E C ⟨dst, .slice t x none (some hi) (some mx), ty, pos, af, g⟩ cg (.slice a0 h c) :=
  ov_slc3 (hx := hx) (hh := hh) (hm := hm) (e1 := e1) (e2 := e2) (h1 := h1) (h2 := h2) (h3 := h3) (ht := ht) (hs := hs) (hf := hf)
theorem xo_conv {kd : IntKind} {u : Int} {s t : TypeId} {k' : IntKind} (hx : ev E x = some (cx, .int kd u)) (h1 : Imp cg cx := by first | with_reducible exact fun _ => rfl | with_reducible exact fun h => h | exact fun _ => rfl | exact fun h => h | (intro himp; simp_all; done)) (hs : (P.underlying s).isSome = true := by rfl) (ht : P.underlying t = some (.int k') := by rfl) (hf : cg = true → Fits k' u := by intro hcg; clear hcg; first | exact fits_i64 (by omega) (by omega) | exact fits_u8 (by omega) (by omega) | exact fits_i32 (by omega) (by omega) | exact fits_u64 (by omega) (by omega) | exact fits_u32 (by omega) (by omega)) : OpV P n E C ⟨dst, .convert s t x, ty, pos, af, g⟩ cg (.int k' u) :=
  ov_conv (hx := hx) (h1 := h1) (hs := hs) (ht := ht) (hf := hf)
theorem xo_convBytes {src dst' e : TypeId} {b cap : Nat} {T : TypeId} {fz : Nat × Nat} {vs : List Value} {l : List UInt8} (hx : ev E x = some (cx, .slice (some ⟨b, 0, none⟩) vs.length cap)) (hm : (b, Obj.cells vs.toArray T fz) ∈ H := by first | exact List.Mem.head _ | exact List.Mem.tail _ (List.Mem.head _) | exact List.Mem.tail _ (List.Mem.tail _ (List.Mem.head _)) | exact List.Mem.tail _ (List.Mem.tail _ (List.Mem.tail _ (List.Mem.head _))) | exact List.Mem.tail _ (List.Mem.tail _ (List.Mem.tail _ (List.Mem.tail _ (List.Mem.head _)))) | exact List.mem_append_right _ (List.Mem.head _) | exact List.mem_append_right _ (List.Mem.tail _ (List.Mem.head _)) | exact List.mem_append_right _ (List.Mem.tail _ (List.Mem.tail _ (List.Mem.head _))) | exact List.mem_append_right _ (List.Mem.tail _ (List.Mem.tail _ (List.Mem.tail _ (List.Mem.head _)))) | exact List.Mem.tail _ (List.mem_append_right _ (List.Mem.head _)) | exact List.Mem.tail _ (List.mem_append_right _ (List.Mem.tail _ (List.Mem.head _))) | exact List.Mem.tail _ (List.mem_append_right _ (List.Mem.tail _ (List.Mem.tail _ (List.Mem.head _)))) | exact List.Mem.tail _ (List.mem_append_right _ (List.Mem.tail _ (List.Mem.tail _ (List.Mem.tail _ (List.Mem.head _))))) | exact List.Mem.tail _ (List.Mem.tail _ (List.mem_append_right _ (List.Mem.head _))) | exact List.Mem.tail _ (List.Mem.tail _ (List.mem_append_right _ (List.Mem.tail _ (List.Mem.head _)))) | exact List.Mem.tail _ (List.Mem.tail _ (List.mem_append_right _ (List.Mem.tail _ (List.Mem.tail _ (List.Mem.head _)))))) (h1 : Imp cg cx := by first | with_reducible exact fun _ => rfl | with_reducible exact fun h => h | exact fun _ => rfl | exact fun h => h | (intro himp; simp_all; done)) (hs : P.underlying src = some (.slice e) := by rfl) (he : P.underlying e = some (.int .u8) := by rfl) (hd : P.underlying dst' = some .string := by rfl) (hl : bytesOf vs = some l := by rfl) : OpV P n E (St w0 bs H M) ⟨dst, .convert src dst' x, ty, pos, af, g⟩ cg (str l) :=
  ov_convBytes (hx := hx) (h1 := h1) (hs := hs) (he := he) (hd := hd) (hm := hm) (hl := hl)
theorem xo_fieldAddr {T : TypeId} {fs : Array Field} {f : Field} {i m b o : Nat} (hx : ev E x = some (cx, .pointer (some ⟨b, o, none⟩))) (h1 : Imp cg cx := by first | with_reducible exact fun _ => rfl | with_reducible exact fun h => h | exact fun _ => rfl | exact fun h => h | (intro himp; simp_all; done)) (ht : P.underlying T = some (.struct fs) := by rfl) (hf : fs[i]? = some f := by rfl) (hs : (P.info? f.type).map (·.size) = some (m + 1) := by rfl) : OpV P n E C ⟨dst, .fieldAddr T x i, ty, pos, af, g⟩ cg (.pointer (some ⟨b, o + f.offset, none⟩)) :=
  ov_fieldAddr (hx := hx) (h1 := h1) (ht := ht) (hf := hf) (hs := hs)
theorem xo_load1 {t : TypeId} {d : TypeDesc} {b o : Nat} {cs : Array Value} {T : TypeId} {fz : Nat × Nat} {v : Value} (hx : ev E x = some (cx, .pointer (some ⟨b, o, none⟩))) (hm : (b, Obj.cells cs T fz) ∈ H := by first | exact List.Mem.head _ | exact List.Mem.tail _ (List.Mem.head _) | exact List.Mem.tail _ (List.Mem.tail _ (List.Mem.head _)) | exact List.Mem.tail _ (List.Mem.tail _ (List.Mem.tail _ (List.Mem.head _))) | exact List.Mem.tail _ (List.Mem.tail _ (List.Mem.tail _ (List.Mem.tail _ (List.Mem.head _)))) | exact List.mem_append_right _ (List.Mem.head _) | exact List.mem_append_right _ (List.Mem.tail _ (List.Mem.head _)) | exact List.mem_append_right _ (List.Mem.tail _ (List.Mem.tail _ (List.Mem.head _))) | exact List.mem_append_right _ (List.Mem.tail _ (List.Mem.tail _ (List.Mem.tail _ (List.Mem.head _)))) | exact List.Mem.tail _ (List.mem_append_right _ (List.Mem.head _)) | exact List.Mem.tail _ (List.mem_append_right _ (List.Mem.tail _ (List.Mem.head _))) | exact List.Mem.tail _ (List.mem_append_right _ (List.Mem.tail _ (List.Mem.tail _ (List.Mem.head _)))) | exact List.Mem.tail _ (List.mem_append_right _ (List.Mem.tail _ (List.Mem.tail _ (List.Mem.tail _ (List.Mem.head _))))) | exact List.Mem.tail _ (List.Mem.tail _ (List.mem_append_right _ (List.Mem.head _))) | exact List.Mem.tail _ (List.Mem.tail _ (List.mem_append_right _ (List.Mem.tail _ (List.Mem.head _)))) | exact List.Mem.tail _ (List.Mem.tail _ (List.mem_append_right _ (List.Mem.tail _ (List.Mem.tail _ (List.Mem.head _)))))) (h1 : Imp cg cx := by first | with_reducible exact fun _ => rfl | with_reducible exact fun h => h | exact fun _ => rfl | exact fun h => h | (intro himp; simp_all; done)) (ht : P.underlying t = some d := by rfl) (hd : (match d with | .struct _ | .array _ _ => true | _ => false) = false := by rfl) (hv : cs[o]? = some v := by first | exact lk0 | exact lk1 | exact lk2 | exact lk3 | exact lk4 | exact lk5 | exact lk6 | exact lk7 | exact lk8 | exact lk9 | exact lk10 | exact lk11 | rfl) : OpV P n E (St w0 bs H M) ⟨dst, .load t x, ty, pos, af, g⟩ cg v :=
  ov_load1 (hx := hx) (h1 := h1) (ht := ht) (hd := hd) (hm := hm) (hv := hv)
theorem xo_loadS {t : TypeId} {fs : Array Field} {b : Nat} {l : List Value} {T : TypeId} {fz : Nat × Nat} (hx : ev E x = some (cx, .pointer (some ⟨b, 0, none⟩))) (hm : (b, Obj.cells l.toArray T fz) ∈ H := by first | exact List.Mem.head _ | exact List.Mem.tail _ (List.Mem.head _) | exact List.Mem.tail _ (List.Mem.tail _ (List.Mem.head _)) | exact List.Mem.tail _ (List.Mem.tail _ (List.Mem.tail _ (List.Mem.head _))) | exact List.Mem.tail _ (List.Mem.tail _ (List.Mem.tail _ (List.Mem.tail _ (List.Mem.head _)))) | exact List.mem_append_right _ (List.Mem.head _) | exact List.mem_append_right _ (List.Mem.tail _ (List.Mem.head _)) | exact List.mem_append_right _ (List.Mem.tail _ (List.Mem.tail _ (List.Mem.head _))) | exact List.mem_append_right _ (List.Mem.tail _ (List.Mem.tail _ (List.Mem.tail _ (List.Mem.head _)))) | exact List.Mem.tail _ (List.mem_append_right _ (List.Mem.head _)) | exact List.Mem.tail _ (List.mem_append_right _ (List.Mem.tail _ (List.Mem.head _))) | exact List.Mem.tail _ (List.mem_append_right _ (List.Mem.tail _ (List.Mem.tail _ (List.Mem.head _)))) | exact List.Mem.tail _ (List.mem_append_right _ (List.Mem.tail _ (List.Mem.tail _ (List.Mem.tail _ (List.Mem.head _))))) | exact List.Mem.tail _ (List.Mem.tail _ (List.mem_append_right _ (List.Mem.head _))) | exact List.Mem.tail _ (List.Mem.tail _ (List.mem_append_right _ (List.Mem.tail _ (List.Mem.head _)))) | exact List.Mem.tail _ (List.Mem.tail _ (List.mem_append_right _ (List.Mem.tail _ (List.Mem.tail _ (List.Mem.head _)))))) (h1 : Imp cg cx := by first | with_reducible exact fun _ => rfl | with_reducible exact fun h => h | exact fun _ => rfl | exact fun h => h | (intro himp; simp_all; done)) (ht : P.underlying t = some (.struct fs) := by rfl) (hs : (P.info? t).map (·.size) = some l.length := by rfl) : OpV P n E (St w0 bs H M) ⟨dst, .load t x, ty, pos, af, g⟩ cg (.agg l.toArray) :=
  ov_loadS (hx := hx) (h1 := h1) (ht := ht) (hs := hs) (hm := hm)
theorem xo_field {t : TypeId} {fs : Array Field} {f : Field} {i : Nat} {cs : Array Value} {d : TypeDesc} {v : Value} (hx : ev E x = some (cx, .agg cs)) (h1 : Imp cg cx := by first | with_reducible exact fun _ => rfl | with_reducible exact fun h => h | exact fun _ => rfl | exact fun h => h | (intro himp; simp_all; done)) (ht : P.underlying t = some (.struct fs) := by rfl) (hf : fs[i]? = some f := by rfl) (hd : P.underlying f.type = some d := by rfl) (hd' : (match d with | .struct _ | .array _ _ => true | _ => false) = false := by rfl) (hv : cs[f.offset]? = some v := by rfl) : OpV P n E C ⟨dst, .field t x i, ty, pos, af, g⟩ cg v :=
  ov_field (hx := hx) (h1 := h1) (ht := ht) (hf := hf) (hd := hd) (hd' := hd') (hv := hv)
theorem xo_nilCheck {a0 : Addr} (hx : ev E x = some (cx, .pointer (some a0))) (h1 : Imp cg cx := by first | with_reducible exact fun _ => rfl | with_reducible exact fun h => h | exact fun _ => rfl | exact fun h => h | (intro himp; simp_all; done)) : OpV P n E C ⟨dst, .nilCheck x, ty, pos, af, g⟩ cg (.pointer (some a0)) :=
  ov_nilCheck (hx := hx) (h1 := h1)
theorem xo_build {t : TypeId} {ps : List (Nat × Operand)} {parts : List (Nat × Value)} {z l : List Value} {pl : List (Nat × Nat)} (hv : evp E ps = some parts) (hz : zeroOf P t = some z := by rfl) (hp : placesOf P t = some pl := by rfl) (hl : laidIn z parts pl = some l := by simp only [laidIn, Value.cells, setCells, Nat.zero_add, Nat.reduceAdd, List.set_cons_zero, List.set_cons_succ, List.getElem?_cons_zero, List.getElem?_cons_succ]; first | done | rfl) : OpV P n E C ⟨dst, .build t ps.toArray, ty, pos, af, g⟩ cg (.agg l.toArray) :=
  ov_build (hv := hv) (hz := hz) (hp := hp) (hl := hl)
theorem xo_indexAddr {t e : TypeId} {a0 : Option Addr} {len cap i m b o : Nat} {k1 : IntKind} {z : Int} (hx : ev E x = some (cx, .slice a0 len cap)) (hy : ev E y = some (cy, .int k1 z)) (ha0 : cg = true → a0 = some ⟨b, o, none⟩) (hf : cg = true → i < len) (hi : z = (i : Int) := by (fail_if_success (with_reducible show (987654321 : Int) = _)); repeat' (first | with_reducible exact nc_cast | with_reducible exact nc_lit | apply nc_add | apply nc_div | apply nc_mod | apply nc_mul | refine nc_sub (m := _) (n := _) nc_cast nc_lit (by omega) | refine nc_sub (m := _) (n := _) nc_cast nc_cast (by omega))) (h1 : Imp cg cx := by first | with_reducible exact fun _ => rfl | with_reducible exact fun h => h | exact fun _ => rfl | exact fun h => h | (intro himp; simp_all; done)) (h2 : Imp cg cy := by first | with_reducible exact fun _ => rfl | with_reducible exact fun h => h | exact fun _ => rfl | exact fun h => h | (intro himp; simp_all; done)) (ht : P.underlying t = some (.slice e) := by rfl) (hs : (P.info? e).map (·.size) = some m := by first | exact (rfl : _ = some 1) | exact (rfl : _ = some 2) | exact (rfl : _ = some 3) | exact (rfl : _ = some 4) | exact (rfl : _ = some 6) | exact rfl) : OpV P n E C ⟨dst, .indexAddr t x y, ty, pos, af, g⟩ cg (.pointer (some ⟨b, o + i * m, none⟩)) :=
  ov_indexAddr (hx := hx) (hy := hy) (hi := hi) (h1 := h1) (h2 := h2) (ht := ht) (hs := hs) (ha0 := ha0) (hf := hf)
theorem xo_load1M {t : TypeId} {d : TypeDesc} {b o : Nat} {cs : Array Value} {T : TypeId} {fz : Nat × Nat} {v : Value} (hx : ev E x = some (cx, .pointer (some ⟨b, o, none⟩))) (hm : cg = true → M b (Obj.cells cs T fz)) (hv : cg = true → cs[o]? = some v) (h1 : Imp cg cx := by first | with_reducible exact fun _ => rfl | with_reducible exact fun h => h | exact fun _ => rfl | exact fun h => h | (intro himp; simp_all; done)) (ht : P.underlying t = some d := by rfl) (hd : (match d with | .struct _ | .array _ _ => true | _ => false) = false := by rfl) : OpV P n E (St w0 bs H M) ⟨dst, .load t x, ty, pos, af, g⟩ cg v :=
  ov_load1M (hx := hx) (h1 := h1) (ht := ht) (hd := hd) (hm := hm) (hv := hv)
theorem xo_loadSM {t : TypeId} {fs : Array Field} {b o : Nat} {cs : Array Value} {l : List Value} {T : TypeId} {fz : Nat × Nat} (hx : ev E x = some (cx, .pointer (some ⟨b, o, none⟩))) (hm : cg = true → M b (Obj.cells cs T fz)) (hv : cg = true → ∀ j, j < l.length → cs[o + j]? = l[j]?) (h1 : Imp cg cx := by first | with_reducible exact fun _ => rfl | with_reducible exact fun h => h | exact fun _ => rfl | exact fun h => h | (intro himp; simp_all; done)) (ht : P.underlying t = some (.struct fs) := by rfl) (hs : (P.info? t).map (·.size) = some l.length := by first | exact (rfl : _ = some 1) | exact (rfl : _ = some 2) | exact (rfl : _ = some 3) | exact (rfl : _ = some 4) | exact (rfl : _ = some 6) | exact rfl) : OpV P n E (St w0 bs H M) ⟨dst, .load t x, ty, pos, af, g⟩ cg (.agg l.toArray) :=
  ov_loadSM (hx := hx) (h1 := h1) (ht := ht) (hs := hs) (hm := hm) (hv := hv)
theorem xl_alloc {T : TypeId} {z : Value} {d : Nat} {l : List Value} (h : ∀ b, WL P ops rest n ((d, true, .pointer (some ⟨b, 0, none⟩)) :: E) (St w0 bs ((b, .cells l.toArray T (0, 0)) :: H) M) k) (hg : gd ops E g = some true := by rfl) (hz : ∀ w, (zeroValue T).run P w = .ok z w := by exact fun _ => rfl) (hd : Nat.blt d n = true := by rfl) (hl : z.cells.toList = l := by simp only [Value.cells]; first | done | rfl) : WL P ops (⟨some d, .alloc T, ty, pos, af, g⟩ :: rest) n E (St w0 bs H M) k :=
  wl_alloc (hg := hg) (hz := hz) (hd := hd) (hl := hl) (h := h)
theorem xl_box {T : TypeId} {x : Operand} {v : Value} {d : Nat} {l : List Value} (hx : ev E x = some (true, v)) (h : ∀ b, WL P ops rest n ((d, true, .pointer (some ⟨b, 0, none⟩)) :: E) (St w0 bs ((b, .cells l.toArray T (0, 0)) :: H) M) k) (hg : gd ops E g = some true := by rfl) (hd : Nat.blt d n = true := by rfl) (hl : v.cells.toList = l := by simp only [Value.cells]; first | done | rfl) : WL P ops (⟨some d, .box T x, ty, pos, af, g⟩ :: rest) n E (St w0 bs H M) k :=
  wl_box (hg := hg) (hx := hx) (hd := hd) (hl := hl) (h := h)
theorem xl_store {t : TypeId} {b o : Nat} {l : List Value} {T : TypeId} {v : Value} {H' : List (Nat × Obj)} {l' : List Value} (hx : ev E x = some (true, .pointer (some ⟨b, o, none⟩))) (hy : ev E y = some (true, v)) (h : WL P ops rest n E (St w0 bs H' M) k) (hg : gd ops E g = some true := by rfl) (hs : (P.info? t).map (·.size) = some v.cells.size := by rfl) (hu : Upd H b (.cells l.toArray T (0, 0)) (.cells l'.toArray T (0, 0)) H' := by first | exact Upd.here | exact Upd.there Upd.here | exact Upd.there (Upd.there Upd.here) | exact Upd.there (Upd.there (Upd.there Upd.here)) | exact Upd.there (Upd.there (Upd.there (Upd.there Upd.here))) | exact Upd.app _ (Upd.here) | exact Upd.app _ (Upd.there Upd.here) | exact Upd.app _ (Upd.there (Upd.there Upd.here)) | exact Upd.app _ (Upd.there (Upd.there (Upd.there Upd.here))) | exact Upd.there (Upd.app _ (Upd.here)) | exact Upd.there (Upd.app _ (Upd.there Upd.here)) | exact Upd.there (Upd.app _ (Upd.there (Upd.there Upd.here))) | exact Upd.there (Upd.app _ (Upd.there (Upd.there (Upd.there Upd.here)))) | exact Upd.there (Upd.there (Upd.app _ (Upd.here))) | exact Upd.there (Upd.there (Upd.app _ (Upd.there Upd.here))) | exact Upd.there (Upd.there (Upd.app _ (Upd.there (Upd.there Upd.here))))) (hn : setCells l o v.cells.toList = l' := by dsimp only [Value.cells, setCells, List.set, Nat.zero_add, Nat.reduceAdd]; first | done | rfl) (hl : Nat.ble (o + v.cells.size) l.length = true := by rfl) (hp : v.cells.toList.all plainV = true := by rfl) : WL P ops (⟨none, .store t x y, ty, pos, af, g⟩ :: rest) n E (St w0 bs H M) k :=
  wl_store (hg := hg) (hx := hx) (hy := hy) (hs := hs) (hu := hu) (hn := hn) (hl := hl) (hp := hp) (h := h)
theorem xl_buildSlice {t e : TypeId} {m len d : Nat} {z : Value} {ps : List (Nat × Operand)} {parts : List (Nat × Value)} {l : List Value} (hv : evp E ps = some parts) (h : ∀ b, WL P ops rest n ((d, true, .slice (some ⟨b, 0, none⟩) len len) :: E) (St w0 bs ((b, .cells l.toArray e (0, 0)) :: H) M) k) (hg : gd ops E g = some true := by rfl) (ht : P.underlying t = some (.slice e) := by rfl) (hs : (P.info? e).map (·.size) = some m := by first | exact (rfl : _ = some 1) | exact (rfl : _ = some 2) | exact (rfl : _ = some 3) | exact (rfl : _ = some 4) | exact (rfl : _ = some 6) | exact rfl) (hz : ∀ w, (zeroValue e).run P w = .ok z w := by exact fun _ => rfl) (hzc : z.cells.size = m := by rfl) (hlen : len = parts.length := by rfl) (hlim : Nat.ble (len * m) 16777216 = true := by rfl) (hl : cellsAll m parts 0 = some l := by simp only [cellsAll, Value.cells, List.size_toArray, List.length_cons, List.length_nil, Nat.zero_add, Nat.reduceAdd, and_self, if_true, true_and, Option.map_some, List.cons_append, List.nil_append]; first | done | rfl) (hd : Nat.blt d n = true := by rfl) : WL P ops (⟨some d, .buildSlice t len ps.toArray, ty, pos, af, g⟩ :: rest) n E (St w0 bs H M) k :=
  wl_buildSlice (hg := hg) (hv := hv) (ht := ht) (hs := hs) (hz := hz) (hzc := hzc) (hlen := hlen) (hlim := hlim) (hl := hl) (hd := hd) (h := h)
theorem xo_and {c cy b b' r : Bool} (hx : ev E x = some (c, .bool b)) (hy : ev E y = some (cy, .bool b')) (hc : Imp cg c := by first | with_reducible exact fun _ => rfl | with_reducible exact fun h => h | exact fun _ => rfl | exact fun h => h | (intro himp; simp_all; done)) (h1 : cg = true → b = true → cy = true := by intro himp1 himp2; first | rfl | (rw [himp2]; rfl) | (simp_all; done)) (hr : (b && b') = r := by first | with_reducible exact dec_self _ | with_reducible exact ndec_self _ | with_reducible exact band_tl _ | with_reducible exact band_tr _ | with_reducible exact band_fl _ | with_reducible exact bor_tl _ | with_reducible exact bor_fl _ | with_reducible exact bor_fr _ | with_reducible exact bnot_t | with_reducible exact bnot_f | exact rfl) : OpV P n E C ⟨dst, .pick x y (.const (.bool false)), ty, pos, af, g⟩ cg (.bool r) := opv_eq (ov_and hx hy hc h1) hr
theorem xo_or {c cz b b' r : Bool} (hx : ev E x = some (c, .bool b)) (hz : ev E z = some (cz, .bool b')) (hc : Imp cg c := by first | with_reducible exact fun _ => rfl | with_reducible exact fun h => h | exact fun _ => rfl | exact fun h => h | (intro himp; simp_all; done)) (h0 : cg = true → b = false → cz = true := by intro himp1 himp2; first | rfl | (rw [himp2]; rfl) | (simp_all; done)) (hr : (b || b') = r := by first | with_reducible exact dec_self _ | with_reducible exact ndec_self _ | with_reducible exact band_tl _ | with_reducible exact band_tr _ | with_reducible exact band_fl _ | with_reducible exact bor_tl _ | with_reducible exact bor_fl _ | with_reducible exact bor_fr _ | with_reducible exact bnot_t | with_reducible exact bnot_f | exact rfl) : OpV P n E C ⟨dst, .pick x (.const (.bool true)) z, ty, pos, af, g⟩ cg (.bool r) := opv_eq (ov_or hx hz hc h0) hr
theorem xo_not {b r : Bool} (hx : ev E x = some (cx, .bool b)) (h1 : Imp cg cx := by first | with_reducible exact fun _ => rfl | with_reducible exact fun h => h | exact fun _ => rfl | exact fun h => h | (intro himp; simp_all; done)) (hr : (!b) = r := by first | with_reducible exact dec_self _ | with_reducible exact ndec_self _ | with_reducible exact band_tl _ | with_reducible exact band_tr _ | with_reducible exact band_fl _ | with_reducible exact bor_tl _ | with_reducible exact bor_fl _ | with_reducible exact bor_fr _ | with_reducible exact bnot_t | with_reducible exact bnot_f | exact rfl) : OpV P n E C ⟨dst, .unOp .not tx x, ty, pos, af, g⟩ cg (.bool r) := opv_eq (ov_not hx h1) hr
theorem xo_eql {kd : IntKind} {u z : Int} {r : Bool} (hx : ev E x = some (cx, .int kd u)) (hy : ev E y = some (cy, .int kd z)) (h1 : Imp cg cx := by first | with_reducible exact fun _ => rfl | with_reducible exact fun h => h | exact fun _ => rfl | exact fun h => h | (intro himp; simp_all; done)) (h2 : Imp cg cy := by first | with_reducible exact fun _ => rfl | with_reducible exact fun h => h | exact fun _ => rfl | exact fun h => h | (intro himp; simp_all; done)) (hr : decide (u = z) = r := by first | with_reducible exact dec_self _ | with_reducible exact ndec_self _ | with_reducible exact band_tl _ | with_reducible exact band_tr _ | with_reducible exact band_fl _ | with_reducible exact bor_tl _ | with_reducible exact bor_fl _ | with_reducible exact bor_fr _ | with_reducible exact bnot_t | with_reducible exact bnot_f | exact rfl) : OpV P n E C ⟨dst, .binOp .eql tx x y tyy, ty, pos, af, g⟩ cg (.bool r) := opv_eq (ov_eql hx hy h1 h2) hr
theorem xo_neq {kd : IntKind} {u z : Int} {r : Bool} (hx : ev E x = some (cx, .int kd u)) (hy : ev E y = some (cy, .int kd z)) (h1 : Imp cg cx := by first | with_reducible exact fun _ => rfl | with_reducible exact fun h => h | exact fun _ => rfl | exact fun h => h | (intro himp; simp_all; done)) (h2 : Imp cg cy := by first | with_reducible exact fun _ => rfl | with_reducible exact fun h => h | exact fun _ => rfl | exact fun h => h | (intro himp; simp_all; done)) (hr : (!decide (u = z)) = r := by first | with_reducible exact dec_self _ | with_reducible exact ndec_self _ | with_reducible exact band_tl _ | with_reducible exact band_tr _ | with_reducible exact band_fl _ | with_reducible exact bor_tl _ | with_reducible exact bor_fl _ | with_reducible exact bor_fr _ | with_reducible exact bnot_t | with_reducible exact bnot_f | exact rfl) : OpV P n E C ⟨dst, .binOp .neq tx x y tyy, ty, pos, af, g⟩ cg (.bool r) := opv_eq (ov_neq hx hy h1 h2) hr
theorem xo_seql {s t : List UInt8} {r : Bool} (hx : ev E x = some (cx, str s)) (hy : ev E y = some (cy, str t)) (h1 : Imp cg cx := by first | with_reducible exact fun _ => rfl | with_reducible exact fun h => h | exact fun _ => rfl | exact fun h => h | (intro himp; simp_all; done)) (h2 : Imp cg cy := by first | with_reducible exact fun _ => rfl | with_reducible exact fun h => h | exact fun _ => rfl | exact fun h => h | (intro himp; simp_all; done)) (hr : decide (s = t) = r := by first | with_reducible exact dec_self _ | with_reducible exact ndec_self _ | with_reducible exact band_tl _ | with_reducible exact band_tr _ | with_reducible exact band_fl _ | with_reducible exact bor_tl _ | with_reducible exact bor_fl _ | with_reducible exact bor_fr _ | with_reducible exact bnot_t | with_reducible exact bnot_f | exact rfl) : OpV P n E C ⟨dst, .binOp .eql tx x y tyy, ty, pos, af, g⟩ cg (.bool r) := opv_eq (ov_seql hx hy h1 h2) hr
theorem xo_sneq {s t : List UInt8} {r : Bool} (hx : ev E x = some (cx, str s)) (hy : ev E y = some (cy, str t)) (h1 : Imp cg cx := by first | with_reducible exact fun _ => rfl | with_reducible exact fun h => h | exact fun _ => rfl | exact fun h => h | (intro himp; simp_all; done)) (h2 : Imp cg cy := by first | with_reducible exact fun _ => rfl | with_reducible exact fun h => h | exact fun _ => rfl | exact fun h => h | (intro himp; simp_all; done)) (hr : (!decide (s = t)) = r := by first | with_reducible exact dec_self _ | with_reducible exact ndec_self _ | with_reducible exact band_tl _ | with_reducible exact band_tr _ | with_reducible exact band_fl _ | with_reducible exact bor_tl _ | with_reducible exact bor_fl _ | with_reducible exact bor_fr _ | with_reducible exact bnot_t | with_reducible exact bnot_f | exact rfl) : OpV P n E C ⟨dst, .binOp .neq tx x y tyy, ty, pos, af, g⟩ cg (.bool r) := opv_eq (ov_sneq hx hy h1 h2) hr
theorem xo_beql {b b' r : Bool} (hx : ev E x = some (cx, .bool b)) (hy : ev E y = some (cy, .bool b')) (h1 : Imp cg cx := by first | with_reducible exact fun _ => rfl | with_reducible exact fun h => h | exact fun _ => rfl | exact fun h => h | (intro himp; simp_all; done)) (h2 : Imp cg cy := by first | with_reducible exact fun _ => rfl | with_reducible exact fun h => h | exact fun _ => rfl | exact fun h => h | (intro himp; simp_all; done)) (ht : P.underlying tx = some .bool := by rfl) (hr : decide (b = b') = r := by first | with_reducible exact dec_self _ | with_reducible exact ndec_self _ | with_reducible exact band_tl _ | with_reducible exact band_tr _ | with_reducible exact band_fl _ | with_reducible exact bor_tl _ | with_reducible exact bor_fl _ | with_reducible exact bor_fr _ | with_reducible exact bnot_t | with_reducible exact bnot_f | exact rfl) : OpV P n E C ⟨dst, .binOp .eql tx x y tyy, ty, pos, af, g⟩ cg (.bool r) := opv_eq (ov_beql hx hy h1 h2 ht) hr
theorem xo_bneq {b b' r : Bool} (hx : ev E x = some (cx, .bool b)) (hy : ev E y = some (cy, .bool b')) (h1 : Imp cg cx := by first | with_reducible exact fun _ => rfl | with_reducible exact fun h => h | exact fun _ => rfl | exact fun h => h | (intro himp; simp_all; done)) (h2 : Imp cg cy := by first | with_reducible exact fun _ => rfl | with_reducible exact fun h => h | exact fun _ => rfl | exact fun h => h | (intro himp; simp_all; done)) (ht : P.underlying tx = some .bool := by rfl) (hr : (!decide (b = b')) = r := by first | with_reducible exact dec_self _ | with_reducible exact ndec_self _ | with_reducible exact band_tl _ | with_reducible exact band_tr _ | with_reducible exact band_fl _ | with_reducible exact bor_tl _ | with_reducible exact bor_fl _ | with_reducible exact bor_fr _ | with_reducible exact bnot_t | with_reducible exact bnot_f | exact rfl) : OpV P n E C ⟨dst, .binOp .neq tx x y tyy, ty, pos, af, g⟩ cg (.bool r) := opv_eq (ov_bneq hx hy h1 h2 ht) hr

end
end Go.Eng
/-
  One rule for all operations that yield one value: which rule serves is found by a tactic of the rule's own; the same for what the function's end asks. Nothing of the program stands here.
-/
namespace Go.Eng
open Go.RowKit
set_option linter.unusedVariables false
set_option linter.unusedSimpArgs false
section
variable {P : Program} {n : Nat} {E : Env} {k : Kont} {ops : Array Oper} {rest : List Oper} {cg : Bool} {C : World → Prop}
variable {dst : Option Tmp} {ty : TypeId} {pos : String} {af : Array Edge} {g : Option (Nat × Bool)}
variable {w0 : World} {bs : List Nat} {H : List (Nat × Obj)} {M : Ghost}
section
variable {x y : Operand} {cx : Bool} {v : Value} {tx tyy : TypeId} {op : BinOp}
/-! probes: of what kind an operand is -/
theorem pb_i {kd : IntKind} {u : Int} (h : ev E x = some (cx, .int kd u)) (h2 : OpV P n E C ⟨dst, .binOp op tx x y tyy, ty, pos, af, g⟩ cg v) : OpV P n E C ⟨dst, .binOp op tx x y tyy, ty, pos, af, g⟩ cg v := h2
theorem pb_s {s : List UInt8} (h : ev E x = some (cx, str s)) (h2 : OpV P n E C ⟨dst, .binOp op tx x y tyy, ty, pos, af, g⟩ cg v) : OpV P n E C ⟨dst, .binOp op tx x y tyy, ty, pos, af, g⟩ cg v := h2
theorem pb_b {b : Bool} (h : ev E x = some (cx, .bool b)) (h2 : OpV P n E C ⟨dst, .binOp op tx x y tyy, ty, pos, af, g⟩ cg v) : OpV P n E C ⟨dst, .binOp op tx x y tyy, ty, pos, af, g⟩ cg v := h2
theorem pl_s {s : List UInt8} {ats : Array TypeId} (h : ev E x = some (cx, str s)) (h2 : OpV P n E C ⟨dst, .call ⟨.builtin .len, #[x], ats⟩, ty, pos, af, g⟩ cg v) : OpV P n E C ⟨dst, .call ⟨.builtin .len, #[x], ats⟩, ty, pos, af, g⟩ cg v := h2
theorem ps_s {s : List UInt8} {lo hi mx : Option Operand} (h : ev E x = some (cx, str s)) (h2 : OpV P n E C ⟨dst, .slice tx x lo hi mx, ty, pos, af, g⟩ cg v) : OpV P n E C ⟨dst, .slice tx x lo hi mx, ty, pos, af, g⟩ cg v := h2
theorem pc_i {kd : IntKind} {u : Int} {st : TypeId} (h : ev E x = some (cx, .int kd u)) (h2 : OpV P n E C ⟨dst, .convert st tx x, ty, pos, af, g⟩ cg v) : OpV P n E C ⟨dst, .convert st tx x, ty, pos, af, g⟩ cg v := h2
theorem pd_st {fs : Array Field} (h : P.underlying tx = some (.struct fs)) (h2 : OpV P n E C ⟨dst, .load tx x, ty, pos, af, g⟩ cg v) : OpV P n E C ⟨dst, .load tx x, ty, pos, af, g⟩ cg v := h2
end
theorem yl_v {d : Nat} {v : Value} {o : Oper} (hg : gd ops E o.guard = some cg) (ho : o.dst = some d) (hd : Nat.blt d n = true) (h : WL P ops rest n ((d, cg, v) :: E) C k) (hv : OpV P n E C o cg v := by first | (show OpV _ _ _ _ (Oper.mk _ (Op.move _) _ _ _ _) _ _; exact xo_move rfl) | (show OpV _ _ _ _ (Oper.mk _ (Op.call ⟨.builtin .len, _, _⟩) _ _ _ _) _ _; first | (apply pl_s rfl; exact xo_slen rfl) | exact xo_len rfl) | (show OpV _ _ _ _ (Oper.mk _ (Op.load _ _) _ _ _ _) _ _; first | (apply pd_st rfl; exact xo_loadS rfl) | exact xo_load1 rfl) | (show OpV _ _ _ _ (Oper.mk _ (Op.assign _) _ _ _ _) _ _; exact xo_assign rfl) | (show OpV _ _ _ _ (Oper.mk _ (Op.binOp _ _ _ _ _) _ _ _ _) _ _; first | (show OpV _ _ _ _ (Oper.mk _ (Op.binOp BinOp.eql _ _ _ _) _ _ _ _) _ _; first | (apply pb_i rfl; exact xo_eql rfl rfl) | (apply pb_s rfl; exact xo_seql rfl rfl) | (apply pb_b rfl; exact xo_beql rfl rfl) | exact xo_aeql rfl rfl) | (show OpV _ _ _ _ (Oper.mk _ (Op.binOp BinOp.neq _ _ _ _) _ _ _ _) _ _; first | (apply pb_i rfl; exact xo_neq rfl rfl) | (apply pb_s rfl; exact xo_sneq rfl rfl) | (apply pb_b rfl; exact xo_bneq rfl rfl) | exact xo_aneq rfl rfl) | (show OpV _ _ _ _ (Oper.mk _ (Op.binOp BinOp.lss _ _ _ _) _ _ _ _) _ _; exact xo_lss rfl rfl) | (show OpV _ _ _ _ (Oper.mk _ (Op.binOp BinOp.leq _ _ _ _) _ _ _ _) _ _; exact xo_leq rfl rfl) | (show OpV _ _ _ _ (Oper.mk _ (Op.binOp BinOp.gtr _ _ _ _) _ _ _ _) _ _; exact xo_gtr rfl rfl) | (show OpV _ _ _ _ (Oper.mk _ (Op.binOp BinOp.geq _ _ _ _) _ _ _ _) _ _; exact xo_geq rfl rfl) | (show OpV _ _ _ _ (Oper.mk _ (Op.binOp BinOp.add _ _ _ _) _ _ _ _) _ _; first | (apply pb_i rfl; exact xo_add rfl rfl) | exact ov_sadd rfl rfl (by first | with_reducible exact fun _ => rfl | with_reducible exact fun h => h | exact fun _ => rfl | exact fun h => h | (intro himp; simp_all; done)) (by first | with_reducible exact fun _ => rfl | with_reducible exact fun h => h | exact fun _ => rfl | exact fun h => h | (intro himp; simp_all; done)) (by intro hcg; first | omega | (simp only [List.length_append, List.length_take, List.length_drop, List.length_cons, List.length_nil, List.length_nil]; omega))) | (show OpV _ _ _ _ (Oper.mk _ (Op.binOp BinOp.sub _ _ _ _) _ _ _ _) _ _; exact xo_sub rfl rfl) | (show OpV _ _ _ _ (Oper.mk _ (Op.binOp BinOp.mul _ _ _ _) _ _ _ _) _ _; exact xo_mul rfl rfl) | (show OpV _ _ _ _ (Oper.mk _ (Op.binOp BinOp.quo _ _ _ _) _ _ _ _) _ _; exact xo_quo rfl rfl) | (show OpV _ _ _ _ (Oper.mk _ (Op.binOp BinOp.rem _ _ _ _) _ _ _ _) _ _; exact xo_rem rfl rfl) ) | (show OpV _ _ _ _ (Oper.mk _ (Op.pick _ _ _) _ _ _ _) _ _; first | exact xo_and rfl rfl | exact xo_or rfl rfl) | (show OpV _ _ _ _ (Oper.mk _ (Op.extract _ _) _ _ _ _) _ _; exact xo_extract rfl) | (show OpV _ _ _ _ (Oper.mk _ (Op.unOp _ _ _) _ _ _ _) _ _; exact xo_not rfl) | (show OpV _ _ _ _ (Oper.mk _ (Op.slice _ _ _ _ _) _ _ _ _) _ _; first | (show OpV _ _ _ _ (Oper.mk _ (Op.slice _ _ (some _) (some _) none) _ _ _ _) _ _; first | (apply ps_s rfl; exact xo_slice rfl rfl rfl) | exact xo_slcB rfl rfl rfl) | (show OpV _ _ _ _ (Oper.mk _ (Op.slice _ _ (some _) none none) _ _ _ _) _ _; first | (apply ps_s rfl; exact xo_from rfl rfl) | exact xo_slcFrom rfl rfl) | (show OpV _ _ _ _ (Oper.mk _ (Op.slice _ _ none (some _) none) _ _ _ _) _ _; first | (apply ps_s rfl; exact xo_to rfl rfl) | exact xo_slcTo rfl rfl) | (show OpV _ _ _ _ (Oper.mk _ (Op.slice _ _ none (some _) (some _)) _ _ _ _) _ _; exact xo_slc3 rfl rfl rfl) ) | (show OpV _ _ _ _ (Oper.mk _ (Op.index _ _ _) _ _ _ _) _ _; exact xo_sindex rfl rfl) | (show OpV _ _ _ _ (Oper.mk _ (Op.convert _ _ _) _ _ _ _) _ _; first | (apply pc_i rfl; exact xo_conv rfl) | exact xo_convBytes rfl) | (show OpV _ _ _ _ (Oper.mk _ (Op.fieldAddr _ _ _) _ _ _ _) _ _; exact xo_fieldAddr rfl) | (show OpV _ _ _ _ (Oper.mk _ (Op.field _ _ _) _ _ _ _) _ _; exact xo_field rfl) | (show OpV _ _ _ _ (Oper.mk _ (Op.build _ _) _ _ _ _) _ _; exact xo_build rfl) | (show OpV _ _ _ _ (Oper.mk _ (Op.makeFunc _ _ _) _ _ _ _) _ _; exact ov_makeFunc rfl rfl) | (show OpV _ _ _ _ (Oper.mk _ (Op.nilCheck _) _ _ _ _) _ _; exact xo_nilCheck rfl)) : WL P ops (o :: rest) n E C k := wl_v hg ho hd hv h
theorem yd_v {d : Nat} {v : Value} {o : Oper} {tail : List Oper} {F : REnv} (hg : gd ops E o.guard = some cg) (ho : o.dst = some d) (hd : Nat.blt d n = true) (hb : belowN n E = true) (hsel : noSel o = true) (hF : lookR F d = none) (h : WD P ops rest n ((d, cg, v) :: E) F C tail k) (hv : OpV P n E C o cg v := by first | (show OpV _ _ _ _ (Oper.mk _ (Op.move _) _ _ _ _) _ _; exact xo_move rfl) | (show OpV _ _ _ _ (Oper.mk _ (Op.call ⟨.builtin .len, _, _⟩) _ _ _ _) _ _; first | (apply pl_s rfl; exact xo_slen rfl) | exact xo_len rfl) | (show OpV _ _ _ _ (Oper.mk _ (Op.load _ _) _ _ _ _) _ _; first | (apply pd_st rfl; exact xo_loadS rfl) | exact xo_load1 rfl) | (show OpV _ _ _ _ (Oper.mk _ (Op.assign _) _ _ _ _) _ _; exact xo_assign rfl) | (show OpV _ _ _ _ (Oper.mk _ (Op.binOp _ _ _ _ _) _ _ _ _) _ _; first | (show OpV _ _ _ _ (Oper.mk _ (Op.binOp BinOp.eql _ _ _ _) _ _ _ _) _ _; first | (apply pb_i rfl; exact xo_eql rfl rfl) | (apply pb_s rfl; exact xo_seql rfl rfl) | (apply pb_b rfl; exact xo_beql rfl rfl) | exact xo_aeql rfl rfl) | (show OpV _ _ _ _ (Oper.mk _ (Op.binOp BinOp.neq _ _ _ _) _ _ _ _) _ _; first | (apply pb_i rfl; exact xo_neq rfl rfl) | (apply pb_s rfl; exact xo_sneq rfl rfl) | (apply pb_b rfl; exact xo_bneq rfl rfl) | exact xo_aneq rfl rfl) | (show OpV _ _ _ _ (Oper.mk _ (Op.binOp BinOp.lss _ _ _ _) _ _ _ _) _ _; exact xo_lss rfl rfl) | (show OpV _ _ _ _ (Oper.mk _ (Op.binOp BinOp.leq _ _ _ _) _ _ _ _) _ _; exact xo_leq rfl rfl) | (show OpV _ _ _ _ (Oper.mk _ (Op.binOp BinOp.gtr _ _ _ _) _ _ _ _) _ _; exact xo_gtr rfl rfl) | (show OpV _ _ _ _ (Oper.mk _ (Op.binOp BinOp.geq _ _ _ _) _ _ _ _) _ _; exact xo_geq rfl rfl) | (show OpV _ _ _ _ (Oper.mk _ (Op.binOp BinOp.add _ _ _ _) _ _ _ _) _ _; first | (apply pb_i rfl; exact xo_add rfl rfl) | exact ov_sadd rfl rfl (by first | with_reducible exact fun _ => rfl | with_reducible exact fun h => h | exact fun _ => rfl | exact fun h => h | (intro himp; simp_all; done)) (by first | with_reducible exact fun _ => rfl | with_reducible exact fun h => h | exact fun _ => rfl | exact fun h => h | (intro himp; simp_all; done)) (by intro hcg; first | omega | (simp only [List.length_append, List.length_take, List.length_drop, List.length_cons, List.length_nil, List.length_nil]; omega))) | (show OpV _ _ _ _ (Oper.mk _ (Op.binOp BinOp.sub _ _ _ _) _ _ _ _) _ _; exact xo_sub rfl rfl) | (show OpV _ _ _ _ (Oper.mk _ (Op.binOp BinOp.mul _ _ _ _) _ _ _ _) _ _; exact xo_mul rfl rfl) | (show OpV _ _ _ _ (Oper.mk _ (Op.binOp BinOp.quo _ _ _ _) _ _ _ _) _ _; exact xo_quo rfl rfl) | (show OpV _ _ _ _ (Oper.mk _ (Op.binOp BinOp.rem _ _ _ _) _ _ _ _) _ _; exact xo_rem rfl rfl) ) | (show OpV _ _ _ _ (Oper.mk _ (Op.pick _ _ _) _ _ _ _) _ _; first | exact xo_and rfl rfl | exact xo_or rfl rfl) | (show OpV _ _ _ _ (Oper.mk _ (Op.extract _ _) _ _ _ _) _ _; exact xo_extract rfl) | (show OpV _ _ _ _ (Oper.mk _ (Op.unOp _ _ _) _ _ _ _) _ _; exact xo_not rfl) | (show OpV _ _ _ _ (Oper.mk _ (Op.slice _ _ _ _ _) _ _ _ _) _ _; first | (show OpV _ _ _ _ (Oper.mk _ (Op.slice _ _ (some _) (some _) none) _ _ _ _) _ _; first | (apply ps_s rfl; exact xo_slice rfl rfl rfl) | exact xo_slcB rfl rfl rfl) | (show OpV _ _ _ _ (Oper.mk _ (Op.slice _ _ (some _) none none) _ _ _ _) _ _; first | (apply ps_s rfl; exact xo_from rfl rfl) | exact xo_slcFrom rfl rfl) | (show OpV _ _ _ _ (Oper.mk _ (Op.slice _ _ none (some _) none) _ _ _ _) _ _; first | (apply ps_s rfl; exact xo_to rfl rfl) | exact xo_slcTo rfl rfl) | (show OpV _ _ _ _ (Oper.mk _ (Op.slice _ _ none (some _) (some _)) _ _ _ _) _ _; exact xo_slc3 rfl rfl rfl) ) | (show OpV _ _ _ _ (Oper.mk _ (Op.index _ _ _) _ _ _ _) _ _; exact xo_sindex rfl rfl) | (show OpV _ _ _ _ (Oper.mk _ (Op.convert _ _ _) _ _ _ _) _ _; first | (apply pc_i rfl; exact xo_conv rfl) | exact xo_convBytes rfl) | (show OpV _ _ _ _ (Oper.mk _ (Op.fieldAddr _ _ _) _ _ _ _) _ _; exact xo_fieldAddr rfl) | (show OpV _ _ _ _ (Oper.mk _ (Op.field _ _ _) _ _ _ _) _ _; exact xo_field rfl) | (show OpV _ _ _ _ (Oper.mk _ (Op.build _ _) _ _ _ _) _ _; exact xo_build rfl) | (show OpV _ _ _ _ (Oper.mk _ (Op.makeFunc _ _ _) _ _ _ _) _ _; exact ov_makeFunc rfl rfl) | (show OpV _ _ _ _ (Oper.mk _ (Op.nilCheck _) _ _ _ _) _ _; exact xo_nilCheck rfl)) : WD P ops (o :: rest) n E F C tail k := wd_v hg ho hd hb hsel hF hv h
theorem yd_new {d len : Nat} {o : Oper} {o' : Obj} {tail : List Oper} {F : REnv} (hg : o.guard = none) (ho : o.dst = some d) (hd : Nat.blt d n = true) (hb : belowN n E = true) (hsel : noSel o = true) (hE : look E d = none) (h : WD P ops rest n E ((d, Fresh w0 bs H M len o') :: F) (St w0 bs H M) tail k)
    (hv : OpR P n E (St w0 bs H M) (fun _ => True) o (Fresh w0 bs H M len o') := by exact or_buildSlice rfl rfl (by first | exact (rfl : _ = some 1) | exact (rfl : _ = some 2) | exact (rfl : _ = some 3) | exact (rfl : _ = some 4) | exact (rfl : _ = some 6) | exact rfl) (fun _ => rfl) rfl rfl rfl (by simp only [cellsAll, Value.cells, List.size_toArray, List.length_cons, List.length_nil, Nat.zero_add, Nat.reduceAdd, and_self, if_true, true_and, Option.map_some, List.cons_append, List.nil_append]; first | done | rfl)) : WD P ops (o :: rest) n E F (St w0 bs H M) tail k := wd_new hg ho hd hb hsel hE steady_fresh hv h
theorem yr_layC {M0 : Ghost} {fn : Func} {t b : Nat} {tid : TypeId} {fs : Array Field} {l : List Value} {T : TypeId} {fz : Nat × Nat} {Hn : List (Nat × Obj)} {R : Ghost → List (Nat × Obj) → Value → Prop} (hr : fn.results = #[.cell t tid]) (ht : look E t = some (true, .pointer (some ⟨b, 0, none⟩)))
    (hty : P.underlying tid = some (.struct fs)) (hs : (P.info? tid).map (·.size) = some l.length) (hsi : Since w0 M0 M) (hH : List.Sublist Hn H) (hR : R (With M Hn) [] (.agg l.toArray)) (hm : (b, Obj.cells l.toArray T fz) ∈ H := by exact (by first | exact List.Mem.head _ | exact List.Mem.tail _ (List.Mem.head _) | exact List.Mem.tail _ (List.Mem.tail _ (List.Mem.head _)) | exact List.Mem.tail _ (List.Mem.tail _ (List.Mem.tail _ (List.Mem.head _))) | exact List.Mem.tail _ (List.Mem.tail _ (List.Mem.tail _ (List.Mem.tail _ (List.Mem.head _)))) | exact List.mem_append_right _ (List.Mem.head _) | exact List.mem_append_right _ (List.Mem.tail _ (List.Mem.head _)) | exact List.mem_append_right _ (List.Mem.tail _ (List.Mem.tail _ (List.Mem.head _))) | exact List.mem_append_right _ (List.Mem.tail _ (List.Mem.tail _ (List.Mem.tail _ (List.Mem.head _)))) | exact List.Mem.tail _ (List.mem_append_right _ (List.Mem.head _)) | exact List.Mem.tail _ (List.mem_append_right _ (List.Mem.tail _ (List.Mem.head _))) | exact List.Mem.tail _ (List.mem_append_right _ (List.Mem.tail _ (List.Mem.tail _ (List.Mem.head _)))) | exact List.Mem.tail _ (List.mem_append_right _ (List.Mem.tail _ (List.Mem.tail _ (List.Mem.tail _ (List.Mem.head _))))) | exact List.Mem.tail _ (List.Mem.tail _ (List.mem_append_right _ (List.Mem.head _))) | exact List.Mem.tail _ (List.Mem.tail _ (List.mem_append_right _ (List.Mem.tail _ (List.Mem.head _)))) | exact List.Mem.tail _ (List.Mem.tail _ (List.mem_append_right _ (List.Mem.tail _ (List.Mem.tail _ (List.Mem.head _))))))) : WR n E (St w0 [] H M) (bodyPost P fn (RetS M0 w0 R)) := wr_layC hr ht hty hm hs hsi hH hR
theorem yr_layC2 {M0 : Ghost} {fn : Func} {t u b : Nat} {tid : TypeId} {fs : Array Field} {l : List Value} {T : TypeId} {fz : Nat × Nat} {r : Value} {Hn : List (Nat × Obj)} {R : Ghost → List (Nat × Obj) → Value → Prop} (hr : fn.results = #[.cell t tid, .tmp u]) (ht : look E t = some (true, .pointer (some ⟨b, 0, none⟩))) (hu : look E u = some (true, r))
    (hty : P.underlying tid = some (.struct fs)) (hs : (P.info? tid).map (·.size) = some l.length) (hsi : Since w0 M0 M) (hH : List.Sublist Hn H) (hR : R (With M Hn) [] (.tuple #[.agg l.toArray, r])) (hm : (b, Obj.cells l.toArray T fz) ∈ H := by exact (by first | exact List.Mem.head _ | exact List.Mem.tail _ (List.Mem.head _) | exact List.Mem.tail _ (List.Mem.tail _ (List.Mem.head _)) | exact List.Mem.tail _ (List.Mem.tail _ (List.Mem.tail _ (List.Mem.head _))) | exact List.Mem.tail _ (List.Mem.tail _ (List.Mem.tail _ (List.Mem.tail _ (List.Mem.head _)))) | exact List.mem_append_right _ (List.Mem.head _) | exact List.mem_append_right _ (List.Mem.tail _ (List.Mem.head _)) | exact List.mem_append_right _ (List.Mem.tail _ (List.Mem.tail _ (List.Mem.head _))) | exact List.mem_append_right _ (List.Mem.tail _ (List.Mem.tail _ (List.Mem.tail _ (List.Mem.head _)))) | exact List.Mem.tail _ (List.mem_append_right _ (List.Mem.head _)) | exact List.Mem.tail _ (List.mem_append_right _ (List.Mem.tail _ (List.Mem.head _))) | exact List.Mem.tail _ (List.mem_append_right _ (List.Mem.tail _ (List.Mem.tail _ (List.Mem.head _)))) | exact List.Mem.tail _ (List.mem_append_right _ (List.Mem.tail _ (List.Mem.tail _ (List.Mem.tail _ (List.Mem.head _))))) | exact List.Mem.tail _ (List.Mem.tail _ (List.mem_append_right _ (List.Mem.head _))) | exact List.Mem.tail _ (List.Mem.tail _ (List.mem_append_right _ (List.Mem.tail _ (List.Mem.head _)))) | exact List.Mem.tail _ (List.Mem.tail _ (List.mem_append_right _ (List.Mem.tail _ (List.Mem.tail _ (List.Mem.head _))))))) : WR n E (St w0 [] H M) (bodyPost P fn (RetS M0 w0 R)) := wr_layC2 hr ht hu hty hm hs hsi hH hR
theorem y_append {s src : Operand} {t e : TypeId} {m by' d : Nat} {i : TypeInfo} {z v : Value} {Hs H0 : List (Nat × Obj)} {xs news : List Value} {b c len2 : Nat} {T2 : TypeId} {fz : Nat × Nat} (hg : gd ops E g = some true) (hown : OwnS e m v Hs xs) (hd : Nat.blt d n = true)
    (hx : ev E s = some (true, v)) (hy : ev E src = some (true, .slice (some ⟨b, 0, none⟩) len2 c)) (ht : P.underlying t = some (.slice e)) (hi : P.info? e = some i) (hz : i.zero = some z) (hsz : i.size = m) (hby : i.bytes = by') (hzs : z.cells.size = m) (hm : Nat.blt 0 m = true)
    (hl2 : news.length = len2 * m) (hp : news.all plainV = true) (hb1 : xs.length / m + len2 ≤ 1000000000) (hb2 : Nat.ble by' 140000 = true)
    (h : ∀ v' Hs', OwnS e m v' Hs' (xs ++ news) → WL P ops rest n ((d, true, v') :: E) (St w0 bs (Hs' ++ H0) M) k) (hmem : (b, Obj.cells news.toArray T2 fz) ∈ H := by exact (by first | exact List.Mem.head _ | exact List.Mem.tail _ (List.Mem.head _) | exact List.Mem.tail _ (List.Mem.tail _ (List.Mem.head _)) | exact List.Mem.tail _ (List.Mem.tail _ (List.Mem.tail _ (List.Mem.head _))) | exact List.Mem.tail _ (List.Mem.tail _ (List.Mem.tail _ (List.Mem.tail _ (List.Mem.head _)))) | exact List.mem_append_right _ (List.Mem.head _) | exact List.mem_append_right _ (List.Mem.tail _ (List.Mem.head _)) | exact List.mem_append_right _ (List.Mem.tail _ (List.Mem.tail _ (List.Mem.head _))) | exact List.mem_append_right _ (List.Mem.tail _ (List.Mem.tail _ (List.Mem.tail _ (List.Mem.head _)))) | exact List.Mem.tail _ (List.mem_append_right _ (List.Mem.head _)) | exact List.Mem.tail _ (List.mem_append_right _ (List.Mem.tail _ (List.Mem.head _))) | exact List.Mem.tail _ (List.mem_append_right _ (List.Mem.tail _ (List.Mem.tail _ (List.Mem.head _)))) | exact List.Mem.tail _ (List.mem_append_right _ (List.Mem.tail _ (List.Mem.tail _ (List.Mem.tail _ (List.Mem.head _))))) | exact List.Mem.tail _ (List.Mem.tail _ (List.mem_append_right _ (List.Mem.head _))) | exact List.Mem.tail _ (List.Mem.tail _ (List.mem_append_right _ (List.Mem.tail _ (List.Mem.head _)))) | exact List.Mem.tail _ (List.Mem.tail _ (List.mem_append_right _ (List.Mem.tail _ (List.Mem.tail _ (List.Mem.head _))))))) (hsub : List.Sublist (Hs ++ H0) H := by exact (by repeat (first | exact List.Sublist.refl _ | apply List.Sublist.cons))) :
    WL P ops (⟨some d, .call ⟨.builtin .append, #[s, src], #[t, t]⟩, ty, pos, af, g⟩ :: rest) n E (St w0 bs H M) k := wl_append hg hown hd hx hy ht hi hz hsz hby hzs hm hmem hl2 hp hsub hb1 hb2 h
end
end Go.Eng
/-
  Bytes as numbers: what the walks of texts need; the contract of package pct's Plain.
-/
namespace Go.Proofs.YtmfelfhingmmbaaDoor
open Go.Eng Go.Pct
set_option maxRecDepth 10000
set_option linter.unusedSimpArgs false
set_option linter.unusedVariables false

theorem getD_cast (c : UInt8) (d : UInt8) : ((c.toNat : Int) = (d.toNat : Int)) ↔ c = d := by
  constructor
  · intro h; exact UInt8.toNat_inj.1 (by omega)
  · rintro rfl; rfl
theorem u8_lt (c : UInt8) : (c.toNat : Int) < 256 := by have := c.toNat_lt; omega
theorem u8_eq (c : UInt8) (m : Nat) (hm : m < 256) : ((c.toNat : Int) = (m : Int)) ↔ c = UInt8.ofNat m := by
  constructor
  · intro h; apply UInt8.toNat_inj.1; simp; omega
  · rintro rfl; simp; omega
theorem u8_byt {z : Int} (h0 : 0 ≤ z) (h1 : z ≤ 255) : Value.int .u8 z = byt (UInt8.ofNat z.toNat) := by
  have h3 : z.toNat < 256 := by omega
  have : ((UInt8.ofNat z.toNat).toNat : Int) = z := by simp [Nat.mod_eq_of_lt h3]; omega
  rw [byt, this]
variable {M : Ghost} {w : World}
theorem plain_all (c : UInt8) : ((decide ((97 : Int) ≤ c.toNat) && decide ((c.toNat : Int) ≤ 122) || decide ((65 : Int) ≤ c.toNat) && decide ((c.toNat : Int) ≤ 90) || decide ((48 : Int) ≤ c.toNat) && decide ((c.toNat : Int) ≤ 57) || decide ((c.toNat : Int) = 45) || decide ((c.toNat : Int) = 46) || decide ((c.toNat : Int) = 95) || decide ((c.toNat : Int) = 126)) : Bool) = plainB c := by
  revert c; apply all_bytes; decide +kernel
theorem plain_ok (hM : Laid M w) (c : UInt8) : Calls Tryd.prog 57 #[byt c] w (RetE w (.bool (plainB c))) := by
  refine calls_st (l := [byt c]) hM Tryd.func57 rfl rfl rfl (E0 := [(0, true, byt c)]) (params_cons rfl (params_nil _)) ?_
  repeat' (first | (first | refine wc_seq ?_ | refine wc_region ?_ | refine wl_nil ?_ | refine wn_seq ?_ | refine wn_blk ?_ | refine wc_skip ?_ | refine wc_block ?_ | refine wc_exit rfl ?_ | (show WL _ _ (_ :: _) _ _ _ _; first | refine yl_v rfl rfl rfl ?_ | refine wl_v rfl rfl rfl (by first  | fail) ?_) | refine wc_ret rfl ?_) | (show WC _ (Code.cond _ _ _) _ _ _ _; (refine wc_cond rfl (fun hc => ?_) (fun hc => ?_) <;> (try (simp only [decide_eq_true_eq, decide_eq_false_iff_not, Bool.and_eq_true, Bool.or_eq_true, Bool.and_eq_false_iff, Bool.or_eq_false_iff, Bool.not_eq_true', Bool.not_eq_false', Int.not_lt, Int.not_le] at hc)) <;> (try (exfalso; first | omega | contradiction)))))
  refine wr_tmp rfl rfl ?_
  exact congrArg Value.bool (plain_all c)
end Go.Proofs.YtmfelfhingmmbaaDoor
/-
  The contracts of the functions on headers' bytes: request.lower, request.Alike, response.token, matricularef03.Token, Shown, Alike.
-/
namespace Go.Proofs.YtmfelfhingmmbaaDoor
open Go.Eng Go.Pct Go.Rsp
set_option maxRecDepth 10000
set_option linter.unusedSimpArgs false
set_option linter.unusedVariables false

variable {M : Ghost} {w : World}

theorem tok_no (c : UInt8) : (((plainB c = false ∨ (c.toNat : Int) = 46) ∨ (c.toNat : Int) = 95) ∨ (c.toNat : Int) = 126) → tokC c = false := by revert c; apply all_bytes; decide +kernel
theorem tok_yes (c : UInt8) : (((plainB c = true ∧ ¬ (c.toNat : Int) = 46) ∧ ¬ (c.toNat : Int) = 95) ∧ ¬ (c.toNat : Int) = 126) → tokC c = true := by revert c; apply all_bytes; decide +kernel
theorem rtok_no (c : UInt8) : (((((c.toNat : Int) < 97 ∨ 122 < (c.toNat : Int)) ∧ ((c.toNat : Int) < 65 ∨ 90 < (c.toNat : Int))) ∧ ((c.toNat : Int) < 48 ∨ 57 < (c.toNat : Int))) ∧ ¬ (c.toNat : Int) = 45) → tokC c = false := by revert c; apply all_bytes; decide +kernel
theorem rtok_yes (c : UInt8) : (((97 ≤ (c.toNat : Int) ∧ (c.toNat : Int) ≤ 122 ∨ 65 ≤ (c.toNat : Int) ∧ (c.toNat : Int) ≤ 90) ∨ 48 ≤ (c.toNat : Int) ∧ (c.toNat : Int) ≤ 57) ∨ (c.toNat : Int) = 45) → tokC c = true := by revert c; apply all_bytes; decide +kernel
theorem rtoken_ok (hM : Laid M w) (s : List UInt8) (hs : s.length ≤ 9223372036854775807) : Calls Tryd.prog 23 #[str s] w (RetE w (.bool (tokenB s))) := by
  refine calls_st (l := [str s]) hM Tryd.func23 rfl rfl rfl (E0 := [(0, true, str s)]) (params_cons rfl (params_nil _)) ?_
  repeat' (first | (first | refine wc_seq ?_ | refine wc_region ?_ | refine wl_nil ?_ | refine wn_seq ?_ | refine wn_blk ?_ | refine wc_skip ?_ | refine wc_block ?_ | refine wc_exit rfl ?_ | (show WL _ _ (_ :: _) _ _ _ _; first | refine yl_v rfl rfl rfl ?_ | refine wl_v rfl rfl rfl (by first  | fail) ?_) | refine wc_ret rfl ?_) | (show WC _ (Code.cond _ _ _) _ _ _ _; (refine wc_cond rfl (fun hc => ?_) (fun hc => ?_) <;> (try (simp only [decide_eq_true_eq, decide_eq_false_iff_not, Bool.and_eq_true, Bool.or_eq_true, Bool.and_eq_false_iff, Bool.or_eq_false_iff, Bool.not_eq_true', Bool.not_eq_false', Int.not_lt, Int.not_le] at hc)) <;> (try (exfalso; first | omega | contradiction)))))
  refine wc_loop (α := { i : Nat // i ≤ s.length ∧ ∀ j, j < i → tokC (s.getD j 0) = true }) (fun x => [(0, true, str s), (3, true, i64 (x.1 : Int))]) (fun _ => St w [] [] M) (fun x => s.length - x.1) ⟨0, by omega, by intro j hj; omega⟩ (by first | exact Sub.nil _ | (repeat (first | exact Sub.nil _ | refine Sub.cons (by first | rfl | (simp [look]; done)) ?_))) (fun _ h => h) ?_
  rintro ⟨i, hi, hall⟩
  dsimp only
  repeat' (first | (first | refine wc_seq ?_ | refine wc_region ?_ | refine wl_nil ?_ | refine wn_seq ?_ | refine wn_blk ?_ | refine wc_skip ?_ | refine wc_block ?_ | refine wc_exit rfl ?_ | (show WL _ _ (_ :: _) _ _ _ _; first | refine yl_v rfl rfl rfl ?_ | refine wl_v rfl rfl rfl (by first  | fail) ?_) | refine wc_ret rfl ?_) | (show WC _ (Code.cond _ _ _) _ _ _ _; (refine wc_cond rfl (fun hc => ?_) (fun hc => ?_) <;> (try (simp only [decide_eq_true_eq, decide_eq_false_iff_not, Bool.and_eq_true, Bool.or_eq_true, Bool.and_eq_false_iff, Bool.or_eq_false_iff, Bool.not_eq_true', Bool.not_eq_false', Int.not_lt, Int.not_le] at hc)) <;> (try (exfalso; first | omega | contradiction)))))
  · refine wr_tmp rfl rfl (congrArg Value.bool ?_)
    unfold tokenB
    rw [all_no (i := i) (by omega) (rtok_no _ hc), Bool.false_and]
  · refine wn_cut ⟨i + 1, by omega, ?_⟩ (by show s.length - (i + 1) < s.length - i; omega) (by first | exact Sub.nil _ | (repeat (first | exact Sub.nil _ | refine Sub.cons (by first | rfl | (simp [look]; done)) ?_))) (fun _ h => h)
    intro j hj
    by_cases h : j = i
    · subst h; exact rtok_yes _ hc
    · exact hall j (by omega)
  · refine wr_tmp rfl rfl (congrArg Value.bool ?_)
    unfold tokenB
    rw [all_yes (fun j hj => hall j (by omega)), Bool.true_and]
    cases s <;> simp

end Go.Proofs.YtmfelfhingmmbaaDoor
/-
  Texts without the spcs at both ends: matricularef04.trim.
-/
namespace Go.Proofs.YtmfelfhingmmbaaDoor
open Go.Eng Go.Pct Go.Rsp
set_option maxRecDepth 10000
set_option linter.unusedSimpArgs false
set_option linter.unusedVariables false

variable {M : Ghost} {w : World}

def spc (c : UInt8) : Bool := ([32] : List UInt8).contains c
theorem spc_iff (c : UInt8) : spc c = true ↔ (c.toNat : Int) = 32 := by revert c; apply all_bytes; decide +kernel
def lf1 (s : List UInt8) : List UInt8 := s.dropWhile spc
def rt1 (s : List UInt8) : List UInt8 := (s.reverse.dropWhile spc).reverse
def trim1 (s : List UInt8) : List UInt8 := rt1 (lf1 s)
theorem rt1_nil : rt1 [] = [] := rfl
theorem rt1_snoc (s : List UInt8) (c : UInt8) : rt1 (s ++ [c]) = if spc c = true then rt1 s else s ++ [c] := by
  unfold rt1
  rw [List.reverse_append, List.reverse_singleton, List.singleton_append, List.dropWhile_cons]
  split <;> simp
theorem lf1_cons (s : List UInt8) (c : UInt8) : lf1 (c :: s) = if spc c = true then lf1 s else c :: s := by
  unfold lf1; rw [List.dropWhile_cons]
theorem rt1_cons (s : List UInt8) (c : UInt8) : rt1 (c :: s) = if spc c = true ∧ rt1 s = [] then [] else c :: rt1 s := by
  unfold rt1
  rw [List.reverse_cons, List.dropWhile_append]
  split
  · rename_i h
    have h0 : s.reverse.dropWhile spc = [] := by simpa using h
    rw [h0, List.dropWhile_cons]
    by_cases hb : spc c = true
    · rw [if_pos hb, if_pos ⟨hb, rfl⟩]; rfl
    · rw [if_neg hb, if_neg (fun h => hb h.1)]; rfl
  · rename_i h
    have h0 : ¬ s.reverse.dropWhile spc = [] := by simpa using h
    rw [if_neg (fun hh => h0 (by simpa using hh.2))]; simp
theorem trim1_comm (s : List UInt8) : lf1 (rt1 s) = rt1 (lf1 s) := by
  induction s with
  | nil => rfl
  | cons c r ih =>
    rw [rt1_cons, lf1_cons]
    by_cases hb : spc c = true
    · rw [if_pos hb, ← ih]
      by_cases h0 : rt1 r = []
      · rw [if_pos ⟨hb, h0⟩, h0]
      · rw [if_neg (fun h => h0 h.2), lf1_cons, if_pos hb]
    · rw [if_neg hb, if_neg (fun h => hb h.1), lf1_cons, if_neg hb, rt1_cons, if_neg (fun h => hb h.1)]
theorem lf1_step {t : List UInt8} (h : 0 < t.length) (hb : spc (t.getD 0 0) = true) : lf1 (t.drop 1) = lf1 t := by
  cases t with
  | nil => simp at h
  | cons c r => rw [lf1_cons, if_pos (by simpa using hb)]; rfl
theorem lf1_stop {t : List UInt8} (h : t = [] ∨ spc (t.getD 0 0) = false) : lf1 t = t := by
  cases t with
  | nil => rfl
  | cons c r =>
    rw [lf1_cons, if_neg]
    rcases h with h | h
    · cases h
    · rw [show c = (c :: r).getD 0 0 from rfl, h]; decide
theorem rt1_step {t : List UInt8} (h : 0 < t.length) (hb : spc (t.getD (t.length - 1) 0) = true) : rt1 (t.take (t.length - 1)) = rt1 t := by
  have e : t = t.take (t.length - 1) ++ [t.getD (t.length - 1) 0] := by
    rw [← take_getD (by omega), Nat.sub_add_cancel h, List.take_length]
  conv => rhs; rw [e]
  rw [rt1_snoc, if_pos hb]
theorem rt1_stop {t : List UInt8} (h : t = [] ∨ spc (t.getD (t.length - 1) 0) = false) : rt1 t = t := by
  rcases h with rfl | h
  · rfl
  · cases ht : t with
    | nil => rfl
    | cons a r =>
      rw [← ht]
      have hp : 0 < t.length := by rw [ht]; simp
      have e : t = t.take (t.length - 1) ++ [t.getD (t.length - 1) 0] := by
        rw [← take_getD (by omega), Nat.sub_add_cancel hp, List.take_length]
      rw [e, rt1_snoc, if_neg]
      rw [h]; decide
theorem trim1_lib (s : List UInt8) : Lib.trimS s [32] = trim1 s := trim1_comm s
theorem rtrim1_ok (hM : Laid M w) (s : List UInt8) (hs : s.length ≤ 9223372036854775807) : Calls Tryd.prog 40 #[str s] w (RetE w (str (trim1 s))) := by
  refine calls_st (l := [str s]) hM Tryd.func40 rfl rfl rfl (E0 := [(0, true, str s)]) (params_cons rfl (params_nil _)) ?_
  repeat' (first | (first | refine wc_seq ?_ | refine wc_region ?_ | refine wl_nil ?_ | refine wn_seq ?_ | refine wn_blk ?_ | refine wc_skip ?_ | refine wc_block ?_ | refine wc_exit rfl ?_ | (show WL _ _ (_ :: _) _ _ _ _; first | refine yl_v rfl rfl rfl ?_ | refine wl_v rfl rfl rfl (by first  | fail) ?_) | refine wc_ret rfl ?_) | (show WC _ (Code.cond _ _ _) _ _ _ _; (refine wc_cond rfl (fun hc => ?_) (fun hc => ?_) <;> (try (simp only [decide_eq_true_eq, decide_eq_false_iff_not, Bool.and_eq_true, Bool.or_eq_true, Bool.and_eq_false_iff, Bool.or_eq_false_iff, Bool.not_eq_true', Bool.not_eq_false', Int.not_lt, Int.not_le] at hc)) <;> (try (exfalso; first | omega | contradiction)))))
  refine wc_loop (α := { t : List UInt8 // lf1 t = lf1 s ∧ t.length ≤ s.length }) (fun x => [(0, true, str x.1)]) (fun _ => St w [] [] M) (fun x => x.1.length) ⟨s, rfl, Nat.le_refl _⟩ (by first | exact Sub.nil _ | (repeat (first | exact Sub.nil _ | refine Sub.cons (by first | rfl | (simp [look]; done)) ?_))) (fun _ h => h) ?_
  rintro ⟨t, ht, hl⟩
  dsimp only
  repeat' (first | (first | refine wc_seq ?_ | refine wc_region ?_ | refine wl_nil ?_ | refine wn_seq ?_ | refine wn_blk ?_ | refine wc_skip ?_ | refine wc_block ?_ | refine wc_exit rfl ?_ | (show WL _ _ (_ :: _) _ _ _ _; first | refine yl_v rfl rfl rfl ?_ | refine wl_v rfl rfl rfl (by first  | fail) ?_) | refine wc_ret rfl ?_) | (show WC _ (Code.cond _ _ _) _ _ _ _; (refine wc_cond rfl (fun hc => ?_) (fun hc => ?_) <;> (try (simp only [decide_eq_true_eq, decide_eq_false_iff_not, Bool.and_eq_true, Bool.or_eq_true, Bool.and_eq_false_iff, Bool.or_eq_false_iff, Bool.not_eq_true', Bool.not_eq_false', Int.not_lt, Int.not_le] at hc)) <;> (try (exfalso; first | omega | contradiction)))))
  · refine wn_cut ⟨t.drop 1, by rw [lf1_step (by omega) ((spc_iff _).2 hc.2), ht], by rw [List.length_drop]; omega⟩ (by show (t.drop 1).length < t.length; rw [List.length_drop]; omega) (by first | exact Sub.nil _ | (repeat (first | exact Sub.nil _ | refine Sub.cons (by first | rfl | (simp [look]; done)) ?_))) (fun _ h => h)
  have hst : lf1 t = t := lf1_stop (by
    rcases hc with h | h
    · exact .inl (List.eq_nil_of_length_eq_zero (by omega))
    · refine .inr ?_
      rw [Bool.eq_false_iff]; intro hb
      exact h ((spc_iff _).1 hb))
  rw [hst] at ht
  subst ht
  clear hc
  refine wc_loop (α := { t : List UInt8 // rt1 t = trim1 s ∧ t.length ≤ s.length }) (fun x => [(0, true, str x.1)]) (fun _ => St w [] [] M) (fun x => x.1.length) ⟨lf1 s, rfl, hl⟩ (by first | exact Sub.nil _ | (repeat (first | exact Sub.nil _ | refine Sub.cons (by first | rfl | (simp [look]; done)) ?_))) (fun _ h => h) ?_
  rintro ⟨t, ht, hl⟩
  dsimp only
  rcases Nat.eq_zero_or_pos t.length with h0 | hpos
  · have e0 : t = [] := List.eq_nil_of_length_eq_zero h0
    subst e0
    have e2 : trim1 s = [] := ht.symm
    repeat' (first | (first | refine wc_seq ?_ | refine wc_region ?_ | refine wl_nil ?_ | refine wn_seq ?_ | refine wn_blk ?_ | refine wc_skip ?_ | refine wc_block ?_ | refine wc_exit rfl ?_ | (show WL _ _ (_ :: _) _ _ _ _; first | refine yl_v rfl rfl rfl ?_ | refine wl_v rfl rfl rfl (by first | (show OpV _ _ _ _ (Oper.mk _ (Op.index _ _ _) _ _ _ _) _ _; exact ov_off (v := byt 0) rfl) | fail) ?_) | refine wc_ret rfl ?_) | (show WC _ (Code.cond _ _ _) _ _ _ _; (refine wc_cond rfl (fun hc => ?_) (fun hc => ?_) <;> (try (simp only [decide_eq_true_eq, decide_eq_false_iff_not, Bool.and_eq_true, Bool.or_eq_true, Bool.and_eq_false_iff, Bool.or_eq_false_iff, Bool.not_eq_true', Bool.not_eq_false', Int.not_lt, Int.not_le] at hc)) <;> (try (exfalso; first | omega | contradiction)))))
    all_goals (rw [e2]; exact wr_tmp rfl rfl rfl)
  repeat' (first | (first | refine wc_seq ?_ | refine wc_region ?_ | refine wl_nil ?_ | refine wn_seq ?_ | refine wn_blk ?_ | refine wc_skip ?_ | refine wc_block ?_ | refine wc_exit rfl ?_ | (show WL _ _ (_ :: _) _ _ _ _; first | refine yl_v rfl rfl rfl ?_ | refine wl_v rfl rfl rfl (by first  | fail) ?_) | refine wc_ret rfl ?_) | (show WC _ (Code.cond _ _ _) _ _ _ _; (refine wc_cond rfl (fun hc => ?_) (fun hc => ?_) <;> (try (simp only [decide_eq_true_eq, decide_eq_false_iff_not, Bool.and_eq_true, Bool.or_eq_true, Bool.and_eq_false_iff, Bool.or_eq_false_iff, Bool.not_eq_true', Bool.not_eq_false', Int.not_lt, Int.not_le] at hc)) <;> (try (exfalso; first | omega | contradiction)))))
  · refine wn_cut ⟨t.take (t.length - 1), by rw [rt1_step (by omega) ((spc_iff _).2 hc.2), ht], by rw [List.length_take]; omega⟩ (by show (t.take (t.length - 1)).length < t.length; rw [List.length_take]; omega) (by first | exact Sub.nil _ | (repeat (first | exact Sub.nil _ | refine Sub.cons (by first | rfl | (simp [look]; done)) ?_))) (fun _ h => h)
  have hst2 : rt1 t = t := rt1_stop (by
    rcases hc with h | h
    · exact .inl (List.eq_nil_of_length_eq_zero (by omega))
    · refine .inr ?_
      rw [Bool.eq_false_iff]; intro hb
      exact h ((spc_iff _).1 hb))
  rw [hst2] at ht
  subst ht
  exact wr_tmp rfl rfl rfl
end Go.Proofs.YtmfelfhingmmbaaDoor
/-
  Cookies, plainly: what the functions of package cookie compute. No program stands here.
-/
namespace Go.Ck
open Go.Pct Go.Txt Go.Proofs.YtmfelfhingmmbaaDoor
open Go.Rsp (tokC tokenB)
open Go.Url (digC valD dec_all)
set_option linter.unusedVariables false
set_option linter.unusedSimpArgs false

structure Ckie where
  name : List UInt8
  value : List UInt8
  path : List UInt8
  age : Int
  secure : Bool
  http : Bool
  deriving DecidableEq
def valC (c : UInt8) : Bool := (33 ≤ c.toNat && c.toNat ≤ 126) && !([34, 44, 59, 92] : List UInt8).contains c
def valueB (s : List UInt8) : Bool := s.all valC

/-! ### what is sent -/
def ckPair (x : List UInt8) : Option Pr :=
  if idx 61 x < x.length then (if tokenB (x.take (idx 61 x)) = true ∧ valueB (x.drop (idx 61 x + 1)) = true then some (x.take (idx 61 x), x.drop (idx 61 x + 1)) else none) else none
def sentGo : List (List UInt8) → List Pr → List Pr × Int
  | [], out => (out, 0)
  | x :: r, out => if trim1 x = [] then sentGo r out else if 20 ≤ out.length then ([], 5) else match ckPair (trim1 x) with
    | none => ([], 10)
    | some p => sentGo r (out ++ [p])
def sentP (s : List UInt8) : List Pr × Int := sentGo (pieces 59 s) []
def eqP (p : Pr) : List UInt8 := p.1 ++ 61 :: p.2
def lineP : List Pr → List UInt8
  | [] => []
  | p :: l => eqP p ++ l.flatMap fun q => 59 :: 32 :: eqP q

/-! ### one that is set -/
def rightC (c : Ckie) : Bool := tokenB c.name && valueB c.value && decide (c.path.head? = some 47) && valueB c.path && decide (-1 ≤ c.age) && decide (c.age ≤ 99999999)
def sPath : List UInt8 := [59, 32, 80, 97, 116, 104, 61]
def sAge : List UInt8 := [59, 32, 77, 97, 120, 45, 65, 103, 101, 61]
def sSec : List UInt8 := [59, 32, 83, 101, 99, 117, 114, 101]
def sHo : List UInt8 := [59, 32, 72, 116, 116, 112, 79, 110, 108, 121]
def ageT (z : Int) : List UInt8 := if 0 ≤ z then sAge ++ Lib.decDigits z.toNat else []
def secT (b : Bool) : List UInt8 := if b = true then sSec else []
def hoT (b : Bool) : List UInt8 := if b = true then sHo else []
def setC (c : Ckie) : List UInt8 := c.name ++ 61 :: (c.value ++ (sPath ++ (c.path ++ (ageT c.age ++ (secT c.secure ++ hoT c.http)))))
def setP (c : Ckie) : List UInt8 × Int := if rightC c = true then (setC c, 0) else ([], 1)
def numP (d : List UInt8) : Int := if d.all digC = true ∧ d.length ≤ 9 ∧ d ≠ [] ∧ ¬ (1 < d.length ∧ d.head? = some 48) then (valD d : Int) else -1
def ageP (r : List UInt8) : Option (Int × List UInt8) :=
  if sAge.isPrefixOf r = true then (if numP ((r.drop 10).take (idx 59 (r.drop 10))) < 0 then none else some (numP ((r.drop 10).take (idx 59 (r.drop 10))), (r.drop 10).drop (idx 59 (r.drop 10)))) else some (-1, r)
def secP (r : List UInt8) : Bool × List UInt8 := if sSec.isPrefixOf r = true then (true, r.drop 8) else (false, r)
def hoP (r : List UInt8) : Bool × List UInt8 := if r = sHo then (true, []) else (false, r)
/-- by what must stand there -/
def readP (s : List UInt8) : Option Ckie :=
  if idx 61 s < s.length then
    if sPath.isPrefixOf ((s.drop (idx 61 s + 1)).drop (idx 59 (s.drop (idx 61 s + 1)))) = true then
      match ageP ((((s.drop (idx 61 s + 1)).drop (idx 59 (s.drop (idx 61 s + 1)))).drop 7).drop (idx 59 (((s.drop (idx 61 s + 1)).drop (idx 59 (s.drop (idx 61 s + 1)))).drop 7))) with
      | none => none
      | some (age, r5) =>
        if (hoP (secP r5).2).2 = [] ∧ rightC ⟨s.take (idx 61 s), (s.drop (idx 61 s + 1)).take (idx 59 (s.drop (idx 61 s + 1))), (((s.drop (idx 61 s + 1)).drop (idx 59 (s.drop (idx 61 s + 1)))).drop 7).take (idx 59 (((s.drop (idx 61 s + 1)).drop (idx 59 (s.drop (idx 61 s + 1)))).drop 7)), age, (secP r5).1, (hoP (secP r5).2).1⟩ = true then
          some ⟨s.take (idx 61 s), (s.drop (idx 61 s + 1)).take (idx 59 (s.drop (idx 61 s + 1))), (((s.drop (idx 61 s + 1)).drop (idx 59 (s.drop (idx 61 s + 1)))).drop 7).take (idx 59 (((s.drop (idx 61 s + 1)).drop (idx 59 (s.drop (idx 61 s + 1)))).drop 7)), age, (secP r5).1, (hoP (secP r5).2).1⟩
        else none
    else none
  else none
/-- by its pieces -/
def cut1 (x : List UInt8) : List UInt8 × List UInt8 := match cutS [61] x with
  | some q => q
  | none => (x, [])
def stepC (c : Ckie) (x : List UInt8) : Ckie :=
  if (cut1 x).1 = [80, 97, 116, 104] then { c with path := (cut1 x).2 }
  else if (cut1 x).1 = [77, 97, 120, 45, 65, 103, 101] then { c with age := atoiV (cut1 x).2 }
  else if (cut1 x).1 = [83, 101, 99, 117, 114, 101] then { c with secure := true }
  else if (cut1 x).1 = [72, 116, 116, 112, 79, 110, 108, 121] then { c with http := true } else c
def pkP (s : List UInt8) : Ckie := ((Lib.split s [59, 32]).drop 1).foldl stepC ⟨(cut1 ((Lib.split s [59, 32]).getD 0 [])).1, (cut1 ((Lib.split s [59, 32]).getD 0 [])).2, [], -1, false, false⟩

/-! ### a jar -/
def sameC (a b : Ckie) : Bool := decide (a.name = b.name) && decide (a.path = b.path)
def laidC (l : List Ckie) (c : Ckie) : List Ckie := l.filter (fun x => !sameC x c) ++ (if c.age = 0 then [] else [c])
def putP (l : List Ckie) (c : Ckie) : List Ckie × Int := if rightC c = true then (if 20 < (laidC l c).length then (l, 5) else (laidC l c, 0)) else (l, 1)
def underP (path top : List UInt8) : Bool := top.isPrefixOf path && (decide (path.length = top.length) || decide (top.getLast? = some 47) || decide ((path.drop top.length).head? = some 47))
def pairsP (l : List Ckie) (path : List UInt8) (secure : Bool) : List Pr := (l.filter fun c => underP path c.path && (secure || !c.secure)).map fun c => (c.name, c.value)

/-! ### lines are read -/
theorem token_no {s : List UInt8} (h : tokenB s = true) : s ≠ [] ∧ 61 ∉ s ∧ 59 ∉ s ∧ 32 ∉ s := by
  unfold tokenB at h
  simp only [Bool.and_eq_true, Bool.not_eq_true'] at h
  have h1 := List.all_eq_true.1 h.1
  refine ⟨by rintro rfl; simp at h, fun hm => ?_, fun hm => ?_, fun hm => ?_⟩ <;> (have := h1 _ hm; revert this; decide)
theorem value_no {s : List UInt8} (h : valueB s = true) : 59 ∉ s ∧ 32 ∉ s := by
  have h1 := List.all_eq_true.1 h
  refine ⟨fun hm => ?_, fun hm => ?_⟩ <;> (have := h1 _ hm; revert this; decide)
theorem trim1_none {s : List UInt8} (h : 32 ∉ s) : trim1 s = s := by
  have key : ∀ c ∈ s, spc c = false := fun c hc => by
    cases hs : spc c with
    | false => rfl
    | true => have h2 := (spc_iff c).1 hs
              have : c = 32 := by apply UInt8.toNat_inj.1; show c.toNat = 32; omega
              subst this; exact absurd hc h
  unfold trim1
  have h1 : lf1 s = s := by
    cases s with
    | nil => rfl
    | cons c r => rw [lf1_cons, if_neg (by rw [key c (List.mem_cons_self ..)]; decide)]
  rw [h1]
  rcases List.eq_nil_or_concat s with rfl | ⟨a, c, rfl⟩
  · rfl
  · rw [List.concat_eq_append, rt1_snoc, if_neg (by rw [key c (by simp)]; decide)]
theorem eqP_no {p : Pr} (h1 : tokenB p.1 = true) (h2 : valueB p.2 = true) : 59 ∉ eqP p ∧ 32 ∉ eqP p ∧ eqP p ≠ [] ∧ ckPair (eqP p) = some p := by
  obtain ⟨n0, n1, n2, n3⟩ := token_no h1
  obtain ⟨v1, v2⟩ := value_no h2
  refine ⟨?_, ?_, by simp [eqP], ?_⟩
  · unfold eqP; simp only [List.mem_append, List.mem_cons, not_or]; exact ⟨n2, by decide, v1⟩
  · unfold eqP; simp only [List.mem_append, List.mem_cons, not_or]; exact ⟨n3, by decide, v2⟩
  · have hi : idx 61 (eqP p) = p.1.length := idx_append n1
    have e1 : (eqP p).take p.1.length = p.1 := by simp [eqP]
    have e2 : (eqP p).drop (p.1.length + 1) = p.2 := by simp [eqP]
    unfold ckPair
    rw [hi, e1, e2, if_pos (by simp [eqP]), if_pos ⟨h1, h2⟩]
theorem pieces_line : ∀ (l : List Pr) (a : List UInt8), 59 ∉ a → (∀ q ∈ l, 59 ∉ eqP q) → pieces 59 (a ++ l.flatMap fun q => 59 :: 32 :: eqP q) = a :: l.map fun q => 32 :: eqP q
  | [], a, ha, _ => by simp [pieces_no ha]
  | q :: l, a, ha, h => by
    rw [List.flatMap_cons, List.cons_append, pieces_hit ha, List.cons_append, ← List.cons_append, pieces_line l (32 :: eqP q) (by simp only [List.mem_cons, not_or]; exact ⟨by decide, h q (List.mem_cons_self ..)⟩) (fun x hx => h x (List.mem_cons_of_mem _ hx))]; rfl
theorem trim1_lead {s : List UInt8} : trim1 (32 :: s) = trim1 s := by
  unfold trim1
  rw [lf1_cons, if_pos ((spc_iff 32).2 (by decide))]
theorem sentGo_line : ∀ (l out : List Pr), (∀ p ∈ l, tokenB p.1 = true ∧ valueB p.2 = true) → out.length ≤ 20 → sentGo (l.map fun q => 32 :: eqP q) out = if out.length + l.length ≤ 20 then (out ++ l, 0) else ([], 5)
  | [], out, _, ho => by simp [sentGo, ho]
  | p :: l, out, h, ho => by
    obtain ⟨h1, h2⟩ := h p (List.mem_cons_self ..)
    obtain ⟨e1, e2, e3, e4⟩ := eqP_no h1 h2
    rw [List.map_cons, sentGo, trim1_lead, trim1_none e2, if_neg e3]
    by_cases hf : 20 ≤ out.length
    · rw [if_pos hf, if_neg (by simp only [List.length_cons]; omega)]
    · rw [if_neg hf, e4]
      simp only
      rw [sentGo_line l (out ++ [p]) (fun q hq => h q (List.mem_cons_of_mem _ hq)) (by rw [List.length_append]; simp; omega)]
      simp only [List.length_append, List.length_cons, List.length_nil, List.append_assoc, List.singleton_append]
      by_cases h3 : out.length + (l.length + 1) ≤ 20
      · rw [if_pos h3, if_pos (by omega)]
      · rw [if_neg h3, if_neg (by omega)]
theorem sent_line {l : List Pr} (h : ∀ p ∈ l, tokenB p.1 = true ∧ valueB p.2 = true) : sentP (lineP l) = if l.length ≤ 20 then (l, 0) else ([], 5) := by
  cases l with
  | nil => decide +kernel
  | cons p l =>
    obtain ⟨h1, h2⟩ := h p (List.mem_cons_self ..)
    obtain ⟨e1, e2, e3, e4⟩ := eqP_no h1 h2
    unfold sentP
    rw [lineP, pieces_line l (eqP p) e1 (fun q hq => (eqP_no (h q (List.mem_cons_of_mem _ hq)).1 (h q (List.mem_cons_of_mem _ hq)).2).1)]
    have := sentGo_line (p :: l) [] h (by simp)
    rw [List.map_cons, sentGo, trim1_lead] at this
    rw [sentGo, this]
    simp

/-! ### what is set is read -/
theorem idx_stop {c : UInt8} {a r : List UInt8} (ha : c ∉ a) (hr : r = [] ∨ ∃ t, r = c :: t) : idx c (a ++ r) = a.length := by
  rcases hr with rfl | ⟨t, rfl⟩
  · rw [List.append_nil]; exact idx_no ha
  · exact idx_append ha
theorem pre_app (p r : List UInt8) : p.isPrefixOf (p ++ r) = true := by rw [List.isPrefixOf_iff_prefix]; exact List.prefix_append _ _
theorem dec_no59 (n : Nat) : 59 ∉ Lib.decDigits n := fun hm => by have := List.all_eq_true.1 (dec_all n).1 _ hm; revert this; decide
theorem num_dec {n : Nat} (h : n ≤ 99999999) : numP (Lib.decDigits n) = n := by
  obtain ⟨g1, g2, g3, g4⟩ := dec_all n
  unfold numP
  have hl := Url.dec_five 7 n (by omega)
  have hx : ¬ (1 < (Lib.decDigits n).length ∧ (Lib.decDigits n).head? = some 48) := by
    rintro ⟨h1, h2⟩
    rcases Nat.eq_zero_or_pos n with rfl | hp
    · rw [Lib.decDigits, dif_pos (by decide)] at h1; simp at h1
    · exact g3 hp h2
  rw [if_pos ⟨g1, by omega, g4, hx⟩, g2]
theorem dec_val : ∀ (k : Nat) (d : List UInt8), d.length ≤ k → d.all digC = true → d ≠ [] → ¬ (1 < d.length ∧ d.head? = some 48) → Lib.decDigits (valD d) = d
  | 0, d, hk, _, hne, _ => absurd (List.eq_nil_of_length_eq_zero (by omega)) hne
  | k + 1, d, hk, hd, hne, h0 => by
    rcases List.eq_nil_or_concat d with rfl | ⟨a, c, rfl⟩
    · exact absurd rfl hne
    · rw [List.concat_eq_append] at *
      rw [List.all_append, Bool.and_eq_true] at hd
      have hc : digC c = true := by simpa using hd.2
      have key : ∀ c : UInt8, digC c = true → c.toNat - 48 < 10 ∧ UInt8.ofNat (48 + (c.toNat - 48)) = c := by intro c; revert c; apply all_bytes; decide +kernel
      obtain ⟨k1, k2⟩ := key c hc
      rw [Url.valD_end]
      by_cases ha : a = []
      · subst ha
        rw [Lib.decDigits, dif_pos (by simp [valD]; omega)]
        simp [valD, k2]
      · have hl : 0 < a.length := List.length_pos_iff.2 ha
        have hh : a.head? ≠ some 48 := fun e => h0 ⟨by rw [List.length_append]; simp; omega, by
          cases a with
          | nil => exact absurd rfl ha
          | cons x t => simpa using e⟩
        have ih := dec_val k a (by rw [List.length_append] at hk; simp at hk; omega) hd.1 ha (fun h => hh h.2)
        have hv : 0 < valD a := by
          rcases Nat.eq_zero_or_pos (valD a) with h | h
          · exfalso
            rw [h] at ih
            rw [Lib.decDigits, dif_pos (by decide)] at ih
            rw [← ih] at hh; exact hh rfl
          · exact h
        rw [Lib.decDigits, dif_neg (by omega), show (10 * valD a + (c.toNat - 48)) / 10 = valD a by omega, show (10 * valD a + (c.toNat - 48)) % 10 = c.toNat - 48 by omega, ih, k2]
theorem num_back {d : List UInt8} (h : ¬ numP d < 0) : numP d = (valD d : Int) ∧ Lib.decDigits (valD d) = d := by
  unfold numP at h ⊢
  split at h
  · rename_i hc
    rw [if_pos hc]
    exact ⟨rfl, dec_val _ d (Nat.le_refl _) hc.1 hc.2.2.1 hc.2.2.2⟩
  · exact absurd (by decide) h
theorem pre_split2 {p r : List UInt8} (h : p.isPrefixOf r = true) : r = p ++ r.drop p.length := pre_split h
theorem age_back {r r5 : List UInt8} {z : Int} (h : ageP r = some (z, r5)) : r = ageT z ++ r5 := by
  unfold ageP at h
  split at h
  · rename_i hp
    split at h
    · cases h
    · rename_i hn
      simp only [Option.some.injEq, Prod.mk.injEq] at h
      obtain ⟨rfl, rfl⟩ := h
      obtain ⟨n1, n2⟩ := num_back hn
      unfold ageT
      rw [if_pos (by omega), n1, Int.toNat_natCast, n2, List.append_assoc, List.take_append_drop]
      exact pre_split2 hp
  · simp only [Option.some.injEq, Prod.mk.injEq] at h
    obtain ⟨rfl, rfl⟩ := h
    rfl
theorem sec_back (r : List UInt8) : r = secT (secP r).1 ++ (secP r).2 := by
  unfold secP
  split
  · rename_i h; exact pre_split2 h
  · rfl
theorem ho_back {r : List UInt8} (h : (hoP r).2 = []) : r = hoT (hoP r).1 := by
  unfold hoP at *
  split
  · rename_i e; rw [e]; rfl
  · rename_i e; rw [if_neg e] at h; exact h
theorem read_set {s : List UInt8} {c : Ckie} (h : readP s = some c) : rightC c = true ∧ setC c = s := by
  unfold readP at h
  split at h
  · rename_i hi
    have e1 := at_idx hi
    generalize s.take (idx 61 s) = name at *
    generalize s.drop (idx 61 s + 1) = r1 at *
    split at h
    · rename_i hp
      have e2 := (List.take_append_drop (idx 59 r1) r1).symm
      generalize r1.take (idx 59 r1) = value at *
      generalize r1.drop (idx 59 r1) = r2 at *
      have e3 : r2 = sPath ++ r2.drop 7 := pre_split2 hp
      generalize r2.drop 7 = r3 at *
      have e4 := (List.take_append_drop (idx 59 r3) r3).symm
      generalize r3.take (idx 59 r3) = path at *
      generalize r3.drop (idx 59 r3) = r4 at *
      split at h
      · cases h
      · rename_i age r5 ha
        have e5 := age_back ha
        have e6 := sec_back r5
        generalize (secP r5).1 = sec at *
        generalize (secP r5).2 = r6 at *
        split at h
        · rename_i hc
          injection h with h
          subst h
          have e7 := ho_back hc.1
          refine ⟨hc.2, ?_⟩
          unfold setC
          simp only
          rw [← e7, ← e6, ← e5, ← e4, ← e3, ← e2, ← e1]
        · cases h
    · cases h
  · cases h
theorem right_parts {c : Ckie} (h : rightC c = true) : tokenB c.name = true ∧ valueB c.value = true ∧ c.path.head? = some 47 ∧ valueB c.path = true ∧ -1 ≤ c.age ∧ c.age ≤ 99999999 := by
  unfold rightC at h
  simp only [Bool.and_eq_true, decide_eq_true_eq] at h
  exact ⟨h.1.1.1.1.1, h.1.1.1.1.2, h.1.1.1.2, h.1.1.2, h.1.2, h.2⟩
theorem tail_ageP (z : Int) (h1 : -1 ≤ z) (h2 : z ≤ 99999999) (a b : Bool) : ageP (ageT z ++ (secT a ++ hoT b)) = some (z, secT a ++ hoT b) := by
  have hst : ∀ a b, secT a ++ hoT b = [] ∨ ∃ t, secT a ++ hoT b = 59 :: t := by
    intro a b; cases a <;> cases b <;> simp [secT, hoT, sSec, sHo]
  by_cases h0 : 0 ≤ z
  · obtain ⟨n, rfl⟩ : ∃ n : Nat, z = n := ⟨z.toNat, by omega⟩
    unfold ageT
    rw [if_pos h0, Int.toNat_natCast, List.append_assoc]
    unfold ageP
    have e1 : (sAge ++ (Lib.decDigits n ++ (secT a ++ hoT b))).drop 10 = Lib.decDigits n ++ (secT a ++ hoT b) := rfl
    rw [if_pos (pre_app _ _), e1, idx_stop (dec_no59 n) (hst a b), List.take_left, List.drop_left, num_dec (by omega), if_neg (by omega)]
  · have e0 : z = -1 := by omega
    subst e0
    cases a <;> cases b <;> decide +kernel
theorem set_read {c : Ckie} (h : rightC c = true) : readP (setC c) = some c := by
  obtain ⟨p1, p2, p3, p4, p5, p6⟩ := right_parts h
  obtain ⟨n0, n1, n2, n3⟩ := token_no p1
  obtain ⟨v1, v2⟩ := value_no p2
  obtain ⟨w1, w2⟩ := value_no p4
  have hta := tail_ageP c.age p5 p6 c.secure c.http
  have hst : ageT c.age ++ (secT c.secure ++ hoT c.http) = [] ∨ ∃ t, ageT c.age ++ (secT c.secure ++ hoT c.http) = 59 :: t := by
    unfold ageT secT hoT
    by_cases h0 : 0 ≤ c.age
    · rw [if_pos h0]; exact .inr ⟨_, rfl⟩
    · rw [if_neg h0]; cases c.secure <;> cases c.http <;> simp [sSec, sHo]
  have hse : hoP (secP (secT c.secure ++ hoT c.http)).2 = (c.http, []) ∧ (secP (secT c.secure ++ hoT c.http)).1 = c.secure := by
    cases c.secure <;> cases c.http <;> decide +kernel
  unfold setC
  generalize hX : ageT c.age ++ (secT c.secure ++ hoT c.http) = X at *
  have i1 : idx 61 (c.name ++ 61 :: (c.value ++ (sPath ++ (c.path ++ X)))) = c.name.length := idx_append n1
  have i2 : idx 59 (c.value ++ (sPath ++ (c.path ++ X))) = c.value.length := idx_stop v1 (.inr ⟨_, rfl⟩)
  have i3 : idx 59 (c.path ++ X) = c.path.length := idx_stop w1 hst
  have d1 : (c.name ++ 61 :: (c.value ++ (sPath ++ (c.path ++ X)))).drop (c.name.length + 1) = c.value ++ (sPath ++ (c.path ++ X)) := by
    rw [← List.drop_drop, List.drop_left]; rfl
  have d2 : (sPath ++ (c.path ++ X)).drop 7 = c.path ++ X := rfl
  unfold readP
  rw [i1, d1, i2, List.drop_left, d2, i3, List.drop_left, List.take_left, List.take_left, List.take_left, hta]
  simp only
  rw [if_pos (by simp), if_pos (pre_app _ _), hse.1, hse.2, if_pos ⟨rfl, h⟩]
theorem read_iff {s : List UInt8} {c : Ckie} : readP s = some c ↔ rightC c = true ∧ setC c = s :=
  ⟨read_set, fun ⟨h1, h2⟩ => by rw [← h2]; exact set_read h1⟩
end Go.Ck
/-
  DERIVED: THE SHELF's CONTRACTS AT THIS DUMP, IN PLAIN WORDS (tools/lay-plain.mjs out of 'TrydShelf.lean', which tools/lay-shelf.mjs wrote): THE SAME DECLARATIONS UNDER THE SAME NAMES: 'import', 'namespace', 'open', 'def', 'theorem' AND NOTHING ELSE: no command of the shelf's: FOR A HAND-IN. Each laying: the table of numbers ('.._ren') and one theorem, a field a fact of the dump's own or the kernel's comparison; each contract: ONE APPLICATION.
-/
namespace Go.Proofs
open Go.Shelf
def Tryd.lays156_ren : Go.Shelf.Ren := ⟨fun | 156 => 41 | 165 => 58 | 166 => 59 | 169 => 60 | 240 => 75 | 241 => 76 | 276 => 92 | 277 => 93 | n => n, fun | 31 => 59 | 9 => 9 | 3 => 3 | 4 => 4 | 0 => 0 | 20 => 20 | 72 => 87 | 76 => 70 | 70 => 84 | 37 => 85 | 75 => 69 | 127 => 96 | 164 => 109 | 5 => 5 | 80 => 89 | n => n, fun | n => n⟩
theorem Tryd.lays156 : Go.Proofs.Lays.n156 Tryd.prog Tryd.lays156_ren := {
  mixed := by kernel_rfl
  f156 := Tryd.func41.trans (congrArg some (by kernel_rfl))
  f165 := Tryd.func58.trans (congrArg some (by kernel_rfl))
  f166 := Tryd.func59.trans (congrArg some (by kernel_rfl))
  f169 := Tryd.func60.trans (congrArg some (by kernel_rfl))
  f240 := Tryd.func75.trans (congrArg some (by kernel_rfl))
  f241 := Tryd.func76.trans (congrArg some (by kernel_rfl))
  f276 := Tryd.func92.trans (congrArg some (by kernel_rfl))
  f277 := Tryd.func93.trans (congrArg some (by kernel_rfl))
  t0 := Tryd.underlying0
  a0 := Tryd.isAgg0
  z0 := Tryd.sizeOf0
  v0 := Tryd.zeroValue0
  t3 := Tryd.underlying3
  a3 := Tryd.isAgg3
  z3 := Tryd.sizeOf3
  v3 := Tryd.zeroValue3
  t4 := Tryd.underlying4
  a4 := Tryd.isAgg4
  z4 := Tryd.sizeOf4
  v4 := Tryd.zeroValue4
  t9 := Tryd.underlying9
  a9 := Tryd.isAgg9
  z9 := Tryd.sizeOf9
  v9 := Tryd.zeroValue9
  t20 := Tryd.underlying20
  a20 := Tryd.isAgg20
  z20 := Tryd.sizeOf20
  v20 := Tryd.zeroValue20
  t31 := Tryd.underlying59
  a31 := Tryd.isAgg59
  z31 := Tryd.sizeOf59
  v31 := Tryd.zeroValue59
  t37 := Tryd.underlying85
  a37 := Tryd.isAgg85
  z37 := Tryd.sizeOf85
  v37 := Tryd.zeroValue85
  t70 := Tryd.underlying84
  a70 := Tryd.isAgg84
  z70 := Tryd.sizeOf84
  v70 := Tryd.zeroValue84
  t72 := Tryd.underlying87
  a72 := Tryd.isAgg87
  z72 := Tryd.sizeOf87
  v72 := Tryd.zeroValue87
  t75 := Tryd.underlying69
  a75 := Tryd.isAgg69
  z75 := Tryd.sizeOf69
  v75 := Tryd.zeroValue69
  t76 := Tryd.underlying70
  a76 := Tryd.isAgg70
  z76 := Tryd.sizeOf70
  v76 := Tryd.zeroValue70
  t127 := Tryd.underlying96
  a127 := Tryd.isAgg96
  z127 := Tryd.sizeOf96
  v127 := Tryd.zeroValue96
  t164 := Tryd.underlying109
  a164 := Tryd.isAgg109
  z164 := Tryd.sizeOf109
  v164 := Tryd.zeroValue109 }
theorem Tryd.Builder_Extra_156 : Builder.Extra Tryd.prog Tryd.lays156_ren := {
  sizeBuilder := by kernel_rfl
  liesBuilder := by kernel_rfl
  t5 := Tryd.underlying5
  a5 := Tryd.isAgg5
  z5 := Tryd.sizeOf5
  v5 := Tryd.zeroValue5
  infoByte := by kernel_rfl
  cellsByte := by kernel_rfl
  sizeByte := by kernel_rfl
  neB5 := by decide }
open Go.RowKit in
/-- No element: the empty string; the world is as it was. (Whatever the slice's address and capacity: a nil slice too.) (LAID: no walk: one application.) -/
theorem Tryd.strings_Join_none (a : Option Addr) (c : Nat) (sep : ByteArray) (w : World) :
    Calls Tryd.prog 41 #[.slice a 0 c, .string sep] w fun e w' => e = .returned (.string ⟨#[]⟩) ∧ w' = w := Any.strings_Join_none Tryd.lays156 Tryd.Builder_Extra_156 a c sep w
open Go.RowKit in
/-- strings.Join: "Join concatenates the elements of its first argument to create a single string. The separator string sep is placed between elements in the resulting string.": HOWEVER MANY ELEMENTS. Below the heap's end the world is as it was. (LAID: no walk: one application.) -/
theorem Tryd.strings_Join (bk o c : Nat) (xs : List ByteArray) (sep : ByteArray) (w : World) (hcells : ∀ (j : Nat) x, xs[j]? = some x → w.cell? ⟨bk, o + j, none⟩ = some (.string x)) (hbk : bk < w.heap.size) (hN : xs.length ≤ 140737488355328) (hcap : xs.length ≤ c) (hlen : (Lib.join (xs.map (·.data.toList)) sep.data.toList).length ≤ 140737488355328) :
    Calls Tryd.prog 41 #[.slice (some ⟨bk, o, none⟩) xs.length c, .string sep] w fun e w' => e = .returned (.string ⟨(Lib.join (xs.map (·.data.toList)) sep.data.toList).toArray⟩) ∧ Below w.heap.size w w' := Any.strings_Join Tryd.lays156 Tryd.Builder_Extra_156 bk o c xs sep w hcells hbk hN hcap hlen
def Tryd.lays160_ren : Go.Shelf.Ren := ⟨fun | 160 => 35 | 232 => 50 | 231 => 49 | 227 => 51 | 234 => 53 | 233 => 52 | 236 => 55 | 235 => 54 | 228 => 70 | 271 => 73 | 151 => 72 | 197 => 71 | 120 => 87 | 152 => 86 | 260 => 85 | 137 => 101 | 119 => 102 | 224 => 90 | 225 => 89 | 217 => 88 | 266 => 103 | n => n, fun | 9 => 9 | 4 => 4 | 3 => 3 | 5 => 5 | 117 => 79 | 116 => 78 | 0 => 0 | 124 => 82 | 21 => 21 | 105 => 93 | 46 => 108 | 119 => 123 | 139 => 126 | 138 => 125 | n => n, fun | 3 => 3 | 4 => 4 | n => n⟩
theorem Tryd.lays160 : Go.Proofs.Lays.n160 Tryd.prog Tryd.lays160_ren := {
  mixed := by kernel_rfl
  f119 := Tryd.func102.trans (congrArg some (by kernel_rfl))
  f120 := Tryd.func87.trans (congrArg some (by kernel_rfl))
  f137 := Tryd.func101.trans (congrArg some (by kernel_rfl))
  f151 := Tryd.func72.trans (congrArg some (by kernel_rfl))
  f152 := Tryd.func86.trans (congrArg some (by kernel_rfl))
  f160 := Tryd.func35.trans (congrArg some (by kernel_rfl))
  f197 := Tryd.func71.trans (congrArg some (by kernel_rfl))
  f217 := Tryd.func88.trans (congrArg some (by kernel_rfl))
  f224 := Tryd.func90.trans (congrArg some (by kernel_rfl))
  f225 := Tryd.func89.trans (congrArg some (by kernel_rfl))
  f227 := Tryd.func51.trans (congrArg some (by kernel_rfl))
  f228 := Tryd.func70.trans (congrArg some (by kernel_rfl))
  f231 := Tryd.func49.trans (congrArg some (by kernel_rfl))
  f232 := Tryd.func50.trans (congrArg some (by kernel_rfl))
  f233 := Tryd.func52.trans (congrArg some (by kernel_rfl))
  f234 := Tryd.func53.trans (congrArg some (by kernel_rfl))
  f235 := Tryd.func54.trans (congrArg some (by kernel_rfl))
  f236 := Tryd.func55.trans (congrArg some (by kernel_rfl))
  f260 := Tryd.func85.trans (congrArg some (by kernel_rfl))
  f266 := Tryd.func103.trans (congrArg some (by kernel_rfl))
  f271 := Tryd.func73.trans (congrArg some (by kernel_rfl))
  t0 := Tryd.underlying0
  a0 := Tryd.isAgg0
  z0 := Tryd.sizeOf0
  v0 := Tryd.zeroValue0
  t3 := Tryd.underlying3
  a3 := Tryd.isAgg3
  z3 := Tryd.sizeOf3
  v3 := Tryd.zeroValue3
  t4 := Tryd.underlying4
  a4 := Tryd.isAgg4
  z4 := Tryd.sizeOf4
  v4 := Tryd.zeroValue4
  t5 := Tryd.underlying5
  a5 := Tryd.isAgg5
  z5 := Tryd.sizeOf5
  v5 := Tryd.zeroValue5
  t9 := Tryd.underlying9
  a9 := Tryd.isAgg9
  z9 := Tryd.sizeOf9
  v9 := Tryd.zeroValue9
  t21 := Tryd.underlying21
  a21 := Tryd.isAgg21
  z21 := Tryd.sizeOf21
  v21 := Tryd.zeroValue21
  t46 := Tryd.underlying108
  a46 := Tryd.isAgg108
  z46 := Tryd.sizeOf108
  v46 := Tryd.zeroValue108
  t105 := Tryd.underlying93
  a105 := Tryd.isAgg93
  z105 := Tryd.sizeOf93
  v105 := Tryd.zeroValue93
  t116 := Tryd.underlying78
  a116 := Tryd.isAgg78
  z116 := Tryd.sizeOf78
  t117 := Tryd.underlying79
  a117 := Tryd.isAgg79
  z117 := Tryd.sizeOf79
  v117 := Tryd.zeroValue79
  t119 := Tryd.underlying123
  a119 := Tryd.isAgg123
  z119 := Tryd.sizeOf123
  t124 := Tryd.underlying82
  a124 := Tryd.isAgg82
  z124 := Tryd.sizeOf82
  v124 := Tryd.zeroValue82
  t138 := Tryd.underlying125
  a138 := Tryd.isAgg125
  z138 := Tryd.sizeOf125
  v138 := Tryd.zeroValue125
  t139 := Tryd.underlying126
  a139 := Tryd.isAgg126
  z139 := Tryd.sizeOf126
  v139 := Tryd.zeroValue126
  g3 := by kernel_rfl
  g4 := by kernel_rfl }
open Go.RowKit in
/-- strings.Trim: "Trim returns a slice of the string s with all leading and trailing Unicode code points contained in cutset removed.": AT A cutset OF ONE ASCII BYTE. THE WORLD BEHIND IT: as it was, or (where s is not empty) with ONE DRAW MORE off the tape: the statement 'return trimLeftByte(trimRightByte(s, c), c)' draws its order of evaluation. (LAID: no walk: one application.) -/
theorem Tryd.strings_Trim_one (s : ByteArray) (c : UInt8) (hc : c.toNat < 128) (w : World) (hs : s.size ≤ 9223372036854775807) :
    Calls Tryd.prog 35 #[.string s, .string ⟨#[c]⟩] w fun e w' => e = .returned (.string ⟨(Lib.trimB s.data.toList c).toArray⟩) ∧ (w' = w ∨ w' = w.drew) := Any.strings_Trim_one Tryd.lays160 s c hc w hs
def Tryd.laysM171_ren : Go.Shelf.Ren := ⟨fun | 171 => 43 | 243 => 62 | 246 => 77 | 283 => 94 | 284 => 95 | 285 => 96 | 286 => 97 | 129 => 106 | 317 => 105 | 318 => 107 | 319 => 108 | 320 => 109 | 337 => 112 | 338 => 113 | n => n, fun | 3 => 3 | 9 => 9 | 2 => 2 | 4 => 4 | 171 => 112 | 0 => 0 | 53 => 113 | 37 => 85 | 5 => 5 | 173 => 116 | 212 => 132 | 51 => 128 | 20 => 20 | 213 => 133 | 46 => 108 | 232 => 141 | 233 => 142 | n => n, fun | 17 => 5 | 18 => 6 | 19 => 7 | n => n⟩
theorem Tryd.laysM171 : Go.Proofs.LaysM.n171 Tryd.prog Tryd.laysM171_ren := {
  mixed := by kernel_rfl
  f129 := Tryd.func106.trans (congrArg some (by kernel_rfl))
  f171 := Tryd.func43.trans (congrArg some (by kernel_rfl))
  f243 := Tryd.func62.trans (congrArg some (by kernel_rfl))
  f246 := Tryd.func77.trans (congrArg some (by kernel_rfl))
  f283 := Tryd.func94.trans (congrArg some (by kernel_rfl))
  f284 := Tryd.func95.trans (congrArg some (by kernel_rfl))
  f285 := Tryd.func96.trans (congrArg some (by kernel_rfl))
  f286 := Tryd.func97.trans (congrArg some (by kernel_rfl))
  f317 := Tryd.func105.trans (congrArg some (by kernel_rfl))
  f318 := Tryd.func107.trans (congrArg some (by kernel_rfl))
  f319 := Tryd.func108.trans (congrArg some (by kernel_rfl))
  f320 := Tryd.func109.trans (congrArg some (by kernel_rfl))
  f337 := Tryd.func112.trans (congrArg some (by kernel_rfl))
  f338 := Tryd.func113.trans (congrArg some (by kernel_rfl))
  t0 := Tryd.underlying0
  a0 := Tryd.isAgg0
  z0 := Tryd.sizeOf0
  v0 := Tryd.zeroValue0
  t2 := Tryd.underlying2
  a2 := Tryd.isAgg2
  z2 := Tryd.sizeOf2
  v2 := Tryd.zeroValue2
  t3 := Tryd.underlying3
  a3 := Tryd.isAgg3
  z3 := Tryd.sizeOf3
  v3 := Tryd.zeroValue3
  t4 := Tryd.underlying4
  a4 := Tryd.isAgg4
  z4 := Tryd.sizeOf4
  v4 := Tryd.zeroValue4
  t5 := Tryd.underlying5
  a5 := Tryd.isAgg5
  z5 := Tryd.sizeOf5
  v5 := Tryd.zeroValue5
  t9 := Tryd.underlying9
  a9 := Tryd.isAgg9
  z9 := Tryd.sizeOf9
  v9 := Tryd.zeroValue9
  t20 := Tryd.underlying20
  a20 := Tryd.isAgg20
  z20 := Tryd.sizeOf20
  v20 := Tryd.zeroValue20
  t37 := Tryd.underlying85
  a37 := Tryd.isAgg85
  z37 := Tryd.sizeOf85
  v37 := Tryd.zeroValue85
  t46 := Tryd.underlying108
  a46 := Tryd.isAgg108
  z46 := Tryd.sizeOf108
  v46 := Tryd.zeroValue108
  t51 := Tryd.underlying128
  a51 := Tryd.isAgg128
  z51 := Tryd.sizeOf128
  v51 := Tryd.zeroValue128
  t53 := Tryd.underlying113
  a53 := Tryd.isAgg113
  z53 := Tryd.sizeOf113
  v53 := Tryd.zeroValue113
  t171 := Tryd.underlying112
  a171 := Tryd.isAgg112
  z171 := Tryd.sizeOf112
  v171 := Tryd.zeroValue112
  t173 := Tryd.underlying116
  a173 := Tryd.isAgg116
  z173 := Tryd.sizeOf116
  v173 := Tryd.zeroValue116
  t212 := Tryd.underlying132
  a212 := Tryd.isAgg132
  z212 := Tryd.sizeOf132
  v212 := Tryd.zeroValue132
  t213 := Tryd.underlying133
  a213 := Tryd.isAgg133
  z213 := Tryd.sizeOf133
  t232 := Tryd.underlying141
  a232 := Tryd.isAgg141
  z232 := Tryd.sizeOf141
  v232 := Tryd.zeroValue141
  t233 := Tryd.underlying142
  a233 := Tryd.isAgg142
  z233 := Tryd.sizeOf142
  v233 := Tryd.zeroValue142
  g17 := by kernel_rfl
  g18 := by kernel_rfl
  g19 := by kernel_rfl
  i0 := by kernel_rfl
  i2 := by kernel_rfl
  i3 := by kernel_rfl
  i4 := by kernel_rfl
  i5 := by kernel_rfl
  i9 := by kernel_rfl
  i20 := by kernel_rfl
  i37 := by kernel_rfl
  i46 := by kernel_rfl
  i51 := by kernel_rfl
  i53 := by kernel_rfl
  i171 := by kernel_rfl
  i173 := by kernel_rfl
  i212 := by kernel_rfl
  i232 := by kernel_rfl
  i233 := by kernel_rfl
  m17 := by kernel_rfl
  m18 := by kernel_rfl
  m19 := by kernel_rfl }
open Go.RowKit Go.Sort Go.Lib in
/-- strconv.Itoa: "Itoa is equivalent to FormatInt(int64(i), 10).": i's DECIMAL NUMERAL ('Lib.itoa': a '-' where i is negative, then the digits), FOR EVERY int. The world behind the call: the world before it, new blocks behind the heap (the library's 'var a [24]byte'), draws. (LAID: no walk: one application.) -/
theorem Tryd.strconv_Itoa (n : Int) (h0 : -9223372036854775808 ≤ n) (h1 : n ≤ 9223372036854775807) (w : World) (htab : Lib.TabIs Tryd.prog w "internal/strconv.uint64pow10" .u64 Lib.pow10Tab) :
    Calls Tryd.prog 43 #[.int .i64 n] w fun e w' => e = .returned (.string ⟨(Lib.itoa n).toArray⟩) ∧ ∃ k os, w' = grow (w.drewN k) os := Any.strconv_Itoa Tryd.laysM171 n h0 h1 w htab
def Tryd.laysC172_ren : Go.Shelf.Ren := ⟨fun | 172 => 44 | 244 => 63 | 245 => 64 | 247 => 78 | 279 => 79 | 280 => 80 | 281 => 81 | 282 => 82 | 287 => 98 | 316 => 99 | 171 => 43 | 205 => 100 | 321 => 110 | 322 => 111 | 243 => 62 | 246 => 77 | 283 => 94 | 284 => 95 | 285 => 96 | 286 => 97 | 129 => 106 | 317 => 105 | 318 => 107 | 319 => 108 | 320 => 109 | 337 => 112 | 338 => 113 | n => n, fun | 9 => 9 | 3 => 3 | 75 => 69 | 76 => 70 | 4 => 4 | 5 => 5 | 167 => 98 | 37 => 85 | 0 => 0 | 85 => 99 | 2 => 2 | 168 => 101 | 53 => 113 | 175 => 118 | 46 => 108 | 210 => 121 | 127 => 96 | 145 => 139 | 143 => 137 | 21 => 21 | 171 => 112 | 173 => 116 | 212 => 132 | 51 => 128 | 20 => 20 | 213 => 133 | 232 => 141 | 233 => 142 | 80 => 89 | n => n, fun | 15 => 1 | 16 => 2 | 17 => 5 | 18 => 6 | 19 => 7 | n => n⟩
theorem Tryd.laysC172 : Go.Proofs.LaysC.n172 Tryd.prog Tryd.laysC172_ren := {
  mixed := by kernel_rfl
  f129 := Tryd.func106.trans (congrArg some (by kernel_rfl))
  f171 := Tryd.func43.trans (congrArg some (by kernel_rfl))
  f172 := Tryd.func44.trans (congrArg some (by kernel_rfl))
  f205 := Tryd.func100.trans (congrArg some (by kernel_rfl))
  f243 := Tryd.func62.trans (congrArg some (by kernel_rfl))
  f244 := Tryd.func63.trans (congrArg some (by kernel_rfl))
  f245 := Tryd.func64.trans (congrArg some (by kernel_rfl))
  f246 := Tryd.func77.trans (congrArg some (by kernel_rfl))
  f247 := Tryd.func78.trans (congrArg some (by kernel_rfl))
  f279 := Tryd.func79.trans (congrArg some (by kernel_rfl))
  f280 := Tryd.func80.trans (congrArg some (by kernel_rfl))
  f281 := Tryd.func81.trans (congrArg some (by kernel_rfl))
  f282 := Tryd.func82.trans (congrArg some (by kernel_rfl))
  f283 := Tryd.func94.trans (congrArg some (by kernel_rfl))
  f284 := Tryd.func95.trans (congrArg some (by kernel_rfl))
  f285 := Tryd.func96.trans (congrArg some (by kernel_rfl))
  f286 := Tryd.func97.trans (congrArg some (by kernel_rfl))
  f287 := Tryd.func98.trans (congrArg some (by kernel_rfl))
  f316 := Tryd.func99.trans (congrArg some (by kernel_rfl))
  f317 := Tryd.func105.trans (congrArg some (by kernel_rfl))
  f318 := Tryd.func107.trans (congrArg some (by kernel_rfl))
  f319 := Tryd.func108.trans (congrArg some (by kernel_rfl))
  f320 := Tryd.func109.trans (congrArg some (by kernel_rfl))
  f321 := Tryd.func110.trans (congrArg some (by kernel_rfl))
  f322 := Tryd.func111.trans (congrArg some (by kernel_rfl))
  f337 := Tryd.func112.trans (congrArg some (by kernel_rfl))
  f338 := Tryd.func113.trans (congrArg some (by kernel_rfl))
  t0 := Tryd.underlying0
  a0 := Tryd.isAgg0
  z0 := Tryd.sizeOf0
  v0 := Tryd.zeroValue0
  t2 := Tryd.underlying2
  a2 := Tryd.isAgg2
  z2 := Tryd.sizeOf2
  v2 := Tryd.zeroValue2
  t3 := Tryd.underlying3
  a3 := Tryd.isAgg3
  z3 := Tryd.sizeOf3
  v3 := Tryd.zeroValue3
  t4 := Tryd.underlying4
  a4 := Tryd.isAgg4
  z4 := Tryd.sizeOf4
  v4 := Tryd.zeroValue4
  t5 := Tryd.underlying5
  a5 := Tryd.isAgg5
  z5 := Tryd.sizeOf5
  v5 := Tryd.zeroValue5
  t9 := Tryd.underlying9
  a9 := Tryd.isAgg9
  z9 := Tryd.sizeOf9
  v9 := Tryd.zeroValue9
  t20 := Tryd.underlying20
  a20 := Tryd.isAgg20
  z20 := Tryd.sizeOf20
  v20 := Tryd.zeroValue20
  t21 := Tryd.underlying21
  a21 := Tryd.isAgg21
  z21 := Tryd.sizeOf21
  v21 := Tryd.zeroValue21
  t37 := Tryd.underlying85
  a37 := Tryd.isAgg85
  z37 := Tryd.sizeOf85
  v37 := Tryd.zeroValue85
  t46 := Tryd.underlying108
  a46 := Tryd.isAgg108
  z46 := Tryd.sizeOf108
  v46 := Tryd.zeroValue108
  t51 := Tryd.underlying128
  a51 := Tryd.isAgg128
  z51 := Tryd.sizeOf128
  v51 := Tryd.zeroValue128
  t53 := Tryd.underlying113
  a53 := Tryd.isAgg113
  z53 := Tryd.sizeOf113
  v53 := Tryd.zeroValue113
  t75 := Tryd.underlying69
  a75 := Tryd.isAgg69
  z75 := Tryd.sizeOf69
  v75 := Tryd.zeroValue69
  t76 := Tryd.underlying70
  a76 := Tryd.isAgg70
  z76 := Tryd.sizeOf70
  v76 := Tryd.zeroValue70
  t85 := Tryd.underlying99
  a85 := Tryd.isAgg99
  z85 := Tryd.sizeOf99
  v85 := Tryd.zeroValue99
  t127 := Tryd.underlying96
  a127 := Tryd.isAgg96
  z127 := Tryd.sizeOf96
  v127 := Tryd.zeroValue96
  t143 := Tryd.underlying137
  a143 := Tryd.isAgg137
  z143 := Tryd.sizeOf137
  v143 := Tryd.zeroValue137
  t145 := Tryd.underlying139
  a145 := Tryd.isAgg139
  z145 := Tryd.sizeOf139
  v145 := Tryd.zeroValue139
  t167 := Tryd.underlying98
  a167 := Tryd.isAgg98
  z167 := Tryd.sizeOf98
  v167 := Tryd.zeroValue98
  t168 := Tryd.underlying101
  a168 := Tryd.isAgg101
  z168 := Tryd.sizeOf101
  v168 := Tryd.zeroValue101
  t171 := Tryd.underlying112
  a171 := Tryd.isAgg112
  z171 := Tryd.sizeOf112
  v171 := Tryd.zeroValue112
  t173 := Tryd.underlying116
  a173 := Tryd.isAgg116
  z173 := Tryd.sizeOf116
  v173 := Tryd.zeroValue116
  t175 := Tryd.underlying118
  a175 := Tryd.isAgg118
  z175 := Tryd.sizeOf118
  v175 := Tryd.zeroValue118
  t210 := Tryd.underlying121
  a210 := Tryd.isAgg121
  z210 := Tryd.sizeOf121
  v210 := Tryd.zeroValue121
  t212 := Tryd.underlying132
  a212 := Tryd.isAgg132
  z212 := Tryd.sizeOf132
  v212 := Tryd.zeroValue132
  t213 := Tryd.underlying133
  a213 := Tryd.isAgg133
  z213 := Tryd.sizeOf133
  t232 := Tryd.underlying141
  a232 := Tryd.isAgg141
  z232 := Tryd.sizeOf141
  v232 := Tryd.zeroValue141
  t233 := Tryd.underlying142
  a233 := Tryd.isAgg142
  z233 := Tryd.sizeOf142
  v233 := Tryd.zeroValue142
  g15 := by kernel_rfl
  g16 := by kernel_rfl
  g17 := by kernel_rfl
  g18 := by kernel_rfl
  g19 := by kernel_rfl
  t80 := Tryd.underlying89
  a80 := Tryd.isAgg89
  z80 := Tryd.sizeOf89
  v80 := Tryd.zeroValue89
  i0 := by kernel_rfl
  i2 := by kernel_rfl
  i3 := by kernel_rfl
  i4 := by kernel_rfl
  i5 := by kernel_rfl
  i9 := by kernel_rfl
  i20 := by kernel_rfl
  i21 := by kernel_rfl
  i37 := by kernel_rfl
  i46 := by kernel_rfl
  i51 := by kernel_rfl
  i53 := by kernel_rfl
  i75 := by kernel_rfl
  i76 := by kernel_rfl
  i80 := by kernel_rfl
  i85 := by kernel_rfl
  i127 := by kernel_rfl
  i143 := by kernel_rfl
  i145 := by kernel_rfl
  i167 := by kernel_rfl
  i168 := by kernel_rfl
  i171 := by kernel_rfl
  i173 := by kernel_rfl
  i175 := by kernel_rfl
  i210 := by kernel_rfl
  i212 := by kernel_rfl
  i232 := by kernel_rfl
  i233 := by kernel_rfl
  m15 := by kernel_rfl
  m16 := by kernel_rfl
  m17 := by kernel_rfl
  m18 := by kernel_rfl
  m19 := by kernel_rfl
  c0 := by kernel_rfl
  c2 := by kernel_rfl
  c3 := by kernel_rfl
  c4 := by kernel_rfl
  c5 := by kernel_rfl
  c9 := by kernel_rfl
  c20 := by kernel_rfl
  c21 := by kernel_rfl
  c37 := by kernel_rfl
  c46 := by kernel_rfl
  c51 := by kernel_rfl
  c53 := by kernel_rfl
  c75 := by kernel_rfl
  c76 := by kernel_rfl
  c80 := by kernel_rfl
  c85 := by kernel_rfl
  c127 := by kernel_rfl
  c143 := by kernel_rfl
  c145 := by kernel_rfl
  c167 := by kernel_rfl
  c168 := by kernel_rfl
  c171 := by kernel_rfl
  c173 := by kernel_rfl
  c175 := by kernel_rfl
  c210 := by kernel_rfl
  c212 := by kernel_rfl
  c213 := by kernel_rfl
  c232 := by kernel_rfl
  c233 := by kernel_rfl }
open Go.RowKit in
/-- strconv.Atoi, AT EVERY STRING THAT SPELLS AN int ('Lib.atoiAll .. = .ok v'; of whatever length: leading zeros count): v, AND NO ERROR. The world: as it was, or with the one new row that '[]byte(..)' lays. (LAID: no walk: one application.) -/
theorem Tryd.strconv_Atoi_ok (s : ByteArray) (hmax : s.size ≤ 9223372036854775806) (v : Int) (h : Lib.atoiAll s.data.toList = .ok v) (w : World) :
    Calls Tryd.prog 44 #[.string s] w fun e w' => e = .returned (.tuple #[.int .i64 v, .nilIface]) ∧ (w' = w ∨ ∃ t, w' = Lib.bytesWorld w 5 t) := Any.strconv_Atoi_ok Tryd.laysC172 s hmax v h w
def Tryd.lays145_ren : Go.Shelf.Ren := ⟨fun | 145 => 36 | 220 => 56 | 219 => 74 | 217 => 88 | 225 => 89 | 224 => 90 | 267 => 91 | 266 => 103 | 314 => 104 | n => n, fun | 9 => 9 | 4 => 4 | 59 => 62 | 3 => 3 | 5 => 5 | 46 => 108 | 146 => 129 | 51 => 128 | n => n, fun | 1 => 0 | n => n⟩
theorem Tryd.lays145 : Go.Proofs.Lays.n145 Tryd.prog Tryd.lays145_ren := {
  mixed := by kernel_rfl
  f145 := Tryd.func36.trans (congrArg some (by kernel_rfl))
  f217 := Tryd.func88.trans (congrArg some (by kernel_rfl))
  f219 := Tryd.func74.trans (congrArg some (by kernel_rfl))
  f220 := Tryd.func56.trans (congrArg some (by kernel_rfl))
  f224 := Tryd.func90.trans (congrArg some (by kernel_rfl))
  f225 := Tryd.func89.trans (congrArg some (by kernel_rfl))
  f266 := Tryd.func103.trans (congrArg some (by kernel_rfl))
  f267 := Tryd.func91.trans (congrArg some (by kernel_rfl))
  f314 := Tryd.func104.trans (congrArg some (by kernel_rfl))
  t3 := Tryd.underlying3
  a3 := Tryd.isAgg3
  z3 := Tryd.sizeOf3
  v3 := Tryd.zeroValue3
  t4 := Tryd.underlying4
  a4 := Tryd.isAgg4
  z4 := Tryd.sizeOf4
  v4 := Tryd.zeroValue4
  t5 := Tryd.underlying5
  a5 := Tryd.isAgg5
  z5 := Tryd.sizeOf5
  v5 := Tryd.zeroValue5
  t9 := Tryd.underlying9
  a9 := Tryd.isAgg9
  z9 := Tryd.sizeOf9
  v9 := Tryd.zeroValue9
  t46 := Tryd.underlying108
  a46 := Tryd.isAgg108
  z46 := Tryd.sizeOf108
  v46 := Tryd.zeroValue108
  t51 := Tryd.underlying128
  a51 := Tryd.isAgg128
  z51 := Tryd.sizeOf128
  v51 := Tryd.zeroValue128
  t59 := Tryd.underlying62
  a59 := Tryd.isAgg62
  z59 := Tryd.sizeOf62
  v59 := Tryd.zeroValue62
  t146 := Tryd.underlying129
  a146 := Tryd.isAgg129
  z146 := Tryd.sizeOf129
  v146 := Tryd.zeroValue129
  g1 := by kernel_rfl }
open Go.RowKit Go.Lib in
/-- strings.Cut: "Cut slices s around the first instance of sep, returning the text before and after sep. The found result reports whether sep appears in s. If sep does not appear in s, cut returns s, "", false.": IT RETURNS 'Lib.cut s sep'; the world is as it was but for the count of draws. (LAID: no walk: one application.) -/
theorem Tryd.strings_Cut (s sep : ByteArray) (m : Int) (w : World) (hs : s.size < 4294967281) (hm : w.cell? ⟨0, 0, none⟩ = some (.int .i64 m)) :
    Calls Tryd.prog 36 #[.string s, .string sep] w fun e w' => e = .returned (.tuple #[.string ⟨(Lib.cut s.data.toList sep.data.toList).1.toArray⟩, .string ⟨(Lib.cut s.data.toList sep.data.toList).2.1.toArray⟩, .bool (Lib.cut s.data.toList sep.data.toList).2.2]) ∧ ∃ n, w' = w.drewN n := Any.strings_Cut Tryd.lays145 s sep m w hs hm
def Tryd.laysM219_ren : Go.Shelf.Ren := ⟨fun | 219 => 74 | 217 => 88 | 225 => 89 | 224 => 90 | 267 => 91 | 266 => 103 | 314 => 104 | n => n, fun | 9 => 9 | 3 => 3 | 4 => 4 | 5 => 5 | 46 => 108 | 146 => 129 | 51 => 128 | n => n, fun | 1 => 0 | n => n⟩
theorem Tryd.laysM219 : Go.Proofs.LaysM.n219 Tryd.prog Tryd.laysM219_ren := {
  mixed := by kernel_rfl
  f217 := Tryd.func88.trans (congrArg some (by kernel_rfl))
  f219 := Tryd.func74.trans (congrArg some (by kernel_rfl))
  f224 := Tryd.func90.trans (congrArg some (by kernel_rfl))
  f225 := Tryd.func89.trans (congrArg some (by kernel_rfl))
  f266 := Tryd.func103.trans (congrArg some (by kernel_rfl))
  f267 := Tryd.func91.trans (congrArg some (by kernel_rfl))
  f314 := Tryd.func104.trans (congrArg some (by kernel_rfl))
  t3 := Tryd.underlying3
  a3 := Tryd.isAgg3
  z3 := Tryd.sizeOf3
  v3 := Tryd.zeroValue3
  t4 := Tryd.underlying4
  a4 := Tryd.isAgg4
  z4 := Tryd.sizeOf4
  v4 := Tryd.zeroValue4
  t5 := Tryd.underlying5
  a5 := Tryd.isAgg5
  z5 := Tryd.sizeOf5
  v5 := Tryd.zeroValue5
  t9 := Tryd.underlying9
  a9 := Tryd.isAgg9
  z9 := Tryd.sizeOf9
  v9 := Tryd.zeroValue9
  t46 := Tryd.underlying108
  a46 := Tryd.isAgg108
  z46 := Tryd.sizeOf108
  v46 := Tryd.zeroValue108
  t51 := Tryd.underlying128
  a51 := Tryd.isAgg128
  z51 := Tryd.sizeOf128
  v51 := Tryd.zeroValue128
  t146 := Tryd.underlying129
  a146 := Tryd.isAgg129
  z146 := Tryd.sizeOf129
  v146 := Tryd.zeroValue129
  g1 := by kernel_rfl
  i3 := by kernel_rfl
  i4 := by kernel_rfl
  i5 := by kernel_rfl
  i9 := by kernel_rfl
  i46 := by kernel_rfl
  i51 := by kernel_rfl
  i146 := by kernel_rfl
  m1 := by kernel_rfl
  s1_3 := fun w h => Go.Proofs.cell_of_shapedOpen_int (zero := #[.int .i64 0]) (t := 3) h (of_decide_eq_true (by kernel_rfl)) (by kernel_rfl) rfl (by kernel_rfl) (by kernel_rfl) Tryd.underlying3 }
def Tryd.lays206_ren : Go.Shelf.Ren := ⟨fun | 206 => 61 | n => n, fun | 9 => 9 | 4 => 4 | 3 => 3 | n => n, fun | n => n⟩
theorem Tryd.lays206 : Go.Proofs.Lays.n206 Tryd.prog Tryd.lays206_ren := {
  mixed := by kernel_rfl
  f206 := Tryd.func61.trans (congrArg some (by kernel_rfl))
  t3 := Tryd.underlying3
  a3 := Tryd.isAgg3
  z3 := Tryd.sizeOf3
  v3 := Tryd.zeroValue3
  t4 := Tryd.underlying4
  a4 := Tryd.isAgg4
  z4 := Tryd.sizeOf4
  v4 := Tryd.zeroValue4
  t9 := Tryd.underlying9
  a9 := Tryd.isAgg9
  z9 := Tryd.sizeOf9
  v9 := Tryd.zeroValue9 }
open Go.RowKit Go.Lib in
/-- internal/stringslite.HasPrefix (what strings.HasPrefix calls). (LAID: no walk: one application.) -/
theorem Tryd.stringslite_HasPrefix (s p : ByteArray) (w : World) :
    Calls Tryd.prog 61 #[.string s, .string p] w fun e w' => e = .returned (.bool (Lib.hasPrefix s.data.toList p.data.toList)) ∧ w' = w := Any.stringslite_HasPrefix Tryd.lays206 s p w
def Tryd.lays99_ren : Go.Shelf.Ren := ⟨fun | 99 => 42 | 206 => 61 | n => n, fun | 9 => 9 | 4 => 4 | 3 => 3 | n => n, fun | n => n⟩
theorem Tryd.lays99 : Go.Proofs.Lays.n99 Tryd.prog Tryd.lays99_ren := {
  mixed := by kernel_rfl
  f99 := Tryd.func42.trans (congrArg some (by kernel_rfl))
  f206 := Tryd.func61.trans (congrArg some (by kernel_rfl))
  t3 := Tryd.underlying3
  a3 := Tryd.isAgg3
  z3 := Tryd.sizeOf3
  v3 := Tryd.zeroValue3
  t4 := Tryd.underlying4
  a4 := Tryd.isAgg4
  z4 := Tryd.sizeOf4
  v4 := Tryd.zeroValue4
  t9 := Tryd.underlying9
  a9 := Tryd.isAgg9
  z9 := Tryd.sizeOf9
  v9 := Tryd.zeroValue9 }
open Go.RowKit Go.Lib in
/-- strings.HasPrefix: "HasPrefix reports whether the string s begins with prefix.": IT RETURNS 'Lib.hasPrefix s prefix'; the world is as it was. (LAID: no walk: one application.) -/
theorem Tryd.strings_HasPrefix (s p : ByteArray) (w : World) :
    Calls Tryd.prog 42 #[.string s, .string p] w fun e w' => e = .returned (.bool (Lib.hasPrefix s.data.toList p.data.toList)) ∧ w' = w := Any.strings_HasPrefix Tryd.lays99 s p w
def Tryd.lays100_ren : Go.Shelf.Ren := ⟨fun | 100 => 47 | 207 => 66 | n => n, fun | 9 => 9 | 4 => 4 | 3 => 3 | n => n, fun | n => n⟩
theorem Tryd.lays100 : Go.Proofs.Lays.n100 Tryd.prog Tryd.lays100_ren := {
  mixed := by kernel_rfl
  f100 := Tryd.func47.trans (congrArg some (by kernel_rfl))
  f207 := Tryd.func66.trans (congrArg some (by kernel_rfl))
  t3 := Tryd.underlying3
  a3 := Tryd.isAgg3
  z3 := Tryd.sizeOf3
  v3 := Tryd.zeroValue3
  t4 := Tryd.underlying4
  a4 := Tryd.isAgg4
  z4 := Tryd.sizeOf4
  v4 := Tryd.zeroValue4
  t9 := Tryd.underlying9
  a9 := Tryd.isAgg9
  z9 := Tryd.sizeOf9
  v9 := Tryd.zeroValue9 }
open Go.RowKit Go.Lib in
/-- strings.HasSuffix: "HasSuffix reports whether the string s ends with suffix.": IT RETURNS 'Lib.hasSuffix s suffix'; the world is as it was. ('hs': no Go string is longer: a caller has it of every string that it was handed.) (LAID: no walk: one application.) -/
theorem Tryd.strings_HasSuffix (s p : ByteArray) (w : World) (hs : s.size ≤ 9223372036854775807) :
    Calls Tryd.prog 47 #[.string s, .string p] w fun e w' => e = .returned (.bool (Lib.hasSuffix s.data.toList p.data.toList)) ∧ w' = w := Any.strings_HasSuffix Tryd.lays100 s p w hs
def Tryd.lays146_ren : Go.Shelf.Ren := ⟨fun | 146 => 34 | 221 => 48 | 268 => 67 | 138 => 68 | 143 => 69 | 195 => 83 | 197 => 71 | 218 => 84 | 219 => 74 | 260 => 85 | 217 => 88 | 225 => 89 | 224 => 90 | 267 => 91 | 266 => 103 | 314 => 104 | n => n, fun | 9 => 9 | 31 => 59 | 3 => 3 | 4 => 4 | 0 => 0 | 105 => 93 | 21 => 21 | 5 => 5 | 46 => 108 | 119 => 123 | 139 => 126 | 138 => 125 | 146 => 129 | 51 => 128 | n => n, fun | 1 => 0 | 3 => 3 | 4 => 4 | n => n⟩
theorem Tryd.lays146 : Go.Proofs.Lays.n146 Tryd.prog Tryd.lays146_ren := {
  mixed := by kernel_rfl
  f138 := Tryd.func68.trans (congrArg some (by kernel_rfl))
  f143 := Tryd.func69.trans (congrArg some (by kernel_rfl))
  f146 := Tryd.func34.trans (congrArg some (by kernel_rfl))
  f195 := Tryd.func83.trans (congrArg some (by kernel_rfl))
  f197 := Tryd.func71.trans (congrArg some (by kernel_rfl))
  f217 := Tryd.func88.trans (congrArg some (by kernel_rfl))
  f218 := Tryd.func84.trans (congrArg some (by kernel_rfl))
  f219 := Tryd.func74.trans (congrArg some (by kernel_rfl))
  f221 := Tryd.func48.trans (congrArg some (by kernel_rfl))
  f224 := Tryd.func90.trans (congrArg some (by kernel_rfl))
  f225 := Tryd.func89.trans (congrArg some (by kernel_rfl))
  f260 := Tryd.func85.trans (congrArg some (by kernel_rfl))
  f266 := Tryd.func103.trans (congrArg some (by kernel_rfl))
  f267 := Tryd.func91.trans (congrArg some (by kernel_rfl))
  f268 := Tryd.func67.trans (congrArg some (by kernel_rfl))
  f314 := Tryd.func104.trans (congrArg some (by kernel_rfl))
  t0 := Tryd.underlying0
  a0 := Tryd.isAgg0
  z0 := Tryd.sizeOf0
  v0 := Tryd.zeroValue0
  t3 := Tryd.underlying3
  a3 := Tryd.isAgg3
  z3 := Tryd.sizeOf3
  v3 := Tryd.zeroValue3
  t4 := Tryd.underlying4
  a4 := Tryd.isAgg4
  z4 := Tryd.sizeOf4
  v4 := Tryd.zeroValue4
  t5 := Tryd.underlying5
  a5 := Tryd.isAgg5
  z5 := Tryd.sizeOf5
  v5 := Tryd.zeroValue5
  t9 := Tryd.underlying9
  a9 := Tryd.isAgg9
  z9 := Tryd.sizeOf9
  v9 := Tryd.zeroValue9
  t21 := Tryd.underlying21
  a21 := Tryd.isAgg21
  z21 := Tryd.sizeOf21
  v21 := Tryd.zeroValue21
  t31 := Tryd.underlying59
  a31 := Tryd.isAgg59
  z31 := Tryd.sizeOf59
  v31 := Tryd.zeroValue59
  t46 := Tryd.underlying108
  a46 := Tryd.isAgg108
  z46 := Tryd.sizeOf108
  v46 := Tryd.zeroValue108
  t51 := Tryd.underlying128
  a51 := Tryd.isAgg128
  z51 := Tryd.sizeOf128
  v51 := Tryd.zeroValue128
  t105 := Tryd.underlying93
  a105 := Tryd.isAgg93
  z105 := Tryd.sizeOf93
  v105 := Tryd.zeroValue93
  t119 := Tryd.underlying123
  a119 := Tryd.isAgg123
  z119 := Tryd.sizeOf123
  t138 := Tryd.underlying125
  a138 := Tryd.isAgg125
  z138 := Tryd.sizeOf125
  v138 := Tryd.zeroValue125
  t139 := Tryd.underlying126
  a139 := Tryd.isAgg126
  z139 := Tryd.sizeOf126
  v139 := Tryd.zeroValue126
  t146 := Tryd.underlying129
  a146 := Tryd.isAgg129
  z146 := Tryd.sizeOf129
  v146 := Tryd.zeroValue129
  g1 := by kernel_rfl
  g3 := by kernel_rfl
  g4 := by kernel_rfl }
open Go.RowKit Go.Lib in
/-- strings.Split. (LAID: no walk: one application.) -/
theorem Tryd.strings_Split (s sep : ByteArray) (m : Int) (w : World) (hs : s.size < 4294967281) (hm : w.cell? ⟨0, 0, none⟩ = some (.int .i64 m)) (h1 : 1 ≤ sep.size) :
    Calls Tryd.prog 34 #[.string s, .string sep] w fun e w' =>
      e = .returned (.slice (some ⟨w.heap.size, 0, none⟩) (Lib.countB s sep + 1) (Lib.countB s sep + 1)) ∧ w' = w.alloc (.cells ((Lib.splitB sep 0 (Lib.countB s sep) s).map Value.string).toArray 9) := Any.strings_Split Tryd.lays146 (by kernel_rfl) s sep m w hs hm h1
end Go.Proofs
/-
  The package-level variables that are read, as far as this program has them; what the library's functions ask of them.
-/
namespace Go.Proofs.YtmfelfhingmmbaaDoor
open Go.Eng Go.Pct
set_option linter.unusedVariables false

/-- the cells of the marks that are escaped -/
def markCells : List Value := [str [38], str [38, 97, 109, 112, 59], str [60], str [38, 108, 116, 59], str [62], str [38, 103, 116, 59], str [34], str [38, 113, 117, 111, 116, 59], str [39], str [38, 35, 51, 57, 59]]
structure Glob (M : Ghost) : Prop where
  maxLen : ∃ cs T fz m, M 0 (.cells cs T fz) ∧ cs[0]? = some (.int .i64 m)
  pow : ∃ T fz, M 5 (.cells (Lib.pow10Tab.map fun z => Value.int .u64 z).toArray T fz)

variable {M : Ghost} {w : World}
theorem Glob.mono {M M' : Ghost} (h : Glob M) (hm : ∀ b o, M b o → M' b o) : Glob M' := by
  constructor
  · obtain ⟨cs, T, fz, m, h1, h2⟩ := h.maxLen; exact ⟨cs, T, fz, m, hm _ _ h1, h2⟩
  · obtain ⟨T, fz, h1⟩ := h.pow; exact ⟨T, fz, hm _ _ h1⟩
theorem maxLen_at (hG : Glob M) (hM : Laid M w) : ∃ m, w.cell? ⟨0, 0, none⟩ = some (.int .i64 m) := by
  obtain ⟨cs, T, fz, m, h1, h2⟩ := hG.maxLen
  exact ⟨m, by rw [cell_of (hM _ _ h1)]; exact h2⟩
theorem baSize (l : List UInt8) : (⟨l.toArray⟩ : ByteArray).size = l.length := by simp [ByteArray.size]
theorem gPow : Tryd.prog.globalNamed "internal/strconv.uint64pow10" = some 5 := by kernel_rfl
theorem pow_at (hG : Glob M) (hM : Laid M w) : Lib.TabIs Tryd.prog w "internal/strconv.uint64pow10" .u64 Lib.pow10Tab := by
  obtain ⟨T, fz, h1⟩ := hG.pow
  unfold Lib.TabIs World.var?
  rw [gPow, Option.bind_some, hM _ _ h1]
theorem ext_grow (w : World) (k : Nat) (os : Array Obj) : Ext w (Go.Sort.grow (w.drewN k) os) :=
  ⟨rfl, rfl, rfl, by simp [Go.Sort.grow], fun b hb _ => by show (w.heap ++ os)[b]? = w.heap[b]?; rw [Array.getElem?_append_left hb]⟩
theorem itoa_ok (hG : Glob M) (hM : Laid M w) (n : Nat) (hn : n ≤ 9223372036854775807) : Calls Tryd.prog 43 #[i64 (n : Int)] w (RetE w (str (Lib.itoa (n : Int)))) := by
  refine (Tryd.strconv_Itoa (n : Int) (by omega) (by omega) w (pow_at hG hM)).mono ?_
  rintro e w' ⟨rfl, k, os, rfl⟩
  exact ⟨rfl, ext_grow w k os⟩
end Go.Proofs.YtmfelfhingmmbaaDoor
/-
  Pairs of texts in memory: the contracts of matricularef01's Few and Pairs.
-/
namespace Go.Proofs.YtmfelfhingmmbaaDoor
open Go.Eng Go.Pct Go.Txt
set_option maxRecDepth 10000
set_option linter.unusedSimpArgs false
set_option linter.unusedVariables false

variable {M : Ghost} {w : World}

def fewB (l : List Pr) : Bool := l.all (fun p => decide (p.1.length ≤ 60 ∧ p.2.length ≤ 60)) && decide (l.length ≤ 50)
theorem fewB_small {l : List Pr} (h : fewB l = true) : Small 60 l ∧ l.length ≤ 50 := by
  unfold fewB at h
  simp only [Bool.and_eq_true, List.all_eq_true, decide_eq_true_eq] at h
  exact h
theorem few_ok (hM : Laid M w) {v : Value} {l : List Pr} (hv : SlP M v l) : Calls Tryd.prog 18 #[v] w (RetE w (.bool (fewB l))) := by
  obtain ⟨a, cap, b, o, cs, T, fz, rfl, h1, h2, h3, h4⟩ := hv.open
  refine calls_st (l := [.slice a l.length cap]) hM Tryd.func18 rfl rfl rfl (E0 := [(0, true, .slice a l.length cap)]) (params_cons rfl (params_nil _)) ?_
  repeat' (first | (first | refine wc_seq ?_ | refine wc_region ?_ | refine wl_nil ?_ | refine wn_seq ?_ | refine wn_blk ?_ | refine wc_skip ?_ | refine wc_block ?_ | refine wc_exit rfl ?_ | (show WL _ _ (_ :: _) _ _ _ _; first | refine yl_v rfl rfl rfl ?_ | refine wl_v rfl rfl rfl (by first  | fail) ?_) | refine wc_ret rfl ?_) | (show WC _ (Code.cond _ _ _) _ _ _ _; (refine wc_cond rfl (fun hc => ?_) (fun hc => ?_) <;> (try (simp only [decide_eq_true_eq, decide_eq_false_iff_not, Bool.and_eq_true, Bool.or_eq_true, Bool.and_eq_false_iff, Bool.or_eq_false_iff, Bool.not_eq_true', Bool.not_eq_false', Int.not_lt, Int.not_le] at hc)) <;> (try (exfalso; first | omega | contradiction)))))
  refine wc_loop (α := { i : Nat // i ≤ l.length ∧ ∀ j, j < i → (l.getD j default).1.length ≤ 60 ∧ (l.getD j default).2.length ≤ 60 }) (fun x => [(0, true, .slice a l.length cap), (3, true, i64 (x.1 : Int))]) (fun x => St w [] [] M) (fun x => l.length - x.1) ⟨0, by omega, by intro j hj; omega⟩ (by first | exact Sub.nil _ | (repeat (first | exact Sub.nil _ | refine Sub.cons (by first | rfl | (simp [look]; done)) ?_))) (fun _ h => h) ?_
  rintro ⟨i, hi, hall⟩
  dsimp only
  have hmem : ∀ j, j < l.length → l.getD j default ∈ l := fun j hj => by
    have : l.getD j default = l[j] := by simp [hj]
    rw [this]; exact List.getElem_mem _
  repeat' (first | (first | refine wc_seq ?_ | refine wc_region ?_ | refine wl_nil ?_ | refine wn_seq ?_ | refine wn_blk ?_ | refine wc_skip ?_ | refine wc_block ?_ | refine wc_exit rfl ?_ | (show WL _ _ (_ :: _) _ _ _ _; first | refine yl_v rfl rfl rfl ?_ | refine wl_v rfl rfl rfl (by first | (show OpV _ _ _ _ (Oper.mk _ (Op.indexAddr _ _ _) _ _ _ _) _ _; exact ov_indexAddr rfl rfl (by (fail_if_success (with_reducible show (987654321 : Int) = _)); repeat' (first | with_reducible exact nc_cast | with_reducible exact nc_lit | apply nc_add | apply nc_div | apply nc_mod | apply nc_mul | refine nc_sub (m := _) (n := _) nc_cast nc_lit (by omega) | refine nc_sub (m := _) (n := _) nc_cast nc_cast (by omega))) (by first | with_reducible exact fun _ => rfl | with_reducible exact fun h => h | exact fun _ => rfl | exact fun h => h | (intro himp; simp_all; done)) (by first | with_reducible exact fun _ => rfl | with_reducible exact fun h => h | exact fun _ => rfl | exact fun h => h | (intro himp; simp_all; done)) rfl (by first | exact (rfl : _ = some 1) | exact (rfl : _ = some 2) | exact (rfl : _ = some 3) | exact (rfl : _ = some 4) | exact (rfl : _ = some 6) | exact rfl) (fun hcg => (h3 (by intro h; subst h; simp only [List.length_nil] at *; omega)).1) (by intro hcg; first | omega | (simp at hcg; omega))) | (show OpV _ _ _ _ (Oper.mk _ (Op.load _ _) _ _ _ _) _ _; first | exact ov_load1M rfl (by first | with_reducible exact fun _ => rfl | with_reducible exact fun h => h | exact fun _ => rfl | exact fun h => h | (intro himp; simp_all; done)) rfl rfl (fun hcg => (h3 (by intro h; subst h; simp only [List.length_nil] at *; omega)).2) (fun hcg => (h4 i (by first | omega | (simp at hcg; omega))).1) | exact ov_load1M rfl (by first | with_reducible exact fun _ => rfl | with_reducible exact fun h => h | exact fun _ => rfl | exact fun h => h | (intro himp; simp_all; done)) rfl rfl (fun hcg => (h3 (by intro h; subst h; simp only [List.length_nil] at *; omega)).2) (fun hcg => (h4 i (by first | omega | (simp at hcg; omega))).2)) | fail) ?_) | refine wc_ret rfl ?_) | (show WC _ (Code.cond _ _ _) _ _ _ _; (refine wc_cond rfl (fun hc => ?_) (fun hc => ?_) <;> (try (simp only [decide_eq_true_eq, decide_eq_false_iff_not, Bool.and_eq_true, Bool.or_eq_true, Bool.and_eq_false_iff, Bool.or_eq_false_iff, Bool.not_eq_true', Bool.not_eq_false', Int.not_lt, Int.not_le] at hc)) <;> (try (exfalso; first | omega | contradiction)))))
  · refine wr_tmp rfl rfl (congrArg Value.bool ?_)
    symm
    rw [Bool.eq_false_iff]
    intro h
    have := (fewB_small h).1 _ (hmem i (by omega))
    omega
  · refine wn_cut ⟨i + 1, by omega, ?_⟩ (by show l.length - (i + 1) < l.length - i; omega) (by first | exact Sub.nil _ | (repeat (first | exact Sub.nil _ | refine Sub.cons (by first | rfl | (simp [look]; done)) ?_))) (fun _ h => h)
    intro j hj
    by_cases h : j = i
    · subst h; omega
    · exact hall j (by omega)
  · refine wr_tmp rfl rfl (congrArg Value.bool ?_)
    have hs : l.all (fun p => decide (p.1.length ≤ 60 ∧ p.2.length ≤ 60)) = true := by
      rw [List.all_eq_true]
      intro p hp
      obtain ⟨j, hj, rfl⟩ := List.mem_iff_getElem.1 hp
      have := hall j (by omega)
      simpa [hj] using this
    rw [fewB, hs, Bool.true_and]
    apply decide_eq_decide.2
    omega

theorem pcell {l : List Pr} {cs : Array Value} {o i : Nat} (h : cs[o + i * 2]? = some (str (l.getD i default).1) ∧ cs[o + i * 2 + 1]? = some (str (l.getD i default).2)) : ∀ j, j < [str (l.getD i default).1, str (l.getD i default).2].length → cs[o + i * 2 + j]? = [str (l.getD i default).1, str (l.getD i default).2][j]? := by
  intro j hj
  match j, hj with
  | 0, _ => exact h.1
  | 1, _ => exact h.2

theorem pairs_ok (hM : Laid M w) {u v : Value} {l m : List Pr} (hu : SlP M u l) (hv : SlP M v m) : Calls Tryd.prog 15 #[u, v] w (RetE w (.bool (decide (l = m)))) := by
  obtain ⟨a, cap, b, o, cs, T, fz, rfl, h1, h2, h3, h4⟩ := hu.open
  obtain ⟨a', cap', b', o', cs', T', fz', rfl, h1', h2', h3', h4'⟩ := hv.open
  refine calls_st (l := [.slice a l.length cap, .slice a' m.length cap']) hM Tryd.func15 rfl rfl rfl (E0 := [(0, true, .slice a l.length cap), (1, true, .slice a' m.length cap')]) (params_cons rfl (params_cons rfl (params_nil _))) ?_
  repeat' (first | (first | refine wc_seq ?_ | refine wc_region ?_ | refine wl_nil ?_ | refine wn_seq ?_ | refine wn_blk ?_ | refine wc_skip ?_ | refine wc_block ?_ | refine wc_exit rfl ?_ | (show WL _ _ (_ :: _) _ _ _ _; first | refine yl_v rfl rfl rfl ?_ | refine wl_v rfl rfl rfl (by first  | fail) ?_) | refine wc_ret rfl ?_) | (show WC _ (Code.cond _ _ _) _ _ _ _; (refine wc_cond rfl (fun hc => ?_) (fun hc => ?_) <;> (try (simp only [decide_eq_true_eq, decide_eq_false_iff_not, Bool.and_eq_true, Bool.or_eq_true, Bool.and_eq_false_iff, Bool.or_eq_false_iff, Bool.not_eq_true', Bool.not_eq_false', Int.not_lt, Int.not_le] at hc)) <;> (try (exfalso; first | omega | contradiction)))))
  · refine wr_tmp rfl rfl (congrArg Value.bool ?_)
    symm
    rw [decide_eq_false_iff_not]
    rintro rfl; exact hc rfl
  · refine wc_loop (α := { i : Nat // i ≤ l.length ∧ ∀ j, j < i → l.getD j default = m.getD j default }) (fun x => [(0, true, .slice a l.length cap), (1, true, .slice a' m.length cap'), (5, true, i64 (x.1 : Int))]) (fun x => St w [] [] M) (fun x => l.length - x.1) ⟨0, by omega, by intro j hj; omega⟩ (by first | exact Sub.nil _ | (repeat (first | exact Sub.nil _ | refine Sub.cons (by first | rfl | (simp [look]; done)) ?_))) (fun _ h => h) ?_
    rintro ⟨i, hi, hall⟩
    dsimp only
    repeat' (first | (first | refine wc_seq ?_ | refine wc_region ?_ | refine wl_nil ?_ | refine wn_seq ?_ | refine wn_blk ?_ | refine wc_skip ?_ | refine wc_block ?_ | refine wc_exit rfl ?_ | (show WL _ _ (_ :: _) _ _ _ _; first | refine yl_v rfl rfl rfl ?_ | refine wl_v rfl rfl rfl (by first  | fail) ?_) | refine wc_ret rfl ?_) | (show WC _ (Code.cond _ _ _) _ _ _ _; (refine wc_cond rfl (fun hc => ?_) (fun hc => ?_) <;> (try (simp only [decide_eq_true_eq, decide_eq_false_iff_not, Bool.and_eq_true, Bool.or_eq_true, Bool.and_eq_false_iff, Bool.or_eq_false_iff, Bool.not_eq_true', Bool.not_eq_false', Int.not_lt, Int.not_le] at hc)) <;> (try (exfalso; first | omega | contradiction)))))
    · refine wc_weak (E' := [(0, true, .slice a l.length cap), (1, true, .slice a' m.length cap'), (5, true, i64 (i : Int))]) (by first | exact Sub.nil _ | (repeat (first | exact Sub.nil _ | refine Sub.cons (by first | rfl | (simp [look]; done)) ?_))) (fun _ h => h) ?_
      refine wc_draw 9 (by kernel_rfl) rfl (by kernel_rfl) (fun _ _ h k => h.ext k) ?_
      repeat' (first | (show WD _ _ (_ :: _) _ _ _ _ _ _; first | refine yd_v rfl rfl rfl rfl rfl rfl ?_ | refine wd_v rfl rfl rfl rfl rfl rfl (by first | (show OpV _ _ _ _ (Oper.mk _ (Op.indexAddr _ _ _) _ _ _ _) _ _; first | exact ov_indexAddr rfl rfl (by (fail_if_success (with_reducible show (987654321 : Int) = _)); repeat' (first | with_reducible exact nc_cast | with_reducible exact nc_lit | apply nc_add | apply nc_div | apply nc_mod | apply nc_mul | refine nc_sub (m := _) (n := _) nc_cast nc_lit (by omega) | refine nc_sub (m := _) (n := _) nc_cast nc_cast (by omega))) (by first | with_reducible exact fun _ => rfl | with_reducible exact fun h => h | exact fun _ => rfl | exact fun h => h | (intro himp; simp_all; done)) (by first | with_reducible exact fun _ => rfl | with_reducible exact fun h => h | exact fun _ => rfl | exact fun h => h | (intro himp; simp_all; done)) rfl (by first | exact (rfl : _ = some 1) | exact (rfl : _ = some 2) | exact (rfl : _ = some 3) | exact (rfl : _ = some 4) | exact (rfl : _ = some 6) | exact rfl) (fun hcg => (h3 (by intro h; subst h; simp only [List.length_nil] at *; omega)).1) (by intro hcg; first | omega | (simp at hcg; omega)) | exact ov_indexAddr rfl rfl (by (fail_if_success (with_reducible show (987654321 : Int) = _)); repeat' (first | with_reducible exact nc_cast | with_reducible exact nc_lit | apply nc_add | apply nc_div | apply nc_mod | apply nc_mul | refine nc_sub (m := _) (n := _) nc_cast nc_lit (by omega) | refine nc_sub (m := _) (n := _) nc_cast nc_cast (by omega))) (by first | with_reducible exact fun _ => rfl | with_reducible exact fun h => h | exact fun _ => rfl | exact fun h => h | (intro himp; simp_all; done)) (by first | with_reducible exact fun _ => rfl | with_reducible exact fun h => h | exact fun _ => rfl | exact fun h => h | (intro himp; simp_all; done)) rfl (by first | exact (rfl : _ = some 1) | exact (rfl : _ = some 2) | exact (rfl : _ = some 3) | exact (rfl : _ = some 4) | exact (rfl : _ = some 6) | exact rfl) (fun hcg => (h3' (by intro h; subst h; simp only [List.length_nil] at *; omega)).1) (by intro hcg; first | omega | (simp at hcg; omega))) | (show OpV _ _ _ _ (Oper.mk _ (Op.load _ _) _ _ _ _) _ _; first | exact ov_loadSM rfl (by first | with_reducible exact fun _ => rfl | with_reducible exact fun h => h | exact fun _ => rfl | exact fun h => h | (intro himp; simp_all; done)) rfl (by first | exact (rfl : _ = some 1) | exact (rfl : _ = some 2) | exact (rfl : _ = some 3) | exact (rfl : _ = some 4) | exact (rfl : _ = some 6) | exact rfl) (fun hcg => (h3 (by intro h; subst h; simp only [List.length_nil] at *; omega)).2) (fun hcg => pcell (h4 i (by omega))) | exact ov_loadSM rfl (by first | with_reducible exact fun _ => rfl | with_reducible exact fun h => h | exact fun _ => rfl | exact fun h => h | (intro himp; simp_all; done)) rfl (by first | exact (rfl : _ = some 1) | exact (rfl : _ = some 2) | exact (rfl : _ = some 3) | exact (rfl : _ = some 4) | exact (rfl : _ = some 6) | exact rfl) (fun hcg => (h3' (by intro h; subst h; simp only [List.length_nil] at *; omega)).2) (fun hcg => pcell (h4' i (by omega)))) | fail) ?_ | refine yd_new rfl rfl rfl rfl rfl rfl ?_ | refine wd_conv rfl rfl rfl rfl rfl rfl rfl rfl rfl rfl ?_) | (show WD _ _ _ _ _ _ _ _ _; first | refine wd_nil ?_ | refine wd_nilF ?_) | (first | refine wc_seq ?_ | refine wc_region ?_ | refine wl_nil ?_ | refine wn_seq ?_ | refine wn_blk ?_ | refine wc_skip ?_ | refine wc_block ?_ | refine wc_exit rfl ?_ | (show WL _ _ (_ :: _) _ _ _ _; first | refine yl_v rfl rfl rfl ?_ | refine wl_v rfl rfl rfl (by first | (show OpV _ _ _ _ (Oper.mk _ (Op.indexAddr _ _ _) _ _ _ _) _ _; first | exact ov_indexAddr rfl rfl (by (fail_if_success (with_reducible show (987654321 : Int) = _)); repeat' (first | with_reducible exact nc_cast | with_reducible exact nc_lit | apply nc_add | apply nc_div | apply nc_mod | apply nc_mul | refine nc_sub (m := _) (n := _) nc_cast nc_lit (by omega) | refine nc_sub (m := _) (n := _) nc_cast nc_cast (by omega))) (by first | with_reducible exact fun _ => rfl | with_reducible exact fun h => h | exact fun _ => rfl | exact fun h => h | (intro himp; simp_all; done)) (by first | with_reducible exact fun _ => rfl | with_reducible exact fun h => h | exact fun _ => rfl | exact fun h => h | (intro himp; simp_all; done)) rfl (by first | exact (rfl : _ = some 1) | exact (rfl : _ = some 2) | exact (rfl : _ = some 3) | exact (rfl : _ = some 4) | exact (rfl : _ = some 6) | exact rfl) (fun hcg => (h3 (by intro h; subst h; simp only [List.length_nil] at *; omega)).1) (by intro hcg; first | omega | (simp at hcg; omega)) | exact ov_indexAddr rfl rfl (by (fail_if_success (with_reducible show (987654321 : Int) = _)); repeat' (first | with_reducible exact nc_cast | with_reducible exact nc_lit | apply nc_add | apply nc_div | apply nc_mod | apply nc_mul | refine nc_sub (m := _) (n := _) nc_cast nc_lit (by omega) | refine nc_sub (m := _) (n := _) nc_cast nc_cast (by omega))) (by first | with_reducible exact fun _ => rfl | with_reducible exact fun h => h | exact fun _ => rfl | exact fun h => h | (intro himp; simp_all; done)) (by first | with_reducible exact fun _ => rfl | with_reducible exact fun h => h | exact fun _ => rfl | exact fun h => h | (intro himp; simp_all; done)) rfl (by first | exact (rfl : _ = some 1) | exact (rfl : _ = some 2) | exact (rfl : _ = some 3) | exact (rfl : _ = some 4) | exact (rfl : _ = some 6) | exact rfl) (fun hcg => (h3' (by intro h; subst h; simp only [List.length_nil] at *; omega)).1) (by intro hcg; first | omega | (simp at hcg; omega))) | (show OpV _ _ _ _ (Oper.mk _ (Op.load _ _) _ _ _ _) _ _; first | exact ov_loadSM rfl (by first | with_reducible exact fun _ => rfl | with_reducible exact fun h => h | exact fun _ => rfl | exact fun h => h | (intro himp; simp_all; done)) rfl (by first | exact (rfl : _ = some 1) | exact (rfl : _ = some 2) | exact (rfl : _ = some 3) | exact (rfl : _ = some 4) | exact (rfl : _ = some 6) | exact rfl) (fun hcg => (h3 (by intro h; subst h; simp only [List.length_nil] at *; omega)).2) (fun hcg => pcell (h4 i (by omega))) | exact ov_loadSM rfl (by first | with_reducible exact fun _ => rfl | with_reducible exact fun h => h | exact fun _ => rfl | exact fun h => h | (intro himp; simp_all; done)) rfl (by first | exact (rfl : _ = some 1) | exact (rfl : _ = some 2) | exact (rfl : _ = some 3) | exact (rfl : _ = some 4) | exact (rfl : _ = some 6) | exact rfl) (fun hcg => (h3' (by intro h; subst h; simp only [List.length_nil] at *; omega)).2) (fun hcg => pcell (h4' i (by omega)))) | fail) ?_) | refine wc_ret rfl ?_))
      repeat' (first | (first | refine wc_seq ?_ | refine wc_region ?_ | refine wl_nil ?_ | refine wn_seq ?_ | refine wn_blk ?_ | refine wc_skip ?_ | refine wc_block ?_ | refine wc_exit rfl ?_ | (show WL _ _ (_ :: _) _ _ _ _; first | refine yl_v rfl rfl rfl ?_ | refine wl_v rfl rfl rfl (by first  | fail) ?_) | refine wc_ret rfl ?_) | (show WC _ (Code.cond _ _ _) _ _ _ _; (refine wc_cond rfl (fun hc => ?_) (fun hc => ?_) <;> (try (simp only [decide_eq_true_eq, decide_eq_false_iff_not, Bool.and_eq_true, Bool.or_eq_true, Bool.and_eq_false_iff, Bool.or_eq_false_iff, Bool.not_eq_true', Bool.not_eq_false', Int.not_lt, Int.not_le] at hc)) <;> (try (exfalso; first | omega | contradiction)))))
      · refine wr_tmp rfl rfl (congrArg Value.bool ?_)
        symm
        rw [decide_eq_false_iff_not]
        rintro rfl
        simp at hc
      · have hh : l.getD i default = m.getD i default := by
          simp at hc
          exact Prod.ext hc.1 hc.2
        refine wn_cut ⟨i + 1, by omega, ?_⟩ (by show l.length - (i + 1) < l.length - i; omega) (by first | exact Sub.nil _ | (repeat (first | exact Sub.nil _ | refine Sub.cons (by first | rfl | (simp [look]; done)) ?_))) (fun _ h => h)
        intro j hj
        by_cases h : j = i
        · subst h; exact hh
        · exact hall j (by omega)
    · refine wr_tmp rfl rfl (congrArg Value.bool ?_)
      symm
      rw [decide_eq_true_iff]
      apply List.ext_getElem (by omega)
      intro j hj hj'
      have := hall j (by omega)
      simpa [hj, hj'] using this
/-- the cells of laid pairs, in a row -/
theorem row_cells : ∀ (l : List Pr) (cs : Array Value) (o : Nat), (∀ i, i < l.length → cs[o + i * 2]? = some (str (l.getD i default).1) ∧ cs[o + i * 2 + 1]? = some (str (l.getD i default).2)) → ∀ j u, (cellsP l)[j]? = some u → cs[o + j]? = some u
  | [], cs, o, _, j, u, hj => by simp [cellsP] at hj
  | p :: l, cs, o, h, j, u, hj => by
    have h0 := h 0 (by simp)
    have hl := row_cells l cs (o + 2) (fun i hi => by
      have := h (i + 1) (by simpa using hi)
      rw [show o + 2 + i * 2 = o + (i + 1) * 2 from by omega]
      simpa using this)
    match j, hj with
    | 0, hj => simp [cellsP] at hj; subst hj; simpa using h0.1
    | 1, hj => simp [cellsP] at hj; subst hj; simpa using h0.2
    | j + 2, hj =>
      have := hl j u (by simpa [cellsP] using hj)
      rw [show o + (j + 2) = o + 2 + j from by omega]; exact this
theorem row_at {M : Ghost} {a : Option Addr} {b o : Nat} {cs : Array Value} {T : TypeId} {fz : Nat × Nat} {l : List Pr} (h3 : l ≠ [] → a = some ⟨b, o, none⟩ ∧ M b (.cells cs T fz)) (h4 : ∀ i, i < l.length → cs[o + i * 2]? = some (str (l.getD i default).1) ∧ cs[o + i * 2 + 1]? = some (str (l.getD i default).2)) : RowAt M a (cellsP l) := by
  cases l with
  | nil => exact .inl rfl
  | cons p l =>
    obtain ⟨h5, h6⟩ := h3 (by simp)
    exact .inr ⟨b, o, cs, T, fz, h5, h6, row_cells _ cs o h4⟩
end Go.Proofs.YtmfelfhingmmbaaDoor
/-
  The library's Cut, Split, SplitN and Atoi as the walks use them.
-/
namespace Go.Proofs.YtmfelfhingmmbaaDoor
open Go.Eng Go.Pct Go.Txt
set_option maxRecDepth 10000
set_option linter.unusedVariables false

variable {M : Ghost} {w : World}
/-- what Cut yields -/
def cutV (sep s : List UInt8) : Value := match cutS sep s with
  | some p => .tuple #[str p.1, str p.2, .bool true]
  | none => .tuple #[str s, str [], .bool false]
theorem cutM_ok (hG : Glob M) (hM : Laid M w) (s sep : List UInt8) (h0 : sep ≠ []) (hs : s.length ≤ 1000000000) : Calls Tryd.prog 36 #[str s, str sep] w (RetE w (cutV sep s)) := by
  obtain ⟨m, hm⟩ := maxLen_at hG hM
  refine (Tryd.strings_Cut ⟨s.toArray⟩ ⟨sep.toArray⟩ m w (by rw [baSize]; omega) hm).mono ?_
  rintro e w' ⟨rfl, n, rfl⟩
  refine ⟨?_, Ext.drew w n⟩
  have e1 : (⟨s.toArray⟩ : ByteArray).data.toList = s := rfl
  have e2 : (⟨sep.toArray⟩ : ByteArray).data.toList = sep := rfl
  rw [e1, e2, lib_cut h0]
  unfold cutV
  cases cutS sep s <;> rfl
theorem cut_yes (hG : Glob M) (hM : Laid M w) {s sep a b : List UInt8} (h0 : sep ≠ []) (hs : s.length ≤ 1000000000) (h : cutS sep s = some (a, b)) : Calls Tryd.prog 36 #[str s, str sep] w (RetE w (.tuple #[str a, str b, .bool true])) := by
  have := cutM_ok hG hM s sep h0 hs
  unfold cutV at this
  rw [h] at this; exact this
theorem cut_no (hG : Glob M) (hM : Laid M w) {s sep : List UInt8} (h0 : sep ≠ []) (hs : s.length ≤ 1000000000) (h : cutS sep s = none) : Calls Tryd.prog 36 #[str s, str sep] w (RetE w (.tuple #[str s, str [], .bool false])) := by
  have := cutM_ok hG hM s sep h0 hs
  unfold cutV at this
  rw [h] at this; exact this
theorem mapStr (l : List ByteArray) : l.map Value.string = (l.map (·.data.toList)).map str := by
  rw [List.map_map]
  apply List.map_congr_left
  intro x _
  exact congrArg Value.string (strMk x).symm
/-- a fresh row of texts -/
theorem slS_fresh {l : List (List UInt8)} {cs : Array Value} {b cap : Nat} {T : TypeId} (hcs : ∀ i, i < l.length → cs[i]? = some (str (l.getD i default))) (hcap : l.length ≤ cap) (hl : l.length ≤ 9223372036854775807) (hM : M b (.cells cs T (0, 0))) : SlS M (.slice (some ⟨b, 0, none⟩) l.length cap) l :=
  ⟨_, _, rfl, hcap, hl, fun _ => ⟨b, 0, cs, T, (0, 0), rfl, hM, fun i hi => ⟨[str (l[i])], rfl, rfl, fun j hj => by
    obtain rfl : j = 0 := by omega
    have := hcs i hi
    simp [hi] at this
    simpa using this⟩⟩⟩
theorem retS_fresh {l : List (List UInt8)} {cs : Array Value} {cap : Nat} {T : TypeId} (hM : Laid M w) (hcs : ∀ i, i < l.length → cs[i]? = some (str (l.getD i default))) (hcap : l.length ≤ cap) (hl : l.length ≤ 9223372036854775807) :
    RetS M w (fun M' H v => H = [] ∧ SlS M' v l) (.returned (.slice (some ⟨w.heap.size, 0, none⟩) l.length cap)) (w.alloc (.cells cs T)) := by
  have hst := (St.start hM).alloc (.cells cs T (0, 0))
  refine ⟨_, [], With M [(w.heap.size, _)], rfl, fun _ _ => .inl, fun b o h => h.imp id (fun h => ?_), St.publish (H1 := [(w.heap.size, _)]) (H2 := []) hst, rfl, slS_fresh hcs hcap hl (.inr (List.Mem.head _))⟩
  simp only [List.mem_singleton, Prod.mk.injEq] at h; omega
theorem splitB_list (sep s : List UInt8) (k : Nat) : (Lib.splitB ⟨sep.toArray⟩ 0 k ⟨s.toArray⟩).map (·.data.toList) = Lib.splitK sep 0 k s := Lib.splitB_data _ 0 k _
theorem split_len_le {sep : List UInt8} (h0 : sep ≠ []) : ∀ (n : Nat) (s : List UInt8), s.length ≤ n → (Lib.split s sep).length ≤ s.length + 1
  | 0, s, h => by
    have : s = [] := List.eq_nil_of_length_eq_zero (by omega)
    subst this
    rw [split_none h0 rfl]; simp
  | n + 1, s, h => by
    cases hc : cutS sep s with
    | none => rw [split_none h0 hc]; simp
    | some p =>
      have hl := cutS_length (a := p.1) (b := p.2) hc
      have hp := List.length_pos_iff.2 h0
      have := split_len_le h0 n p.2 (by omega)
      rw [split_some (a := p.1) (b := p.2) h0 hc]
      simp; omega
theorem splitM_ok (hG : Glob M) (hM : Laid M w) (s sep : List UInt8) (h0 : sep ≠ []) (hs : s.length ≤ 1000000000) : Calls Tryd.prog 34 #[str s, str sep] w (RetS M w (fun M' H v => H = [] ∧ SlS M' v (Lib.split s sep))) := by
  obtain ⟨m, hm⟩ := maxLen_at hG hM
  have hpos := List.length_pos_iff.2 h0
  refine (Tryd.strings_Split ⟨s.toArray⟩ ⟨sep.toArray⟩ m w (by rw [baSize]; omega) hm (by rw [baSize]; omega)).mono ?_
  rintro e w' ⟨rfl, rfl⟩
  have hl := Lib.splitB_all ⟨sep.toArray⟩ (by rw [baSize]; omega) 0 _ ⟨s.toArray⟩ rfl
  have hmap := splitB_list sep s (Lib.countB ⟨s.toArray⟩ ⟨sep.toArray⟩)
  have hk : Lib.splitK sep 0 (Lib.countB ⟨s.toArray⟩ ⟨sep.toArray⟩) s = Lib.split s sep := rfl
  have hlen : (Lib.split s sep).length = Lib.countB ⟨s.toArray⟩ ⟨sep.toArray⟩ + 1 := by rw [← hk, ← hmap, List.length_map, hl]
  have hle := split_len_le h0 s.length s (Nat.le_refl _)
  rw [mapStr, hmap, hk, ← hlen]
  exact retS_fresh hM (fun i hi => by simp [hi]) (Nat.le_refl _) (by omega)
/-- the errors' variables -/
structure GlobE (M : Ghost) : Prop where
  glob : Glob M
  syn : ∃ T fz tp p, M 1 (.cells #[.iface tp p] T fz)
  ran : ∃ T fz tp p, M 2 (.cells #[.iface tp p] T fz)
theorem GlobE.mono {M M' : Ghost} (h : GlobE M) (hm : ∀ b o, M b o → M' b o) : GlobE M' := by
  obtain ⟨g, ⟨a, b, c, d, h1⟩, ⟨a', b', c', d', h2⟩⟩ := h
  exact ⟨g.mono hm, ⟨a, b, c, d, hm _ _ h1⟩, ⟨a', b', c', d', hm _ _ h2⟩⟩
theorem gSyn : Tryd.prog.globalNamed "strconv.ErrSyntax" = some 1 := by kernel_rfl
theorem gRan : Tryd.prog.globalNamed "strconv.ErrRange" = some 2 := by kernel_rfl
theorem atoi_ok (hE : GlobE M) (hM : Laid M w) (s : List UInt8) (hs : s.length ≤ 1000000000) : Calls Tryd.prog 44 #[str s] w (RetS M w (fun M' H v => H = [] ∧ ∃ er, v = .tuple #[i64 (atoiV s), er])) := by
  have e1 : (⟨s.toArray⟩ : ByteArray).data.toList = s := rfl
  have hsz : (⟨s.toArray⟩ : ByteArray).size = s.length := baSize s
  have fin : ∀ (w' : World) (x : Value), Ext w w' → RetS M w (fun M' H v => H = [] ∧ ∃ er, v = .tuple #[i64 (atoiV s), er]) (.returned (.tuple #[i64 (atoiV s), x])) w' := fun w' x hx =>
    ⟨_, [], M, rfl, fun _ _ h => h, fun _ _ h => .inl h, (St.start hM).ext hx, rfl, x, rfl⟩
  unfold atoiV at *
  cases h : Lib.atoiAll s with
  | ok v =>
    refine (Tryd.strconv_Atoi_ok ⟨s.toArray⟩ (by rw [hsz]; omega) v (by rw [e1]; exact h) w).mono ?_
    rintro e w' ⟨rfl, hw⟩
    rw [h] at fin
    refine fin _ _ ?_
    rcases hw with rfl | ⟨t, rfl⟩
    · exact Keep.refl _ _
    · exact Ext.of_below (Lib.bytesWorld_below w _ t)
  | range =>
    obtain ⟨T, fz, tp, p, h1⟩ := hE.ran
    have hv : w.var? Tryd.prog "strconv.ErrRange" = some #[.iface tp p] := by unfold World.var?; rw [gRan, Option.bind_some, hM _ _ h1]
    refine (Any.strconv_Atoi_range_var Tryd.laysC172 ⟨s.toArray⟩ (by rw [hsz]; omega) (by rw [e1]; exact h) tp p w hv).mono ?_
    rintro e w' ⟨N, rfl, _, _, hb⟩
    rw [h] at fin
    exact fin _ _ (Ext.of_below hb)
  | _ =>
    obtain ⟨T, fz, tp, p, h1⟩ := hE.syn
    have hv : w.var? Tryd.prog "strconv.ErrSyntax" = some #[.iface tp p] := by unfold World.var?; rw [gSyn, Option.bind_some, hM _ _ h1]
    refine (Any.strconv_Atoi_syntax_var Tryd.laysC172 ⟨s.toArray⟩ (by rw [hsz]; omega) (by rw [e1]; exact h) tp p w hv).mono ?_
    rintro e w' ⟨N, rfl, _, _, hb⟩
    rw [h] at fin
    exact fin _ _ (Ext.of_below hb)
theorem split_ne {sep : List UInt8} (h0 : sep ≠ []) (s : List UInt8) : 0 < (Lib.split s sep).length := by
  cases hc : cutS sep s with
  | none => rw [split_none h0 hc]; simp
  | some p => rw [split_some (a := p.1) (b := p.2) h0 hc]; simp
theorem splitK_mem {sep : List UInt8} (h0 : sep ≠ []) : ∀ (k : Nat) (s x : List UInt8), x ∈ Lib.splitK sep 0 k s → x.length ≤ s.length
  | 0, s, x, h => by rw [splitK_zero, List.mem_singleton] at h; subst h; omega
  | k + 1, s, x, h => by
    cases hc : cutS sep s with
    | none => rw [splitK_none h0 hc, List.mem_singleton] at h; subst h; omega
    | some p =>
      have hl := cutS_length (a := p.1) (b := p.2) hc
      rw [splitK_some (a := p.1) (b := p.2) h0 hc] at h
      rcases List.mem_cons.1 h with rfl | h
      · omega
      · have := splitK_mem h0 k p.2 x h; omega
theorem split_mem {sep : List UInt8} (h0 : sep ≠ []) {s x : List UInt8} (h : x ∈ Lib.split s sep) : x.length ≤ s.length := splitK_mem h0 _ s x h
theorem getD_mem {α : Type} [Inhabited α] {l : List α} {i : Nat} (h : i < l.length) : l.getD i default ∈ l := by
  have : l.getD i default = l[i] := by simp [h]
  rw [this]; exact List.getElem_mem _
end Go.Proofs.YtmfelfhingmmbaaDoor
/-
  Library texts: Join, HasPrefix, HasSuffix, CutPrefix, Trim at the space; matricularef01.Cut.
-/
namespace Go.Proofs.YtmfelfhingmmbaaDoor
open Go.Eng Go.Pct Go.Txt
set_option maxRecDepth 10000
set_option linter.unusedSimpArgs false
set_option linter.unusedVariables false

variable {M : Ghost} {w : World}
theorem trim1_ok (hM : Laid M w) (s : List UInt8) (hs : s.length ≤ 9223372036854775807) : Calls Tryd.prog 35 #[str s, str [32]] w (RetE w (str (trim1 s))) := by
  refine (Any.strings_Trim_laid Tryd.lays160 (by kernel_rfl) ⟨s.toArray⟩ ⟨[(32 : UInt8)].toArray⟩ w (by rw [baSize]; exact hs) (by rw [baSize]; decide) (ascii_of_all (by decide))).mono ?_
  rintro e w' ⟨rfl, hb⟩
  refine ⟨?_, Ext.of_below hb⟩
  rw [← trim1_lib]
theorem join_ok (hM : Laid M w) {v : Value} {l : List (List UInt8)} (hl : SlS M v l) (sep : List UInt8) (hn : l.length ≤ 140737488355328) (hlen : (Lib.join l sep).length ≤ 100000000000000) : Calls Tryd.prog 41 #[v, str sep] w (RetE w (str (Lib.join l sep))) := by
  obtain ⟨a, cap, b, o, cs, T, fz, rfl, h1, h2, h3, h4⟩ := hl.open
  cases l with
  | nil =>
    refine (Tryd.strings_Join_none a cap ⟨sep.toArray⟩ w).mono ?_
    rintro e w' ⟨rfl, rfl⟩
    exact ⟨rfl, Keep.refl _ _⟩
  | cons x r =>
    obtain ⟨rfl, h5⟩ := h3 (by simp)
    have e1 : (((x :: r).map fun p => (⟨p.toArray⟩ : ByteArray)).map (·.data.toList)) = x :: r := by simp [List.map_map, Function.comp_def]
    have hj := Tryd.strings_Join b o cap ((x :: r).map fun p => ⟨p.toArray⟩) ⟨sep.toArray⟩ w (fun j y hy => by
      rw [List.getElem?_map] at hy
      obtain ⟨p, hp, rfl⟩ := Option.map_eq_some_iff.1 hy
      obtain ⟨hj, rfl⟩ := List.getElem?_eq_some_iff.1 hp
      rw [cell_of (hM _ _ h5)]
      have := h4 j hj
      rw [Nat.mul_one] at this
      rw [this, List.getD_eq_getElem?_getD, List.getElem?_eq_getElem hj]; rfl) (lt_of_get (hM _ _ h5)) (by simpa using hn) (by simpa using h1) (by rw [e1]; exact Nat.le_trans hlen (by decide))
    rw [e1, List.length_map] at hj
    refine hj.mono ?_
    rintro e w' ⟨rfl, hb⟩
    exact ⟨rfl, Ext.of_below hb⟩

theorem prefix_ok (hM : Laid M w) (s p : List UInt8) : Calls Tryd.prog 42 #[str s, str p] w (RetE w (.bool (Lib.hasPrefix s p))) := by
  refine (Tryd.strings_HasPrefix ⟨s.toArray⟩ ⟨p.toArray⟩ w).mono ?_
  rintro e w' ⟨rfl, rfl⟩
  exact ⟨rfl, Keep.refl _ _⟩
theorem lprefix_ok (hM : Laid M w) (s p : List UInt8) : Calls Tryd.prog 61 #[str s, str p] w (RetE w (.bool (Lib.hasPrefix s p))) := by
  refine (Tryd.stringslite_HasPrefix ⟨s.toArray⟩ ⟨p.toArray⟩ w).mono ?_
  rintro e w' ⟨rfl, rfl⟩
  exact ⟨rfl, Keep.refl _ _⟩
theorem hasPrefix_len {s p : List UInt8} (h : Lib.hasPrefix s p = true) : p.length ≤ s.length := by
  unfold Lib.hasPrefix at h
  exact (List.isPrefixOf_iff_prefix.1 h).length_le
def cutP (s p : List UInt8) : List UInt8 := if Lib.hasPrefix s p = true then s.drop p.length else s
theorem lcutprefix_ok (hM : Laid M w) (s p : List UInt8) : Calls Tryd.prog 65 #[str s, str p] w (RetE w (.tuple #[str (cutP s p), .bool (Lib.hasPrefix s p)])) := by
  unfold cutP
  cases h : Lib.hasPrefix s p with
  | true =>
    have hp := fun {w : World} (hw : Laid M w) => lprefix_ok hw s p
    rw [h] at hp
    have := hasPrefix_len h
    refine calls_st (l := [str s, str p]) hM Tryd.func65 rfl rfl rfl (E0 := [(0, true, str s), (1, true, str p)]) (params_cons rfl (params_cons rfl (params_nil _))) ?_
    repeat' (first | (first | refine wc_seq ?_ | refine wc_region ?_ | refine wl_nil ?_ | refine wn_seq ?_ | refine wn_blk ?_ | refine wc_skip ?_ | refine wc_block ?_ | refine wc_exit rfl ?_ | (show WL _ _ (_ :: _) _ _ _ _; first | refine yl_v rfl rfl rfl ?_ | refine wl_v rfl rfl rfl (by first | ((show OpV _ _ _ _ (Oper.mk _ (Op.call ⟨.value (.func 61), _, _⟩) _ _ _ _) _ _; exact ov_call Tryd.call61 rfl (by intro himp; first | rfl | (simp_all; done)) (by rfl) (fun _ _ h k => h.ext k) (fun hcg w hw => hp hw.laid))) | (show OpV _ _ _ _ (Oper.mk _ (Op.binOp BinOp.add _ _ _ _) _ _ _ _) _ _; exact ov_sadd rfl rfl (by first | with_reducible exact fun _ => rfl | with_reducible exact fun h => h | exact fun _ => rfl | exact fun h => h | (intro himp; simp_all; done)) (by first | with_reducible exact fun _ => rfl | with_reducible exact fun h => h | exact fun _ => rfl | exact fun h => h | (intro himp; simp_all; done)) (by intro hcg; first | omega | (simp only [List.length_append, List.length_take, List.length_drop, List.length_cons, List.length_nil, pctOf_length]; omega)))) ?_) | refine wc_ret rfl ?_) | (show WC _ (Code.cond _ _ _) _ _ _ _; (refine wc_cond rfl (fun hc => ?_) (fun hc => ?_) <;> (try (simp only [decide_eq_true_eq, decide_eq_false_iff_not, Bool.and_eq_true, Bool.or_eq_true, Bool.and_eq_false_iff, Bool.or_eq_false_iff, Bool.not_eq_true', Bool.not_eq_false', Int.not_lt, Int.not_le] at hc)) <;> (try (exfalso; first | omega | contradiction)))))
    exact wr_tmp2 rfl rfl rfl rfl rfl
  | false =>
    have hp := fun {w : World} (hw : Laid M w) => lprefix_ok hw s p
    rw [h] at hp
    refine calls_st (l := [str s, str p]) hM Tryd.func65 rfl rfl rfl (E0 := [(0, true, str s), (1, true, str p)]) (params_cons rfl (params_cons rfl (params_nil _))) ?_
    repeat' (first | (first | refine wc_seq ?_ | refine wc_region ?_ | refine wl_nil ?_ | refine wn_seq ?_ | refine wn_blk ?_ | refine wc_skip ?_ | refine wc_block ?_ | refine wc_exit rfl ?_ | (show WL _ _ (_ :: _) _ _ _ _; first | refine yl_v rfl rfl rfl ?_ | refine wl_v rfl rfl rfl (by first | ((show OpV _ _ _ _ (Oper.mk _ (Op.call ⟨.value (.func 61), _, _⟩) _ _ _ _) _ _; exact ov_call Tryd.call61 rfl (by intro himp; first | rfl | (simp_all; done)) (by rfl) (fun _ _ h k => h.ext k) (fun hcg w hw => hp hw.laid))) | (show OpV _ _ _ _ (Oper.mk _ (Op.binOp BinOp.add _ _ _ _) _ _ _ _) _ _; exact ov_sadd rfl rfl (by first | with_reducible exact fun _ => rfl | with_reducible exact fun h => h | exact fun _ => rfl | exact fun h => h | (intro himp; simp_all; done)) (by first | with_reducible exact fun _ => rfl | with_reducible exact fun h => h | exact fun _ => rfl | exact fun h => h | (intro himp; simp_all; done)) (by intro hcg; first | omega | (simp only [List.length_append, List.length_take, List.length_drop, List.length_cons, List.length_nil, pctOf_length]; omega)))) ?_) | refine wc_ret rfl ?_) | (show WC _ (Code.cond _ _ _) _ _ _ _; (refine wc_cond rfl (fun hc => ?_) (fun hc => ?_) <;> (try (simp only [decide_eq_true_eq, decide_eq_false_iff_not, Bool.and_eq_true, Bool.or_eq_true, Bool.and_eq_false_iff, Bool.or_eq_false_iff, Bool.not_eq_true', Bool.not_eq_false', Int.not_lt, Int.not_le] at hc)) <;> (try (exfalso; first | omega | contradiction)))))
    exact wr_tmp2 rfl rfl rfl rfl rfl
theorem cutprefix_ok (hM : Laid M w) (s p : List UInt8) : Calls Tryd.prog 46 #[str s, str p] w (RetE w (.tuple #[str (cutP s p), .bool (Lib.hasPrefix s p)])) := by
  refine calls_st (l := [str s, str p]) hM Tryd.func46 rfl rfl rfl (E0 := [(0, true, str s), (1, true, str p)]) (params_cons rfl (params_cons rfl (params_nil _))) ?_
  repeat' (first | (first | refine wc_seq ?_ | refine wc_region ?_ | refine wl_nil ?_ | refine wn_seq ?_ | refine wn_blk ?_ | refine wc_skip ?_ | refine wc_block ?_ | refine wc_exit rfl ?_ | (show WL _ _ (_ :: _) _ _ _ _; first | refine yl_v rfl rfl rfl ?_ | refine wl_v rfl rfl rfl (by first | ((show OpV _ _ _ _ (Oper.mk _ (Op.call ⟨.value (.func 65), _, _⟩) _ _ _ _) _ _; exact ov_call Tryd.call65 rfl (by intro himp; first | rfl | (simp_all; done)) (by rfl) (fun _ _ h k => h.ext k) (fun hcg w hw => lcutprefix_ok hw.laid s p))) | (show OpV _ _ _ _ (Oper.mk _ (Op.binOp BinOp.add _ _ _ _) _ _ _ _) _ _; exact ov_sadd rfl rfl (by first | with_reducible exact fun _ => rfl | with_reducible exact fun h => h | exact fun _ => rfl | exact fun h => h | (intro himp; simp_all; done)) (by first | with_reducible exact fun _ => rfl | with_reducible exact fun h => h | exact fun _ => rfl | exact fun h => h | (intro himp; simp_all; done)) (by intro hcg; first | omega | (simp only [List.length_append, List.length_take, List.length_drop, List.length_cons, List.length_nil, pctOf_length]; omega)))) ?_) | refine wc_ret rfl ?_) | (show WC _ (Code.cond _ _ _) _ _ _ _; (refine wc_cond rfl (fun hc => ?_) (fun hc => ?_) <;> (try (simp only [decide_eq_true_eq, decide_eq_false_iff_not, Bool.and_eq_true, Bool.or_eq_true, Bool.and_eq_false_iff, Bool.or_eq_false_iff, Bool.not_eq_true', Bool.not_eq_false', Int.not_lt, Int.not_le] at hc)) <;> (try (exfalso; first | omega | contradiction)))))
  exact wr_tmp2 rfl rfl rfl rfl rfl

theorem suffix_ok (hM : Laid M w) (s p : List UInt8) (hs : s.length ≤ 9223372036854775807) : Calls Tryd.prog 47 #[str s, str p] w (RetE w (.bool (Lib.hasSuffix s p))) := by
  refine (Tryd.strings_HasSuffix ⟨s.toArray⟩ ⟨p.toArray⟩ w (by rw [baSize]; exact hs)).mono ?_
  rintro e w' ⟨rfl, rfl⟩
  exact ⟨rfl, Keep.refl _ _⟩
abbrev tSt : TypeId := 9
/-- ref.Cut -/
structure CS (s : List UInt8) (c : UInt8) where
  out : List (List UInt8)
  f : Nat
  i : Nat
  v : Value
  Hs : List (Nat × Obj)
  hi : f ≤ i ∧ i ≤ s.length ∧ out.length ≤ f
  inv : pieces c s = out ++ pieces c (s.drop f) ∧ c ∉ (s.drop f).take (i - f)
  own : OwnS tSt 1 v Hs (cellsS out)
def CS.start (s : List UInt8) (c : UInt8) : CS s c := ⟨[], 0, 0, .slice none 0 0, [], ⟨Nat.le_refl _, Nat.zero_le _, Nat.le_refl _⟩, ⟨by simp, by simp⟩, OwnS.nil⟩
theorem cut_step {s : List UInt8} {c : UInt8} {f i : Nat} (hf : f ≤ i) (hi : i < s.length) (h : c ∉ (s.drop f).take (i - f)) (hc : s.getD i 0 = c) : pieces c (s.drop f) = (s.drop f).take (i - f) :: pieces c (s.drop (i + 1)) := by
  conv => lhs; rw [← List.take_append_drop (i - f) (s.drop f), List.drop_drop, show f + (i - f) = i from by omega, Txt.drop_getD hi, hc]
  exact pieces_hit h
theorem cut_past {s : List UInt8} {c : UInt8} {f i : Nat} (hf : f ≤ i) (hi : i < s.length) (h : c ∉ (s.drop f).take (i - f)) (hc : s.getD i 0 ≠ c) : c ∉ (s.drop f).take (i + 1 - f) := by
  rw [show i + 1 - f = (i - f) + 1 from by omega, List.take_succ_eq_append_getElem (by simp; omega)]
  simp only [List.mem_append, List.mem_singleton, not_or]
  refine ⟨h, fun e => hc ?_⟩
  rw [e, List.getElem_drop]
  simp [show f + (i - f) = i from by omega, hi]

theorem rcut_ok (hM : Laid M w) (s : List UInt8) (c : UInt8) (hs : s.length ≤ 1000000) : Calls Tryd.prog 39 #[str s, byt c] w (RetS M w (fun M' H v => H = [] ∧ SlS M' v (pieces c s))) := by
  refine calls_st (l := [str s, byt c]) hM Tryd.func39 rfl rfl rfl (E0 := [(0, true, str s), (1, true, byt c)]) (params_cons rfl (params_cons rfl (params_nil _))) ?_
  repeat' (first | (first | refine wc_seq ?_ | refine wc_region ?_ | refine wl_nil ?_ | refine wn_seq ?_ | refine wn_blk ?_ | refine wc_skip ?_ | refine wc_block ?_ | refine wc_exit rfl ?_ | (show WL _ _ (_ :: _) _ _ _ _; first | refine yl_v rfl rfl rfl ?_ | refine wl_v rfl rfl rfl (by first  | (show OpV _ _ _ _ (Oper.mk _ (Op.binOp BinOp.add _ _ _ _) _ _ _ _) _ _; exact ov_sadd rfl rfl (by first | with_reducible exact fun _ => rfl | with_reducible exact fun h => h | exact fun _ => rfl | exact fun h => h | (intro himp; simp_all; done)) (by first | with_reducible exact fun _ => rfl | with_reducible exact fun h => h | exact fun _ => rfl | exact fun h => h | (intro himp; simp_all; done)) (by intro hcg; first | omega | (simp only [List.length_append, List.length_take, List.length_drop, List.length_cons, List.length_nil, pctOf_length]; omega)))) ?_ | refine xl_buildSlice rfl (fun _ => ?_)) | refine wc_ret rfl ?_) | (show WC _ (Code.cond _ _ _) _ _ _ _; (refine wc_cond rfl (fun hc => ?_) (fun hc => ?_) <;> (try (simp only [decide_eq_true_eq, decide_eq_false_iff_not, Bool.and_eq_true, Bool.or_eq_true, Bool.and_eq_false_iff, Bool.or_eq_false_iff, Bool.not_eq_true', Bool.not_eq_false', Int.not_lt, Int.not_le] at hc)) <;> (try (exfalso; first | omega | contradiction)))))
  refine wc_loop (α := CS s c) (fun x => [(0, true, str s), (1, true, byt c), (5, true, x.v), (6, true, i64 (x.f : Int)), (7, true, i64 (x.i : Int))]) (fun x => St w [] x.Hs M) (fun x => s.length - x.i) (CS.start s c) (by first | exact Sub.nil _ | (repeat (first | exact Sub.nil _ | refine Sub.cons (by first | rfl | (simp [look]; done)) ?_))) (fun _ h => h) ?_
  rintro ⟨out, f, i, v, Hs, ⟨hf, hi, ho⟩, ⟨hp, hn⟩, own⟩
  dsimp only
  repeat' (first | (first | refine wc_seq ?_ | refine wc_region ?_ | refine wl_nil ?_ | refine wn_seq ?_ | refine wn_blk ?_ | refine wc_skip ?_ | refine wc_block ?_ | refine wc_exit rfl ?_ | (show WL _ _ (_ :: _) _ _ _ _; first | refine yl_v rfl rfl rfl ?_ | refine wl_v rfl rfl rfl (by first  | (show OpV _ _ _ _ (Oper.mk _ (Op.binOp BinOp.add _ _ _ _) _ _ _ _) _ _; exact ov_sadd rfl rfl (by first | with_reducible exact fun _ => rfl | with_reducible exact fun h => h | exact fun _ => rfl | exact fun h => h | (intro himp; simp_all; done)) (by first | with_reducible exact fun _ => rfl | with_reducible exact fun h => h | exact fun _ => rfl | exact fun h => h | (intro himp; simp_all; done)) (by intro hcg; first | omega | (simp only [List.length_append, List.length_take, List.length_drop, List.length_cons, List.length_nil, pctOf_length]; omega)))) ?_ | refine xl_buildSlice rfl (fun _ => ?_)) | refine wc_ret rfl ?_) | (show WC _ (Code.cond _ _ _) _ _ _ _; (refine wc_cond rfl (fun hc => ?_) (fun hc => ?_) <;> (try (simp only [decide_eq_true_eq, decide_eq_false_iff_not, Bool.and_eq_true, Bool.or_eq_true, Bool.and_eq_false_iff, Bool.or_eq_false_iff, Bool.not_eq_true', Bool.not_eq_false', Int.not_lt, Int.not_le] at hc)) <;> (try (exfalso; first | omega | contradiction)))))
  · have hcc : s.getD i 0 = c := (getD_cast _ _).1 hc
    have hlen : (cellsS out).length = out.length * 1 := cellsS_length out
    refine wl_append (H0 := []) rfl own rfl rfl rfl rfl rfl rfl rfl rfl rfl rfl (by first | exact List.Mem.head _ | exact List.Mem.tail _ (List.Mem.head _) | exact List.Mem.tail _ (List.Mem.tail _ (List.Mem.head _)) | exact List.Mem.tail _ (List.Mem.tail _ (List.Mem.tail _ (List.Mem.head _))) | exact List.Mem.tail _ (List.Mem.tail _ (List.Mem.tail _ (List.Mem.tail _ (List.Mem.head _)))) | exact List.mem_append_right _ (List.Mem.head _) | exact List.mem_append_right _ (List.Mem.tail _ (List.Mem.head _)) | exact List.mem_append_right _ (List.Mem.tail _ (List.Mem.tail _ (List.Mem.head _))) | exact List.mem_append_right _ (List.Mem.tail _ (List.Mem.tail _ (List.Mem.tail _ (List.Mem.head _)))) | exact List.Mem.tail _ (List.mem_append_right _ (List.Mem.head _)) | exact List.Mem.tail _ (List.mem_append_right _ (List.Mem.tail _ (List.Mem.head _))) | exact List.Mem.tail _ (List.mem_append_right _ (List.Mem.tail _ (List.Mem.tail _ (List.Mem.head _)))) | exact List.Mem.tail _ (List.mem_append_right _ (List.Mem.tail _ (List.Mem.tail _ (List.Mem.tail _ (List.Mem.head _))))) | exact List.Mem.tail _ (List.Mem.tail _ (List.mem_append_right _ (List.Mem.head _))) | exact List.Mem.tail _ (List.Mem.tail _ (List.mem_append_right _ (List.Mem.tail _ (List.Mem.head _)))) | exact List.Mem.tail _ (List.Mem.tail _ (List.mem_append_right _ (List.Mem.tail _ (List.Mem.tail _ (List.Mem.head _)))))) rfl rfl (by simp only [List.append_nil]; exact (by repeat (first | exact List.Sublist.refl _ | apply List.Sublist.cons))) (by rw [hlen]; omega) rfl ?_
    intro v' Hs' ho'
    have ho2 : OwnS tSt 1 v' Hs' (cellsS (out ++ [(s.drop f).take (i - f)])) := by rw [cellsS_snoc]; exact ho'
    repeat' (first | (first | refine wc_seq ?_ | refine wc_region ?_ | refine wl_nil ?_ | refine wn_seq ?_ | refine wn_blk ?_ | refine wc_skip ?_ | refine wc_block ?_ | refine wc_exit rfl ?_ | (show WL _ _ (_ :: _) _ _ _ _; first | refine yl_v rfl rfl rfl ?_ | refine wl_v rfl rfl rfl (by first  | (show OpV _ _ _ _ (Oper.mk _ (Op.binOp BinOp.add _ _ _ _) _ _ _ _) _ _; exact ov_sadd rfl rfl (by first | with_reducible exact fun _ => rfl | with_reducible exact fun h => h | exact fun _ => rfl | exact fun h => h | (intro himp; simp_all; done)) (by first | with_reducible exact fun _ => rfl | with_reducible exact fun h => h | exact fun _ => rfl | exact fun h => h | (intro himp; simp_all; done)) (by intro hcg; first | omega | (simp only [List.length_append, List.length_take, List.length_drop, List.length_cons, List.length_nil, pctOf_length]; omega)))) ?_ | refine xl_buildSlice rfl (fun _ => ?_)) | refine wc_ret rfl ?_) | (show WC _ (Code.cond _ _ _) _ _ _ _; (refine wc_cond rfl (fun hc => ?_) (fun hc => ?_) <;> (try (simp only [decide_eq_true_eq, decide_eq_false_iff_not, Bool.and_eq_true, Bool.or_eq_true, Bool.and_eq_false_iff, Bool.or_eq_false_iff, Bool.not_eq_true', Bool.not_eq_false', Int.not_lt, Int.not_le] at hc)) <;> (try (exfalso; first | omega | contradiction)))))
    refine wn_cut ⟨_, i + 1, i + 1, v', Hs', ⟨Nat.le_refl _, by omega, by simp; omega⟩, ⟨?_, by simp⟩, ho2⟩ (by show s.length - (i + 1) < s.length - i; omega) (by first | exact Sub.nil _ | (repeat (first | exact Sub.nil _ | refine Sub.cons (by first | rfl | (simp [look]; done)) ?_))) (fun _ h => by simpa using h)
    rw [hp, cut_step hf (by omega) hn hcc]; simp
  · have hcc : s.getD i 0 ≠ c := fun h => hc ((getD_cast _ _).2 h)
    refine wn_cut ⟨out, f, i + 1, v, Hs, ⟨by omega, by omega, ho⟩, ⟨hp, cut_past hf (by omega) hn hcc⟩, own⟩ (by show s.length - (i + 1) < s.length - i; omega) (by first | exact Sub.nil _ | (repeat (first | exact Sub.nil _ | refine Sub.cons (by first | rfl | (simp [look]; done)) ?_))) (fun _ h => h)
  · have hlen : (cellsS out).length = out.length * 1 := cellsS_length out
    refine wl_append (H0 := []) rfl own rfl rfl rfl rfl rfl rfl rfl rfl rfl rfl (by first | exact List.Mem.head _ | exact List.Mem.tail _ (List.Mem.head _) | exact List.Mem.tail _ (List.Mem.tail _ (List.Mem.head _)) | exact List.Mem.tail _ (List.Mem.tail _ (List.Mem.tail _ (List.Mem.head _))) | exact List.Mem.tail _ (List.Mem.tail _ (List.Mem.tail _ (List.Mem.tail _ (List.Mem.head _)))) | exact List.mem_append_right _ (List.Mem.head _) | exact List.mem_append_right _ (List.Mem.tail _ (List.Mem.head _)) | exact List.mem_append_right _ (List.Mem.tail _ (List.Mem.tail _ (List.Mem.head _))) | exact List.mem_append_right _ (List.Mem.tail _ (List.Mem.tail _ (List.Mem.tail _ (List.Mem.head _)))) | exact List.Mem.tail _ (List.mem_append_right _ (List.Mem.head _)) | exact List.Mem.tail _ (List.mem_append_right _ (List.Mem.tail _ (List.Mem.head _))) | exact List.Mem.tail _ (List.mem_append_right _ (List.Mem.tail _ (List.Mem.tail _ (List.Mem.head _)))) | exact List.Mem.tail _ (List.mem_append_right _ (List.Mem.tail _ (List.Mem.tail _ (List.Mem.tail _ (List.Mem.head _))))) | exact List.Mem.tail _ (List.Mem.tail _ (List.mem_append_right _ (List.Mem.head _))) | exact List.Mem.tail _ (List.Mem.tail _ (List.mem_append_right _ (List.Mem.tail _ (List.Mem.head _)))) | exact List.Mem.tail _ (List.Mem.tail _ (List.mem_append_right _ (List.Mem.tail _ (List.Mem.tail _ (List.Mem.head _)))))) rfl rfl (by simp only [List.append_nil]; exact (by repeat (first | exact List.Sublist.refl _ | apply List.Sublist.cons))) (by rw [hlen]; omega) rfl ?_
    intro v' Hs' ho'
    have ho2 : OwnS tSt 1 v' Hs' (cellsS (out ++ [s.drop f])) := by rw [cellsS_snoc]; exact ho'
    repeat' (first | (first | refine wc_seq ?_ | refine wc_region ?_ | refine wl_nil ?_ | refine wn_seq ?_ | refine wn_blk ?_ | refine wc_skip ?_ | refine wc_block ?_ | refine wc_exit rfl ?_ | (show WL _ _ (_ :: _) _ _ _ _; first | refine yl_v rfl rfl rfl ?_ | refine wl_v rfl rfl rfl (by first  | (show OpV _ _ _ _ (Oper.mk _ (Op.binOp BinOp.add _ _ _ _) _ _ _ _) _ _; exact ov_sadd rfl rfl (by first | with_reducible exact fun _ => rfl | with_reducible exact fun h => h | exact fun _ => rfl | exact fun h => h | (intro himp; simp_all; done)) (by first | with_reducible exact fun _ => rfl | with_reducible exact fun h => h | exact fun _ => rfl | exact fun h => h | (intro himp; simp_all; done)) (by intro hcg; first | omega | (simp only [List.length_append, List.length_take, List.length_drop, List.length_cons, List.length_nil, pctOf_length]; omega)))) ?_ | refine xl_buildSlice rfl (fun _ => ?_)) | refine wc_ret rfl ?_) | (show WC _ (Code.cond _ _ _) _ _ _ _; (refine wc_cond rfl (fun hc => ?_) (fun hc => ?_) <;> (try (simp only [decide_eq_true_eq, decide_eq_false_iff_not, Bool.and_eq_true, Bool.or_eq_true, Bool.and_eq_false_iff, Bool.or_eq_false_iff, Bool.not_eq_true', Bool.not_eq_false', Int.not_lt, Int.not_le] at hc)) <;> (try (exfalso; first | omega | contradiction)))))
    have hpp : pieces c s = out ++ [s.drop f] := by
      rw [hp]
      rw [List.take_of_length_le (by simp; omega)] at hn
      rw [pieces_no hn]
    refine wr_lay (Hn := Hs') rfl rfl Since.refl (by simp) ⟨rfl, ?_⟩
    rw [hpp]
    exact ho2.slS (fun p hp => .inr hp) (by simp; omega)

end Go.Proofs.YtmfelfhingmmbaaDoor
/-
  The small functions of packages cookie and matricularef04: token, value, Right, under, Few.
-/
namespace Go.Proofs.YtmfelfhingmmbaaDoor
open Go.Eng Go.Pct Go.Txt Go.Ck
open Go.Rsp (tokC tokenB)
set_option maxRecDepth 10000
set_option linter.unusedSimpArgs false
set_option linter.unusedVariables false

variable {M : Ghost} {w : World}
theorem ctok_no (c : UInt8) : (((plainB c = false ∨ (c.toNat : Int) = 46) ∨ (c.toNat : Int) = 95) ∨ (c.toNat : Int) = 126) → tokC c = false := by revert c; apply all_bytes; decide +kernel
theorem ctok_yes (c : UInt8) : (((plainB c = true ∧ ¬ (c.toNat : Int) = 46) ∧ ¬ (c.toNat : Int) = 95) ∧ ¬ (c.toNat : Int) = 126) → tokC c = true := by revert c; apply all_bytes; decide +kernel
theorem cval_no (c : UInt8) : ((((((c.toNat : Int) < 33 ∨ 126 < (c.toNat : Int)) ∨ (c.toNat : Int) = 34) ∨ (c.toNat : Int) = 44) ∨ (c.toNat : Int) = 59) ∨ (c.toNat : Int) = 92) → valC c = false := by revert c; apply all_bytes; decide +kernel
theorem cval_yes (c : UInt8) : ((((((33 : Int) ≤ (c.toNat : Int) ∧ (c.toNat : Int) ≤ 126) ∧ ¬ (c.toNat : Int) = 34) ∧ ¬ (c.toNat : Int) = 44) ∧ ¬ (c.toNat : Int) = 59) ∧ ¬ (c.toNat : Int) = 92) → valC c = true := by revert c; apply all_bytes; decide +kernel
theorem all_getD {p : UInt8 → Bool} {s : List UInt8} (h : ∀ i, i < s.length → p (s.getD i 0) = true) : s.all p = true := by
  rw [List.all_eq_true]
  intro x hx
  obtain ⟨i, hi, rfl⟩ := List.mem_iff_getElem.1 hx
  have := h i hi
  simpa [hi] using this
theorem all_no2 {p : UInt8 → Bool} {s : List UInt8} {i : Nat} (hi : i < s.length) (h : p (s.getD i 0) = false) : s.all p = false := by
  rw [Bool.eq_false_iff]
  intro h2
  rw [List.all_eq_true] at h2
  have := h2 (s.getD i 0) (by have e : s.getD i 0 = s[i] := by simp [hi]
                              rw [e]; exact List.getElem_mem _)
  rw [h] at this; cases this
theorem ctoken_ok (hM : Laid M w) (s : List UInt8) (hs : s.length ≤ 9223372036854775807) : Calls Tryd.prog 37 #[str s] w (RetE w (.bool (tokenB s))) := by
  have hpl := fun {w : World} (hw : Laid M w) (c : UInt8) => plain_ok hw c
  refine calls_st (l := [str s]) hM Tryd.func37 rfl rfl rfl (E0 := [(0, true, str s)]) (params_cons rfl (params_nil _)) ?_
  repeat' (first | refine wc_seq ?_ | refine wc_region ?_ | refine wl_nil ?_ | refine wn_seq ?_ | refine wn_blk ?_ | refine wc_skip ?_ | refine wc_block ?_ | refine wc_exit rfl ?_ | (show WL _ _ (_ :: _) _ _ _ _; first | refine yl_v rfl rfl rfl ?_ | refine wl_v rfl rfl rfl (by first  | fail) ?_) | refine wc_ret rfl ?_)
  refine wc_loop (α := { i : Nat // i ≤ s.length ∧ ∀ j, j < i → tokC (s.getD j 0) = true }) (fun x => [(0, true, str s), (6, true, i64 (s.length : Int)), (7, true, i64 (x.1 : Int))]) (fun _ => St w [] [] M) (fun x => s.length - x.1) ⟨0, by omega, fun j hj => absurd hj (by omega)⟩ (by first | exact Sub.nil _ | (repeat (first | exact Sub.nil _ | refine Sub.cons (by first | rfl | (simp [look]; done)) ?_))) (fun _ h => h) ?_
  rintro ⟨i, hi, hall⟩
  dsimp only
  repeat' (first | (first | refine wc_seq ?_ | refine wc_region ?_ | refine wl_nil ?_ | refine wn_seq ?_ | refine wn_blk ?_ | refine wc_skip ?_ | refine wc_block ?_ | refine wc_exit rfl ?_ | (show WL _ _ (_ :: _) _ _ _ _; first | refine yl_v rfl rfl rfl ?_ | refine wl_v rfl rfl rfl (by first | ((show OpV _ _ _ _ (Oper.mk _ (Op.call ⟨.value (.func 57), _, _⟩) _ _ _ _) _ _; exact ov_call Tryd.call57 rfl (by intro himp; first | rfl | (simp_all; done)) (by rfl) (fun _ _ h k => h.ext k) (fun hcg w hw => hpl hw.laid _))) | fail) ?_) | refine wc_ret rfl ?_) | (show WC _ (Code.cond _ _ _) _ _ _ _; (refine wc_cond rfl (fun hc => ?_) (fun hc => ?_) <;> (try (simp only [decide_eq_true_eq, decide_eq_false_iff_not, Bool.and_eq_true, Bool.or_eq_true, Bool.and_eq_false_iff, Bool.or_eq_false_iff, Bool.not_eq_true', Bool.not_eq_false', Int.not_lt, Int.not_le] at hc)) <;> (try (exfalso; first | omega | contradiction)))))
  · refine wr_tmp rfl rfl (congrArg Value.bool ?_)
    unfold tokenB
    rw [all_no2 (p := tokC) (i := i) (by omega) (ctok_no _ hc)]; rfl
  · refine wn_cut ⟨i + 1, by omega, fun j hj => ?_⟩ (by show s.length - (i + 1) < s.length - i; omega) (by first | exact Sub.nil _ | (repeat (first | exact Sub.nil _ | refine Sub.cons (by first | rfl | (simp [look]; done)) ?_))) (fun _ h => h.drop (by repeat (first | exact List.Sublist.refl _ | apply List.Sublist.cons)))
    by_cases e : j = i
    · subst e; exact ctok_yes _ hc
    · exact hall j (by omega)
  · refine wr_tmp rfl rfl (congrArg Value.bool ?_)
    unfold tokenB
    rw [all_getD (p := tokC) (s := s) (fun j hj => hall j (by omega))]
    cases s <;> simp
theorem cvalue_ok (hM : Laid M w) (s : List UInt8) (hs : s.length ≤ 9223372036854775807) : Calls Tryd.prog 38 #[str s] w (RetE w (.bool (valueB s))) := by
  refine calls_st (l := [str s]) hM Tryd.func38 rfl rfl rfl (E0 := [(0, true, str s)]) (params_cons rfl (params_nil _)) ?_
  repeat' (first | refine wc_seq ?_ | refine wc_region ?_ | refine wl_nil ?_ | refine wn_seq ?_ | refine wn_blk ?_ | refine wc_skip ?_ | refine wc_block ?_ | refine wc_exit rfl ?_ | (show WL _ _ (_ :: _) _ _ _ _; first | refine yl_v rfl rfl rfl ?_ | refine wl_v rfl rfl rfl (by first  | fail) ?_) | refine wc_ret rfl ?_)
  refine wc_loop (α := { i : Nat // i ≤ s.length ∧ ∀ j, j < i → valC (s.getD j 0) = true }) (fun x => [(0, true, str s), (6, true, i64 (s.length : Int)), (7, true, i64 (x.1 : Int))]) (fun _ => St w [] [] M) (fun x => s.length - x.1) ⟨0, by omega, fun j hj => absurd hj (by omega)⟩ (by first | exact Sub.nil _ | (repeat (first | exact Sub.nil _ | refine Sub.cons (by first | rfl | (simp [look]; done)) ?_))) (fun _ h => h) ?_
  rintro ⟨i, hi, hall⟩
  dsimp only
  repeat' (first | (first | refine wc_seq ?_ | refine wc_region ?_ | refine wl_nil ?_ | refine wn_seq ?_ | refine wn_blk ?_ | refine wc_skip ?_ | refine wc_block ?_ | refine wc_exit rfl ?_ | (show WL _ _ (_ :: _) _ _ _ _; first | refine yl_v rfl rfl rfl ?_ | refine wl_v rfl rfl rfl (by first  | fail) ?_) | refine wc_ret rfl ?_) | (show WC _ (Code.cond _ _ _) _ _ _ _; (refine wc_cond rfl (fun hc => ?_) (fun hc => ?_) <;> (try (simp only [decide_eq_true_eq, decide_eq_false_iff_not, Bool.and_eq_true, Bool.or_eq_true, Bool.and_eq_false_iff, Bool.or_eq_false_iff, Bool.not_eq_true', Bool.not_eq_false', Int.not_lt, Int.not_le] at hc)) <;> (try (exfalso; first | omega | contradiction)))))
  · refine wr_tmp rfl rfl (congrArg Value.bool ?_)
    unfold valueB
    rw [all_no2 (p := valC) (i := i) (by omega) (cval_no _ hc)]
  · refine wn_cut ⟨i + 1, by omega, fun j hj => ?_⟩ (by show s.length - (i + 1) < s.length - i; omega) (by first | exact Sub.nil _ | (repeat (first | exact Sub.nil _ | refine Sub.cons (by first | rfl | (simp [look]; done)) ?_))) (fun _ h => h.drop (by repeat (first | exact List.Sublist.refl _ | apply List.Sublist.cons)))
    by_cases e : j = i
    · subst e; exact cval_yes _ hc
    · exact hall j (by omega)
  · refine wr_tmp rfl rfl (congrArg Value.bool ?_)
    unfold valueB
    rw [all_getD (p := valC) (s := s) (fun j hj => hall j (by omega))]
theorem rvalue_ok (hM : Laid M w) (s : List UInt8) (hs : s.length ≤ 9223372036854775807) : Calls Tryd.prog 24 #[str s] w (RetE w (.bool (valueB s))) := by
  refine calls_st (l := [str s]) hM Tryd.func24 rfl rfl rfl (E0 := [(0, true, str s)]) (params_cons rfl (params_nil _)) ?_
  repeat' (first | refine wc_seq ?_ | refine wc_region ?_ | refine wl_nil ?_ | refine wn_seq ?_ | refine wn_blk ?_ | refine wc_skip ?_ | refine wc_block ?_ | refine wc_exit rfl ?_ | (show WL _ _ (_ :: _) _ _ _ _; first | refine yl_v rfl rfl rfl ?_ | refine wl_v rfl rfl rfl (by first  | fail) ?_) | refine wc_ret rfl ?_)
  refine wc_loop (α := { i : Nat // i ≤ s.length ∧ ∀ j, j < i → valC (s.getD j 0) = true }) (fun x => [(0, true, str s), (3, true, i64 (x.1 : Int))]) (fun _ => St w [] [] M) (fun x => s.length - x.1) ⟨0, by omega, fun j hj => absurd hj (by omega)⟩ (by first | exact Sub.nil _ | (repeat (first | exact Sub.nil _ | refine Sub.cons (by first | rfl | (simp [look]; done)) ?_))) (fun _ h => h) ?_
  rintro ⟨i, hi, hall⟩
  dsimp only
  repeat' (first | (first | refine wc_seq ?_ | refine wc_region ?_ | refine wl_nil ?_ | refine wn_seq ?_ | refine wn_blk ?_ | refine wc_skip ?_ | refine wc_block ?_ | refine wc_exit rfl ?_ | (show WL _ _ (_ :: _) _ _ _ _; first | refine yl_v rfl rfl rfl ?_ | refine wl_v rfl rfl rfl (by first  | fail) ?_) | refine wc_ret rfl ?_) | (show WC _ (Code.cond _ _ _) _ _ _ _; (refine wc_cond rfl (fun hc => ?_) (fun hc => ?_) <;> (try (simp only [decide_eq_true_eq, decide_eq_false_iff_not, Bool.and_eq_true, Bool.or_eq_true, Bool.and_eq_false_iff, Bool.or_eq_false_iff, Bool.not_eq_true', Bool.not_eq_false', Int.not_lt, Int.not_le] at hc)) <;> (try (exfalso; first | omega | contradiction)))))
  · refine wr_tmp rfl rfl (congrArg Value.bool ?_)
    unfold valueB
    rw [all_no2 (p := valC) (i := i) (by omega) (cval_no _ hc)]
  · refine wn_cut ⟨i + 1, by omega, fun j hj => ?_⟩ (by show s.length - (i + 1) < s.length - i; omega) (by first | exact Sub.nil _ | (repeat (first | exact Sub.nil _ | refine Sub.cons (by first | rfl | (simp [look]; done)) ?_))) (fun _ h => h.drop (by repeat (first | exact List.Sublist.refl _ | apply List.Sublist.cons)))
    by_cases e : j = i
    · subst e; exact cval_yes _ hc
    · exact hall j (by omega)
  · refine wr_tmp rfl rfl (congrArg Value.bool ?_)
    unfold valueB
    rw [all_getD (p := valC) (s := s) (fun j hj => hall j (by omega))]
/-- a cookie's cells -/
def ckCells (c : Ckie) : List Value := [str c.name, str c.value, str c.path, i64 c.age, .bool c.secure, .bool c.http]
/-- .. of a size that can be walked -/
def SmC (c : Ckie) : Prop := c.name.length ≤ 9223372036854775807 ∧ c.value.length ≤ 9223372036854775807 ∧ c.path.length ≤ 9223372036854775807
theorem head_pre {s : List UInt8} : Lib.hasPrefix s [47] = decide (s.head? = some 47) := by
  cases s with
  | nil => rfl
  | cons c r =>
    unfold Lib.hasPrefix
    rw [List.isPrefixOf, List.isPrefixOf_nil_left, Bool.and_true, List.head?_cons]
    by_cases h : c = 47
    · subst h; rfl
    · rw [decide_eq_false (fun e => h (by injection e))]
      exact beq_false_of_ne (fun e => h e.symm)
theorem cright_ok (hM : Laid M w) (c : Ckie) (h : SmC c) : Calls Tryd.prog 25 #[.agg (ckCells c).toArray] w (RetE w (.bool (rightC c))) := by
  obtain ⟨n, v, p, z, a, b⟩ := c
  obtain ⟨h1, h2, h3⟩ := h
  dsimp only at h1 h2 h3
  unfold rightC ckCells
  dsimp only
  rw [← head_pre]
  refine calls_st (l := [.agg [str n, str v, str p, i64 z, .bool a, .bool b].toArray]) hM Tryd.func25 rfl rfl rfl (E0 := [(0, true, .agg [str n, str v, str p, i64 z, .bool a, .bool b].toArray)]) (params_cons rfl (params_nil _)) ?_
  repeat' (first | (first | refine wc_seq ?_ | refine wc_region ?_ | refine wl_nil ?_ | refine wn_seq ?_ | refine wn_blk ?_ | refine wc_skip ?_ | refine wc_block ?_ | refine wc_exit rfl ?_ | (show WL _ _ (_ :: _) _ _ _ _; first | refine yl_v rfl rfl rfl ?_ | refine wl_v rfl rfl rfl (by first | ((show OpV _ _ _ _ (Oper.mk _ (Op.call ⟨.value (.func 37), _, _⟩) _ _ _ _) _ _; exact ov_call Tryd.call37 rfl (by intro himp; first | rfl | (simp_all; done)) (by rfl) (fun _ _ h k => h.ext k) (fun hcg w hw => ctoken_ok hw.laid n h1))) | ((show OpV _ _ _ _ (Oper.mk _ (Op.call ⟨.value (.func 38), _, _⟩) _ _ _ _) _ _; exact ov_call Tryd.call38 rfl (by intro himp; first | rfl | (simp_all; done)) (by rfl) (fun _ _ h k => h.ext k) (fun hcg w hw => cvalue_ok hw.laid v h2))) | ((show OpV _ _ _ _ (Oper.mk _ (Op.call ⟨.value (.func 42), _, _⟩) _ _ _ _) _ _; exact ov_call Tryd.call42 rfl (by intro himp; first | rfl | (simp_all; done)) (by rfl) (fun _ _ h k => h.ext k) (fun hcg w hw => prefix_ok hw.laid p [47]))) | ((show OpV _ _ _ _ (Oper.mk _ (Op.call ⟨.value (.func 38), _, _⟩) _ _ _ _) _ _; exact ov_call Tryd.call38 rfl (by intro himp; first | rfl | (simp_all; done)) (by rfl) (fun _ _ h k => h.ext k) (fun hcg w hw => cvalue_ok hw.laid p h3))) | fail) ?_ | refine xl_box rfl (fun _ => ?_)) | refine wc_ret rfl ?_) | (show WC _ (Code.cond _ _ _) _ _ _ _; (refine wc_cond rfl (fun hc => ?_) (fun hc => ?_) <;> (try (simp only [decide_eq_true_eq, decide_eq_false_iff_not, Bool.and_eq_true, Bool.or_eq_true, Bool.and_eq_false_iff, Bool.or_eq_false_iff, Bool.not_eq_true', Bool.not_eq_false', Int.not_lt, Int.not_le] at hc)) <;> (try (exfalso; first | omega | contradiction)))))
  exact wr_weak (fun _ h => h.drop (List.nil_sublist _)) (wr_tmp rfl rfl rfl)
theorem rrightC_ok (hM : Laid M w) (c : Ckie) (h : SmC c) : Calls Tryd.prog 31 #[.agg (ckCells c).toArray] w (RetE w (.bool (rightC c))) := by
  obtain ⟨n, v, p, z, a, b⟩ := c
  obtain ⟨h1, h2, h3⟩ := h
  dsimp only at h1 h2 h3
  unfold rightC ckCells
  dsimp only
  refine calls_st (l := [.agg [str n, str v, str p, i64 z, .bool a, .bool b].toArray]) hM Tryd.func31 rfl rfl rfl (E0 := [(0, true, .agg [str n, str v, str p, i64 z, .bool a, .bool b].toArray)]) (params_cons rfl (params_nil _)) ?_
  repeat' (first | refine wc_seq ?_ | refine wc_region ?_ | refine wl_nil ?_ | refine wn_seq ?_ | refine wn_blk ?_ | refine wc_skip ?_ | refine wc_block ?_ | refine wc_exit rfl ?_ | (show WL _ _ (_ :: _) _ _ _ _; first | refine yl_v rfl rfl rfl ?_ | refine wl_v rfl rfl rfl (by first | (show OpV _ _ _ _ (Oper.mk _ (Op.index _ _ _) _ _ _ _) _ _; exact ov_sindex (i := 0) rfl rfl rfl (by first | with_reducible exact fun _ => rfl | with_reducible exact fun h => h | exact fun _ => rfl | exact fun h => h | (intro himp; simp_all; done)) (by first | with_reducible exact fun _ => rfl | with_reducible exact fun h => h | exact fun _ => rfl | exact fun h => h | (intro himp; simp_all; done)) rfl (fun hcg => by simp at hcg; exact List.length_pos_iff.2 hcg)) | fail) ?_ | refine xl_box rfl (fun _ => ?_)) | refine wc_ret rfl ?_)
  refine wc_cond rfl (fun hc => ?_) (fun hc => ?_)
  · (simp only [decide_eq_true_eq, decide_eq_false_iff_not, Bool.and_eq_true, Bool.or_eq_true, Bool.and_eq_false_iff, Bool.or_eq_false_iff, Bool.not_eq_true', Bool.not_eq_false', Int.not_lt, Int.not_le] at hc)
    repeat' (first | refine wc_seq ?_ | refine wc_region ?_ | refine wl_nil ?_ | refine wn_seq ?_ | refine wn_blk ?_ | refine wc_skip ?_ | refine wc_block ?_ | refine wc_exit rfl ?_ | (show WL _ _ (_ :: _) _ _ _ _; first | refine yl_v rfl rfl rfl ?_ | refine wl_v rfl rfl rfl (by first  | fail) ?_ | refine xl_box rfl (fun _ => ?_)) | refine wc_ret rfl ?_)
    refine wr_weak (fun _ h => h.drop (List.nil_sublist _)) (wr_tmp rfl rfl (congrArg Value.bool ?_))
    rcases hc with ((hc | hc) | hc) | hc
    · subst hc; simp
    · have : ¬ p.head? = some 47 := by
        intro e
        cases p with
        | nil => cases e
        | cons x r => injection e with e; subst e; exact hc rfl
      simp [this]
    · have : ¬ -1 ≤ z := by omega
      simp [this]
    · have : ¬ z ≤ 99999999 := by omega
      simp [this]
  · (simp only [decide_eq_true_eq, decide_eq_false_iff_not, Bool.and_eq_true, Bool.or_eq_true, Bool.and_eq_false_iff, Bool.or_eq_false_iff, Bool.not_eq_true', Bool.not_eq_false', Int.not_lt, Int.not_le] at hc)
    have hh : p.head? = some 47 := by
      cases p with
      | nil => exact absurd rfl hc.1.1.1
      | cons x r => have := (getD_cast x 47).1 hc.1.1.2; rw [this]; rfl
    rw [decide_eq_true hh, decide_eq_true (show -1 ≤ z by omega), decide_eq_true (show z ≤ 99999999 by omega)]
    repeat' (first | refine wc_seq ?_ | refine wc_region ?_ | refine wl_nil ?_ | refine wn_seq ?_ | refine wn_blk ?_ | refine wc_skip ?_ | refine wc_block ?_ | refine wc_exit rfl ?_ | (show WL _ _ (_ :: _) _ _ _ _; first | refine yl_v rfl rfl rfl ?_ | refine wl_v rfl rfl rfl (by first | ((show OpV _ _ _ _ (Oper.mk _ (Op.call ⟨.value (.func 23), _, _⟩) _ _ _ _) _ _; exact ov_call Tryd.call23 rfl (by intro himp; first | rfl | (simp_all; done)) (by rfl) (fun _ _ h k => h.ext k) (fun hcg w hw => rtoken_ok hw.laid n h1))) | ((show OpV _ _ _ _ (Oper.mk _ (Op.call ⟨.value (.func 24), _, _⟩) _ _ _ _) _ _; exact ov_call Tryd.call24 rfl (by intro himp; first | rfl | (simp_all; done)) (by rfl) (fun _ _ h k => h.ext k) (fun hcg w hw => rvalue_ok hw.laid v h2))) | ((show OpV _ _ _ _ (Oper.mk _ (Op.call ⟨.value (.func 24), _, _⟩) _ _ _ _) _ _; exact ov_call Tryd.call24 rfl (by intro himp; first | rfl | (simp_all; done)) (by rfl) (fun _ _ h k => h.ext k) (fun hcg w hw => rvalue_ok hw.laid p h3))) | fail) ?_ | refine xl_box rfl (fun _ => ?_)) | refine wc_ret rfl ?_)
    exact wr_weak (fun _ h => h.drop (List.nil_sublist _)) (wr_tmp rfl rfl (congrArg Value.bool (by simp)))
def fewC (c : Ckie) : Bool := decide (c.name.length ≤ 60) && decide (c.value.length ≤ 60) && decide (c.path.length ≤ 60)
theorem fewC_ok (hM : Laid M w) (c : Ckie) : Calls Tryd.prog 10 #[.agg (ckCells c).toArray] w (RetE w (.bool (fewC c))) := by
  obtain ⟨n, v, p, z, a, b⟩ := c
  unfold fewC ckCells
  dsimp only
  have e : (decide (n.length ≤ 60) && decide (v.length ≤ 60) && decide (p.length ≤ 60)) = (decide ((n.length : Int) ≤ 60) && decide ((v.length : Int) ≤ 60) && decide ((p.length : Int) ≤ 60)) := by
    congr 1
    · congr 1
      · exact decide_eq_decide.2 (by omega)
      · exact decide_eq_decide.2 (by omega)
    · exact decide_eq_decide.2 (by omega)
  rw [e]
  refine calls_st (l := [.agg [str n, str v, str p, i64 z, .bool a, .bool b].toArray]) hM Tryd.func10 rfl rfl rfl (E0 := [(0, true, .agg [str n, str v, str p, i64 z, .bool a, .bool b].toArray)]) (params_cons rfl (params_nil _)) ?_
  repeat' (first | (first | refine wc_seq ?_ | refine wc_region ?_ | refine wl_nil ?_ | refine wn_seq ?_ | refine wn_blk ?_ | refine wc_skip ?_ | refine wc_block ?_ | refine wc_exit rfl ?_ | (show WL _ _ (_ :: _) _ _ _ _; first | refine yl_v rfl rfl rfl ?_ | refine wl_v rfl rfl rfl (by first  | fail) ?_ | refine xl_box rfl (fun _ => ?_)) | refine wc_ret rfl ?_) | (show WC _ (Code.cond _ _ _) _ _ _ _; (refine wc_cond rfl (fun hc => ?_) (fun hc => ?_) <;> (try (simp only [decide_eq_true_eq, decide_eq_false_iff_not, Bool.and_eq_true, Bool.or_eq_true, Bool.and_eq_false_iff, Bool.or_eq_false_iff, Bool.not_eq_true', Bool.not_eq_false', Int.not_lt, Int.not_le] at hc)) <;> (try (exfalso; first | omega | contradiction)))))
  exact wr_weak (fun _ h => h.drop (List.nil_sublist _)) (wr_tmp rfl rfl rfl)
theorem fewC_sm {c : Ckie} (h : fewC c = true) : c.name.length ≤ 60 ∧ c.value.length ≤ 60 ∧ c.path.length ≤ 60 := by
  unfold fewC at h
  simp only [Bool.and_eq_true, decide_eq_true_eq] at h
  exact ⟨h.1.1, h.1.2, h.2⟩
theorem suf_last (t : List UInt8) : Lib.hasSuffix t [47] = decide (t.getLast? = some 47) := by
  unfold Lib.hasSuffix
  rw [Bool.eq_iff_iff, List.isSuffixOf_iff_suffix, decide_eq_true_eq]
  constructor
  · rintro ⟨b, rfl⟩; simp
  · intro h
    obtain ⟨b, rfl⟩ := List.getLast?_eq_some_iff.1 h
    exact ⟨b, rfl⟩
theorem under_ok (hM : Laid M w) (path top : List UInt8) (hp : path.length ≤ 9223372036854775807) (ht : top.length ≤ 9223372036854775807) : Calls Tryd.prog 32 #[str path, str top] w (RetE w (.bool (underP path top))) := by
  have hcp := fun {w : World} (hw : Laid M w) => cutprefix_ok hw path top
  have hsf := fun {w : World} (hw : Laid M w) => suffix_ok hw top [47] ht
  rw [suf_last] at hsf
  unfold underP
  unfold cutP at hcp
  have e : Lib.hasPrefix path top = top.isPrefixOf path := rfl
  rw [e] at hcp
  cases h : top.isPrefixOf path with
  | false =>
    rw [h] at hcp
    refine calls_st (l := [str path, str top]) hM Tryd.func32 rfl rfl rfl (E0 := [(0, true, str path), (1, true, str top)]) (params_cons rfl (params_cons rfl (params_nil _))) ?_
    repeat' (first | refine wc_seq ?_ | refine wc_region ?_ | refine wl_nil ?_ | refine wn_seq ?_ | refine wn_blk ?_ | refine wc_skip ?_ | refine wc_block ?_ | refine wc_exit rfl ?_ | (show WL _ _ (_ :: _) _ _ _ _; first | refine yl_v rfl rfl rfl ?_ | refine wl_v rfl rfl rfl (by first | ((show OpV _ _ _ _ (Oper.mk _ (Op.call ⟨.value (.func 46), _, _⟩) _ _ _ _) _ _; exact ov_call Tryd.call46 rfl (by intro himp; first | rfl | (simp_all; done)) (by rfl) (fun _ _ h k => h.ext k) (fun hcg w hw => hcp hw.laid))) | ((show OpV _ _ _ _ (Oper.mk _ (Op.call ⟨.value (.func 47), _, _⟩) _ _ _ _) _ _; exact ov_call Tryd.call47 rfl (by intro himp; first | rfl | (simp_all; done)) (by rfl) (fun _ _ h k => h.ext k) (fun hcg w hw => hsf hw.laid))) | (show OpV _ _ _ _ (Oper.mk _ (Op.index _ _ _) _ _ _ _) _ _; exact ov_off (v := byt 0) (by simp)) | fail) ?_) | refine wc_ret rfl ?_)
    exact wr_tmp rfl rfl rfl
  | true =>
    rw [h] at hcp
    have hl := (List.isPrefixOf_iff_prefix.1 h).length_le
    have hd : (decide (path.length = top.length) : Bool) = decide (path.drop top.length = []) := decide_eq_decide.2 (by rw [List.drop_eq_nil_iff]; omega)
    rw [hd]
    have hcp : ∀ {w : World}, Laid M w → Calls Tryd.prog 46 #[str path, str top] w (RetE w (.tuple #[str (path.drop top.length), .bool true])) := hcp
    generalize path.drop top.length = r at *
    generalize decide (top.getLast? = some 47) = sl at *
    refine calls_st (l := [str path, str top]) hM Tryd.func32 rfl rfl rfl (E0 := [(0, true, str path), (1, true, str top)]) (params_cons rfl (params_cons rfl (params_nil _))) ?_
    repeat' (first | refine wc_seq ?_ | refine wc_region ?_ | refine wl_nil ?_ | refine wn_seq ?_ | refine wn_blk ?_ | refine wc_skip ?_ | refine wc_block ?_ | refine wc_exit rfl ?_ | (show WL _ _ (_ :: _) _ _ _ _; first | refine yl_v rfl rfl rfl ?_ | refine wl_v rfl rfl rfl (by first | ((show OpV _ _ _ _ (Oper.mk _ (Op.call ⟨.value (.func 46), _, _⟩) _ _ _ _) _ _; exact ov_call Tryd.call46 rfl (by intro himp; first | rfl | (simp_all; done)) (by rfl) (fun _ _ h k => h.ext k) (fun hcg w hw => hcp hw.laid))) | ((show OpV _ _ _ _ (Oper.mk _ (Op.call ⟨.value (.func 47), _, _⟩) _ _ _ _) _ _; exact ov_call Tryd.call47 rfl (by intro himp; first | rfl | (simp_all; done)) (by rfl) (fun _ _ h k => h.ext k) (fun hcg w hw => hsf hw.laid))) | (show OpV _ _ _ _ (Oper.mk _ (Op.index _ _ _) _ _ _ _) _ _; exact ov_sindex (i := 0) rfl rfl rfl (by first | with_reducible exact fun _ => rfl | with_reducible exact fun h => h | exact fun _ => rfl | exact fun h => h | (intro himp; simp_all; done)) (by first | with_reducible exact fun _ => rfl | with_reducible exact fun h => h | exact fun _ => rfl | exact fun h => h | (intro himp; simp_all; done)) rfl (fun hcg => by simp at hcg; exact List.length_pos_iff.2 hcg.1)) | fail) ?_) | refine wc_ret rfl ?_)
    refine wr_tmp rfl rfl (congrArg Value.bool ?_)
    cases r with
    | nil => simp
    | cons x t =>
      simp only [List.head?_cons, Option.some.injEq, Bool.true_and]
      congr 1
      exact decide_eq_decide.2 (getD_cast x 47)
theorem last_at {t : List UInt8} (h : 0 < t.length) : t.getLast? = some (t.getD (t.length - 1) 0) := by
  rw [List.getLast?_eq_getElem?, List.getD_eq_getElem?_getD, List.getElem?_eq_getElem (by omega)]; rfl
theorem runder_ok (hM : Laid M w) (path top : List UInt8) (hp : path.length ≤ 9223372036854775807) (ht : top.length ≤ 9223372036854775807) : Calls Tryd.prog 33 #[str path, str top] w (RetE w (.bool (underP path top))) := by
  cases h : top.isPrefixOf path with
  | false =>
    have hu : underP path top = false := by unfold underP; rw [h]; rfl
    rw [hu]
    refine calls_st (l := [str path, str top]) hM Tryd.func33 rfl rfl rfl (E0 := [(0, true, str path), (1, true, str top)]) (params_cons rfl (params_cons rfl (params_nil _))) ?_
    repeat' (first | refine wc_seq ?_ | refine wc_region ?_ | refine wl_nil ?_ | refine wn_seq ?_ | refine wn_blk ?_ | refine wc_skip ?_ | refine wc_block ?_ | refine wc_exit rfl ?_ | (show WL _ _ (_ :: _) _ _ _ _; first | refine yl_v rfl rfl rfl ?_ | refine wl_v rfl rfl rfl (by first | (show OpV _ _ _ _ (Oper.mk _ (Op.slice _ _ none (some _) none) _ _ _ _) _ _; exact ov_to (j := top.length) rfl rfl rfl (by first | with_reducible exact fun _ => rfl | with_reducible exact fun h => h | exact fun _ => rfl | exact fun h => h | (intro himp; simp_all; done)) (by first | with_reducible exact fun _ => rfl | with_reducible exact fun h => h | exact fun _ => rfl | exact fun h => h | (intro himp; simp_all; done)) rfl (fun hcg => by simp at hcg; omega)) | fail) ?_) | refine wc_ret rfl ?_)
    refine wc_cond rfl (fun hc => ?_) (fun hc => ?_)
    · repeat' (first | refine wc_seq ?_ | refine wc_region ?_ | refine wl_nil ?_ | refine wn_seq ?_ | refine wn_blk ?_ | refine wc_skip ?_ | refine wc_block ?_ | refine wc_exit rfl ?_ | (show WL _ _ (_ :: _) _ _ _ _; first | refine yl_v rfl rfl rfl ?_ | refine wl_v rfl rfl rfl (by first  | fail) ?_) | refine wc_ret rfl ?_)
      exact wr_tmp rfl rfl rfl
    · exfalso
      (simp only [decide_eq_true_eq, decide_eq_false_iff_not, Bool.and_eq_true, Bool.or_eq_true, Bool.and_eq_false_iff, Bool.or_eq_false_iff, Bool.not_eq_true', Bool.not_eq_false', Int.not_lt, Int.not_le] at hc)
      have : top.isPrefixOf path = true := by
        rw [List.isPrefixOf_iff_prefix]
        have h2 : path.take top.length = top := by simpa using hc.2
        rw [← h2]; exact List.take_prefix _ _
      rw [h] at this; cases this
  | true =>
    obtain ⟨r, rfl⟩ := List.isPrefixOf_iff_prefix.1 h
    rw [List.length_append] at hp
    have hu : underP (top ++ r) top = (decide ((r.length : Int) = 0) || decide (0 < (top.length : Int)) && decide (((top.getD (top.length - 1) 0).toNat : Int) = 47) || decide (((r.getD 0 0).toNat : Int) = 47)) := by
      unfold underP
      rw [h, List.drop_left, List.length_append, Bool.true_and]
      congr 1
      · congr 1
        · exact decide_eq_decide.2 (by omega)
        · rcases Nat.eq_zero_or_pos top.length with h0 | h0
          · have e : top = [] := List.eq_nil_of_length_eq_zero h0
            subst e; rfl
          · rw [decide_eq_true (show (0 : Int) < (top.length : Int) by omega), Bool.true_and, last_at h0]
            refine decide_eq_decide.2 ⟨fun e => (getD_cast _ 47).2 (by injection e), fun e => by rw [(getD_cast _ 47).1 e]⟩
      · cases r with
        | nil => rfl
        | cons x t => exact decide_eq_decide.2 ⟨fun e => (getD_cast x 47).2 (by injection e), fun e => by rw [List.head?_cons, (getD_cast x 47).1 e]⟩
    rw [hu]
    have hgd : (top ++ r).getD top.length 0 = r.getD 0 0 := by
      rw [List.getD_eq_getElem?_getD, List.getElem?_append_right (Nat.le_refl _), Nat.sub_self, ← List.getD_eq_getElem?_getD]
    have hz : (decide (((top ++ r).length : Int) = (top.length : Int)) : Bool) = decide ((r.length : Int) = 0) := decide_eq_decide.2 (by rw [List.length_append]; omega)
    have hlt : ¬ (decide (((top ++ r).length : Int) = (top.length : Int))) = true → top.length < (top ++ r).length := fun h => by
      rw [decide_eq_true_eq] at h
      rw [List.length_append] at h ⊢
      omega
    refine calls_st (l := [str (top ++ r), str top]) hM Tryd.func33 rfl rfl rfl (E0 := [(0, true, str (top ++ r)), (1, true, str top)]) (params_cons rfl (params_cons rfl (params_nil _))) ?_
    repeat' (first | refine wc_seq ?_ | refine wc_region ?_ | refine wl_nil ?_ | refine wn_seq ?_ | refine wn_blk ?_ | refine wc_skip ?_ | refine wc_block ?_ | refine wc_exit rfl ?_ | (show WL _ _ (_ :: _) _ _ _ _; first | refine yl_v rfl rfl rfl ?_ | refine wl_v rfl rfl rfl (by first | (show OpV _ _ _ _ (Oper.mk _ (Op.slice _ _ none (some _) none) _ _ _ _) _ _; exact ov_to (j := top.length) rfl rfl rfl (by first | with_reducible exact fun _ => rfl | with_reducible exact fun h => h | exact fun _ => rfl | exact fun h => h | (intro himp; simp_all; done)) (by first | with_reducible exact fun _ => rfl | with_reducible exact fun h => h | exact fun _ => rfl | exact fun h => h | (intro himp; simp_all; done)) rfl (fun hcg => by rw [List.length_append]; omega)) | fail) ?_) | refine wc_ret rfl ?_)
    refine wc_cond rfl (fun hc => ?_) (fun hc => ?_)
    · exfalso
      (simp only [decide_eq_true_eq, decide_eq_false_iff_not, Bool.and_eq_true, Bool.or_eq_true, Bool.and_eq_false_iff, Bool.or_eq_false_iff, Bool.not_eq_true', Bool.not_eq_false', Int.not_lt, Int.not_le] at hc)
      rw [List.length_append, List.take_left] at hc
      rcases hc with hc | hc
      · omega
      · exact hc rfl
    rcases Nat.eq_zero_or_pos top.length with h0 | h0
    · have e : top = [] := List.eq_nil_of_length_eq_zero h0
      subst e
      repeat' (first | refine wc_seq ?_ | refine wc_region ?_ | refine wl_nil ?_ | refine wn_seq ?_ | refine wn_blk ?_ | refine wc_skip ?_ | refine wc_block ?_ | refine wc_exit rfl ?_ | (show WL _ _ (_ :: _) _ _ _ _; first | refine yl_v rfl rfl rfl ?_ | refine wl_v rfl rfl rfl (by first | (show OpV _ _ _ _ (Oper.mk _ (Op.index _ _ _) _ _ _ _) _ _; exact ov_sindex (s := [] ++ r) (i := 0) rfl rfl rfl (by first | with_reducible exact fun _ => rfl | with_reducible exact fun h => h | exact fun _ => rfl | exact fun h => h | (intro himp; simp_all; done)) (by first | with_reducible exact fun _ => rfl | with_reducible exact fun h => h | exact fun _ => rfl | exact fun h => h | (intro himp; simp_all; done)) rfl (fun hcg => hlt (by intro e; rw [e] at hcg; simp at hcg))) | (show OpV _ _ _ _ (Oper.mk _ (Op.index _ _ _) _ _ _ _) _ _; exact ov_off (v := byt 0) (by simp)) | fail) ?_) | refine wc_ret rfl ?_)
      refine wr_tmp rfl rfl (congrArg Value.bool ?_)
      simp
    · repeat' (first | refine wc_seq ?_ | refine wc_region ?_ | refine wl_nil ?_ | refine wn_seq ?_ | refine wn_blk ?_ | refine wc_skip ?_ | refine wc_block ?_ | refine wc_exit rfl ?_ | (show WL _ _ (_ :: _) _ _ _ _; first | refine yl_v rfl rfl rfl ?_ | refine wl_v rfl rfl rfl (by first | (show OpV _ _ _ _ (Oper.mk _ (Op.index _ _ _) _ _ _ _) _ _; exact ov_sindex (s := top) (i := top.length - 1) rfl rfl (by omega) (by first | with_reducible exact fun _ => rfl | with_reducible exact fun h => h | exact fun _ => rfl | exact fun h => h | (intro himp; simp_all; done)) (by first | with_reducible exact fun _ => rfl | with_reducible exact fun h => h | exact fun _ => rfl | exact fun h => h | (intro himp; simp_all; done)) rfl (fun hcg => by omega)) | (show OpV _ _ _ _ (Oper.mk _ (Op.index _ _ _) _ _ _ _) _ _; exact ov_sindex (s := top ++ r) (i := top.length) rfl rfl rfl (by first | with_reducible exact fun _ => rfl | with_reducible exact fun h => h | exact fun _ => rfl | exact fun h => h | (intro himp; simp_all; done)) (by first | with_reducible exact fun _ => rfl | with_reducible exact fun h => h | exact fun _ => rfl | exact fun h => h | (intro himp; simp_all; done)) rfl (fun hcg => hlt (by intro e; rw [e] at hcg; simp at hcg))) | fail) ?_) | refine wc_ret rfl ?_)
      refine wr_tmp rfl rfl (congrArg Value.bool ?_)
      rw [hgd, hz]
end Go.Proofs.YtmfelfhingmmbaaDoor
/-
  A text turned into bytes of the call's own, that are changed in place. Nothing of the program stands here.
-/
namespace Go.Eng
open Go.RowKit
set_option linter.unusedVariables false
section
variable {P : Program} {n : Nat} {E : Env} {k : Kont} {ops : Array Oper} {rest : List Oper} {cg : Bool}
variable {dst : Option Tmp} {ty : TypeId} {pos : String} {af : Array Edge} {g : Option (Nat × Bool)}
variable {w0 : World} {bs : List Nat} {H : List (Nat × Obj)} {M : Ghost} {C : World → Prop} {x y : Operand} {cx cy : Bool}
/-- a new block behind a call's old ones -/
theorem St.grow {w w' : World} {o : Obj} (h : St w0 bs H M w) (hx : Ext w w') (hb : w'.heap[w.heap.size]? = some o) : St w0 bs ((w.heap.size, o) :: H) M w' where
  keep := h.keep.trans hx.to
  own := by
    intro p hp
    rcases List.mem_cons.1 hp with rfl | hp
    · exact hb
    · exact (h.ext hx).own p hp
  new := by
    intro p hp
    rcases List.mem_cons.1 hp with rfl | hp
    · exact .inl h.keep.size
    · exact h.new p hp
  nodup := by
    simp only [List.map_cons, List.nodup_cons]
    refine ⟨?_, h.nodup⟩
    intro hm
    obtain ⟨p, hp, e⟩ := List.mem_map.1 hm
    have := lt_of_get (h.own p hp)
    omega
  laid := h.laid.ext hx
  apart := by
    intro b o' hm p hp
    rcases List.mem_cons.1 hp with rfl | hp
    · have := lt_of_get (h.laid b o' hm); simp; omega
    · exact h.apart b o' hm p hp
/-- the cells of a row of bytes -/
def rowB (l : List UInt8) (pad : Nat) : List Value := l.map byt ++ List.replicate pad (.int .u8 0)
theorem rowB_at {l : List UInt8} {pad i : Nat} (h : i < l.length) : (rowB l pad)[i]? = some (byt (l.getD i 0)) := by
  unfold rowB
  rw [List.getElem?_append_left (by simpa using h), List.getElem?_map, List.getElem?_eq_getElem h]
  simp [h]
theorem rowB_set {l : List UInt8} {pad i : Nat} {c : UInt8} (h : i < l.length) : (rowB l pad).set i (byt c) = rowB (l.set i c) pad := by
  unfold rowB
  rw [List.set_append_left _ _ (by simpa using h), List.map_set]
theorem rowB_length (l : List UInt8) (pad : Nat) : (rowB l pad).length = l.length + pad := by simp [rowB]
/-- '[]byte(s)' -/
theorem wl_bytesOf {src dst' e : TypeId} {u : TypeDesc} {s : List UInt8} {d : Nat} (hg : gd ops E g = some true) (hx : ev E x = some (true, str s)) (hs : P.underlying src = some u) (hd' : P.underlying dst' = some (.slice e)) (he : P.underlying e = some (.int .u8)) (hd : Nat.blt d n = true)
    (h : ∀ b cap pad, s.length ≤ cap → WL P ops rest n ((d, true, .slice (some ⟨b, 0, none⟩) s.length cap) :: E) (St w0 bs ((b, .cells (rowB s pad).toArray e (s.length + pad, s.length + pad + 1)) :: H) M) k) :
    WL P ops (⟨some d, .convert src dst' x, ty, pos, af, g⟩ :: rest) n E (St w0 bs H M) k := by
  have hd : d < n := by simpa [Nat.blt_eq] using hd
  refine wl_op hg fun a w ha hw => ?_
  unfold Oper.wp
  have hr := Lib.run_convert_string_bytes (P := P) w src dst' e ⟨s.toArray⟩ hs hd' he
  have : (execOp a.eval ⟨some d, .convert src dst' x, ty, pos, af, g⟩).run P w = .ok (.value (.slice (some ⟨w.heap.size, 0, none⟩) (⟨s.toArray⟩ : ByteArray).size (grownCap w (⟨s.toArray⟩ : ByteArray).size 0 e))) (Lib.bytesWorld w e ⟨s.toArray⟩) := by
    simp [execOp, ha.eval hx, hr]
  rw [this, Oper.upon_value, size_str]
  have hx : Ext w (Lib.bytesWorld w e ⟨s.toArray⟩) := ⟨rfl, rfl, rfl, by rw [Lib.bytesWorld_size]; omega, fun b hb _ => Lib.bytesWorld_at_old w e _ b hb⟩
  have hcells : Lib.bytesCells w e ⟨s.toArray⟩ = (rowB s (grownCap w s.length 0 e - s.length)).toArray := by
    unfold Lib.bytesCells rowB
    rw [size_str]
    simp
  have hnew := Lib.bytesWorld_at_new w e ⟨s.toArray⟩
  rw [hcells] at hnew
  have hsz : (rowB s (grownCap w s.length 0 e - s.length)).toArray.size = s.length + (grownCap w s.length 0 e - s.length) := by simp [rowB]
  rw [hsz] at hnew
  exact (h w.heap.size _ (grownCap w s.length 0 e - s.length) (grownCap_ge w s.length 0 e)).run _ _ (ha.put hd rfl) (hw.grow hx hnew)
/-- a byte stored into such a row -/
theorem wl_storeB {t : TypeId} {b i : Nat} {l : List UInt8} {pad : Nat} {T : TypeId} {c : UInt8} {z : Int} {H' : List (Nat × Obj)} (hg : gd ops E g = some true) (hx : ev E x = some (true, .pointer (some ⟨b, i, none⟩))) (hy : ev E y = some (true, .int .u8 z)) (hz : z = (c.toNat : Int)) (hi : i < l.length) (hs : (P.info? t).map (·.size) = some 1)
    (hu : Upd H b (.cells (rowB l pad).toArray T (l.length + pad, l.length + pad + 1)) (.cells (rowB (l.set i c) pad).toArray T (l.length + pad, l.length + pad + 1)) H')
    (h : WL P ops rest n E (St w0 bs H' M) k) : WL P ops (⟨none, .store t x y, ty, pos, af, g⟩ :: rest) n E (St w0 bs H M) k := by
  refine wl_op hg fun a w ha hw => ?_
  subst hz
  have hb := hw.get hu.mem
  have hc : w.cell? ⟨b, i, none⟩ = some (byt (l.getD i 0)) := by rw [cell_of hb]; simpa using rowB_at hi
  have hf : w.frozen? ⟨b, i, none⟩ = false := by
    simp only [World.frozen?, hb]
    rw [Bool.and_eq_false_iff]; left
    exact decide_eq_false (by omega)
  have hst : (store ⟨b, i, none⟩ (byt c)).run P w = .ok () (w.setCell ⟨b, i, none⟩ (byt c)) := by simp [store, Sem.run, hc, hf]
  unfold Oper.wp
  have : (execOp a.eval ⟨none, .store t x y, ty, pos, af, g⟩).run P w = .ok .skip (w.setCell ⟨b, i, none⟩ (byt c)) := by
    simp [execOp, ha.eval hx, ha.eval hy, Instr.storeAt, Instr.sureAddr, storeVar, run_sizeOf hs, Value.cells, storeCells, add_addr, hst]
  rw [this, Oper.upon_skip]
  refine h.run _ _ (by simpa [Act.put] using ha) (hw.upd hu setCell_keep ?_)
  simp only [World.setCell, Array.getElem?_modify, hb, if_true, Option.map_some]
  rw [← rowB_set hi]
  simp
theorem bytesOf_row (l : List UInt8) : bytesOf (l.map byt) = some l := by
  induction l with
  | nil => rfl
  | cons c l ih => simp only [List.map_cons, bytesOf, ih]; simp
/-- the text that such a row tells -/
theorem ov_rowStr {src dst' e : TypeId} {b len cap pad : Nat} {T : TypeId} {fz : Nat × Nat} {l : List UInt8} (hx : ev E x = some (cx, .slice (some ⟨b, 0, none⟩) len cap)) (hlen : len = l.length) (h1 : Imp cg cx) (hs : P.underlying src = some (.slice e)) (he : P.underlying e = some (.int .u8)) (hd : P.underlying dst' = some .string)
    (hm : (b, Obj.cells (rowB l pad).toArray T fz) ∈ H) : OpV P n E (St w0 bs H M) ⟨dst, .convert src dst' x, ty, pos, af, g⟩ cg (str l) :=
  ov_run fun h a ha w hw => by
    subst hlen
    have hx' : a.eval x = .slice (some ⟨b, 0, none⟩) (l.map byt).length cap := by rw [List.length_map]; exact ha.evalc hx (h1 h)
    simp only [execOp, hx', Sem.run_bind]
    rw [run_convBytes (o := 0) (vs := l.map byt) hs he hd (hw.get hm) (fun j hj => by
      rw [Nat.zero_add]
      have hj2 : j < l.length := by simpa using hj
      have := rowB_at (pad := pad) hj2
      rw [List.getElem?_map, List.getElem?_eq_getElem hj2]
      simp only [List.getElem?_toArray, this]
      simp [hj2]) (bytesOf_row l)]
    rfl
/-- less of a slice that the call owns -/
theorem OwnS.shrink {e : TypeId} {m b len cap q : Nat} {Hs : List (Nat × Obj)} {xs : List Value} (h : OwnS e m (.slice (some ⟨b, 0, none⟩) len cap) Hs xs) (hq : q ≤ len) : OwnS e m (.slice (some ⟨b, 0, none⟩) q cap) Hs (xs.take (q * m)) := by
  rcases h with ⟨h, _⟩ | ⟨b', len', cap', cur, h1, h2, h3, h4, h5, h6, h7⟩
  · cases h
  · cases h1
    have hm : q * m ≤ len * m := Nat.mul_le_mul_right _ hq
    refine .inr ⟨b, q, cap, cur, rfl, h2, ?_, by omega, h5, h6, ?_⟩
    · rw [List.length_take, h3]; omega
    · rw [← h7, List.take_take, Nat.min_eq_left hm]
/-- the larger of two numbers -/
theorem ov_max {kd : IntKind} {u z r : Int} {ats : Array TypeId} (hx : ev E x = some (cx, .int kd u)) (hy : ev E y = some (cy, .int kd z)) (h1 : Imp cg cx) (h2 : Imp cg cy) (hr : (if z > u then z else u) = r) : OpV P n E C ⟨dst, .call ⟨.builtin .max, #[x, y], ats⟩, ty, pos, af, g⟩ cg (.int kd r) :=
  ov_run fun h a ha w _ => by
    subst hr
    simp [execOp, resolve, invoke, builtin, ha.evalc hx (h1 h), ha.evalc hy (h2 h), run_max_int2]
/-- append out of another row of the call's own, as much of it as there is -/
theorem wl_appendO {s src : Operand} {t e : TypeId} {m by' d : Nat} {i : TypeInfo} {z v : Value} {Hs H0 : List (Nat × Obj)} {xs news : List Value} {b c len2 : Nat} {cs : Array Value} {T2 : TypeId} {fz : Nat × Nat} (hg : gd ops E g = some true) (hown : OwnS e m v Hs xs) (hd : Nat.blt d n = true)
    (hx : ev E s = some (true, v)) (hy : ev E src = some (true, .slice (some ⟨b, 0, none⟩) len2 c)) (ht : P.underlying t = some (.slice e)) (hi : P.info? e = some i) (hz : i.zero = some z) (hsz : i.size = m) (hby : i.bytes = by') (hzs : z.cells.size = m) (hm : Nat.blt 0 m = true)
    (hmem : (b, Obj.cells cs T2 fz) ∈ H) (hnews : ∀ (j : Nat) (u : Value), news[j]? = some u → cs[j]? = some u) (hl2 : news.length = len2 * m) (hp : news.all plainV = true) (hsub : List.Sublist (Hs ++ H0) H) (hb1 : xs.length / m + len2 ≤ 1000000000) (hb2 : Nat.ble by' 140000 = true)
    (h : ∀ v' Hs', OwnS e m v' Hs' (xs ++ news) → WL P ops rest n ((d, true, v') :: E) (St w0 bs (Hs' ++ H0) M) k) :
    WL P ops (⟨some d, .call ⟨.builtin .append, #[s, src], #[t, t]⟩, ty, pos, af, g⟩ :: rest) n E (St w0 bs H M) k := by
  have hd : d < n := by simpa [Nat.blt_eq] using hd
  refine wl_op hg fun a w ha hw => ?_
  obtain ⟨v', Hs', w', hr, h2, h3⟩ := run_append' (ty := ty) (ad := ⟨b, 0, none⟩) (c := c) ht hi hz hsz hby hzs (by simpa [Nat.blt_eq] using hm) hown (hw.drop hsub) hl2 (fun j u hj => by rw [add_addr, cell_of (hw.get hmem), Nat.zero_add]; exact hnews j u hj) hp hb1 (Nat.le_of_ble_eq_true hb2)
  unfold Oper.wp
  rw [run_appendOp (ha.eval hx) (ha.eval hy) hr, Oper.upon_value]
  exact (h v' Hs' h2).run _ _ (ha.put hd rfl) h3
theorem yr_cellS {fn : Func} {t u b : Nat} {tid : TypeId} {fs : Array Field} {l : List Value} {T : TypeId} {fz : Nat × Nat} {r r' : Value} {v : Value} (hr : fn.results = #[.cell t tid, .tmp u]) (ht : look E t = some (true, .pointer (some ⟨b, 0, none⟩))) (hu : look E u = some (true, r'))
    (hty : P.underlying tid = some (.struct fs)) (hs : (P.info? tid).map (·.size) = some l.length) (hv : .agg l.toArray = v) (hv2 : r' = r) (hm : (b, Obj.cells l.toArray T fz) ∈ H := by exact (by first | exact List.Mem.head _ | exact List.Mem.tail _ (List.Mem.head _) | exact List.Mem.tail _ (List.Mem.tail _ (List.Mem.head _)) | exact List.Mem.tail _ (List.Mem.tail _ (List.Mem.tail _ (List.Mem.head _))) | exact List.Mem.tail _ (List.Mem.tail _ (List.Mem.tail _ (List.Mem.tail _ (List.Mem.head _)))) | exact List.mem_append_right _ (List.Mem.head _) | exact List.mem_append_right _ (List.Mem.tail _ (List.Mem.head _)) | exact List.mem_append_right _ (List.Mem.tail _ (List.Mem.tail _ (List.Mem.head _))) | exact List.mem_append_right _ (List.Mem.tail _ (List.Mem.tail _ (List.Mem.tail _ (List.Mem.head _)))) | exact List.Mem.tail _ (List.mem_append_right _ (List.Mem.head _)) | exact List.Mem.tail _ (List.mem_append_right _ (List.Mem.tail _ (List.Mem.head _))) | exact List.Mem.tail _ (List.mem_append_right _ (List.Mem.tail _ (List.Mem.tail _ (List.Mem.head _)))) | exact List.Mem.tail _ (List.mem_append_right _ (List.Mem.tail _ (List.Mem.tail _ (List.Mem.tail _ (List.Mem.head _))))) | exact List.Mem.tail _ (List.Mem.tail _ (List.mem_append_right _ (List.Mem.head _))) | exact List.Mem.tail _ (List.Mem.tail _ (List.mem_append_right _ (List.Mem.tail _ (List.Mem.head _)))) | exact List.Mem.tail _ (List.Mem.tail _ (List.mem_append_right _ (List.Mem.tail _ (List.Mem.tail _ (List.Mem.head _))))))) : WR n E (St w0 [] H M) (bodyPost P fn (RetE w0 (.tuple #[v, r]))) := wr_cellS hr ht hu hty hm hs hv hv2
end
end Go.Eng
