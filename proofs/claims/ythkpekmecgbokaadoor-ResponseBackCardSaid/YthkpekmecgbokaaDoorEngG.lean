/-
  More rules of the engine: maps with keys of one cell, slices of slices, an append that has no room, results in cells, a drawn region that makes one row out of another. Nothing of the program stands here.
-/
import Derived.Test.YthkpekmecgbokaaDoorEngF
import Derived.MapKept
import Derived.WideMake
namespace Go.Eng
open Go.RowKit
set_option linter.unusedVariables false
section
variable {P : Program} {n : Nat} {E : Env} {k : Kont} {ops : Array Oper} {rest : List Oper} {cg : Bool}
variable {dst : Option Tmp} {ty : TypeId} {pos : String} {af : Array Edge} {g : Option (Nat × Bool)}
variable {w0 : World} {bs : List Nat} {H : List (Nat × Obj)} {M : Ghost} {C : World → Prop}
variable {x y z : Operand} {cx cy : Bool} {tx tyy : TypeId}

/-- an operation that does not run: whatever it would yield -/
theorem ov_off {o : Oper} {v : Value} (h : cg = false) : OpV P n E C o cg v := ⟨fun h2 => by rw [h] at h2; cases h2⟩

/-- what is owned, in another order -/
theorem St.perm {H' : List (Nat × Obj)} {w : World} (h : St w0 bs H M w) (hp : H'.Perm H) : St w0 bs H' M w :=
  ⟨h.keep, fun p hm => h.own p (hp.subset hm), fun p hm => h.new p (hp.subset hm), (hp.map _).nodup_iff.2 h.nodup, h.laid, fun b o hm p hm' => h.apart b o hm p (hp.subset hm')⟩

/-! ### maps -/
theorem wl_makeMap {T : TypeId} {d : Nat} (hg : gd ops E g = some true) (hd : Nat.blt d n = true)
    (h : ∀ b, WL P ops rest n ((d, true, .map (some b)) :: E) (St w0 bs ((b, .map ([] : List MapEntry).toArray 0) :: H) M) k) :
    WL P ops (⟨some d, .makeMap T none, ty, pos, af, g⟩ :: rest) n E (St w0 bs H M) k := by
  have hd : d < n := by simpa [Nat.blt_eq] using hd
  refine wl_op hg fun a w ha hw => ?_
  unfold Oper.wp
  have : (execOp a.eval ⟨some d, .makeMap T none, ty, pos, af, g⟩).run P w = .ok (.value (.map (some w.heap.size))) { w with heap := w.heap.push (.map #[] 0) } := by
    simp only [execOp, Option.map_none, run_makeMap_plain, Sem.run_bind, Result.andThen_ok, Sem.run_pure]
    rfl
  rw [this, Oper.upon_value]
  exact (h _).run _ _ (ha.put hd rfl) (hw.alloc _)
theorem wl_insert {mt kt et : TypeId} {d : TypeDesc} {b clock : Nat} {es : List MapEntry} {key v : Value} {H' : List (Nat × Obj)} (hg : gd ops E g = some true) (hx : ev E x = some (true, .map (some b))) (hy : ev E y = some (true, key)) (hz : ev E z = some (true, v))
    (ht : P.underlying mt = some (.map kt et)) (hk : P.underlying kt = some d) (hkey : MapKept.IsKey d key) (hu : Upd H b (.map es.toArray clock) (.map (es ++ [MapEntry.mk key v clock]).toArray (clock + 1)) H') (hf : Instr.findNow d key es 0 = some none)
    (h : WL P ops rest n E (St w0 bs H' M) k) : WL P ops (⟨none, .insert mt x y z, ty, pos, af, g⟩ :: rest) n E (St w0 bs H M) k := by
  refine wl_op hg fun a w ha hw => ?_
  have hb := hw.get hu.mem
  have hlt := lt_of_get hb
  unfold Oper.wp
  have : (execOp a.eval ⟨none, .insert mt x y z, ty, pos, af, g⟩).run P w = .ok .skip { w with heap := w.heap.setIfInBounds b (.map (es ++ [MapEntry.mk key v clock]).toArray (clock + 1)) } := by
    have hf' : Instr.findNow d key es.toArray.toList 0 = some none := by simpa using hf
    simp [execOp, ha.eval hx, ha.eval hy, ha.eval hz, Instr.mapUpdate, run_underlying ht, MapKept.run_getObj_map hb, MapKept.run_checkKey hk hkey, MapKept.run_findKey hk hf', MapKept.run_setObj_map _ hb]
  rw [this, Oper.upon_skip]
  refine h.run _ _ (by simpa [Act.put] using ha) (hw.upd hu ⟨rfl, rfl, rfl, by simp, fun i _ hi => ?_⟩ (by simp [hlt]))
  have : b ≠ i := fun e => hi (by simp [e])
  simp [Array.getElem?_setIfInBounds_ne this]
/-- what a look at a map yields -/
def foundV (zv : Value) : Option (Nat × Value) → Value
  | some (_, u) => u
  | none => zv
theorem ov_lookup {mt kt et : TypeId} {d : TypeDesc} {b clock : Nat} {es : List MapEntry} {key v zv : Value} {r : Option (Nat × Value)} (hx : ev E x = some (cx, .map (some b))) (hy : ev E y = some (cy, key)) (h1 : Imp cg cx) (h2 : Imp cg cy)
    (ht : P.underlying mt = some (.map kt et)) (hk : P.underlying kt = some d) (hkey : MapKept.IsKey d key) (hm : (b, Obj.map es.toArray clock) ∈ H) (hz : ∀ w, (zeroValue et).run P w = .ok zv w) (hf : Instr.findNow d key es 0 = some r) (hv : foundV zv r = v) :
    OpV P n E (St w0 bs H M) ⟨dst, .lookup mt x y false, ty, pos, af, g⟩ cg v :=
  ov_run fun h a ha w hw => by
    have hf' : Instr.findNow d key es.toArray.toList 0 = some r := by simpa using hf
    subst hv
    cases r with
    | none => simp [foundV, execOp, ha.evalc hx (h1 h), ha.evalc hy (h2 h), Instr.lookup, run_underlying ht, MapKept.run_getObj_map (hw.get hm), MapKept.run_checkKey hk hkey, MapKept.run_findKey hk hf', hz]
    | some iv => obtain ⟨i, u⟩ := iv; simp [foundV, execOp, ha.evalc hx (h1 h), ha.evalc hy (h2 h), Instr.lookup, run_underlying ht, MapKept.run_getObj_map (hw.get hm), MapKept.run_checkKey hk hkey, MapKept.run_findKey hk hf']

theorem cells2 {cs : Array Value} {o : Nat} {u v : Value} (h : cs[o]? = some u ∧ cs[o + 1]? = some v) : ∀ j, j < [u, v].length → cs[o + j]? = [u, v][j]? := by
  intro j hj
  match j, hj with
  | 0, _ => exact h.1
  | 1, _ => exact h.2

/-! ### slices of slices -/
def slc (a : Option Addr) (m l h c : Nat) : Value := .slice (if c = l then a else a.map (·.add (l * m))) (h - l) (c - l)
theorem run_bound {k1 : IntKind} {i y : Nat} {code : BoundsCode} {w : World} (h : i ≤ y) : (Instr.sliceBound (.int k1 (i : Int)) y code).run P w = .ok i w := by
  have h3 : (0 : Int) ≤ (i : Int) ∧ (i : Int) ≤ (y : Int) := by omega
  simp only [Instr.sliceBound, asIntOf, Sem.run_bind, Sem.run_pure, Result.andThen_ok]
  rw [if_pos h3]; simp
theorem slc_zero (a : Option Addr) (m h c : Nat) : slc a m 0 h c = .slice a h c := by
  unfold slc
  cases a with
  | none => simp
  | some x => simp [Addr.add]
/-- x[:h:c] -/
theorem ov_slc3 {t e : TypeId} {hi mx : Operand} {ch cm : Bool} {k1 k2 : IntKind} {a0 : Option Addr} {len cap h c m : Nat} {u v : Int} (hx : ev E x = some (cx, .slice a0 len cap)) (hh : ev E hi = some (ch, .int k1 u)) (hm : ev E mx = some (cm, .int k2 v)) (e1 : u = (h : Int)) (e2 : v = (c : Int)) (h1 : Imp cg cx) (h2 : Imp cg ch) (h3 : Imp cg cm)
    (ht : P.underlying t = some (.slice e)) (hs : (P.info? e).map (·.size) = some m) (hf : cg = true → h ≤ c ∧ c ≤ cap) : OpV P n E C ⟨dst, .slice t x none (some hi) (some mx), ty, pos, af, g⟩ cg (.slice a0 h c) :=
  slc_zero a0 m h c ▸
  ov_run fun hc a ha w _ => by
    obtain ⟨hf1, hf2⟩ := hf hc
    subst e1; subst e2
    simp only [execOp, ha.evalc hx (h1 hc), Option.map, ha.evalc hh (h2 hc), ha.evalc hm (h3 hc), Sem.run_bind, Instr.slice, Instr.sliceAt, run_underlying ht, Result.andThen_ok, Instr.sliceBounds, run_bound hf2, run_bound hf1, Sem.run_pure, run_sizeOf hs]
    rfl
/-- x[:h] -/
theorem ov_slcTo {t e : TypeId} {hi : Operand} {ch : Bool} {k1 : IntKind} {a0 : Option Addr} {len cap h m : Nat} {u : Int} (hx : ev E x = some (cx, .slice a0 len cap)) (hh : ev E hi = some (ch, .int k1 u)) (e1 : u = (h : Int)) (h1 : Imp cg cx) (h2 : Imp cg ch)
    (ht : P.underlying t = some (.slice e)) (hs : (P.info? e).map (·.size) = some m) (hf : cg = true → h ≤ cap) : OpV P n E C ⟨dst, .slice t x none (some hi) none, ty, pos, af, g⟩ cg (.slice a0 h cap) :=
  slc_zero a0 m h cap ▸
  ov_run fun hc a ha w _ => by
    have hf1 := hf hc
    subst e1
    simp only [execOp, ha.evalc hx (h1 hc), Option.map, ha.evalc hh (h2 hc), Sem.run_bind, Instr.slice, Instr.sliceAt, run_underlying ht, Result.andThen_ok, Instr.sliceBounds, run_bound hf1, Sem.run_pure, run_sizeOf hs]
    rfl
/-- x[l:] -/
theorem ov_slcFrom {t e : TypeId} {lo : Operand} {cl : Bool} {k1 : IntKind} {a0 : Option Addr} {len cap l m : Nat} {u : Int} (hx : ev E x = some (cx, .slice a0 len cap)) (hh : ev E lo = some (cl, .int k1 u)) (e1 : u = (l : Int)) (h1 : Imp cg cx) (h2 : Imp cg cl)
    (ht : P.underlying t = some (.slice e)) (hs : (P.info? e).map (·.size) = some m) (hf : cg = true → l ≤ len) : OpV P n E C ⟨dst, .slice t x (some lo) none none, ty, pos, af, g⟩ cg (slc a0 m l len cap) :=
  ov_run fun hc a ha w _ => by
    have hf1 := hf hc
    subst e1
    simp only [execOp, ha.evalc hx (h1 hc), Option.map, ha.evalc hh (h2 hc), Sem.run_bind, Instr.slice, Instr.sliceAt, run_underlying ht, Result.andThen_ok, Instr.sliceBounds, run_bound hf1, Sem.run_pure, run_sizeOf hs]
    rfl
/-- x[l:h] -/
theorem ov_slcB {t e : TypeId} {lo hi : Operand} {cl ch : Bool} {k1 k2 : IntKind} {a0 : Option Addr} {len cap l h m : Nat} {u v : Int} (hx : ev E x = some (cx, .slice a0 len cap)) (hlo : ev E lo = some (cl, .int k1 u)) (hh : ev E hi = some (ch, .int k2 v)) (e1 : u = (l : Int)) (e2 : v = (h : Int)) (h1 : Imp cg cx) (h2 : Imp cg cl) (h3 : Imp cg ch)
    (ht : P.underlying t = some (.slice e)) (hs : (P.info? e).map (·.size) = some m) (hf : cg = true → l ≤ h ∧ h ≤ cap) : OpV P n E C ⟨dst, .slice t x (some lo) (some hi) none, ty, pos, af, g⟩ cg (slc a0 m l h cap) :=
  ov_run fun hc a ha w _ => by
    obtain ⟨hf1, hf2⟩ := hf hc
    subst e1; subst e2
    simp only [execOp, ha.evalc hx (h1 hc), Option.map, ha.evalc hlo (h2 hc), ha.evalc hh (h3 hc), Sem.run_bind, Instr.slice, Instr.sliceAt, run_underlying ht, Result.andThen_ok, Instr.sliceBounds, run_bound hf2, run_bound hf1, Sem.run_pure, run_sizeOf hs]
    rfl
/-- a slice's part holds the list's part -/
theorem Sl.slc {α : Type} {m : Nat} {R : α → List Value → Prop} {a : Option Addr} {l : List α} {len cap i j c : Nat} (h : Sl M m R (.slice a len cap) l) (hij : i ≤ j) (hj : j ≤ l.length) (hc : j ≤ c) (hc2 : c ≤ cap) : Sl M m R (Eng.slc a m i j c) ((l.drop i).take (j - i)) := by
  obtain ⟨a', cap', e, h2, h3, h4⟩ := h
  simp only [Value.slice.injEq] at e
  obtain ⟨rfl, rfl, rfl⟩ := e
  have hlen : ((l.drop i).take (j - i)).length = j - i := by simp; omega
  refine ⟨_, _, by rw [hlen]; rfl, by rw [hlen]; omega, by rw [hlen]; omega, fun hne => ?_⟩
  have hpos : i < j := by
    have : 0 < ((l.drop i).take (j - i)).length := List.length_pos_iff.2 hne
    omega
  obtain ⟨b, o, cs, T, fz, rfl, h5, h6⟩ := h4 (by intro e; subst e; simp at hj; omega)
  refine ⟨b, o + i * m, cs, T, fz, ?_, h5, fun q hq => ?_⟩
  · rw [if_neg (by omega)]; simp [add_addr]
  · rw [hlen] at hq
    obtain ⟨vs, e1, e2, e3⟩ := h6 (i + q) (by omega)
    refine ⟨vs, e1, ?_, fun r hr => ?_⟩
    · have : ((l.drop i).take (j - i))[q]'(by rw [hlen]; exact hq) = l[i + q]'(by omega) := by simp
      rw [this]; exact e2
    · rw [← e3 r hr]; congr 1; rw [Nat.add_mul]; omega
/-- the same with the value to come -/
theorem wl_sl {α : Type} {m : Nat} {R : α → List Value → Prop} {d : Nat} {v : Value} {o : Oper} {l : List α} (hg : gd ops E o.guard = some true) (ho : o.dst = some d) (hd : Nat.blt d n = true) (hv : OpV P n E C o true v) (hs : Sl M m R v l)
    (h : ∀ u, Sl M m R u l → WL P ops rest n ((d, true, u) :: E) C k) : WL P ops (o :: rest) n E C k := wl_v hg ho hd hv (h v hs)

/-! ### an append that has no room -/
/-- the row that a slice reads as, whatever its place -/
def RowAt (M : Ghost) (a : Option Addr) (xs : List Value) : Prop := xs = [] ∨ ∃ b o cs T fz, a = some ⟨b, o, none⟩ ∧ M b (.cells cs T fz) ∧ ∀ j u, xs[j]? = some u → cs[o + j]? = some u
theorem run_appendN {t e : TypeId} {m by' : Nat} {i : TypeInfo} {zv : Value} {H0 : List (Nat × Obj)} {a : Option Addr} {xs news : List Value} {len len2 c : Nat} {ad : Addr} {w : World} (ht : P.underlying t = some (.slice e)) (hi : P.info? e = some i) (hz : i.zero = some zv) (hsz : i.size = m) (hby : i.bytes = by') (hzs : zv.cells.size = m) (hm : 0 < m)
    (hrow : RowAt M a xs) (hxs : xs.length = len * m) (hw : St w0 bs H0 M w) (hl2 : news.length = len2 * m) (hpos : 0 < len2) (hnews : ∀ j u, news[j]? = some u → w.cell? (ad.add j) = some u) (hb1 : len + len2 ≤ 1000000000) (hb2 : by' ≤ 140000) :
    ∃ v' Hs' w', (Builtin.append_ #[t, t] ty #[.slice a len len, .slice (some ad) len2 c]).run P w = .ok v' w' ∧ OwnS e m v' Hs' (xs ++ news) ∧ St w0 bs (Hs' ++ H0) M w' ∧ Ext w w' := by
  subst hsz; subst hby
  have hh : ∀ old, old < len + len2 → OwnS e i.size (.slice (some ⟨w.heap.size, 0, none⟩) (len + len2) (grownCap w (len + len2) old e)) [(w.heap.size, .cells (xs.toArray ++ news.toArray ++ Builtin.zeroCells zv.cells (grownCap w (len + len2) old e - (len + len2))) e (0, 0))] (xs ++ news) ∧
      St w0 bs ([(w.heap.size, .cells (xs.toArray ++ news.toArray ++ Builtin.zeroCells zv.cells (grownCap w (len + len2) old e - (len + len2))) e (0, 0))] ++ H0) M (w.drew.alloc (.cells (xs.toArray ++ news.toArray ++ Builtin.zeroCells zv.cells (grownCap w (len + len2) old e - (len + len2))) e)) ∧
      Ext w (w.drew.alloc (.cells (xs.toArray ++ news.toArray ++ Builtin.zeroCells zv.cells (grownCap w (len + len2) old e - (len + len2))) e)) := by
    intro old ho
    have hge := grownCap_ge w (len + len2) old e
    have hcm : grownCap w (len + len2) old e ≤ maxLen := grownCap_le_maxLen w (len + len2) old e (by simp only [maxLen]; omega)
    have hxl : (xs ++ news).length = (len + len2) * i.size := by rw [List.length_append, hxs, hl2, Nat.add_mul]
    have h3 : St w0 bs H0 M w.drew := hw.ext (Ext.drew w 1)
    refine ⟨.inr ⟨_, _, _, _, rfl, rfl, hxl, hge, hcm, ?_, ?_⟩, h3.alloc _, ⟨rfl, rfl, rfl, by show _ ≤ (w.heap.push _).size; simp, fun b hb _ => ?_⟩⟩
    · simp only [Array.size_append, List.size_toArray, size_zeroCells, hzs, hxs, hl2, ← Nat.add_mul]
      congr 1
      omega
    · simp only [Array.toList_append, List.append_assoc]
      rw [← List.append_assoc, ← hxl]
      exact List.take_left
    · show (w.heap.push _)[b]? = w.heap[b]?
      simp only [Array.getElem?_push]; rw [if_neg (by omega)]
  cases a with
  | none =>
    have hx0 : xs = [] := by
      rcases hrow with h | ⟨_, _, _, _, _, h, _⟩
      · exact h
      · cases h
    subst hx0
    have hl0 : len = 0 := by
      have : len * i.size = 0 := by simpa using hxs.symm
      rcases Nat.mul_eq_zero.1 this with h | h
      · exact h
      · omega
    subst hl0
    have hr := run_append_nil (P := P) w t ty e i zv ht hi hz ad len2 c news hl2 hnews (by omega) (by omega) (by have := Nat.mul_le_mul hb1 hb2; rw [Nat.zero_add] at this; omega)
    have := hh 0 (by omega)
    simp only [Nat.zero_add, List.nil_append, Array.empty_append] at this hr
    exact ⟨_, _, _, hr, this.1, this.2⟩
  | some ad0 =>
    have holds : ∀ j u, xs[j]? = some u → w.cell? (ad0.add j) = some u := by
      intro j u hj
      rcases hrow with h | ⟨b, o, cs, T, fz, e1, e2, e3⟩
      · subst h; simp at hj
      · obtain rfl : ad0 = ⟨b, o, none⟩ := by simpa using e1
        rw [add_addr, cell_of (hw.laid _ _ e2)]; exact e3 j u hj
    have hr := run_append_grow (P := P) w t ty e i zv ht hi hz ad0 len len xs hxs holds ad len2 c news hl2 hnews (by omega) (by omega) (growslice_fits (by omega) (by have := Nat.mul_le_mul hb1 hb2; omega))
    have := hh len (by omega)
    exact ⟨_, _, _, hr, this.1, this.2⟩
/-- append(s, literal) where s is laid and full -/
theorem wl_appendN {s src : Operand} {t e : TypeId} {m by' d : Nat} {i : TypeInfo} {zv : Value} {a0 : Option Addr} {xs news : List Value} {b c len len2 : Nat} {T2 : TypeId} {fz : Nat × Nat} (hg : gd ops E g = some true) (hrow : RowAt M a0 xs) (hxs : xs.length = len * m) (hd : Nat.blt d n = true)
    (hx : ev E s = some (true, .slice a0 len len)) (hy : ev E src = some (true, .slice (some ⟨b, 0, none⟩) len2 c)) (ht : P.underlying t = some (.slice e)) (hi : P.info? e = some i) (hz : i.zero = some zv) (hsz : i.size = m) (hby : i.bytes = by') (hzs : zv.cells.size = m) (hm : Nat.blt 0 m = true)
    (hmem : (b, Obj.cells news.toArray T2 fz) ∈ H) (hl2 : news.length = len2 * m) (hpos : Nat.blt 0 len2 = true) (hb1 : len + len2 ≤ 1000000000) (hb2 : Nat.ble by' 140000 = true)
    (h : ∀ v' Hs', OwnS e m v' Hs' (xs ++ news) → WL P ops rest n ((d, true, v') :: E) (St w0 bs (Hs' ++ H) M) k) :
    WL P ops (⟨some d, .call ⟨.builtin .append, #[s, src], #[t, t]⟩, ty, pos, af, g⟩ :: rest) n E (St w0 bs H M) k := by
  have hd : d < n := by simpa [Nat.blt_eq] using hd
  refine wl_op hg fun a w ha hw => ?_
  obtain ⟨v', Hs', w', hr, h2, h3, _⟩ := run_appendN (ty := ty) (ad := ⟨b, 0, none⟩) (c := c) ht hi hz hsz hby hzs (by simpa [Nat.blt_eq] using hm) hrow hxs hw hl2 (by simpa [Nat.blt_eq] using hpos) (fun j u hj => by rw [add_addr, cell_of (hw.get hmem)]; simpa using hj) hb1 (Nat.le_of_ble_eq_true hb2)
  unfold Oper.wp
  rw [run_appendOp (ha.eval hx) (ha.eval hy) hr, Oper.upon_value]
  exact (h v' Hs' h2).run _ _ (ha.put hd rfl) h3

/-! ### a drawn region that makes a row out of another -/
theorem looks_of {o : Oper} {s : Nat} (h : (o.op.operands.toList.any fun x => match x with | .tmp t => Nat.beq t s | _ => false) = true) : s ∈ o.looksAt ops := by
  rw [List.any_eq_true] at h
  obtain ⟨x, hx, hb⟩ := h
  cases x with
  | tmp t =>
    have : t = s := Nat.eq_of_beq_eq_true hb
    subst this
    unfold Oper.looksAt
    exact List.mem_append_left _ (List.mem_filterMap.2 ⟨.tmp t, hx, rfl⟩)
  | _ => cases hb
/-- an owned row, told -/
def Grown (w0 : World) (bs : List Nat) (H : List (Nat × Obj)) (M : Ghost) (e : TypeId) (m : Nat) (xs : List Value) : Tell := fun v w => ∃ Hs, OwnS e m v Hs xs ∧ St w0 bs (Hs ++ H) M w
theorem steady_grown {e : TypeId} {m : Nat} {xs : List Value} : Steady (Grown w0 bs H M e m xs) := fun _ _ _ hx ⟨Hs, h1, h2⟩ => ⟨Hs, h1, h2.ext hx⟩
/-- an operation that looks at a told entry, and is told by more than a value -/
theorem wd_rel2 {d s : Nat} {U V : Tell} {o : Oper} {rest tail : List Oper} {F : REnv} (hg : o.guard = none) (ho : o.dst = some d) (hd : Nat.blt d n = true) (hs : Nat.blt s n = true) (hb : belowN n E = true) (hsel : noSel o = true) (hE : look E d = none) (hU : lookR F s = some U) (hst : Steady V)
    (hv : ∀ u, OpR P n ((s, true, u) :: E) C (U u) o V) (hlook : s ∈ o.looksAt ops) (h : WD P ops rest n E ((d, V) :: F) C tail k) : WD P ops (o :: rest) n E F C tail k := ⟨fun hdis G hG => by
  have hd : d < n := by simpa [Nat.blt_eq] using hd
  have hs : s < n := by simpa [Nat.blt_eq] using hs
  refine ⟨d, V, ho, hd, hst, ⟨fun a w hw had has hHR => ?_⟩, h.run ?_ _ ?_⟩
  · obtain ⟨u, hu, hUu⟩ := hHR s U (by rw [hG]; simp [hU]) hlook
    obtain ⟨b, hb1, hb2, hb3⟩ := turn (ops := ops) (E := (s, true, u) :: E) o had has (fun i c u' hi hm => by
      simp only [look] at hi
      by_cases e : s = i
      · subst e; simp at hi; obtain ⟨rfl, rfl⟩ := hi; exact hu
      · rw [beq_no e, cond_false] at hi
        have hFi : lookR F i = none := by
          cases hf : lookR F i with
          | none => rfl
          | some V => rw [hdis i (by simp [hf])] at hi; cases hi
        obtain ⟨u2, h1, h2⟩ := hHR i (exact1 c u') (by rw [hG]; simp [hFi, hi]) hm
        rw [h1, h2]) (noSel_spec hsel) (fun i c u' hi => by
          simp only [look] at hi
          by_cases e : s = i
          · subst e; exact hs
          · rw [beq_no e, cond_false] at hi; exact belowN_look hb i c u' hi)
    refine ⟨fun _ => ?_, fun hno => by simp [Region.wanted, hg] at hno⟩
    have := (hv u).run b hb1 w hw hUu
    have : Tells P o a w V C := by unfold Tells at *; rw [hb2] at this; exact this
    exact this.wp
  · intro q hq
    simp only [lookR] at hq
    by_cases e : d = q
    · subst e; exact hE
    · rw [beq_no e, cond_false] at hq; exact hdis q hq
  · intro q
    simp only [lookR]
    by_cases e : d = q
    · subst e; simp
    · rw [beq_no e, cond_false, cond_false]; exact hG q⟩
/-- append(s, fresh literal) where s is laid and full -/
theorem or_appendN {x : Operand} {s : Nat} {t e : TypeId} {m by' : Nat} {i : TypeInfo} {zv : Value} {a0 : Option Addr} {xs news : List Value} {len len2 : Nat} {T2 : TypeId} (hrow : RowAt M a0 xs) (hxs : xs.length = len * m)
    (hx : ∀ u, ev ((s, true, u) :: E) x = some (true, .slice a0 len len)) (ht : P.underlying t = some (.slice e)) (hi : P.info? e = some i) (hz : i.zero = some zv) (hsz : i.size = m) (hby : i.bytes = by') (hzs : zv.cells.size = m) (hm : Nat.blt 0 m = true)
    (hl2 : news.length = len2 * m) (hpos : Nat.blt 0 len2 = true) (hb1 : len + len2 ≤ 1000000000) (hb2 : Nat.ble by' 140000 = true) (u : Value) :
    OpR P n ((s, true, u) :: E) (St w0 bs H M) (Fresh w0 bs H M len2 (.cells news.toArray T2 (0, 0)) u) ⟨dst, .call ⟨.builtin .append, #[x, .tmp s], #[t, t]⟩, ty, pos, af, none⟩ (Grown w0 bs H M e m (xs ++ news)) := ⟨fun a ha w hw ⟨b, hu, hst⟩ => by
  subst hu
  have hy : a.eval (.tmp s) = .slice (some ⟨b, 0, none⟩) len2 len2 := ha.eval (by simp [ev, look])
  obtain ⟨v', Hs', w', hr, h2, h3, h4⟩ := run_appendN (ty := ty) (ad := ⟨b, 0, none⟩) (c := len2) ht hi hz hsz hby hzs (by simpa [Nat.blt_eq] using hm) hrow hxs hw hl2 (by simpa [Nat.blt_eq] using hpos) (fun j u hj => by rw [add_addr, cell_of (hst.get List.mem_cons_self)]; simpa using hj) hb1 (Nat.le_of_ble_eq_true hb2)
  unfold Tells
  rw [run_appendOp (ha.eval (hx _)) hy hr]
  exact ⟨⟨Hs', h2, h3⟩, h4, h3.drop (List.sublist_append_right _ _)⟩⟩
/-- its length -/
theorem or_lenG {s : Nat} {t e e' : TypeId} {m q : Nat} {xs : List Value} (ht : P.underlying t = some (.slice e')) (hm : Nat.blt 0 m = true) (hxs : xs.length = q * m) (u : Value) :
    OpR P n ((s, true, u) :: E) (St w0 bs H M) (Grown w0 bs H M e m xs u) ⟨dst, .call ⟨.builtin .len, #[.tmp s], #[t]⟩, ty, pos, af, none⟩ (exact1 true (i64 (q : Int))) := ⟨fun a ha w hw ⟨Hs, ho, _⟩ => by
  obtain ⟨a0, cap, rfl⟩ := ho.slice (by simpa [Nat.blt_eq] using hm) hxs
  have hy : a.eval (.tmp s) = .slice a0 q cap := ha.eval (by simp [ev, look])
  unfold Tells
  have : (execOp a.eval ⟨dst, .call ⟨.builtin .len, #[.tmp s], #[t]⟩, ty, pos, af, none⟩).run P w = .ok (.value (i64 (q : Int))) w := by
    simp [execOp, resolve, invoke, builtin, hy, Builtin.len_, run_underlying ht, goInt]
  rw [this]
  exact ⟨rfl, Keep.refl _ _, hw⟩⟩
/-- behind it: one told entry is kept -/
theorem wd_nilD {d : Nat} {V : Tell} {F : REnv} {tail : List Oper} (hF : lookR F d = some V) (h : ∀ v, WL P ops tail n ((d, true, v) :: E) (fun w => C w ∧ V v w) k) : WD P ops [] n E F C tail k := ⟨fun hdis G hG a w hw hA => by
  obtain ⟨u, hu, hU⟩ := hA.2.2 d V (by rw [hG]; simp [hF]) trivial
  refine (h u).run a w ⟨hA.1, hA.2.1, fun i c v hi => ?_⟩ ⟨hw, hU⟩
  simp only [look] at hi
  by_cases e : d = i
  · subst e; simp at hi; obtain ⟨rfl, rfl⟩ := hi; exact hu
  · rw [beq_no e, cond_false] at hi
    have hFi : lookR F i = none := by
      cases hf : lookR F i with
      | none => rfl
      | some V => rw [hdis i (by simp [hf])] at hi; cases hi
    obtain ⟨u', hu', hU'⟩ := hA.2.2 i (exact1 c v) (by rw [hG]; simp [hFi, hi]) trivial
    rw [hu', hU']⟩
theorem wl_grown {l : List Oper} {d : Nat} {e : TypeId} {m : Nat} {xs : List Value} {D : World → Prop} (h : ∀ v Hs, OwnS e m v Hs xs → WL P ops l n ((d, true, v) :: E) (St w0 bs (Hs ++ H) M) k) (v : Value) :
    WL P ops l n ((d, true, v) :: E) (fun w => D w ∧ Grown w0 bs H M e m xs v w) k := ⟨fun a w ha ⟨_, Hs, ho, hst⟩ => (h v Hs ho).run a w ha hst⟩

/-! ### calls that lay something, inside a drawn region -/
/-- what such a call leaves -/
def Got (w0 : World) (bs : List Nat) (H : List (Nat × Obj)) (M : Ghost) (R : Ghost → List (Nat × Obj) → Value → Prop) : Tell := fun v w => ∃ M', (∀ b o, M b o → M' b o) ∧ (∀ b o, M' b o → M b o ∨ w0.heap.size ≤ b) ∧ St w0 bs H M' w ∧ R M' [] v
theorem steady_got {R : Ghost → List (Nat × Obj) → Value → Prop} : Steady (Got w0 bs H M R) := fun _ _ _ hx ⟨M', h1, h2, h3, h4⟩ => ⟨M', h1, h2, h3.ext hx, h4⟩
theorem or_callS {f : FuncId} {l : List Operand} {ats : Array TypeId} {vs : List (Bool × Value)} {args : Array Value} {R : Ghost → List (Nat × Obj) → Value → Prop} (hf : ∀ args w, (callFunc f args).run P w = .ok (.enter f args) w) (hl : evg true E l = some vs) (hp : vs.all (·.1) = true) (hargs : vs.map (·.2) = args.toList)
    (h0 : ∀ M' H v, R M' H v → H = []) (hc : ∀ w, St w0 bs H M w → Calls P f args w (RetS M w R)) : OpR P n E (St w0 bs H M) (fun _ => True) ⟨dst, .call ⟨.value (.func f), l.toArray, ats⟩, ty, pos, af, g⟩ (Got w0 bs H M R) := ⟨fun a ha w hw _ => by
  unfold Tells
  rw [run_callf hf (args := args) (by rw [evg_eval ha hl (by simpa using hp), hargs])]
  refine ⟨rfl, (hc w hw).mono ?_⟩
  rintro e w' ⟨v, Hn, M', rfl, hm, hnew, hst, hR⟩
  obtain rfl := h0 _ _ _ hR
  have hx : Ext w w' := hst.keep
  have hold := hw.ext hx
  refine ⟨v, rfl, ⟨M', hm, fun b o h1 => (hnew b o h1).imp id (fun h2 => Nat.le_trans hw.keep.size h2), ⟨hold.keep, hold.own, hold.new, hold.nodup, hst.laid, fun b o hm' p hp => ?_⟩, hR⟩, hx, hold⟩
  rcases hnew b o hm' with h1 | h1
  · exact hold.apart b o h1 p hp
  · have := lt_of_get (hw.own p hp); omega⟩
/-- an operation told by more than a value, under a guard that is known to hold -/
theorem wd_newG {d : Nat} {V : Tell} {o : Oper} {rest tail : List Oper} {F : REnv} (hg : gd ops E o.guard = some cg) (hcg : cg = true) (ho : o.dst = some d) (hd : Nat.blt d n = true) (hb : belowN n E = true) (hsel : noSel o = true) (hE : look E d = none) (hst : Steady V)
    (hv : OpR P n E C (fun _ => True) o V) (h : WD P ops rest n E ((d, V) :: F) C tail k) : WD P ops (o :: rest) n E F C tail k := ⟨fun hdis G hG => by
  subst hcg
  have hd : d < n := by simpa [Nat.blt_eq] using hd
  refine ⟨d, V, ho, hd, hst, ⟨fun a w hw had has hHR => ?_⟩, h.run ?_ _ ?_⟩
  · obtain ⟨b, hb1, hb2, hb3⟩ := turn (ops := ops) (E := E) o had has (fun i c u hi hm => by
      have hFi : lookR F i = none := by
        cases hf : lookR F i with
        | none => rfl
        | some V => rw [hdis i (by simp [hf])] at hi; cases hi
      obtain ⟨u', h1, h2⟩ := hHR i (exact1 c u) (by rw [hG]; simp [hFi, hi]) hm
      rw [h1, h2]) (noSel_spec hsel) (belowN_look hb)
    have hwb := wanted_gd (ops := ops) hb1 hg
    rw [hb3] at hwb
    refine ⟨fun _ => ?_, fun hno => by rw [hwb] at hno; cases hno⟩
    have := hv.run b hb1 w hw trivial
    have : Tells P o a w V C := by unfold Tells at *; rw [hb2] at this; exact this
    exact this.wp
  · intro s hs
    simp only [lookR] at hs
    by_cases e : d = s
    · subst e; exact hE
    · rw [beq_no e, cond_false] at hs; exact hdis s hs
  · intro s
    simp only [lookR]
    by_cases e : d = s
    · subst e; simp
    · rw [beq_no e, cond_false, cond_false]; exact hG s⟩
/-- behind it: two told entries are kept -/
theorem wd_nil2 {d d' : Nat} {V V' : Tell} {F : REnv} {tail : List Oper} (hF : lookR F d = some V) (hF' : lookR F d' = some V') (h : ∀ v v', WL P ops tail n ((d, true, v) :: (d', true, v') :: E) (fun w => C w ∧ V v w ∧ V' v' w) k) : WD P ops [] n E F C tail k := ⟨fun hdis G hG a w hw hA => by
  obtain ⟨u, hu, hU⟩ := hA.2.2 d V (by rw [hG]; simp [hF]) trivial
  obtain ⟨u', hu', hU'⟩ := hA.2.2 d' V' (by rw [hG]; simp [hF']) trivial
  refine (h u u').run a w ⟨hA.1, hA.2.1, fun i c v hi => ?_⟩ ⟨hw, hU, hU'⟩
  simp only [look] at hi
  by_cases e : d = i
  · subst e; simp at hi; obtain ⟨rfl, rfl⟩ := hi; exact hu
  · rw [beq_no e, cond_false] at hi
    by_cases e' : d' = i
    · subst e'; simp at hi; obtain ⟨rfl, rfl⟩ := hi; exact hu'
    · rw [beq_no e', cond_false] at hi
      have hFi : lookR F i = none := by
        cases hf : lookR F i with
        | none => rfl
        | some V => rw [hdis i (by simp [hf])] at hi; cases hi
      obtain ⟨u2, hu2, hU2⟩ := hA.2.2 i (exact1 c v) (by rw [hG]; simp [hFi, hi]) trivial
      rw [hu2, hU2]⟩
/-- what two calls have laid -/
def Both (M1 M2 : Ghost) : Ghost := fun b o => M1 b o ∨ M2 b o
theorem St.both {M1 M2 : Ghost} {w : World} (h1 : St w0 bs H M1 w) (h2 : St w0 bs H M2 w) : St w0 bs H (Both M1 M2) w :=
  ⟨h1.keep, h1.own, h1.new, h1.nodup, fun b o h => h.elim (h1.laid b o) (h2.laid b o), fun b o h => h.elim (h1.apart b o) (h2.apart b o)⟩
theorem wl_got {l : List Oper} {d : Nat} {R : Ghost → List (Nat × Obj) → Value → Prop} {D : World → Prop} (h : ∀ v M1, (∀ b o, M b o → M1 b o) → (∀ b o, M1 b o → M b o ∨ w0.heap.size ≤ b) → R M1 [] v → WL P ops l n ((d, true, v) :: E) (St w0 bs H M1) k) (v : Value) :
    WL P ops l n ((d, true, v) :: E) (fun w => D w ∧ Got w0 bs H M R v w) k := ⟨fun a w ha ⟨_, M1, k1, k2, k3, k4⟩ => (h v M1 k1 k2 k4).run a w ha k3⟩
theorem wl_got2 {l : List Oper} {d d' : Nat} {R R' : Ghost → List (Nat × Obj) → Value → Prop} {D : World → Prop} (h : ∀ v v' M1 M2, (∀ b o, M b o → M1 b o) → (∀ b o, M b o → M2 b o) → (∀ b o, Both M1 M2 b o → M b o ∨ w0.heap.size ≤ b) → R M1 [] v → R' M2 [] v' → WL P ops l n ((d, true, v) :: (d', true, v') :: E) (St w0 bs H (Both M1 M2)) k) (v v' : Value) :
    WL P ops l n ((d, true, v) :: (d', true, v') :: E) (fun w => D w ∧ Got w0 bs H M R v w ∧ Got w0 bs H M R' v' w) k := ⟨fun a w ha ⟨_, ⟨M1, k1, k2, k3, k4⟩, ⟨M2, j1, j2, j3, j4⟩⟩ => (h v v' M1 M2 k1 j1 (fun b o hb => hb.elim (k2 b o) (j2 b o)) k4 j4).run a w ha (k3.both j3)⟩

/-! ### ends -/
theorem OwnS.block {e : TypeId} {m : Nat} {v : Value} {Hs : List (Nat × Obj)} {xs : List Value} {q : Nat} (h : OwnS e m v Hs xs) (hm : 0 < m) (hq : xs.length = q * m) (hne : 0 < q) : ∃ b cap cur, v = .slice (some ⟨b, 0, none⟩) q cap ∧ Hs = [(b, .cells cur e (0, 0))] ∧ q ≤ cap ∧ cap ≤ maxLen ∧ cur.size = cap * m ∧ cur.toList.take (q * m) = xs := by
  rcases h with ⟨rfl, rfl, rfl⟩ | ⟨b, len, cap, cur, rfl, rfl, h1, h2, h3, h4, h5⟩
  · have : q * m = 0 := by simpa using hq.symm
    rcases Nat.mul_eq_zero.1 this with h | h <;> omega
  · have : len = q := Nat.eq_of_mul_eq_mul_right hm (by omega)
    subst this
    exact ⟨b, cap, cur, rfl, rfl, h2, h3, h4, h5⟩
theorem Upd.app {H H' : List (Nat × Obj)} {b : Nat} {o o' : Obj} (Hs : List (Nat × Obj)) (h : Upd H b o o' H') : Upd (Hs ++ H) b o o' (Hs ++ H') := by
  induction Hs with
  | nil => exact h
  | cons p Hs ih => exact .there ih
/-- the cells of the result's struct -/
theorem run_cellRes {fn : Func} {t b : Nat} {tid : TypeId} {fs : Array Field} {l : List Value} {T : TypeId} {fz : Nat × Nat} {a : Act} {w : World} (hw : St w0 bs H M w) (ha : Holds n E a) (ht : look E t = some (true, .pointer (some ⟨b, 0, none⟩)))
    (hty : P.underlying tid = some (.struct fs)) (hm : (b, Obj.cells l.toArray T fz) ∈ H) (hs : (P.info? tid).map (·.size) = some l.length) (hr : fn.results = #[.cell t tid]) : (results fn a.tmps).run P w = .ok (.agg l.toArray) w := by
  have h1 := ha.reads t true _ ht
  simp [results, hr, h1, asAddr, loadVar, isAgg_struct hty, run_sizeOf hs, run_loadCells (o := 0) (hw.get hm) l (by simp)]
theorem run_cellRes2 {fn : Func} {t u b : Nat} {tid : TypeId} {fs : Array Field} {l : List Value} {T : TypeId} {fz : Nat × Nat} {r : Value} {a : Act} {w : World} (hw : St w0 bs H M w) (ha : Holds n E a) (ht : look E t = some (true, .pointer (some ⟨b, 0, none⟩))) (hu : look E u = some (true, r))
    (hty : P.underlying tid = some (.struct fs)) (hm : (b, Obj.cells l.toArray T fz) ∈ H) (hs : (P.info? tid).map (·.size) = some l.length) (hr : fn.results = #[.cell t tid, .tmp u]) : (results fn a.tmps).run P w = .ok (.tuple #[.agg l.toArray, r]) w := by
  have h1 := ha.reads t true _ ht
  have h2 := ha.reads u true _ hu
  simp [results, hr, h1, h2, asAddr, loadVar, isAgg_struct hty, run_sizeOf hs, run_loadCells (o := 0) (hw.get hm) l (by simp)]
/-- one result, a struct in a cell: exact -/
theorem wr_cell1 {fn : Func} {t b : Nat} {tid : TypeId} {fs : Array Field} {l : List Value} {T : TypeId} {fz : Nat × Nat} {v : Value} (hr : fn.results = #[.cell t tid]) (ht : look E t = some (true, .pointer (some ⟨b, 0, none⟩)))
    (hty : P.underlying tid = some (.struct fs)) (hm : (b, Obj.cells l.toArray T fz) ∈ H) (hs : (P.info? tid).map (·.size) = some l.length) (hv : .agg l.toArray = v) : WR n E (St w0 [] H M) (bodyPost P fn (RetE w0 v)) := ⟨fun a w ha hw => by
  subst hv
  exact bodyPost_ret (run_cellRes hw ha ht hty hm hs hr) ha.defers ⟨rfl, hw.keep⟩⟩
/-- one result, a struct in a cell; some of what is owned is laid for good -/
theorem wr_layC {M0 : Ghost} {fn : Func} {t b : Nat} {tid : TypeId} {fs : Array Field} {l : List Value} {T : TypeId} {fz : Nat × Nat} {Hn : List (Nat × Obj)} {R : Ghost → List (Nat × Obj) → Value → Prop} (hr : fn.results = #[.cell t tid]) (ht : look E t = some (true, .pointer (some ⟨b, 0, none⟩)))
    (hty : P.underlying tid = some (.struct fs)) (hm : (b, Obj.cells l.toArray T fz) ∈ H) (hs : (P.info? tid).map (·.size) = some l.length) (hsi : Since w0 M0 M) (hH : List.Sublist Hn H) (hR : R (With M Hn) [] (.agg l.toArray)) : WR n E (St w0 [] H M) (bodyPost P fn (RetS M0 w0 R)) := ⟨fun a w ha hw =>
  bodyPost_ret (run_cellRes hw ha ht hty hm hs hr) ha.defers (retS_lay (H' := []) hw hsi hH hR)⟩
/-- two results, the first a struct in a cell -/
theorem wr_layC2 {M0 : Ghost} {fn : Func} {t u b : Nat} {tid : TypeId} {fs : Array Field} {l : List Value} {T : TypeId} {fz : Nat × Nat} {r : Value} {Hn : List (Nat × Obj)} {R : Ghost → List (Nat × Obj) → Value → Prop} (hr : fn.results = #[.cell t tid, .tmp u]) (ht : look E t = some (true, .pointer (some ⟨b, 0, none⟩))) (hu : look E u = some (true, r))
    (hty : P.underlying tid = some (.struct fs)) (hm : (b, Obj.cells l.toArray T fz) ∈ H) (hs : (P.info? tid).map (·.size) = some l.length) (hsi : Since w0 M0 M) (hH : List.Sublist Hn H) (hR : R (With M Hn) [] (.tuple #[.agg l.toArray, r])) : WR n E (St w0 [] H M) (bodyPost P fn (RetS M0 w0 R)) := ⟨fun a w ha hw =>
  bodyPost_ret (run_cellRes2 hw ha ht hu hty hm hs hr) ha.defers (retS_lay (H' := []) hw hsi hH hR)⟩
end
end Go.Eng
