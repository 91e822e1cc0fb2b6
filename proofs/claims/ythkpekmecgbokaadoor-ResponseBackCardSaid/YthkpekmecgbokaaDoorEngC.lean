/-
  The engine's worlds: what a call keeps, what is its own, what is laid for good; calls; memory. Nothing of the program stands here.
-/
import Derived.Test.YthkpekmecgbokaaDoorEngB
namespace Go.Eng
open Go.RowKit

/-- What is laid for good. -/
abbrev Ghost := Nat → Obj → Prop
def Laid (M : Ghost) (w : World) : Prop := ∀ b o, M b o → w.heap[b]? = some o
theorem Laid.ext {M : Ghost} {w w' : World} (h : Laid M w) (k : Ext w w') : Laid M w' := fun b o hm => by
  have := h b o hm
  rw [k.block b (lt_of_get this) (by simp)]; exact this

/-- The state of a call: the world in which it began, the blocks that it was lent, what it owns, what is laid. -/
structure St (w0 : World) (bs : List Nat) (H : List (Nat × Obj)) (M : Ghost) (w : World) : Prop where
  keep : Keep bs w0 w
  own : ∀ p ∈ H, w.heap[p.1]? = some p.2
  new : ∀ p ∈ H, w0.heap.size ≤ p.1 ∨ p.1 ∈ bs
  nodup : (H.map (·.1)).Nodup
  laid : Laid M w
  apart : ∀ b o, M b o → ∀ p ∈ H, p.1 ≠ b

section
variable {w0 w w' : World} {bs : List Nat} {H : List (Nat × Obj)} {M : Ghost}
theorem St.start (h : Laid M w) : St w [] [] M w := ⟨Keep.refl _ _, by simp, by simp, by simp, h, by simp⟩
theorem St.ext (h : St w0 bs H M w) (k : Ext w w') : St w0 bs H M w' where
  keep := h.keep.trans k.to
  own := fun p hp => by rw [k.block p.1 (lt_of_get (h.own p hp)) (by simp)]; exact h.own p hp
  new := h.new
  nodup := h.nodup
  laid := h.laid.ext k
  apart := h.apart
theorem St.get {b : Nat} {o : Obj} (h : St w0 bs H M w) (hm : (b, o) ∈ H) : w.heap[b]? = some o := h.own (b, o) hm
/-- A new block of the call's own. -/
theorem St.alloc (h : St w0 bs H M w) (o : Obj) : St w0 bs ((w.heap.size, o) :: H) M { w with heap := w.heap.push o } where
  keep := h.keep.trans ⟨rfl, rfl, rfl, by simp, fun b hb _ => by simp only [Array.getElem?_push]; rw [if_neg (by omega)]⟩
  own := by
    intro p hp
    rcases List.mem_cons.1 hp with rfl | hp
    · simp
    · have := h.own p hp
      have hl := lt_of_get this
      simp only [Array.getElem?_push]; rw [if_neg (by omega)]; exact this
  new := by
    intro p hp
    rcases List.mem_cons.1 hp with rfl | hp
    · exact .inl h.keep.size
    · exact h.new p hp
  nodup := by
    simp only [List.map_cons, List.nodup_cons]
    refine ⟨?_, h.nodup⟩
    intro hm
    obtain ⟨p, hp, e⟩ := List.mem_map.1 hm
    have := lt_of_get (h.own p hp)
    omega
  laid := fun b o' hm => by
    have := h.laid b o' hm
    have hl := lt_of_get this
    simp only [Array.getElem?_push]; rw [if_neg (by omega)]; exact this
  apart := by
    intro b o' hm p hp
    rcases List.mem_cons.1 hp with rfl | hp
    · have := lt_of_get (h.laid b o' hm); simp; omega
    · exact h.apart b o' hm p hp

/-- One block of a list turned. -/
inductive Upd : List (Nat × Obj) → Nat → Obj → Obj → List (Nat × Obj) → Prop where
  | here {b : Nat} {o o' : Obj} {H : List (Nat × Obj)} : Upd ((b, o) :: H) b o o' ((b, o') :: H)
  | there {b : Nat} {o o' : Obj} {H H' : List (Nat × Obj)} {p : Nat × Obj} : Upd H b o o' H' → Upd (p :: H) b o o' (p :: H')
theorem Upd.mem {H H' : List (Nat × Obj)} {b : Nat} {o o' : Obj} (h : Upd H b o o' H') : (b, o) ∈ H := by
  induction h with
  | here => exact List.mem_cons_self
  | there _ ih => exact List.mem_cons_of_mem _ ih
theorem Upd.names {H H' : List (Nat × Obj)} {b : Nat} {o o' : Obj} (h : Upd H b o o' H') : H'.map (·.1) = H.map (·.1) := by
  induction h with
  | here => rfl
  | there _ ih => simp [ih]
theorem Upd.new {H H' : List (Nat × Obj)} {b : Nat} {o o' : Obj} (h : Upd H b o o' H') (hn : (H.map (·.1)).Nodup) : ∀ p ∈ H', (p = (b, o')) ∨ (p ∈ H ∧ p.1 ≠ b) := by
  induction h with
  | here =>
    intro p hp
    simp only [List.map_cons, List.nodup_cons] at hn
    rcases List.mem_cons.1 hp with rfl | hp
    · exact .inl rfl
    · exact .inr ⟨List.mem_cons_of_mem _ hp, fun e => hn.1 (e ▸ List.mem_map_of_mem (f := (·.1)) hp)⟩
  | there hu ih =>
    intro p hp
    simp only [List.map_cons, List.nodup_cons] at hn
    rcases List.mem_cons.1 hp with rfl | hp
    · exact .inr ⟨List.mem_cons_self, fun e => hn.1 (e ▸ List.mem_map_of_mem (f := (·.1)) hu.mem)⟩
    · rcases ih hn.2 p hp with h | ⟨h, h'⟩
      · exact .inl h
      · exact .inr ⟨List.mem_cons_of_mem _ h, h'⟩
/-- A block of the call's own is turned, all others stay. -/
theorem St.upd {H' : List (Nat × Obj)} {b : Nat} {o o' : Obj} (h : St w0 bs H M w) (hu : Upd H b o o' H') (k : Keep [b] w w') (hb : w'.heap[b]? = some o') : St w0 bs H' M w' where
  keep := by
    have hm := h.new _ hu.mem
    refine ⟨k.os.trans h.keep.os, k.tape.trans h.keep.tape, k.output.trans h.keep.output, Nat.le_trans h.keep.size k.size, fun i hi hn => ?_⟩
    rw [k.block i (Nat.lt_of_lt_of_le hi h.keep.size) (by simp only [List.mem_singleton]; rintro rfl; exact hm.elim (fun h1 => by simp at h1; omega) hn)]
    exact h.keep.block i hi hn
  own := by
    intro p hp
    rcases hu.new h.nodup p hp with rfl | ⟨hp, hne⟩
    · exact hb
    · have := h.own p hp
      rw [k.block p.1 (lt_of_get this) (by simpa using hne)]; exact this
  new := by
    intro p hp
    have : p.1 ∈ H'.map (·.1) := List.mem_map_of_mem hp
    rw [hu.names] at this
    obtain ⟨q, hq, e⟩ := List.mem_map.1 this
    rw [← e]; exact h.new q hq
  nodup := by rw [hu.names]; exact h.nodup
  laid := fun i o'' hm => by
    have := h.laid i o'' hm
    rw [k.block i (lt_of_get this) (by simpa using fun e => h.apart i o'' hm _ hu.mem e.symm)]; exact this
  apart := by
    intro i o'' hm p hp
    have : p.1 ∈ H'.map (·.1) := List.mem_map_of_mem hp
    rw [hu.names] at this
    obtain ⟨q, hq, e⟩ := List.mem_map.1 this
    rw [← e]; exact h.apart i o'' hm q hq
/-- What is owned may be forgotten. -/
theorem St.drop {H' : List (Nat × Obj)} (h : St w0 bs H M w) (hs : H'.Sublist H) : St w0 bs H' M w :=
  ⟨h.keep, fun p hp => h.own p (hs.subset hp), fun p hp => h.new p (hs.subset hp), h.nodup.sublist (hs.map _), h.laid, fun b o hm p hp => h.apart b o hm p (hs.subset hp)⟩
/-- What is owned may be laid for good. -/
def With (M : Ghost) (H : List (Nat × Obj)) : Ghost := fun b o => M b o ∨ (b, o) ∈ H
theorem St.publish {H1 H2 : List (Nat × Obj)} (h : St w0 bs (H1 ++ H2) M w) : St w0 bs H2 (With M H1) w where
  keep := h.keep
  own := fun p hp => h.own p (List.mem_append_right _ hp)
  new := fun p hp => h.new p (List.mem_append_right _ hp)
  nodup := by have := h.nodup; rw [List.map_append] at this; exact (List.nodup_append.1 this).2.1
  laid := fun b o hm => by
    rcases hm with hm | hm
    · exact h.laid b o hm
    · exact h.own (b, o) (List.mem_append_left _ hm)
  apart := by
    intro b o hm p hp
    rcases hm with hm | hm
    · exact h.apart b o hm p (List.mem_append_right _ hp)
    · have := h.nodup; rw [List.map_append] at this
      have := (List.nodup_append.1 this).2.2 b (List.mem_map_of_mem (f := (·.1)) hm) p.1 (List.mem_map_of_mem (f := (·.1)) hp)
      exact fun e => this e.symm
end

/-- A call that comes back with one value, whatever new memory it has laid. -/
def RetE (w : World) (v : Value) : Ending → World → Prop := fun e w' => e = .returned v ∧ Ext w w'
/-- A call that comes back with a value of which more is said: what it has laid for good, what of it is the caller's own now. -/
def RetS (M : Ghost) (w : World) (R : Ghost → List (Nat × Obj) → Value → Prop) : Ending → World → Prop := fun e w' => ∃ v H M', e = .returned v ∧ (∀ b o, M b o → M' b o) ∧ (∀ b o, M' b o → M b o ∨ w.heap.size ≤ b) ∧ St w [] H M' w' ∧ R M' H v

section
variable {P : Program} {n : Nat} {E : Env} {k : Kont} {ops : Array Oper} {rest : List Oper} {cg : Bool}
variable {dst : Option Tmp} {ty : TypeId} {pos : String} {af : Array Edge} {g : Option (Nat × Bool)}
variable {w0 : World} {bs : List Nat} {H : List (Nat × Obj)} {M : Ghost} {C : World → Prop}

/-! ### calls -/
theorem wl_op {o : Oper} (hg : gd ops E o.guard = some true) (h : ∀ a w, Holds n E a → C w → o.wp P a w (fun a' w' => wpList P ops (k.post P) rest a' w') (k.post P)) : WL P ops (o :: rest) n E C k := ⟨fun a w ha hw => by
  have hwa := wanted_gd (ops := ops) ha hg
  unfold wpList
  rw [if_pos hwa]
  exact .inl (h a w ha hw)⟩
theorem upon_call {C : World → Prop} {o : Oper} {a : Act} {w : World} {f : FuncId} {args : Array Value} {v : Value} (hr : (execOp a.eval o).run P w = .ok (.enter f args) w) (hc : Calls P f args w fun e w' => e = .returned v ∧ Ext w w' ∧ C w') : YAt P o a C w v := by
  unfold YAt
  rw [hr]
  exact ⟨rfl, hc⟩
theorem run_callf {f : FuncId} {l : List Operand} {ats : Array TypeId} {a : Act} {w : World} {args : Array Value} (hf : ∀ args w, (callFunc f args).run P w = .ok (.enter f args) w) (ha : l.map a.eval = args.toList) :
    (execOp a.eval ⟨dst, .call ⟨.value (.func f), l.toArray, ats⟩, ty, pos, af, g⟩).run P w = .ok (.enter f args) w := by
  have : (l.map a.eval).toArray = args := by rw [ha]
  simp [execOp, resolve, Act.eval, Deferred.ofValue, invoke, this, hf]
/-- A call of a function by its name, of one result. -/
theorem ov_call {f : FuncId} {l : List Operand} {ats : Array TypeId} {vs : List (Bool × Value)} {args : Array Value} {v : Value} (hf : ∀ args w, (callFunc f args).run P w = .ok (.enter f args) w) (hl : evg cg E l = some vs)
    (hp : cg = true → vs.all (·.1) = true) (hargs : vs.map (·.2) = args.toList) (hC : ∀ w w', C w → Ext w w' → C w') (hc : cg = true → ∀ w, C w → Calls P f args w (RetE w v)) :
    OpV P n E C ⟨dst, .call ⟨.value (.func f), l.toArray, ats⟩, ty, pos, af, g⟩ cg v := ⟨fun h a ha w hw => by
  refine upon_call (run_callf hf (args := args) ?_) ((hc h w hw).mono fun e w' he => ⟨he.1, he.2, hC w w' hw he.2⟩)
  rw [evg_eval ha hl (by simpa using hp h), hargs]⟩
theorem stE {w w' : World} (h : St w0 bs H M w) (k : Ext w w') : St w0 bs H M w' := h.ext k

/-- A call whose result is told by more than a value. -/
theorem wl_callS {f : FuncId} {l : List Operand} {ats : Array TypeId} {vs : List (Bool × Value)} {args : Array Value} {d : Nat} {R : Ghost → List (Nat × Obj) → Value → Prop}
    (hg : gd ops E g = some true) (hf : ∀ args w, (callFunc f args).run P w = .ok (.enter f args) w) (hl : evg true E l = some vs) (hp : vs.all (·.1) = true) (hargs : vs.map (·.2) = args.toList) (hd : Nat.blt d n = true)
    (hc : ∀ w, St w0 bs H M w → Calls P f args w (RetS M w R))
    (h : ∀ v Hn M', (∀ b o, M b o → M' b o) → (∀ b o, M' b o → M b o ∨ w0.heap.size ≤ b) → R M' Hn v → WL P ops rest n ((d, true, v) :: E) (St w0 bs (Hn ++ H) M') k) :
    WL P ops (⟨some d, .call ⟨.value (.func f), l.toArray, ats⟩, ty, pos, af, g⟩ :: rest) n E (St w0 bs H M) k := by
  have hd : d < n := by simpa [Nat.blt_eq] using hd
  refine wl_op hg fun a w ha hw => ?_
  unfold Oper.wp
  rw [run_callf hf (args := args) (by rw [evg_eval ha hl (by simpa using hp), hargs]), Oper.upon_enter]
  refine (hc w hw).mono ?_
  rintro e w' ⟨v, Hn, M', rfl, hm, hnew, hst, hR⟩
  refine ((h v Hn M' hm (fun b o h1 => (hnew b o h1).imp id (fun h2 => Nat.le_trans hw.keep.size h2)) hR).run _ w' (ha.put hd rfl) ?_)
  have hx : Ext w w' := hst.keep
  have hold := hw.ext hx
  have hlt : ∀ p ∈ H, p.1 < w.heap.size := fun p hp => lt_of_get (hw.own p hp)
  have hge : ∀ p ∈ Hn, w.heap.size ≤ p.1 := fun p hp => by have := hst.new p hp; simpa using this
  refine ⟨hold.keep, ?_, ?_, ?_, hst.laid, ?_⟩
  · intro p hp
    rcases List.mem_append.1 hp with hp | hp
    · exact hst.own p hp
    · exact hold.own p hp
  · intro p hp
    rcases List.mem_append.1 hp with hp | hp
    · exact .inl (Nat.le_trans hw.keep.size (hge p hp))
    · exact hold.new p hp
  · rw [List.map_append, List.nodup_append]
    refine ⟨hst.nodup, hold.nodup, ?_⟩
    intro x hx y hy e
    obtain ⟨p, hp, rfl⟩ := List.mem_map.1 hx
    obtain ⟨q, hq, rfl⟩ := List.mem_map.1 hy
    have := hge p hp; have := hlt q hq; omega
  · intro b o hm' p hp
    rcases List.mem_append.1 hp with hp | hp
    · exact hst.apart b o hm' p hp
    · rcases hnew b o hm' with h1 | h1
      · exact hold.apart b o h1 p hp
      · have := hlt p hp; omega

/-! ### memory -/
theorem run_newRow (w : World) (e : TypeId) (cells : Array Value) : (newRow e cells).run P w = .ok ⟨w.heap.size, 0, none⟩ { w with heap := w.heap.push (.cells cells e) } := by
  simp [newRow]
/-- 'var x T', 'new(T)' -/
theorem wl_alloc {T : TypeId} {z : Value} {d : Nat} {l : List Value} (hg : gd ops E g = some true) (hz : ∀ w, (zeroValue T).run P w = .ok z w) (hd : Nat.blt d n = true) (hl : z.cells.toList = l)
    (h : ∀ b, WL P ops rest n ((d, true, .pointer (some ⟨b, 0, none⟩)) :: E) (St w0 bs ((b, .cells l.toArray T (0, 0)) :: H) M) k) :
    WL P ops (⟨some d, .alloc T, ty, pos, af, g⟩ :: rest) n E (St w0 bs H M) k := by
  have hd : d < n := by simpa [Nat.blt_eq] using hd
  refine wl_op hg fun a w ha hw => ?_
  subst hl
  unfold Oper.wp
  have : (execOp a.eval ⟨some d, .alloc T, ty, pos, af, g⟩).run P w = .ok (.value (.pointer (some ⟨w.heap.size, 0, none⟩))) { w with heap := w.heap.push (.cells z.cells T (0, 0)) } := by
    simp [execOp, Instr.alloc, hz, newVar, run_newRow]
  rw [this, Oper.upon_value]
  exact (h _).run _ _ (ha.put hd rfl) (hw.alloc _)
theorem wl_box {T : TypeId} {x : Operand} {v : Value} {d : Nat} {l : List Value} (hg : gd ops E g = some true) (hx : ev E x = some (true, v)) (hd : Nat.blt d n = true) (hl : v.cells.toList = l)
    (h : ∀ b, WL P ops rest n ((d, true, .pointer (some ⟨b, 0, none⟩)) :: E) (St w0 bs ((b, .cells l.toArray T (0, 0)) :: H) M) k) :
    WL P ops (⟨some d, .box T x, ty, pos, af, g⟩ :: rest) n E (St w0 bs H M) k := by
  have hd : d < n := by simpa [Nat.blt_eq] using hd
  refine wl_op hg fun a w ha hw => ?_
  subst hl
  unfold Oper.wp
  have : (execOp a.eval ⟨some d, .box T x, ty, pos, af, g⟩).run P w = .ok (.value (.pointer (some ⟨w.heap.size, 0, none⟩))) { w with heap := w.heap.push (.cells v.cells T (0, 0)) } := by
    simp [execOp, ha.eval hx, Instr.box, newVar, run_newRow]
  rw [this, Oper.upon_value]
  exact (h _).run _ _ (ha.put hd rfl) (hw.alloc _)

theorem add_addr (b o m : Nat) : (Addr.mk b o none).add m = ⟨b, o + m, none⟩ := by
  unfold Addr.add; split <;> simp_all
variable {x y : Operand} {cx cy : Bool}
theorem ov_fieldAddr {T : TypeId} {fs : Array Field} {f : Field} {i m b o : Nat} (hx : ev E x = some (cx, .pointer (some ⟨b, o, none⟩))) (h1 : Imp cg cx) (ht : P.underlying T = some (.struct fs)) (hf : fs[i]? = some f) (hs : (P.info? f.type).map (·.size) = some (m + 1)) :
    OpV P n E C ⟨dst, .fieldAddr T x i, ty, pos, af, g⟩ cg (.pointer (some ⟨b, o + f.offset, none⟩)) :=
  ov_run fun h a ha w _ => by
    obtain ⟨j, hj, hj'⟩ := Option.map_eq_some_iff.1 hs
    simp [execOp, ha.evalc hx (h1 h), Instr.fieldAt, run_underlying ht, hf, Instr.sureAddr, fieldPlace, sizeOf, typeInfo, hj, hj', add_addr]

theorem isAgg_no {t : TypeId} {d : TypeDesc} {w : World} (h : P.underlying t = some d) (h' : (match d with | .struct _ | .array _ _ => true | _ => false) = false) : (isAgg t).run P w = .ok false w := by
  cases d <;> simp_all [isAgg, run_underlying h]
theorem isAgg_struct {t : TypeId} {fs : Array Field} {w : World} (h : P.underlying t = some (.struct fs)) : (isAgg t).run P w = .ok true w := by simp [isAgg, run_underlying h]
theorem isAgg_array {t e : TypeId} {m : Nat} {w : World} (h : P.underlying t = some (.array m e)) : (isAgg t).run P w = .ok true w := by simp [isAgg, run_underlying h]
theorem cell_of {w : World} {b o : Nat} {cs : Array Value} {T : TypeId} {fz : Nat × Nat} (h : w.heap[b]? = some (.cells cs T fz)) : w.cell? ⟨b, o, none⟩ = cs[o]? := by simp [World.cell?, h]
theorem run_loadCell {w : World} {b o : Nat} {cs : Array Value} {T : TypeId} {fz : Nat × Nat} {v : Value} (h : w.heap[b]? = some (.cells cs T fz)) (hv : cs[o]? = some v) : (load ⟨b, o, none⟩).run P w = .ok v w := by
  simp [load, Sem.run, cell_of h, hv]
theorem run_loadFrom {w : World} {b o : Nat} {cs : Array Value} {T : TypeId} {fz : Nat × Nat} (h : w.heap[b]? = some (.cells cs T fz)) : ∀ (l : List Value) (i : Nat) (acc : Array Value), (∀ j, j < l.length → cs[o + i + j]? = l[j]?) →
    (loadCellsFrom ⟨b, o, none⟩ i l.length acc).run P w = .ok (acc ++ l.toArray) w
  | [], i, acc, _ => by simp [loadCellsFrom]
  | v :: l, i, acc, hl => by
    have h0 : cs[o + i]? = some v := by simpa using hl 0 (by simp)
    have := run_loadFrom h l (i + 1) (acc.push v) (fun j hj => by have := hl (j + 1) (by simp; omega); simpa [Nat.add_assoc, Nat.add_comm 1 j] using this)
    simp only [List.length_cons, loadCellsFrom, Sem.run_bind, add_addr, run_loadCell h h0, Result.andThen_ok, this]
    simp
theorem run_loadCells {w : World} {b o : Nat} {cs : Array Value} {T : TypeId} {fz : Nat × Nat} (h : w.heap[b]? = some (.cells cs T fz)) (l : List Value) (hl : ∀ j, j < l.length → cs[o + j]? = l[j]?) :
    (loadCells ⟨b, o, none⟩ l.length).run P w = .ok l.toArray w := by
  have := run_loadFrom (P := P) h l 0 #[] (by simpa using hl)
  simpa [loadCells] using this
theorem run_sizeOf {t : TypeId} {m : Nat} {w : World} (h : (P.info? t).map (·.size) = some m) : (sizeOf t).run P w = .ok m w := by
  obtain ⟨j, hj, hj'⟩ := Option.map_eq_some_iff.1 h
  simp [sizeOf, typeInfo, hj, hj']

/-- a variable of one cell is read: of one's own -/
theorem lk0 {x : Value} {l : List Value} : (x :: l).toArray[0]? = some x := rfl
theorem lk1 {a0 x : Value} {l : List Value} : (a0 :: x :: l).toArray[1]? = some x := rfl
theorem lk2 {a0 a1 x : Value} {l : List Value} : (a0 :: a1 :: x :: l).toArray[2]? = some x := rfl
theorem lk3 {a0 a1 a2 x : Value} {l : List Value} : (a0 :: a1 :: a2 :: x :: l).toArray[3]? = some x := rfl
theorem lk4 {a0 a1 a2 a3 x : Value} {l : List Value} : (a0 :: a1 :: a2 :: a3 :: x :: l).toArray[4]? = some x := rfl
theorem lk5 {a0 a1 a2 a3 a4 x : Value} {l : List Value} : (a0 :: a1 :: a2 :: a3 :: a4 :: x :: l).toArray[5]? = some x := rfl
theorem lk6 {a0 a1 a2 a3 a4 a5 x : Value} {l : List Value} : (a0 :: a1 :: a2 :: a3 :: a4 :: a5 :: x :: l).toArray[6]? = some x := rfl
theorem lk7 {a0 a1 a2 a3 a4 a5 a6 x : Value} {l : List Value} : (a0 :: a1 :: a2 :: a3 :: a4 :: a5 :: a6 :: x :: l).toArray[7]? = some x := rfl
theorem lk8 {a0 a1 a2 a3 a4 a5 a6 a7 x : Value} {l : List Value} : (a0 :: a1 :: a2 :: a3 :: a4 :: a5 :: a6 :: a7 :: x :: l).toArray[8]? = some x := rfl
theorem lk9 {a0 a1 a2 a3 a4 a5 a6 a7 a8 x : Value} {l : List Value} : (a0 :: a1 :: a2 :: a3 :: a4 :: a5 :: a6 :: a7 :: a8 :: x :: l).toArray[9]? = some x := rfl
theorem lk10 {a0 a1 a2 a3 a4 a5 a6 a7 a8 a9 x : Value} {l : List Value} : (a0 :: a1 :: a2 :: a3 :: a4 :: a5 :: a6 :: a7 :: a8 :: a9 :: x :: l).toArray[10]? = some x := rfl
theorem lk11 {a0 a1 a2 a3 a4 a5 a6 a7 a8 a9 a10 x : Value} {l : List Value} : (a0 :: a1 :: a2 :: a3 :: a4 :: a5 :: a6 :: a7 :: a8 :: a9 :: a10 :: x :: l).toArray[11]? = some x := rfl
theorem ov_load1 {t : TypeId} {d : TypeDesc} {b o : Nat} {cs : Array Value} {T : TypeId} {fz : Nat × Nat} {v : Value} (hx : ev E x = some (cx, .pointer (some ⟨b, o, none⟩))) (h1 : Imp cg cx) (ht : P.underlying t = some d)
    (hd : (match d with | .struct _ | .array _ _ => true | _ => false) = false) (hm : (b, Obj.cells cs T fz) ∈ H) (hv : cs[o]? = some v) : OpV P n E (St w0 bs H M) ⟨dst, .load t x, ty, pos, af, g⟩ cg v :=
  ov_run fun h a ha w hw => by
    simp [execOp, ha.evalc hx (h1 h), Instr.loadAt, Instr.sureAddr, loadVar, isAgg_no ht hd, cell_of (hw.get hm), hv]
/-- a whole struct -/
theorem ov_loadS {t : TypeId} {fs : Array Field} {b : Nat} {l : List Value} {T : TypeId} {fz : Nat × Nat} (hx : ev E x = some (cx, .pointer (some ⟨b, 0, none⟩))) (h1 : Imp cg cx) (ht : P.underlying t = some (.struct fs))
    (hs : (P.info? t).map (·.size) = some l.length) (hm : (b, Obj.cells l.toArray T fz) ∈ H) : OpV P n E (St w0 bs H M) ⟨dst, .load t x, ty, pos, af, g⟩ cg (.agg l.toArray) :=
  ov_run fun h a ha w hw => by
    simp [execOp, ha.evalc hx (h1 h), Instr.loadAt, Instr.sureAddr, loadVar, isAgg_struct ht, run_sizeOf hs, run_loadCells (o := 0) (hw.get hm) l (by simp)]
/-- the same of what is laid -/
theorem ov_load1M {t : TypeId} {d : TypeDesc} {b o : Nat} {cs : Array Value} {T : TypeId} {fz : Nat × Nat} {v : Value} (hx : ev E x = some (cx, .pointer (some ⟨b, o, none⟩))) (h1 : Imp cg cx) (ht : P.underlying t = some d)
    (hd : (match d with | .struct _ | .array _ _ => true | _ => false) = false) (hm : cg = true → M b (Obj.cells cs T fz)) (hv : cg = true → cs[o]? = some v) : OpV P n E (St w0 bs H M) ⟨dst, .load t x, ty, pos, af, g⟩ cg v :=
  ov_run fun h a ha w hw => by
    simp [execOp, ha.evalc hx (h1 h), Instr.loadAt, Instr.sureAddr, loadVar, isAgg_no ht hd, cell_of (hw.laid _ _ (hm h)), hv h]
theorem ov_loadSM {t : TypeId} {fs : Array Field} {b o : Nat} {cs : Array Value} {l : List Value} {T : TypeId} {fz : Nat × Nat} (hx : ev E x = some (cx, .pointer (some ⟨b, o, none⟩))) (h1 : Imp cg cx) (ht : P.underlying t = some (.struct fs))
    (hs : (P.info? t).map (·.size) = some l.length) (hm : cg = true → M b (Obj.cells cs T fz)) (hv : cg = true → ∀ j, j < l.length → cs[o + j]? = l[j]?) : OpV P n E (St w0 bs H M) ⟨dst, .load t x, ty, pos, af, g⟩ cg (.agg l.toArray) :=
  ov_run fun h a ha w hw => by
    simp [execOp, ha.evalc hx (h1 h), Instr.loadAt, Instr.sureAddr, loadVar, isAgg_struct ht, run_sizeOf hs, run_loadCells (hw.laid _ _ (hm h)) l (hv h)]

/-- Cells of a block of one's own turned. -/
def setCells (cs : List Value) : Nat → List Value → List Value
  | _, [] => cs
  | o, v :: vs => setCells (cs.set o v) (o + 1) vs
def plainV : Value → Bool
  | .agg _ | .tuple _ => false
  | _ => true
theorem run_storeCell {w : World} {b o : Nat} {l : List Value} {T : TypeId} {v : Value} (h : w.heap[b]? = some (.cells l.toArray T (0, 0))) (ho : o < l.length) (hv : plainV v = true) :
    (store ⟨b, o, none⟩ v).run P w = .ok () (w.setCell ⟨b, o, none⟩ v) := by
  have hc : w.cell? ⟨b, o, none⟩ = some l[o] := by rw [cell_of h]; simp [ho]
  have hf : w.frozen? ⟨b, o, none⟩ = false := by simp [World.frozen?, h]
  cases v <;> simp [plainV] at hv <;> simp [store, Sem.run, hc, hf]
theorem setCell_keep {w : World} {b o : Nat} {v : Value} : Keep [b] w (w.setCell ⟨b, o, none⟩ v) :=
  ⟨rfl, rfl, rfl, by simp [World.setCell], fun i _ hi => by simp only [World.setCell, Array.getElem?_modify]; rw [if_neg (by simpa using fun e => hi (by simp [e]))]⟩
theorem setCell_get {w : World} {b o : Nat} {l : List Value} {T : TypeId} {v : Value} (h : w.heap[b]? = some (.cells l.toArray T (0, 0))) : (w.setCell ⟨b, o, none⟩ v).heap[b]? = some (.cells (l.set o v).toArray T (0, 0)) := by
  simp [World.setCell, Array.getElem?_modify, h]
theorem run_storeCells {b o : Nat} {T : TypeId} : ∀ (vs : List Value) (i : Nat) (l : List Value) (w : World), w.heap[b]? = some (.cells l.toArray T (0, 0)) → o + i + vs.length ≤ l.length → vs.all plainV = true →
    ∃ w', (storeCells ⟨b, o, none⟩ vs i).run P w = .ok () w' ∧ Keep [b] w w' ∧ w'.heap[b]? = some (.cells (setCells l (o + i) vs).toArray T (0, 0))
  | [], i, l, w, h, _, _ => ⟨w, by simp [storeCells], Keep.refl _ _, by simpa [setCells] using h⟩
  | v :: vs, i, l, w, h, hl, hp => by
    simp only [List.all_cons, Bool.and_eq_true] at hp
    simp only [List.length_cons] at hl
    have h1 := run_storeCell (P := P) (o := o + i) h (by omega) hp.1
    have h2 := setCell_get (o := o + i) (v := v) h
    obtain ⟨w', h3, h4, h5⟩ := run_storeCells (o := o) vs (i + 1) (l.set (o + i) v) (w.setCell ⟨b, o + i, none⟩ v) h2 (by simp; omega) hp.2
    exact ⟨w', by simp only [storeCells, Sem.run_bind, add_addr, h1, Result.andThen_ok, h3], setCell_keep.trans h4, by simpa [setCells, Nat.add_assoc] using h5⟩
/-- a store into a block of one's own -/
theorem wl_store {t : TypeId} {b o : Nat} {l : List Value} {T : TypeId} {v : Value} {H' : List (Nat × Obj)} (hg : gd ops E g = some true) (hx : ev E x = some (true, .pointer (some ⟨b, o, none⟩))) (hy : ev E y = some (true, v)) (hs : (P.info? t).map (·.size) = some v.cells.size)
    {l' : List Value} (hu : Upd H b (.cells l.toArray T (0, 0)) (.cells l'.toArray T (0, 0)) H') (hn : setCells l o v.cells.toList = l') (hl : Nat.ble (o + v.cells.size) l.length = true) (hp : v.cells.toList.all plainV = true)
    (h : WL P ops rest n E (St w0 bs H' M) k) : WL P ops (⟨none, .store t x y, ty, pos, af, g⟩ :: rest) n E (St w0 bs H M) k := by
  refine wl_op hg fun a w ha hw => ?_
  have hl : o + v.cells.size ≤ l.length := by simpa [Nat.ble_eq] using hl
  subst hn
  obtain ⟨w', h1, h2, h3⟩ := run_storeCells (P := P) v.cells.toList 0 l w (hw.get hu.mem) (by simpa using hl) hp
  unfold Oper.wp
  have : (execOp a.eval ⟨none, .store t x y, ty, pos, af, g⟩).run P w = .ok .skip w' := by
    simp [execOp, ha.eval hx, ha.eval hy, Instr.storeAt, Instr.sureAddr, storeVar, run_sizeOf hs, h1]
  rw [this, Oper.upon_skip]
  exact h.run _ _ (by simpa [Act.put] using ha) (hw.upd hu h2 (by simpa using h3))

/-! ### the function's own end -/
theorem wr_tmp {fn : Func} {t : Nat} {v v' : Value} (hr : fn.results = #[.tmp t]) (ht : look E t = some (true, v')) (hv : v' = v) : WR n E (St w0 [] H M) (bodyPost P fn (RetE w0 v)) := ⟨fun a w ha hw => by
  refine bodyPost_ret (v := v) ?_ ha.defers ⟨rfl, hw.keep⟩
  have := ha.reads t true v' ht
  rw [results_tmp hr]
  simp [this, hv]⟩
theorem wr_tmp2 {fn : Func} {t u : Nat} {v v' r r' : Value} (hr : fn.results = #[.tmp t, .tmp u]) (ht : look E t = some (true, v')) (hu : look E u = some (true, r')) (hv : v' = v) (hv2 : r' = r) : WR n E (St w0 [] H M) (bodyPost P fn (RetE w0 (.tuple #[v, r]))) := ⟨fun a w ha hw => by
  refine bodyPost_ret (v := .tuple #[v, r]) ?_ ha.defers ⟨rfl, hw.keep⟩
  have h1 := ha.reads t true v' ht
  have h2 := ha.reads u true r' hu
  rw [results_tmp2 hr]
  simp [h1, h2, hv, hv2]⟩

/-- A call is its body's walk. -/
theorem calls_ex {fn : Func} {f : FuncId} {c : Code} {l : List Value} {w : World} {R : Ending → World → Prop} (hf : P.funcs[f]? = some fn) (hb : fn.body = some c) {m : Nat} (hm : fn.ntmps = m) (hl : l.length ≤ m) {E0 : Env}
    (hE : ∀ i cc v, look E0 i = some (cc, v) → cc = true ∧ l[i]? = some v) (h : WC P c m E0 (fun w' => w' = w) (.fin (bodyPost P fn R))) : Calls P f l.toArray w R := by
  refine calls_of_wp hf hb (h.run _ _ ⟨rfl, by simp [hm]; omega, ?_⟩ rfl)
  intro i cc v hi
  obtain ⟨rfl, hv⟩ := hE i cc v hi
  obtain ⟨hlt, rfl⟩ := List.getElem?_eq_some_iff.1 hv
  simp [Array.getElem?_append, hlt]
/-- The same from the state in which a call begins. -/
theorem calls_st {fn : Func} {f : FuncId} {c : Code} {l : List Value} {w : World} {R : Ending → World → Prop} (hM : Laid M w) (hf : P.funcs[f]? = some fn) (hb : fn.body = some c) {m : Nat} (hm : fn.ntmps = m) (hl : Nat.ble l.length m = true) {E0 : Env}
    (hE : ∀ i cc v, look E0 i = some (cc, v) → cc = true ∧ l[i]? = some v) (h : WC P c m E0 (St w [] [] M) (.fin (bodyPost P fn R))) : Calls P f l.toArray w R :=
  calls_ex hf hb hm (Nat.le_of_ble_eq_true hl) hE ⟨fun a w' ha hw => by subst hw; exact h.run a w' ha (St.start hM)⟩
theorem params_nil (l : List Value) : ∀ i cc v, look [] i = some (cc, v) → cc = true ∧ l[i]? = some v := by intro i cc v h; simp [look] at h
theorem params_cons {l : List Value} {E0 : Env} {j : Nat} {u : Value} (h : l[j]? = some u) (hE : ∀ i cc v, look E0 i = some (cc, v) → cc = true ∧ l[i]? = some v) : ∀ i cc v, look ((j, true, u) :: E0) i = some (cc, v) → cc = true ∧ l[i]? = some v := by
  intro i cc v hi
  simp only [look] at hi
  by_cases e : j = i
  · subst e; simp at hi; obtain ⟨rfl, rfl⟩ := hi; exact ⟨rfl, h⟩
  · rw [beq_no e, cond_false] at hi; exact hE i cc v hi
end
end Go.Eng
