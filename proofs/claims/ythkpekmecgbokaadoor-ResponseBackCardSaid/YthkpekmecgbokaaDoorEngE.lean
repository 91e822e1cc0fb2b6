/-
  The engine: structs, slices, strings out of bytes, function values. Nothing of the program stands here.
-/
import Derived.Test.YthkpekmecgbokaaDoorEngD
namespace Go.Eng
open Go.RowKit
set_option linter.unusedVariables false
section
variable {P : Program} {n : Nat} {E : Env} {k : Kont} {ops : Array Oper} {rest : List Oper} {cg : Bool}
variable {dst : Option Tmp} {ty : TypeId} {pos : String} {af : Array Edge} {g : Option (Nat × Bool)}
variable {w0 : World} {bs : List Nat} {H : List (Nat × Obj)} {M : Ghost} {C : World → Prop}
variable {x y : Operand} {cx cy : Bool} {tx tyy : TypeId}

/-! ### structs by value -/
def evp (E : Env) : List (Nat × Operand) → Option (List (Nat × Value))
  | [] => some []
  | (i, x) :: l => match ev E x with
    | some (true, v) => (evp E l).map ((i, v) :: ·)
    | _ => none
theorem evp_eval {a : Act} (ha : Holds n E a) : ∀ {l : List (Nat × Operand)} {vs : List (Nat × Value)}, evp E l = some vs → l.map (fun p => (p.1, a.eval p.2)) = vs
  | [], vs, h => by simp [evp] at h; simp [h]
  | (i, x) :: l, vs, h => by
    simp only [evp] at h
    cases hx : ev E x with
    | none => simp [hx] at h
    | some cv =>
      obtain ⟨c, v⟩ := cv
      cases c with
      | false => simp [hx] at h
      | true =>
        simp only [hx] at h
        cases hl : evp E l with
        | none => simp [hl] at h
        | some us =>
          simp [hl] at h
          rw [← h, List.map_cons, evp_eval ha hl, ha.eval hx]
/-- the cells of a struct, some fields laid -/
def laidIn : List Value → List (Nat × Value) → List (Nat × Nat) → Option (List Value)
  | z, [], _ => some z
  | z, (i, v) :: ps, pl => match pl[i]? with
    | some (off, size) => if v.cells.size ≠ size || off + v.cells.size > z.length then none else laidIn (setCells z off v.cells.toList) ps pl
    | none => none
theorem foldl_set (vs : List Value) : ∀ (z : List Value) (off i : Nat), (vs.zipIdx i).foldl (fun cs (p : Value × Nat) => cs.setIfInBounds (off + p.2) p.1) z.toArray = (setCells z (off + i) vs).toArray := by
  induction vs with
  | nil => intro z off i; simp [setCells]
  | cons v vs ih => intro z off i; simp only [List.zipIdx_cons, List.foldl_cons, setCells, List.setIfInBounds_toArray]; rw [ih]; simp [Nat.add_assoc]
theorem length_setCells : ∀ (vs : List Value) (z : List Value) (o : Nat), (setCells z o vs).length = z.length
  | [], _, _ => rfl
  | v :: vs, z, o => by simp [setCells, length_setCells vs]
theorem fill_laid (pl : List (Nat × Nat)) : ∀ (ps : List (Nat × Value)) (z l : List Value), laidIn z ps pl = some l → Instr.fill (pl.toArray[·]?) z.toArray ps = some l.toArray
  | [], z, l, h => by simp [laidIn] at h; simp [Instr.fill, h]
  | (i, v) :: ps, z, l, h => by
    simp only [laidIn] at h
    cases hp : pl[i]? with
    | none => simp [hp] at h
    | some os =>
      obtain ⟨off, size⟩ := os
      simp only [hp] at h
      split at h
      · cases h
      · rename_i hc
        have : (v.cells.zipIdx.foldl (fun cs (p : Value × Nat) => cs.setIfInBounds (off + p.2) p.1) z.toArray) = (setCells z off v.cells.toList).toArray := by
          have := foldl_set v.cells.toList z off 0
          rw [Nat.add_zero] at this
          rw [← this, ← Array.foldl_toList]; simp
        simp only [Instr.fill, List.getElem?_toArray, hp]
        rw [if_neg (by simpa using hc)]
        rw [this]
        simpa using fill_laid pl ps _ l h
def zeroOf (P : Program) (t : TypeId) : Option (List Value) := ((P.info? t).bind (·.zero)).map (·.cells.toList)
def placesOf (P : Program) (t : TypeId) : Option (List (Nat × Nat)) := match P.underlying t with
  | some (.struct fs) => fs.toList.mapM (fun f => (P.info? f.type).map fun i => (f.offset, i.size))
  | _ => none
theorem built_of {t : TypeId} {parts : List (Nat × Value)} {z l : List Value} {pl : List (Nat × Nat)} (hz : zeroOf P t = some z) (hp : placesOf P t = some pl) (hl : laidIn z parts pl = some l) : P.built t parts = some l.toArray := by
  unfold zeroOf at hz
  unfold placesOf at hp
  obtain ⟨zv, hzv, rfl⟩ := Option.map_eq_some_iff.1 hz
  obtain ⟨it, hit, hzz⟩ := Option.bind_eq_some_iff.1 hzv
  unfold Program.built
  rw [hit]
  cases hu : P.underlying t with
  | none => rw [hu] at hp; cases hp
  | some d =>
    rw [hu] at hp
    cases d <;> simp only [] at hp <;> try (cases hp; done)
    case struct fs =>
      simp only [hzz, hp]
      have := fill_laid pl parts zv.cells.toList l hl
      simpa using this
theorem ov_build {t : TypeId} {ps : List (Nat × Operand)} {parts : List (Nat × Value)} {z l : List Value} {pl : List (Nat × Nat)} (hv : evp E ps = some parts) (hz : zeroOf P t = some z) (hp : placesOf P t = some pl) (hl : laidIn z parts pl = some l) :
    OpV P n E C ⟨dst, .build t ps.toArray, ty, pos, af, g⟩ cg (.agg l.toArray) :=
  ov_run fun h a ha w _ => by
    have hb := built_of hz hp hl
    have he := evp_eval ha hv
    have : (ps.toArray.map fun (i, x) => (i, a.eval x)).toList = parts := by simpa using he
    simp only [execOp, Sem.run_bind]
    rw [run_build (P := P) w t _ l.toArray (by rw [this]; exact hb)]
    rfl
/-- a field of one cell -/
theorem ov_field {t : TypeId} {fs : Array Field} {f : Field} {i : Nat} {cs : Array Value} {d : TypeDesc} {v : Value} (hx : ev E x = some (cx, .agg cs)) (h1 : Imp cg cx) (ht : P.underlying t = some (.struct fs)) (hf : fs[i]? = some f) (hd : P.underlying f.type = some d)
    (hd' : (match d with | .struct _ | .array _ _ => true | _ => false) = false) (hv : cs[f.offset]? = some v) : OpV P n E C ⟨dst, .field t x i, ty, pos, af, g⟩ cg v :=
  ov_run fun h a ha w _ => by
    simp [execOp, ha.evalc hx (h1 h), Instr.field, run_underlying ht, hf, asAgg, part, isAgg_no hd (by cases d <;> simp_all), hv]

/-! ### two structs compared -/
theorem eqF_nil {d : Nat} {xs ys : Array Value} {w : World} : (Op.eqFields d xs ys []).run P w = .ok true w := by simp [Op.eqFields]
theorem part_one {t : TypeId} {d : TypeDesc} {cs : Array Value} {off : Nat} {v : Value} {w : World} (hd : P.underlying t = some d) (hd' : (match d with | .struct _ | .array _ _ => true | _ => false) = false) (hv : cs[off]? = some v) : (part t cs off).run P w = .ok v w := by
  simp [part, isAgg_no hd (by cases d <;> simp_all), hv]
theorem eqF_cons {d : Nat} {xs ys : Array Value} {f : Field} {fs : List Field} {u v : Value} {b r : Bool} {w : World} (hn : (f.name == "_") = false) (hu : (part f.type xs f.offset).run P w = .ok u w) (hv : (part f.type ys f.offset).run P w = .ok v w)
    (he : (Op.equalIn d f.type u v).run P w = .ok b w) (hr : (Op.eqFields d xs ys fs).run P w = .ok r w) : (Op.eqFields d xs ys (f :: fs)).run P w = .ok (b && r) w := by
  have hn : f.name ≠ "_" := by simpa using hn
  cases b <;> simp [Op.eqFields, hn, hu, hv, he, hr]
theorem eqF_str {d : Nat} {xs ys : Array Value} {f : Field} {fs : List Field} {u v : List UInt8} {r : Bool} {w : World} (hn : (f.name == "_") = false) (ht : P.underlying f.type = some .string) (hu : xs[f.offset]? = some (str u)) (hv : ys[f.offset]? = some (str v))
    (hr : (Op.eqFields (d + 1) xs ys fs).run P w = .ok r w) : (Op.eqFields (d + 1) xs ys (f :: fs)).run P w = .ok (decide (u = v) && r) w :=
  eqF_cons hn (part_one ht rfl hu) (part_one ht rfl hv) (by rw [run_equalIn_string w d _ _ _ ht]; simp [beq_dec]) hr
theorem eqF_int {d : Nat} {xs ys : Array Value} {f : Field} {fs : List Field} {k1 k3 : IntKind} {u v : Int} {r : Bool} {w : World} (hn : (f.name == "_") = false) (ht : P.underlying f.type = some (.int k3)) (hu : xs[f.offset]? = some (.int k1 u)) (hv : ys[f.offset]? = some (.int k1 v))
    (hr : (Op.eqFields (d + 1) xs ys fs).run P w = .ok r w) : (Op.eqFields (d + 1) xs ys (f :: fs)).run P w = .ok (decide (u = v) && r) w :=
  eqF_cons hn (part_one ht rfl hu) (part_one ht rfl hv) (by rw [run_equalIn_int w d _ k1 k3 _ _ ht]; simp [beq_dec]) hr
theorem eqF_bool {d : Nat} {xs ys : Array Value} {f : Field} {fs : List Field} {u v : Bool} {r : Bool} {w : World} (hn : (f.name == "_") = false) (ht : P.underlying f.type = some .bool) (hu : xs[f.offset]? = some (.bool u)) (hv : ys[f.offset]? = some (.bool v))
    (hr : (Op.eqFields (d + 1) xs ys fs).run P w = .ok r w) : (Op.eqFields (d + 1) xs ys (f :: fs)).run P w = .ok (decide (u = v) && r) w :=
  eqF_cons hn (part_one ht rfl hu) (part_one ht rfl hv) (by rw [run_equalIn_bool' w d _ _ _ ht]; simp [beq_dec]) hr
/-- the comparison of structs, field by field -/
structure EqF (P : Program) (d : Nat) (xs ys : Array Value) (fs : List Field) (r : Bool) : Prop where
  run : ∀ w, (Op.eqFields d xs ys fs).run P w = .ok r w
theorem eqG_nil {d : Nat} {xs ys : Array Value} : EqF P d xs ys [] true := ⟨fun _ => eqF_nil⟩
theorem eqG_str {d : Nat} {xs ys : Array Value} {f : Field} {fs : List Field} {u v : List UInt8} {r : Bool} (hn : (f.name == "_") = false) (ht : P.underlying f.type = some .string) (hu : xs[f.offset]? = some (str u)) (hv : ys[f.offset]? = some (str v))
    (hr : EqF P (d + 1) xs ys fs r) : EqF P (d + 1) xs ys (f :: fs) (decide (u = v) && r) := ⟨fun w => eqF_str hn ht hu hv (hr.run w)⟩
theorem eqG_int {d : Nat} {xs ys : Array Value} {f : Field} {fs : List Field} {k1 k3 : IntKind} {u v : Int} {r : Bool} (hn : (f.name == "_") = false) (ht : P.underlying f.type = some (.int k3)) (hu : xs[f.offset]? = some (.int k1 u)) (hv : ys[f.offset]? = some (.int k1 v))
    (hr : EqF P (d + 1) xs ys fs r) : EqF P (d + 1) xs ys (f :: fs) (decide (u = v) && r) := ⟨fun w => eqF_int hn ht hu hv (hr.run w)⟩
theorem eqG_bool {d : Nat} {xs ys : Array Value} {f : Field} {fs : List Field} {u v : Bool} {r : Bool} (hn : (f.name == "_") = false) (ht : P.underlying f.type = some .bool) (hu : xs[f.offset]? = some (.bool u)) (hv : ys[f.offset]? = some (.bool v))
    (hr : EqF P (d + 1) xs ys fs r) : EqF P (d + 1) xs ys (f :: fs) (decide (u = v) && r) := ⟨fun w => eqF_bool hn ht hu hv (hr.run w)⟩
theorem ov_aeql {xs ys : Array Value} {fs : Array Field} {r : Bool} (hx : ev E x = some (cx, .agg xs)) (hy : ev E y = some (cy, .agg ys)) (h1 : Imp cg cx) (h2 : Imp cg cy) (hm : P.eqGuardType P.depth tx = false) (ht : P.underlying tx = some (.struct fs)) (hst : P.stoodInHeld tx = false)
    (hr : EqF P 9999 xs ys fs.toList r) : OpV P n E C ⟨dst, .binOp .eql tx x y tyy, ty, pos, af, g⟩ cg (.bool r) :=
  ov_run fun h a ha w _ => by
    have hf : P.fieldsOf tx = fs := by simp [Program.fieldsOf, ht]
    refine run_bin (ha.evalc hx (h1 h)) (ha.evalc hy (h2 h)) (run_eqGuard_agg w .eql tx x y xs ys hm) ?_
    rw [run_eql_struct, run_equalIn_agg w 9999 tx xs ys (by rw [hf]; exact ht) hst, hf, hr.run w]
    rfl
theorem ov_aneq {xs ys : Array Value} {fs : Array Field} {r : Bool} (hx : ev E x = some (cx, .agg xs)) (hy : ev E y = some (cy, .agg ys)) (h1 : Imp cg cx) (h2 : Imp cg cy) (hm : P.eqGuardType P.depth tx = false) (ht : P.underlying tx = some (.struct fs)) (hst : P.stoodInHeld tx = false)
    (hr : EqF P 9999 xs ys fs.toList r) : OpV P n E C ⟨dst, .binOp .neq tx x y tyy, ty, pos, af, g⟩ cg (.bool (!r)) :=
  ov_run fun h a ha w _ => by
    have hf : P.fieldsOf tx = fs := by simp [Program.fieldsOf, ht]
    refine run_bin (ha.evalc hx (h1 h)) (ha.evalc hy (h2 h)) (run_eqGuard_agg w .neq tx x y xs ys hm) ?_
    rw [run_neq_struct, run_equalIn_agg w 9999 tx xs ys (by rw [hf]; exact ht) hst, hf, hr.run w]
    rfl

/-! ### a slice's literal; a string out of bytes -/
/-- the cells of a slice's literal, all its elements told -/
def cellsAll (m : Nat) : List (Nat × Value) → Nat → Option (List Value)
  | [], _ => some []
  | (i, v) :: ps, j => if i = j ∧ v.cells.size = m then (cellsAll m ps (j + 1)).map (v.cells.toList ++ ·) else none
theorem set_past (l1 : List Value) : ∀ (vs l2 : List Value), vs.length ≤ l2.length → setCells (l1 ++ l2) l1.length vs = l1 ++ vs ++ l2.drop vs.length
  | [], l2, _ => by simp [setCells]
  | v :: vs, [], h => by simp at h
  | v :: vs, u :: l2, h => by
    simp only [List.length_cons] at h
    have h1 : (l1 ++ u :: l2).set l1.length v = (l1 ++ [v]) ++ l2 := by
      rw [List.set_append_right _ _ (Nat.le_refl _)]; simp
    have h2 := set_past (l1 ++ [v]) vs l2 (by omega)
    simp only [setCells, h1]
    rw [show l1.length + 1 = (l1 ++ [v]).length from by simp, h2]
    simp
theorem fill_all (m : Nat) : ∀ (ps : List (Nat × Value)) (j : Nat) (l1 l2 l : List Value), cellsAll m ps j = some l → l1.length = j * m → l2.length = ps.length * m → Instr.fill (fun i => some (i * m, m)) (l1 ++ l2).toArray ps = some (l1 ++ l).toArray
  | [], j, l1, l2, l, h, _, h2 => by
    simp [cellsAll] at h
    have : l2 = [] := List.eq_nil_of_length_eq_zero (by simpa using h2)
    simp [Instr.fill, ← h, this]
  | (i, v) :: ps, j, l1, l2, l, h, h1, h2 => by
    simp only [cellsAll] at h
    split at h
    · rename_i hc
      obtain ⟨rfl, hm⟩ := hc
      obtain ⟨l', hl', rfl⟩ := Option.map_eq_some_iff.1 h
      have hlen : (v.cells.toList).length = m := by simpa using hm
      simp only [List.length_cons, Nat.add_mul, Nat.one_mul] at h2
      have hset : (v.cells.zipIdx.foldl (fun cs (p : Value × Nat) => cs.setIfInBounds (i * m + p.2) p.1) (l1 ++ l2).toArray) = (l1 ++ v.cells.toList ++ l2.drop m).toArray := by
        have := foldl_set v.cells.toList (l1 ++ l2) (i * m) 0
        rw [Nat.add_zero, ← h1, set_past l1 v.cells.toList l2 (by omega), hlen] at this
        rw [← this, ← Array.foldl_toList]; simp [h1]
      have hc2 : ¬ ((decide (v.cells.size ≠ m) || decide (i * m + v.cells.size > (l1 ++ l2).toArray.size)) = true) := by
        simp; omega
      simp only [Instr.fill]
      rw [if_neg (by simpa using hc2), hset]
      have := fill_all m ps (i + 1) (l1 ++ v.cells.toList) (l2.drop m) l' hl' (by simp [Nat.add_mul]; omega) (by simp; omega)
      rw [this]; simp
    · cases h
theorem run_buildSlice {t e : TypeId} {m len : Nat} {z : Value} {parts : List (Nat × Value)} {l : List Value} (ht : P.underlying t = some (.slice e)) (hs : (P.info? e).map (·.size) = some m) (hz : ∀ w, (zeroValue e).run P w = .ok z w) (hzc : z.cells.size = m)
    (hlen : len = parts.length) (hlim : len * m ≤ 2 ^ 24) (hl : cellsAll m parts 0 = some l) (w : World) :
    (Instr.buildSlice t len parts.toArray).run P w = .ok (.slice (some ⟨w.heap.size, 0, none⟩) len len) { w with heap := w.heap.push (.cells l.toArray e (0, 0)) } := by
  subst hlen
  have hf : ∀ zc : Array Value, Instr.fill (fun i => some (i * m, m)) ((Array.range (parts.length * m)).map (zc[· % zc.size]!)) parts = some l.toArray := fun zc => by
    have := fill_all m parts 0 [] ((Array.range (parts.length * m)).map (zc[· % zc.size]!)).toList l hl (by simp) (by simp)
    rw [List.nil_append, List.nil_append] at this
    rw [← this]
  unfold Instr.buildSlice
  simp only [Sem.run_bind, run_underlying ht, Result.andThen_ok, run_sizeOf hs]
  rw [if_neg (by omega)]
  by_cases h0 : parts.length * m = 0
  · simp only [Sem.run_bind, h0, if_true, Sem.run_pure, Result.andThen_ok]
    rw [show (Array.map (fun x => (#[] : Array Value)[x % (#[] : Array Value).size]!) (Array.range 0)) = (Array.range (parts.length * m)).map ((#[] : Array Value)[· % (#[] : Array Value).size]!) from by rw [h0]]
    simp only [hf, Sem.run_bind, run_newRow, Result.andThen_ok, Sem.run_pure]
  · simp only [Sem.run_bind, h0, if_false, hz, Sem.run_pure, Result.andThen_ok, hf, run_newRow]
theorem wl_buildSlice {t e : TypeId} {m len d : Nat} {z : Value} {ps : List (Nat × Operand)} {parts : List (Nat × Value)} {l : List Value} (hg : gd ops E g = some true) (hv : evp E ps = some parts) (ht : P.underlying t = some (.slice e)) (hs : (P.info? e).map (·.size) = some m) (hz : ∀ w, (zeroValue e).run P w = .ok z w) (hzc : z.cells.size = m)
    (hlen : len = parts.length) (hlim : Nat.ble (len * m) 16777216 = true) (hl : cellsAll m parts 0 = some l) (hd : Nat.blt d n = true)
    (h : ∀ b, WL P ops rest n ((d, true, .slice (some ⟨b, 0, none⟩) len len) :: E) (St w0 bs ((b, .cells l.toArray e (0, 0)) :: H) M) k) :
    WL P ops (⟨some d, .buildSlice t len ps.toArray, ty, pos, af, g⟩ :: rest) n E (St w0 bs H M) k := by
  have hd : d < n := by simpa [Nat.blt_eq] using hd
  refine wl_op hg fun a w ha hw => ?_
  unfold Oper.wp
  have he : (ps.toArray.map fun (i, x) => (i, a.eval x)) = parts.toArray := by have := evp_eval ha hv; simp [← this]
  have : (execOp a.eval ⟨some d, .buildSlice t len ps.toArray, ty, pos, af, g⟩).run P w = .ok (.value (.slice (some ⟨w.heap.size, 0, none⟩) len len)) { w with heap := w.heap.push (.cells l.toArray e (0, 0)) } := by
    simp only [execOp, Sem.run_bind, he]
    rw [run_buildSlice ht hs hz hzc hlen (by simpa using Nat.le_of_ble_eq_true hlim) hl w]
    rfl
  rw [this, Oper.upon_value]
  exact (h _).run _ _ (ha.put hd rfl) (hw.alloc _)
/-- The same inside a region that draws. -/
def Fresh (w0 : World) (bs : List Nat) (H : List (Nat × Obj)) (M : Ghost) (len : Nat) (o : Obj) : Tell := fun v w => ∃ b, v = .slice (some ⟨b, 0, none⟩) len len ∧ St w0 bs ((b, o) :: H) M w
theorem steady_fresh {len : Nat} {o : Obj} : Steady (Fresh w0 bs H M len o) := fun _ _ _ hx ⟨b, h1, h2⟩ => ⟨b, h1, h2.ext hx⟩
theorem or_buildSlice {t e : TypeId} {m len : Nat} {z : Value} {ps : List (Nat × Operand)} {parts : List (Nat × Value)} {l : List Value} (hv : evp E ps = some parts) (ht : P.underlying t = some (.slice e)) (hs : (P.info? e).map (·.size) = some m) (hz : ∀ w, (zeroValue e).run P w = .ok z w) (hzc : z.cells.size = m)
    (hlen : len = parts.length) (hlim : Nat.ble (len * m) 16777216 = true) (hl : cellsAll m parts 0 = some l) : OpR P n E (St w0 bs H M) (fun _ => True) ⟨dst, .buildSlice t len ps.toArray, ty, pos, af, none⟩ (Fresh w0 bs H M len (.cells l.toArray e (0, 0))) := ⟨fun a ha w hw _ => by
  have he : (ps.toArray.map fun (i, x) => (i, a.eval x)) = parts.toArray := by have := evp_eval ha hv; simp [← this]
  have hr : (execOp a.eval ⟨dst, .buildSlice t len ps.toArray, ty, pos, af, none⟩).run P w = .ok (.value (.slice (some ⟨w.heap.size, 0, none⟩) len len)) { w with heap := w.heap.push (.cells l.toArray e (0, 0)) } := by
    simp only [execOp, Sem.run_bind, he]
    rw [run_buildSlice ht hs hz hzc hlen (by simpa using Nat.le_of_ble_eq_true hlim) hl w]
    rfl
  unfold Tells
  rw [hr]
  have h2 := hw.alloc (.cells l.toArray e (0, 0))
  exact ⟨⟨_, rfl, h2⟩, ⟨rfl, rfl, rfl, by simp, fun b hb _ => by simp only [Array.getElem?_push]; rw [if_neg (by omega)]⟩, h2.drop (List.sublist_cons_self _ _)⟩⟩

def bytesOf : List Value → Option (List UInt8)
  | [] => some []
  | .int .u8 z :: l => (bytesOf l).map (UInt8.ofNat z.toNat :: ·)
  | _ => none
theorem bytesOf_eq : ∀ {vs : List Value} {l : List UInt8}, bytesOf vs = some l → ∃ ns : List Int, vs = ns.map (Value.int .u8) ∧ l = ns.map (fun z => UInt8.ofNat z.toNat)
  | [], l, h => by simp [bytesOf] at h; exact ⟨[], rfl, h⟩
  | v :: vs, l, h => by
    cases v <;> try (simp [bytesOf] at h; done)
    case int kd z =>
      cases kd <;> try (simp [bytesOf] at h; done)
      case u8 =>
        simp only [bytesOf] at h
        obtain ⟨l', hl', rfl⟩ := Option.map_eq_some_iff.1 h
        obtain ⟨ns, rfl, rfl⟩ := bytesOf_eq hl'
        exact ⟨z :: ns, rfl, rfl⟩
theorem foldl_push (ns : List Int) : ∀ (s : List UInt8), ns.foldl (fun (r : ByteArray) z => r.push (UInt8.ofNat z.toNat)) ⟨s.toArray⟩ = ⟨(s ++ ns.map (fun z => UInt8.ofNat z.toNat)).toArray⟩ := by
  induction ns with
  | nil => intro s; simp
  | cons z ns ih =>
    intro s
    have : (ByteArray.push ⟨s.toArray⟩ (UInt8.ofNat z.toNat)) = ⟨(s ++ [UInt8.ofNat z.toNat]).toArray⟩ := by apply ByteArray.ext; simp
    simp only [List.foldl_cons]; rw [this, ih]; simp
theorem run_convBytes {src dst' e : TypeId} {b o cap : Nat} {cs : Array Value} {T : TypeId} {fz : Nat × Nat} {vs : List Value} {l : List UInt8} {w : World} (hs : P.underlying src = some (.slice e)) (he : P.underlying e = some (.int .u8)) (hd : P.underlying dst' = some .string)
    (hb : w.heap[b]? = some (.cells cs T fz)) (hvs : ∀ j, j < vs.length → cs[o + j]? = vs[j]?) (hl : bytesOf vs = some l) : (convert src dst' (.slice (some ⟨b, o, none⟩) vs.length cap)).run P w = .ok (str l) w := by
  obtain ⟨ns, rfl, rfl⟩ := bytesOf_eq hl
  have h1 := run_loadCells (P := P) hb (ns.map (Value.int .u8)) hvs
  rw [run_convert_bytes_string w src dst' e _ _ _ hs he hd, run_bytesToString w _ _ _ ns h1]
  have := foldl_push ns []
  simp only [List.nil_append] at this
  exact congrArg (fun q => Result.ok (Value.string q) w) this
/-- a string out of bytes of one's own -/
theorem ov_convBytes {src dst' e : TypeId} {b cap : Nat} {T : TypeId} {fz : Nat × Nat} {vs : List Value} {l : List UInt8} (hx : ev E x = some (cx, .slice (some ⟨b, 0, none⟩) vs.length cap)) (h1 : Imp cg cx) (hs : P.underlying src = some (.slice e)) (he : P.underlying e = some (.int .u8)) (hd : P.underlying dst' = some .string)
    (hm : (b, Obj.cells vs.toArray T fz) ∈ H) (hl : bytesOf vs = some l) : OpV P n E (St w0 bs H M) ⟨dst, .convert src dst' x, ty, pos, af, g⟩ cg (str l) :=
  ov_run fun h a ha w hw => by
    simp only [execOp, ha.evalc hx (h1 h), Sem.run_bind]
    rw [run_convBytes (o := 0) hs he hd (hw.get hm) (by simp) hl]; rfl
theorem or_convBytes {src dst' e : TypeId} {s len : Nat} {T : TypeId} {vs : List Value} {l : List UInt8} (hs : P.underlying src = some (.slice e)) (he : P.underlying e = some (.int .u8)) (hd : P.underlying dst' = some .string) (hlen : len = vs.length) (hl : bytesOf vs = some l) (u : Value) :
    OpR P n ((s, true, u) :: E) (St w0 bs H M) (Fresh w0 bs H M len (.cells vs.toArray T (0, 0)) u) ⟨dst, .convert src dst' (.tmp s), ty, pos, af, none⟩ (exact1 true (str l)) := ⟨fun a ha w hw ⟨b, hu, hst⟩ => by
  subst hlen; subst hu
  have hx : a.eval (.tmp s) = .slice (some ⟨b, 0, none⟩) vs.length vs.length := ha.eval (by simp [ev, look])
  have hr : (execOp a.eval ⟨dst, .convert src dst' (.tmp s), ty, pos, af, none⟩).run P w = .ok (.value (str l)) w := by
    simp only [execOp, hx, Sem.run_bind]
    rw [run_convBytes (o := 0) hs he hd (hst.get List.mem_cons_self) (by simp) hl]; rfl
  unfold Tells
  rw [hr]
  exact ⟨rfl, Keep.refl _ _, hw⟩⟩
theorem wd_conv {d s src dst' e len : Nat} {T : TypeId} {vs : List Value} {l : List UInt8} {tail : List Oper} {F : REnv} (hU : lookR F s = some (Fresh w0 bs H M len (.cells vs.toArray T (0, 0)))) (hs : P.underlying src = some (.slice e)) (he : P.underlying e = some (.int .u8)) (hd : P.underlying dst' = some .string) (hlen : len = vs.length) (hl : bytesOf vs = some l)
    (hdn : Nat.blt d n = true) (hsn : Nat.blt s n = true) (hb : belowN n E = true) (hF : lookR F d = none) (h : WD P ops rest n ((d, true, str l) :: E) F (St w0 bs H M) tail k) : WD P ops (⟨some d, .convert src dst' (.tmp s), ty, pos, af, none⟩ :: rest) n E F (St w0 bs H M) tail k :=
  wd_rel (s := s) rfl rfl hdn hsn hb rfl hF hU (fun u => or_convBytes hs he hd hlen hl u) (by simp [Oper.looksAt, Op.operands]) h
/-- a nil slice of bytes -/
theorem ov_convNil {src dst' e : TypeId} {l c : Nat} (hx : ev E x = some (cx, .slice none l c)) (h1 : Imp cg cx) (hs : P.underlying src = some (.slice e)) (he : P.underlying e = some (.int .u8)) (hd : P.underlying dst' = some .string) :
    OpV P n E C ⟨dst, .convert src dst' x, ty, pos, af, g⟩ cg (str []) :=
  ov_run fun h a ha w hw => by
    simp [execOp, ha.evalc hx (h1 h), convert, run_underlying hs, run_underlying he, run_underlying hd, Conv.bytesToString]; rfl

/-! ### slices -/
theorem ov_len {t e : TypeId} {a0 : Option Addr} {len cap : Nat} (hx : ev E x = some (cx, .slice a0 len cap)) (h1 : Imp cg cx) (ht : P.underlying t = some (.slice e)) :
    OpV P n E C ⟨dst, .call ⟨.builtin .len, #[x], #[t]⟩, ty, pos, af, g⟩ cg (i64 (len : Int)) :=
  ov_run fun h a ha w _ => by
    have := ha.evalc hx (h1 h)
    simp [execOp, resolve, invoke, builtin, this, Builtin.len_, run_underlying ht, goInt]
theorem ov_indexAddr {t e : TypeId} {a0 : Option Addr} {len cap i m b o : Nat} {k1 : IntKind} {z : Int} (hx : ev E x = some (cx, .slice a0 len cap)) (hy : ev E y = some (cy, .int k1 z)) (hi : z = (i : Int)) (h1 : Imp cg cx) (h2 : Imp cg cy) (ht : P.underlying t = some (.slice e)) (hs : (P.info? e).map (·.size) = some m)
    (ha0 : cg = true → a0 = some ⟨b, o, none⟩) (hf : cg = true → i < len) : OpV P n E C ⟨dst, .indexAddr t x y, ty, pos, af, g⟩ cg (.pointer (some ⟨b, o + i * m, none⟩)) :=
  ov_run fun h a ha w _ => by
    have := hf h
    have := ha0 h
    subst hi; subst this
    have h3 : (0 : Int) ≤ (i : Int) ∧ (i : Int) < (len : Int) := by omega
    simp only [execOp, ha.evalc hx (h1 h), ha.evalc hy (h2 h), Sem.run_bind, Instr.indexAt, asIntOf, Sem.run_pure, Result.andThen_ok, run_underlying ht]
    rw [if_pos h3]
    simp [run_sizeOf hs, add_addr]
/-- an array's own element, at a place that is known to lie in it -/
theorem ov_indexAddrA {t e : TypeId} {len i m b o : Nat} {k1 : IntKind} {z : Int} (hx : ev E x = some (cx, .pointer (some ⟨b, o, none⟩))) (hy : ev E y = some (cy, .int k1 z)) (hi : z = (i : Int)) (h1 : Imp cg cx) (h2 : Imp cg cy) (ht : P.underlying t = some (.array len e)) (hs : (P.info? e).map (·.size) = some m)
    (hf : cg = true → i < len) : OpV P n E C ⟨dst, .indexAddr t x y, ty, pos, af, g⟩ cg (.pointer (some ⟨b, o + i * m, none⟩)) :=
  ov_run fun h a ha w _ => by
    have := hf h
    subst hi
    have h3 : (0 : Int) ≤ (i : Int) ∧ (i : Int) < (len : Int) := by omega
    simp only [execOp, ha.evalc hx (h1 h), ha.evalc hy (h2 h), Sem.run_bind, Instr.indexAt, asIntOf, Sem.run_pure, Result.andThen_ok, run_underlying ht, Instr.sureAddr]
    rw [if_pos h3]
    simp [run_sizeOf hs, add_addr]

/-- What a slice holds: a row of cells that is laid, m cells an element. -/
def Sl (M : Ghost) {α : Type} (m : Nat) (R : α → List Value → Prop) (v : Value) (l : List α) : Prop :=
  ∃ a cap, v = .slice a l.length cap ∧ l.length ≤ cap ∧ l.length ≤ 9223372036854775807 ∧ (l ≠ [] → ∃ b o cs T fz, a = some ⟨b, o, none⟩ ∧ M b (.cells cs T fz) ∧ ∀ i (h : i < l.length), ∃ vs, vs.length = m ∧ R l[i] vs ∧ ∀ j, j < m → cs[o + i * m + j]? = vs[j]?)
theorem Sl.mono {M M' : Ghost} {α : Type} {m : Nat} {R R' : α → List Value → Prop} {v : Value} {l : List α} (h : Sl M m R v l) (hM : ∀ b o, M b o → M' b o) (hR : ∀ x vs, x ∈ l → R x vs → R' x vs) : Sl M' m R' v l := by
  obtain ⟨a, cap, h1, h2, h3, h4⟩ := h
  refine ⟨a, cap, h1, h2, h3, fun hne => ?_⟩
  obtain ⟨b, o, cs, T, fz, h5, h6, h7⟩ := h4 hne
  refine ⟨b, o, cs, T, fz, h5, hM _ _ h6, fun i hi => ?_⟩
  obtain ⟨vs, h8, h9, h10⟩ := h7 i hi
  exact ⟨vs, h8, hR _ _ (List.getElem_mem hi) h9, h10⟩
theorem sl_nil {M : Ghost} {α : Type} {m : Nat} {R : α → List Value → Prop} : Sl M m R (.slice none 0 0) ([] : List α) := ⟨none, 0, rfl, by simp, by simp, fun h => absurd rfl h⟩

/-! ### append -/
/-- A slice that the call owns and may append to. -/
def OwnS (e : TypeId) (m : Nat) (v : Value) (Hs : List (Nat × Obj)) (xs : List Value) : Prop :=
  (v = .slice none 0 0 ∧ Hs = [] ∧ xs = []) ∨
  ∃ b len cap cur, v = .slice (some ⟨b, 0, none⟩) len cap ∧ Hs = [(b, .cells cur e (0, 0))] ∧ xs.length = len * m ∧ len ≤ cap ∧ cap ≤ maxLen ∧ cur.size = cap * m ∧ cur.toList.take (len * m) = xs
theorem OwnS.nil {e : TypeId} {m : Nat} : OwnS e m (.slice none 0 0) [] [] := .inl ⟨rfl, rfl, rfl⟩
theorem OwnS.lit {e : TypeId} {m len b : Nat} {l : List Value} (h : l.length = len * m) (hm : len ≤ maxLen) : OwnS e m (.slice (some ⟨b, 0, none⟩) len len) [(b, .cells l.toArray e (0, 0))] l :=
  .inr ⟨b, len, len, l.toArray, rfl, rfl, h, Nat.le_refl _, hm, by simpa using h, by rw [List.take_of_length_le (by simp; omega)]⟩
/-- .. what it reads as when it is laid for good. -/
theorem OwnS.sl {e : TypeId} {m : Nat} {v : Value} {Hs : List (Nat × Obj)} {xs : List Value} {M : Ghost} {α : Type} {R : α → List Value → Prop} {l : List α} (h : OwnS e m v Hs xs) (hm : 0 < m) (hM : ∀ p ∈ Hs, M p.1 p.2) (hlen : xs.length = l.length * m) (hb : l.length ≤ 9223372036854775807)
    (hR : ∀ i (hi : i < l.length), R l[i] ((xs.drop (i * m)).take m)) : Sl M m R v l := by
  rcases h with ⟨rfl, rfl, rfl⟩ | ⟨b, len, cap, cur, rfl, rfl, h1, h2, h3, h4, h5⟩
  · have : l = [] := List.eq_nil_of_length_eq_zero (by
      have : l.length * m = 0 := by simpa using hlen.symm
      rcases Nat.mul_eq_zero.1 this with h | h
      · exact h
      · omega)
    subst this; exact sl_nil
  · have hl : len = l.length := Nat.eq_of_mul_eq_mul_right hm (by omega)
    subst hl
    refine ⟨_, cap, rfl, h2, hb, fun _ => ⟨b, 0, cur, e, (0, 0), rfl, hM _ List.mem_cons_self, fun i hi => ⟨(xs.drop (i * m)).take m, ?_, hR i hi, fun j hj => ?_⟩⟩⟩
    · have : i * m + m ≤ l.length * m := by have := Nat.mul_le_mul_right m (Nat.succ_le_of_lt hi); rw [Nat.succ_mul] at this; exact this
      simp; omega
    · have : i * m + m ≤ l.length * m := by have := Nat.mul_le_mul_right m (Nat.succ_le_of_lt hi); rw [Nat.succ_mul] at this; exact this
      rw [← h5]
      simp only [Nat.zero_add, List.getElem?_take, List.getElem?_drop]
      rw [if_pos hj, if_pos (by omega)]; simp
theorem plain_one {v : Value} (h : plainV v = true) : v.oneCell' = true := by cases v <;> simp_all [plainV, Value.oneCell']
/-- An append onto an owned slice: what comes out is owned; the state behind it. -/
theorem run_append' {t e : TypeId} {m by' : Nat} {i : TypeInfo} {z v : Value} {Hs H0 : List (Nat × Obj)} {xs news : List Value} {ad : Addr} {c len2 : Nat} {w : World} (ht : P.underlying t = some (.slice e)) (hi : P.info? e = some i) (hz : i.zero = some z) (hsz : i.size = m) (hby : i.bytes = by') (hzs : z.cells.size = m) (hm : 0 < m)
    (hown : OwnS e m v Hs xs) (hw : St w0 bs (Hs ++ H0) M w) (hl2 : news.length = len2 * m) (hnews : ∀ j u, news[j]? = some u → w.cell? (ad.add j) = some u) (hp : news.all plainV = true) (hb1 : xs.length / m + len2 ≤ 1000000000) (hb2 : by' ≤ 140000) :
    ∃ v' Hs' w', (Builtin.append_ #[t, t] ty #[v, .slice (some ad) len2 c]).run P w = .ok v' w' ∧ OwnS e m v' Hs' (xs ++ news) ∧ St w0 bs (Hs' ++ H0) M w' := by
  have h1 : ∀ u ∈ news, u.oneCell' = true := fun u hu => plain_one (by rw [List.all_eq_true] at hp; exact hp u hu)
  subst hsz; subst hby
  -- a new block
  have grown : ∀ (old len : Nat) (Hs1 : List (Nat × Obj)), xs.length = len * i.size → len + len2 ≤ 1000000000 → old < len + len2 → St w0 bs (Hs1 ++ H0) M w →
      OwnS e i.size (.slice (some ⟨w.heap.size, 0, none⟩) (len + len2) (grownCap w (len + len2) old e)) [(w.heap.size, .cells (xs.toArray ++ news.toArray ++ Builtin.zeroCells z.cells (grownCap w (len + len2) old e - (len + len2))) e (0, 0))] (xs ++ news) ∧
      St w0 bs ([(w.heap.size, .cells (xs.toArray ++ news.toArray ++ Builtin.zeroCells z.cells (grownCap w (len + len2) old e - (len + len2))) e (0, 0))] ++ H0) M (w.drew.alloc (.cells (xs.toArray ++ news.toArray ++ Builtin.zeroCells z.cells (grownCap w (len + len2) old e - (len + len2))) e)) := by
    intro old len Hs1 hlen hb ho hst
    have hge := grownCap_ge w (len + len2) old e
    have hcm : grownCap w (len + len2) old e ≤ maxLen := grownCap_le_maxLen w (len + len2) old e (by simp only [maxLen]; omega)
    have hxl : (xs ++ news).length = (len + len2) * i.size := by rw [List.length_append, hlen, hl2, Nat.add_mul]
    refine ⟨.inr ⟨_, _, _, _, rfl, rfl, hxl, hge, hcm, ?_, ?_⟩, ?_⟩
    · simp only [Array.size_append, List.size_toArray, size_zeroCells, hzs, hlen, hl2, ← Nat.add_mul]
      congr 1
      omega
    · simp only [Array.toList_append, List.append_assoc]
      rw [← List.append_assoc, ← hxl]
      exact List.take_left
    · have h2 : St w0 bs H0 M w := hst.drop (List.sublist_append_right _ _)
      have h3 : St w0 bs H0 M w.drew := h2.ext (Ext.drew w 1)
      exact h3.alloc _
  rcases hown with ⟨rfl, rfl, rfl⟩ | ⟨b, len, cap, cur, rfl, rfl, h2, h3, h4, h5, h6⟩
  · simp at hb1
    by_cases h0 : len2 = 0
    · subst h0
      have hn : news = [] := List.eq_nil_of_length_eq_zero (by simpa using hl2)
      subst hn
      refine ⟨.slice none 0 0, [], w, ?_, by simpa using OwnS.nil, hw⟩
      simp [Builtin.append_, run_underlying ht, sizeOf, typeInfo, hi, Builtin.lenOf, Builtin.firstCells, loadCells, loadCellsFrom]
    · have hr := run_append_nil (P := P) w t ty e i z ht hi hz ad len2 c news hl2 hnews (by omega) (by omega) (by have := Nat.mul_le_mul hb1 hb2; omega)
      have := grown 0 0 [] (by simp) (by omega) (by omega) hw
      simp only [Nat.zero_add, List.nil_append, Array.empty_append] at this
      exact ⟨_, _, _, hr, this.1, this.2⟩
  · have hdiv : xs.length / i.size = len := by rw [h2]; exact Nat.mul_div_cancel _ hm
    rw [hdiv] at hb1
    have hg : w.heap[b]? = some (.cells cur e (0, 0)) := hw.get (by simp)
    by_cases hroom : len + len2 ≤ cap
    · have hfit : len * i.size + news.length ≤ cur.size := by rw [hl2, h5, ← Nat.add_mul]; exact Nat.mul_le_mul_right _ hroom
      have hr := run_append_room (P := P) w t ty e i ht hi b len cap cur hg ad len2 c news hl2 hnews h1 hroom hfit
      have hxl : (xs ++ news).length = (len + len2) * i.size := by rw [List.length_append, h2, hl2, Nat.add_mul]
      refine ⟨_, [(b, .cells (cur.toList.take (len * i.size) ++ news ++ cur.toList.drop (len * i.size + news.length)).toArray e (0, 0))], _, hr, .inr ⟨b, _, cap, _, rfl, rfl, hxl, hroom, h4, ?_, ?_⟩, ?_⟩
      · simp only [List.size_toArray, List.length_append, List.length_take, List.length_drop, Array.length_toList]
        omega
      · rw [h6, ← hxl]; exact List.take_left
      · refine hw.upd (o := .cells cur e (0, 0)) Upd.here ⟨rfl, rfl, rfl, by simp [World.setRow], fun k _ hk => setRow_other w b k _ (by simpa using hk)⟩ (setRow_heap w b cur _ e _ hg)
    · have holds : ∀ j u, xs[j]? = some u → w.cell? ((⟨b, 0, none⟩ : Addr).add j) = some u := by
        intro j u hj
        rw [add_addr, cell_of hg]
        rw [← h6] at hj
        simp only [List.getElem?_take] at hj
        split at hj
        · simpa using hj
        · cases hj
      have hr := run_append_grow (P := P) w t ty e i z ht hi hz ⟨b, 0, none⟩ len cap xs h2 holds ad len2 c news hl2 hnews (by omega) (by omega) (growslice_fits (by omega) (by have := Nat.mul_le_mul hb1 hb2; omega))
      have := grown cap len _ h2 hb1 (by omega) hw
      exact ⟨_, _, _, hr, this.1, this.2⟩
theorem run_appendOp {s src : Operand} {t : TypeId} {a : Act} {w : World} {v u : Value} (hs : a.eval s = v) (hx : a.eval src = u) {v' : Value} {w' : World} (hr : (Builtin.append_ #[t, t] ty #[v, u]).run P w = .ok v' w') :
    (execOp a.eval ⟨dst, .call ⟨.builtin .append, #[s, src], #[t, t]⟩, ty, pos, af, g⟩).run P w = .ok (.value v') w' := by
  simp [execOp, resolve, invoke, builtin, hs, hx, hr]
/-- append(s, x ..) where the source is a block of one's own (a literal) -/
theorem wl_append {s src : Operand} {t e : TypeId} {m by' d : Nat} {i : TypeInfo} {z v : Value} {Hs H0 : List (Nat × Obj)} {xs news : List Value} {b c len2 : Nat} {T2 : TypeId} {fz : Nat × Nat} (hg : gd ops E g = some true) (hown : OwnS e m v Hs xs) (hd : Nat.blt d n = true)
    (hx : ev E s = some (true, v)) (hy : ev E src = some (true, .slice (some ⟨b, 0, none⟩) len2 c)) (ht : P.underlying t = some (.slice e)) (hi : P.info? e = some i) (hz : i.zero = some z) (hsz : i.size = m) (hby : i.bytes = by') (hzs : z.cells.size = m) (hm : Nat.blt 0 m = true)
    (hmem : (b, Obj.cells news.toArray T2 fz) ∈ H) (hl2 : news.length = len2 * m) (hp : news.all plainV = true) (hsub : List.Sublist (Hs ++ H0) H) (hb1 : xs.length / m + len2 ≤ 1000000000) (hb2 : Nat.ble by' 140000 = true)
    (h : ∀ v' Hs', OwnS e m v' Hs' (xs ++ news) → WL P ops rest n ((d, true, v') :: E) (St w0 bs (Hs' ++ H0) M) k) :
    WL P ops (⟨some d, .call ⟨.builtin .append, #[s, src], #[t, t]⟩, ty, pos, af, g⟩ :: rest) n E (St w0 bs H M) k := by
  have hd : d < n := by simpa [Nat.blt_eq] using hd
  refine wl_op hg fun a w ha hw => ?_
  obtain ⟨v', Hs', w', hr, h2, h3⟩ := run_append' (ty := ty) (ad := ⟨b, 0, none⟩) (c := c) ht hi hz hsz hby hzs (by simpa [Nat.blt_eq] using hm) hown (hw.drop hsub) hl2 (fun j u hj => by rw [add_addr, cell_of (hw.get hmem)]; simpa using hj) hp hb1 (Nat.le_of_ble_eq_true hb2)
  unfold Oper.wp
  rw [run_appendOp (ha.eval hx) (ha.eval hy) hr, Oper.upon_value]
  exact (h v' Hs' h2).run _ _ (ha.put hd rfl) h3
/-- append(s, x ..) where the source is laid (an argument, say), nil or not -/
theorem wl_appendM {s src : Operand} {t e : TypeId} {m by' d : Nat} {i : TypeInfo} {z v : Value} {Hs H0 : List (Nat × Obj)} {xs news : List Value} {a2 : Option Addr} {c len2 : Nat} (hg : gd ops E g = some true) (hown : OwnS e m v Hs xs) (hd : Nat.blt d n = true)
    (hx : ev E s = some (true, v)) (hy : ev E src = some (true, .slice a2 len2 c)) (ht : P.underlying t = some (.slice e)) (hi : P.info? e = some i) (hz : i.zero = some z) (hsz : i.size = m) (hby : i.bytes = by') (hzs : z.cells.size = m) (hm : Nat.blt 0 m = true)
    (hsrc : len2 = 0 ∨ ∃ b o cs T fz, a2 = some ⟨b, o, none⟩ ∧ M b (.cells cs T fz) ∧ ∀ j u, news[j]? = some u → cs[o + j]? = some u) (hl2 : news.length = len2 * m) (hp : news.all plainV = true) (hsub : List.Sublist (Hs ++ H0) H) (hb1 : xs.length / m + len2 ≤ 1000000000) (hb2 : Nat.ble by' 140000 = true)
    (h : ∀ v' Hs', OwnS e m v' Hs' (xs ++ news) → WL P ops rest n ((d, true, v') :: E) (St w0 bs (Hs' ++ H0) M) k) :
    WL P ops (⟨some d, .call ⟨.builtin .append, #[s, src], #[t, t]⟩, ty, pos, af, g⟩ :: rest) n E (St w0 bs H M) k := by
  have hd : d < n := by simpa [Nat.blt_eq] using hd
  refine wl_op hg fun a w ha hw => ?_
  unfold Oper.wp
  rcases hsrc with h0 | ⟨b, o, cs, T, fz, rfl, hM, hcs⟩
  · subst h0
    have hn : news = [] := List.eq_nil_of_length_eq_zero (by simpa using hl2)
    subst hn
    have hr : (Builtin.append_ #[t, t] ty #[v, .slice a2 0 c]).run P w = .ok v w := by
      rcases hown with ⟨rfl, rfl, rfl⟩ | ⟨b, len, cap, cur, rfl, rfl, h2, h3, h4, h5, h6⟩
      · cases a2 <;> simp [Builtin.append_, run_underlying ht, sizeOf, typeInfo, hi, Builtin.lenOf, Builtin.firstCells, loadCells, loadCellsFrom]
      · cases a2 <;> simp [Builtin.append_, run_underlying ht, sizeOf, typeInfo, hi, Builtin.lenOf, Builtin.firstCells, loadCells, loadCellsFrom, h3, storeCells]
    rw [run_appendOp (ha.eval hx) (ha.eval hy) hr, Oper.upon_value]
    exact (h v Hs (by simpa using hown)).run _ _ (ha.put hd rfl) (hw.drop hsub)
  · obtain ⟨v', Hs', w', hr, h2, h3⟩ := run_append' (ty := ty) (ad := ⟨b, o, none⟩) (c := c) ht hi hz hsz hby hzs (by simpa [Nat.blt_eq] using hm) hown (hw.drop hsub) hl2 (fun j u hj => by rw [add_addr, cell_of (hw.laid _ _ hM)]; exact hcs j u hj) hp hb1 (Nat.le_of_ble_eq_true hb2)
    rw [run_appendOp (ha.eval hx) (ha.eval hy) hr, Oper.upon_value]
    exact (h v' Hs' h2).run _ _ (ha.put hd rfl) h3

/-! ### arrays that are laid; bits -/
theorem ov_loadAM {t e : TypeId} {b o m : Nat} {cs : Array Value} {l : List Value} {T : TypeId} {fz : Nat × Nat} (hx : ev E x = some (cx, .pointer (some ⟨b, o, none⟩))) (h1 : Imp cg cx) (ht : P.underlying t = some (.array m e))
    (hs : (P.info? t).map (·.size) = some l.length) (hm : cg = true → M b (Obj.cells cs T fz)) (hv : cg = true → ∀ j, j < l.length → cs[o + j]? = l[j]?) : OpV P n E (St w0 bs H M) ⟨dst, .load t x, ty, pos, af, g⟩ cg (.agg l.toArray) :=
  ov_run fun h a ha w hw => by
    simp [execOp, ha.evalc hx (h1 h), Instr.loadAt, Instr.sureAddr, loadVar, isAgg_array ht, run_sizeOf hs, run_loadCells (hw.laid _ _ (hm h)) l (hv h)]
/-- an array's element of one cell -/
theorem ov_aindex {e : TypeId} {len i : Nat} {cs : Array Value} {k1 : IntKind} {z : Int} {d : TypeDesc} {v : Value} (hx : ev E x = some (cx, .agg cs)) (hy : ev E y = some (cy, .int k1 z)) (hi : z = (i : Int)) (h1 : Imp cg cx) (h2 : Imp cg cy) (ht : P.underlying tx = some (.array len e)) (hs : (P.info? e).map (·.size) = some 1)
    (hd : P.underlying e = some d) (hd' : (match d with | .struct _ | .array _ _ => true | _ => false) = false) (hf : cg = true → i < len) (hv : cg = true → cs[i]? = some v) : OpV P n E C ⟨dst, .index tx x y, ty, pos, af, g⟩ cg v :=
  ov_run fun h a ha w _ => by
    have := hf h
    have hv := hv h
    subst hi
    have h3 : (0 : Int) ≤ (i : Int) ∧ (i : Int) < (len : Int) := by omega
    simp only [execOp, ha.evalc hx (h1 h), ha.evalc hy (h2 h), Sem.run_bind, Instr.index, asIntOf, Sem.run_pure, Result.andThen_ok, run_underlying ht]
    rw [if_pos h3]
    simp [run_sizeOf hs, part_one hd (by cases d <;> simp_all) hv]
def bitI (op : BinOp) (kd : IntKind) (u z : Int) : Int :=
  let a := BitVec.ofInt kd.bits u
  let b := BitVec.ofInt kd.bits z
  match op with
  | .and => kd.wrap (a &&& b).toNat
  | .or => kd.wrap (a ||| b).toNat
  | .xor => kd.wrap (a ^^^ b).toNat
  | _ => 0
theorem ov_bits {op : BinOp} {kd : IntKind} {u z : Int} (hx : ev E x = some (cx, .int kd u)) (hy : ev E y = some (cy, .int kd z)) (h1 : Imp cg cx) (h2 : Imp cg cy) (ho : (op == .and || op == .or || op == .xor) = true) :
    OpV P n E C ⟨dst, .binOp op tx x y tyy, ty, pos, af, g⟩ cg (.int kd (bitI op kd u z)) :=
  ov_run fun h a ha w _ => run_bin (ha.evalc hx (h1 h)) (ha.evalc hy (h2 h)) guard_int (by cases op <;> simp at ho <;> simp [binOp, Op.intBits, bitI])
/-- another kind of integer, cut to it -/
theorem ov_convW {s t : TypeId} {kd k' : IntKind} {u : Int} (hx : ev E x = some (cx, .int kd u)) (h1 : Imp cg cx) (hs : (P.underlying s).isSome = true) (ht : P.underlying t = some (.int k')) :
    OpV P n E C ⟨dst, .convert s t x, ty, pos, af, g⟩ cg (.int k' (k'.wrap u)) :=
  ov_run fun h a ha w _ => by
    obtain ⟨ds, hs⟩ := Option.isSome_iff_exists.1 hs
    simp [execOp, ha.evalc hx (h1 h), convert, run_underlying hs, run_underlying ht, Conv.intToInt]
/-- shifts by a number that is known -/
theorem ov_shr {kd k2 : IntKind} {u z : Int} {m : Nat} (hx : ev E x = some (cx, .int kd u)) (hy : ev E y = some (cy, .int k2 z)) (hz : z = (m : Int)) (h1 : Imp cg cx) (h2 : Imp cg cy) (hm : Nat.ble m kd.bits = true) (hu : cg = true → 0 ≤ u) :
    OpV P n E C ⟨dst, .binOp .shr tx x y tyy, ty, pos, af, g⟩ cg (.int kd (u / ((2 ^ m : Nat) : Int))) :=
  ov_run fun h a ha w _ => run_bin (ha.evalc hx (h1 h)) (ha.evalc hy (h2 h)) guard_int (by
    subst hz
    have h3 : ¬ ((m : Int) < 0) := by omega
    have h4 : min m kd.bits = m := Nat.min_eq_left (Nat.le_of_ble_eq_true hm)
    have h5 : u.fdiv (2 ^ m) = u / 2 ^ m := Int.fdiv_eq_ediv_of_nonneg _ (Int.pow_nonneg (by decide))
    have h6 : ((2 ^ m : Nat) : Int) = 2 ^ m := by simp
    simp [binOp, Op.shift, h3, h4, h5])
theorem ov_shl {kd k2 : IntKind} {u z : Int} {m : Nat} (hx : ev E x = some (cx, .int kd u)) (hy : ev E y = some (cy, .int k2 z)) (hz : z = (m : Int)) (h1 : Imp cg cx) (h2 : Imp cg cy) (hm : Nat.ble m kd.bits = true) (hu : cg = true → Fits kd (u * 2 ^ m)) :
    OpV P n E C ⟨dst, .binOp .shl tx x y tyy, ty, pos, af, g⟩ cg (.int kd (u * 2 ^ m)) :=
  ov_run fun h a ha w _ => run_bin (ha.evalc hx (h1 h)) (ha.evalc hy (h2 h)) guard_int (by
    subst hz
    have h3 : ¬ ((m : Int) < 0) := by omega
    have h4 : min m kd.bits = m := Nat.min_eq_left (Nat.le_of_ble_eq_true hm)
    simp [binOp, Op.shift, h3, h4, wrap_fits (hu h)])
theorem ov_nilCheck {a0 : Addr} (hx : ev E x = some (cx, .pointer (some a0))) (h1 : Imp cg cx) : OpV P n E C ⟨dst, .nilCheck x, ty, pos, af, g⟩ cg (.pointer (some a0)) :=
  ov_run fun h a ha w _ => by simp [execOp, ha.evalc hx (h1 h)]

/-! ### function values -/
theorem ov_makeFunc {fn : Fn} {f1 f2 : List Operand} {v1 v2 : List Value} (h1 : evs E f1 = some v1) (h2 : evs E f2 = some v2) : OpV P n E C ⟨dst, .makeFunc fn f1.toArray f2.toArray, ty, pos, af, g⟩ cg (.func fn v1.toArray v2.toArray) :=
  ov_run fun h a ha w _ => by
    have e1 := evs_eval ha h1
    have e2 := evs_eval ha h2
    simp [execOp, Instr.makeFunc, e1, e2]
/-- A call of a function value that is known. -/
theorem ov_callV {f : FuncId} {fv : Operand} {l : List Operand} {ats : Array TypeId} {vs : List (Bool × Value)} {args : Array Value} {first captured : List Value} {v : Value} (hfv : ev E fv = some (true, .func (.func f) first.toArray captured.toArray)) (hf : ∀ args w, (callFunc f args).run P w = .ok (.enter f args) w) (hl : evg cg E l = some vs)
    (hp : cg = true → vs.all (·.1) = true) (hargs : first ++ vs.map (·.2) ++ captured = args.toList) (hC : ∀ w w', C w → Ext w w' → C w') (hc : cg = true → ∀ w, C w → Calls P f args w (RetE w v)) :
    OpV P n E C ⟨dst, .call ⟨.value fv, l.toArray, ats⟩, ty, pos, af, g⟩ cg v := ⟨fun h a ha w hw => by
  have he := evg_eval ha hl (by simpa using hp h)
  have ha2 : (first.toArray ++ (l.map a.eval).toArray ++ captured.toArray) = args := by rw [he]; simp [hargs]
  have hr : (execOp a.eval ⟨dst, .call ⟨.value fv, l.toArray, ats⟩, ty, pos, af, g⟩).run P w = .ok (.enter f args) w := by
    have h1 : (first ++ (List.map a.eval l ++ captured)).toArray = args := by rw [← ha2]; simp
    simp [execOp, resolve, ha.eval hfv, Deferred.ofValue, invoke, hf, h1]
  exact upon_call hr ((hc h w hw).mono fun e w' he => ⟨he.1, he.2, hC w w' hw he.2⟩)⟩

/-! ### ends -/
/-- how the ghost has grown since the call began -/
def Since (w0 : World) (M0 M : Ghost) : Prop := (∀ b o, M0 b o → M b o) ∧ (∀ b o, M b o → M0 b o ∨ w0.heap.size ≤ b)
theorem Since.refl : Since w0 M M := ⟨fun _ _ h => h, fun _ _ h => .inl h⟩
theorem Since.step {M0 M' : Ghost} (h : Since w0 M0 M) (h1 : ∀ b o, M b o → M' b o) (h2 : ∀ b o, M' b o → M b o ∨ w0.heap.size ≤ b) : Since w0 M0 M' :=
  ⟨fun b o hb => h1 b o (h.1 b o hb), fun b o hb => (h2 b o hb).elim (fun h3 => h.2 b o h3) .inr⟩
theorem retS_of {M0 : Ghost} {Hn : List (Nat × Obj)} {R : Ghost → List (Nat × Obj) → Value → Prop} {v : Value} {w : World} (hw : St w0 [] H M w) (hs : Since w0 M0 M) (hH : List.Sublist Hn H) (hR : R M Hn v) : RetS M0 w0 R (.returned v) w :=
  ⟨v, Hn, M, rfl, hs.1, hs.2, hw.drop hH, hR⟩
/-- the result is told by more than a value -/
theorem wr_S {M0 : Ghost} {fn : Func} {t : Nat} {v' : Value} {Hn : List (Nat × Obj)} {R : Ghost → List (Nat × Obj) → Value → Prop} (hr : fn.results = #[.tmp t]) (ht : look E t = some (true, v')) (hs : Since w0 M0 M) (hH : List.Sublist Hn H) (hR : R M Hn v') : WR n E (St w0 [] H M) (bodyPost P fn (RetS M0 w0 R)) := ⟨fun a w ha hw => by
  have := ha.reads t true v' ht
  refine bodyPost_ret (v := v') ?_ ha.defers (retS_of hw hs hH hR)
  rw [results_tmp hr]
  simp [this]⟩
theorem wr_S2 {M0 : Ghost} {fn : Func} {t u : Nat} {v' r' : Value} {Hn : List (Nat × Obj)} {R : Ghost → List (Nat × Obj) → Value → Prop} (hr : fn.results = #[.tmp t, .tmp u]) (ht : look E t = some (true, v')) (hu : look E u = some (true, r')) (hs : Since w0 M0 M) (hH : List.Sublist Hn H) (hR : R M Hn (.tuple #[v', r'])) : WR n E (St w0 [] H M) (bodyPost P fn (RetS M0 w0 R)) := ⟨fun a w ha hw => by
  have h1 := ha.reads t true v' ht
  have h2 := ha.reads u true r' hu
  refine bodyPost_ret (v := .tuple #[v', r']) ?_ ha.defers (retS_of hw hs hH hR)
  rw [results_tmp2 hr]
  simp [h1, h2]⟩
/-- laid for good from here on -/
theorem St.lay {H1 H2 : List (Nat × Obj)} {w : World} (h : St w0 bs (H1 ++ H2) M w) : St w0 bs H2 (With M H1) w := h.publish
theorem since_with {M0 : Ghost} {H1 : List (Nat × Obj)} {w : World} (h : Since w0 M0 M) (hn : ∀ p ∈ H1, w0.heap.size ≤ p.1) : Since w0 M0 (With M H1) := h.step (fun _ _ h => .inl h) (fun b o hb => hb.elim .inl fun hm => .inr (hn (b, o) hm))
/-- an owned result that is not written any more -/
theorem retS_lay {M0 : Ghost} {Hn H' : List (Nat × Obj)} {R : Ghost → List (Nat × Obj) → Value → Prop} {v : Value} {w : World} (hw : St w0 [] H M w) (hs : Since w0 M0 M) (hH : List.Sublist Hn H) (hR : R (With M Hn) [] v) : RetS M0 w0 R (.returned v) w := by
  have h1 : St w0 [] (Hn ++ []) M w := by simpa using hw.drop hH
  exact ⟨v, [], With M Hn, rfl, (since_with (w := w) hs (fun p hp => by have := h1.new p (by simpa using hp); simpa using this)).1, (since_with (w := w) hs (fun p hp => by have := h1.new p (by simpa using hp); simpa using this)).2, h1.publish, hR⟩
end
end Go.Eng
