/-
  The engine's operations: those that yield one value in every world of a class. Nothing of the program stands here.
-/
import Derived.Test.YthkpekmecgbokaaDoorEngA
namespace Go.Eng
open Go.RowKit

/-- All blocks but those of a list are as they were; nothing has gone. -/
structure Keep (bs : List Nat) (w w' : World) : Prop where
  os : w'.os = w.os
  tape : w'.tape = w.tape
  output : w'.output = w.output
  size : w.heap.size ≤ w'.heap.size
  block : ∀ b, b < w.heap.size → b ∉ bs → w'.heap[b]? = w.heap[b]?
abbrev Ext (w w' : World) : Prop := Keep [] w w'

theorem Keep.refl (bs : List Nat) (w : World) : Keep bs w w := ⟨rfl, rfl, rfl, Nat.le_refl _, fun _ _ _ => rfl⟩
theorem Keep.trans {bs : List Nat} {a b c : World} (h : Keep bs a b) (k : Keep bs b c) : Keep bs a c :=
  ⟨k.os.trans h.os, k.tape.trans h.tape, k.output.trans h.output, Nat.le_trans h.size k.size, fun i hi hn => (k.block i (Nat.lt_of_lt_of_le hi h.size) hn).trans (h.block i hi hn)⟩
theorem Keep.mono {bs bs' : List Nat} {a b : World} (h : Keep bs a b) (hs : ∀ x ∈ bs, x ∈ bs') : Keep bs' a b := ⟨h.os, h.tape, h.output, h.size, fun i hi hn => h.block i hi (fun hm => hn (hs i hm))⟩
theorem Ext.to {bs : List Nat} {a b : World} (h : Ext a b) : Keep bs a b := h.mono (by simp)
theorem Ext.below {a b : World} (h : Ext a b) : Below a.heap.size a b := ⟨h.os, h.tape, h.output, h.size, fun k hk => h.block k hk (by simp)⟩
theorem Ext.of_below {a b : World} (h : Below a.heap.size a b) : Ext a b := ⟨h.os, h.tape, h.output, h.size, fun k hk _ => h.block k hk⟩
theorem Ext.drew (w : World) (n : Nat) : Ext w (w.drewN n) := ⟨rfl, rfl, rfl, Nat.le_refl _, fun _ _ _ => rfl⟩
theorem lt_of_get {w : World} {b : Nat} {o : Obj} (h : w.heap[b]? = some o) : b < w.heap.size := by
  rcases Nat.lt_or_ge b w.heap.size with h' | h'
  · exact h'
  · simp [Array.getElem?_eq_none h'] at h

/-- A string by its bytes; a byte. -/
abbrev str (l : List UInt8) : Value := .string ⟨l.toArray⟩
abbrev byt (c : UInt8) : Value := .int .u8 (c.toNat : Int)
abbrev i64 (z : Int) : Value := .int .i64 z

/-- One operation, in one world: it yields that value and leaves the world; or it is a call that comes back with it, whatever new memory it has laid. -/
def YAt (P : Program) (o : Oper) (a : Act) (C : World → Prop) (w : World) (v : Value) : Prop :=
  match (execOp a.eval o).run P w with
  | .ok (.value u) w' => w' = w ∧ u = v
  | .ok (.enter f args) w' => w' = w ∧ Calls P f args w (fun e w2 => e = .returned v ∧ Ext w w2 ∧ C w2)
  | _ => False
theorem YAt.wp {P : Program} {o : Oper} {a : Act} {C : World → Prop} {w : World} {v : Value} {K : Act → World → Prop} {Q : Exit → Act → World → Prop} (h : YAt P o a C w v) (hw : C w) (hK : ∀ w', C w' → Ext w w' → K (a.put o.dst v) w') : o.wp P a w K Q := by
  unfold YAt at h
  unfold Oper.wp
  generalize (execOp a.eval o).run P w = r at *
  cases r with
  | ok nx w1 =>
    cases nx <;> simp only [] at h <;> simp only [Oper.upon]
    case value u => obtain ⟨rfl, rfl⟩ := h; exact hK _ hw (Keep.refl _ _)
    case enter f args => obtain ⟨rfl, h⟩ := h; exact h.mono fun e w2 ⟨he, hx, hC⟩ => by subst he; exact hK _ hC hx
  | halt x w1 => simp only [] at h
/-- One value, in every world of the class, if the operation runs. -/
structure OpV (P : Program) (n : Nat) (E : Env) (C : World → Prop) (o : Oper) (cg : Bool) (v : Value) : Prop where
  run : cg = true → ∀ a, Holds n E a → ∀ w, C w → YAt P o a C w v

section
variable {P : Program} {n : Nat} {E : Env} {C : World → Prop} {k : Kont} {ops : Array Oper} {rest : List Oper} {cg : Bool}

theorem wanted_gd {a : Act} (ha : Holds n E a) {o : Oper} (h : gd ops E o.guard = some cg) : Region.wanted o (yielded ops a.tmps) = cg := by
  unfold Region.wanted
  cases hg : o.guard with
  | none => rw [hg] at h; simp [gd] at h; simp [h]
  | some g =>
    obtain ⟨j, want⟩ := g
    rw [hg] at h
    simp only [gd] at h
    simp only [yielded]
    cases hd : (ops[j]?).bind (·.dst) with
    | none => simp [hd] at h
    | some d =>
      simp only [hd] at h
      cases hl : look E d with
      | none => simp [hl] at h
      | some cv =>
        obtain ⟨c, v⟩ := cv
        simp only [hl] at h
        cases v with
        | bool b =>
          simp at h
          have hr := ha.reads d c _ hl
          simp only [Option.bind_some]
          rw [hr, ← h]
          cases c
          · simp [undef]
          · cases b <;> cases want <;> rfl
        | _ => simp at h

/-- An operation of one value. -/
theorem wl_v {d : Nat} {v : Value} {o : Oper} (hg : gd ops E o.guard = some cg) (ho : o.dst = some d) (hd : Nat.blt d n = true) (hv : OpV P n E C o cg v) (h : WL P ops rest n ((d, cg, v) :: E) C k) : WL P ops (o :: rest) n E C k := by
  have hd : d < n := by simpa [Nat.blt_eq] using hd
  refine ⟨fun a w ha hw => ?_⟩
  have hwa := wanted_gd (ops := ops) ha hg
  unfold wpList
  cases cg with
  | true =>
    rw [if_pos hwa]
    refine .inl ((hv.run rfl a ha w hw).wp hw fun w' hw' _ => ?_)
    rw [ho]
    exact h.run _ _ (ha.put hd rfl) hw'
  | false =>
    rw [if_neg (by rw [hwa]; simp), ho]
    exact h.run _ _ (ha.put hd rfl) hw

/-- What an operation without a call yields. -/
theorem ov_run {o : Oper} {v : Value} (h : cg = true → ∀ a, Holds n E a → ∀ w, C w → (execOp a.eval o).run P w = .ok (.value v) w) : OpV P n E C o cg v := by
  refine ⟨fun hc a ha w hw => ?_⟩
  unfold YAt
  rw [h hc a ha w hw]
  exact ⟨rfl, rfl⟩

variable {dst : Option Tmp} {ty : TypeId} {pos : String} {af : Array Edge} {g : Option (Nat × Bool)}
/-- What a guard's condition hands on. -/
abbrev Imp (cg c : Bool) : Prop := cg = true → c = true

theorem ov_move {x : Operand} {c : Bool} {v : Value} (hx : ev E x = some (c, v)) (hc : Imp cg c) : OpV P n E C ⟨dst, .move x, ty, pos, af, g⟩ cg v :=
  ov_run fun h a ha w _ => by simp [execOp, ha.evalc hx (hc h)]
theorem ov_assign {x : Operand} {c : Bool} {v : Value} (hx : ev E x = some (c, v)) (hc : Imp cg c) : OpV P n E C ⟨dst, .assign x, ty, pos, af, g⟩ cg v :=
  ov_run fun h a ha w _ => by simp [execOp, ha.evalc hx (hc h)]

/-! ### pick -/
theorem ov_pick {x y z : Operand} {c cy cz : Bool} {b : Bool} {vy vz v : Value} (hx : ev E x = some (c, .bool b)) (hy : ev E y = some (cy, vy)) (hz : ev E z = some (cz, vz))
    (hc : Imp cg c) (h1 : cg = true → b = true → cy = true ∧ vy = v) (h0 : cg = true → b = false → cz = true ∧ vz = v) : OpV P n E C ⟨dst, .pick x y z, ty, pos, af, g⟩ cg v :=
  ov_run fun h a ha w _ => by
    cases b
    · obtain ⟨h2, h3⟩ := h0 h rfl; simp [execOp, ha.evalc hx (hc h), asBool, ha.evalc hz h2, h3]
    · obtain ⟨h2, h3⟩ := h1 h rfl; simp [execOp, ha.evalc hx (hc h), asBool, ha.evalc hy h2, h3]
/-- 'a && b' -/
theorem ov_and {x y : Operand} {c cy : Bool} {b b' : Bool} (hx : ev E x = some (c, .bool b)) (hy : ev E y = some (cy, .bool b')) (hc : Imp cg c) (h1 : cg = true → b = true → cy = true) :
    OpV P n E C ⟨dst, .pick x y (.const (.bool false)), ty, pos, af, g⟩ cg (.bool (b && b')) :=
  ov_pick hx hy rfl hc (fun h hb => ⟨h1 h hb, by simp [hb]⟩) (fun _ hb => ⟨rfl, by simp [hb]⟩)
/-- 'a || b' -/
theorem ov_or {x z : Operand} {c cz : Bool} {b b' : Bool} (hx : ev E x = some (c, .bool b)) (hz : ev E z = some (cz, .bool b')) (hc : Imp cg c) (h0 : cg = true → b = false → cz = true) :
    OpV P n E C ⟨dst, .pick x (.const (.bool true)) z, ty, pos, af, g⟩ cg (.bool (b || b')) :=
  ov_pick hx rfl hz hc (fun _ hb => ⟨rfl, by simp [hb]⟩) (fun h hb => ⟨h0 h hb, by simp [hb]⟩)

/-! ### numbers that are not negative -/
theorem nc_cast {n : Nat} : (n : Int) = (n : Int) := rfl
theorem nc_lit {n : Nat} : (OfNat.ofNat n : Int) = ((OfNat.ofNat n : Nat) : Int) := rfl
theorem nc_add {a b : Int} {m n : Nat} (h1 : a = (m : Int)) (h2 : b = (n : Int)) : a + b = ((m + n : Nat) : Int) := by omega
theorem nc_mul {a b : Int} {m n : Nat} (h1 : a = (m : Int)) (h2 : b = (n : Int)) : a * b = ((m * n : Nat) : Int) := by subst h1; subst h2; simp
theorem nc_div {a b : Int} {m n : Nat} (h1 : a = (m : Int)) (h2 : b = (n : Int)) : a / b = ((m / n : Nat) : Int) := by subst h1; subst h2; simp
theorem nc_mod {a b : Int} {m n : Nat} (h1 : a = (m : Int)) (h2 : b = (n : Int)) : a % b = ((m % n : Nat) : Int) := by subst h1; subst h2; simp
theorem nc_sub {a b : Int} {m n : Nat} (h1 : a = (m : Int)) (h2 : b = (n : Int)) (h : n ≤ m) : a - b = ((m - n : Nat) : Int) := by omega

/-! ### numbers -/
/-- A number fits its kind. -/
def Fits (k : IntKind) (z : Int) : Prop := k.min ≤ z ∧ z ≤ k.max
theorem wrap_fits {k : IntKind} {z : Int} (h : Fits k z) : k.wrap z = z := by
  obtain ⟨h1, h2⟩ := h
  cases k <;> simp [IntKind.min, IntKind.max, IntKind.signed, IntKind.bits] at h1 h2 <;> simp [IntKind.wrap, IntKind.signed, IntKind.bits] <;> (try split) <;> omega
theorem fits_i64 {z : Int} (h1 : -9223372036854775808 ≤ z) (h2 : z ≤ 9223372036854775807) : Fits .i64 z := by
  simp only [Fits, IntKind.min, IntKind.max, IntKind.signed, IntKind.bits]; constructor <;> simp <;> omega
theorem fits_u8 {z : Int} (h1 : 0 ≤ z) (h2 : z ≤ 255) : Fits .u8 z := by
  simp only [Fits, IntKind.min, IntKind.max, IntKind.signed, IntKind.bits]; constructor <;> simp <;> omega
theorem fits_i32 {z : Int} (h1 : -2147483648 ≤ z) (h2 : z ≤ 2147483647) : Fits .i32 z := by
  simp only [Fits, IntKind.min, IntKind.max, IntKind.signed, IntKind.bits]; constructor <;> simp <;> omega
theorem fits_u64 {z : Int} (h1 : 0 ≤ z) (h2 : z ≤ 18446744073709551615) : Fits .u64 z := by
  simp only [Fits, IntKind.min, IntKind.max, IntKind.signed, IntKind.bits]; constructor <;> simp <;> omega
theorem fits_u32 {z : Int} (h1 : 0 ≤ z) (h2 : z ≤ 4294967295) : Fits .u32 z := by
  simp only [Fits, IntKind.min, IntKind.max, IntKind.signed, IntKind.bits]; constructor <;> simp <;> omega

variable {x y : Operand} {cx cy : Bool} {tx tyy : TypeId} {kd : IntKind} {u z : Int}
theorem run_bin {op : BinOp} {vx vy r : Value} {a : Act} {w : World} (h1 : a.eval x = vx) (h2 : a.eval y = vy) (he : (eqGuard op tx x y vx vy).run P w = .ok () w) (hb : (binOp op tx vx vy).run P w = .ok r w) :
    (execOp a.eval ⟨dst, .binOp op tx x y tyy, ty, pos, af, g⟩).run P w = .ok (.value r) w := by
  simp [execOp, h1, h2, he, hb]
theorem guard_no {op : BinOp} {vx vy : Value} {w : World} (h : (op == .eql || op == .neq) = false) : (eqGuard op tx x y vx vy).run P w = .ok () w := by
  cases op <;> simp_all [eqGuard]
theorem guard_int {op : BinOp} {k1 k2 : IntKind} {w : World} : (eqGuard op tx x y (.int k1 u) (.int k2 z)).run P w = .ok () w := by
  cases op <;> simp [eqGuard]
theorem guard_bool {op : BinOp} {b1 b2 : Bool} {w : World} : (eqGuard op tx x y (.bool b1) (.bool b2)).run P w = .ok () w := by
  cases op <;> simp [eqGuard]
theorem guard_str {op : BinOp} {b1 b2 : ByteArray} {w : World} : (eqGuard op tx x y (.string b1) (.string b2)).run P w = .ok () w := by
  cases op <;> simp [eqGuard]

set_option linter.unusedVariables false in
theorem ov_int {op : BinOp} {r : Value} (hx : ev E x = some (cx, .int kd u)) (hy : ev E y = some (cy, .int kd z)) (h1 : Imp cg cx) (h2 : Imp cg cy)
    (hr : cg = true → ∀ w, (binOp op tx (.int kd u) (.int kd z)).run P w = .ok r w) : OpV P n E C ⟨dst, .binOp op tx x y tyy, ty, pos, af, g⟩ cg r :=
  ov_run fun h a ha w _ => run_bin (ha.evalc hx (h1 h)) (ha.evalc hy (h2 h)) guard_int (hr h w)

theorem ov_add (hx : ev E x = some (cx, .int kd u)) (hy : ev E y = some (cy, .int kd z)) (h1 : Imp cg cx) (h2 : Imp cg cy) (hf : cg = true → Fits kd (u + z)) :
    OpV P n E C ⟨dst, .binOp .add tx x y tyy, ty, pos, af, g⟩ cg (.int kd (u + z)) :=
  ov_int hx hy h1 h2 fun h w => by simp [binOp, Op.intArith, wrap_fits (hf h)]
theorem ov_sub (hx : ev E x = some (cx, .int kd u)) (hy : ev E y = some (cy, .int kd z)) (h1 : Imp cg cx) (h2 : Imp cg cy) (hf : cg = true → Fits kd (u - z)) :
    OpV P n E C ⟨dst, .binOp .sub tx x y tyy, ty, pos, af, g⟩ cg (.int kd (u - z)) :=
  ov_int hx hy h1 h2 fun h w => by simp [binOp, Op.intArith, wrap_fits (hf h)]
theorem ov_mul (hx : ev E x = some (cx, .int kd u)) (hy : ev E y = some (cy, .int kd z)) (h1 : Imp cg cx) (h2 : Imp cg cy) (hf : cg = true → Fits kd (u * z)) :
    OpV P n E C ⟨dst, .binOp .mul tx x y tyy, ty, pos, af, g⟩ cg (.int kd (u * z)) :=
  ov_int hx hy h1 h2 fun h w => by simp [binOp, Op.intArith, wrap_fits (hf h)]
theorem ov_quo (hx : ev E x = some (cx, .int kd u)) (hy : ev E y = some (cy, .int kd z)) (h1 : Imp cg cx) (h2 : Imp cg cy) (hf : cg = true → 0 ≤ u ∧ 0 < z ∧ Fits kd (u / z)) :
    OpV P n E C ⟨dst, .binOp .quo tx x y tyy, ty, pos, af, g⟩ cg (.int kd (u / z)) :=
  ov_int hx hy h1 h2 fun h w => by
    obtain ⟨h0, h1, h2⟩ := hf h
    have hz : z ≠ 0 := by omega
    simp [binOp, Op.intDiv, hz, Int.tdiv_eq_ediv_of_nonneg h0, wrap_fits h2]
theorem ov_rem (hx : ev E x = some (cx, .int kd u)) (hy : ev E y = some (cy, .int kd z)) (h1 : Imp cg cx) (h2 : Imp cg cy) (hf : cg = true → 0 ≤ u ∧ 0 < z) :
    OpV P n E C ⟨dst, .binOp .rem tx x y tyy, ty, pos, af, g⟩ cg (.int kd (u % z)) :=
  ov_int hx hy h1 h2 fun h w => by
    obtain ⟨h0, h1⟩ := hf h
    have hz : z ≠ 0 := by omega
    simp [binOp, Op.intDiv, hz, Int.tmod_eq_emod_of_nonneg h0]
theorem ov_lss (hx : ev E x = some (cx, .int kd u)) (hy : ev E y = some (cy, .int kd z)) (h1 : Imp cg cx) (h2 : Imp cg cy) :
    OpV P n E C ⟨dst, .binOp .lss tx x y tyy, ty, pos, af, g⟩ cg (.bool (decide (u < z))) :=
  ov_int hx hy h1 h2 fun h w => by simp [binOp, Op.intCmp]
theorem ov_leq (hx : ev E x = some (cx, .int kd u)) (hy : ev E y = some (cy, .int kd z)) (h1 : Imp cg cx) (h2 : Imp cg cy) :
    OpV P n E C ⟨dst, .binOp .leq tx x y tyy, ty, pos, af, g⟩ cg (.bool (decide (u ≤ z))) :=
  ov_int hx hy h1 h2 fun h w => by simp [binOp, Op.intCmp]
theorem ov_gtr (hx : ev E x = some (cx, .int kd u)) (hy : ev E y = some (cy, .int kd z)) (h1 : Imp cg cx) (h2 : Imp cg cy) :
    OpV P n E C ⟨dst, .binOp .gtr tx x y tyy, ty, pos, af, g⟩ cg (.bool (decide (z < u))) :=
  ov_int hx hy h1 h2 fun h w => by simp [binOp, Op.intCmp]
theorem ov_geq (hx : ev E x = some (cx, .int kd u)) (hy : ev E y = some (cy, .int kd z)) (h1 : Imp cg cx) (h2 : Imp cg cy) :
    OpV P n E C ⟨dst, .binOp .geq tx x y tyy, ty, pos, af, g⟩ cg (.bool (decide (z ≤ u))) :=
  ov_int hx hy h1 h2 fun h w => by simp [binOp, Op.intCmp]
theorem ov_eql (hx : ev E x = some (cx, .int kd u)) (hy : ev E y = some (cy, .int kd z)) (h1 : Imp cg cx) (h2 : Imp cg cy) :
    OpV P n E C ⟨dst, .binOp .eql tx x y tyy, ty, pos, af, g⟩ cg (.bool (decide (u = z))) :=
  ov_int hx hy h1 h2 fun h w => by simp [binOp, Op.intCmp, Bool.beq_eq_decide_eq]
theorem ov_neq (hx : ev E x = some (cx, .int kd u)) (hy : ev E y = some (cy, .int kd z)) (h1 : Imp cg cx) (h2 : Imp cg cy) :
    OpV P n E C ⟨dst, .binOp .neq tx x y tyy, ty, pos, af, g⟩ cg (.bool (!decide (u = z))) :=
  ov_int hx hy h1 h2 fun h w => by simp [binOp, Op.intCmp, bne, Bool.beq_eq_decide_eq]
/-- another kind of integer -/
theorem ov_conv {s t : TypeId} {k' : IntKind} (hx : ev E x = some (cx, .int kd u)) (h1 : Imp cg cx) (hs : (P.underlying s).isSome = true) (ht : P.underlying t = some (.int k')) (hf : cg = true → Fits k' u) :
    OpV P n E C ⟨dst, .convert s t x, ty, pos, af, g⟩ cg (.int k' u) :=
  ov_run fun h a ha w _ => by
    obtain ⟨ds, hs⟩ := Option.isSome_iff_exists.1 hs
    simp [execOp, ha.evalc hx (h1 h), convert, run_underlying hs, run_underlying ht, Conv.intToInt, wrap_fits (hf h)]

/-! ### bools -/
theorem ov_not {b : Bool} (hx : ev E x = some (cx, .bool b)) (h1 : Imp cg cx) : OpV P n E C ⟨dst, .unOp .not tx x, ty, pos, af, g⟩ cg (.bool (!b)) :=
  ov_run fun h a ha w _ => by simp [execOp, ha.evalc hx (h1 h), Op.unary]

theorem run_beql {b b' : Bool} {w : World} (ht : P.underlying tx = some .bool) : (binOp .eql tx (.bool b) (.bool b')).run P w = .ok (.bool (decide (b = b'))) w := by
  have h : ∀ d : Nat, (Op.equalIn (d + 1) tx (.bool b) (.bool b')).run P w = .ok (b == b') w := fun d => run_equalIn_bool' w d tx b b' ht
  simp only [binOp]
  simp [Op.equal, Op.maxDepth, h 9999]
  cases b <;> cases b' <;> rfl
theorem run_bneq {b b' : Bool} {w : World} (ht : P.underlying tx = some .bool) : (binOp .neq tx (.bool b) (.bool b')).run P w = .ok (.bool (!decide (b = b'))) w := by
  have h : ∀ d : Nat, (Op.equalIn (d + 1) tx (.bool b) (.bool b')).run P w = .ok (b == b') w := fun d => run_equalIn_bool' w d tx b b' ht
  simp only [binOp]
  simp [Op.equal, Op.maxDepth, h 9999]
  cases b <;> cases b' <;> rfl
theorem ov_beql {b b' : Bool} (hx : ev E x = some (cx, .bool b)) (hy : ev E y = some (cy, .bool b')) (h1 : Imp cg cx) (h2 : Imp cg cy) (ht : P.underlying tx = some .bool) :
    OpV P n E C ⟨dst, .binOp .eql tx x y tyy, ty, pos, af, g⟩ cg (.bool (decide (b = b'))) :=
  ov_run fun h _ ha _ _ => run_bin (ha.evalc hx (h1 h)) (ha.evalc hy (h2 h)) guard_bool (run_beql ht)
theorem ov_bneq {b b' : Bool} (hx : ev E x = some (cx, .bool b)) (hy : ev E y = some (cy, .bool b')) (h1 : Imp cg cx) (h2 : Imp cg cy) (ht : P.underlying tx = some .bool) :
    OpV P n E C ⟨dst, .binOp .neq tx x y tyy, ty, pos, af, g⟩ cg (.bool (!decide (b = b'))) :=
  ov_run fun h _ ha _ _ => run_bin (ha.evalc hx (h1 h)) (ha.evalc hy (h2 h)) guard_bool (run_bneq ht)

/-! ### strings -/
variable {s r : List UInt8}
set_option linter.unusedVariables false in
theorem ov_str {op : BinOp} {v : Value} (hx : ev E x = some (cx, str s)) (hy : ev E y = some (cy, str r)) (h1 : Imp cg cx) (h2 : Imp cg cy)
    (hr : cg = true → ∀ w, (binOp op tx (str s) (str r)).run P w = .ok v w) : OpV P n E C ⟨dst, .binOp op tx x y tyy, ty, pos, af, g⟩ cg v :=
  ov_run fun h a ha w _ => run_bin (ha.evalc hx (h1 h)) (ha.evalc hy (h2 h)) guard_str (hr h w)
theorem beq_dec {α : Type} [BEq α] [LawfulBEq α] [DecidableEq α] (a b : α) : (a == b) = decide (a = b) := by
  by_cases h : a = b <;> simp [h]
theorem ov_seql (hx : ev E x = some (cx, str s)) (hy : ev E y = some (cy, str r)) (h1 : Imp cg cx) (h2 : Imp cg cy) :
    OpV P n E C ⟨dst, .binOp .eql tx x y tyy, ty, pos, af, g⟩ cg (.bool (decide (s = r))) :=
  ov_str hx hy h1 h2 fun h w => by simp [binOp, Op.stringOp, beq_dec]
theorem ov_sneq (hx : ev E x = some (cx, str s)) (hy : ev E y = some (cy, str r)) (h1 : Imp cg cx) (h2 : Imp cg cy) :
    OpV P n E C ⟨dst, .binOp .neq tx x y tyy, ty, pos, af, g⟩ cg (.bool (!decide (s = r))) :=
  ov_str hx hy h1 h2 fun h w => by simp [binOp, Op.stringOp, beq_dec]
theorem str_append (s r : List UInt8) : (ByteArray.mk s.toArray) ++ (ByteArray.mk r.toArray) = ByteArray.mk (s ++ r).toArray := by
  apply ByteArray.ext
  simp
theorem size_str (s : List UInt8) : (ByteArray.mk s.toArray).size = s.length := by simp [ByteArray.size]
theorem ov_sadd (hx : ev E x = some (cx, str s)) (hy : ev E y = some (cy, str r)) (h1 : Imp cg cx) (h2 : Imp cg cy) (hf : cg = true → s.length + r.length ≤ 9223372036854775807) :
    OpV P n E C ⟨dst, .binOp .add tx x y tyy, ty, pos, af, g⟩ cg (str (s ++ r)) :=
  ov_str hx hy h1 h2 fun h w => by
    have hf := hf h
    have h3 : ¬ (((s.length + r.length : Nat) : Int) > IntKind.i64.max) := by simp [IntKind.max, IntKind.signed, IntKind.bits]; omega
    simp only [binOp, Op.stringOp, size_str, str_append]
    rw [if_neg h3]
    rfl
theorem ov_slen {t : TypeId} (hx : ev E x = some (cx, str s)) (h1 : Imp cg cx) (ht : P.underlying t = some .string) :
    OpV P n E C ⟨dst, .call ⟨.builtin .len, #[x], #[t]⟩, ty, pos, af, g⟩ cg (i64 (s.length : Int)) :=
  ov_run fun h a ha w _ => by
    have := ha.evalc hx (h1 h)
    simp [execOp, resolve, invoke, builtin, this, Builtin.len_, run_underlying ht, goInt, size_str]
theorem ov_sindex {k1 : IntKind} {i : Nat} (hx : ev E x = some (cx, str s)) (hy : ev E y = some (cy, .int k1 u)) (hi : u = (i : Int)) (h1 : Imp cg cx) (h2 : Imp cg cy) (ht : P.underlying tx = some .string) (hf : cg = true → i < s.length) :
    OpV P n E C ⟨dst, .index tx x y, ty, pos, af, g⟩ cg (byt (s.getD i 0)) :=
  ov_run fun h a ha w _ => by
    have hf := hf h
    subst hi
    simp only [execOp, ha.evalc hx (h1 h), ha.evalc hy (h2 h)]
    have h0 : 0 ≤ (i : Int) ∧ (i : Int) < ((ByteArray.mk s.toArray).size : Int) := by rw [size_str]; omega
    rw [Sem.run_bind, run_index_string w tx _ _ _ ht, dif_pos h0]
    have he : (ByteArray.mk s.toArray)[((i : Int)).toNat]'(by omega) = s.getD i 0 := by
      have : (ByteArray.mk s.toArray)[((i : Int)).toNat]'(by omega) = s[i] := by simp [ByteArray.getElem_eq_getElem_data]
      rw [this]; simp [List.getD_eq_getElem?_getD, hf]
    rw [he]; rfl
theorem extract_str (s : List UInt8) (a b : Nat) : (ByteArray.mk s.toArray).extract a b = ByteArray.mk ((s.drop a).take (b - a)).toArray := ByteArray.extract_mk s a b
/-- s[a:b], s[a:], s[:b] -/
theorem ov_slice {lo hi : Operand} {cl ch : Bool} {k1 k2 : IntKind} {i j : Nat} (hx : ev E x = some (cx, str s)) (hl : ev E lo = some (cl, .int k1 u)) (hh : ev E hi = some (ch, .int k2 z)) (hi1 : u = (i : Int)) (hi2 : z = (j : Int))
    (h1 : Imp cg cx) (h2 : Imp cg cl) (h3 : Imp cg ch) (ht : P.underlying tx = some .string) (hf : cg = true → i ≤ j ∧ j ≤ s.length) :
    OpV P n E C ⟨dst, .slice tx x (some lo) (some hi) none, ty, pos, af, g⟩ cg (str ((s.drop i).take (j - i))) :=
  ov_run fun h a ha w _ => by
    obtain ⟨ha1, hb1⟩ := hf h
    subst hi1; subst hi2
    have := run_slice_string (P := P) w tx ⟨s.toArray⟩ k1 k2 (i : Int) (j : Int) ht (by omega) (by omega) (by rw [size_str]; omega)
    simp only [execOp, ha.evalc hx (h1 h), Option.map, ha.evalc hl (h2 h), ha.evalc hh (h3 h), Sem.run_bind, run_sliceAt_string w tx _ _ _ _ ht, this]
    simp [extract_str]
theorem ov_from {lo : Operand} {cl : Bool} {k1 : IntKind} {i : Nat} (hx : ev E x = some (cx, str s)) (hl : ev E lo = some (cl, .int k1 u)) (hi1 : u = (i : Int))
    (h1 : Imp cg cx) (h2 : Imp cg cl) (ht : P.underlying tx = some .string) (hf : cg = true → i ≤ s.length) :
    OpV P n E C ⟨dst, .slice tx x (some lo) none none, ty, pos, af, g⟩ cg (str (s.drop i)) :=
  ov_run fun h a ha w _ => by
    have ha1 := hf h
    subst hi1
    have := run_slice_string_from_if (P := P) w tx ⟨s.toArray⟩ k1 (i : Int) ht
    simp only [execOp, ha.evalc hx (h1 h), Option.map, ha.evalc hl (h2 h), Sem.run_bind, run_sliceAt_string w tx _ _ _ _ ht, this]
    rw [size_str, if_pos (by omega)]
    simp [extract_str, List.take_of_length_le]
theorem ov_to {hi : Operand} {ch : Bool} {k2 : IntKind} {j : Nat} (hx : ev E x = some (cx, str s)) (hh : ev E hi = some (ch, .int k2 z)) (hi2 : z = (j : Int))
    (h1 : Imp cg cx) (h3 : Imp cg ch) (ht : P.underlying tx = some .string) (hf : cg = true → j ≤ s.length) :
    OpV P n E C ⟨dst, .slice tx x none (some hi) none, ty, pos, af, g⟩ cg (str (s.take j)) :=
  ov_run fun h a ha w _ => by
    have hb1 := hf h
    subst hi2
    have := run_slice_string_to_if (P := P) w tx ⟨s.toArray⟩ k2 (j : Int) ht
    simp only [execOp, ha.evalc hx (h1 h), Option.map, ha.evalc hh (h3 h), Sem.run_bind, run_sliceAt_string w tx _ _ _ _ ht, this]
    rw [size_str, if_pos (by omega)]
    simp [extract_str]

/-! ### tuples, functions -/
theorem tup2_0 {a b : Value} : (#[a, b] : Array Value)[0]? = some a := rfl
theorem tup2_1 {a b : Value} : (#[a, b] : Array Value)[1]? = some b := rfl
theorem tup3_0 {a b c : Value} : (#[a, b, c] : Array Value)[0]? = some a := rfl
theorem tup3_1 {a b c : Value} : (#[a, b, c] : Array Value)[1]? = some b := rfl
theorem tup3_2 {a b c : Value} : (#[a, b, c] : Array Value)[2]? = some c := rfl
theorem ov_extract {vs : Array Value} {i : Nat} {v : Value} (hx : ev E x = some (cx, .tuple vs)) (hi : vs[i]? = some v) (h1 : Imp cg cx) : OpV P n E C ⟨dst, .extract x i, ty, pos, af, g⟩ cg v :=
  ov_run fun h a ha w _ => by simp [execOp, ha.evalc hx (h1 h), Instr.extract, hi]

/-! ### calls with one result, whatever the world -/
def evs (E : Env) : List Operand → Option (List Value)
  | [] => some []
  | x :: l => match ev E x with
    | some (true, v) => (evs E l).map (v :: ·)
    | _ => none
theorem evs_eval {a : Act} (ha : Holds n E a) : ∀ {l : List Operand} {vs : List Value}, evs E l = some vs → l.map a.eval = vs
  | [], vs, h => by simp [evs] at h; simp [h]
  | x :: l, vs, h => by
    simp only [evs] at h
    cases hx : ev E x with
    | none => simp [hx] at h
    | some cv =>
      obtain ⟨c, v⟩ := cv
      cases c with
      | false => simp [hx] at h
      | true =>
        simp only [hx] at h
        cases hl : evs E l with
        | none => simp [hl] at h
        | some us =>
          simp [hl] at h
          rw [← h, List.map_cons, evs_eval ha hl, ha.eval hx]
/-- The same for an operation under a guard. -/
def evg (cg : Bool) (E : Env) : List Operand → Option (List (Bool × Value))
  | [] => some []
  | x :: l => match ev E x with
    | some cv => (evg cg E l).map (cv :: ·)
    | none => none
theorem evg_eval {a : Act} (ha : Holds n E a) : ∀ {l : List Operand} {vs : List (Bool × Value)}, evg cg E l = some vs → (∀ p ∈ vs, p.1 = true) → l.map a.eval = vs.map (·.2)
  | [], vs, h, _ => by simp [evg] at h; simp [h]
  | x :: l, vs, h, hp => by
    simp only [evg] at h
    cases hx : ev E x with
    | none => simp [hx] at h
    | some cv =>
      simp only [hx] at h
      cases hl : evg cg E l with
      | none => simp [hl] at h
      | some us =>
        simp [hl] at h
        subst h
        rw [List.map_cons, evg_eval ha hl (fun p h => hp p (List.mem_cons_of_mem _ h)), ha.evalc (c := cv.1) (v := cv.2) hx (hp cv List.mem_cons_self), List.map_cons]
/-! ### the same with what is plainly true or false said so -/
theorem dec_self {α : Type} [DecidableEq α] (a : α) : decide (a = a) = true := by simp
theorem ndec_self {α : Type} [DecidableEq α] (a : α) : (!decide (a = a)) = false := by simp
theorem dec_t {p : Prop} [Decidable p] (h : p) : decide p = true := decide_eq_true h
theorem ndec_t {p : Prop} [Decidable p] (h : p) : (!decide p) = false := by simp [h]
theorem dec_f {p : Prop} [Decidable p] (h : ¬ p) : decide p = false := decide_eq_false h
theorem ndec_f {p : Prop} [Decidable p] (h : ¬ p) : (!decide p) = true := by simp [h]
theorem band_tl (x : Bool) : (true && x) = x := rfl
theorem band_tr (x : Bool) : (x && true) = x := by cases x <;> rfl
theorem band_fl (x : Bool) : (false && x) = false := rfl
theorem bor_tl (x : Bool) : (true || x) = true := rfl
theorem bor_fl (x : Bool) : (false || x) = x := rfl
theorem bor_fr (x : Bool) : (x || false) = x := by cases x <;> rfl
theorem bnot_t : (!true) = false := rfl
theorem bnot_f : (!false) = true := rfl
theorem opv_eq {o : Oper} {b r : Bool} (h : OpV P n E C o cg (.bool b)) (hr : b = r) : OpV P n E C o cg (.bool r) := hr ▸ h
end
end Go.Eng
