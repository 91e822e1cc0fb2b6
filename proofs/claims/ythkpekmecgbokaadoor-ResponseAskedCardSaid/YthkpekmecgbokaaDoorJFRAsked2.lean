/-
  Texts of a proof, joined: EngH, BytA, Shelf, Glob, Wld, RspS, RspA, RspP, Prs, RspB.
-/
import Derived.Test.YthkpekmecgbokaaDoorProg
import Derived.Shelf.Strings.Trim
import Derived.Shelf.Small.Utf8
import Derived.Shelf.Small.Strs
import Derived.Shelf.Utf8.RuneCount
import Derived.Shelf.Strconv.Atoi
import Derived.Shelf.Strconv.Itoa0
import Derived.Shelf.Strconv.Itoa1
import Derived.Shelf.LaysM
import Derived.Shelf.Strconv.Itoa2
import Derived.Shelf.Strconv.Itoa3
import Derived.Shelf.Strconv.AtoiErrFast
import Derived.Shelf.Strconv.ParseIntEmpty
import Derived.Shelf.Strconv.AtoiFail
import Derived.Shelf.Strconv.Clone
import Derived.Shelf.Strconv.SyntaxError
import Derived.Shelf.LaysC
import Derived.Shelf.Strconv.ToError
import Derived.Shelf.Strconv.AtoiErr
import Derived.Shelf.Strconv.ErrVar
import Derived.Shelf.Strconv.Lower
import Derived.Shelf.Strconv.ParseUint10
import Derived.Shelf.Strconv.ParseUint10Empty
import Derived.Shelf.Strconv.ParseUint10Any
import Derived.Shelf.Strconv.ParseInt10
import Derived.Shelf.Strconv.AtoiLong
import Derived.Shelf.Strconv.AtoiInnerAll
import Derived.Shelf.Strconv.RangeError
import Derived.Shelf.Strconv.ToErrorRange
import Derived.Shelf.Strconv.AtoiAll
import Derived.Shelf.Strconv.ErrVarAll
import Derived.Shelf.Strconv.ParseUintEmpty
import Derived.Shelf.Strconv.ParseUint10b64
import Derived.Shelf.Strconv.ParseUint10b32
import Derived.Shelf.Strconv.ParseUint10b16
import Derived.Shelf.Strconv.ParseUint10b8
import Derived.Shelf.Strconv.ParseUint10At
import Derived.Shelf.Strconv.ParseInt10At64
import Derived.Shelf.Strconv.ParseInt10At32
import Derived.Shelf.Strconv.ParseInt10At16
import Derived.Shelf.Strconv.ParseInt10At8
import Derived.Shelf.Strconv.ParseInt10All
import Derived.Shelf.Strings.Search1
import Derived.Shelf.Strings.Search2
import Derived.Shelf.Strings.Search3
import Derived.Shelf.Strings.Cut
import Derived.Shelf.Strings.Count
import Derived.Shelf.Strings.Shaped
import Derived.Shelf.Strings.Prefix
import Derived.Shelf.Strings.Split
import Derived.Shelf.Strings.SplitShaped
import Derived.Shelf.Unicode.Decode
import Derived.Shelf.Strings.Runes
import Derived.Shelf.Strings.RuneCount
import Derived.Shelf.Strings.AsciiSet
import Derived.Shelf.Strings.Explode
import Derived.Shelf.Unicode.DecodeSlow
import Derived.Shelf.Unicode.DecodeAny
import Derived.Shelf.Unicode.DecodeLast
import Derived.Lib.LaidTab
import Derived.Lib.ItoaNum
import Derived.Sort.Grow
import Derived.Test.YthkpekmecgbokaaDoorCards
import Derived.Test.YthkpekmecgbokaaDoorTie
import Derived.WalkKit
import Derived.ProofKit
import Derived.OpenShut
import Derived.ReadAgain
import Derived.MakeChecks
import Derived.LaidSub
import Derived.Deep.DeepHandedRow
import Derived.Carry
import Derived.SevenTiedAt
import Derived.Lib.ItoaMem
import Derived.Lib.TrimByte
import Derived.Test.YthkpekmecgbokaaDoorJFRAsked1
/-
  The engine's rules once more: their routine premises are closed by tactics of their own, so that the texts that use them stay small. Nothing of the program stands here.
-/
namespace Go.Eng
open Go.RowKit
set_option linter.unusedVariables false
set_option linter.unusedSimpArgs false
section
variable {P : Program} {n : Nat} {E : Env} {k : Kont} {ops : Array Oper} {rest : List Oper} {cg : Bool}
variable {dst : Option Tmp} {ty : TypeId} {pos : String} {af : Array Edge} {g : Option (Nat × Bool)}
variable {w0 : World} {bs : List Nat} {H : List (Nat × Obj)} {M : Ghost} {C : World → Prop}
variable {x y z : Operand} {cx cy : Bool} {tx tyy : TypeId}

theorem xo_move {x : Operand} {c : Bool} {v : Value} (hx : ev E x = some (c, v)) (hc : Imp cg c := by first | with_reducible exact fun _ => rfl | with_reducible exact fun h => h | exact fun _ => rfl | exact fun h => h | (intro himp; simp_all; done)) : OpV P n E C ⟨dst, .move x, ty, pos, af, g⟩ cg v :=
  ov_move (hx := hx) (hc := hc)
theorem xo_assign {x : Operand} {c : Bool} {v : Value} (hx : ev E x = some (c, v)) (hc : Imp cg c := by first | with_reducible exact fun _ => rfl | with_reducible exact fun h => h | exact fun _ => rfl | exact fun h => h | (intro himp; simp_all; done)) : OpV P n E C ⟨dst, .assign x, ty, pos, af, g⟩ cg v :=
  ov_assign (hx := hx) (hc := hc)
theorem xo_extract {vs : Array Value} {i : Nat} {v : Value} (hx : ev E x = some (cx, .tuple vs)) (hi : vs[i]? = some v := by first | exact tup2_0 | exact tup2_1 | exact tup3_0 | exact tup3_1 | exact tup3_2 | rfl) (h1 : Imp cg cx := by first | with_reducible exact fun _ => rfl | with_reducible exact fun h => h | exact fun _ => rfl | exact fun h => h | (intro himp; simp_all; done)) : OpV P n E C ⟨dst, .extract x i, ty, pos, af, g⟩ cg v :=
  ov_extract (hx := hx) (hi := hi) (h1 := h1)
theorem xo_slen {s : List UInt8} {t : TypeId} (hx : ev E x = some (cx, str s)) (h1 : Imp cg cx := by first | with_reducible exact fun _ => rfl | with_reducible exact fun h => h | exact fun _ => rfl | exact fun h => h | (intro himp; simp_all; done)) (ht : P.underlying t = some .string := by rfl) : OpV P n E C ⟨dst, .call ⟨.builtin .len, #[x], #[t]⟩, ty, pos, af, g⟩ cg (i64 (s.length : Int)) :=
  ov_slen (hx := hx) (h1 := h1) (ht := ht)
theorem xo_len {t e : TypeId} {a0 : Option Addr} {len cap : Nat} (hx : ev E x = some (cx, .slice a0 len cap)) (h1 : Imp cg cx := by first | with_reducible exact fun _ => rfl | with_reducible exact fun h => h | exact fun _ => rfl | exact fun h => h | (intro himp; simp_all; done)) (ht : P.underlying t = some (.slice e) := by rfl) : OpV P n E C ⟨dst, .call ⟨.builtin .len, #[x], #[t]⟩, ty, pos, af, g⟩ cg (i64 (len : Int)) :=
  ov_len (hx := hx) (h1 := h1) (ht := ht)
theorem xo_aeql {xs ys : Array Value} {fs : Array Field} {r : Bool} (hx : ev E x = some (cx, .agg xs)) (hy : ev E y = some (cy, .agg ys)) (h1 : Imp cg cx := by first | with_reducible exact fun _ => rfl | with_reducible exact fun h => h | exact fun _ => rfl | exact fun h => h | (intro himp; simp_all; done)) (h2 : Imp cg cy := by first | with_reducible exact fun _ => rfl | with_reducible exact fun h => h | exact fun _ => rfl | exact fun h => h | (intro himp; simp_all; done)) (hm : P.eqGuardType P.depth tx = false := by kernel_rfl) (ht : P.underlying tx = some (.struct fs) := by rfl) (hst : P.stoodInHeld tx = false := by kernel_rfl) (hr : EqF P 9999 xs ys fs.toList r := by repeat (first | exact eqG_nil | apply eqG_str (by kernel_rfl) (by rfl) (by rfl) (by rfl) | apply eqG_int (by kernel_rfl) (by rfl) (by rfl) (by rfl) | apply eqG_bool (by kernel_rfl) (by rfl) (by rfl) (by rfl))) : OpV P n E C ⟨dst, .binOp .eql tx x y tyy, ty, pos, af, g⟩ cg (.bool r) :=
  ov_aeql (hx := hx) (hy := hy) (h1 := h1) (h2 := h2) (hm := hm) (ht := ht) (hst := hst) (hr := hr)
theorem xo_aneq {xs ys : Array Value} {fs : Array Field} {r : Bool} (hx : ev E x = some (cx, .agg xs)) (hy : ev E y = some (cy, .agg ys)) (h1 : Imp cg cx := by first | with_reducible exact fun _ => rfl | with_reducible exact fun h => h | exact fun _ => rfl | exact fun h => h | (intro himp; simp_all; done)) (h2 : Imp cg cy := by first | with_reducible exact fun _ => rfl | with_reducible exact fun h => h | exact fun _ => rfl | exact fun h => h | (intro himp; simp_all; done)) (hm : P.eqGuardType P.depth tx = false := by kernel_rfl) (ht : P.underlying tx = some (.struct fs) := by rfl) (hst : P.stoodInHeld tx = false := by kernel_rfl) (hr : EqF P 9999 xs ys fs.toList r := by repeat (first | exact eqG_nil | apply eqG_str (by kernel_rfl) (by rfl) (by rfl) (by rfl) | apply eqG_int (by kernel_rfl) (by rfl) (by rfl) (by rfl) | apply eqG_bool (by kernel_rfl) (by rfl) (by rfl) (by rfl))) : OpV P n E C ⟨dst, .binOp .neq tx x y tyy, ty, pos, af, g⟩ cg (.bool (!r)) :=
  ov_aneq (hx := hx) (hy := hy) (h1 := h1) (h2 := h2) (hm := hm) (ht := ht) (hst := hst) (hr := hr)
theorem xo_lss {kd : IntKind} {u : Int} {z : Int} (hx : ev E x = some (cx, .int kd u)) (hy : ev E y = some (cy, .int kd z)) (h1 : Imp cg cx := by first | with_reducible exact fun _ => rfl | with_reducible exact fun h => h | exact fun _ => rfl | exact fun h => h | (intro himp; simp_all; done)) (h2 : Imp cg cy := by first | with_reducible exact fun _ => rfl | with_reducible exact fun h => h | exact fun _ => rfl | exact fun h => h | (intro himp; simp_all; done)) : OpV P n E C ⟨dst, .binOp .lss tx x y tyy, ty, pos, af, g⟩ cg (.bool (decide (u < z))) :=
  ov_lss (hx := hx) (hy := hy) (h1 := h1) (h2 := h2)
theorem xo_leq {kd : IntKind} {u : Int} {z : Int} (hx : ev E x = some (cx, .int kd u)) (hy : ev E y = some (cy, .int kd z)) (h1 : Imp cg cx := by first | with_reducible exact fun _ => rfl | with_reducible exact fun h => h | exact fun _ => rfl | exact fun h => h | (intro himp; simp_all; done)) (h2 : Imp cg cy := by first | with_reducible exact fun _ => rfl | with_reducible exact fun h => h | exact fun _ => rfl | exact fun h => h | (intro himp; simp_all; done)) : OpV P n E C ⟨dst, .binOp .leq tx x y tyy, ty, pos, af, g⟩ cg (.bool (decide (u ≤ z))) :=
  ov_leq (hx := hx) (hy := hy) (h1 := h1) (h2 := h2)
theorem xo_gtr {kd : IntKind} {u : Int} {z : Int} (hx : ev E x = some (cx, .int kd u)) (hy : ev E y = some (cy, .int kd z)) (h1 : Imp cg cx := by first | with_reducible exact fun _ => rfl | with_reducible exact fun h => h | exact fun _ => rfl | exact fun h => h | (intro himp; simp_all; done)) (h2 : Imp cg cy := by first | with_reducible exact fun _ => rfl | with_reducible exact fun h => h | exact fun _ => rfl | exact fun h => h | (intro himp; simp_all; done)) : OpV P n E C ⟨dst, .binOp .gtr tx x y tyy, ty, pos, af, g⟩ cg (.bool (decide (z < u))) :=
  ov_gtr (hx := hx) (hy := hy) (h1 := h1) (h2 := h2)
theorem xo_geq {kd : IntKind} {u : Int} {z : Int} (hx : ev E x = some (cx, .int kd u)) (hy : ev E y = some (cy, .int kd z)) (h1 : Imp cg cx := by first | with_reducible exact fun _ => rfl | with_reducible exact fun h => h | exact fun _ => rfl | exact fun h => h | (intro himp; simp_all; done)) (h2 : Imp cg cy := by first | with_reducible exact fun _ => rfl | with_reducible exact fun h => h | exact fun _ => rfl | exact fun h => h | (intro himp; simp_all; done)) : OpV P n E C ⟨dst, .binOp .geq tx x y tyy, ty, pos, af, g⟩ cg (.bool (decide (z ≤ u))) :=
  ov_geq (hx := hx) (hy := hy) (h1 := h1) (h2 := h2)
theorem xo_add {kd : IntKind} {u : Int} {z : Int} (hx : ev E x = some (cx, .int kd u)) (hy : ev E y = some (cy, .int kd z)) (h1 : Imp cg cx := by first | with_reducible exact fun _ => rfl | with_reducible exact fun h => h | exact fun _ => rfl | exact fun h => h | (intro himp; simp_all; done)) (h2 : Imp cg cy := by first | with_reducible exact fun _ => rfl | with_reducible exact fun h => h | exact fun _ => rfl | exact fun h => h | (intro himp; simp_all; done)) (hf : cg = true → Fits kd (u + z) := by intro hcg; clear hcg; first | exact fits_i64 (by omega) (by omega) | exact fits_u8 (by omega) (by omega) | exact fits_i32 (by omega) (by omega) | exact fits_u64 (by omega) (by omega) | exact fits_u32 (by omega) (by omega)) : OpV P n E C ⟨dst, .binOp .add tx x y tyy, ty, pos, af, g⟩ cg (.int kd (u + z)) :=
  ov_add (hx := hx) (hy := hy) (h1 := h1) (h2 := h2) (hf := hf)
theorem xo_sub {kd : IntKind} {u : Int} {z : Int} (hx : ev E x = some (cx, .int kd u)) (hy : ev E y = some (cy, .int kd z)) (h1 : Imp cg cx := by first | with_reducible exact fun _ => rfl | with_reducible exact fun h => h | exact fun _ => rfl | exact fun h => h | (intro himp; simp_all; done)) (h2 : Imp cg cy := by first | with_reducible exact fun _ => rfl | with_reducible exact fun h => h | exact fun _ => rfl | exact fun h => h | (intro himp; simp_all; done)) (hf : cg = true → Fits kd (u - z) := by intro hcg; clear hcg; first | exact fits_i64 (by omega) (by omega) | exact fits_u8 (by omega) (by omega) | exact fits_i32 (by omega) (by omega) | exact fits_u64 (by omega) (by omega) | exact fits_u32 (by omega) (by omega)) : OpV P n E C ⟨dst, .binOp .sub tx x y tyy, ty, pos, af, g⟩ cg (.int kd (u - z)) :=
  ov_sub (hx := hx) (hy := hy) (h1 := h1) (h2 := h2) (hf := hf)
theorem xo_mul {kd : IntKind} {u : Int} {z : Int} (hx : ev E x = some (cx, .int kd u)) (hy : ev E y = some (cy, .int kd z)) (h1 : Imp cg cx := by first | with_reducible exact fun _ => rfl | with_reducible exact fun h => h | exact fun _ => rfl | exact fun h => h | (intro himp; simp_all; done)) (h2 : Imp cg cy := by first | with_reducible exact fun _ => rfl | with_reducible exact fun h => h | exact fun _ => rfl | exact fun h => h | (intro himp; simp_all; done)) (hf : cg = true → Fits kd (u * z) := by intro hcg; clear hcg; first | exact fits_i64 (by omega) (by omega) | exact fits_u8 (by omega) (by omega) | exact fits_i32 (by omega) (by omega) | exact fits_u64 (by omega) (by omega) | exact fits_u32 (by omega) (by omega)) : OpV P n E C ⟨dst, .binOp .mul tx x y tyy, ty, pos, af, g⟩ cg (.int kd (u * z)) :=
  ov_mul (hx := hx) (hy := hy) (h1 := h1) (h2 := h2) (hf := hf)
theorem xo_quo {kd : IntKind} {u : Int} {z : Int} (hx : ev E x = some (cx, .int kd u)) (hy : ev E y = some (cy, .int kd z)) (h1 : Imp cg cx := by first | with_reducible exact fun _ => rfl | with_reducible exact fun h => h | exact fun _ => rfl | exact fun h => h | (intro himp; simp_all; done)) (h2 : Imp cg cy := by first | with_reducible exact fun _ => rfl | with_reducible exact fun h => h | exact fun _ => rfl | exact fun h => h | (intro himp; simp_all; done)) (hf : cg = true → 0 ≤ u ∧ 0 < z ∧ Fits kd (u / z) := by intro _; exact ⟨by omega, by omega, by first | exact fits_i64 (by omega) (by omega) | exact fits_u8 (by omega) (by omega)⟩) : OpV P n E C ⟨dst, .binOp .quo tx x y tyy, ty, pos, af, g⟩ cg (.int kd (u / z)) :=
  ov_quo (hx := hx) (hy := hy) (h1 := h1) (h2 := h2) (hf := hf)
theorem xo_rem {kd : IntKind} {u : Int} {z : Int} (hx : ev E x = some (cx, .int kd u)) (hy : ev E y = some (cy, .int kd z)) (h1 : Imp cg cx := by first | with_reducible exact fun _ => rfl | with_reducible exact fun h => h | exact fun _ => rfl | exact fun h => h | (intro himp; simp_all; done)) (h2 : Imp cg cy := by first | with_reducible exact fun _ => rfl | with_reducible exact fun h => h | exact fun _ => rfl | exact fun h => h | (intro himp; simp_all; done)) (hf : cg = true → 0 ≤ u ∧ 0 < z := by intro _; exact ⟨by omega, by omega⟩) : OpV P n E C ⟨dst, .binOp .rem tx x y tyy, ty, pos, af, g⟩ cg (.int kd (u % z)) :=
  ov_rem (hx := hx) (hy := hy) (h1 := h1) (h2 := h2) (hf := hf)
theorem xo_sindex {u : Int} {s : List UInt8} {k1 : IntKind} {i : Nat} (hx : ev E x = some (cx, str s)) (hy : ev E y = some (cy, .int k1 u)) (hi : u = (i : Int) := by (fail_if_success (with_reducible show (987654321 : Int) = _)); repeat' (first | with_reducible exact nc_cast | with_reducible exact nc_lit | apply nc_add | apply nc_div | apply nc_mod | apply nc_mul | refine nc_sub (m := _) (n := _) nc_cast nc_lit (by omega) | refine nc_sub (m := _) (n := _) nc_cast nc_cast (by omega))) (h1 : Imp cg cx := by first | with_reducible exact fun _ => rfl | with_reducible exact fun h => h | exact fun _ => rfl | exact fun h => h | (intro himp; simp_all; done)) (h2 : Imp cg cy := by first | with_reducible exact fun _ => rfl | with_reducible exact fun h => h | exact fun _ => rfl | exact fun h => h | (intro himp; simp_all; done)) (ht : P.underlying tx = some .string := by rfl) (hf : cg = true → i < s.length := by intro hcg; first | omega | (simp at hcg; omega)) : OpV P n E C ⟨dst, .index tx x y, ty, pos, af, g⟩ cg (byt (s.getD i 0)) :=
  ov_sindex (hx := hx) (hy := hy) (hi := hi) (h1 := h1) (h2 := h2) (ht := ht) (hf := hf)
theorem xo_slice {u : Int} {z : Int} {s : List UInt8} {lo hi : Operand} {cl ch : Bool} {k1 k2 : IntKind} {i j : Nat} (hx : ev E x = some (cx, str s)) (hl : ev E lo = some (cl, .int k1 u)) (hh : ev E hi = some (ch, .int k2 z)) (hi1 : u = (i : Int) := by (fail_if_success (with_reducible show (987654321 : Int) = _)); repeat' (first | with_reducible exact nc_cast | with_reducible exact nc_lit | apply nc_add | apply nc_div | apply nc_mod | apply nc_mul | refine nc_sub (m := _) (n := _) nc_cast nc_lit (by omega) | refine nc_sub (m := _) (n := _) nc_cast nc_cast (by omega))) (hi2 : z = (j : Int) := by (fail_if_success (with_reducible show (987654321 : Int) = _)); repeat' (first | with_reducible exact nc_cast | with_reducible exact nc_lit | apply nc_add | apply nc_div | apply nc_mod | apply nc_mul | refine nc_sub (m := _) (n := _) nc_cast nc_lit (by omega) | refine nc_sub (m := _) (n := _) nc_cast nc_cast (by omega))) (h1 : Imp cg cx := by first | with_reducible exact fun _ => rfl | with_reducible exact fun h => h | exact fun _ => rfl | exact fun h => h | (intro himp; simp_all; done)) (h2 : Imp cg cl := by first | with_reducible exact fun _ => rfl | with_reducible exact fun h => h | exact fun _ => rfl | exact fun h => h | (intro himp; simp_all; done)) (h3 : Imp cg ch := by first | with_reducible exact fun _ => rfl | with_reducible exact fun h => h | exact fun _ => rfl | exact fun h => h | (intro himp; simp_all; done)) (ht : P.underlying tx = some .string := by rfl) (hf : cg = true → i ≤ j ∧ j ≤ s.length := by intro hcg; first | omega | (simp at hcg; omega)) : OpV P n E C ⟨dst, .slice tx x (some lo) (some hi) none, ty, pos, af, g⟩ cg (str ((s.drop i).take (j - i))) :=
  ov_slice (hx := hx) (hl := hl) (hh := hh) (hi1 := hi1) (hi2 := hi2) (h1 := h1) (h2 := h2) (h3 := h3) (ht := ht) (hf := hf)
theorem xo_from {u : Int} {s : List UInt8} {lo : Operand} {cl : Bool} {k1 : IntKind} {i : Nat} (hx : ev E x = some (cx, str s)) (hl : ev E lo = some (cl, .int k1 u)) (hi1 : u = (i : Int) := by (fail_if_success (with_reducible show (987654321 : Int) = _)); repeat' (first | with_reducible exact nc_cast | with_reducible exact nc_lit | apply nc_add | apply nc_div | apply nc_mod | apply nc_mul | refine nc_sub (m := _) (n := _) nc_cast nc_lit (by omega) | refine nc_sub (m := _) (n := _) nc_cast nc_cast (by omega))) (h1 : Imp cg cx := by first | with_reducible exact fun _ => rfl | with_reducible exact fun h => h | exact fun _ => rfl | exact fun h => h | (intro himp; simp_all; done)) (h2 : Imp cg cl := by first | with_reducible exact fun _ => rfl | with_reducible exact fun h => h | exact fun _ => rfl | exact fun h => h | (intro himp; simp_all; done)) (ht : P.underlying tx = some .string := by rfl) (hf : cg = true → i ≤ s.length := by intro hcg; first | omega | (simp at hcg; omega)) : OpV P n E C ⟨dst, .slice tx x (some lo) none none, ty, pos, af, g⟩ cg (str (s.drop i)) :=
  ov_from (hx := hx) (hl := hl) (hi1 := hi1) (h1 := h1) (h2 := h2) (ht := ht) (hf := hf)
theorem xo_to {z : Int} {s : List UInt8} {hi : Operand} {ch : Bool} {k2 : IntKind} {j : Nat} (hx : ev E x = some (cx, str s)) (hh : ev E hi = some (ch, .int k2 z)) (hi2 : z = (j : Int) := by (fail_if_success (with_reducible show (987654321 : Int) = _)); repeat' (first | with_reducible exact nc_cast | with_reducible exact nc_lit | apply nc_add | apply nc_div | apply nc_mod | apply nc_mul | refine nc_sub (m := _) (n := _) nc_cast nc_lit (by omega) | refine nc_sub (m := _) (n := _) nc_cast nc_cast (by omega))) (h1 : Imp cg cx := by first | with_reducible exact fun _ => rfl | with_reducible exact fun h => h | exact fun _ => rfl | exact fun h => h | (intro himp; simp_all; done)) (h3 : Imp cg ch := by first | with_reducible exact fun _ => rfl | with_reducible exact fun h => h | exact fun _ => rfl | exact fun h => h | (intro himp; simp_all; done)) (ht : P.underlying tx = some .string := by rfl) (hf : cg = true → j ≤ s.length := by intro hcg; first | omega | (simp at hcg; omega)) : OpV P n E C ⟨dst, .slice tx x none (some hi) none, ty, pos, af, g⟩ cg (str (s.take j)) :=
  ov_to (hx := hx) (hh := hh) (hi2 := hi2) (h1 := h1) (h3 := h3) (ht := ht) (hf := hf)
theorem xo_slcB {t e : TypeId} {lo hi : Operand} {cl ch : Bool} {k1 k2 : IntKind} {a0 : Option Addr} {len cap l h m : Nat} {u v : Int} (hx : ev E x = some (cx, .slice a0 len cap)) (hlo : ev E lo = some (cl, .int k1 u)) (hh : ev E hi = some (ch, .int k2 v)) (e1 : u = (l : Int) := by (fail_if_success (with_reducible show (987654321 : Int) = _)); repeat' (first | with_reducible exact nc_cast | with_reducible exact nc_lit | apply nc_add | apply nc_div | apply nc_mod | apply nc_mul | refine nc_sub (m := _) (n := _) nc_cast nc_lit (by omega) | refine nc_sub (m := _) (n := _) nc_cast nc_cast (by omega))) (e2 : v = (h : Int) := by (fail_if_success (with_reducible show (987654321 : Int) = _)); repeat' (first | with_reducible exact nc_cast | with_reducible exact nc_lit | apply nc_add | apply nc_div | apply nc_mod | apply nc_mul | refine nc_sub (m := _) (n := _) nc_cast nc_lit (by omega) | refine nc_sub (m := _) (n := _) nc_cast nc_cast (by omega))) (h1 : Imp cg cx := by first | with_reducible exact fun _ => rfl | with_reducible exact fun h => h | exact fun _ => rfl | exact fun h => h | (intro himp; simp_all; done)) (h2 : Imp cg cl := by first | with_reducible exact fun _ => rfl | with_reducible exact fun h => h | exact fun _ => rfl | exact fun h => h | (intro himp; simp_all; done)) (h3 : Imp cg ch := by first | with_reducible exact fun _ => rfl | with_reducible exact fun h => h | exact fun _ => rfl | exact fun h => h | (intro himp; simp_all; done)) (ht : P.underlying t = some (.slice e) := by rfl) (hs : (P.info? e).map (·.size) = some m := by first | exact (rfl : _ = some 1) | exact (rfl : _ = some 2) | exact (rfl : _ = some 3) | exact (rfl : _ = some 4) | exact (rfl : _ = some 6) | exact rfl) (hf : cg = true → l ≤ h ∧ h ≤ cap := by intro hcg; first | omega | (simp at hcg; omega)) : OpV P n E C ⟨dst, .slice t x (some lo) (some hi) none, ty, pos, af, g⟩ cg (slc a0 m l h cap) :=
  ov_slcB (hx := hx) (hlo := hlo) (hh := hh) (e1 := e1) (e2 := e2) (h1 := h1) (h2 := h2) (h3 := h3) (ht := ht) (hs := hs) (hf := hf)
theorem xo_slcFrom {t e : TypeId} {lo : Operand} {cl : Bool} {k1 : IntKind} {a0 : Option Addr} {len cap l m : Nat} {u : Int} (hx : ev E x = some (cx, .slice a0 len cap)) (hh : ev E lo = some (cl, .int k1 u)) (e1 : u = (l : Int) := by (fail_if_success (with_reducible show (987654321 : Int) = _)); repeat' (first | with_reducible exact nc_cast | with_reducible exact nc_lit | apply nc_add | apply nc_div | apply nc_mod | apply nc_mul | refine nc_sub (m := _) (n := _) nc_cast nc_lit (by omega) | refine nc_sub (m := _) (n := _) nc_cast nc_cast (by omega))) (h1 : Imp cg cx := by first | with_reducible exact fun _ => rfl | with_reducible exact fun h => h | exact fun _ => rfl | exact fun h => h | (intro himp; simp_all; done)) (h2 : Imp cg cl := by first | with_reducible exact fun _ => rfl | with_reducible exact fun h => h | exact fun _ => rfl | exact fun h => h | (intro himp; simp_all; done)) (ht : P.underlying t = some (.slice e) := by rfl) (hs : (P.info? e).map (·.size) = some m := by first | exact (rfl : _ = some 1) | exact (rfl : _ = some 2) | exact (rfl : _ = some 3) | exact (rfl : _ = some 4) | exact (rfl : _ = some 6) | exact rfl) (hf : cg = true → l ≤ len := by intro hcg; first | omega | (simp at hcg; omega)) : OpV P n E C ⟨dst, .slice t x (some lo) none none, ty, pos, af, g⟩ cg (slc a0 m l len cap) :=
  ov_slcFrom (hx := hx) (hh := hh) (e1 := e1) (h1 := h1) (h2 := h2) (ht := ht) (hs := hs) (hf := hf)
theorem xo_slcTo {t e : TypeId} {hi : Operand} {ch : Bool} {k1 : IntKind} {a0 : Option Addr} {len cap h m : Nat} {u : Int} (hx : ev E x = some (cx, .slice a0 len cap)) (hh : ev E hi = some (ch, .int k1 u)) (e1 : u = (h : Int) := by (fail_if_success (with_reducible show (987654321 : Int) = _)); repeat' (first | with_reducible exact nc_cast | with_reducible exact nc_lit | apply nc_add | apply nc_div | apply nc_mod | apply nc_mul | refine nc_sub (m := _) (n := _) nc_cast nc_lit (by omega) | refine nc_sub (m := _) (n := _) nc_cast nc_cast (by omega))) (h1 : Imp cg cx := by first | with_reducible exact fun _ => rfl | with_reducible exact fun h => h | exact fun _ => rfl | exact fun h => h | (intro himp; simp_all; done)) (h2 : Imp cg ch := by first | with_reducible exact fun _ => rfl | with_reducible exact fun h => h | exact fun _ => rfl | exact fun h => h | (intro himp; simp_all; done)) (ht : P.underlying t = some (.slice e) := by rfl) (hs : (P.info? e).map (·.size) = some m := by first | exact (rfl : _ = some 1) | exact (rfl : _ = some 2) | exact (rfl : _ = some 3) | exact (rfl : _ = some 4) | exact (rfl : _ = some 6) | exact rfl) (hf : cg = true → h ≤ cap := by intro hcg; first | omega | (simp at hcg; omega)) : OpV P n E C ⟨dst, .slice t x none (some hi) none, ty, pos, af, g⟩ cg (.slice a0 h cap) :=
  ov_slcTo (hx := hx) (hh := hh) (e1 := e1) (h1 := h1) (h2 := h2) (ht := ht) (hs := hs) (hf := hf)
theorem xo_slc3 {t e : TypeId} {hi mx : Operand} {ch cm : Bool} {k1 k2 : IntKind} {a0 : Option Addr} {len cap h c m : Nat} {u v : Int} (hx : ev E x = some (cx, .slice a0 len cap)) (hh : ev E hi = some (ch, .int k1 u)) (hm : ev E mx = some (cm, .int k2 v)) (e1 : u = (h : Int) := by (fail_if_success (with_reducible show (987654321 : Int) = _)); repeat' (first | with_reducible exact nc_cast | with_reducible exact nc_lit | apply nc_add | apply nc_div | apply nc_mod | apply nc_mul | refine nc_sub (m := _) (n := _) nc_cast nc_lit (by omega) | refine nc_sub (m := _) (n := _) nc_cast nc_cast (by omega))) (e2 : v = (c : Int) := by (fail_if_success (with_reducible show (987654321 : Int) = _)); repeat' (first | with_reducible exact nc_cast | with_reducible exact nc_lit | apply nc_add | apply nc_div | apply nc_mod | apply nc_mul | refine nc_sub (m := _) (n := _) nc_cast nc_lit (by omega) | refine nc_sub (m := _) (n := _) nc_cast nc_cast (by omega))) (h1 : Imp cg cx := by first | with_reducible exact fun _ => rfl | with_reducible exact fun h => h | exact fun _ => rfl | exact fun h => h | (intro himp; simp_all; done)) (h2 : Imp cg ch := by first | with_reducible exact fun _ => rfl | with_reducible exact fun h => h | exact fun _ => rfl | exact fun h => h | (intro himp; simp_all; done)) (h3 : Imp cg cm := by first | with_reducible exact fun _ => rfl | with_reducible exact fun h => h | exact fun _ => rfl | exact fun h => h | (intro himp; simp_all; done)) (ht : P.underlying t = some (.slice e) := by rfl) (hs : (P.info? e).map (·.size) = some m := by first | exact (rfl : _ = some 1) | exact (rfl : _ = some 2) | exact (rfl : _ = some 3) | exact (rfl : _ = some 4) | exact (rfl : _ = some 6) | exact rfl) (hf : cg = true → h ≤ c ∧ c ≤ cap := by intro hcg; first | omega | (simp at hcg; omega)) : OpV P n E C ⟨dst, .slice t x none (some hi) (some mx), ty, pos, af, g⟩ cg (.slice a0 h c) :=
  ov_slc3 (hx := hx) (hh := hh) (hm := hm) (e1 := e1) (e2 := e2) (h1 := h1) (h2 := h2) (h3 := h3) (ht := ht) (hs := hs) (hf := hf)
theorem xo_conv {kd : IntKind} {u : Int} {s t : TypeId} {k' : IntKind} (hx : ev E x = some (cx, .int kd u)) (h1 : Imp cg cx := by first | with_reducible exact fun _ => rfl | with_reducible exact fun h => h | exact fun _ => rfl | exact fun h => h | (intro himp; simp_all; done)) (hs : (P.underlying s).isSome = true := by rfl) (ht : P.underlying t = some (.int k') := by rfl) (hf : cg = true → Fits k' u := by intro hcg; clear hcg; first | exact fits_i64 (by omega) (by omega) | exact fits_u8 (by omega) (by omega) | exact fits_i32 (by omega) (by omega) | exact fits_u64 (by omega) (by omega) | exact fits_u32 (by omega) (by omega)) : OpV P n E C ⟨dst, .convert s t x, ty, pos, af, g⟩ cg (.int k' u) :=
  ov_conv (hx := hx) (h1 := h1) (hs := hs) (ht := ht) (hf := hf)
theorem xo_convBytes {src dst' e : TypeId} {b cap : Nat} {T : TypeId} {fz : Nat × Nat} {vs : List Value} {l : List UInt8} (hx : ev E x = some (cx, .slice (some ⟨b, 0, none⟩) vs.length cap)) (hm : (b, Obj.cells vs.toArray T fz) ∈ H := by first | exact List.Mem.head _ | exact List.Mem.tail _ (List.Mem.head _) | exact List.Mem.tail _ (List.Mem.tail _ (List.Mem.head _)) | exact List.Mem.tail _ (List.Mem.tail _ (List.Mem.tail _ (List.Mem.head _))) | exact List.Mem.tail _ (List.Mem.tail _ (List.Mem.tail _ (List.Mem.tail _ (List.Mem.head _)))) | exact List.mem_append_right _ (List.Mem.head _) | exact List.mem_append_right _ (List.Mem.tail _ (List.Mem.head _)) | exact List.mem_append_right _ (List.Mem.tail _ (List.Mem.tail _ (List.Mem.head _))) | exact List.mem_append_right _ (List.Mem.tail _ (List.Mem.tail _ (List.Mem.tail _ (List.Mem.head _)))) | exact List.Mem.tail _ (List.mem_append_right _ (List.Mem.head _)) | exact List.Mem.tail _ (List.mem_append_right _ (List.Mem.tail _ (List.Mem.head _))) | exact List.Mem.tail _ (List.mem_append_right _ (List.Mem.tail _ (List.Mem.tail _ (List.Mem.head _)))) | exact List.Mem.tail _ (List.mem_append_right _ (List.Mem.tail _ (List.Mem.tail _ (List.Mem.tail _ (List.Mem.head _))))) | exact List.Mem.tail _ (List.Mem.tail _ (List.mem_append_right _ (List.Mem.head _))) | exact List.Mem.tail _ (List.Mem.tail _ (List.mem_append_right _ (List.Mem.tail _ (List.Mem.head _)))) | exact List.Mem.tail _ (List.Mem.tail _ (List.mem_append_right _ (List.Mem.tail _ (List.Mem.tail _ (List.Mem.head _)))))) (h1 : Imp cg cx := by first | with_reducible exact fun _ => rfl | with_reducible exact fun h => h | exact fun _ => rfl | exact fun h => h | (intro himp; simp_all; done)) (hs : P.underlying src = some (.slice e) := by rfl) (he : P.underlying e = some (.int .u8) := by rfl) (hd : P.underlying dst' = some .string := by rfl) (hl : bytesOf vs = some l := by rfl) : OpV P n E (St w0 bs H M) ⟨dst, .convert src dst' x, ty, pos, af, g⟩ cg (str l) :=
  ov_convBytes (hx := hx) (h1 := h1) (hs := hs) (he := he) (hd := hd) (hm := hm) (hl := hl)
theorem xo_fieldAddr {T : TypeId} {fs : Array Field} {f : Field} {i m b o : Nat} (hx : ev E x = some (cx, .pointer (some ⟨b, o, none⟩))) (h1 : Imp cg cx := by first | with_reducible exact fun _ => rfl | with_reducible exact fun h => h | exact fun _ => rfl | exact fun h => h | (intro himp; simp_all; done)) (ht : P.underlying T = some (.struct fs) := by rfl) (hf : fs[i]? = some f := by rfl) (hs : (P.info? f.type).map (·.size) = some (m + 1) := by rfl) : OpV P n E C ⟨dst, .fieldAddr T x i, ty, pos, af, g⟩ cg (.pointer (some ⟨b, o + f.offset, none⟩)) :=
  ov_fieldAddr (hx := hx) (h1 := h1) (ht := ht) (hf := hf) (hs := hs)
theorem xo_load1 {t : TypeId} {d : TypeDesc} {b o : Nat} {cs : Array Value} {T : TypeId} {fz : Nat × Nat} {v : Value} (hx : ev E x = some (cx, .pointer (some ⟨b, o, none⟩))) (hm : (b, Obj.cells cs T fz) ∈ H := by first | exact List.Mem.head _ | exact List.Mem.tail _ (List.Mem.head _) | exact List.Mem.tail _ (List.Mem.tail _ (List.Mem.head _)) | exact List.Mem.tail _ (List.Mem.tail _ (List.Mem.tail _ (List.Mem.head _))) | exact List.Mem.tail _ (List.Mem.tail _ (List.Mem.tail _ (List.Mem.tail _ (List.Mem.head _)))) | exact List.mem_append_right _ (List.Mem.head _) | exact List.mem_append_right _ (List.Mem.tail _ (List.Mem.head _)) | exact List.mem_append_right _ (List.Mem.tail _ (List.Mem.tail _ (List.Mem.head _))) | exact List.mem_append_right _ (List.Mem.tail _ (List.Mem.tail _ (List.Mem.tail _ (List.Mem.head _)))) | exact List.Mem.tail _ (List.mem_append_right _ (List.Mem.head _)) | exact List.Mem.tail _ (List.mem_append_right _ (List.Mem.tail _ (List.Mem.head _))) | exact List.Mem.tail _ (List.mem_append_right _ (List.Mem.tail _ (List.Mem.tail _ (List.Mem.head _)))) | exact List.Mem.tail _ (List.mem_append_right _ (List.Mem.tail _ (List.Mem.tail _ (List.Mem.tail _ (List.Mem.head _))))) | exact List.Mem.tail _ (List.Mem.tail _ (List.mem_append_right _ (List.Mem.head _))) | exact List.Mem.tail _ (List.Mem.tail _ (List.mem_append_right _ (List.Mem.tail _ (List.Mem.head _)))) | exact List.Mem.tail _ (List.Mem.tail _ (List.mem_append_right _ (List.Mem.tail _ (List.Mem.tail _ (List.Mem.head _)))))) (h1 : Imp cg cx := by first | with_reducible exact fun _ => rfl | with_reducible exact fun h => h | exact fun _ => rfl | exact fun h => h | (intro himp; simp_all; done)) (ht : P.underlying t = some d := by rfl) (hd : (match d with | .struct _ | .array _ _ => true | _ => false) = false := by rfl) (hv : cs[o]? = some v := by first | exact lk0 | exact lk1 | exact lk2 | exact lk3 | exact lk4 | exact lk5 | exact lk6 | exact lk7 | exact lk8 | exact lk9 | exact lk10 | exact lk11 | rfl) : OpV P n E (St w0 bs H M) ⟨dst, .load t x, ty, pos, af, g⟩ cg v :=
  ov_load1 (hx := hx) (h1 := h1) (ht := ht) (hd := hd) (hm := hm) (hv := hv)
theorem xo_loadS {t : TypeId} {fs : Array Field} {b : Nat} {l : List Value} {T : TypeId} {fz : Nat × Nat} (hx : ev E x = some (cx, .pointer (some ⟨b, 0, none⟩))) (hm : (b, Obj.cells l.toArray T fz) ∈ H := by first | exact List.Mem.head _ | exact List.Mem.tail _ (List.Mem.head _) | exact List.Mem.tail _ (List.Mem.tail _ (List.Mem.head _)) | exact List.Mem.tail _ (List.Mem.tail _ (List.Mem.tail _ (List.Mem.head _))) | exact List.Mem.tail _ (List.Mem.tail _ (List.Mem.tail _ (List.Mem.tail _ (List.Mem.head _)))) | exact List.mem_append_right _ (List.Mem.head _) | exact List.mem_append_right _ (List.Mem.tail _ (List.Mem.head _)) | exact List.mem_append_right _ (List.Mem.tail _ (List.Mem.tail _ (List.Mem.head _))) | exact List.mem_append_right _ (List.Mem.tail _ (List.Mem.tail _ (List.Mem.tail _ (List.Mem.head _)))) | exact List.Mem.tail _ (List.mem_append_right _ (List.Mem.head _)) | exact List.Mem.tail _ (List.mem_append_right _ (List.Mem.tail _ (List.Mem.head _))) | exact List.Mem.tail _ (List.mem_append_right _ (List.Mem.tail _ (List.Mem.tail _ (List.Mem.head _)))) | exact List.Mem.tail _ (List.mem_append_right _ (List.Mem.tail _ (List.Mem.tail _ (List.Mem.tail _ (List.Mem.head _))))) | exact List.Mem.tail _ (List.Mem.tail _ (List.mem_append_right _ (List.Mem.head _))) | exact List.Mem.tail _ (List.Mem.tail _ (List.mem_append_right _ (List.Mem.tail _ (List.Mem.head _)))) | exact List.Mem.tail _ (List.Mem.tail _ (List.mem_append_right _ (List.Mem.tail _ (List.Mem.tail _ (List.Mem.head _)))))) (h1 : Imp cg cx := by first | with_reducible exact fun _ => rfl | with_reducible exact fun h => h | exact fun _ => rfl | exact fun h => h | (intro himp; simp_all; done)) (ht : P.underlying t = some (.struct fs) := by rfl) (hs : (P.info? t).map (·.size) = some l.length := by rfl) : OpV P n E (St w0 bs H M) ⟨dst, .load t x, ty, pos, af, g⟩ cg (.agg l.toArray) :=
  ov_loadS (hx := hx) (h1 := h1) (ht := ht) (hs := hs) (hm := hm)
theorem xo_field {t : TypeId} {fs : Array Field} {f : Field} {i : Nat} {cs : Array Value} {d : TypeDesc} {v : Value} (hx : ev E x = some (cx, .agg cs)) (h1 : Imp cg cx := by first | with_reducible exact fun _ => rfl | with_reducible exact fun h => h | exact fun _ => rfl | exact fun h => h | (intro himp; simp_all; done)) (ht : P.underlying t = some (.struct fs) := by rfl) (hf : fs[i]? = some f := by rfl) (hd : P.underlying f.type = some d := by rfl) (hd' : (match d with | .struct _ | .array _ _ => true | _ => false) = false := by rfl) (hv : cs[f.offset]? = some v := by rfl) : OpV P n E C ⟨dst, .field t x i, ty, pos, af, g⟩ cg v :=
  ov_field (hx := hx) (h1 := h1) (ht := ht) (hf := hf) (hd := hd) (hd' := hd') (hv := hv)
theorem xo_nilCheck {a0 : Addr} (hx : ev E x = some (cx, .pointer (some a0))) (h1 : Imp cg cx := by first | with_reducible exact fun _ => rfl | with_reducible exact fun h => h | exact fun _ => rfl | exact fun h => h | (intro himp; simp_all; done)) : OpV P n E C ⟨dst, .nilCheck x, ty, pos, af, g⟩ cg (.pointer (some a0)) :=
  ov_nilCheck (hx := hx) (h1 := h1)
theorem xo_build {t : TypeId} {ps : List (Nat × Operand)} {parts : List (Nat × Value)} {z l : List Value} {pl : List (Nat × Nat)} (hv : evp E ps = some parts) (hz : zeroOf P t = some z := by rfl) (hp : placesOf P t = some pl := by rfl) (hl : laidIn z parts pl = some l := by simp only [laidIn, Value.cells, setCells, Nat.zero_add, Nat.reduceAdd, List.set_cons_zero, List.set_cons_succ, List.getElem?_cons_zero, List.getElem?_cons_succ]; first | done | rfl) : OpV P n E C ⟨dst, .build t ps.toArray, ty, pos, af, g⟩ cg (.agg l.toArray) :=
  ov_build (hv := hv) (hz := hz) (hp := hp) (hl := hl)
theorem xo_indexAddr {t e : TypeId} {a0 : Option Addr} {len cap i m b o : Nat} {k1 : IntKind} {z : Int} (hx : ev E x = some (cx, .slice a0 len cap)) (hy : ev E y = some (cy, .int k1 z)) (ha0 : cg = true → a0 = some ⟨b, o, none⟩) (hf : cg = true → i < len) (hi : z = (i : Int) := by (fail_if_success (with_reducible show (987654321 : Int) = _)); repeat' (first | with_reducible exact nc_cast | with_reducible exact nc_lit | apply nc_add | apply nc_div | apply nc_mod | apply nc_mul | refine nc_sub (m := _) (n := _) nc_cast nc_lit (by omega) | refine nc_sub (m := _) (n := _) nc_cast nc_cast (by omega))) (h1 : Imp cg cx := by first | with_reducible exact fun _ => rfl | with_reducible exact fun h => h | exact fun _ => rfl | exact fun h => h | (intro himp; simp_all; done)) (h2 : Imp cg cy := by first | with_reducible exact fun _ => rfl | with_reducible exact fun h => h | exact fun _ => rfl | exact fun h => h | (intro himp; simp_all; done)) (ht : P.underlying t = some (.slice e) := by rfl) (hs : (P.info? e).map (·.size) = some m := by first | exact (rfl : _ = some 1) | exact (rfl : _ = some 2) | exact (rfl : _ = some 3) | exact (rfl : _ = some 4) | exact (rfl : _ = some 6) | exact rfl) : OpV P n E C ⟨dst, .indexAddr t x y, ty, pos, af, g⟩ cg (.pointer (some ⟨b, o + i * m, none⟩)) :=
  ov_indexAddr (hx := hx) (hy := hy) (hi := hi) (h1 := h1) (h2 := h2) (ht := ht) (hs := hs) (ha0 := ha0) (hf := hf)
theorem xo_load1M {t : TypeId} {d : TypeDesc} {b o : Nat} {cs : Array Value} {T : TypeId} {fz : Nat × Nat} {v : Value} (hx : ev E x = some (cx, .pointer (some ⟨b, o, none⟩))) (hm : cg = true → M b (Obj.cells cs T fz)) (hv : cg = true → cs[o]? = some v) (h1 : Imp cg cx := by first | with_reducible exact fun _ => rfl | with_reducible exact fun h => h | exact fun _ => rfl | exact fun h => h | (intro himp; simp_all; done)) (ht : P.underlying t = some d := by rfl) (hd : (match d with | .struct _ | .array _ _ => true | _ => false) = false := by rfl) : OpV P n E (St w0 bs H M) ⟨dst, .load t x, ty, pos, af, g⟩ cg v :=
  ov_load1M (hx := hx) (h1 := h1) (ht := ht) (hd := hd) (hm := hm) (hv := hv)
theorem xo_loadSM {t : TypeId} {fs : Array Field} {b o : Nat} {cs : Array Value} {l : List Value} {T : TypeId} {fz : Nat × Nat} (hx : ev E x = some (cx, .pointer (some ⟨b, o, none⟩))) (hm : cg = true → M b (Obj.cells cs T fz)) (hv : cg = true → ∀ j, j < l.length → cs[o + j]? = l[j]?) (h1 : Imp cg cx := by first | with_reducible exact fun _ => rfl | with_reducible exact fun h => h | exact fun _ => rfl | exact fun h => h | (intro himp; simp_all; done)) (ht : P.underlying t = some (.struct fs) := by rfl) (hs : (P.info? t).map (·.size) = some l.length := by first | exact (rfl : _ = some 1) | exact (rfl : _ = some 2) | exact (rfl : _ = some 3) | exact (rfl : _ = some 4) | exact (rfl : _ = some 6) | exact rfl) : OpV P n E (St w0 bs H M) ⟨dst, .load t x, ty, pos, af, g⟩ cg (.agg l.toArray) :=
  ov_loadSM (hx := hx) (h1 := h1) (ht := ht) (hs := hs) (hm := hm) (hv := hv)
theorem xl_alloc {T : TypeId} {z : Value} {d : Nat} {l : List Value} (h : ∀ b, WL P ops rest n ((d, true, .pointer (some ⟨b, 0, none⟩)) :: E) (St w0 bs ((b, .cells l.toArray T (0, 0)) :: H) M) k) (hg : gd ops E g = some true := by rfl) (hz : ∀ w, (zeroValue T).run P w = .ok z w := by exact fun _ => rfl) (hd : Nat.blt d n = true := by rfl) (hl : z.cells.toList = l := by simp only [Value.cells]; first | done | rfl) : WL P ops (⟨some d, .alloc T, ty, pos, af, g⟩ :: rest) n E (St w0 bs H M) k :=
  wl_alloc (hg := hg) (hz := hz) (hd := hd) (hl := hl) (h := h)
theorem xl_box {T : TypeId} {x : Operand} {v : Value} {d : Nat} {l : List Value} (hx : ev E x = some (true, v)) (h : ∀ b, WL P ops rest n ((d, true, .pointer (some ⟨b, 0, none⟩)) :: E) (St w0 bs ((b, .cells l.toArray T (0, 0)) :: H) M) k) (hg : gd ops E g = some true := by rfl) (hd : Nat.blt d n = true := by rfl) (hl : v.cells.toList = l := by simp only [Value.cells]; first | done | rfl) : WL P ops (⟨some d, .box T x, ty, pos, af, g⟩ :: rest) n E (St w0 bs H M) k :=
  wl_box (hg := hg) (hx := hx) (hd := hd) (hl := hl) (h := h)
theorem xl_store {t : TypeId} {b o : Nat} {l : List Value} {T : TypeId} {v : Value} {H' : List (Nat × Obj)} {l' : List Value} (hx : ev E x = some (true, .pointer (some ⟨b, o, none⟩))) (hy : ev E y = some (true, v)) (h : WL P ops rest n E (St w0 bs H' M) k) (hg : gd ops E g = some true := by rfl) (hs : (P.info? t).map (·.size) = some v.cells.size := by rfl) (hu : Upd H b (.cells l.toArray T (0, 0)) (.cells l'.toArray T (0, 0)) H' := by first | exact Upd.here | exact Upd.there Upd.here | exact Upd.there (Upd.there Upd.here) | exact Upd.there (Upd.there (Upd.there Upd.here)) | exact Upd.there (Upd.there (Upd.there (Upd.there Upd.here))) | exact Upd.app _ (Upd.here) | exact Upd.app _ (Upd.there Upd.here) | exact Upd.app _ (Upd.there (Upd.there Upd.here)) | exact Upd.app _ (Upd.there (Upd.there (Upd.there Upd.here))) | exact Upd.there (Upd.app _ (Upd.here)) | exact Upd.there (Upd.app _ (Upd.there Upd.here)) | exact Upd.there (Upd.app _ (Upd.there (Upd.there Upd.here))) | exact Upd.there (Upd.app _ (Upd.there (Upd.there (Upd.there Upd.here)))) | exact Upd.there (Upd.there (Upd.app _ (Upd.here))) | exact Upd.there (Upd.there (Upd.app _ (Upd.there Upd.here))) | exact Upd.there (Upd.there (Upd.app _ (Upd.there (Upd.there Upd.here))))) (hn : setCells l o v.cells.toList = l' := by dsimp only [Value.cells, setCells, List.set, Nat.zero_add, Nat.reduceAdd]; first | done | rfl) (hl : Nat.ble (o + v.cells.size) l.length = true := by rfl) (hp : v.cells.toList.all plainV = true := by rfl) : WL P ops (⟨none, .store t x y, ty, pos, af, g⟩ :: rest) n E (St w0 bs H M) k :=
  wl_store (hg := hg) (hx := hx) (hy := hy) (hs := hs) (hu := hu) (hn := hn) (hl := hl) (hp := hp) (h := h)
theorem xl_buildSlice {t e : TypeId} {m len d : Nat} {z : Value} {ps : List (Nat × Operand)} {parts : List (Nat × Value)} {l : List Value} (hv : evp E ps = some parts) (h : ∀ b, WL P ops rest n ((d, true, .slice (some ⟨b, 0, none⟩) len len) :: E) (St w0 bs ((b, .cells l.toArray e (0, 0)) :: H) M) k) (hg : gd ops E g = some true := by rfl) (ht : P.underlying t = some (.slice e) := by rfl) (hs : (P.info? e).map (·.size) = some m := by first | exact (rfl : _ = some 1) | exact (rfl : _ = some 2) | exact (rfl : _ = some 3) | exact (rfl : _ = some 4) | exact (rfl : _ = some 6) | exact rfl) (hz : ∀ w, (zeroValue e).run P w = .ok z w := by exact fun _ => rfl) (hzc : z.cells.size = m := by rfl) (hlen : len = parts.length := by rfl) (hlim : Nat.ble (len * m) 16777216 = true := by rfl) (hl : cellsAll m parts 0 = some l := by simp only [cellsAll, Value.cells, List.size_toArray, List.length_cons, List.length_nil, Nat.zero_add, Nat.reduceAdd, and_self, if_true, true_and, Option.map_some, List.cons_append, List.nil_append]; first | done | rfl) (hd : Nat.blt d n = true := by rfl) : WL P ops (⟨some d, .buildSlice t len ps.toArray, ty, pos, af, g⟩ :: rest) n E (St w0 bs H M) k :=
  wl_buildSlice (hg := hg) (hv := hv) (ht := ht) (hs := hs) (hz := hz) (hzc := hzc) (hlen := hlen) (hlim := hlim) (hl := hl) (hd := hd) (h := h)
theorem xo_and {c cy b b' r : Bool} (hx : ev E x = some (c, .bool b)) (hy : ev E y = some (cy, .bool b')) (hc : Imp cg c := by first | with_reducible exact fun _ => rfl | with_reducible exact fun h => h | exact fun _ => rfl | exact fun h => h | (intro himp; simp_all; done)) (h1 : cg = true → b = true → cy = true := by intro himp1 himp2; first | rfl | (rw [himp2]; rfl) | (simp_all; done)) (hr : (b && b') = r := by first | with_reducible exact dec_self _ | with_reducible exact ndec_self _ | with_reducible exact band_tl _ | with_reducible exact band_tr _ | with_reducible exact band_fl _ | with_reducible exact bor_tl _ | with_reducible exact bor_fl _ | with_reducible exact bor_fr _ | with_reducible exact bnot_t | with_reducible exact bnot_f | exact rfl) : OpV P n E C ⟨dst, .pick x y (.const (.bool false)), ty, pos, af, g⟩ cg (.bool r) := opv_eq (ov_and hx hy hc h1) hr
theorem xo_or {c cz b b' r : Bool} (hx : ev E x = some (c, .bool b)) (hz : ev E z = some (cz, .bool b')) (hc : Imp cg c := by first | with_reducible exact fun _ => rfl | with_reducible exact fun h => h | exact fun _ => rfl | exact fun h => h | (intro himp; simp_all; done)) (h0 : cg = true → b = false → cz = true := by intro himp1 himp2; first | rfl | (rw [himp2]; rfl) | (simp_all; done)) (hr : (b || b') = r := by first | with_reducible exact dec_self _ | with_reducible exact ndec_self _ | with_reducible exact band_tl _ | with_reducible exact band_tr _ | with_reducible exact band_fl _ | with_reducible exact bor_tl _ | with_reducible exact bor_fl _ | with_reducible exact bor_fr _ | with_reducible exact bnot_t | with_reducible exact bnot_f | exact rfl) : OpV P n E C ⟨dst, .pick x (.const (.bool true)) z, ty, pos, af, g⟩ cg (.bool r) := opv_eq (ov_or hx hz hc h0) hr
theorem xo_not {b r : Bool} (hx : ev E x = some (cx, .bool b)) (h1 : Imp cg cx := by first | with_reducible exact fun _ => rfl | with_reducible exact fun h => h | exact fun _ => rfl | exact fun h => h | (intro himp; simp_all; done)) (hr : (!b) = r := by first | with_reducible exact dec_self _ | with_reducible exact ndec_self _ | with_reducible exact band_tl _ | with_reducible exact band_tr _ | with_reducible exact band_fl _ | with_reducible exact bor_tl _ | with_reducible exact bor_fl _ | with_reducible exact bor_fr _ | with_reducible exact bnot_t | with_reducible exact bnot_f | exact rfl) : OpV P n E C ⟨dst, .unOp .not tx x, ty, pos, af, g⟩ cg (.bool r) := opv_eq (ov_not hx h1) hr
theorem xo_eql {kd : IntKind} {u z : Int} {r : Bool} (hx : ev E x = some (cx, .int kd u)) (hy : ev E y = some (cy, .int kd z)) (h1 : Imp cg cx := by first | with_reducible exact fun _ => rfl | with_reducible exact fun h => h | exact fun _ => rfl | exact fun h => h | (intro himp; simp_all; done)) (h2 : Imp cg cy := by first | with_reducible exact fun _ => rfl | with_reducible exact fun h => h | exact fun _ => rfl | exact fun h => h | (intro himp; simp_all; done)) (hr : decide (u = z) = r := by first | with_reducible exact dec_self _ | with_reducible exact ndec_self _ | with_reducible exact band_tl _ | with_reducible exact band_tr _ | with_reducible exact band_fl _ | with_reducible exact bor_tl _ | with_reducible exact bor_fl _ | with_reducible exact bor_fr _ | with_reducible exact bnot_t | with_reducible exact bnot_f | exact rfl) : OpV P n E C ⟨dst, .binOp .eql tx x y tyy, ty, pos, af, g⟩ cg (.bool r) := opv_eq (ov_eql hx hy h1 h2) hr
theorem xo_neq {kd : IntKind} {u z : Int} {r : Bool} (hx : ev E x = some (cx, .int kd u)) (hy : ev E y = some (cy, .int kd z)) (h1 : Imp cg cx := by first | with_reducible exact fun _ => rfl | with_reducible exact fun h => h | exact fun _ => rfl | exact fun h => h | (intro himp; simp_all; done)) (h2 : Imp cg cy := by first | with_reducible exact fun _ => rfl | with_reducible exact fun h => h | exact fun _ => rfl | exact fun h => h | (intro himp; simp_all; done)) (hr : (!decide (u = z)) = r := by first | with_reducible exact dec_self _ | with_reducible exact ndec_self _ | with_reducible exact band_tl _ | with_reducible exact band_tr _ | with_reducible exact band_fl _ | with_reducible exact bor_tl _ | with_reducible exact bor_fl _ | with_reducible exact bor_fr _ | with_reducible exact bnot_t | with_reducible exact bnot_f | exact rfl) : OpV P n E C ⟨dst, .binOp .neq tx x y tyy, ty, pos, af, g⟩ cg (.bool r) := opv_eq (ov_neq hx hy h1 h2) hr
theorem xo_seql {s t : List UInt8} {r : Bool} (hx : ev E x = some (cx, str s)) (hy : ev E y = some (cy, str t)) (h1 : Imp cg cx := by first | with_reducible exact fun _ => rfl | with_reducible exact fun h => h | exact fun _ => rfl | exact fun h => h | (intro himp; simp_all; done)) (h2 : Imp cg cy := by first | with_reducible exact fun _ => rfl | with_reducible exact fun h => h | exact fun _ => rfl | exact fun h => h | (intro himp; simp_all; done)) (hr : decide (s = t) = r := by first | with_reducible exact dec_self _ | with_reducible exact ndec_self _ | with_reducible exact band_tl _ | with_reducible exact band_tr _ | with_reducible exact band_fl _ | with_reducible exact bor_tl _ | with_reducible exact bor_fl _ | with_reducible exact bor_fr _ | with_reducible exact bnot_t | with_reducible exact bnot_f | exact rfl) : OpV P n E C ⟨dst, .binOp .eql tx x y tyy, ty, pos, af, g⟩ cg (.bool r) := opv_eq (ov_seql hx hy h1 h2) hr
theorem xo_sneq {s t : List UInt8} {r : Bool} (hx : ev E x = some (cx, str s)) (hy : ev E y = some (cy, str t)) (h1 : Imp cg cx := by first | with_reducible exact fun _ => rfl | with_reducible exact fun h => h | exact fun _ => rfl | exact fun h => h | (intro himp; simp_all; done)) (h2 : Imp cg cy := by first | with_reducible exact fun _ => rfl | with_reducible exact fun h => h | exact fun _ => rfl | exact fun h => h | (intro himp; simp_all; done)) (hr : (!decide (s = t)) = r := by first | with_reducible exact dec_self _ | with_reducible exact ndec_self _ | with_reducible exact band_tl _ | with_reducible exact band_tr _ | with_reducible exact band_fl _ | with_reducible exact bor_tl _ | with_reducible exact bor_fl _ | with_reducible exact bor_fr _ | with_reducible exact bnot_t | with_reducible exact bnot_f | exact rfl) : OpV P n E C ⟨dst, .binOp .neq tx x y tyy, ty, pos, af, g⟩ cg (.bool r) := opv_eq (ov_sneq hx hy h1 h2) hr
theorem xo_beql {b b' r : Bool} (hx : ev E x = some (cx, .bool b)) (hy : ev E y = some (cy, .bool b')) (h1 : Imp cg cx := by first | with_reducible exact fun _ => rfl | with_reducible exact fun h => h | exact fun _ => rfl | exact fun h => h | (intro himp; simp_all; done)) (h2 : Imp cg cy := by first | with_reducible exact fun _ => rfl | with_reducible exact fun h => h | exact fun _ => rfl | exact fun h => h | (intro himp; simp_all; done)) (ht : P.underlying tx = some .bool := by rfl) (hr : decide (b = b') = r := by first | with_reducible exact dec_self _ | with_reducible exact ndec_self _ | with_reducible exact band_tl _ | with_reducible exact band_tr _ | with_reducible exact band_fl _ | with_reducible exact bor_tl _ | with_reducible exact bor_fl _ | with_reducible exact bor_fr _ | with_reducible exact bnot_t | with_reducible exact bnot_f | exact rfl) : OpV P n E C ⟨dst, .binOp .eql tx x y tyy, ty, pos, af, g⟩ cg (.bool r) := opv_eq (ov_beql hx hy h1 h2 ht) hr
theorem xo_bneq {b b' r : Bool} (hx : ev E x = some (cx, .bool b)) (hy : ev E y = some (cy, .bool b')) (h1 : Imp cg cx := by first | with_reducible exact fun _ => rfl | with_reducible exact fun h => h | exact fun _ => rfl | exact fun h => h | (intro himp; simp_all; done)) (h2 : Imp cg cy := by first | with_reducible exact fun _ => rfl | with_reducible exact fun h => h | exact fun _ => rfl | exact fun h => h | (intro himp; simp_all; done)) (ht : P.underlying tx = some .bool := by rfl) (hr : (!decide (b = b')) = r := by first | with_reducible exact dec_self _ | with_reducible exact ndec_self _ | with_reducible exact band_tl _ | with_reducible exact band_tr _ | with_reducible exact band_fl _ | with_reducible exact bor_tl _ | with_reducible exact bor_fl _ | with_reducible exact bor_fr _ | with_reducible exact bnot_t | with_reducible exact bnot_f | exact rfl) : OpV P n E C ⟨dst, .binOp .neq tx x y tyy, ty, pos, af, g⟩ cg (.bool r) := opv_eq (ov_bneq hx hy h1 h2 ht) hr

end
end Go.Eng
/-
  Bytes as numbers: what the walks of texts need; the contract of package pct's Plain.
-/
namespace Go.Proofs.YthkpekmecgbokaaDoor
open Go.Eng Go.Pct
set_option maxRecDepth 10000
set_option linter.unusedSimpArgs false
set_option linter.unusedVariables false

theorem getD_cast (c : UInt8) (d : UInt8) : ((c.toNat : Int) = (d.toNat : Int)) ↔ c = d := by
  constructor
  · intro h; exact UInt8.toNat_inj.1 (by omega)
  · rintro rfl; rfl
theorem u8_lt (c : UInt8) : (c.toNat : Int) < 256 := by have := c.toNat_lt; omega
theorem u8_eq (c : UInt8) (m : Nat) (hm : m < 256) : ((c.toNat : Int) = (m : Int)) ↔ c = UInt8.ofNat m := by
  constructor
  · intro h; apply UInt8.toNat_inj.1; simp; omega
  · rintro rfl; simp; omega
theorem u8_byt {z : Int} (h0 : 0 ≤ z) (h1 : z ≤ 255) : Value.int .u8 z = byt (UInt8.ofNat z.toNat) := by
  have h3 : z.toNat < 256 := by omega
  have : ((UInt8.ofNat z.toNat).toNat : Int) = z := by simp [Nat.mod_eq_of_lt h3]; omega
  rw [byt, this]
variable {M : Ghost} {w : World}
theorem plain_all (c : UInt8) : ((decide ((97 : Int) ≤ c.toNat) && decide ((c.toNat : Int) ≤ 122) || decide ((65 : Int) ≤ c.toNat) && decide ((c.toNat : Int) ≤ 90) || decide ((48 : Int) ≤ c.toNat) && decide ((c.toNat : Int) ≤ 57) || decide ((c.toNat : Int) = 45) || decide ((c.toNat : Int) = 46) || decide ((c.toNat : Int) = 95) || decide ((c.toNat : Int) = 126)) : Bool) = plainB c := by
  revert c; apply all_bytes; decide +kernel
theorem plain_ok (hM : Laid M w) (c : UInt8) : Calls Tryd.prog 46 #[byt c] w (RetE w (.bool (plainB c))) := by
  refine calls_st (l := [byt c]) hM Tryd.func46 rfl rfl rfl (E0 := [(0, true, byt c)]) (params_cons rfl (params_nil _)) ?_
  repeat' (first | (first | refine wc_seq ?_ | refine wc_region ?_ | refine wl_nil ?_ | refine wn_seq ?_ | refine wn_blk ?_ | refine wc_skip ?_ | refine wc_block ?_ | refine wc_exit rfl ?_ | (show WL _ _ (_ :: _) _ _ _ _; first | refine wl_v rfl rfl rfl (by first | (show OpV _ _ _ _ (Oper.mk _ (Op.move _) _ _ _ _) _ _; exact xo_move rfl) | (show OpV _ _ _ _ (Oper.mk _ (Op.assign _) _ _ _ _) _ _; exact xo_assign rfl) | (show OpV _ _ _ _ (Oper.mk _ (Op.pick _ _ _) _ _ _ _) _ _; first | exact xo_and rfl rfl | exact xo_or rfl rfl) | (show OpV _ _ _ _ (Oper.mk _ (Op.binOp BinOp.eql _ _ _ _) _ _ _ _) _ _; first | exact xo_eql rfl rfl | exact xo_seql rfl rfl | exact xo_beql rfl rfl | exact xo_aeql rfl rfl) | (show OpV _ _ _ _ (Oper.mk _ (Op.binOp BinOp.leq _ _ _ _) _ _ _ _) _ _; exact xo_leq rfl rfl) | (show OpV _ _ _ _ (Oper.mk _ (Op.binOp BinOp.geq _ _ _ _) _ _ _ _) _ _; exact xo_geq rfl rfl)) ?_ | refine wl_v rfl rfl rfl (by first  | fail) ?_) | refine wc_ret rfl ?_) | (show WC _ (Code.cond _ _ _) _ _ _ _; (refine wc_cond rfl (fun hc => ?_) (fun hc => ?_) <;> (try (simp only [decide_eq_true_eq, decide_eq_false_iff_not, Bool.and_eq_true, Bool.or_eq_true, Bool.and_eq_false_iff, Bool.or_eq_false_iff, Bool.not_eq_true', Bool.not_eq_false', Int.not_lt, Int.not_le] at hc)) <;> (try (exfalso; first | omega | contradiction)))))
  refine wr_tmp rfl rfl ?_
  exact congrArg Value.bool (plain_all c)
end Go.Proofs.YthkpekmecgbokaaDoor
/-
  DERIVED: THE SHELF's CONTRACTS AT THIS DUMP, IN PLAIN WORDS (tools/lay-plain.mjs out of 'TrydShelf.lean', which tools/lay-shelf.mjs wrote): THE SAME DECLARATIONS UNDER THE SAME NAMES: 'import', 'namespace', 'open', 'def', 'theorem' AND NOTHING ELSE: no command of the shelf's: FOR A HAND-IN. Each laying: the table of numbers ('.._ren') and one theorem, a field a fact of the dump's own or the kernel's comparison; each contract: ONE APPLICATION.
-/
namespace Go.Proofs
open Go.Shelf
def Tryd.lays160_ren : Go.Shelf.Ren := ⟨fun | 160 => 47 | 232 => 60 | 231 => 59 | 227 => 61 | 234 => 63 | 233 => 62 | 236 => 65 | 235 => 64 | 228 => 76 | 271 => 79 | 151 => 78 | 197 => 77 | 120 => 97 | 152 => 96 | 260 => 95 | 137 => 109 | 119 => 110 | 224 => 100 | 225 => 99 | 217 => 98 | 266 => 111 | n => n, fun | 9 => 9 | 4 => 4 | 3 => 3 | 5 => 5 | 117 => 91 | 116 => 90 | 0 => 0 | 124 => 94 | 21 => 21 | 105 => 103 | 46 => 120 | 119 => 132 | 139 => 135 | 138 => 134 | n => n, fun | 3 => 4 | 4 => 5 | n => n⟩
theorem Tryd.lays160 : Go.Proofs.Lays.n160 Tryd.prog Tryd.lays160_ren := {
  mixed := by kernel_rfl
  f119 := Tryd.func110.trans (congrArg some (by kernel_rfl))
  f120 := Tryd.func97.trans (congrArg some (by kernel_rfl))
  f137 := Tryd.func109.trans (congrArg some (by kernel_rfl))
  f151 := Tryd.func78.trans (congrArg some (by kernel_rfl))
  f152 := Tryd.func96.trans (congrArg some (by kernel_rfl))
  f160 := Tryd.func47.trans (congrArg some (by kernel_rfl))
  f197 := Tryd.func77.trans (congrArg some (by kernel_rfl))
  f217 := Tryd.func98.trans (congrArg some (by kernel_rfl))
  f224 := Tryd.func100.trans (congrArg some (by kernel_rfl))
  f225 := Tryd.func99.trans (congrArg some (by kernel_rfl))
  f227 := Tryd.func61.trans (congrArg some (by kernel_rfl))
  f228 := Tryd.func76.trans (congrArg some (by kernel_rfl))
  f231 := Tryd.func59.trans (congrArg some (by kernel_rfl))
  f232 := Tryd.func60.trans (congrArg some (by kernel_rfl))
  f233 := Tryd.func62.trans (congrArg some (by kernel_rfl))
  f234 := Tryd.func63.trans (congrArg some (by kernel_rfl))
  f235 := Tryd.func64.trans (congrArg some (by kernel_rfl))
  f236 := Tryd.func65.trans (congrArg some (by kernel_rfl))
  f260 := Tryd.func95.trans (congrArg some (by kernel_rfl))
  f266 := Tryd.func111.trans (congrArg some (by kernel_rfl))
  f271 := Tryd.func79.trans (congrArg some (by kernel_rfl))
  t0 := Tryd.underlying0
  a0 := Tryd.isAgg0
  z0 := Tryd.sizeOf0
  v0 := Tryd.zeroValue0
  t3 := Tryd.underlying3
  a3 := Tryd.isAgg3
  z3 := Tryd.sizeOf3
  v3 := Tryd.zeroValue3
  t4 := Tryd.underlying4
  a4 := Tryd.isAgg4
  z4 := Tryd.sizeOf4
  v4 := Tryd.zeroValue4
  t5 := Tryd.underlying5
  a5 := Tryd.isAgg5
  z5 := Tryd.sizeOf5
  v5 := Tryd.zeroValue5
  t9 := Tryd.underlying9
  a9 := Tryd.isAgg9
  z9 := Tryd.sizeOf9
  v9 := Tryd.zeroValue9
  t21 := Tryd.underlying21
  a21 := Tryd.isAgg21
  z21 := Tryd.sizeOf21
  v21 := Tryd.zeroValue21
  t46 := Tryd.underlying120
  a46 := Tryd.isAgg120
  z46 := Tryd.sizeOf120
  v46 := Tryd.zeroValue120
  t105 := Tryd.underlying103
  a105 := Tryd.isAgg103
  z105 := Tryd.sizeOf103
  v105 := Tryd.zeroValue103
  t116 := Tryd.underlying90
  a116 := Tryd.isAgg90
  z116 := Tryd.sizeOf90
  t117 := Tryd.underlying91
  a117 := Tryd.isAgg91
  z117 := Tryd.sizeOf91
  v117 := Tryd.zeroValue91
  t119 := Tryd.underlying132
  a119 := Tryd.isAgg132
  z119 := Tryd.sizeOf132
  t124 := Tryd.underlying94
  a124 := Tryd.isAgg94
  z124 := Tryd.sizeOf94
  v124 := Tryd.zeroValue94
  t138 := Tryd.underlying134
  a138 := Tryd.isAgg134
  z138 := Tryd.sizeOf134
  v138 := Tryd.zeroValue134
  t139 := Tryd.underlying135
  a139 := Tryd.isAgg135
  z139 := Tryd.sizeOf135
  v139 := Tryd.zeroValue135
  g3 := by kernel_rfl
  g4 := by kernel_rfl }
open Go.RowKit in
/-- strings.Trim: "Trim returns a slice of the string s with all leading and trailing Unicode code points contained in cutset removed.": AT A cutset OF ONE ASCII BYTE. THE WORLD BEHIND IT: as it was, or (where s is not empty) with ONE DRAW MORE off the tape: the statement 'return trimLeftByte(trimRightByte(s, c), c)' draws its order of evaluation. (LAID: no walk: one application.) -/
theorem Tryd.strings_Trim_one (s : ByteArray) (c : UInt8) (hc : c.toNat < 128) (w : World) (hs : s.size ≤ 9223372036854775807) :
    Calls Tryd.prog 47 #[.string s, .string ⟨#[c]⟩] w fun e w' => e = .returned (.string ⟨(Lib.trimB s.data.toList c).toArray⟩) ∧ (w' = w ∨ w' = w.drew) := Any.strings_Trim_one Tryd.lays160 s c hc w hs
def Tryd.laysM171_ren : Go.Shelf.Ren := ⟨fun | 171 => 31 | 243 => 45 | 246 => 58 | 283 => 72 | 284 => 73 | 285 => 74 | 286 => 75 | 129 => 91 | 317 => 90 | 318 => 92 | 319 => 93 | 320 => 94 | 337 => 107 | 338 => 108 | n => n, fun | 3 => 3 | 9 => 9 | 2 => 2 | 4 => 4 | 171 => 97 | 0 => 0 | 53 => 98 | 37 => 67 | 5 => 5 | 173 => 101 | 212 => 116 | 51 => 117 | 20 => 20 | 213 => 118 | 46 => 120 | 232 => 143 | 233 => 144 | n => n, fun | 17 => 0 | 18 => 6 | 19 => 7 | n => n⟩
theorem Tryd.laysM171 : Go.Proofs.LaysM.n171 Tryd.prog Tryd.laysM171_ren := {
  mixed := by kernel_rfl
  f129 := Tryd.func91.trans (congrArg some (by kernel_rfl))
  f171 := Tryd.func31.trans (congrArg some (by kernel_rfl))
  f243 := Tryd.func45.trans (congrArg some (by kernel_rfl))
  f246 := Tryd.func58.trans (congrArg some (by kernel_rfl))
  f283 := Tryd.func72.trans (congrArg some (by kernel_rfl))
  f284 := Tryd.func73.trans (congrArg some (by kernel_rfl))
  f285 := Tryd.func74.trans (congrArg some (by kernel_rfl))
  f286 := Tryd.func75.trans (congrArg some (by kernel_rfl))
  f317 := Tryd.func90.trans (congrArg some (by kernel_rfl))
  f318 := Tryd.func92.trans (congrArg some (by kernel_rfl))
  f319 := Tryd.func93.trans (congrArg some (by kernel_rfl))
  f320 := Tryd.func94.trans (congrArg some (by kernel_rfl))
  f337 := Tryd.func107.trans (congrArg some (by kernel_rfl))
  f338 := Tryd.func108.trans (congrArg some (by kernel_rfl))
  t0 := Tryd.underlying0
  a0 := Tryd.isAgg0
  z0 := Tryd.sizeOf0
  v0 := Tryd.zeroValue0
  t2 := Tryd.underlying2
  a2 := Tryd.isAgg2
  z2 := Tryd.sizeOf2
  v2 := Tryd.zeroValue2
  t3 := Tryd.underlying3
  a3 := Tryd.isAgg3
  z3 := Tryd.sizeOf3
  v3 := Tryd.zeroValue3
  t4 := Tryd.underlying4
  a4 := Tryd.isAgg4
  z4 := Tryd.sizeOf4
  v4 := Tryd.zeroValue4
  t5 := Tryd.underlying5
  a5 := Tryd.isAgg5
  z5 := Tryd.sizeOf5
  v5 := Tryd.zeroValue5
  t9 := Tryd.underlying9
  a9 := Tryd.isAgg9
  z9 := Tryd.sizeOf9
  v9 := Tryd.zeroValue9
  t20 := Tryd.underlying20
  a20 := Tryd.isAgg20
  z20 := Tryd.sizeOf20
  v20 := Tryd.zeroValue20
  t37 := Tryd.underlying67
  a37 := Tryd.isAgg67
  z37 := Tryd.sizeOf67
  v37 := Tryd.zeroValue67
  t46 := Tryd.underlying120
  a46 := Tryd.isAgg120
  z46 := Tryd.sizeOf120
  v46 := Tryd.zeroValue120
  t51 := Tryd.underlying117
  a51 := Tryd.isAgg117
  z51 := Tryd.sizeOf117
  v51 := Tryd.zeroValue117
  t53 := Tryd.underlying98
  a53 := Tryd.isAgg98
  z53 := Tryd.sizeOf98
  v53 := Tryd.zeroValue98
  t171 := Tryd.underlying97
  a171 := Tryd.isAgg97
  z171 := Tryd.sizeOf97
  v171 := Tryd.zeroValue97
  t173 := Tryd.underlying101
  a173 := Tryd.isAgg101
  z173 := Tryd.sizeOf101
  v173 := Tryd.zeroValue101
  t212 := Tryd.underlying116
  a212 := Tryd.isAgg116
  z212 := Tryd.sizeOf116
  v212 := Tryd.zeroValue116
  t213 := Tryd.underlying118
  a213 := Tryd.isAgg118
  z213 := Tryd.sizeOf118
  t232 := Tryd.underlying143
  a232 := Tryd.isAgg143
  z232 := Tryd.sizeOf143
  v232 := Tryd.zeroValue143
  t233 := Tryd.underlying144
  a233 := Tryd.isAgg144
  z233 := Tryd.sizeOf144
  v233 := Tryd.zeroValue144
  g17 := by kernel_rfl
  g18 := by kernel_rfl
  g19 := by kernel_rfl
  i0 := by kernel_rfl
  i2 := by kernel_rfl
  i3 := by kernel_rfl
  i4 := by kernel_rfl
  i5 := by kernel_rfl
  i9 := by kernel_rfl
  i20 := by kernel_rfl
  i37 := by kernel_rfl
  i46 := by kernel_rfl
  i51 := by kernel_rfl
  i53 := by kernel_rfl
  i171 := by kernel_rfl
  i173 := by kernel_rfl
  i212 := by kernel_rfl
  i232 := by kernel_rfl
  i233 := by kernel_rfl
  m17 := by kernel_rfl
  m18 := by kernel_rfl
  m19 := by kernel_rfl }
open Go.RowKit Go.Sort Go.Lib in
/-- strconv.Itoa: "Itoa is equivalent to FormatInt(int64(i), 10).": i's DECIMAL NUMERAL ('Lib.itoa': a '-' where i is negative, then the digits), FOR EVERY int. The world behind the call: the world before it, new blocks behind the heap (the library's 'var a [24]byte'), draws. (LAID: no walk: one application.) -/
theorem Tryd.strconv_Itoa (n : Int) (h0 : -9223372036854775808 ≤ n) (h1 : n ≤ 9223372036854775807) (w : World) (htab : Lib.TabIs Tryd.prog w "internal/strconv.uint64pow10" .u64 Lib.pow10Tab) :
    Calls Tryd.prog 31 #[.int .i64 n] w fun e w' => e = .returned (.string ⟨(Lib.itoa n).toArray⟩) ∧ ∃ k os, w' = grow (w.drewN k) os := Any.strconv_Itoa Tryd.laysM171 n h0 h1 w htab
def Tryd.laysC172_ren : Go.Shelf.Ren := ⟨fun | 172 => 57 | 244 => 70 | 245 => 71 | 247 => 85 | 279 => 86 | 280 => 87 | 281 => 88 | 282 => 89 | 287 => 104 | 316 => 105 | 171 => 31 | 205 => 106 | 321 => 113 | 322 => 114 | 243 => 45 | 246 => 58 | 283 => 72 | 284 => 73 | 285 => 74 | 286 => 75 | 129 => 91 | 317 => 90 | 318 => 92 | 319 => 93 | 320 => 94 | 337 => 107 | 338 => 108 | n => n, fun | 9 => 9 | 3 => 3 | 75 => 84 | 76 => 85 | 4 => 4 | 5 => 5 | 167 => 108 | 37 => 67 | 0 => 0 | 85 => 109 | 2 => 2 | 168 => 111 | 53 => 98 | 175 => 125 | 46 => 120 | 210 => 129 | 127 => 139 | 145 => 142 | 143 => 140 | 21 => 21 | 171 => 97 | 173 => 101 | 212 => 116 | 51 => 117 | 20 => 20 | 213 => 118 | 232 => 143 | 233 => 144 | 80 => 145 | n => n, fun | 15 => 2 | 16 => 3 | 17 => 0 | 18 => 6 | 19 => 7 | n => n⟩
theorem Tryd.laysC172 : Go.Proofs.LaysC.n172 Tryd.prog Tryd.laysC172_ren := {
  mixed := by kernel_rfl
  f129 := Tryd.func91.trans (congrArg some (by kernel_rfl))
  f171 := Tryd.func31.trans (congrArg some (by kernel_rfl))
  f172 := Tryd.func57.trans (congrArg some (by kernel_rfl))
  f205 := Tryd.func106.trans (congrArg some (by kernel_rfl))
  f243 := Tryd.func45.trans (congrArg some (by kernel_rfl))
  f244 := Tryd.func70.trans (congrArg some (by kernel_rfl))
  f245 := Tryd.func71.trans (congrArg some (by kernel_rfl))
  f246 := Tryd.func58.trans (congrArg some (by kernel_rfl))
  f247 := Tryd.func85.trans (congrArg some (by kernel_rfl))
  f279 := Tryd.func86.trans (congrArg some (by kernel_rfl))
  f280 := Tryd.func87.trans (congrArg some (by kernel_rfl))
  f281 := Tryd.func88.trans (congrArg some (by kernel_rfl))
  f282 := Tryd.func89.trans (congrArg some (by kernel_rfl))
  f283 := Tryd.func72.trans (congrArg some (by kernel_rfl))
  f284 := Tryd.func73.trans (congrArg some (by kernel_rfl))
  f285 := Tryd.func74.trans (congrArg some (by kernel_rfl))
  f286 := Tryd.func75.trans (congrArg some (by kernel_rfl))
  f287 := Tryd.func104.trans (congrArg some (by kernel_rfl))
  f316 := Tryd.func105.trans (congrArg some (by kernel_rfl))
  f317 := Tryd.func90.trans (congrArg some (by kernel_rfl))
  f318 := Tryd.func92.trans (congrArg some (by kernel_rfl))
  f319 := Tryd.func93.trans (congrArg some (by kernel_rfl))
  f320 := Tryd.func94.trans (congrArg some (by kernel_rfl))
  f321 := Tryd.func113.trans (congrArg some (by kernel_rfl))
  f322 := Tryd.func114.trans (congrArg some (by kernel_rfl))
  f337 := Tryd.func107.trans (congrArg some (by kernel_rfl))
  f338 := Tryd.func108.trans (congrArg some (by kernel_rfl))
  t0 := Tryd.underlying0
  a0 := Tryd.isAgg0
  z0 := Tryd.sizeOf0
  v0 := Tryd.zeroValue0
  t2 := Tryd.underlying2
  a2 := Tryd.isAgg2
  z2 := Tryd.sizeOf2
  v2 := Tryd.zeroValue2
  t3 := Tryd.underlying3
  a3 := Tryd.isAgg3
  z3 := Tryd.sizeOf3
  v3 := Tryd.zeroValue3
  t4 := Tryd.underlying4
  a4 := Tryd.isAgg4
  z4 := Tryd.sizeOf4
  v4 := Tryd.zeroValue4
  t5 := Tryd.underlying5
  a5 := Tryd.isAgg5
  z5 := Tryd.sizeOf5
  v5 := Tryd.zeroValue5
  t9 := Tryd.underlying9
  a9 := Tryd.isAgg9
  z9 := Tryd.sizeOf9
  v9 := Tryd.zeroValue9
  t20 := Tryd.underlying20
  a20 := Tryd.isAgg20
  z20 := Tryd.sizeOf20
  v20 := Tryd.zeroValue20
  t21 := Tryd.underlying21
  a21 := Tryd.isAgg21
  z21 := Tryd.sizeOf21
  v21 := Tryd.zeroValue21
  t37 := Tryd.underlying67
  a37 := Tryd.isAgg67
  z37 := Tryd.sizeOf67
  v37 := Tryd.zeroValue67
  t46 := Tryd.underlying120
  a46 := Tryd.isAgg120
  z46 := Tryd.sizeOf120
  v46 := Tryd.zeroValue120
  t51 := Tryd.underlying117
  a51 := Tryd.isAgg117
  z51 := Tryd.sizeOf117
  v51 := Tryd.zeroValue117
  t53 := Tryd.underlying98
  a53 := Tryd.isAgg98
  z53 := Tryd.sizeOf98
  v53 := Tryd.zeroValue98
  t75 := Tryd.underlying84
  a75 := Tryd.isAgg84
  z75 := Tryd.sizeOf84
  v75 := Tryd.zeroValue84
  t76 := Tryd.underlying85
  a76 := Tryd.isAgg85
  z76 := Tryd.sizeOf85
  v76 := Tryd.zeroValue85
  t85 := Tryd.underlying109
  a85 := Tryd.isAgg109
  z85 := Tryd.sizeOf109
  v85 := Tryd.zeroValue109
  t127 := Tryd.underlying139
  a127 := Tryd.isAgg139
  z127 := Tryd.sizeOf139
  v127 := Tryd.zeroValue139
  t143 := Tryd.underlying140
  a143 := Tryd.isAgg140
  z143 := Tryd.sizeOf140
  v143 := Tryd.zeroValue140
  t145 := Tryd.underlying142
  a145 := Tryd.isAgg142
  z145 := Tryd.sizeOf142
  v145 := Tryd.zeroValue142
  t167 := Tryd.underlying108
  a167 := Tryd.isAgg108
  z167 := Tryd.sizeOf108
  v167 := Tryd.zeroValue108
  t168 := Tryd.underlying111
  a168 := Tryd.isAgg111
  z168 := Tryd.sizeOf111
  v168 := Tryd.zeroValue111
  t171 := Tryd.underlying97
  a171 := Tryd.isAgg97
  z171 := Tryd.sizeOf97
  v171 := Tryd.zeroValue97
  t173 := Tryd.underlying101
  a173 := Tryd.isAgg101
  z173 := Tryd.sizeOf101
  v173 := Tryd.zeroValue101
  t175 := Tryd.underlying125
  a175 := Tryd.isAgg125
  z175 := Tryd.sizeOf125
  v175 := Tryd.zeroValue125
  t210 := Tryd.underlying129
  a210 := Tryd.isAgg129
  z210 := Tryd.sizeOf129
  v210 := Tryd.zeroValue129
  t212 := Tryd.underlying116
  a212 := Tryd.isAgg116
  z212 := Tryd.sizeOf116
  v212 := Tryd.zeroValue116
  t213 := Tryd.underlying118
  a213 := Tryd.isAgg118
  z213 := Tryd.sizeOf118
  t232 := Tryd.underlying143
  a232 := Tryd.isAgg143
  z232 := Tryd.sizeOf143
  v232 := Tryd.zeroValue143
  t233 := Tryd.underlying144
  a233 := Tryd.isAgg144
  z233 := Tryd.sizeOf144
  v233 := Tryd.zeroValue144
  g15 := by kernel_rfl
  g16 := by kernel_rfl
  g17 := by kernel_rfl
  g18 := by kernel_rfl
  g19 := by kernel_rfl
  t80 := Tryd.underlying145
  a80 := Tryd.isAgg145
  z80 := Tryd.sizeOf145
  v80 := Tryd.zeroValue145
  i0 := by kernel_rfl
  i2 := by kernel_rfl
  i3 := by kernel_rfl
  i4 := by kernel_rfl
  i5 := by kernel_rfl
  i9 := by kernel_rfl
  i20 := by kernel_rfl
  i21 := by kernel_rfl
  i37 := by kernel_rfl
  i46 := by kernel_rfl
  i51 := by kernel_rfl
  i53 := by kernel_rfl
  i75 := by kernel_rfl
  i76 := by kernel_rfl
  i80 := by kernel_rfl
  i85 := by kernel_rfl
  i127 := by kernel_rfl
  i143 := by kernel_rfl
  i145 := by kernel_rfl
  i167 := by kernel_rfl
  i168 := by kernel_rfl
  i171 := by kernel_rfl
  i173 := by kernel_rfl
  i175 := by kernel_rfl
  i210 := by kernel_rfl
  i212 := by kernel_rfl
  i232 := by kernel_rfl
  i233 := by kernel_rfl
  m15 := by kernel_rfl
  m16 := by kernel_rfl
  m17 := by kernel_rfl
  m18 := by kernel_rfl
  m19 := by kernel_rfl
  c0 := by kernel_rfl
  c2 := by kernel_rfl
  c3 := by kernel_rfl
  c4 := by kernel_rfl
  c5 := by kernel_rfl
  c9 := by kernel_rfl
  c20 := by kernel_rfl
  c21 := by kernel_rfl
  c37 := by kernel_rfl
  c46 := by kernel_rfl
  c51 := by kernel_rfl
  c53 := by kernel_rfl
  c75 := by kernel_rfl
  c76 := by kernel_rfl
  c80 := by kernel_rfl
  c85 := by kernel_rfl
  c127 := by kernel_rfl
  c143 := by kernel_rfl
  c145 := by kernel_rfl
  c167 := by kernel_rfl
  c168 := by kernel_rfl
  c171 := by kernel_rfl
  c173 := by kernel_rfl
  c175 := by kernel_rfl
  c210 := by kernel_rfl
  c212 := by kernel_rfl
  c213 := by kernel_rfl
  c232 := by kernel_rfl
  c233 := by kernel_rfl }
open Go.RowKit in
/-- strconv.Atoi, AT EVERY STRING THAT SPELLS AN int ('Lib.atoiAll .. = .ok v'; of whatever length: leading zeros count): v, AND NO ERROR. The world: as it was, or with the one new row that '[]byte(..)' lays. (LAID: no walk: one application.) -/
theorem Tryd.strconv_Atoi_ok (s : ByteArray) (hmax : s.size ≤ 9223372036854775806) (v : Int) (h : Lib.atoiAll s.data.toList = .ok v) (w : World) :
    Calls Tryd.prog 57 #[.string s] w fun e w' => e = .returned (.tuple #[.int .i64 v, .nilIface]) ∧ (w' = w ∨ ∃ t, w' = Lib.bytesWorld w 5 t) := Any.strconv_Atoi_ok Tryd.laysC172 s hmax v h w
def Tryd.lays145_ren : Go.Shelf.Ren := ⟨fun | 145 => 49 | 220 => 66 | 219 => 80 | 217 => 98 | 225 => 99 | 224 => 100 | 267 => 101 | 266 => 111 | 314 => 112 | n => n, fun | 9 => 9 | 4 => 4 | 59 => 74 | 3 => 3 | 5 => 5 | 46 => 120 | 146 => 137 | 51 => 117 | n => n, fun | 1 => 1 | n => n⟩
theorem Tryd.lays145 : Go.Proofs.Lays.n145 Tryd.prog Tryd.lays145_ren := {
  mixed := by kernel_rfl
  f145 := Tryd.func49.trans (congrArg some (by kernel_rfl))
  f217 := Tryd.func98.trans (congrArg some (by kernel_rfl))
  f219 := Tryd.func80.trans (congrArg some (by kernel_rfl))
  f220 := Tryd.func66.trans (congrArg some (by kernel_rfl))
  f224 := Tryd.func100.trans (congrArg some (by kernel_rfl))
  f225 := Tryd.func99.trans (congrArg some (by kernel_rfl))
  f266 := Tryd.func111.trans (congrArg some (by kernel_rfl))
  f267 := Tryd.func101.trans (congrArg some (by kernel_rfl))
  f314 := Tryd.func112.trans (congrArg some (by kernel_rfl))
  t3 := Tryd.underlying3
  a3 := Tryd.isAgg3
  z3 := Tryd.sizeOf3
  v3 := Tryd.zeroValue3
  t4 := Tryd.underlying4
  a4 := Tryd.isAgg4
  z4 := Tryd.sizeOf4
  v4 := Tryd.zeroValue4
  t5 := Tryd.underlying5
  a5 := Tryd.isAgg5
  z5 := Tryd.sizeOf5
  v5 := Tryd.zeroValue5
  t9 := Tryd.underlying9
  a9 := Tryd.isAgg9
  z9 := Tryd.sizeOf9
  v9 := Tryd.zeroValue9
  t46 := Tryd.underlying120
  a46 := Tryd.isAgg120
  z46 := Tryd.sizeOf120
  v46 := Tryd.zeroValue120
  t51 := Tryd.underlying117
  a51 := Tryd.isAgg117
  z51 := Tryd.sizeOf117
  v51 := Tryd.zeroValue117
  t59 := Tryd.underlying74
  a59 := Tryd.isAgg74
  z59 := Tryd.sizeOf74
  v59 := Tryd.zeroValue74
  t146 := Tryd.underlying137
  a146 := Tryd.isAgg137
  z146 := Tryd.sizeOf137
  v146 := Tryd.zeroValue137
  g1 := by kernel_rfl }
open Go.RowKit Go.Lib in
/-- strings.Cut: "Cut slices s around the first instance of sep, returning the text before and after sep. The found result reports whether sep appears in s. If sep does not appear in s, cut returns s, "", false.": IT RETURNS 'Lib.cut s sep'; the world is as it was but for the count of draws. (LAID: no walk: one application.) -/
theorem Tryd.strings_Cut (s sep : ByteArray) (m : Int) (w : World) (hs : s.size < 4294967281) (hm : w.cell? ⟨1, 0, none⟩ = some (.int .i64 m)) :
    Calls Tryd.prog 49 #[.string s, .string sep] w fun e w' => e = .returned (.tuple #[.string ⟨(Lib.cut s.data.toList sep.data.toList).1.toArray⟩, .string ⟨(Lib.cut s.data.toList sep.data.toList).2.1.toArray⟩, .bool (Lib.cut s.data.toList sep.data.toList).2.2]) ∧ ∃ n, w' = w.drewN n := Any.strings_Cut Tryd.lays145 s sep m w hs hm
def Tryd.laysM219_ren : Go.Shelf.Ren := ⟨fun | 219 => 80 | 217 => 98 | 225 => 99 | 224 => 100 | 267 => 101 | 266 => 111 | 314 => 112 | n => n, fun | 9 => 9 | 3 => 3 | 4 => 4 | 5 => 5 | 46 => 120 | 146 => 137 | 51 => 117 | n => n, fun | 1 => 1 | n => n⟩
theorem Tryd.laysM219 : Go.Proofs.LaysM.n219 Tryd.prog Tryd.laysM219_ren := {
  mixed := by kernel_rfl
  f217 := Tryd.func98.trans (congrArg some (by kernel_rfl))
  f219 := Tryd.func80.trans (congrArg some (by kernel_rfl))
  f224 := Tryd.func100.trans (congrArg some (by kernel_rfl))
  f225 := Tryd.func99.trans (congrArg some (by kernel_rfl))
  f266 := Tryd.func111.trans (congrArg some (by kernel_rfl))
  f267 := Tryd.func101.trans (congrArg some (by kernel_rfl))
  f314 := Tryd.func112.trans (congrArg some (by kernel_rfl))
  t3 := Tryd.underlying3
  a3 := Tryd.isAgg3
  z3 := Tryd.sizeOf3
  v3 := Tryd.zeroValue3
  t4 := Tryd.underlying4
  a4 := Tryd.isAgg4
  z4 := Tryd.sizeOf4
  v4 := Tryd.zeroValue4
  t5 := Tryd.underlying5
  a5 := Tryd.isAgg5
  z5 := Tryd.sizeOf5
  v5 := Tryd.zeroValue5
  t9 := Tryd.underlying9
  a9 := Tryd.isAgg9
  z9 := Tryd.sizeOf9
  v9 := Tryd.zeroValue9
  t46 := Tryd.underlying120
  a46 := Tryd.isAgg120
  z46 := Tryd.sizeOf120
  v46 := Tryd.zeroValue120
  t51 := Tryd.underlying117
  a51 := Tryd.isAgg117
  z51 := Tryd.sizeOf117
  v51 := Tryd.zeroValue117
  t146 := Tryd.underlying137
  a146 := Tryd.isAgg137
  z146 := Tryd.sizeOf137
  v146 := Tryd.zeroValue137
  g1 := by kernel_rfl
  i3 := by kernel_rfl
  i4 := by kernel_rfl
  i5 := by kernel_rfl
  i9 := by kernel_rfl
  i46 := by kernel_rfl
  i51 := by kernel_rfl
  i146 := by kernel_rfl
  m1 := by kernel_rfl
  s1_3 := fun w h => Go.Proofs.cell_of_shapedOpen_int (zero := #[.int .i64 0]) (t := 3) h (of_decide_eq_true (by kernel_rfl)) (by kernel_rfl) rfl (by kernel_rfl) (by kernel_rfl) Tryd.underlying3 }
def Tryd.lays99_ren : Go.Shelf.Ren := ⟨fun | 99 => 68 | 206 => 84 | n => n, fun | 9 => 9 | 4 => 4 | 3 => 3 | n => n, fun | n => n⟩
theorem Tryd.lays99 : Go.Proofs.Lays.n99 Tryd.prog Tryd.lays99_ren := {
  mixed := by kernel_rfl
  f99 := Tryd.func68.trans (congrArg some (by kernel_rfl))
  f206 := Tryd.func84.trans (congrArg some (by kernel_rfl))
  t3 := Tryd.underlying3
  a3 := Tryd.isAgg3
  z3 := Tryd.sizeOf3
  v3 := Tryd.zeroValue3
  t4 := Tryd.underlying4
  a4 := Tryd.isAgg4
  z4 := Tryd.sizeOf4
  v4 := Tryd.zeroValue4
  t9 := Tryd.underlying9
  a9 := Tryd.isAgg9
  z9 := Tryd.sizeOf9
  v9 := Tryd.zeroValue9 }
open Go.RowKit Go.Lib in
/-- strings.HasPrefix: "HasPrefix reports whether the string s begins with prefix.": IT RETURNS 'Lib.hasPrefix s prefix'; the world is as it was. (LAID: no walk: one application.) -/
theorem Tryd.strings_HasPrefix (s p : ByteArray) (w : World) :
    Calls Tryd.prog 68 #[.string s, .string p] w fun e w' => e = .returned (.bool (Lib.hasPrefix s.data.toList p.data.toList)) ∧ w' = w := Any.strings_HasPrefix Tryd.lays99 s p w
def Tryd.lays146_ren : Go.Shelf.Ren := ⟨fun | 146 => 50 | 221 => 67 | 268 => 81 | 138 => 82 | 143 => 83 | 195 => 102 | 197 => 77 | 218 => 103 | 219 => 80 | 260 => 95 | 217 => 98 | 225 => 99 | 224 => 100 | 267 => 101 | 266 => 111 | 314 => 112 | n => n, fun | 9 => 9 | 31 => 33 | 3 => 3 | 4 => 4 | 0 => 0 | 105 => 103 | 21 => 21 | 5 => 5 | 46 => 120 | 119 => 132 | 139 => 135 | 138 => 134 | 146 => 137 | 51 => 117 | n => n, fun | 1 => 1 | 3 => 4 | 4 => 5 | n => n⟩
theorem Tryd.lays146 : Go.Proofs.Lays.n146 Tryd.prog Tryd.lays146_ren := {
  mixed := by kernel_rfl
  f138 := Tryd.func82.trans (congrArg some (by kernel_rfl))
  f143 := Tryd.func83.trans (congrArg some (by kernel_rfl))
  f146 := Tryd.func50.trans (congrArg some (by kernel_rfl))
  f195 := Tryd.func102.trans (congrArg some (by kernel_rfl))
  f197 := Tryd.func77.trans (congrArg some (by kernel_rfl))
  f217 := Tryd.func98.trans (congrArg some (by kernel_rfl))
  f218 := Tryd.func103.trans (congrArg some (by kernel_rfl))
  f219 := Tryd.func80.trans (congrArg some (by kernel_rfl))
  f221 := Tryd.func67.trans (congrArg some (by kernel_rfl))
  f224 := Tryd.func100.trans (congrArg some (by kernel_rfl))
  f225 := Tryd.func99.trans (congrArg some (by kernel_rfl))
  f260 := Tryd.func95.trans (congrArg some (by kernel_rfl))
  f266 := Tryd.func111.trans (congrArg some (by kernel_rfl))
  f267 := Tryd.func101.trans (congrArg some (by kernel_rfl))
  f268 := Tryd.func81.trans (congrArg some (by kernel_rfl))
  f314 := Tryd.func112.trans (congrArg some (by kernel_rfl))
  t0 := Tryd.underlying0
  a0 := Tryd.isAgg0
  z0 := Tryd.sizeOf0
  v0 := Tryd.zeroValue0
  t3 := Tryd.underlying3
  a3 := Tryd.isAgg3
  z3 := Tryd.sizeOf3
  v3 := Tryd.zeroValue3
  t4 := Tryd.underlying4
  a4 := Tryd.isAgg4
  z4 := Tryd.sizeOf4
  v4 := Tryd.zeroValue4
  t5 := Tryd.underlying5
  a5 := Tryd.isAgg5
  z5 := Tryd.sizeOf5
  v5 := Tryd.zeroValue5
  t9 := Tryd.underlying9
  a9 := Tryd.isAgg9
  z9 := Tryd.sizeOf9
  v9 := Tryd.zeroValue9
  t21 := Tryd.underlying21
  a21 := Tryd.isAgg21
  z21 := Tryd.sizeOf21
  v21 := Tryd.zeroValue21
  t31 := Tryd.underlying33
  a31 := Tryd.isAgg33
  z31 := Tryd.sizeOf33
  v31 := Tryd.zeroValue33
  t46 := Tryd.underlying120
  a46 := Tryd.isAgg120
  z46 := Tryd.sizeOf120
  v46 := Tryd.zeroValue120
  t51 := Tryd.underlying117
  a51 := Tryd.isAgg117
  z51 := Tryd.sizeOf117
  v51 := Tryd.zeroValue117
  t105 := Tryd.underlying103
  a105 := Tryd.isAgg103
  z105 := Tryd.sizeOf103
  v105 := Tryd.zeroValue103
  t119 := Tryd.underlying132
  a119 := Tryd.isAgg132
  z119 := Tryd.sizeOf132
  t138 := Tryd.underlying134
  a138 := Tryd.isAgg134
  z138 := Tryd.sizeOf134
  v138 := Tryd.zeroValue134
  t139 := Tryd.underlying135
  a139 := Tryd.isAgg135
  z139 := Tryd.sizeOf135
  v139 := Tryd.zeroValue135
  t146 := Tryd.underlying137
  a146 := Tryd.isAgg137
  z146 := Tryd.sizeOf137
  v146 := Tryd.zeroValue137
  g1 := by kernel_rfl
  g3 := by kernel_rfl
  g4 := by kernel_rfl }
open Go.RowKit Go.Lib in
/-- strings.Split. (LAID: no walk: one application.) -/
theorem Tryd.strings_Split (s sep : ByteArray) (m : Int) (w : World) (hs : s.size < 4294967281) (hm : w.cell? ⟨1, 0, none⟩ = some (.int .i64 m)) (h1 : 1 ≤ sep.size) :
    Calls Tryd.prog 50 #[.string s, .string sep] w fun e w' =>
      e = .returned (.slice (some ⟨w.heap.size, 0, none⟩) (Lib.countB s sep + 1) (Lib.countB s sep + 1)) ∧ w' = w.alloc (.cells ((Lib.splitB sep 0 (Lib.countB s sep) s).map Value.string).toArray 9) := Any.strings_Split Tryd.lays146 (by kernel_rfl) s sep m w hs hm h1
def Tryd.lays147_ren : Go.Shelf.Ren := ⟨fun | 147 => 56 | 221 => 67 | 268 => 81 | 138 => 82 | 143 => 83 | 195 => 102 | 197 => 77 | 218 => 103 | 219 => 80 | 260 => 95 | 217 => 98 | 225 => 99 | 224 => 100 | 267 => 101 | 266 => 111 | 314 => 112 | n => n, fun | 9 => 9 | 3 => 3 | 31 => 33 | 4 => 4 | 0 => 0 | 105 => 103 | 21 => 21 | 5 => 5 | 46 => 120 | 119 => 132 | 139 => 135 | 138 => 134 | 146 => 137 | 51 => 117 | n => n, fun | 1 => 1 | 3 => 4 | 4 => 5 | n => n⟩
theorem Tryd.lays147 : Go.Proofs.Lays.n147 Tryd.prog Tryd.lays147_ren := {
  mixed := by kernel_rfl
  f138 := Tryd.func82.trans (congrArg some (by kernel_rfl))
  f143 := Tryd.func83.trans (congrArg some (by kernel_rfl))
  f147 := Tryd.func56.trans (congrArg some (by kernel_rfl))
  f195 := Tryd.func102.trans (congrArg some (by kernel_rfl))
  f197 := Tryd.func77.trans (congrArg some (by kernel_rfl))
  f217 := Tryd.func98.trans (congrArg some (by kernel_rfl))
  f218 := Tryd.func103.trans (congrArg some (by kernel_rfl))
  f219 := Tryd.func80.trans (congrArg some (by kernel_rfl))
  f221 := Tryd.func67.trans (congrArg some (by kernel_rfl))
  f224 := Tryd.func100.trans (congrArg some (by kernel_rfl))
  f225 := Tryd.func99.trans (congrArg some (by kernel_rfl))
  f260 := Tryd.func95.trans (congrArg some (by kernel_rfl))
  f266 := Tryd.func111.trans (congrArg some (by kernel_rfl))
  f267 := Tryd.func101.trans (congrArg some (by kernel_rfl))
  f268 := Tryd.func81.trans (congrArg some (by kernel_rfl))
  f314 := Tryd.func112.trans (congrArg some (by kernel_rfl))
  t0 := Tryd.underlying0
  a0 := Tryd.isAgg0
  z0 := Tryd.sizeOf0
  v0 := Tryd.zeroValue0
  t3 := Tryd.underlying3
  a3 := Tryd.isAgg3
  z3 := Tryd.sizeOf3
  v3 := Tryd.zeroValue3
  t4 := Tryd.underlying4
  a4 := Tryd.isAgg4
  z4 := Tryd.sizeOf4
  v4 := Tryd.zeroValue4
  t5 := Tryd.underlying5
  a5 := Tryd.isAgg5
  z5 := Tryd.sizeOf5
  v5 := Tryd.zeroValue5
  t9 := Tryd.underlying9
  a9 := Tryd.isAgg9
  z9 := Tryd.sizeOf9
  v9 := Tryd.zeroValue9
  t21 := Tryd.underlying21
  a21 := Tryd.isAgg21
  z21 := Tryd.sizeOf21
  v21 := Tryd.zeroValue21
  t31 := Tryd.underlying33
  a31 := Tryd.isAgg33
  z31 := Tryd.sizeOf33
  v31 := Tryd.zeroValue33
  t46 := Tryd.underlying120
  a46 := Tryd.isAgg120
  z46 := Tryd.sizeOf120
  v46 := Tryd.zeroValue120
  t51 := Tryd.underlying117
  a51 := Tryd.isAgg117
  z51 := Tryd.sizeOf117
  v51 := Tryd.zeroValue117
  t105 := Tryd.underlying103
  a105 := Tryd.isAgg103
  z105 := Tryd.sizeOf103
  v105 := Tryd.zeroValue103
  t119 := Tryd.underlying132
  a119 := Tryd.isAgg132
  z119 := Tryd.sizeOf132
  t138 := Tryd.underlying134
  a138 := Tryd.isAgg134
  z138 := Tryd.sizeOf134
  v138 := Tryd.zeroValue134
  t139 := Tryd.underlying135
  a139 := Tryd.isAgg135
  z139 := Tryd.sizeOf135
  v139 := Tryd.zeroValue135
  t146 := Tryd.underlying137
  a146 := Tryd.isAgg137
  z146 := Tryd.sizeOf137
  v146 := Tryd.zeroValue137
  g1 := by kernel_rfl
  g3 := by kernel_rfl
  g4 := by kernel_rfl }
open Go.RowKit Go.Lib in
/-- strings.SplitN, n > 0. (LAID: no walk: one application.) -/
theorem Tryd.strings_SplitN (s sep : ByteArray) (n : Nat) (m : Int) (w : World) (hs : s.size < 4294967281) (hm : w.cell? ⟨1, 0, none⟩ = some (.int .i64 m)) (h1 : 1 ≤ sep.size) (hn : 1 ≤ n) (hn63 : n ≤ 9223372036854775807) :
    Calls Tryd.prog 56 #[.string s, .string sep, .int .i64 n] w fun e w' =>
      e = .returned (.slice (some ⟨w.heap.size, 0, none⟩) (Lib.splitB sep 0 (min n (s.size + 1) - 1) s).length (min n (s.size + 1))) ∧ w' = w.alloc (.cells (Lib.cellsOf (Lib.splitB sep 0 (min n (s.size + 1) - 1) s) (min n (s.size + 1))) 9) := Any.strings_SplitN Tryd.lays147 (by kernel_rfl) s sep n m w hs hm h1 hn hn63
end Go.Proofs
/-
  The package-level variables that are read, as far as this program has them; what the library's functions ask of them.
-/
namespace Go.Proofs.YthkpekmecgbokaaDoor
open Go.Eng Go.Pct
set_option linter.unusedVariables false

structure Glob (M : Ghost) : Prop where
  maxLen : ∃ cs T fz m, M 1 (.cells cs T fz) ∧ cs[0]? = some (.int .i64 m)
  pow : ∃ T fz, M 0 (.cells (Lib.pow10Tab.map fun z => Value.int .u64 z).toArray T fz)

variable {M : Ghost} {w : World}
theorem Glob.mono {M M' : Ghost} (h : Glob M) (hm : ∀ b o, M b o → M' b o) : Glob M' := by
  constructor
  · obtain ⟨cs, T, fz, m, h1, h2⟩ := h.maxLen; exact ⟨cs, T, fz, m, hm _ _ h1, h2⟩
  · obtain ⟨T, fz, h1⟩ := h.pow; exact ⟨T, fz, hm _ _ h1⟩
theorem maxLen_at (hG : Glob M) (hM : Laid M w) : ∃ m, w.cell? ⟨1, 0, none⟩ = some (.int .i64 m) := by
  obtain ⟨cs, T, fz, m, h1, h2⟩ := hG.maxLen
  exact ⟨m, by rw [cell_of (hM _ _ h1)]; exact h2⟩
theorem baSize (l : List UInt8) : (⟨l.toArray⟩ : ByteArray).size = l.length := by simp [ByteArray.size]
theorem gPow : Tryd.prog.globalNamed "internal/strconv.uint64pow10" = some 0 := by kernel_rfl
theorem pow_at (hG : Glob M) (hM : Laid M w) : Lib.TabIs Tryd.prog w "internal/strconv.uint64pow10" .u64 Lib.pow10Tab := by
  obtain ⟨T, fz, h1⟩ := hG.pow
  unfold Lib.TabIs World.var?
  rw [gPow, Option.bind_some, hM _ _ h1]
theorem ext_grow (w : World) (k : Nat) (os : Array Obj) : Ext w (Go.Sort.grow (w.drewN k) os) :=
  ⟨rfl, rfl, rfl, by simp [Go.Sort.grow], fun b hb _ => by show (w.heap ++ os)[b]? = w.heap[b]?; rw [Array.getElem?_append_left hb]⟩
theorem itoa_ok (hG : Glob M) (hM : Laid M w) (n : Nat) (hn : n ≤ 9223372036854775807) : Calls Tryd.prog 31 #[i64 (n : Int)] w (RetE w (str (Lib.itoa (n : Int)))) := by
  refine (Tryd.strconv_Itoa (n : Int) (by omega) (by omega) w (pow_at hG hM)).mono ?_
  rintro e w' ⟨rfl, k, os, rfl⟩
  exact ⟨rfl, ext_grow w k os⟩
end Go.Proofs.YthkpekmecgbokaaDoor
/-
  The frames' common part: what a row's world holds; a world for the witness.
-/
namespace Go.Proofs.YthkpekmecgbokaaDoor
open Go.ChangeShapes Go.WideShapes Go.ChangeAt Go.RowKit Go.Eng Go.Pct
set_option maxRecDepth 100000

theorem own : ownKnob Tryd.prog.godebug = none := by kernel_rfl
theorem gPowT : (Tryd.prog.globals[0]?).map (·.type) = some 116 := by kernel_rfl
theorem cellsPow : Tryd.prog.cellsOf 116 = 20 := by kernel_rfl
theorem cellsU64 : Tryd.prog.cellsOf 98 = 1 := by kernel_rfl
/-- what is asked of a row's list -/
structure Lists (l : List (String × DataW Unit)) : Prop where
  pow : l.filter (fun x => x.1 == "internal/strconv.uint64pow10") = [("internal/strconv.uint64pow10", Lib.tabData .u64 Lib.pow10Tab)]
theorem glob_of {W : World} {l : List (String × DataW Unit)} (hl : Lists l) (h : laidMetH Tryd.prog l W) (hsh : W.ShapedOpen Tryd.prog) : Glob (All W) := by
  constructor
  · obtain ⟨m, hm⟩ := (Tryd.laysM219).s1_3 W hsh
    obtain ⟨cs, T, fz, hh, h2⟩ := cell_inv hm
    exact ⟨cs, T, fz, m, hh, h2⟩
  · have h1 := h.filter (fun x => x.1 == "internal/strconv.uint64pow10")
    rw [hl.pow, Go.MakeChecks.laidMetH_plain _ _ _ (by rfl)] at h1
    have ht := Lib.tabIs_of_head (rest := []) gPow gPowT Tryd.underlying116 Tryd.underlying98 cellsU64 cellsPow h1
    unfold Lib.TabIs World.var? at ht
    rw [gPow, Option.bind_some] at ht
    split at ht
    · rename_i cs T fz hh
      simp only [Option.some.injEq] at ht
      exact ⟨T, fz, by rw [← ht]; exact hh⟩
    · cases ht

theorem laidOut : laidOutB Tryd.prog = true := by kernel_rfl
theorem trodAll_below {H : Type} {enc : TypeId × Value → H} {P : Program} (hl : laidOutB P = true) {W W' : World} (hb : Below W.heap.size W W') : ∀ {ts : List TypeId} {vs : List Value} {ds : List (DataW H)} {ps : List MemPlace},
    (ts.all fun t => P.readableRec t && decide (t < P.types.size)) = true → DataW.TrodAll enc P W 0 (fun _ => true) true ts vs ds ps → (∀ x ∈ ps, x.block < W.heap.size) → DataW.TrodAll enc P W' 0 (fun b => decide (b < W.heap.size)) true ts vs ds ps
  | [], [], [], _, _, h, _ => h
  | _ :: _, _ :: _, _ :: _, _, hT, ⟨p, q, h1, h2, e⟩, hs => by
    simp only [List.all_cons, Bool.and_eq_true, decide_eq_true_eq] at hT
    exact ⟨p, q, Below.trod hl hT.1.1 hT.1.2 h1 hb (fun x hx => hs x (by rw [e]; exact List.mem_append_left _ hx)), trodAll_below hl hb hT.2 h2 (fun x hx => hs x (by rw [e]; exact List.mem_append_right _ hx)), e⟩
/-- what a table's datum lays -/
def cellsD : Nat → DataW Unit → List Value
  | 0, _ => []
  | n + 1, .agg l => l.flatMap (cellsD n)
  | _ + 1, .lit (.int k z) => [.int k z]
  | _, _ => []
def layAt (d : DataW Unit) : Obj → Obj
  | .cells _ t fz => .cells (cellsD 5 d).toArray t fz
  | o => o
/-- A world for the witness: the settled one, the tables holding what their initialisers lay. -/
noncomputable def laidWorld (os : Os) (l : List (String × DataW Unit)) : World :=
  { World.holding Tryd.prog os ⟨#[], #[], []⟩ with heap := l.foldl (fun h x => match Tryd.prog.globalNamed x.1 with | some g => h.modify g (layAt x.2) | none => h) (World.holding Tryd.prog os ⟨#[], #[], []⟩).heap }
theorem noStand (t : TypeId) (ts : Array TypeId) (h : ts.all (fun t => !Tryd.prog.wantsStandIn t) = true) (j : Nat) (ht : ts[j]? = some t) : Tryd.prog.wantsStandIn t = false := by
  have := (Array.all_eq_true'.1 h) t (Array.mem_of_getElem? ht)
  simpa using this
theorem sizes_of {H : Type} {ts us : List TypeId} {ds gs : List (DataW H)} (h : (DataW.weightsEach Tryd.prog (ts ++ us) (ds ++ gs)).all (· ≤ reachBytes) = true) {j : Nat} {t : TypeId} {d : DataW H} (ht : (ts ++ us)[j]? = some t) (hd : (ds ++ gs)[j]? = some d) : Wt Tryd.prog t d :=
  wt_each ht hd (fun n hn => by simpa using List.all_eq_true.1 h n hn)
end Go.Proofs.YthkpekmecgbokaaDoor
/-
  Headers' bytes, plainly: which texts are tokens, shown, alike. No program stands here.
-/
namespace Go.Rsp
open Go.Pct

def lowC (c : UInt8) : UInt8 := if 65 ≤ c.toNat ∧ c.toNat ≤ 90 then UInt8.ofNat (c.toNat + 32) else c
def alikeB (a b : List UInt8) : Bool := decide (a.map lowC = b.map lowC)
def tokC (c : UInt8) : Bool := (97 ≤ c.toNat && c.toNat ≤ 122) || (65 ≤ c.toNat && c.toNat ≤ 90) || (48 ≤ c.toNat && c.toNat ≤ 57) || c.toNat == 45
def tokenB (s : List UInt8) : Bool := s.all tokC && !s.isEmpty
def shownB (f : UInt8) (s : List UInt8) : Bool := s.all fun c => decide (f.toNat ≤ c.toNat) && decide (c.toNat ≤ 126)
theorem alike_no {a b : List UInt8} {i : Nat} (h : i < a.length) (hl : a.length = b.length) (hne : lowC (a.getD i 0) ≠ lowC (b.getD i 0)) : alikeB a b = false := by
  unfold alikeB
  rw [decide_eq_false_iff_not]
  intro e
  have := congrArg (fun l => l.getD i (0 : UInt8)) e
  simp [h, show i < b.length by omega] at this
  simp [h, show i < b.length by omega] at hne
  exact hne this
theorem alike_len {a b : List UInt8} (h : a.length ≠ b.length) : alikeB a b = false := by
  unfold alikeB
  rw [decide_eq_false_iff_not]
  intro e
  exact h (by simpa using congrArg List.length e)
theorem alike_yes {a b : List UInt8} (hl : a.length = b.length) (h : ∀ j, j < a.length → lowC (a.getD j 0) = lowC (b.getD j 0)) : alikeB a b = true := by
  unfold alikeB
  rw [decide_eq_true_iff]
  apply List.ext_getElem (by simpa using hl)
  intro j h1 h2
  have := h j (by simpa using h1)
  have h3 : j < a.length := by simpa using h1
  have h4 : j < b.length := by omega
  simpa [h3, h4] using this
theorem all_no {p : UInt8 → Bool} {s : List UInt8} {i : Nat} (h : i < s.length) (hn : p (s.getD i 0) = false) : s.all p = false := by
  rw [Bool.eq_false_iff]
  intro ha
  have := List.all_eq_true.1 ha (s.getD i 0) (by
    have e : s.getD i 0 = s[i] := by simp [h]
    rw [e]; exact List.getElem_mem _)
  rw [hn] at this; cases this
theorem all_yes {p : UInt8 → Bool} {s : List UInt8} (h : ∀ j, j < s.length → p (s.getD j 0) = true) : s.all p = true := by
  rw [List.all_eq_true]
  intro c hc
  obtain ⟨j, hj, rfl⟩ := List.mem_iff_getElem.1 hc
  have := h j hj
  simpa [hj] using this
end Go.Rsp
/-
  The contracts of the functions on headers' bytes: request.lower, request.Alike, response.token, matricularef03.Token, Shown, Alike.
-/
namespace Go.Proofs.YthkpekmecgbokaaDoor
open Go.Eng Go.Pct Go.Rsp
set_option maxRecDepth 10000
set_option linter.unusedSimpArgs false
set_option linter.unusedVariables false

variable {M : Ghost} {w : World}
theorem lowC_int (c : UInt8) (h : 65 ≤ (c.toNat : Int) ∧ (c.toNat : Int) ≤ 90) : (c.toNat : Int) + 32 = ((lowC c).toNat : Int) := by
  have h1 : 65 ≤ c.toNat ∧ c.toNat ≤ 90 := by omega
  rw [lowC, if_pos h1]; simp; omega
theorem lowC_no (c : UInt8) (h : ¬ (65 ≤ (c.toNat : Int) ∧ (c.toNat : Int) ≤ 90)) : lowC c = c := by
  rw [lowC, if_neg (by omega)]
theorem lower_ok (hM : Laid M w) (c : UInt8) : Calls Tryd.prog 48 #[byt c] w (RetE w (byt (lowC c))) := by
  refine calls_st (l := [byt c]) hM Tryd.func48 rfl rfl rfl (E0 := [(0, true, byt c)]) (params_cons rfl (params_nil _)) ?_
  have hc := u8_lt c
  repeat' (first | (first | refine wc_seq ?_ | refine wc_region ?_ | refine wl_nil ?_ | refine wn_seq ?_ | refine wn_blk ?_ | refine wc_skip ?_ | refine wc_block ?_ | refine wc_exit rfl ?_ | (show WL _ _ (_ :: _) _ _ _ _; first | refine wl_v rfl rfl rfl (by first | (show OpV _ _ _ _ (Oper.mk _ (Op.move _) _ _ _ _) _ _; exact xo_move rfl) | (show OpV _ _ _ _ (Oper.mk _ (Op.assign _) _ _ _ _) _ _; exact xo_assign rfl) | (show OpV _ _ _ _ (Oper.mk _ (Op.pick _ _ _) _ _ _ _) _ _; first | exact xo_and rfl rfl | exact xo_or rfl rfl) | (show OpV _ _ _ _ (Oper.mk _ (Op.binOp BinOp.leq _ _ _ _) _ _ _ _) _ _; exact xo_leq rfl rfl) | (show OpV _ _ _ _ (Oper.mk _ (Op.binOp BinOp.geq _ _ _ _) _ _ _ _) _ _; exact xo_geq rfl rfl) | (show OpV _ _ _ _ (Oper.mk _ (Op.binOp BinOp.add _ _ _ _) _ _ _ _) _ _; first | exact xo_add rfl rfl | exact ov_sadd rfl rfl (by first | with_reducible exact fun _ => rfl | with_reducible exact fun h => h | exact fun _ => rfl | exact fun h => h | (intro himp; simp_all; done)) (by first | with_reducible exact fun _ => rfl | with_reducible exact fun h => h | exact fun _ => rfl | exact fun h => h | (intro himp; simp_all; done)) (by intro hcg; first | omega | (simp only [List.length_append, List.length_take, List.length_drop, List.length_cons, List.length_nil, List.length_nil]; omega))) | (show OpV _ _ _ _ (Oper.mk _ (Op.binOp BinOp.sub _ _ _ _) _ _ _ _) _ _; exact xo_sub rfl rfl)) ?_ | refine wl_v rfl rfl rfl (by first  | fail) ?_) | refine wc_ret rfl ?_) | (show WC _ (Code.cond _ _ _) _ _ _ _; (refine wc_cond rfl (fun hc => ?_) (fun hc => ?_) <;> (try (simp only [decide_eq_true_eq, decide_eq_false_iff_not, Bool.and_eq_true, Bool.or_eq_true, Bool.and_eq_false_iff, Bool.or_eq_false_iff, Bool.not_eq_true', Bool.not_eq_false', Int.not_lt, Int.not_le] at hc)) <;> (try (exfalso; first | omega | contradiction)))))
  · refine wr_tmp rfl rfl ?_
    rw [byt, ← lowC_int c (by omega)]
    exact congrArg (Value.int .u8) (by omega)
  · refine wr_tmp rfl rfl ?_
    rw [lowC_no c (by omega)]
theorem alike_ok (hM : Laid M w) (a b : List UInt8) (ha : a.length ≤ 9223372036854775807) : Calls Tryd.prog 34 #[str a, str b] w (RetE w (.bool (alikeB a b))) := by
  refine calls_st (l := [str a, str b]) hM Tryd.func34 rfl rfl rfl (E0 := [(0, true, str a), (1, true, str b)]) (params_cons rfl (params_cons rfl (params_nil _))) ?_
  repeat' (first | (first | refine wc_seq ?_ | refine wc_region ?_ | refine wl_nil ?_ | refine wn_seq ?_ | refine wn_blk ?_ | refine wc_skip ?_ | refine wc_block ?_ | refine wc_exit rfl ?_ | (show WL _ _ (_ :: _) _ _ _ _; first | refine wl_v rfl rfl rfl (by first | (show OpV _ _ _ _ (Oper.mk _ (Op.move _) _ _ _ _) _ _; exact xo_move rfl) | (show OpV _ _ _ _ (Oper.mk _ (Op.assign _) _ _ _ _) _ _; exact xo_assign rfl) | (show OpV _ _ _ _ (Oper.mk _ (Op.call ⟨.builtin .len, _, _⟩) _ _ _ _) _ _; first | exact xo_slen rfl | exact xo_len rfl) | (show OpV _ _ _ _ (Oper.mk _ (Op.binOp BinOp.neq _ _ _ _) _ _ _ _) _ _; first | exact xo_neq rfl rfl | exact xo_sneq rfl rfl | exact xo_bneq rfl rfl | exact xo_aneq rfl rfl) | (show OpV _ _ _ _ (Oper.mk _ (Op.binOp BinOp.lss _ _ _ _) _ _ _ _) _ _; exact xo_lss rfl rfl) | (show OpV _ _ _ _ (Oper.mk _ (Op.binOp BinOp.add _ _ _ _) _ _ _ _) _ _; first | exact xo_add rfl rfl | exact ov_sadd rfl rfl (by first | with_reducible exact fun _ => rfl | with_reducible exact fun h => h | exact fun _ => rfl | exact fun h => h | (intro himp; simp_all; done)) (by first | with_reducible exact fun _ => rfl | with_reducible exact fun h => h | exact fun _ => rfl | exact fun h => h | (intro himp; simp_all; done)) (by intro hcg; first | omega | (simp only [List.length_append, List.length_take, List.length_drop, List.length_cons, List.length_nil, List.length_nil]; omega))) | (show OpV _ _ _ _ (Oper.mk _ (Op.index _ _ _) _ _ _ _) _ _; exact xo_sindex rfl rfl)) ?_ | refine wl_v rfl rfl rfl (by first  | fail) ?_) | refine wc_ret rfl ?_) | (show WC _ (Code.cond _ _ _) _ _ _ _; (refine wc_cond rfl (fun hc => ?_) (fun hc => ?_) <;> (try (simp only [decide_eq_true_eq, decide_eq_false_iff_not, Bool.and_eq_true, Bool.or_eq_true, Bool.and_eq_false_iff, Bool.or_eq_false_iff, Bool.not_eq_true', Bool.not_eq_false', Int.not_lt, Int.not_le] at hc)) <;> (try (exfalso; first | omega | contradiction)))))
  · exact wr_tmp rfl rfl (congrArg Value.bool (alike_len (by omega)).symm)
  · refine wc_loop (α := { i : Nat // i ≤ a.length ∧ ∀ j, j < i → lowC (a.getD j 0) = lowC (b.getD j 0) }) (fun x => [(0, true, str a), (1, true, str b), (12, true, i64 (a.length : Int)), (13, true, i64 (x.1 : Int))]) (fun _ => St w [] [] M) (fun x => a.length - x.1) ⟨0, by omega, by intro j hj; omega⟩ (by first | exact Sub.nil _ | (repeat (first | exact Sub.nil _ | refine Sub.cons (by first | rfl | (simp [look]; done)) ?_))) (fun _ h => h) ?_
    rintro ⟨i, hi, hall⟩
    dsimp only
    repeat' (first | (first | refine wc_seq ?_ | refine wc_region ?_ | refine wl_nil ?_ | refine wn_seq ?_ | refine wn_blk ?_ | refine wc_skip ?_ | refine wc_block ?_ | refine wc_exit rfl ?_ | (show WL _ _ (_ :: _) _ _ _ _; first | refine wl_v rfl rfl rfl (by first | (show OpV _ _ _ _ (Oper.mk _ (Op.move _) _ _ _ _) _ _; exact xo_move rfl) | (show OpV _ _ _ _ (Oper.mk _ (Op.assign _) _ _ _ _) _ _; exact xo_assign rfl) | (show OpV _ _ _ _ (Oper.mk _ (Op.call ⟨.builtin .len, _, _⟩) _ _ _ _) _ _; first | exact xo_slen rfl | exact xo_len rfl) | (show OpV _ _ _ _ (Oper.mk _ (Op.binOp BinOp.neq _ _ _ _) _ _ _ _) _ _; first | exact xo_neq rfl rfl | exact xo_sneq rfl rfl | exact xo_bneq rfl rfl | exact xo_aneq rfl rfl) | (show OpV _ _ _ _ (Oper.mk _ (Op.binOp BinOp.lss _ _ _ _) _ _ _ _) _ _; exact xo_lss rfl rfl) | (show OpV _ _ _ _ (Oper.mk _ (Op.binOp BinOp.add _ _ _ _) _ _ _ _) _ _; first | exact xo_add rfl rfl | exact ov_sadd rfl rfl (by first | with_reducible exact fun _ => rfl | with_reducible exact fun h => h | exact fun _ => rfl | exact fun h => h | (intro himp; simp_all; done)) (by first | with_reducible exact fun _ => rfl | with_reducible exact fun h => h | exact fun _ => rfl | exact fun h => h | (intro himp; simp_all; done)) (by intro hcg; first | omega | (simp only [List.length_append, List.length_take, List.length_drop, List.length_cons, List.length_nil, List.length_nil]; omega))) | (show OpV _ _ _ _ (Oper.mk _ (Op.index _ _ _) _ _ _ _) _ _; exact xo_sindex rfl rfl)) ?_ | refine wl_v rfl rfl rfl (by first  | fail) ?_) | refine wc_ret rfl ?_) | (show WC _ (Code.cond _ _ _) _ _ _ _; (refine wc_cond rfl (fun hc => ?_) (fun hc => ?_) <;> (try (simp only [decide_eq_true_eq, decide_eq_false_iff_not, Bool.and_eq_true, Bool.or_eq_true, Bool.and_eq_false_iff, Bool.or_eq_false_iff, Bool.not_eq_true', Bool.not_eq_false', Int.not_lt, Int.not_le] at hc)) <;> (try (exfalso; first | omega | contradiction)))))
    · refine wc_weak (E' := [(0, true, str a), (1, true, str b), (5, true, i64 (i : Int)), (12, true, i64 (a.length : Int)), (13, true, i64 (i : Int))]) (by first | exact Sub.nil _ | (repeat (first | exact Sub.nil _ | refine Sub.cons (by first | rfl | (simp [look]; done)) ?_))) (fun _ h => h) ?_
      refine wc_draw 9 (by kernel_rfl) rfl (by kernel_rfl) (fun _ _ h k => h.ext k) ?_
      repeat' (first | (show WD _ _ (_ :: _) _ _ _ _ _ _; first | refine wd_v rfl rfl rfl rfl rfl rfl (by first | (show OpV _ _ _ _ (Oper.mk _ (Op.move _) _ _ _ _) _ _; exact xo_move rfl) | (show OpV _ _ _ _ (Oper.mk _ (Op.assign _) _ _ _ _) _ _; exact xo_assign rfl) | (show OpV _ _ _ _ (Oper.mk _ (Op.call ⟨.builtin .len, _, _⟩) _ _ _ _) _ _; first | exact xo_slen rfl | exact xo_len rfl) | (show OpV _ _ _ _ (Oper.mk _ (Op.binOp BinOp.neq _ _ _ _) _ _ _ _) _ _; first | exact xo_neq rfl rfl | exact xo_sneq rfl rfl | exact xo_bneq rfl rfl | exact xo_aneq rfl rfl) | (show OpV _ _ _ _ (Oper.mk _ (Op.binOp BinOp.lss _ _ _ _) _ _ _ _) _ _; exact xo_lss rfl rfl) | (show OpV _ _ _ _ (Oper.mk _ (Op.binOp BinOp.add _ _ _ _) _ _ _ _) _ _; first | exact xo_add rfl rfl | exact ov_sadd rfl rfl (by first | with_reducible exact fun _ => rfl | with_reducible exact fun h => h | exact fun _ => rfl | exact fun h => h | (intro himp; simp_all; done)) (by first | with_reducible exact fun _ => rfl | with_reducible exact fun h => h | exact fun _ => rfl | exact fun h => h | (intro himp; simp_all; done)) (by intro hcg; first | omega | (simp only [List.length_append, List.length_take, List.length_drop, List.length_cons, List.length_nil, List.length_nil]; omega))) | (show OpV _ _ _ _ (Oper.mk _ (Op.index _ _ _) _ _ _ _) _ _; exact xo_sindex rfl rfl)) ?_ | refine wd_v rfl rfl rfl rfl rfl rfl (by first | ((show OpV _ _ _ _ (Oper.mk _ (Op.call ⟨.value (.func 48), _, _⟩) _ _ _ _) _ _; exact ov_call Tryd.call48 rfl (by intro himp; first | rfl | (simp_all; done)) (by rfl) (fun _ _ h k => h.ext k) (fun hcg w hw => lower_ok hw.laid _))) | fail) ?_ | refine wd_new rfl rfl rfl rfl rfl rfl steady_fresh (or_buildSlice rfl rfl (by first | exact (rfl : _ = some 1) | exact (rfl : _ = some 2) | exact (rfl : _ = some 3) | exact (rfl : _ = some 4) | exact (rfl : _ = some 6) | exact rfl) (fun _ => rfl) rfl rfl rfl (by simp only [cellsAll, Value.cells, List.size_toArray, List.length_cons, List.length_nil, Nat.zero_add, Nat.reduceAdd, and_self, if_true, true_and, Option.map_some, List.cons_append, List.nil_append]; first | done | rfl)) ?_ | refine wd_conv rfl rfl rfl rfl rfl rfl rfl rfl rfl rfl ?_) | (show WD _ _ _ _ _ _ _ _ _; first | refine wd_nil ?_ | refine wd_nilF ?_) | (first | refine wc_seq ?_ | refine wc_region ?_ | refine wl_nil ?_ | refine wn_seq ?_ | refine wn_blk ?_ | refine wc_skip ?_ | refine wc_block ?_ | refine wc_exit rfl ?_ | (show WL _ _ (_ :: _) _ _ _ _; first | refine wl_v rfl rfl rfl (by first | (show OpV _ _ _ _ (Oper.mk _ (Op.move _) _ _ _ _) _ _; exact xo_move rfl) | (show OpV _ _ _ _ (Oper.mk _ (Op.assign _) _ _ _ _) _ _; exact xo_assign rfl) | (show OpV _ _ _ _ (Oper.mk _ (Op.call ⟨.builtin .len, _, _⟩) _ _ _ _) _ _; first | exact xo_slen rfl | exact xo_len rfl) | (show OpV _ _ _ _ (Oper.mk _ (Op.binOp BinOp.neq _ _ _ _) _ _ _ _) _ _; first | exact xo_neq rfl rfl | exact xo_sneq rfl rfl | exact xo_bneq rfl rfl | exact xo_aneq rfl rfl) | (show OpV _ _ _ _ (Oper.mk _ (Op.binOp BinOp.lss _ _ _ _) _ _ _ _) _ _; exact xo_lss rfl rfl) | (show OpV _ _ _ _ (Oper.mk _ (Op.binOp BinOp.add _ _ _ _) _ _ _ _) _ _; first | exact xo_add rfl rfl | exact ov_sadd rfl rfl (by first | with_reducible exact fun _ => rfl | with_reducible exact fun h => h | exact fun _ => rfl | exact fun h => h | (intro himp; simp_all; done)) (by first | with_reducible exact fun _ => rfl | with_reducible exact fun h => h | exact fun _ => rfl | exact fun h => h | (intro himp; simp_all; done)) (by intro hcg; first | omega | (simp only [List.length_append, List.length_take, List.length_drop, List.length_cons, List.length_nil, List.length_nil]; omega))) | (show OpV _ _ _ _ (Oper.mk _ (Op.index _ _ _) _ _ _ _) _ _; exact xo_sindex rfl rfl)) ?_ | refine wl_v rfl rfl rfl (by first | ((show OpV _ _ _ _ (Oper.mk _ (Op.call ⟨.value (.func 48), _, _⟩) _ _ _ _) _ _; exact ov_call Tryd.call48 rfl (by intro himp; first | rfl | (simp_all; done)) (by rfl) (fun _ _ h k => h.ext k) (fun hcg w hw => lower_ok hw.laid _))) | fail) ?_) | refine wc_ret rfl ?_))
      repeat' (first | (first | refine wc_seq ?_ | refine wc_region ?_ | refine wl_nil ?_ | refine wn_seq ?_ | refine wn_blk ?_ | refine wc_skip ?_ | refine wc_block ?_ | refine wc_exit rfl ?_ | (show WL _ _ (_ :: _) _ _ _ _; first | refine wl_v rfl rfl rfl (by first | (show OpV _ _ _ _ (Oper.mk _ (Op.move _) _ _ _ _) _ _; exact xo_move rfl) | (show OpV _ _ _ _ (Oper.mk _ (Op.assign _) _ _ _ _) _ _; exact xo_assign rfl) | (show OpV _ _ _ _ (Oper.mk _ (Op.call ⟨.builtin .len, _, _⟩) _ _ _ _) _ _; first | exact xo_slen rfl | exact xo_len rfl) | (show OpV _ _ _ _ (Oper.mk _ (Op.binOp BinOp.neq _ _ _ _) _ _ _ _) _ _; first | exact xo_neq rfl rfl | exact xo_sneq rfl rfl | exact xo_bneq rfl rfl | exact xo_aneq rfl rfl) | (show OpV _ _ _ _ (Oper.mk _ (Op.binOp BinOp.lss _ _ _ _) _ _ _ _) _ _; exact xo_lss rfl rfl) | (show OpV _ _ _ _ (Oper.mk _ (Op.binOp BinOp.add _ _ _ _) _ _ _ _) _ _; first | exact xo_add rfl rfl | exact ov_sadd rfl rfl (by first | with_reducible exact fun _ => rfl | with_reducible exact fun h => h | exact fun _ => rfl | exact fun h => h | (intro himp; simp_all; done)) (by first | with_reducible exact fun _ => rfl | with_reducible exact fun h => h | exact fun _ => rfl | exact fun h => h | (intro himp; simp_all; done)) (by intro hcg; first | omega | (simp only [List.length_append, List.length_take, List.length_drop, List.length_cons, List.length_nil, List.length_nil]; omega))) | (show OpV _ _ _ _ (Oper.mk _ (Op.index _ _ _) _ _ _ _) _ _; exact xo_sindex rfl rfl)) ?_ | refine wl_v rfl rfl rfl (by first  | fail) ?_) | refine wc_ret rfl ?_) | (show WC _ (Code.cond _ _ _) _ _ _ _; (refine wc_cond rfl (fun hc => ?_) (fun hc => ?_) <;> (try (simp only [decide_eq_true_eq, decide_eq_false_iff_not, Bool.and_eq_true, Bool.or_eq_true, Bool.and_eq_false_iff, Bool.or_eq_false_iff, Bool.not_eq_true', Bool.not_eq_false', Int.not_lt, Int.not_le] at hc)) <;> (try (exfalso; first | omega | contradiction)))))
      · exact wr_tmp rfl rfl (congrArg Value.bool (alike_no (i := i) (by omega) (by omega) (fun h => hc (by rw [h]))).symm)
      · refine wn_cut ⟨i + 1, by omega, ?_⟩ (by show a.length - (i + 1) < a.length - i; omega) (by first | exact Sub.nil _ | (repeat (first | exact Sub.nil _ | refine Sub.cons (by first | rfl | (simp [look]; done)) ?_))) (fun _ h => h)
        intro j hj
        by_cases h : j = i
        · subst h; exact UInt8.toNat_inj.1 (by omega)
        · exact hall j (by omega)
    · exact wr_tmp rfl rfl (congrArg Value.bool (alike_yes (by omega) (fun j hj => hall j (by omega))).symm)

theorem tok_no (c : UInt8) : (((plainB c = false ∨ (c.toNat : Int) = 46) ∨ (c.toNat : Int) = 95) ∨ (c.toNat : Int) = 126) → tokC c = false := by revert c; apply all_bytes; decide +kernel
theorem tok_yes (c : UInt8) : (((plainB c = true ∧ ¬ (c.toNat : Int) = 46) ∧ ¬ (c.toNat : Int) = 95) ∧ ¬ (c.toNat : Int) = 126) → tokC c = true := by revert c; apply all_bytes; decide +kernel
theorem token_ok (hM : Laid M w) (s : List UInt8) (hs : s.length ≤ 9223372036854775807) : Calls Tryd.prog 32 #[str s] w (RetE w (.bool (tokenB s))) := by
  refine calls_st (l := [str s]) hM Tryd.func32 rfl rfl rfl (E0 := [(0, true, str s)]) (params_cons rfl (params_nil _)) ?_
  repeat' (first | (first | refine wc_seq ?_ | refine wc_region ?_ | refine wl_nil ?_ | refine wn_seq ?_ | refine wn_blk ?_ | refine wc_skip ?_ | refine wc_block ?_ | refine wc_exit rfl ?_ | (show WL _ _ (_ :: _) _ _ _ _; first | refine wl_v rfl rfl rfl (by first | (show OpV _ _ _ _ (Oper.mk _ (Op.move _) _ _ _ _) _ _; exact xo_move rfl) | (show OpV _ _ _ _ (Oper.mk _ (Op.assign _) _ _ _ _) _ _; exact xo_assign rfl) | (show OpV _ _ _ _ (Oper.mk _ (Op.pick _ _ _) _ _ _ _) _ _; first | exact xo_and rfl rfl | exact xo_or rfl rfl) | (show OpV _ _ _ _ (Oper.mk _ (Op.call ⟨.builtin .len, _, _⟩) _ _ _ _) _ _; first | exact xo_slen rfl | exact xo_len rfl) | (show OpV _ _ _ _ (Oper.mk _ (Op.unOp _ _ _) _ _ _ _) _ _; exact xo_not rfl) | (show OpV _ _ _ _ (Oper.mk _ (Op.binOp BinOp.eql _ _ _ _) _ _ _ _) _ _; first | exact xo_eql rfl rfl | exact xo_seql rfl rfl | exact xo_beql rfl rfl | exact xo_aeql rfl rfl) | (show OpV _ _ _ _ (Oper.mk _ (Op.binOp BinOp.neq _ _ _ _) _ _ _ _) _ _; first | exact xo_neq rfl rfl | exact xo_sneq rfl rfl | exact xo_bneq rfl rfl | exact xo_aneq rfl rfl) | (show OpV _ _ _ _ (Oper.mk _ (Op.binOp BinOp.lss _ _ _ _) _ _ _ _) _ _; exact xo_lss rfl rfl) | (show OpV _ _ _ _ (Oper.mk _ (Op.binOp BinOp.add _ _ _ _) _ _ _ _) _ _; first | exact xo_add rfl rfl | exact ov_sadd rfl rfl (by first | with_reducible exact fun _ => rfl | with_reducible exact fun h => h | exact fun _ => rfl | exact fun h => h | (intro himp; simp_all; done)) (by first | with_reducible exact fun _ => rfl | with_reducible exact fun h => h | exact fun _ => rfl | exact fun h => h | (intro himp; simp_all; done)) (by intro hcg; first | omega | (simp only [List.length_append, List.length_take, List.length_drop, List.length_cons, List.length_nil, List.length_nil]; omega))) | (show OpV _ _ _ _ (Oper.mk _ (Op.index _ _ _) _ _ _ _) _ _; exact xo_sindex rfl rfl)) ?_ | refine wl_v rfl rfl rfl (by first  | fail) ?_) | refine wc_ret rfl ?_) | (show WC _ (Code.cond _ _ _) _ _ _ _; (refine wc_cond rfl (fun hc => ?_) (fun hc => ?_) <;> (try (simp only [decide_eq_true_eq, decide_eq_false_iff_not, Bool.and_eq_true, Bool.or_eq_true, Bool.and_eq_false_iff, Bool.or_eq_false_iff, Bool.not_eq_true', Bool.not_eq_false', Int.not_lt, Int.not_le] at hc)) <;> (try (exfalso; first | omega | contradiction)))))
  refine wc_loop (α := { i : Nat // i ≤ s.length ∧ ∀ j, j < i → tokC (s.getD j 0) = true }) (fun x => [(0, true, str s), (6, true, i64 (s.length : Int)), (7, true, i64 (x.1 : Int))]) (fun _ => St w [] [] M) (fun x => s.length - x.1) ⟨0, by omega, by intro j hj; omega⟩ (by first | exact Sub.nil _ | (repeat (first | exact Sub.nil _ | refine Sub.cons (by first | rfl | (simp [look]; done)) ?_))) (fun _ h => h) ?_
  rintro ⟨i, hi, hall⟩
  dsimp only
  repeat' (first | (first | refine wc_seq ?_ | refine wc_region ?_ | refine wl_nil ?_ | refine wn_seq ?_ | refine wn_blk ?_ | refine wc_skip ?_ | refine wc_block ?_ | refine wc_exit rfl ?_ | (show WL _ _ (_ :: _) _ _ _ _; first | refine wl_v rfl rfl rfl (by first | (show OpV _ _ _ _ (Oper.mk _ (Op.move _) _ _ _ _) _ _; exact xo_move rfl) | (show OpV _ _ _ _ (Oper.mk _ (Op.assign _) _ _ _ _) _ _; exact xo_assign rfl) | (show OpV _ _ _ _ (Oper.mk _ (Op.pick _ _ _) _ _ _ _) _ _; first | exact xo_and rfl rfl | exact xo_or rfl rfl) | (show OpV _ _ _ _ (Oper.mk _ (Op.call ⟨.builtin .len, _, _⟩) _ _ _ _) _ _; first | exact xo_slen rfl | exact xo_len rfl) | (show OpV _ _ _ _ (Oper.mk _ (Op.unOp _ _ _) _ _ _ _) _ _; exact xo_not rfl) | (show OpV _ _ _ _ (Oper.mk _ (Op.binOp BinOp.eql _ _ _ _) _ _ _ _) _ _; first | exact xo_eql rfl rfl | exact xo_seql rfl rfl | exact xo_beql rfl rfl | exact xo_aeql rfl rfl) | (show OpV _ _ _ _ (Oper.mk _ (Op.binOp BinOp.neq _ _ _ _) _ _ _ _) _ _; first | exact xo_neq rfl rfl | exact xo_sneq rfl rfl | exact xo_bneq rfl rfl | exact xo_aneq rfl rfl) | (show OpV _ _ _ _ (Oper.mk _ (Op.binOp BinOp.lss _ _ _ _) _ _ _ _) _ _; exact xo_lss rfl rfl) | (show OpV _ _ _ _ (Oper.mk _ (Op.binOp BinOp.add _ _ _ _) _ _ _ _) _ _; first | exact xo_add rfl rfl | exact ov_sadd rfl rfl (by first | with_reducible exact fun _ => rfl | with_reducible exact fun h => h | exact fun _ => rfl | exact fun h => h | (intro himp; simp_all; done)) (by first | with_reducible exact fun _ => rfl | with_reducible exact fun h => h | exact fun _ => rfl | exact fun h => h | (intro himp; simp_all; done)) (by intro hcg; first | omega | (simp only [List.length_append, List.length_take, List.length_drop, List.length_cons, List.length_nil, List.length_nil]; omega))) | (show OpV _ _ _ _ (Oper.mk _ (Op.index _ _ _) _ _ _ _) _ _; exact xo_sindex rfl rfl)) ?_ | refine wl_v rfl rfl rfl (by first | ((show OpV _ _ _ _ (Oper.mk _ (Op.call ⟨.value (.func 46), _, _⟩) _ _ _ _) _ _; exact ov_call Tryd.call46 rfl (by intro himp; first | rfl | (simp_all; done)) (by rfl) (fun _ _ h k => h.ext k) (fun hcg w hw => plain_ok hw.laid _))) | fail) ?_) | refine wc_ret rfl ?_) | (show WC _ (Code.cond _ _ _) _ _ _ _; (refine wc_cond rfl (fun hc => ?_) (fun hc => ?_) <;> (try (simp only [decide_eq_true_eq, decide_eq_false_iff_not, Bool.and_eq_true, Bool.or_eq_true, Bool.and_eq_false_iff, Bool.or_eq_false_iff, Bool.not_eq_true', Bool.not_eq_false', Int.not_lt, Int.not_le] at hc)) <;> (try (exfalso; first | omega | contradiction)))))
  · refine wr_tmp rfl rfl (congrArg Value.bool ?_)
    unfold tokenB
    rw [all_no (i := i) (by omega) (tok_no _ hc), Bool.false_and]
  · refine wn_cut ⟨i + 1, by omega, ?_⟩ (by show s.length - (i + 1) < s.length - i; omega) (by first | exact Sub.nil _ | (repeat (first | exact Sub.nil _ | refine Sub.cons (by first | rfl | (simp [look]; done)) ?_))) (fun _ h => h)
    intro j hj
    by_cases h : j = i
    · subst h; exact tok_yes _ hc
    · exact hall j (by omega)
  · refine wr_tmp rfl rfl (congrArg Value.bool ?_)
    unfold tokenB
    rw [all_yes (fun j hj => hall j (by omega)), Bool.true_and]
    cases s <;> simp
theorem qtoken_ok (hM : Laid M w) (s : List UInt8) (hs : s.length ≤ 9223372036854775807) : Calls Tryd.prog 69 #[str s] w (RetE w (.bool (tokenB s))) := by
  refine calls_st (l := [str s]) hM Tryd.func69 rfl rfl rfl (E0 := [(0, true, str s)]) (params_cons rfl (params_nil _)) ?_
  repeat' (first | (first | refine wc_seq ?_ | refine wc_region ?_ | refine wl_nil ?_ | refine wn_seq ?_ | refine wn_blk ?_ | refine wc_skip ?_ | refine wc_block ?_ | refine wc_exit rfl ?_ | (show WL _ _ (_ :: _) _ _ _ _; first | refine wl_v rfl rfl rfl (by first | (show OpV _ _ _ _ (Oper.mk _ (Op.move _) _ _ _ _) _ _; exact xo_move rfl) | (show OpV _ _ _ _ (Oper.mk _ (Op.assign _) _ _ _ _) _ _; exact xo_assign rfl) | (show OpV _ _ _ _ (Oper.mk _ (Op.pick _ _ _) _ _ _ _) _ _; first | exact xo_and rfl rfl | exact xo_or rfl rfl) | (show OpV _ _ _ _ (Oper.mk _ (Op.call ⟨.builtin .len, _, _⟩) _ _ _ _) _ _; first | exact xo_slen rfl | exact xo_len rfl) | (show OpV _ _ _ _ (Oper.mk _ (Op.unOp _ _ _) _ _ _ _) _ _; exact xo_not rfl) | (show OpV _ _ _ _ (Oper.mk _ (Op.binOp BinOp.eql _ _ _ _) _ _ _ _) _ _; first | exact xo_eql rfl rfl | exact xo_seql rfl rfl | exact xo_beql rfl rfl | exact xo_aeql rfl rfl) | (show OpV _ _ _ _ (Oper.mk _ (Op.binOp BinOp.neq _ _ _ _) _ _ _ _) _ _; first | exact xo_neq rfl rfl | exact xo_sneq rfl rfl | exact xo_bneq rfl rfl | exact xo_aneq rfl rfl) | (show OpV _ _ _ _ (Oper.mk _ (Op.binOp BinOp.lss _ _ _ _) _ _ _ _) _ _; exact xo_lss rfl rfl) | (show OpV _ _ _ _ (Oper.mk _ (Op.binOp BinOp.add _ _ _ _) _ _ _ _) _ _; first | exact xo_add rfl rfl | exact ov_sadd rfl rfl (by first | with_reducible exact fun _ => rfl | with_reducible exact fun h => h | exact fun _ => rfl | exact fun h => h | (intro himp; simp_all; done)) (by first | with_reducible exact fun _ => rfl | with_reducible exact fun h => h | exact fun _ => rfl | exact fun h => h | (intro himp; simp_all; done)) (by intro hcg; first | omega | (simp only [List.length_append, List.length_take, List.length_drop, List.length_cons, List.length_nil, List.length_nil]; omega))) | (show OpV _ _ _ _ (Oper.mk _ (Op.index _ _ _) _ _ _ _) _ _; exact xo_sindex rfl rfl)) ?_ | refine wl_v rfl rfl rfl (by first  | fail) ?_) | refine wc_ret rfl ?_) | (show WC _ (Code.cond _ _ _) _ _ _ _; (refine wc_cond rfl (fun hc => ?_) (fun hc => ?_) <;> (try (simp only [decide_eq_true_eq, decide_eq_false_iff_not, Bool.and_eq_true, Bool.or_eq_true, Bool.and_eq_false_iff, Bool.or_eq_false_iff, Bool.not_eq_true', Bool.not_eq_false', Int.not_lt, Int.not_le] at hc)) <;> (try (exfalso; first | omega | contradiction)))))
  refine wc_loop (α := { i : Nat // i ≤ s.length ∧ ∀ j, j < i → tokC (s.getD j 0) = true }) (fun x => [(0, true, str s), (6, true, i64 (s.length : Int)), (7, true, i64 (x.1 : Int))]) (fun _ => St w [] [] M) (fun x => s.length - x.1) ⟨0, by omega, by intro j hj; omega⟩ (by first | exact Sub.nil _ | (repeat (first | exact Sub.nil _ | refine Sub.cons (by first | rfl | (simp [look]; done)) ?_))) (fun _ h => h) ?_
  rintro ⟨i, hi, hall⟩
  dsimp only
  repeat' (first | (first | refine wc_seq ?_ | refine wc_region ?_ | refine wl_nil ?_ | refine wn_seq ?_ | refine wn_blk ?_ | refine wc_skip ?_ | refine wc_block ?_ | refine wc_exit rfl ?_ | (show WL _ _ (_ :: _) _ _ _ _; first | refine wl_v rfl rfl rfl (by first | (show OpV _ _ _ _ (Oper.mk _ (Op.move _) _ _ _ _) _ _; exact xo_move rfl) | (show OpV _ _ _ _ (Oper.mk _ (Op.assign _) _ _ _ _) _ _; exact xo_assign rfl) | (show OpV _ _ _ _ (Oper.mk _ (Op.pick _ _ _) _ _ _ _) _ _; first | exact xo_and rfl rfl | exact xo_or rfl rfl) | (show OpV _ _ _ _ (Oper.mk _ (Op.call ⟨.builtin .len, _, _⟩) _ _ _ _) _ _; first | exact xo_slen rfl | exact xo_len rfl) | (show OpV _ _ _ _ (Oper.mk _ (Op.unOp _ _ _) _ _ _ _) _ _; exact xo_not rfl) | (show OpV _ _ _ _ (Oper.mk _ (Op.binOp BinOp.eql _ _ _ _) _ _ _ _) _ _; first | exact xo_eql rfl rfl | exact xo_seql rfl rfl | exact xo_beql rfl rfl | exact xo_aeql rfl rfl) | (show OpV _ _ _ _ (Oper.mk _ (Op.binOp BinOp.neq _ _ _ _) _ _ _ _) _ _; first | exact xo_neq rfl rfl | exact xo_sneq rfl rfl | exact xo_bneq rfl rfl | exact xo_aneq rfl rfl) | (show OpV _ _ _ _ (Oper.mk _ (Op.binOp BinOp.lss _ _ _ _) _ _ _ _) _ _; exact xo_lss rfl rfl) | (show OpV _ _ _ _ (Oper.mk _ (Op.binOp BinOp.add _ _ _ _) _ _ _ _) _ _; first | exact xo_add rfl rfl | exact ov_sadd rfl rfl (by first | with_reducible exact fun _ => rfl | with_reducible exact fun h => h | exact fun _ => rfl | exact fun h => h | (intro himp; simp_all; done)) (by first | with_reducible exact fun _ => rfl | with_reducible exact fun h => h | exact fun _ => rfl | exact fun h => h | (intro himp; simp_all; done)) (by intro hcg; first | omega | (simp only [List.length_append, List.length_take, List.length_drop, List.length_cons, List.length_nil, List.length_nil]; omega))) | (show OpV _ _ _ _ (Oper.mk _ (Op.index _ _ _) _ _ _ _) _ _; exact xo_sindex rfl rfl)) ?_ | refine wl_v rfl rfl rfl (by first | ((show OpV _ _ _ _ (Oper.mk _ (Op.call ⟨.value (.func 46), _, _⟩) _ _ _ _) _ _; exact ov_call Tryd.call46 rfl (by intro himp; first | rfl | (simp_all; done)) (by rfl) (fun _ _ h k => h.ext k) (fun hcg w hw => plain_ok hw.laid _))) | fail) ?_) | refine wc_ret rfl ?_) | (show WC _ (Code.cond _ _ _) _ _ _ _; (refine wc_cond rfl (fun hc => ?_) (fun hc => ?_) <;> (try (simp only [decide_eq_true_eq, decide_eq_false_iff_not, Bool.and_eq_true, Bool.or_eq_true, Bool.and_eq_false_iff, Bool.or_eq_false_iff, Bool.not_eq_true', Bool.not_eq_false', Int.not_lt, Int.not_le] at hc)) <;> (try (exfalso; first | omega | contradiction)))))
  · refine wr_tmp rfl rfl (congrArg Value.bool ?_)
    unfold tokenB
    rw [all_no (i := i) (by omega) (tok_no _ hc), Bool.false_and]
  · refine wn_cut ⟨i + 1, by omega, ?_⟩ (by show s.length - (i + 1) < s.length - i; omega) (by first | exact Sub.nil _ | (repeat (first | exact Sub.nil _ | refine Sub.cons (by first | rfl | (simp [look]; done)) ?_))) (fun _ h => h)
    intro j hj
    by_cases h : j = i
    · subst h; exact tok_yes _ hc
    · exact hall j (by omega)
  · refine wr_tmp rfl rfl (congrArg Value.bool ?_)
    unfold tokenB
    rw [all_yes (fun j hj => hall j (by omega)), Bool.true_and]
    cases s <;> simp
theorem rtok_no (c : UInt8) : (((((c.toNat : Int) < 97 ∨ 122 < (c.toNat : Int)) ∧ ((c.toNat : Int) < 65 ∨ 90 < (c.toNat : Int))) ∧ ((c.toNat : Int) < 48 ∨ 57 < (c.toNat : Int))) ∧ ¬ (c.toNat : Int) = 45) → tokC c = false := by revert c; apply all_bytes; decide +kernel
theorem rtok_yes (c : UInt8) : (((97 ≤ (c.toNat : Int) ∧ (c.toNat : Int) ≤ 122 ∨ 65 ≤ (c.toNat : Int) ∧ (c.toNat : Int) ≤ 90) ∨ 48 ≤ (c.toNat : Int) ∧ (c.toNat : Int) ≤ 57) ∨ (c.toNat : Int) = 45) → tokC c = true := by revert c; apply all_bytes; decide +kernel
theorem rtoken_ok (hM : Laid M w) (s : List UInt8) (hs : s.length ≤ 9223372036854775807) : Calls Tryd.prog 35 #[str s] w (RetE w (.bool (tokenB s))) := by
  refine calls_st (l := [str s]) hM Tryd.func35 rfl rfl rfl (E0 := [(0, true, str s)]) (params_cons rfl (params_nil _)) ?_
  repeat' (first | (first | refine wc_seq ?_ | refine wc_region ?_ | refine wl_nil ?_ | refine wn_seq ?_ | refine wn_blk ?_ | refine wc_skip ?_ | refine wc_block ?_ | refine wc_exit rfl ?_ | (show WL _ _ (_ :: _) _ _ _ _; first | refine wl_v rfl rfl rfl (by first | (show OpV _ _ _ _ (Oper.mk _ (Op.move _) _ _ _ _) _ _; exact xo_move rfl) | (show OpV _ _ _ _ (Oper.mk _ (Op.assign _) _ _ _ _) _ _; exact xo_assign rfl) | (show OpV _ _ _ _ (Oper.mk _ (Op.pick _ _ _) _ _ _ _) _ _; first | exact xo_and rfl rfl | exact xo_or rfl rfl) | (show OpV _ _ _ _ (Oper.mk _ (Op.call ⟨.builtin .len, _, _⟩) _ _ _ _) _ _; first | exact xo_slen rfl | exact xo_len rfl) | (show OpV _ _ _ _ (Oper.mk _ (Op.binOp BinOp.neq _ _ _ _) _ _ _ _) _ _; first | exact xo_neq rfl rfl | exact xo_sneq rfl rfl | exact xo_bneq rfl rfl | exact xo_aneq rfl rfl) | (show OpV _ _ _ _ (Oper.mk _ (Op.binOp BinOp.lss _ _ _ _) _ _ _ _) _ _; exact xo_lss rfl rfl) | (show OpV _ _ _ _ (Oper.mk _ (Op.binOp BinOp.gtr _ _ _ _) _ _ _ _) _ _; exact xo_gtr rfl rfl) | (show OpV _ _ _ _ (Oper.mk _ (Op.binOp BinOp.add _ _ _ _) _ _ _ _) _ _; first | exact xo_add rfl rfl | exact ov_sadd rfl rfl (by first | with_reducible exact fun _ => rfl | with_reducible exact fun h => h | exact fun _ => rfl | exact fun h => h | (intro himp; simp_all; done)) (by first | with_reducible exact fun _ => rfl | with_reducible exact fun h => h | exact fun _ => rfl | exact fun h => h | (intro himp; simp_all; done)) (by intro hcg; first | omega | (simp only [List.length_append, List.length_take, List.length_drop, List.length_cons, List.length_nil, List.length_nil]; omega))) | (show OpV _ _ _ _ (Oper.mk _ (Op.index _ _ _) _ _ _ _) _ _; exact xo_sindex rfl rfl)) ?_ | refine wl_v rfl rfl rfl (by first  | fail) ?_) | refine wc_ret rfl ?_) | (show WC _ (Code.cond _ _ _) _ _ _ _; (refine wc_cond rfl (fun hc => ?_) (fun hc => ?_) <;> (try (simp only [decide_eq_true_eq, decide_eq_false_iff_not, Bool.and_eq_true, Bool.or_eq_true, Bool.and_eq_false_iff, Bool.or_eq_false_iff, Bool.not_eq_true', Bool.not_eq_false', Int.not_lt, Int.not_le] at hc)) <;> (try (exfalso; first | omega | contradiction)))))
  refine wc_loop (α := { i : Nat // i ≤ s.length ∧ ∀ j, j < i → tokC (s.getD j 0) = true }) (fun x => [(0, true, str s), (3, true, i64 (x.1 : Int))]) (fun _ => St w [] [] M) (fun x => s.length - x.1) ⟨0, by omega, by intro j hj; omega⟩ (by first | exact Sub.nil _ | (repeat (first | exact Sub.nil _ | refine Sub.cons (by first | rfl | (simp [look]; done)) ?_))) (fun _ h => h) ?_
  rintro ⟨i, hi, hall⟩
  dsimp only
  repeat' (first | (first | refine wc_seq ?_ | refine wc_region ?_ | refine wl_nil ?_ | refine wn_seq ?_ | refine wn_blk ?_ | refine wc_skip ?_ | refine wc_block ?_ | refine wc_exit rfl ?_ | (show WL _ _ (_ :: _) _ _ _ _; first | refine wl_v rfl rfl rfl (by first | (show OpV _ _ _ _ (Oper.mk _ (Op.move _) _ _ _ _) _ _; exact xo_move rfl) | (show OpV _ _ _ _ (Oper.mk _ (Op.assign _) _ _ _ _) _ _; exact xo_assign rfl) | (show OpV _ _ _ _ (Oper.mk _ (Op.pick _ _ _) _ _ _ _) _ _; first | exact xo_and rfl rfl | exact xo_or rfl rfl) | (show OpV _ _ _ _ (Oper.mk _ (Op.call ⟨.builtin .len, _, _⟩) _ _ _ _) _ _; first | exact xo_slen rfl | exact xo_len rfl) | (show OpV _ _ _ _ (Oper.mk _ (Op.binOp BinOp.neq _ _ _ _) _ _ _ _) _ _; first | exact xo_neq rfl rfl | exact xo_sneq rfl rfl | exact xo_bneq rfl rfl | exact xo_aneq rfl rfl) | (show OpV _ _ _ _ (Oper.mk _ (Op.binOp BinOp.lss _ _ _ _) _ _ _ _) _ _; exact xo_lss rfl rfl) | (show OpV _ _ _ _ (Oper.mk _ (Op.binOp BinOp.gtr _ _ _ _) _ _ _ _) _ _; exact xo_gtr rfl rfl) | (show OpV _ _ _ _ (Oper.mk _ (Op.binOp BinOp.add _ _ _ _) _ _ _ _) _ _; first | exact xo_add rfl rfl | exact ov_sadd rfl rfl (by first | with_reducible exact fun _ => rfl | with_reducible exact fun h => h | exact fun _ => rfl | exact fun h => h | (intro himp; simp_all; done)) (by first | with_reducible exact fun _ => rfl | with_reducible exact fun h => h | exact fun _ => rfl | exact fun h => h | (intro himp; simp_all; done)) (by intro hcg; first | omega | (simp only [List.length_append, List.length_take, List.length_drop, List.length_cons, List.length_nil, List.length_nil]; omega))) | (show OpV _ _ _ _ (Oper.mk _ (Op.index _ _ _) _ _ _ _) _ _; exact xo_sindex rfl rfl)) ?_ | refine wl_v rfl rfl rfl (by first  | fail) ?_) | refine wc_ret rfl ?_) | (show WC _ (Code.cond _ _ _) _ _ _ _; (refine wc_cond rfl (fun hc => ?_) (fun hc => ?_) <;> (try (simp only [decide_eq_true_eq, decide_eq_false_iff_not, Bool.and_eq_true, Bool.or_eq_true, Bool.and_eq_false_iff, Bool.or_eq_false_iff, Bool.not_eq_true', Bool.not_eq_false', Int.not_lt, Int.not_le] at hc)) <;> (try (exfalso; first | omega | contradiction)))))
  · refine wr_tmp rfl rfl (congrArg Value.bool ?_)
    unfold tokenB
    rw [all_no (i := i) (by omega) (rtok_no _ hc), Bool.false_and]
  · refine wn_cut ⟨i + 1, by omega, ?_⟩ (by show s.length - (i + 1) < s.length - i; omega) (by first | exact Sub.nil _ | (repeat (first | exact Sub.nil _ | refine Sub.cons (by first | rfl | (simp [look]; done)) ?_))) (fun _ h => h)
    intro j hj
    by_cases h : j = i
    · subst h; exact rtok_yes _ hc
    · exact hall j (by omega)
  · refine wr_tmp rfl rfl (congrArg Value.bool ?_)
    unfold tokenB
    rw [all_yes (fun j hj => hall j (by omega)), Bool.true_and]
    cases s <;> simp
theorem rshown_ok (hM : Laid M w) (s : List UInt8) (f : UInt8) (hs : s.length ≤ 9223372036854775807) : Calls Tryd.prog 36 #[str s, byt f] w (RetE w (.bool (shownB f s))) := by
  refine calls_st (l := [str s, byt f]) hM Tryd.func36 rfl rfl rfl (E0 := [(0, true, str s), (1, true, byt f)]) (params_cons rfl (params_cons rfl (params_nil _))) ?_
  repeat' (first | (first | refine wc_seq ?_ | refine wc_region ?_ | refine wl_nil ?_ | refine wn_seq ?_ | refine wn_blk ?_ | refine wc_skip ?_ | refine wc_block ?_ | refine wc_exit rfl ?_ | (show WL _ _ (_ :: _) _ _ _ _; first | refine wl_v rfl rfl rfl (by first | (show OpV _ _ _ _ (Oper.mk _ (Op.move _) _ _ _ _) _ _; exact xo_move rfl) | (show OpV _ _ _ _ (Oper.mk _ (Op.assign _) _ _ _ _) _ _; exact xo_assign rfl) | (show OpV _ _ _ _ (Oper.mk _ (Op.pick _ _ _) _ _ _ _) _ _; first | exact xo_and rfl rfl | exact xo_or rfl rfl) | (show OpV _ _ _ _ (Oper.mk _ (Op.call ⟨.builtin .len, _, _⟩) _ _ _ _) _ _; first | exact xo_slen rfl | exact xo_len rfl) | (show OpV _ _ _ _ (Oper.mk _ (Op.binOp BinOp.lss _ _ _ _) _ _ _ _) _ _; exact xo_lss rfl rfl) | (show OpV _ _ _ _ (Oper.mk _ (Op.binOp BinOp.gtr _ _ _ _) _ _ _ _) _ _; exact xo_gtr rfl rfl) | (show OpV _ _ _ _ (Oper.mk _ (Op.binOp BinOp.add _ _ _ _) _ _ _ _) _ _; first | exact xo_add rfl rfl | exact ov_sadd rfl rfl (by first | with_reducible exact fun _ => rfl | with_reducible exact fun h => h | exact fun _ => rfl | exact fun h => h | (intro himp; simp_all; done)) (by first | with_reducible exact fun _ => rfl | with_reducible exact fun h => h | exact fun _ => rfl | exact fun h => h | (intro himp; simp_all; done)) (by intro hcg; first | omega | (simp only [List.length_append, List.length_take, List.length_drop, List.length_cons, List.length_nil, List.length_nil]; omega))) | (show OpV _ _ _ _ (Oper.mk _ (Op.index _ _ _) _ _ _ _) _ _; exact xo_sindex rfl rfl)) ?_ | refine wl_v rfl rfl rfl (by first  | fail) ?_) | refine wc_ret rfl ?_) | (show WC _ (Code.cond _ _ _) _ _ _ _; (refine wc_cond rfl (fun hc => ?_) (fun hc => ?_) <;> (try (simp only [decide_eq_true_eq, decide_eq_false_iff_not, Bool.and_eq_true, Bool.or_eq_true, Bool.and_eq_false_iff, Bool.or_eq_false_iff, Bool.not_eq_true', Bool.not_eq_false', Int.not_lt, Int.not_le] at hc)) <;> (try (exfalso; first | omega | contradiction)))))
  refine wc_loop (α := { i : Nat // i ≤ s.length ∧ ∀ j, j < i → (decide (f.toNat ≤ (s.getD j 0).toNat) && decide ((s.getD j 0).toNat ≤ 126)) = true }) (fun x => [(0, true, str s), (1, true, byt f), (5, true, i64 (x.1 : Int))]) (fun _ => St w [] [] M) (fun x => s.length - x.1) ⟨0, by omega, by intro j hj; omega⟩ (by first | exact Sub.nil _ | (repeat (first | exact Sub.nil _ | refine Sub.cons (by first | rfl | (simp [look]; done)) ?_))) (fun _ h => h) ?_
  rintro ⟨i, hi, hall⟩
  dsimp only
  repeat' (first | (first | refine wc_seq ?_ | refine wc_region ?_ | refine wl_nil ?_ | refine wn_seq ?_ | refine wn_blk ?_ | refine wc_skip ?_ | refine wc_block ?_ | refine wc_exit rfl ?_ | (show WL _ _ (_ :: _) _ _ _ _; first | refine wl_v rfl rfl rfl (by first | (show OpV _ _ _ _ (Oper.mk _ (Op.move _) _ _ _ _) _ _; exact xo_move rfl) | (show OpV _ _ _ _ (Oper.mk _ (Op.assign _) _ _ _ _) _ _; exact xo_assign rfl) | (show OpV _ _ _ _ (Oper.mk _ (Op.pick _ _ _) _ _ _ _) _ _; first | exact xo_and rfl rfl | exact xo_or rfl rfl) | (show OpV _ _ _ _ (Oper.mk _ (Op.call ⟨.builtin .len, _, _⟩) _ _ _ _) _ _; first | exact xo_slen rfl | exact xo_len rfl) | (show OpV _ _ _ _ (Oper.mk _ (Op.binOp BinOp.lss _ _ _ _) _ _ _ _) _ _; exact xo_lss rfl rfl) | (show OpV _ _ _ _ (Oper.mk _ (Op.binOp BinOp.gtr _ _ _ _) _ _ _ _) _ _; exact xo_gtr rfl rfl) | (show OpV _ _ _ _ (Oper.mk _ (Op.binOp BinOp.add _ _ _ _) _ _ _ _) _ _; first | exact xo_add rfl rfl | exact ov_sadd rfl rfl (by first | with_reducible exact fun _ => rfl | with_reducible exact fun h => h | exact fun _ => rfl | exact fun h => h | (intro himp; simp_all; done)) (by first | with_reducible exact fun _ => rfl | with_reducible exact fun h => h | exact fun _ => rfl | exact fun h => h | (intro himp; simp_all; done)) (by intro hcg; first | omega | (simp only [List.length_append, List.length_take, List.length_drop, List.length_cons, List.length_nil, List.length_nil]; omega))) | (show OpV _ _ _ _ (Oper.mk _ (Op.index _ _ _) _ _ _ _) _ _; exact xo_sindex rfl rfl)) ?_ | refine wl_v rfl rfl rfl (by first  | fail) ?_) | refine wc_ret rfl ?_) | (show WC _ (Code.cond _ _ _) _ _ _ _; (refine wc_cond rfl (fun hc => ?_) (fun hc => ?_) <;> (try (simp only [decide_eq_true_eq, decide_eq_false_iff_not, Bool.and_eq_true, Bool.or_eq_true, Bool.and_eq_false_iff, Bool.or_eq_false_iff, Bool.not_eq_true', Bool.not_eq_false', Int.not_lt, Int.not_le] at hc)) <;> (try (exfalso; first | omega | contradiction)))))
  · refine wr_tmp rfl rfl (congrArg Value.bool ?_)
    refine (all_no (i := i) (by omega) ?_).symm
    simp only [Bool.and_eq_false_iff, decide_eq_false_iff_not]; omega
  · refine wn_cut ⟨i + 1, by omega, ?_⟩ (by show s.length - (i + 1) < s.length - i; omega) (by first | exact Sub.nil _ | (repeat (first | exact Sub.nil _ | refine Sub.cons (by first | rfl | (simp [look]; done)) ?_))) (fun _ h => h)
    intro j hj
    by_cases h : j = i
    · subst h; simp only [Bool.and_eq_true, decide_eq_true_eq]; omega
    · exact hall j (by omega)
  · exact wr_tmp rfl rfl (congrArg Value.bool (all_yes (fun j hj => hall j (by omega))).symm)

theorem lz (c : UInt8) : (65 ≤ (c.toNat : Int) ∧ (c.toNat : Int) ≤ 90 ∧ ((lowC c).toNat : Int) = (c.toNat : Int) + 32) ∨ (((c.toNat : Int) < 65 ∨ 90 < (c.toNat : Int)) ∧ ((lowC c).toNat : Int) = (c.toNat : Int)) := by revert c; apply all_bytes; decide +kernel
theorem ralike_ok (hM : Laid M w) (a b : List UInt8) (ha : a.length ≤ 9223372036854775807) : Calls Tryd.prog 37 #[str a, str b] w (RetE w (.bool (alikeB a b))) := by
  refine calls_st (l := [str a, str b]) hM Tryd.func37 rfl rfl rfl (E0 := [(0, true, str a), (1, true, str b)]) (params_cons rfl (params_cons rfl (params_nil _))) ?_
  repeat' (first | (first | refine wc_seq ?_ | refine wc_region ?_ | refine wl_nil ?_ | refine wn_seq ?_ | refine wn_blk ?_ | refine wc_skip ?_ | refine wc_block ?_ | refine wc_exit rfl ?_ | (show WL _ _ (_ :: _) _ _ _ _; first | refine wl_v rfl rfl rfl (by first | (show OpV _ _ _ _ (Oper.mk _ (Op.move _) _ _ _ _) _ _; exact xo_move rfl) | (show OpV _ _ _ _ (Oper.mk _ (Op.assign _) _ _ _ _) _ _; exact xo_assign rfl) | (show OpV _ _ _ _ (Oper.mk _ (Op.pick _ _ _) _ _ _ _) _ _; first | exact xo_and rfl rfl | exact xo_or rfl rfl) | (show OpV _ _ _ _ (Oper.mk _ (Op.call ⟨.builtin .len, _, _⟩) _ _ _ _) _ _; first | exact xo_slen rfl | exact xo_len rfl) | (show OpV _ _ _ _ (Oper.mk _ (Op.binOp BinOp.neq _ _ _ _) _ _ _ _) _ _; first | exact xo_neq rfl rfl | exact xo_sneq rfl rfl | exact xo_bneq rfl rfl | exact xo_aneq rfl rfl) | (show OpV _ _ _ _ (Oper.mk _ (Op.binOp BinOp.lss _ _ _ _) _ _ _ _) _ _; exact xo_lss rfl rfl) | (show OpV _ _ _ _ (Oper.mk _ (Op.binOp BinOp.leq _ _ _ _) _ _ _ _) _ _; exact xo_leq rfl rfl) | (show OpV _ _ _ _ (Oper.mk _ (Op.binOp BinOp.geq _ _ _ _) _ _ _ _) _ _; exact xo_geq rfl rfl) | (show OpV _ _ _ _ (Oper.mk _ (Op.binOp BinOp.add _ _ _ _) _ _ _ _) _ _; first | exact xo_add rfl rfl | exact ov_sadd rfl rfl (by first | with_reducible exact fun _ => rfl | with_reducible exact fun h => h | exact fun _ => rfl | exact fun h => h | (intro himp; simp_all; done)) (by first | with_reducible exact fun _ => rfl | with_reducible exact fun h => h | exact fun _ => rfl | exact fun h => h | (intro himp; simp_all; done)) (by intro hcg; first | omega | (simp only [List.length_append, List.length_take, List.length_drop, List.length_cons, List.length_nil, List.length_nil]; omega))) | (show OpV _ _ _ _ (Oper.mk _ (Op.index _ _ _) _ _ _ _) _ _; exact xo_sindex rfl rfl)) ?_ | refine wl_v rfl rfl rfl (by first  | fail) ?_) | refine wc_ret rfl ?_) | (show WC _ (Code.cond _ _ _) _ _ _ _; (refine wc_cond rfl (fun hc => ?_) (fun hc => ?_) <;> (try (simp only [decide_eq_true_eq, decide_eq_false_iff_not, Bool.and_eq_true, Bool.or_eq_true, Bool.and_eq_false_iff, Bool.or_eq_false_iff, Bool.not_eq_true', Bool.not_eq_false', Int.not_lt, Int.not_le] at hc)) <;> (try (exfalso; first | omega | contradiction)))))
  · exact wr_tmp rfl rfl (congrArg Value.bool (alike_len (by omega)).symm)
  · refine wc_loop (α := { i : Nat // i ≤ a.length ∧ ∀ j, j < i → lowC (a.getD j 0) = lowC (b.getD j 0) }) (fun x => [(0, true, str a), (1, true, str b), (5, true, i64 (x.1 : Int))]) (fun _ => St w [] [] M) (fun x => a.length - x.1) ⟨0, by omega, by intro j hj; omega⟩ (by first | exact Sub.nil _ | (repeat (first | exact Sub.nil _ | refine Sub.cons (by first | rfl | (simp [look]; done)) ?_))) (fun _ h => h) ?_
    rintro ⟨i, hi, hall⟩
    dsimp only
    have hc1 := u8_lt (a.getD i 0)
    have hc2 := u8_lt (b.getD i 0)
    have la := lz (a.getD i 0)
    have lb := lz (b.getD i 0)
    repeat' (first | (first | refine wc_seq ?_ | refine wc_region ?_ | refine wl_nil ?_ | refine wn_seq ?_ | refine wn_blk ?_ | refine wc_skip ?_ | refine wc_block ?_ | refine wc_exit rfl ?_ | (show WL _ _ (_ :: _) _ _ _ _; first | refine wl_v rfl rfl rfl (by first | (show OpV _ _ _ _ (Oper.mk _ (Op.move _) _ _ _ _) _ _; exact xo_move rfl) | (show OpV _ _ _ _ (Oper.mk _ (Op.assign _) _ _ _ _) _ _; exact xo_assign rfl) | (show OpV _ _ _ _ (Oper.mk _ (Op.pick _ _ _) _ _ _ _) _ _; first | exact xo_and rfl rfl | exact xo_or rfl rfl) | (show OpV _ _ _ _ (Oper.mk _ (Op.call ⟨.builtin .len, _, _⟩) _ _ _ _) _ _; first | exact xo_slen rfl | exact xo_len rfl) | (show OpV _ _ _ _ (Oper.mk _ (Op.binOp BinOp.neq _ _ _ _) _ _ _ _) _ _; first | exact xo_neq rfl rfl | exact xo_sneq rfl rfl | exact xo_bneq rfl rfl | exact xo_aneq rfl rfl) | (show OpV _ _ _ _ (Oper.mk _ (Op.binOp BinOp.lss _ _ _ _) _ _ _ _) _ _; exact xo_lss rfl rfl) | (show OpV _ _ _ _ (Oper.mk _ (Op.binOp BinOp.leq _ _ _ _) _ _ _ _) _ _; exact xo_leq rfl rfl) | (show OpV _ _ _ _ (Oper.mk _ (Op.binOp BinOp.geq _ _ _ _) _ _ _ _) _ _; exact xo_geq rfl rfl) | (show OpV _ _ _ _ (Oper.mk _ (Op.binOp BinOp.add _ _ _ _) _ _ _ _) _ _; first | exact xo_add rfl rfl | exact ov_sadd rfl rfl (by first | with_reducible exact fun _ => rfl | with_reducible exact fun h => h | exact fun _ => rfl | exact fun h => h | (intro himp; simp_all; done)) (by first | with_reducible exact fun _ => rfl | with_reducible exact fun h => h | exact fun _ => rfl | exact fun h => h | (intro himp; simp_all; done)) (by intro hcg; first | omega | (simp only [List.length_append, List.length_take, List.length_drop, List.length_cons, List.length_nil, List.length_nil]; omega))) | (show OpV _ _ _ _ (Oper.mk _ (Op.index _ _ _) _ _ _ _) _ _; exact xo_sindex rfl rfl)) ?_ | refine wl_v rfl rfl rfl (by first  | fail) ?_) | refine wc_ret rfl ?_) | (show WC _ (Code.cond _ _ _) _ _ _ _; (refine wc_cond rfl (fun hc => ?_) (fun hc => ?_) <;> (try (simp only [decide_eq_true_eq, decide_eq_false_iff_not, Bool.and_eq_true, Bool.or_eq_true, Bool.and_eq_false_iff, Bool.or_eq_false_iff, Bool.not_eq_true', Bool.not_eq_false', Int.not_lt, Int.not_le] at hc)) <;> (try (exfalso; first | omega | contradiction)))))
    all_goals first
      | (refine wr_tmp rfl rfl (congrArg Value.bool (alike_no (i := i) (by omega) (by omega) (fun h => ?_)).symm)
         have h2 : ((lowC (a.getD i 0)).toNat : Int) = ((lowC (b.getD i 0)).toNat : Int) := by rw [h]
         omega)
      | (refine wn_cut ⟨i + 1, by omega, ?_⟩ (by show a.length - (i + 1) < a.length - i; omega) (by first | exact Sub.nil _ | (repeat (first | exact Sub.nil _ | refine Sub.cons (by first | rfl | (simp [look]; done)) ?_))) (fun _ h => h)
         intro j hj
         by_cases h : j = i
         · subst h; exact UInt8.toNat_inj.1 (by omega)
         · exact hall j (by omega))
      | exact wr_tmp rfl rfl (congrArg Value.bool (alike_yes (by omega) (fun j hj => hall j (by omega))).symm)
end Go.Proofs.YthkpekmecgbokaaDoor
/-
  Responses, plainly: which can be, their bytes; no two have the same. No program stands here.
-/
namespace Go.Rsp
open Go.Pct Go.Txt

structure Resp where
  status : Int
  headers : List Pr
  body : List UInt8
  deriving DecidableEq

def sCL : List UInt8 := [67, 111, 110, 116, 101, 110, 116, 45, 76, 101, 110, 103, 116, 104]
def scl : List UInt8 := [99, 111, 110, 116, 101, 110, 116, 45, 108, 101, 110, 103, 116, 104]
def sHttp : List UInt8 := [72, 84, 84, 80, 47, 49, 46, 49, 32]
def sCT : List UInt8 := [67, 111, 110, 116, 101, 110, 116, 45, 84, 121, 112, 101]
def sLoc : List UInt8 := [76, 111, 99, 97, 116, 105, 111, 110]
def sSet : List UInt8 := [83, 101, 116, 45, 67, 111, 111, 107, 105, 101]
def reasonS (z : Int) : List UInt8 :=
  if z = 200 then [79, 75] else
  if z = 302 then [70, 111, 117, 110, 100] else
  if z = 400 then [66, 97, 100, 32, 82, 101, 113, 117, 101, 115, 116] else
  if z = 403 then [70, 111, 114, 98, 105, 100, 100, 101, 110] else
  if z = 404 then [78, 111, 116, 32, 70, 111, 117, 110, 100] else
  if z = 405 then [77, 101, 116, 104, 111, 100, 32, 78, 111, 116, 32, 65, 108, 108, 111, 119, 101, 100] else
  if z = 503 then [83, 101, 114, 118, 105, 99, 101, 32, 85, 110, 97, 118, 97, 105, 108, 97, 98, 108, 101] else
  []
def trim32 (s : List UInt8) : Bool := s.isEmpty || (!(s.getD 0 0 == 32) && !(s.getD (s.length - 1) 0 == 32))
def textB (s : List UInt8) : Bool := shownB 32 s && trim32 s
def hdrB (h : Pr) : Bool := tokenB h.1 && textB h.2 && !alikeB h.1 sCL
def rightR (r : Resp) : Bool := !(reasonS r.status).isEmpty && decide (r.headers.length ≤ 32) && decide (r.body.length ≤ 8192) && r.headers.all hdrB
def hline (h : Pr) : List UInt8 := h.1 ++ [58, 32] ++ h.2 ++ [13, 10]
def headS (z : Int) : List UInt8 := sHttp ++ Lib.itoa z ++ [32] ++ reasonS z ++ [13, 10]
def writeR (r : Resp) : List UInt8 := headS r.status ++ r.headers.flatMap hline ++ hline (sCL, Lib.itoa (r.body.length : Int)) ++ [13, 10] ++ r.body
def getR (name : List UInt8) (hs : List Pr) : List (List UInt8) := (hs.filter fun h => alikeB h.1 name).map (·.2)

theorem alike_scl (a : List UInt8) : alikeB a scl = alikeB a sCL := by
  have : scl.map lowC = sCL.map lowC := by decide +kernel
  unfold alikeB; rw [this]
theorem dropWhile_le {p : UInt8 → Bool} : ∀ (l : List UInt8), (l.dropWhile p).length ≤ l.length
  | [] => by simp
  | c :: l => by
    rw [List.dropWhile_cons]; split
    · have := dropWhile_le (p := p) l; simp; omega
    · simp
theorem trim_eq (s : List UInt8) : decide (Lib.trimB s 32 = s) = trim32 s := by
  unfold Lib.trimB Lib.trimLeftB Lib.trimRightB trim32
  cases hs : s with
  | nil => rfl
  | cons c r =>
    rw [← hs]
    have hne : s ≠ [] := by rw [hs]; simp
    have h0 : s.getD 0 0 = c := by rw [hs]; rfl
    have hlast : s.getD (s.length - 1) 0 = s.getLast hne := by
      rw [List.getLast_eq_getElem]; have := List.length_pos_iff.2 hne; rw [List.getD_eq_getElem?_getD, List.getElem?_eq_getElem (by omega)]; rfl
    have hrev : s.reverse = s.getLast hne :: s.dropLast.reverse := by
      conv => lhs; rw [← List.dropLast_concat_getLast hne]
      simp
    have hemp : s.isEmpty = false := by rw [hs]; rfl
    rw [hemp, hlast, h0, Bool.false_or]
    have hdr : s.length = s.dropLast.length + 1 := by rw [List.length_dropLast]; have := List.length_pos_iff.2 hne; omega
    by_cases hl : s.getLast hne = 32
    · rw [hl]
      have hf : Lib.trimLeftB (Lib.trimRightB s 32) 32 ≠ s := by
        intro e
        have h1 := congrArg List.length e
        unfold Lib.trimLeftB Lib.trimRightB at h1
        rw [hrev, List.dropWhile_cons, hl] at h1
        simp only [beq_self_eq_true, if_true] at h1
        have h2 := dropWhile_le (p := (· == 32)) (s.dropLast.reverse.dropWhile (· == 32)).reverse
        have h3 := dropWhile_le (p := (· == 32)) s.dropLast.reverse
        rw [List.length_reverse] at h2
        rw [List.length_reverse] at h3
        omega
      unfold Lib.trimLeftB Lib.trimRightB at hf
      simp [hf]
    · have h1 : (s.reverse.dropWhile (· == 32)).reverse = s := by
        rw [hrev, List.dropWhile_cons]
        have : (s.getLast hne == 32) = false := by simpa using hl
        rw [this, if_neg (by simp), ← hrev, List.reverse_reverse]
      rw [h1]
      by_cases hc : c = 32
      · subst hc
        have h2 : s.dropWhile (· == 32) ≠ s := by
          intro e
          have h3 := congrArg List.length e
          rw [hs, List.dropWhile_cons] at h3
          simp only [beq_self_eq_true, if_true] at h3
          have h4 := dropWhile_le (p := (· == 32)) r
          simp at h3; omega
        simp [h2]
      · have h2 : s.dropWhile (· == 32) = s := by
          rw [hs, List.dropWhile_cons]
          have : (c == 32) = false := by simpa using hc
          rw [this]; simp
        simp [h2, hl, hc]

/-! ### numbers -/
def valD (l : List UInt8) : Nat := l.foldl (fun a c => 10 * a + (c.toNat - 48)) 0
theorem valD_snoc (l : List UInt8) (c : UInt8) : valD (l ++ [c]) = 10 * valD l + (c.toNat - 48) := by simp [valD]
theorem valD_dec (u : Nat) : valD (Lib.decDigits u) = u := by
  induction u using Nat.strongRecOn with
  | ind u ih =>
    rw [Lib.decDigits]
    split
    · rename_i h
      have : (UInt8.ofNat (48 + u)).toNat = 48 + u := by simp; omega
      simp [valD]; omega
    · rename_i h
      rw [valD_snoc, ih _ (by omega)]
      have : (UInt8.ofNat (48 + u % 10)).toNat = 48 + u % 10 := by simp; omega
      rw [this]; omega
theorem dec_bytes (u : Nat) : ∀ c ∈ Lib.decDigits u, 48 ≤ c.toNat ∧ c.toNat ≤ 57 := by
  induction u using Nat.strongRecOn with
  | ind u ih =>
    rw [Lib.decDigits]
    split
    · rename_i h
      have : (UInt8.ofNat (48 + u)).toNat = 48 + u := by simp; omega
      intro c hc
      rw [List.mem_singleton] at hc
      subst hc; omega
    · rename_i h
      have : (UInt8.ofNat (48 + u % 10)).toNat = 48 + u % 10 := by simp; omega
      intro c hc
      rcases List.mem_append.1 hc with hc | hc
      · exact ih _ (by omega) c hc
      · rw [List.mem_singleton] at hc
        subst hc; omega
theorem itoa_nat (u : Nat) : Lib.itoa (u : Int) = Lib.decDigits u := Lib.itoa_nonneg u
theorem itoa_inj {u v : Nat} (h : Lib.itoa (u : Int) = Lib.itoa (v : Int)) : u = v := by
  rw [itoa_nat, itoa_nat] at h
  have := congrArg valD h
  rwa [valD_dec, valD_dec] at this
theorem not_mem_of {l : List UInt8} {c : UInt8} (h : ∀ x ∈ l, 32 ≤ x.toNat) (hc : c.toNat < 32) : c ∉ l := fun hm => by have := h c hm; omega
theorem itoa_no {c : UInt8} (hc : c.toNat < 48 ∨ 57 < c.toNat) (u : Nat) : c ∉ Lib.itoa (u : Int) := by
  rw [itoa_nat]; intro hm; have := dec_bytes u c hm; omega
theorem dec_length (u : Nat) : (Lib.decDigits u).length ≤ u + 1 := by
  induction u using Nat.strongRecOn with
  | ind u ih =>
    rw [Lib.decDigits]
    split
    · simp
    · have := ih (u / 10) (by omega)
      simp; omega

/-! ### lines -/
theorem cut_inj {c : UInt8} : ∀ {l l' x x' : List UInt8}, c ∉ l → c ∉ l' → l ++ c :: x = l' ++ c :: x' → l = l' ∧ x = x'
  | [], [], x, x', _, _, h => by simpa using h
  | [], d :: l', x, x', _, h2, h => by
    simp only [List.nil_append, List.cons_append, List.cons.injEq] at h
    exact absurd (by rw [h.1]; exact List.mem_cons_self) h2
  | d :: l, [], x, x', h1, _, h => by
    simp only [List.nil_append, List.cons_append, List.cons.injEq] at h
    exact absurd (by rw [← h.1]; exact List.mem_cons_self) h1
  | d :: l, d' :: l', x, x', h1, h2, h => by
    simp only [List.cons_append, List.cons.injEq] at h
    simp only [List.mem_cons, not_or] at h1 h2
    have := cut_inj h1.2 h2.2 h.2
    exact ⟨by rw [h.1, this.1], this.2⟩
theorem tok_ge {s : List UInt8} (h : tokenB s = true) : ∀ c ∈ s, 45 ≤ c.toNat ∧ c.toNat ≠ 58 := by
  unfold tokenB at h
  simp only [Bool.and_eq_true, List.all_eq_true] at h
  intro c hc
  have := h.1 c hc
  unfold tokC at this
  simp only [Bool.or_eq_true, Bool.and_eq_true, decide_eq_true_eq, beq_iff_eq] at this
  omega
theorem shown_ge {f : UInt8} {s : List UInt8} (h : shownB f s = true) : ∀ c ∈ s, f.toNat ≤ c.toNat ∧ c.toNat ≤ 126 := by
  unfold shownB at h
  simp only [List.all_eq_true, Bool.and_eq_true, decide_eq_true_eq] at h
  exact h
theorem hdr_parts {h : Pr} (hh : hdrB h = true) : (58 : UInt8) ∉ h.1 ∧ (13 : UInt8) ∉ h.1 ∧ (13 : UInt8) ∉ h.2 ∧ h.1 ≠ sCL := by
  unfold hdrB textB at hh
  simp only [Bool.and_eq_true, Bool.not_eq_true'] at hh
  obtain ⟨⟨h1, h2, _⟩, h3⟩ := hh
  refine ⟨fun hm => (tok_ge h1 _ hm).2 rfl, fun hm => ?_, fun hm => ?_, ?_⟩
  · have := (tok_ge h1 _ hm).1; revert this; decide
  · have := (shown_ge h2 _ hm).1; revert this; decide
  · intro e; rw [e] at h3; revert h3; decide +kernel
theorem name_inj {a a' b b' : List UInt8} (h1 : (58 : UInt8) ∉ a) (h2 : (58 : UInt8) ∉ a') (h : a ++ [58, 32] ++ b = a' ++ [58, 32] ++ b') : a = a' ∧ b = b' := by
  have h : a ++ 58 :: (32 :: b) = a' ++ 58 :: (32 :: b') := by simpa using h
  have := cut_inj h1 h2 h
  simpa using this
theorem line13 {a b : List UInt8} (h1 : (13 : UInt8) ∉ a) (h2 : (13 : UInt8) ∉ b) : (13 : UInt8) ∉ a ++ [58, 32] ++ b := by
  simp [h1, h2]
theorem hline_inj {h h' : Pr} {x y : List UInt8} (n1 : (58 : UInt8) ∉ h.1) (n2 : (58 : UInt8) ∉ h'.1) (a1 : (13 : UInt8) ∉ h.1) (a2 : (13 : UInt8) ∉ h.2) (b1 : (13 : UInt8) ∉ h'.1) (b2 : (13 : UInt8) ∉ h'.2) (e : hline h ++ x = hline h' ++ y) : h = h' ∧ x = y := by
  unfold hline at e
  have e : (h.1 ++ [58, 32] ++ h.2) ++ 13 :: (10 :: x) = (h'.1 ++ [58, 32] ++ h'.2) ++ 13 :: (10 :: y) := by simpa using e
  obtain ⟨e1, e2⟩ := cut_inj (line13 a1 a2) (line13 b1 b2) e
  obtain ⟨e3, e4⟩ := name_inj n1 n2 e1
  exact ⟨Prod.ext e3 e4, by simpa using e2⟩
theorem cl58 : (58 : UInt8) ∉ sCL := by decide +kernel
theorem cl13 : (13 : UInt8) ∉ sCL := by decide +kernel
theorem lines_inj {c c' x y : List UInt8} (hc : (13 : UInt8) ∉ c) (hc' : (13 : UInt8) ∉ c') : ∀ {l l' : List Pr}, l.all hdrB = true → l'.all hdrB = true → l.flatMap hline ++ (hline (sCL, c) ++ x) = l'.flatMap hline ++ (hline (sCL, c') ++ y) → l = l' ∧ c = c' ∧ x = y
  | [], [], _, _, h => by
    simp only [List.flatMap_nil, List.nil_append] at h
    obtain ⟨e1, e2⟩ := hline_inj (h := (sCL, c)) (h' := (sCL, c')) cl58 cl58 cl13 hc cl13 hc' h
    exact ⟨rfl, congrArg Prod.snd e1, e2⟩
  | [], k :: l', _, h2, h => by
    simp only [List.all_cons, Bool.and_eq_true] at h2
    obtain ⟨p1, p2, p3, p4⟩ := hdr_parts h2.1
    simp only [List.flatMap_nil, List.nil_append, List.flatMap_cons, List.append_assoc] at h
    obtain ⟨e1, _⟩ := hline_inj (h := (sCL, c)) cl58 p1 cl13 hc p2 p3 h
    exact absurd (congrArg Prod.fst e1).symm p4
  | k :: l, [], h1, _, h => by
    simp only [List.all_cons, Bool.and_eq_true] at h1
    obtain ⟨p1, p2, p3, p4⟩ := hdr_parts h1.1
    simp only [List.flatMap_nil, List.nil_append, List.flatMap_cons, List.append_assoc] at h
    obtain ⟨e1, _⟩ := hline_inj (h' := (sCL, c')) p1 cl58 p2 p3 cl13 hc' h
    exact absurd (congrArg Prod.fst e1) p4
  | k :: l, k' :: l', h1, h2, h => by
    simp only [List.all_cons, Bool.and_eq_true] at h1 h2
    obtain ⟨p1, p2, p3, p4⟩ := hdr_parts h1.1
    obtain ⟨q1, q2, q3, q4⟩ := hdr_parts h2.1
    simp only [List.flatMap_cons, List.append_assoc] at h
    obtain ⟨e1, e2⟩ := hline_inj p1 q1 p2 p3 q2 q3 h
    obtain ⟨e3, e4⟩ := lines_inj hc hc' h1.2 h2.2 e2
    exact ⟨by rw [e1, e3], e4⟩
/-- a status that has a reason -/
theorem status_in {z : Int} (h : (reasonS z).isEmpty = false) : z ∈ [200, 302, 400, 403, 404, 405, 503] := by
  unfold reasonS at h
  simp only [List.mem_cons, List.mem_nil_iff, or_false]
  repeat' (split at h)
  all_goals first | omega | simp at h
theorem itoa3 : Lib.itoa 200 = [50, 48, 48] ∧ Lib.itoa 302 = [51, 48, 50] ∧ Lib.itoa 400 = [52, 48, 48] ∧ Lib.itoa 403 = [52, 48, 51] ∧ Lib.itoa 404 = [52, 48, 52] ∧ Lib.itoa 405 = [52, 48, 53] ∧ Lib.itoa 503 = [53, 48, 51] := by
  refine ⟨?_, ?_, ?_, ?_, ?_, ?_, ?_⟩ <;> simp [Lib.itoa, Lib.decDigits]

def headTab : List (Int × List UInt8) := [(200, [72, 84, 84, 80, 47, 49, 46, 49, 32, 50, 48, 48, 32, 79, 75, 13, 10]), (302, [72, 84, 84, 80, 47, 49, 46, 49, 32, 51, 48, 50, 32, 70, 111, 117, 110, 100, 13, 10]), (400, [72, 84, 84, 80, 47, 49, 46, 49, 32, 52, 48, 48, 32, 66, 97, 100, 32, 82, 101, 113, 117, 101, 115, 116, 13, 10]), (403, [72, 84, 84, 80, 47, 49, 46, 49, 32, 52, 48, 51, 32, 70, 111, 114, 98, 105, 100, 100, 101, 110, 13, 10]), (404, [72, 84, 84, 80, 47, 49, 46, 49, 32, 52, 48, 52, 32, 78, 111, 116, 32, 70, 111, 117, 110, 100, 13, 10]), (405, [72, 84, 84, 80, 47, 49, 46, 49, 32, 52, 48, 53, 32, 77, 101, 116, 104, 111, 100, 32, 78, 111, 116, 32, 65, 108, 108, 111, 119, 101, 100, 13, 10]), (503, [72, 84, 84, 80, 47, 49, 46, 49, 32, 53, 48, 51, 32, 83, 101, 114, 118, 105, 99, 101, 32, 85, 110, 97, 118, 97, 105, 108, 97, 98, 108, 101, 13, 10])]
theorem head_tab {z : Int} (h : (reasonS z).isEmpty = false) : (z, headS z) ∈ headTab := by
  obtain ⟨i1, i2, i3, i4, i5, i6, i7⟩ := itoa3
  have := status_in h
  simp only [List.mem_cons, List.mem_nil_iff, or_false] at this
  rcases this with rfl | rfl | rfl | rfl | rfl | rfl | rfl
  · rw [headS, i1]; decide +kernel
  · rw [headS, i2]; decide +kernel
  · rw [headS, i3]; decide +kernel
  · rw [headS, i4]; decide +kernel
  · rw [headS, i5]; decide +kernel
  · rw [headS, i6]; decide +kernel
  · rw [headS, i7]; decide +kernel
theorem head_inj {z z' : Int} {x y : List UInt8} (h : (reasonS z).isEmpty = false) (h' : (reasonS z').isEmpty = false) (e : headS z ++ x = headS z' ++ y) : z = z' ∧ x = y := by
  have t1 := head_tab h
  have t2 := head_tab h'
  generalize headS z = a at *
  generalize headS z' = b at *
  have key : ∀ p ∈ headTab, ∀ q ∈ headTab, p.2.take 12 = q.2.take 12 → p = q := by decide +kernel
  have l12 : ∀ p ∈ headTab, 12 ≤ p.2.length := by decide +kernel
  have h1 := l12 _ t1
  have h2 := l12 _ t2
  have h3 : a.take 12 = b.take 12 := by
    have := congrArg (List.take 12) e
    rwa [List.take_append_of_le_length h1, List.take_append_of_le_length h2] at this
  have h4 := key _ t1 _ t2 h3
  simp only [Prod.mk.injEq] at h4
  obtain ⟨rfl, rfl⟩ := h4
  exact ⟨rfl, List.append_cancel_left e⟩
theorem right_parts {r : Resp} (h : rightR r = true) : (reasonS r.status).isEmpty = false ∧ r.headers.length ≤ 32 ∧ r.body.length ≤ 8192 ∧ r.headers.all hdrB = true := by
  unfold rightR at h
  simp only [Bool.and_eq_true, decide_eq_true_eq, Bool.not_eq_true'] at h
  exact ⟨h.1.1.1, h.1.1.2, h.1.2, h.2⟩
/-- NO TWO RESPONSES HAVE THE SAME BYTES, whatever stands behind them. -/
theorem write_inj {a b : Resp} {x y : List UInt8} (ha : rightR a = true) (hb : rightR b = true) (e : writeR a ++ x = writeR b ++ y) : a = b ∧ x = y := by
  obtain ⟨a1, a2, a3, a4⟩ := right_parts ha
  obtain ⟨b1, b2, b3, b4⟩ := right_parts hb
  unfold writeR at e
  simp only [List.append_assoc] at e
  obtain ⟨e1, e2⟩ := head_inj a1 b1 e
  obtain ⟨e3, e4, e5⟩ := lines_inj (itoa_no (by decide) _) (itoa_no (by decide) _) a4 b4 e2
  have e6 := itoa_inj e4
  have e5 : a.body ++ x = b.body ++ y := by simpa using e5
  obtain ⟨e7, e8⟩ := List.append_inj e5 e6
  obtain ⟨s1, h1, o1⟩ := a
  obtain ⟨s2, h2, o2⟩ := b
  simp only at e1 e3 e7
  subst e1 e3 e7
  exact ⟨rfl, e8⟩
/-- .. as the law asks it -/
theorem write_same {a b : Resp} (ha : rightR a = true) (hb : rightR b = true) : writeR a = writeR b ↔ a = b := by
  constructor
  · intro e; exact (write_inj (x := []) (y := []) ha hb (by rw [e])).1
  · rintro rfl; rfl
theorem write_begins {a b : Resp} (ha : rightR a = true) (hb : rightR b = true) : ((writeR a).length ≤ (writeR b).length ∧ (writeR b).take (writeR a).length = writeR a) ↔ a = b := by
  constructor
  · rintro ⟨_, e⟩
    have h := List.take_append_drop (writeR a).length (writeR b)
    rw [e] at h
    exact (write_inj (x := (writeR b).drop (writeR a).length) (y := []) ha hb (by rw [h, List.append_nil])).1
  · rintro rfl; exact ⟨Nat.le_refl _, List.take_length⟩
theorem reason_length (z : Int) : (reasonS z).length ≤ 19 := by
  unfold reasonS; repeat' split
  all_goals decide
theorem flat_succ {l : List Pr} {i : Nat} (h : i < l.length) : (l.take (i + 1)).flatMap hline = (l.take i).flatMap hline ++ hline (l.getD i default) := by
  rw [List.take_succ_eq_append_getElem h, List.flatMap_append]
  simp [h]
theorem hline_length (h : Pr) : (hline h).length = h.1.length + h.2.length + 4 := by simp [hline]; omega
theorem flat_length {l : List Pr} (hb : Small 140737488355328 l) : ∀ i, i ≤ l.length → ((l.take i).flatMap hline).length ≤ i * 281474976710660
  | 0, _ => by simp
  | i + 1, h => by
    have ih := flat_length hb i (by omega)
    have hm : l.getD i default ∈ l := by
      have : l.getD i default = l[i] := by simp [show i < l.length by omega]
      rw [this]; exact List.getElem_mem _
    have := hb _ hm
    rw [flat_succ (by omega), List.length_append, hline_length]
    omega
theorem status_nat {z : Int} (h : (reasonS z).isEmpty = false) : ∃ n : Nat, z = (n : Int) ∧ n ≤ 503 ∧ (Lib.decDigits n).length = 3 := by
  obtain ⟨i1, i2, i3, i4, i5, i6, i7⟩ := itoa3
  have := status_in h
  simp only [List.mem_cons, List.mem_nil_iff, or_false] at this
  rcases this with rfl | rfl | rfl | rfl | rfl | rfl | rfl
  · exact ⟨200, rfl, by decide, by rw [← itoa_nat]; exact congrArg List.length i1⟩
  · exact ⟨302, rfl, by decide, by rw [← itoa_nat]; exact congrArg List.length i2⟩
  · exact ⟨400, rfl, by decide, by rw [← itoa_nat]; exact congrArg List.length i3⟩
  · exact ⟨403, rfl, by decide, by rw [← itoa_nat]; exact congrArg List.length i4⟩
  · exact ⟨404, rfl, by decide, by rw [← itoa_nat]; exact congrArg List.length i5⟩
  · exact ⟨405, rfl, by decide, by rw [← itoa_nat]; exact congrArg List.length i6⟩
  · exact ⟨503, rfl, by decide, by rw [← itoa_nat]; exact congrArg List.length i7⟩
theorem headS_length {n : Nat} (h : (Lib.decDigits n).length = 3) : (headS (n : Int)).length ≤ 40 := by
  have := reason_length (n : Int)
  unfold headS
  rw [itoa_nat]
  simp only [List.length_append, h, sHttp, List.length_cons, List.length_nil]
  omega
/-! ### what is read of a name -/
theorem get_snoc (name : List UInt8) (l : List Pr) (h : Pr) : getR name (l ++ [h]) = getR name l ++ (if alikeB h.1 name = true then [h.2] else []) := by
  unfold getR; by_cases hh : alikeB h.1 name = true <;> simp [hh]
theorem get_length (name : List UInt8) (l : List Pr) : (getR name l).length ≤ l.length := by
  unfold getR; rw [List.length_map]; exact List.length_filter_le _ _
def foundH (tgt : List UInt8) (cookies : List (List UInt8)) : List Pr := (sLoc, tgt) :: cookies.map fun c => (sSet, c)
theorem get_cookies (tgt : List UInt8) (cookies : List (List UInt8)) : getR [115, 101, 116, 45, 99, 111, 111, 107, 105, 101] (foundH tgt cookies) = cookies := by
  have h1 : alikeB sLoc [115, 101, 116, 45, 99, 111, 111, 107, 105, 101] = false := by decide +kernel
  have h2 : alikeB sSet [115, 101, 116, 45, 99, 111, 111, 107, 105, 101] = true := by decide +kernel
  unfold getR foundH
  rw [List.filter_cons, h1]
  simp only [Bool.false_eq_true, if_false]
  rw [List.filter_eq_self.2 (by simp [h2])]
  simp [Function.comp_def]
theorem get_location (tgt : List UInt8) (cookies : List (List UInt8)) : getR [76, 79, 67, 65, 84, 73, 79, 78] (foundH tgt cookies) = [tgt] := by
  have h1 : alikeB sLoc [76, 79, 67, 65, 84, 73, 79, 78] = true := by decide +kernel
  have h2 : alikeB sSet [76, 79, 67, 65, 84, 73, 79, 78] = false := by decide +kernel
  unfold getR foundH
  rw [List.filter_cons, h1, List.filter_eq_nil_iff.2 (by simp [h2])]
  simp
end Go.Rsp
/-
  Pairs of texts in memory: the contracts of matricularef01's Few and Pairs.
-/
namespace Go.Proofs.YthkpekmecgbokaaDoor
open Go.Eng Go.Pct Go.Txt
set_option maxRecDepth 10000
set_option linter.unusedSimpArgs false
set_option linter.unusedVariables false

variable {M : Ghost} {w : World}

def fewB (l : List Pr) : Bool := l.all (fun p => decide (p.1.length ≤ 60 ∧ p.2.length ≤ 60)) && decide (l.length ≤ 50)
theorem fewB_small {l : List Pr} (h : fewB l = true) : Small 60 l ∧ l.length ≤ 50 := by
  unfold fewB at h
  simp only [Bool.and_eq_true, List.all_eq_true, decide_eq_true_eq] at h
  exact h
theorem few_ok (hM : Laid M w) {v : Value} {l : List Pr} (hv : SlP M v l) : Calls Tryd.prog 30 #[v] w (RetE w (.bool (fewB l))) := by
  obtain ⟨a, cap, b, o, cs, T, fz, rfl, h1, h2, h3, h4⟩ := hv.open
  refine calls_st (l := [.slice a l.length cap]) hM Tryd.func30 rfl rfl rfl (E0 := [(0, true, .slice a l.length cap)]) (params_cons rfl (params_nil _)) ?_
  repeat' (first | (first | refine wc_seq ?_ | refine wc_region ?_ | refine wl_nil ?_ | refine wn_seq ?_ | refine wn_blk ?_ | refine wc_skip ?_ | refine wc_block ?_ | refine wc_exit rfl ?_ | (show WL _ _ (_ :: _) _ _ _ _; first | refine wl_v rfl rfl rfl (by first | (show OpV _ _ _ _ (Oper.mk _ (Op.move _) _ _ _ _) _ _; exact xo_move rfl) | (show OpV _ _ _ _ (Oper.mk _ (Op.assign _) _ _ _ _) _ _; exact xo_assign rfl) | (show OpV _ _ _ _ (Oper.mk _ (Op.pick _ _ _) _ _ _ _) _ _; first | exact xo_and rfl rfl | exact xo_or rfl rfl) | (show OpV _ _ _ _ (Oper.mk _ (Op.call ⟨.builtin .len, _, _⟩) _ _ _ _) _ _; first | exact xo_slen rfl | exact xo_len rfl) | (show OpV _ _ _ _ (Oper.mk _ (Op.binOp BinOp.lss _ _ _ _) _ _ _ _) _ _; exact xo_lss rfl rfl) | (show OpV _ _ _ _ (Oper.mk _ (Op.binOp BinOp.leq _ _ _ _) _ _ _ _) _ _; exact xo_leq rfl rfl) | (show OpV _ _ _ _ (Oper.mk _ (Op.binOp BinOp.gtr _ _ _ _) _ _ _ _) _ _; exact xo_gtr rfl rfl) | (show OpV _ _ _ _ (Oper.mk _ (Op.binOp BinOp.add _ _ _ _) _ _ _ _) _ _; first | exact xo_add rfl rfl | exact ov_sadd rfl rfl (by first | with_reducible exact fun _ => rfl | with_reducible exact fun h => h | exact fun _ => rfl | exact fun h => h | (intro himp; simp_all; done)) (by first | with_reducible exact fun _ => rfl | with_reducible exact fun h => h | exact fun _ => rfl | exact fun h => h | (intro himp; simp_all; done)) (by intro hcg; first | omega | (simp only [List.length_append, List.length_take, List.length_drop, List.length_cons, List.length_nil, List.length_nil]; omega))) | (show OpV _ _ _ _ (Oper.mk _ (Op.fieldAddr _ _ _) _ _ _ _) _ _; exact xo_fieldAddr rfl) | (show OpV _ _ _ _ (Oper.mk _ (Op.load _ _) _ _ _ _) _ _; first | exact xo_load1 rfl | exact xo_loadS rfl)) ?_ | refine wl_v rfl rfl rfl (by first  | fail) ?_) | refine wc_ret rfl ?_) | (show WC _ (Code.cond _ _ _) _ _ _ _; (refine wc_cond rfl (fun hc => ?_) (fun hc => ?_) <;> (try (simp only [decide_eq_true_eq, decide_eq_false_iff_not, Bool.and_eq_true, Bool.or_eq_true, Bool.and_eq_false_iff, Bool.or_eq_false_iff, Bool.not_eq_true', Bool.not_eq_false', Int.not_lt, Int.not_le] at hc)) <;> (try (exfalso; first | omega | contradiction)))))
  refine wc_loop (α := { i : Nat // i ≤ l.length ∧ ∀ j, j < i → (l.getD j default).1.length ≤ 60 ∧ (l.getD j default).2.length ≤ 60 }) (fun x => [(0, true, .slice a l.length cap), (3, true, i64 (x.1 : Int))]) (fun x => St w [] [] M) (fun x => l.length - x.1) ⟨0, by omega, by intro j hj; omega⟩ (by first | exact Sub.nil _ | (repeat (first | exact Sub.nil _ | refine Sub.cons (by first | rfl | (simp [look]; done)) ?_))) (fun _ h => h) ?_
  rintro ⟨i, hi, hall⟩
  dsimp only
  have hmem : ∀ j, j < l.length → l.getD j default ∈ l := fun j hj => by
    have : l.getD j default = l[j] := by simp [hj]
    rw [this]; exact List.getElem_mem _
  repeat' (first | (first | refine wc_seq ?_ | refine wc_region ?_ | refine wl_nil ?_ | refine wn_seq ?_ | refine wn_blk ?_ | refine wc_skip ?_ | refine wc_block ?_ | refine wc_exit rfl ?_ | (show WL _ _ (_ :: _) _ _ _ _; first | refine wl_v rfl rfl rfl (by first | (show OpV _ _ _ _ (Oper.mk _ (Op.move _) _ _ _ _) _ _; exact xo_move rfl) | (show OpV _ _ _ _ (Oper.mk _ (Op.assign _) _ _ _ _) _ _; exact xo_assign rfl) | (show OpV _ _ _ _ (Oper.mk _ (Op.pick _ _ _) _ _ _ _) _ _; first | exact xo_and rfl rfl | exact xo_or rfl rfl) | (show OpV _ _ _ _ (Oper.mk _ (Op.call ⟨.builtin .len, _, _⟩) _ _ _ _) _ _; first | exact xo_slen rfl | exact xo_len rfl) | (show OpV _ _ _ _ (Oper.mk _ (Op.binOp BinOp.lss _ _ _ _) _ _ _ _) _ _; exact xo_lss rfl rfl) | (show OpV _ _ _ _ (Oper.mk _ (Op.binOp BinOp.leq _ _ _ _) _ _ _ _) _ _; exact xo_leq rfl rfl) | (show OpV _ _ _ _ (Oper.mk _ (Op.binOp BinOp.gtr _ _ _ _) _ _ _ _) _ _; exact xo_gtr rfl rfl) | (show OpV _ _ _ _ (Oper.mk _ (Op.binOp BinOp.add _ _ _ _) _ _ _ _) _ _; first | exact xo_add rfl rfl | exact ov_sadd rfl rfl (by first | with_reducible exact fun _ => rfl | with_reducible exact fun h => h | exact fun _ => rfl | exact fun h => h | (intro himp; simp_all; done)) (by first | with_reducible exact fun _ => rfl | with_reducible exact fun h => h | exact fun _ => rfl | exact fun h => h | (intro himp; simp_all; done)) (by intro hcg; first | omega | (simp only [List.length_append, List.length_take, List.length_drop, List.length_cons, List.length_nil, List.length_nil]; omega))) | (show OpV _ _ _ _ (Oper.mk _ (Op.fieldAddr _ _ _) _ _ _ _) _ _; exact xo_fieldAddr rfl) | (show OpV _ _ _ _ (Oper.mk _ (Op.load _ _) _ _ _ _) _ _; first | exact xo_load1 rfl | exact xo_loadS rfl)) ?_ | refine wl_v rfl rfl rfl (by first | (show OpV _ _ _ _ (Oper.mk _ (Op.indexAddr _ _ _) _ _ _ _) _ _; exact ov_indexAddr rfl rfl (by (fail_if_success (with_reducible show (987654321 : Int) = _)); repeat' (first | with_reducible exact nc_cast | with_reducible exact nc_lit | apply nc_add | apply nc_div | apply nc_mod | apply nc_mul | refine nc_sub (m := _) (n := _) nc_cast nc_lit (by omega) | refine nc_sub (m := _) (n := _) nc_cast nc_cast (by omega))) (by first | with_reducible exact fun _ => rfl | with_reducible exact fun h => h | exact fun _ => rfl | exact fun h => h | (intro himp; simp_all; done)) (by first | with_reducible exact fun _ => rfl | with_reducible exact fun h => h | exact fun _ => rfl | exact fun h => h | (intro himp; simp_all; done)) rfl (by first | exact (rfl : _ = some 1) | exact (rfl : _ = some 2) | exact (rfl : _ = some 3) | exact (rfl : _ = some 4) | exact (rfl : _ = some 6) | exact rfl) (fun hcg => (h3 (by intro h; subst h; simp only [List.length_nil] at *; omega)).1) (by intro hcg; first | omega | (simp at hcg; omega))) | (show OpV _ _ _ _ (Oper.mk _ (Op.load _ _) _ _ _ _) _ _; first | exact ov_load1M rfl (by first | with_reducible exact fun _ => rfl | with_reducible exact fun h => h | exact fun _ => rfl | exact fun h => h | (intro himp; simp_all; done)) rfl rfl (fun hcg => (h3 (by intro h; subst h; simp only [List.length_nil] at *; omega)).2) (fun hcg => (h4 i (by first | omega | (simp at hcg; omega))).1) | exact ov_load1M rfl (by first | with_reducible exact fun _ => rfl | with_reducible exact fun h => h | exact fun _ => rfl | exact fun h => h | (intro himp; simp_all; done)) rfl rfl (fun hcg => (h3 (by intro h; subst h; simp only [List.length_nil] at *; omega)).2) (fun hcg => (h4 i (by first | omega | (simp at hcg; omega))).2)) | fail) ?_) | refine wc_ret rfl ?_) | (show WC _ (Code.cond _ _ _) _ _ _ _; (refine wc_cond rfl (fun hc => ?_) (fun hc => ?_) <;> (try (simp only [decide_eq_true_eq, decide_eq_false_iff_not, Bool.and_eq_true, Bool.or_eq_true, Bool.and_eq_false_iff, Bool.or_eq_false_iff, Bool.not_eq_true', Bool.not_eq_false', Int.not_lt, Int.not_le] at hc)) <;> (try (exfalso; first | omega | contradiction)))))
  · refine wr_tmp rfl rfl (congrArg Value.bool ?_)
    symm
    rw [Bool.eq_false_iff]
    intro h
    have := (fewB_small h).1 _ (hmem i (by omega))
    omega
  · refine wn_cut ⟨i + 1, by omega, ?_⟩ (by show l.length - (i + 1) < l.length - i; omega) (by first | exact Sub.nil _ | (repeat (first | exact Sub.nil _ | refine Sub.cons (by first | rfl | (simp [look]; done)) ?_))) (fun _ h => h)
    intro j hj
    by_cases h : j = i
    · subst h; omega
    · exact hall j (by omega)
  · refine wr_tmp rfl rfl (congrArg Value.bool ?_)
    have hs : l.all (fun p => decide (p.1.length ≤ 60 ∧ p.2.length ≤ 60)) = true := by
      rw [List.all_eq_true]
      intro p hp
      obtain ⟨j, hj, rfl⟩ := List.mem_iff_getElem.1 hp
      have := hall j (by omega)
      simpa [hj] using this
    rw [fewB, hs, Bool.true_and]
    apply decide_eq_decide.2
    omega

theorem pcell {l : List Pr} {cs : Array Value} {o i : Nat} (h : cs[o + i * 2]? = some (str (l.getD i default).1) ∧ cs[o + i * 2 + 1]? = some (str (l.getD i default).2)) : ∀ j, j < [str (l.getD i default).1, str (l.getD i default).2].length → cs[o + i * 2 + j]? = [str (l.getD i default).1, str (l.getD i default).2][j]? := by
  intro j hj
  match j, hj with
  | 0, _ => exact h.1
  | 1, _ => exact h.2

theorem pairs_ok (hM : Laid M w) {u v : Value} {l m : List Pr} (hu : SlP M u l) (hv : SlP M v m) : Calls Tryd.prog 23 #[u, v] w (RetE w (.bool (decide (l = m)))) := by
  obtain ⟨a, cap, b, o, cs, T, fz, rfl, h1, h2, h3, h4⟩ := hu.open
  obtain ⟨a', cap', b', o', cs', T', fz', rfl, h1', h2', h3', h4'⟩ := hv.open
  refine calls_st (l := [.slice a l.length cap, .slice a' m.length cap']) hM Tryd.func23 rfl rfl rfl (E0 := [(0, true, .slice a l.length cap), (1, true, .slice a' m.length cap')]) (params_cons rfl (params_cons rfl (params_nil _))) ?_
  repeat' (first | (first | refine wc_seq ?_ | refine wc_region ?_ | refine wl_nil ?_ | refine wn_seq ?_ | refine wn_blk ?_ | refine wc_skip ?_ | refine wc_block ?_ | refine wc_exit rfl ?_ | (show WL _ _ (_ :: _) _ _ _ _; first | refine wl_v rfl rfl rfl (by first | (show OpV _ _ _ _ (Oper.mk _ (Op.move _) _ _ _ _) _ _; exact xo_move rfl) | (show OpV _ _ _ _ (Oper.mk _ (Op.assign _) _ _ _ _) _ _; exact xo_assign rfl) | (show OpV _ _ _ _ (Oper.mk _ (Op.call ⟨.builtin .len, _, _⟩) _ _ _ _) _ _; first | exact xo_slen rfl | exact xo_len rfl) | (show OpV _ _ _ _ (Oper.mk _ (Op.binOp BinOp.neq _ _ _ _) _ _ _ _) _ _; first | exact xo_neq rfl rfl | exact xo_sneq rfl rfl | exact xo_bneq rfl rfl | exact xo_aneq rfl rfl) | (show OpV _ _ _ _ (Oper.mk _ (Op.binOp BinOp.lss _ _ _ _) _ _ _ _) _ _; exact xo_lss rfl rfl) | (show OpV _ _ _ _ (Oper.mk _ (Op.binOp BinOp.add _ _ _ _) _ _ _ _) _ _; first | exact xo_add rfl rfl | exact ov_sadd rfl rfl (by first | with_reducible exact fun _ => rfl | with_reducible exact fun h => h | exact fun _ => rfl | exact fun h => h | (intro himp; simp_all; done)) (by first | with_reducible exact fun _ => rfl | with_reducible exact fun h => h | exact fun _ => rfl | exact fun h => h | (intro himp; simp_all; done)) (by intro hcg; first | omega | (simp only [List.length_append, List.length_take, List.length_drop, List.length_cons, List.length_nil, List.length_nil]; omega))) | (show OpV _ _ _ _ (Oper.mk _ (Op.load _ _) _ _ _ _) _ _; first | exact xo_load1 rfl | exact xo_loadS rfl)) ?_ | refine wl_v rfl rfl rfl (by first  | fail) ?_) | refine wc_ret rfl ?_) | (show WC _ (Code.cond _ _ _) _ _ _ _; (refine wc_cond rfl (fun hc => ?_) (fun hc => ?_) <;> (try (simp only [decide_eq_true_eq, decide_eq_false_iff_not, Bool.and_eq_true, Bool.or_eq_true, Bool.and_eq_false_iff, Bool.or_eq_false_iff, Bool.not_eq_true', Bool.not_eq_false', Int.not_lt, Int.not_le] at hc)) <;> (try (exfalso; first | omega | contradiction)))))
  · refine wr_tmp rfl rfl (congrArg Value.bool ?_)
    symm
    rw [decide_eq_false_iff_not]
    rintro rfl; exact hc rfl
  · refine wc_loop (α := { i : Nat // i ≤ l.length ∧ ∀ j, j < i → l.getD j default = m.getD j default }) (fun x => [(0, true, .slice a l.length cap), (1, true, .slice a' m.length cap'), (5, true, i64 (x.1 : Int))]) (fun x => St w [] [] M) (fun x => l.length - x.1) ⟨0, by omega, by intro j hj; omega⟩ (by first | exact Sub.nil _ | (repeat (first | exact Sub.nil _ | refine Sub.cons (by first | rfl | (simp [look]; done)) ?_))) (fun _ h => h) ?_
    rintro ⟨i, hi, hall⟩
    dsimp only
    repeat' (first | (first | refine wc_seq ?_ | refine wc_region ?_ | refine wl_nil ?_ | refine wn_seq ?_ | refine wn_blk ?_ | refine wc_skip ?_ | refine wc_block ?_ | refine wc_exit rfl ?_ | (show WL _ _ (_ :: _) _ _ _ _; first | refine wl_v rfl rfl rfl (by first | (show OpV _ _ _ _ (Oper.mk _ (Op.move _) _ _ _ _) _ _; exact xo_move rfl) | (show OpV _ _ _ _ (Oper.mk _ (Op.assign _) _ _ _ _) _ _; exact xo_assign rfl) | (show OpV _ _ _ _ (Oper.mk _ (Op.call ⟨.builtin .len, _, _⟩) _ _ _ _) _ _; first | exact xo_slen rfl | exact xo_len rfl) | (show OpV _ _ _ _ (Oper.mk _ (Op.binOp BinOp.neq _ _ _ _) _ _ _ _) _ _; first | exact xo_neq rfl rfl | exact xo_sneq rfl rfl | exact xo_bneq rfl rfl | exact xo_aneq rfl rfl) | (show OpV _ _ _ _ (Oper.mk _ (Op.binOp BinOp.lss _ _ _ _) _ _ _ _) _ _; exact xo_lss rfl rfl) | (show OpV _ _ _ _ (Oper.mk _ (Op.binOp BinOp.add _ _ _ _) _ _ _ _) _ _; first | exact xo_add rfl rfl | exact ov_sadd rfl rfl (by first | with_reducible exact fun _ => rfl | with_reducible exact fun h => h | exact fun _ => rfl | exact fun h => h | (intro himp; simp_all; done)) (by first | with_reducible exact fun _ => rfl | with_reducible exact fun h => h | exact fun _ => rfl | exact fun h => h | (intro himp; simp_all; done)) (by intro hcg; first | omega | (simp only [List.length_append, List.length_take, List.length_drop, List.length_cons, List.length_nil, List.length_nil]; omega))) | (show OpV _ _ _ _ (Oper.mk _ (Op.load _ _) _ _ _ _) _ _; first | exact xo_load1 rfl | exact xo_loadS rfl)) ?_ | refine wl_v rfl rfl rfl (by first  | fail) ?_) | refine wc_ret rfl ?_) | (show WC _ (Code.cond _ _ _) _ _ _ _; (refine wc_cond rfl (fun hc => ?_) (fun hc => ?_) <;> (try (simp only [decide_eq_true_eq, decide_eq_false_iff_not, Bool.and_eq_true, Bool.or_eq_true, Bool.and_eq_false_iff, Bool.or_eq_false_iff, Bool.not_eq_true', Bool.not_eq_false', Int.not_lt, Int.not_le] at hc)) <;> (try (exfalso; first | omega | contradiction)))))
    · refine wc_weak (E' := [(0, true, .slice a l.length cap), (1, true, .slice a' m.length cap'), (5, true, i64 (i : Int))]) (by first | exact Sub.nil _ | (repeat (first | exact Sub.nil _ | refine Sub.cons (by first | rfl | (simp [look]; done)) ?_))) (fun _ h => h) ?_
      refine wc_draw 9 (by kernel_rfl) rfl (by kernel_rfl) (fun _ _ h k => h.ext k) ?_
      repeat' (first | (show WD _ _ (_ :: _) _ _ _ _ _ _; first | refine wd_v rfl rfl rfl rfl rfl rfl (by first | (show OpV _ _ _ _ (Oper.mk _ (Op.move _) _ _ _ _) _ _; exact xo_move rfl) | (show OpV _ _ _ _ (Oper.mk _ (Op.assign _) _ _ _ _) _ _; exact xo_assign rfl) | (show OpV _ _ _ _ (Oper.mk _ (Op.call ⟨.builtin .len, _, _⟩) _ _ _ _) _ _; first | exact xo_slen rfl | exact xo_len rfl) | (show OpV _ _ _ _ (Oper.mk _ (Op.binOp BinOp.neq _ _ _ _) _ _ _ _) _ _; first | exact xo_neq rfl rfl | exact xo_sneq rfl rfl | exact xo_bneq rfl rfl | exact xo_aneq rfl rfl) | (show OpV _ _ _ _ (Oper.mk _ (Op.binOp BinOp.lss _ _ _ _) _ _ _ _) _ _; exact xo_lss rfl rfl) | (show OpV _ _ _ _ (Oper.mk _ (Op.binOp BinOp.add _ _ _ _) _ _ _ _) _ _; first | exact xo_add rfl rfl | exact ov_sadd rfl rfl (by first | with_reducible exact fun _ => rfl | with_reducible exact fun h => h | exact fun _ => rfl | exact fun h => h | (intro himp; simp_all; done)) (by first | with_reducible exact fun _ => rfl | with_reducible exact fun h => h | exact fun _ => rfl | exact fun h => h | (intro himp; simp_all; done)) (by intro hcg; first | omega | (simp only [List.length_append, List.length_take, List.length_drop, List.length_cons, List.length_nil, List.length_nil]; omega))) | (show OpV _ _ _ _ (Oper.mk _ (Op.load _ _) _ _ _ _) _ _; first | exact xo_load1 rfl | exact xo_loadS rfl)) ?_ | refine wd_v rfl rfl rfl rfl rfl rfl (by first | (show OpV _ _ _ _ (Oper.mk _ (Op.indexAddr _ _ _) _ _ _ _) _ _; first | exact ov_indexAddr rfl rfl (by (fail_if_success (with_reducible show (987654321 : Int) = _)); repeat' (first | with_reducible exact nc_cast | with_reducible exact nc_lit | apply nc_add | apply nc_div | apply nc_mod | apply nc_mul | refine nc_sub (m := _) (n := _) nc_cast nc_lit (by omega) | refine nc_sub (m := _) (n := _) nc_cast nc_cast (by omega))) (by first | with_reducible exact fun _ => rfl | with_reducible exact fun h => h | exact fun _ => rfl | exact fun h => h | (intro himp; simp_all; done)) (by first | with_reducible exact fun _ => rfl | with_reducible exact fun h => h | exact fun _ => rfl | exact fun h => h | (intro himp; simp_all; done)) rfl (by first | exact (rfl : _ = some 1) | exact (rfl : _ = some 2) | exact (rfl : _ = some 3) | exact (rfl : _ = some 4) | exact (rfl : _ = some 6) | exact rfl) (fun hcg => (h3 (by intro h; subst h; simp only [List.length_nil] at *; omega)).1) (by intro hcg; first | omega | (simp at hcg; omega)) | exact ov_indexAddr rfl rfl (by (fail_if_success (with_reducible show (987654321 : Int) = _)); repeat' (first | with_reducible exact nc_cast | with_reducible exact nc_lit | apply nc_add | apply nc_div | apply nc_mod | apply nc_mul | refine nc_sub (m := _) (n := _) nc_cast nc_lit (by omega) | refine nc_sub (m := _) (n := _) nc_cast nc_cast (by omega))) (by first | with_reducible exact fun _ => rfl | with_reducible exact fun h => h | exact fun _ => rfl | exact fun h => h | (intro himp; simp_all; done)) (by first | with_reducible exact fun _ => rfl | with_reducible exact fun h => h | exact fun _ => rfl | exact fun h => h | (intro himp; simp_all; done)) rfl (by first | exact (rfl : _ = some 1) | exact (rfl : _ = some 2) | exact (rfl : _ = some 3) | exact (rfl : _ = some 4) | exact (rfl : _ = some 6) | exact rfl) (fun hcg => (h3' (by intro h; subst h; simp only [List.length_nil] at *; omega)).1) (by intro hcg; first | omega | (simp at hcg; omega))) | (show OpV _ _ _ _ (Oper.mk _ (Op.load _ _) _ _ _ _) _ _; first | exact ov_loadSM rfl (by first | with_reducible exact fun _ => rfl | with_reducible exact fun h => h | exact fun _ => rfl | exact fun h => h | (intro himp; simp_all; done)) rfl (by first | exact (rfl : _ = some 1) | exact (rfl : _ = some 2) | exact (rfl : _ = some 3) | exact (rfl : _ = some 4) | exact (rfl : _ = some 6) | exact rfl) (fun hcg => (h3 (by intro h; subst h; simp only [List.length_nil] at *; omega)).2) (fun hcg => pcell (h4 i (by omega))) | exact ov_loadSM rfl (by first | with_reducible exact fun _ => rfl | with_reducible exact fun h => h | exact fun _ => rfl | exact fun h => h | (intro himp; simp_all; done)) rfl (by first | exact (rfl : _ = some 1) | exact (rfl : _ = some 2) | exact (rfl : _ = some 3) | exact (rfl : _ = some 4) | exact (rfl : _ = some 6) | exact rfl) (fun hcg => (h3' (by intro h; subst h; simp only [List.length_nil] at *; omega)).2) (fun hcg => pcell (h4' i (by omega)))) | fail) ?_ | refine wd_new rfl rfl rfl rfl rfl rfl steady_fresh (or_buildSlice rfl rfl (by first | exact (rfl : _ = some 1) | exact (rfl : _ = some 2) | exact (rfl : _ = some 3) | exact (rfl : _ = some 4) | exact (rfl : _ = some 6) | exact rfl) (fun _ => rfl) rfl rfl rfl (by simp only [cellsAll, Value.cells, List.size_toArray, List.length_cons, List.length_nil, Nat.zero_add, Nat.reduceAdd, and_self, if_true, true_and, Option.map_some, List.cons_append, List.nil_append]; first | done | rfl)) ?_ | refine wd_conv rfl rfl rfl rfl rfl rfl rfl rfl rfl rfl ?_) | (show WD _ _ _ _ _ _ _ _ _; first | refine wd_nil ?_ | refine wd_nilF ?_) | (first | refine wc_seq ?_ | refine wc_region ?_ | refine wl_nil ?_ | refine wn_seq ?_ | refine wn_blk ?_ | refine wc_skip ?_ | refine wc_block ?_ | refine wc_exit rfl ?_ | (show WL _ _ (_ :: _) _ _ _ _; first | refine wl_v rfl rfl rfl (by first | (show OpV _ _ _ _ (Oper.mk _ (Op.move _) _ _ _ _) _ _; exact xo_move rfl) | (show OpV _ _ _ _ (Oper.mk _ (Op.assign _) _ _ _ _) _ _; exact xo_assign rfl) | (show OpV _ _ _ _ (Oper.mk _ (Op.call ⟨.builtin .len, _, _⟩) _ _ _ _) _ _; first | exact xo_slen rfl | exact xo_len rfl) | (show OpV _ _ _ _ (Oper.mk _ (Op.binOp BinOp.neq _ _ _ _) _ _ _ _) _ _; first | exact xo_neq rfl rfl | exact xo_sneq rfl rfl | exact xo_bneq rfl rfl | exact xo_aneq rfl rfl) | (show OpV _ _ _ _ (Oper.mk _ (Op.binOp BinOp.lss _ _ _ _) _ _ _ _) _ _; exact xo_lss rfl rfl) | (show OpV _ _ _ _ (Oper.mk _ (Op.binOp BinOp.add _ _ _ _) _ _ _ _) _ _; first | exact xo_add rfl rfl | exact ov_sadd rfl rfl (by first | with_reducible exact fun _ => rfl | with_reducible exact fun h => h | exact fun _ => rfl | exact fun h => h | (intro himp; simp_all; done)) (by first | with_reducible exact fun _ => rfl | with_reducible exact fun h => h | exact fun _ => rfl | exact fun h => h | (intro himp; simp_all; done)) (by intro hcg; first | omega | (simp only [List.length_append, List.length_take, List.length_drop, List.length_cons, List.length_nil, List.length_nil]; omega))) | (show OpV _ _ _ _ (Oper.mk _ (Op.load _ _) _ _ _ _) _ _; first | exact xo_load1 rfl | exact xo_loadS rfl)) ?_ | refine wl_v rfl rfl rfl (by first | (show OpV _ _ _ _ (Oper.mk _ (Op.indexAddr _ _ _) _ _ _ _) _ _; first | exact ov_indexAddr rfl rfl (by (fail_if_success (with_reducible show (987654321 : Int) = _)); repeat' (first | with_reducible exact nc_cast | with_reducible exact nc_lit | apply nc_add | apply nc_div | apply nc_mod | apply nc_mul | refine nc_sub (m := _) (n := _) nc_cast nc_lit (by omega) | refine nc_sub (m := _) (n := _) nc_cast nc_cast (by omega))) (by first | with_reducible exact fun _ => rfl | with_reducible exact fun h => h | exact fun _ => rfl | exact fun h => h | (intro himp; simp_all; done)) (by first | with_reducible exact fun _ => rfl | with_reducible exact fun h => h | exact fun _ => rfl | exact fun h => h | (intro himp; simp_all; done)) rfl (by first | exact (rfl : _ = some 1) | exact (rfl : _ = some 2) | exact (rfl : _ = some 3) | exact (rfl : _ = some 4) | exact (rfl : _ = some 6) | exact rfl) (fun hcg => (h3 (by intro h; subst h; simp only [List.length_nil] at *; omega)).1) (by intro hcg; first | omega | (simp at hcg; omega)) | exact ov_indexAddr rfl rfl (by (fail_if_success (with_reducible show (987654321 : Int) = _)); repeat' (first | with_reducible exact nc_cast | with_reducible exact nc_lit | apply nc_add | apply nc_div | apply nc_mod | apply nc_mul | refine nc_sub (m := _) (n := _) nc_cast nc_lit (by omega) | refine nc_sub (m := _) (n := _) nc_cast nc_cast (by omega))) (by first | with_reducible exact fun _ => rfl | with_reducible exact fun h => h | exact fun _ => rfl | exact fun h => h | (intro himp; simp_all; done)) (by first | with_reducible exact fun _ => rfl | with_reducible exact fun h => h | exact fun _ => rfl | exact fun h => h | (intro himp; simp_all; done)) rfl (by first | exact (rfl : _ = some 1) | exact (rfl : _ = some 2) | exact (rfl : _ = some 3) | exact (rfl : _ = some 4) | exact (rfl : _ = some 6) | exact rfl) (fun hcg => (h3' (by intro h; subst h; simp only [List.length_nil] at *; omega)).1) (by intro hcg; first | omega | (simp at hcg; omega))) | (show OpV _ _ _ _ (Oper.mk _ (Op.load _ _) _ _ _ _) _ _; first | exact ov_loadSM rfl (by first | with_reducible exact fun _ => rfl | with_reducible exact fun h => h | exact fun _ => rfl | exact fun h => h | (intro himp; simp_all; done)) rfl (by first | exact (rfl : _ = some 1) | exact (rfl : _ = some 2) | exact (rfl : _ = some 3) | exact (rfl : _ = some 4) | exact (rfl : _ = some 6) | exact rfl) (fun hcg => (h3 (by intro h; subst h; simp only [List.length_nil] at *; omega)).2) (fun hcg => pcell (h4 i (by omega))) | exact ov_loadSM rfl (by first | with_reducible exact fun _ => rfl | with_reducible exact fun h => h | exact fun _ => rfl | exact fun h => h | (intro himp; simp_all; done)) rfl (by first | exact (rfl : _ = some 1) | exact (rfl : _ = some 2) | exact (rfl : _ = some 3) | exact (rfl : _ = some 4) | exact (rfl : _ = some 6) | exact rfl) (fun hcg => (h3' (by intro h; subst h; simp only [List.length_nil] at *; omega)).2) (fun hcg => pcell (h4' i (by omega)))) | fail) ?_) | refine wc_ret rfl ?_))
      repeat' (first | (first | refine wc_seq ?_ | refine wc_region ?_ | refine wl_nil ?_ | refine wn_seq ?_ | refine wn_blk ?_ | refine wc_skip ?_ | refine wc_block ?_ | refine wc_exit rfl ?_ | (show WL _ _ (_ :: _) _ _ _ _; first | refine wl_v rfl rfl rfl (by first | (show OpV _ _ _ _ (Oper.mk _ (Op.move _) _ _ _ _) _ _; exact xo_move rfl) | (show OpV _ _ _ _ (Oper.mk _ (Op.assign _) _ _ _ _) _ _; exact xo_assign rfl) | (show OpV _ _ _ _ (Oper.mk _ (Op.call ⟨.builtin .len, _, _⟩) _ _ _ _) _ _; first | exact xo_slen rfl | exact xo_len rfl) | (show OpV _ _ _ _ (Oper.mk _ (Op.binOp BinOp.neq _ _ _ _) _ _ _ _) _ _; first | exact xo_neq rfl rfl | exact xo_sneq rfl rfl | exact xo_bneq rfl rfl | exact xo_aneq rfl rfl) | (show OpV _ _ _ _ (Oper.mk _ (Op.binOp BinOp.lss _ _ _ _) _ _ _ _) _ _; exact xo_lss rfl rfl) | (show OpV _ _ _ _ (Oper.mk _ (Op.binOp BinOp.add _ _ _ _) _ _ _ _) _ _; first | exact xo_add rfl rfl | exact ov_sadd rfl rfl (by first | with_reducible exact fun _ => rfl | with_reducible exact fun h => h | exact fun _ => rfl | exact fun h => h | (intro himp; simp_all; done)) (by first | with_reducible exact fun _ => rfl | with_reducible exact fun h => h | exact fun _ => rfl | exact fun h => h | (intro himp; simp_all; done)) (by intro hcg; first | omega | (simp only [List.length_append, List.length_take, List.length_drop, List.length_cons, List.length_nil, List.length_nil]; omega))) | (show OpV _ _ _ _ (Oper.mk _ (Op.load _ _) _ _ _ _) _ _; first | exact xo_load1 rfl | exact xo_loadS rfl)) ?_ | refine wl_v rfl rfl rfl (by first  | fail) ?_) | refine wc_ret rfl ?_) | (show WC _ (Code.cond _ _ _) _ _ _ _; (refine wc_cond rfl (fun hc => ?_) (fun hc => ?_) <;> (try (simp only [decide_eq_true_eq, decide_eq_false_iff_not, Bool.and_eq_true, Bool.or_eq_true, Bool.and_eq_false_iff, Bool.or_eq_false_iff, Bool.not_eq_true', Bool.not_eq_false', Int.not_lt, Int.not_le] at hc)) <;> (try (exfalso; first | omega | contradiction)))))
      · refine wr_tmp rfl rfl (congrArg Value.bool ?_)
        symm
        rw [decide_eq_false_iff_not]
        rintro rfl
        simp at hc
      · have hh : l.getD i default = m.getD i default := by
          simp at hc
          exact Prod.ext hc.1 hc.2
        refine wn_cut ⟨i + 1, by omega, ?_⟩ (by show l.length - (i + 1) < l.length - i; omega) (by first | exact Sub.nil _ | (repeat (first | exact Sub.nil _ | refine Sub.cons (by first | rfl | (simp [look]; done)) ?_))) (fun _ h => h)
        intro j hj
        by_cases h : j = i
        · subst h; exact hh
        · exact hall j (by omega)
    · refine wr_tmp rfl rfl (congrArg Value.bool ?_)
      symm
      rw [decide_eq_true_iff]
      apply List.ext_getElem (by omega)
      intro j hj hj'
      have := hall j (by omega)
      simpa [hj, hj'] using this

/-- the cells of laid pairs, in a row -/
theorem row_cells : ∀ (l : List Pr) (cs : Array Value) (o : Nat), (∀ i, i < l.length → cs[o + i * 2]? = some (str (l.getD i default).1) ∧ cs[o + i * 2 + 1]? = some (str (l.getD i default).2)) → ∀ j u, (cellsP l)[j]? = some u → cs[o + j]? = some u
  | [], cs, o, _, j, u, hj => by simp [cellsP] at hj
  | p :: l, cs, o, h, j, u, hj => by
    have h0 := h 0 (by simp)
    have hl := row_cells l cs (o + 2) (fun i hi => by
      have := h (i + 1) (by simpa using hi)
      rw [show o + 2 + i * 2 = o + (i + 1) * 2 from by omega]
      simpa using this)
    match j, hj with
    | 0, hj => simp [cellsP] at hj; subst hj; simpa using h0.1
    | 1, hj => simp [cellsP] at hj; subst hj; simpa using h0.2
    | j + 2, hj =>
      have := hl j u (by simpa [cellsP] using hj)
      rw [show o + (j + 2) = o + 2 + j from by omega]; exact this
theorem row_at {M : Ghost} {a : Option Addr} {b o : Nat} {cs : Array Value} {T : TypeId} {fz : Nat × Nat} {l : List Pr} (h3 : l ≠ [] → a = some ⟨b, o, none⟩ ∧ M b (.cells cs T fz)) (h4 : ∀ i, i < l.length → cs[o + i * 2]? = some (str (l.getD i default).1) ∧ cs[o + i * 2 + 1]? = some (str (l.getD i default).2)) : RowAt M a (cellsP l) := by
  cases l with
  | nil => exact .inl rfl
  | cons p l =>
    obtain ⟨h5, h6⟩ := h3 (by simp)
    exact .inr ⟨b, o, cs, T, fz, h5, h6, row_cells _ cs o h4⟩
end Go.Proofs.YthkpekmecgbokaaDoor
/-
  The contracts of the document's functions on responses: matricularef05.Reason, Right, Write, Get, Texts, Same, Few, matricularef02.Digits.
-/
namespace Go.Proofs.YthkpekmecgbokaaDoor
open Go.Eng Go.Pct Go.Txt Go.Rsp
set_option maxRecDepth 10000
set_option linter.unusedSimpArgs false
set_option linter.unusedVariables false

variable {M : Ghost} {w : World}

theorem rreason_ok (hM : Laid M w) (z : Int) : Calls Tryd.prog 17 #[i64 z] w (RetE w (str (reasonS z))) := by
  refine calls_st (l := [i64 z]) hM Tryd.func17 rfl rfl rfl (E0 := [(0, true, i64 z)]) (params_cons rfl (params_nil _)) ?_
  repeat' (first | (first | refine wc_seq ?_ | refine wc_region ?_ | refine wl_nil ?_ | refine wn_seq ?_ | refine wn_blk ?_ | refine wc_skip ?_ | refine wc_block ?_ | refine wc_exit rfl ?_ | (show WL _ _ (_ :: _) _ _ _ _; first | refine wl_v rfl rfl rfl (by first | (show OpV _ _ _ _ (Oper.mk _ (Op.move _) _ _ _ _) _ _; exact xo_move rfl) | (show OpV _ _ _ _ (Oper.mk _ (Op.assign _) _ _ _ _) _ _; exact xo_assign rfl) | (show OpV _ _ _ _ (Oper.mk _ (Op.binOp BinOp.eql _ _ _ _) _ _ _ _) _ _; first | exact xo_eql rfl rfl | exact xo_seql rfl rfl | exact xo_beql rfl rfl | exact xo_aeql rfl rfl)) ?_ | refine wl_v rfl rfl rfl (by first  | fail) ?_) | refine wc_ret rfl ?_) | (show WC _ (Code.cond _ _ _) _ _ _ _; (refine wc_cond rfl (fun hc => ?_) (fun hc => ?_) <;> (try (simp only [decide_eq_true_eq, decide_eq_false_iff_not, Bool.and_eq_true, Bool.or_eq_true, Bool.and_eq_false_iff, Bool.or_eq_false_iff, Bool.not_eq_true', Bool.not_eq_false', Int.not_lt, Int.not_le] at hc)) <;> (try (exfalso; first | omega | contradiction)))))
  all_goals refine wr_tmp rfl rfl ?_
  all_goals (unfold reasonS; first | (subst hc; rfl) | simp [*])

theorem dig_cv (n : Nat) : 48 + (n : Int) % 10 = ((48 + n % 10 : Nat) : Int) := by omega
theorem digits_ok (hM : Laid M w) (n : Nat) (hn : n ≤ 4611686018427387904) : Calls Tryd.prog 27 #[i64 (n : Int)] w (RetE w (str (Lib.decDigits n))) := by
  refine calls_st (l := [i64 (n : Int)]) hM Tryd.func27 rfl rfl rfl (E0 := [(0, true, i64 (n : Int))]) (params_cons rfl (params_nil _)) ?_
  repeat' (first | (first | refine wc_seq ?_ | refine wc_region ?_ | refine wl_nil ?_ | refine wn_seq ?_ | refine wn_blk ?_ | refine wc_skip ?_ | refine wc_block ?_ | refine wc_exit rfl ?_ | (show WL _ _ (_ :: _) _ _ _ _; first | refine wl_v rfl rfl rfl (by first | (show OpV _ _ _ _ (Oper.mk _ (Op.move _) _ _ _ _) _ _; exact xo_move rfl) | (show OpV _ _ _ _ (Oper.mk _ (Op.assign _) _ _ _ _) _ _; exact xo_assign rfl) | (show OpV _ _ _ _ (Oper.mk _ (Op.binOp BinOp.gtr _ _ _ _) _ _ _ _) _ _; exact xo_gtr rfl rfl) | (show OpV _ _ _ _ (Oper.mk _ (Op.binOp BinOp.add _ _ _ _) _ _ _ _) _ _; first | exact xo_add rfl rfl | exact ov_sadd rfl rfl (by first | with_reducible exact fun _ => rfl | with_reducible exact fun h => h | exact fun _ => rfl | exact fun h => h | (intro himp; simp_all; done)) (by first | with_reducible exact fun _ => rfl | with_reducible exact fun h => h | exact fun _ => rfl | exact fun h => h | (intro himp; simp_all; done)) (by intro hcg; first | omega | (simp only [List.length_append, List.length_take, List.length_drop, List.length_cons, List.length_nil, List.length_nil]; omega))) | (show OpV _ _ _ _ (Oper.mk _ (Op.binOp BinOp.quo _ _ _ _) _ _ _ _) _ _; exact xo_quo rfl rfl) | (show OpV _ _ _ _ (Oper.mk _ (Op.binOp BinOp.rem _ _ _ _) _ _ _ _) _ _; exact xo_rem rfl rfl) | (show OpV _ _ _ _ (Oper.mk _ (Op.convert _ _ _) _ _ _ _) _ _; first | exact xo_conv rfl | exact xo_convBytes rfl)) ?_ | refine wl_v rfl rfl rfl (by first  | fail) ?_ | refine xl_buildSlice rfl (fun _ => ?_)) | refine wc_ret rfl ?_) | (show WC _ (Code.cond _ _ _) _ _ _ _; (refine wc_cond rfl (fun hc => ?_) (fun hc => ?_) <;> (try (simp only [decide_eq_true_eq, decide_eq_false_iff_not, Bool.and_eq_true, Bool.or_eq_true, Bool.and_eq_false_iff, Bool.or_eq_false_iff, Bool.not_eq_true', Bool.not_eq_false', Int.not_lt, Int.not_le] at hc)) <;> (try (exfalso; first | omega | contradiction)))))
  refine wc_loop (α := { x : Nat × List UInt8 // Lib.decDigits n = Lib.decDigits x.1 ++ x.2 ∧ x.1 ≤ n ∧ x.2.length ≤ n - x.1 }) (fun x => [(0, true, i64 (x.1.1 : Int)), (3, true, str x.1.2)]) (fun _ => St w [] [] M) (fun x => x.1.1) ⟨(n, []), by simp, Nat.le_refl _, by simp⟩ (by first | exact Sub.nil _ | (repeat (first | exact Sub.nil _ | refine Sub.cons (by first | rfl | (simp [look]; done)) ?_))) (fun _ h => h) ?_
  rintro ⟨⟨m, s⟩, h1, h2, h3⟩
  dsimp only at h1 h2 h3 ⊢
  repeat' (first | (first | refine wc_seq ?_ | refine wc_region ?_ | refine wl_nil ?_ | refine wn_seq ?_ | refine wn_blk ?_ | refine wc_skip ?_ | refine wc_block ?_ | refine wc_exit rfl ?_ | (show WL _ _ (_ :: _) _ _ _ _; first | refine wl_v rfl rfl rfl (by first | (show OpV _ _ _ _ (Oper.mk _ (Op.move _) _ _ _ _) _ _; exact xo_move rfl) | (show OpV _ _ _ _ (Oper.mk _ (Op.assign _) _ _ _ _) _ _; exact xo_assign rfl) | (show OpV _ _ _ _ (Oper.mk _ (Op.binOp BinOp.gtr _ _ _ _) _ _ _ _) _ _; exact xo_gtr rfl rfl) | (show OpV _ _ _ _ (Oper.mk _ (Op.binOp BinOp.add _ _ _ _) _ _ _ _) _ _; first | exact xo_add rfl rfl | exact ov_sadd rfl rfl (by first | with_reducible exact fun _ => rfl | with_reducible exact fun h => h | exact fun _ => rfl | exact fun h => h | (intro himp; simp_all; done)) (by first | with_reducible exact fun _ => rfl | with_reducible exact fun h => h | exact fun _ => rfl | exact fun h => h | (intro himp; simp_all; done)) (by intro hcg; first | omega | (simp only [List.length_append, List.length_take, List.length_drop, List.length_cons, List.length_nil, List.length_nil]; omega))) | (show OpV _ _ _ _ (Oper.mk _ (Op.binOp BinOp.quo _ _ _ _) _ _ _ _) _ _; exact xo_quo rfl rfl) | (show OpV _ _ _ _ (Oper.mk _ (Op.binOp BinOp.rem _ _ _ _) _ _ _ _) _ _; exact xo_rem rfl rfl) | (show OpV _ _ _ _ (Oper.mk _ (Op.convert _ _ _) _ _ _ _) _ _; first | exact xo_conv rfl | exact xo_convBytes rfl)) ?_ | refine wl_v rfl rfl rfl (by first  | fail) ?_ | refine xl_buildSlice rfl (fun _ => ?_)) | refine wc_ret rfl ?_) | (show WC _ (Code.cond _ _ _) _ _ _ _; (refine wc_cond rfl (fun hc => ?_) (fun hc => ?_) <;> (try (simp only [decide_eq_true_eq, decide_eq_false_iff_not, Bool.and_eq_true, Bool.or_eq_true, Bool.and_eq_false_iff, Bool.or_eq_false_iff, Bool.not_eq_true', Bool.not_eq_false', Int.not_lt, Int.not_le] at hc)) <;> (try (exfalso; first | omega | contradiction)))))
  · refine wn_cut ⟨(m / 10, UInt8.ofNat (48 + m % 10) :: s), ?_, by omega, by simp; omega⟩ (by show m / 10 < m; omega) (Sub.cons ?_ (Sub.cons ?_ (Sub.nil _))) (fun _ h => h.drop (by repeat (first | exact List.Sublist.refl _ | apply List.Sublist.cons)))
    · rw [h1, Lib.decDigits, dif_neg (by omega)]; simp
    · simp only [look]; rfl
    · simp only [look]
      have e : UInt8.ofNat (48 + (m : Int) % 10).toNat = UInt8.ofNat (48 + m % 10) := by congr 1
      rw [e]; rfl
  · refine wr_tmp rfl rfl ?_
    rw [h1, Lib.decDigits, dif_pos (by omega)]
    have e : UInt8.ofNat (48 + (m : Int)).toNat = UInt8.ofNat (48 + m) := by congr 1
    rw [e]

theorem edge_c (v : List UInt8) : (v.getD 0 0).toNat = 32 ↔ v.getD 0 0 = 32 := by rw [← UInt8.toNat_inj]; rfl
theorem trim32_no {v : List UInt8} (hn : 0 < v.length) (h : ((v.getD 0 0).toNat : Int) = 32 ∨ ((v.getD (v.length - 1) 0).toNat : Int) = 32) : trim32 v = false := by
  unfold trim32
  have he : v.isEmpty = false := by cases v <;> simp_all
  rw [he]
  rcases h with h | h
  · rw [(u8_eq _ 32 (by decide)).1 h]; rfl
  · rw [(u8_eq _ 32 (by decide)).1 h]; simp
theorem trim32_yes {v : List UInt8} (h : (v.length : Int) ≤ 0 ∨ ((¬ ((v.getD 0 0).toNat : Int) = 32) ∧ ¬ ((v.getD (v.length - 1) 0).toNat : Int) = 32)) : trim32 v = true := by
  unfold trim32
  rcases h with h | ⟨h1, h2⟩
  · have : v = [] := List.eq_nil_of_length_eq_zero (by omega)
    subst this; rfl
  · have e1 : (v.getD 0 0 == 32) = false := by rw [beq_eq_false_iff_ne]; intro e; exact h1 ((u8_eq _ 32 (by decide)).2 e)
    have e2 : (v.getD (v.length - 1) 0 == 32) = false := by rw [beq_eq_false_iff_ne]; intro e; exact h2 ((u8_eq _ 32 (by decide)).2 e)
    rw [e1, e2]; simp

theorem rright_ok (hM : Laid M w) {hv : Value} {l : List Pr} (hh : SlP M hv l) (st : Int) (bd : List UInt8) (hb : Small 140737488355328 l) : Calls Tryd.prog 15 #[.agg #[i64 st, hv, str bd]] w (RetE w (.bool (rightR ⟨st, l, bd⟩))) := by
  obtain ⟨a, cap, b, o, cs, T, fz, rfl, h1, h2, h3, h4⟩ := hh.open
  refine calls_st (l := [.agg #[i64 st, .slice a l.length cap, str bd]]) hM Tryd.func15 rfl rfl rfl (E0 := [(0, true, .agg #[i64 st, .slice a l.length cap, str bd])]) (params_cons rfl (params_nil _)) ?_
  repeat' (first | (first | refine wc_seq ?_ | refine wc_region ?_ | refine wl_nil ?_ | refine wn_seq ?_ | refine wn_blk ?_ | refine wc_skip ?_ | refine wc_block ?_ | refine wc_exit rfl ?_ | (show WL _ _ (_ :: _) _ _ _ _; first | refine wl_v rfl rfl rfl (by first | (show OpV _ _ _ _ (Oper.mk _ (Op.move _) _ _ _ _) _ _; exact xo_move rfl) | (show OpV _ _ _ _ (Oper.mk _ (Op.assign _) _ _ _ _) _ _; exact xo_assign rfl) | (show OpV _ _ _ _ (Oper.mk _ (Op.pick _ _ _) _ _ _ _) _ _; first | exact xo_and rfl rfl | exact xo_or rfl rfl) | (show OpV _ _ _ _ (Oper.mk _ (Op.call ⟨.builtin .len, _, _⟩) _ _ _ _) _ _; first | exact xo_slen rfl | exact xo_len rfl) | (show OpV _ _ _ _ (Oper.mk _ (Op.unOp _ _ _) _ _ _ _) _ _; exact xo_not rfl) | (show OpV _ _ _ _ (Oper.mk _ (Op.binOp BinOp.eql _ _ _ _) _ _ _ _) _ _; first | exact xo_eql rfl rfl | exact xo_seql rfl rfl | exact xo_beql rfl rfl | exact xo_aeql rfl rfl) | (show OpV _ _ _ _ (Oper.mk _ (Op.binOp BinOp.lss _ _ _ _) _ _ _ _) _ _; exact xo_lss rfl rfl) | (show OpV _ _ _ _ (Oper.mk _ (Op.binOp BinOp.gtr _ _ _ _) _ _ _ _) _ _; exact xo_gtr rfl rfl) | (show OpV _ _ _ _ (Oper.mk _ (Op.binOp BinOp.add _ _ _ _) _ _ _ _) _ _; first | exact xo_add rfl rfl | exact ov_sadd rfl rfl (by first | with_reducible exact fun _ => rfl | with_reducible exact fun h => h | exact fun _ => rfl | exact fun h => h | (intro himp; simp_all; done)) (by first | with_reducible exact fun _ => rfl | with_reducible exact fun h => h | exact fun _ => rfl | exact fun h => h | (intro himp; simp_all; done)) (by intro hcg; first | omega | (simp only [List.length_append, List.length_take, List.length_drop, List.length_cons, List.length_nil, List.length_nil]; omega))) | (show OpV _ _ _ _ (Oper.mk _ (Op.binOp BinOp.sub _ _ _ _) _ _ _ _) _ _; exact xo_sub rfl rfl) | (show OpV _ _ _ _ (Oper.mk _ (Op.index _ _ _) _ _ _ _) _ _; exact xo_sindex rfl rfl) | (show OpV _ _ _ _ (Oper.mk _ (Op.fieldAddr _ _ _) _ _ _ _) _ _; exact xo_fieldAddr rfl) | (show OpV _ _ _ _ (Oper.mk _ (Op.load _ _) _ _ _ _) _ _; first | exact xo_load1 rfl | exact xo_loadS rfl)) ?_ | refine wl_v rfl rfl rfl (by first | ((show OpV _ _ _ _ (Oper.mk _ (Op.call ⟨.value (.func 17), _, _⟩) _ _ _ _) _ _; exact ov_call Tryd.call17 rfl (by intro himp; first | rfl | (simp_all; done)) (by rfl) (fun _ _ h k => h.ext k) (fun hcg w hw => rreason_ok hw.laid _))) | fail) ?_ | refine xl_alloc (fun _ => ?_) | refine xl_box rfl (fun _ => ?_) | refine xl_store rfl rfl ?_) | refine wc_ret rfl ?_) | (show WC _ (Code.cond _ _ _) _ _ _ _; (refine wc_cond rfl (fun hc => ?_) (fun hc => ?_) <;> (try (simp only [decide_eq_true_eq, decide_eq_false_iff_not, Bool.and_eq_true, Bool.or_eq_true, Bool.and_eq_false_iff, Bool.or_eq_false_iff, Bool.not_eq_true', Bool.not_eq_false', Int.not_lt, Int.not_le] at hc)) <;> (try (exfalso; first | omega | contradiction)))))
  · refine wr_tmp rfl rfl (congrArg Value.bool ?_)
    symm
    rw [Bool.eq_false_iff]
    intro h
    obtain ⟨p1, p2, p3, _⟩ := right_parts h
    simp only at p1 p2 p3
    rcases hc with (h | h) | h
    · rw [h] at p1; cases p1
    · omega
    · omega
  rename_i b1
  refine wc_loop (α := { i : Nat // i ≤ l.length ∧ ∀ j, j < i → hdrB (l.getD j default) = true }) (fun x => [(1, true, .pointer (some ⟨b1, 0, none⟩)), (3, true, i64 (x.1 : Int))]) (fun x => St w [] [(b1, .cells [i64 st, .slice a l.length cap, str bd].toArray 24 (0, 0))] M) (fun x => l.length - x.1) ⟨0, by omega, by intro j hj; omega⟩ (by first | exact Sub.nil _ | (repeat (first | exact Sub.nil _ | refine Sub.cons (by first | rfl | (simp [look]; done)) ?_))) (fun _ h => h) ?_
  rintro ⟨i, hi, hall⟩
  dsimp only
  have hmem : ∀ j, j < l.length → l.getD j default ∈ l := fun j hj => by
    have : l.getD j default = l[j] := by simp [hj]
    rw [this]; exact List.getElem_mem _
  have hbi : i < l.length → (l.getD i default).1.length ≤ 140737488355328 ∧ (l.getD i default).2.length ≤ 140737488355328 := fun hj => hb _ (hmem i hj)
  have hno : i < l.length → hdrB (l.getD i default) = false → rightR ⟨st, l, bd⟩ = false := by
    intro hj hd
    rw [Bool.eq_false_iff]
    intro h
    have := List.all_eq_true.1 (right_parts h).2.2.2 _ (hmem i hj)
    rw [hd] at this; cases this
  have hhd : ∀ (n v : List UInt8), hdrB (n, v) = (tokenB n && (shownB 32 v && trim32 v) && !alikeB n scl) := fun n v => by rw [alike_scl]; rfl
  have hhd : hdrB (l.getD i default) = (tokenB (l.getD i default).1 && (shownB 32 (l.getD i default).2 && trim32 (l.getD i default).2) && !alikeB (l.getD i default).1 scl) := by rw [alike_scl]; rfl
  rw [hhd] at hno
  rcases Nat.lt_or_ge i l.length with hlt | hge
  · have hbi := hbi hlt
    have hno := hno hlt
    have hnext : (tokenB (l.getD i default).1 && (shownB 32 (l.getD i default).2 && trim32 (l.getD i default).2) && !alikeB (l.getD i default).1 scl) = true → ∀ j, j < i + 1 → hdrB (l.getD j default) = true := by
      intro h j hj
      by_cases e : j = i
      · subst e; rw [hhd]; exact h
      · exact hall j (by omega)
    have hbad : ((tokenB (l.getD i default).1 = false ∨ shownB 32 (l.getD i default).2 = false) ∨ alikeB (l.getD i default).1 scl = true) → (tokenB (l.getD i default).1 && (shownB 32 (l.getD i default).2 && trim32 (l.getD i default).2) && !alikeB (l.getD i default).1 scl) = false := by
      rintro ((h | h) | h)
      · rw [h]; rfl
      · rw [h]; simp
      · rw [h]; simp
    have hgood : tokenB (l.getD i default).1 = true → shownB 32 (l.getD i default).2 = true → alikeB (l.getD i default).1 scl = false → trim32 (l.getD i default).2 = true → (tokenB (l.getD i default).1 && (shownB 32 (l.getD i default).2 && trim32 (l.getD i default).2) && !alikeB (l.getD i default).1 scl) = true := by
      intro h1 h2 h3 h4; rw [h1, h2, h3, h4]; rfl
    by_cases hz : (l.getD i default).2.length = 0
    · have hz' : ((l.getD i default).2.length : Int) = 0 := by omega
      have ht := trim32_yes (v := (l.getD i default).2) (.inl (by omega))
      repeat' (first | (first | refine wc_seq ?_ | refine wc_region ?_ | refine wl_nil ?_ | refine wn_seq ?_ | refine wn_blk ?_ | refine wc_skip ?_ | refine wc_block ?_ | refine wc_exit rfl ?_ | (show WL _ _ (_ :: _) _ _ _ _; first | refine wl_v rfl rfl rfl (by first | (show OpV _ _ _ _ (Oper.mk _ (Op.move _) _ _ _ _) _ _; exact xo_move rfl) | (show OpV _ _ _ _ (Oper.mk _ (Op.assign _) _ _ _ _) _ _; exact xo_assign rfl) | (show OpV _ _ _ _ (Oper.mk _ (Op.pick _ _ _) _ _ _ _) _ _; first | exact xo_and rfl rfl | exact xo_or rfl rfl) | (show OpV _ _ _ _ (Oper.mk _ (Op.call ⟨.builtin .len, _, _⟩) _ _ _ _) _ _; first | exact xo_slen rfl | exact xo_len rfl) | (show OpV _ _ _ _ (Oper.mk _ (Op.unOp _ _ _) _ _ _ _) _ _; exact xo_not rfl) | (show OpV _ _ _ _ (Oper.mk _ (Op.binOp BinOp.eql _ _ _ _) _ _ _ _) _ _; first | exact xo_eql rfl rfl | exact xo_seql rfl rfl | exact xo_beql rfl rfl | exact xo_aeql rfl rfl) | (show OpV _ _ _ _ (Oper.mk _ (Op.binOp BinOp.lss _ _ _ _) _ _ _ _) _ _; exact xo_lss rfl rfl) | (show OpV _ _ _ _ (Oper.mk _ (Op.binOp BinOp.gtr _ _ _ _) _ _ _ _) _ _; exact xo_gtr rfl rfl) | (show OpV _ _ _ _ (Oper.mk _ (Op.binOp BinOp.add _ _ _ _) _ _ _ _) _ _; first | exact xo_add rfl rfl | exact ov_sadd rfl rfl (by first | with_reducible exact fun _ => rfl | with_reducible exact fun h => h | exact fun _ => rfl | exact fun h => h | (intro himp; simp_all; done)) (by first | with_reducible exact fun _ => rfl | with_reducible exact fun h => h | exact fun _ => rfl | exact fun h => h | (intro himp; simp_all; done)) (by intro hcg; first | omega | (simp only [List.length_append, List.length_take, List.length_drop, List.length_cons, List.length_nil, List.length_nil]; omega))) | (show OpV _ _ _ _ (Oper.mk _ (Op.binOp BinOp.sub _ _ _ _) _ _ _ _) _ _; exact xo_sub rfl rfl) | (show OpV _ _ _ _ (Oper.mk _ (Op.index _ _ _) _ _ _ _) _ _; exact xo_sindex rfl rfl) | (show OpV _ _ _ _ (Oper.mk _ (Op.fieldAddr _ _ _) _ _ _ _) _ _; exact xo_fieldAddr rfl) | (show OpV _ _ _ _ (Oper.mk _ (Op.load _ _) _ _ _ _) _ _; first | exact xo_load1 rfl | exact xo_loadS rfl)) ?_ | refine wl_v rfl rfl rfl (by first | (show OpV _ _ _ _ (Oper.mk _ (Op.indexAddr _ _ _) _ _ _ _) _ _; exact ov_indexAddr rfl rfl (by (fail_if_success (with_reducible show (987654321 : Int) = _)); repeat' (first | with_reducible exact nc_cast | with_reducible exact nc_lit | apply nc_add | apply nc_div | apply nc_mod | apply nc_mul | refine nc_sub (m := _) (n := _) nc_cast nc_lit (by omega) | refine nc_sub (m := _) (n := _) nc_cast nc_cast (by omega))) (by first | with_reducible exact fun _ => rfl | with_reducible exact fun h => h | exact fun _ => rfl | exact fun h => h | (intro himp; simp_all; done)) (by first | with_reducible exact fun _ => rfl | with_reducible exact fun h => h | exact fun _ => rfl | exact fun h => h | (intro himp; simp_all; done)) rfl (by first | exact (rfl : _ = some 1) | exact (rfl : _ = some 2) | exact (rfl : _ = some 3) | exact (rfl : _ = some 4) | exact (rfl : _ = some 6) | exact rfl) (fun hcg => (h3 (by intro h; subst h; simp only [List.length_nil] at *; omega)).1) (by intro hcg; first | omega | (simp at hcg; omega))) | (show OpV _ _ _ _ (Oper.mk _ (Op.load _ _) _ _ _ _) _ _; exact ov_loadSM rfl (by first | with_reducible exact fun _ => rfl | with_reducible exact fun h => h | exact fun _ => rfl | exact fun h => h | (intro himp; simp_all; done)) rfl (by first | exact (rfl : _ = some 1) | exact (rfl : _ = some 2) | exact (rfl : _ = some 3) | exact (rfl : _ = some 4) | exact (rfl : _ = some 6) | exact rfl) (fun hcg => (h3 (by intro h; subst h; simp only [List.length_nil] at *; omega)).2) (fun hcg => pcell (h4 i (by omega)))) | (show OpV _ _ _ _ (Oper.mk _ (Op.index _ _ _) _ _ _ _) _ _; exact ov_off (v := byt 0) (by rw [hz']; rfl)) | ((show OpV _ _ _ _ (Oper.mk _ (Op.call ⟨.value (.func 35), _, _⟩) _ _ _ _) _ _; exact ov_call Tryd.call35 rfl (by intro himp; first | rfl | (simp_all; done)) (by rfl) (fun _ _ h k => h.ext k) (fun hcg w hw => rtoken_ok hw.laid _ (by omega)))) | ((show OpV _ _ _ _ (Oper.mk _ (Op.call ⟨.value (.func 36), _, _⟩) _ _ _ _) _ _; exact ov_call Tryd.call36 rfl (by intro himp; first | rfl | (simp_all; done)) (by rfl) (fun _ _ h k => h.ext k) (fun hcg w hw => rshown_ok hw.laid _ 32 (by omega)))) | ((show OpV _ _ _ _ (Oper.mk _ (Op.call ⟨.value (.func 37), _, _⟩) _ _ _ _) _ _; exact ov_call Tryd.call37 rfl (by intro himp; first | rfl | (simp_all; done)) (by rfl) (fun _ _ h k => h.ext k) (fun hcg w hw => ralike_ok hw.laid _ _ (by omega)))) | fail) ?_ | refine xl_alloc (fun _ => ?_) | refine xl_box rfl (fun _ => ?_) | refine xl_store rfl rfl ?_) | refine wc_ret rfl ?_) | (show WC _ (Code.cond _ _ _) _ _ _ _; (refine wc_cond rfl (fun hc => ?_) (fun hc => ?_) <;> (try (simp only [decide_eq_true_eq, decide_eq_false_iff_not, Bool.and_eq_true, Bool.or_eq_true, Bool.and_eq_false_iff, Bool.or_eq_false_iff, Bool.not_eq_true', Bool.not_eq_false', Int.not_lt, Int.not_le] at hc)) <;> (try (exfalso; first | omega | contradiction)))))
      · refine wr_tmp rfl rfl (congrArg Value.bool (hno ?_).symm)
        exact hbad hc
      · refine wn_cut ⟨i + 1, by omega, hnext ?_⟩ (by show l.length - (i + 1) < l.length - i; omega) (by first | exact Sub.nil _ | (repeat (first | exact Sub.nil _ | refine Sub.cons (by first | rfl | (simp [look]; done)) ?_))) (fun _ h => h.drop (by repeat (first | exact List.Sublist.refl _ | apply List.Sublist.cons)))
        obtain ⟨⟨c1, c2⟩, c3⟩ := ‹(tokenB (l.getD i default).1 = true ∧ shownB 32 (l.getD i default).2 = true) ∧ _›
        exact hgood c1 c2 c3 ht
    · repeat' (first | (first | refine wc_seq ?_ | refine wc_region ?_ | refine wl_nil ?_ | refine wn_seq ?_ | refine wn_blk ?_ | refine wc_skip ?_ | refine wc_block ?_ | refine wc_exit rfl ?_ | (show WL _ _ (_ :: _) _ _ _ _; first | refine wl_v rfl rfl rfl (by first | (show OpV _ _ _ _ (Oper.mk _ (Op.move _) _ _ _ _) _ _; exact xo_move rfl) | (show OpV _ _ _ _ (Oper.mk _ (Op.assign _) _ _ _ _) _ _; exact xo_assign rfl) | (show OpV _ _ _ _ (Oper.mk _ (Op.pick _ _ _) _ _ _ _) _ _; first | exact xo_and rfl rfl | exact xo_or rfl rfl) | (show OpV _ _ _ _ (Oper.mk _ (Op.call ⟨.builtin .len, _, _⟩) _ _ _ _) _ _; first | exact xo_slen rfl | exact xo_len rfl) | (show OpV _ _ _ _ (Oper.mk _ (Op.unOp _ _ _) _ _ _ _) _ _; exact xo_not rfl) | (show OpV _ _ _ _ (Oper.mk _ (Op.binOp BinOp.eql _ _ _ _) _ _ _ _) _ _; first | exact xo_eql rfl rfl | exact xo_seql rfl rfl | exact xo_beql rfl rfl | exact xo_aeql rfl rfl) | (show OpV _ _ _ _ (Oper.mk _ (Op.binOp BinOp.lss _ _ _ _) _ _ _ _) _ _; exact xo_lss rfl rfl) | (show OpV _ _ _ _ (Oper.mk _ (Op.binOp BinOp.gtr _ _ _ _) _ _ _ _) _ _; exact xo_gtr rfl rfl) | (show OpV _ _ _ _ (Oper.mk _ (Op.binOp BinOp.add _ _ _ _) _ _ _ _) _ _; first | exact xo_add rfl rfl | exact ov_sadd rfl rfl (by first | with_reducible exact fun _ => rfl | with_reducible exact fun h => h | exact fun _ => rfl | exact fun h => h | (intro himp; simp_all; done)) (by first | with_reducible exact fun _ => rfl | with_reducible exact fun h => h | exact fun _ => rfl | exact fun h => h | (intro himp; simp_all; done)) (by intro hcg; first | omega | (simp only [List.length_append, List.length_take, List.length_drop, List.length_cons, List.length_nil, List.length_nil]; omega))) | (show OpV _ _ _ _ (Oper.mk _ (Op.binOp BinOp.sub _ _ _ _) _ _ _ _) _ _; exact xo_sub rfl rfl) | (show OpV _ _ _ _ (Oper.mk _ (Op.index _ _ _) _ _ _ _) _ _; exact xo_sindex rfl rfl) | (show OpV _ _ _ _ (Oper.mk _ (Op.fieldAddr _ _ _) _ _ _ _) _ _; exact xo_fieldAddr rfl) | (show OpV _ _ _ _ (Oper.mk _ (Op.load _ _) _ _ _ _) _ _; first | exact xo_load1 rfl | exact xo_loadS rfl)) ?_ | refine wl_v rfl rfl rfl (by first | (show OpV _ _ _ _ (Oper.mk _ (Op.indexAddr _ _ _) _ _ _ _) _ _; exact ov_indexAddr rfl rfl (by (fail_if_success (with_reducible show (987654321 : Int) = _)); repeat' (first | with_reducible exact nc_cast | with_reducible exact nc_lit | apply nc_add | apply nc_div | apply nc_mod | apply nc_mul | refine nc_sub (m := _) (n := _) nc_cast nc_lit (by omega) | refine nc_sub (m := _) (n := _) nc_cast nc_cast (by omega))) (by first | with_reducible exact fun _ => rfl | with_reducible exact fun h => h | exact fun _ => rfl | exact fun h => h | (intro himp; simp_all; done)) (by first | with_reducible exact fun _ => rfl | with_reducible exact fun h => h | exact fun _ => rfl | exact fun h => h | (intro himp; simp_all; done)) rfl (by first | exact (rfl : _ = some 1) | exact (rfl : _ = some 2) | exact (rfl : _ = some 3) | exact (rfl : _ = some 4) | exact (rfl : _ = some 6) | exact rfl) (fun hcg => (h3 (by intro h; subst h; simp only [List.length_nil] at *; omega)).1) (by intro hcg; first | omega | (simp at hcg; omega))) | (show OpV _ _ _ _ (Oper.mk _ (Op.load _ _) _ _ _ _) _ _; exact ov_loadSM rfl (by first | with_reducible exact fun _ => rfl | with_reducible exact fun h => h | exact fun _ => rfl | exact fun h => h | (intro himp; simp_all; done)) rfl (by first | exact (rfl : _ = some 1) | exact (rfl : _ = some 2) | exact (rfl : _ = some 3) | exact (rfl : _ = some 4) | exact (rfl : _ = some 6) | exact rfl) (fun hcg => (h3 (by intro h; subst h; simp only [List.length_nil] at *; omega)).2) (fun hcg => pcell (h4 i (by omega)))) | ((show OpV _ _ _ _ (Oper.mk _ (Op.call ⟨.value (.func 35), _, _⟩) _ _ _ _) _ _; exact ov_call Tryd.call35 rfl (by intro himp; first | rfl | (simp_all; done)) (by rfl) (fun _ _ h k => h.ext k) (fun hcg w hw => rtoken_ok hw.laid _ (by omega)))) | ((show OpV _ _ _ _ (Oper.mk _ (Op.call ⟨.value (.func 36), _, _⟩) _ _ _ _) _ _; exact ov_call Tryd.call36 rfl (by intro himp; first | rfl | (simp_all; done)) (by rfl) (fun _ _ h k => h.ext k) (fun hcg w hw => rshown_ok hw.laid _ 32 (by omega)))) | ((show OpV _ _ _ _ (Oper.mk _ (Op.call ⟨.value (.func 37), _, _⟩) _ _ _ _) _ _; exact ov_call Tryd.call37 rfl (by intro himp; first | rfl | (simp_all; done)) (by rfl) (fun _ _ h k => h.ext k) (fun hcg w hw => ralike_ok hw.laid _ _ (by omega)))) | fail) ?_ | refine xl_alloc (fun _ => ?_) | refine xl_box rfl (fun _ => ?_) | refine xl_store rfl rfl ?_) | refine wc_ret rfl ?_) | (show WC _ (Code.cond _ _ _) _ _ _ _; (refine wc_cond rfl (fun hc => ?_) (fun hc => ?_) <;> (try (simp only [decide_eq_true_eq, decide_eq_false_iff_not, Bool.and_eq_true, Bool.or_eq_true, Bool.and_eq_false_iff, Bool.or_eq_false_iff, Bool.not_eq_true', Bool.not_eq_false', Int.not_lt, Int.not_le] at hc)) <;> (try (exfalso; first | omega | contradiction)))))
      · refine wr_tmp rfl rfl (congrArg Value.bool (hno ?_).symm)
        exact hbad hc
      · refine wr_tmp rfl rfl (congrArg Value.bool (hno ?_).symm)
        rw [trim32_no (by omega) hc.2]; simp
      · have ht := trim32_yes (v := (l.getD i default).2) (by omega)
        refine wn_cut ⟨i + 1, by omega, hnext ?_⟩ (by show l.length - (i + 1) < l.length - i; omega) (by first | exact Sub.nil _ | (repeat (first | exact Sub.nil _ | refine Sub.cons (by first | rfl | (simp [look]; done)) ?_))) (fun _ h => h.drop (by repeat (first | exact List.Sublist.refl _ | apply List.Sublist.cons)))
        obtain ⟨⟨c1, c2⟩, c3⟩ := ‹(tokenB (l.getD i default).1 = true ∧ shownB 32 (l.getD i default).2 = true) ∧ _›
        exact hgood c1 c2 c3 ht
  · repeat' (first | (first | refine wc_seq ?_ | refine wc_region ?_ | refine wl_nil ?_ | refine wn_seq ?_ | refine wn_blk ?_ | refine wc_skip ?_ | refine wc_block ?_ | refine wc_exit rfl ?_ | (show WL _ _ (_ :: _) _ _ _ _; first | refine wl_v rfl rfl rfl (by first | (show OpV _ _ _ _ (Oper.mk _ (Op.move _) _ _ _ _) _ _; exact xo_move rfl) | (show OpV _ _ _ _ (Oper.mk _ (Op.assign _) _ _ _ _) _ _; exact xo_assign rfl) | (show OpV _ _ _ _ (Oper.mk _ (Op.pick _ _ _) _ _ _ _) _ _; first | exact xo_and rfl rfl | exact xo_or rfl rfl) | (show OpV _ _ _ _ (Oper.mk _ (Op.call ⟨.builtin .len, _, _⟩) _ _ _ _) _ _; first | exact xo_slen rfl | exact xo_len rfl) | (show OpV _ _ _ _ (Oper.mk _ (Op.unOp _ _ _) _ _ _ _) _ _; exact xo_not rfl) | (show OpV _ _ _ _ (Oper.mk _ (Op.binOp BinOp.eql _ _ _ _) _ _ _ _) _ _; first | exact xo_eql rfl rfl | exact xo_seql rfl rfl | exact xo_beql rfl rfl | exact xo_aeql rfl rfl) | (show OpV _ _ _ _ (Oper.mk _ (Op.binOp BinOp.lss _ _ _ _) _ _ _ _) _ _; exact xo_lss rfl rfl) | (show OpV _ _ _ _ (Oper.mk _ (Op.binOp BinOp.gtr _ _ _ _) _ _ _ _) _ _; exact xo_gtr rfl rfl) | (show OpV _ _ _ _ (Oper.mk _ (Op.binOp BinOp.add _ _ _ _) _ _ _ _) _ _; first | exact xo_add rfl rfl | exact ov_sadd rfl rfl (by first | with_reducible exact fun _ => rfl | with_reducible exact fun h => h | exact fun _ => rfl | exact fun h => h | (intro himp; simp_all; done)) (by first | with_reducible exact fun _ => rfl | with_reducible exact fun h => h | exact fun _ => rfl | exact fun h => h | (intro himp; simp_all; done)) (by intro hcg; first | omega | (simp only [List.length_append, List.length_take, List.length_drop, List.length_cons, List.length_nil, List.length_nil]; omega))) | (show OpV _ _ _ _ (Oper.mk _ (Op.binOp BinOp.sub _ _ _ _) _ _ _ _) _ _; exact xo_sub rfl rfl) | (show OpV _ _ _ _ (Oper.mk _ (Op.index _ _ _) _ _ _ _) _ _; exact xo_sindex rfl rfl) | (show OpV _ _ _ _ (Oper.mk _ (Op.fieldAddr _ _ _) _ _ _ _) _ _; exact xo_fieldAddr rfl) | (show OpV _ _ _ _ (Oper.mk _ (Op.load _ _) _ _ _ _) _ _; first | exact xo_load1 rfl | exact xo_loadS rfl)) ?_ | refine wl_v rfl rfl rfl (by first  | fail) ?_ | refine xl_alloc (fun _ => ?_) | refine xl_box rfl (fun _ => ?_) | refine xl_store rfl rfl ?_) | refine wc_ret rfl ?_) | (show WC _ (Code.cond _ _ _) _ _ _ _; (refine wc_cond rfl (fun hc => ?_) (fun hc => ?_) <;> (try (simp only [decide_eq_true_eq, decide_eq_false_iff_not, Bool.and_eq_true, Bool.or_eq_true, Bool.and_eq_false_iff, Bool.or_eq_false_iff, Bool.not_eq_true', Bool.not_eq_false', Int.not_lt, Int.not_le] at hc)) <;> (try (exfalso; first | omega | contradiction)))))
    refine wr_tmp rfl rfl (congrArg Value.bool ?_)
    have h5 : l.all hdrB = true := by
      rw [List.all_eq_true]
      intro p hp
      obtain ⟨j, hj, rfl⟩ := List.mem_iff_getElem.1 hp
      have := hall j (by omega)
      simpa [hj] using this
    unfold rightR
    rw [h5]
    obtain ⟨⟨c1, c2⟩, c3⟩ := ‹(¬ reasonS st = [] ∧ _) ∧ _›
    have h6 : (reasonS st).isEmpty = false := by simpa using c1
    simp only [h6]
    simp; omega

theorem writeR_eq (st : Int) (l : List Pr) (bd : List UInt8) : writeR ⟨st, l, bd⟩ = headS st ++ l.flatMap hline ++ (sCL ++ [58, 32]) ++ Lib.itoa (bd.length : Int) ++ [13, 10, 13, 10] ++ bd := by
  simp [writeR, hline]
def resW (r : Resp) : Value := .tuple #[str (if rightR r = true then writeR r else []), i64 (if rightR r = true then 0 else 1)]
theorem rwriteR_ok (hM : Laid M w) {hv : Value} {l : List Pr} (hh : SlP M hv l) (st : Int) (bd : List UInt8) (hb : Small 140737488355328 l) : Calls Tryd.prog 13 #[.agg #[i64 st, hv, str bd]] w (RetE w (resW ⟨st, l, bd⟩)) := by
  obtain ⟨a, cap, b, o, cs, T, fz, rfl, h1, h2, h3, h4⟩ := hh.open
  refine calls_st (l := [.agg #[i64 st, .slice a l.length cap, str bd]]) hM Tryd.func13 rfl rfl rfl (E0 := [(0, true, .agg #[i64 st, .slice a l.length cap, str bd])]) (params_cons rfl (params_nil _)) ?_
  repeat' (first | (first | refine wc_seq ?_ | refine wc_region ?_ | refine wl_nil ?_ | refine wn_seq ?_ | refine wn_blk ?_ | refine wc_skip ?_ | refine wc_block ?_ | refine wc_exit rfl ?_ | (show WL _ _ (_ :: _) _ _ _ _; first | refine wl_v rfl rfl rfl (by first | (show OpV _ _ _ _ (Oper.mk _ (Op.move _) _ _ _ _) _ _; exact xo_move rfl) | (show OpV _ _ _ _ (Oper.mk _ (Op.assign _) _ _ _ _) _ _; exact xo_assign rfl) | (show OpV _ _ _ _ (Oper.mk _ (Op.call ⟨.builtin .len, _, _⟩) _ _ _ _) _ _; first | exact xo_slen rfl | exact xo_len rfl) | (show OpV _ _ _ _ (Oper.mk _ (Op.unOp _ _ _) _ _ _ _) _ _; exact xo_not rfl) | (show OpV _ _ _ _ (Oper.mk _ (Op.binOp BinOp.lss _ _ _ _) _ _ _ _) _ _; exact xo_lss rfl rfl) | (show OpV _ _ _ _ (Oper.mk _ (Op.binOp BinOp.add _ _ _ _) _ _ _ _) _ _; first | exact xo_add rfl rfl | exact ov_sadd rfl rfl (by first | with_reducible exact fun _ => rfl | with_reducible exact fun h => h | exact fun _ => rfl | exact fun h => h | (intro himp; simp_all; done)) (by first | with_reducible exact fun _ => rfl | with_reducible exact fun h => h | exact fun _ => rfl | exact fun h => h | (intro himp; simp_all; done)) (by intro hcg; first | omega | (simp only [List.length_append, List.length_take, List.length_drop, List.length_cons, List.length_nil, List.length_nil]; omega))) | (show OpV _ _ _ _ (Oper.mk _ (Op.fieldAddr _ _ _) _ _ _ _) _ _; exact xo_fieldAddr rfl) | (show OpV _ _ _ _ (Oper.mk _ (Op.load _ _) _ _ _ _) _ _; first | exact xo_load1 rfl | exact xo_loadS rfl)) ?_ | refine wl_v rfl rfl rfl (by first | ((show OpV _ _ _ _ (Oper.mk _ (Op.call ⟨.value (.func 15), _, _⟩) _ _ _ _) _ _; exact ov_call Tryd.call15 rfl (by intro himp; first | rfl | (simp_all; done)) (by rfl) (fun _ _ h k => h.ext k) (fun hcg w hw => rright_ok hw.laid (hh.mono (fun _ _ h => h) (fun _ _ _ h => h)) _ _ hb))) | fail) ?_ | refine xl_box rfl (fun _ => ?_)) | refine wc_ret rfl ?_) | (show WC _ (Code.cond _ _ _) _ _ _ _; (refine wc_cond rfl (fun hc => ?_) (fun hc => ?_) <;> (try (simp only [decide_eq_true_eq, decide_eq_false_iff_not, Bool.and_eq_true, Bool.or_eq_true, Bool.and_eq_false_iff, Bool.or_eq_false_iff, Bool.not_eq_true', Bool.not_eq_false', Int.not_lt, Int.not_le] at hc)) <;> (try (exfalso; first | omega | contradiction)))))
  · refine wr_tmp2 rfl rfl rfl ?_ ?_ <;> simp [hc]
  have hR := hc
  obtain ⟨p1, p2, p3, p4⟩ := right_parts hc
  dsimp only at p1 p2 p3 p4
  obtain ⟨n, rfl, hn, hd3⟩ := status_nat p1
  have hrl := reason_length (n : Int)
  have hhl := headS_length hd3
  rename_i b1
  refine wc_weak (E' := [(1, true, .pointer (some ⟨b1, 0, none⟩))]) (by first | exact Sub.nil _ | (repeat (first | exact Sub.nil _ | refine Sub.cons (by first | rfl | (simp [look]; done)) ?_))) (fun _ h => h) ?_
  refine wc_draw 10 (by kernel_rfl) rfl (by kernel_rfl) (fun _ _ h k => h.ext k) ?_
  repeat' (first | (show WD _ _ (_ :: _) _ _ _ _ _ _; first | refine wd_v rfl rfl rfl rfl rfl rfl (by first | (show OpV _ _ _ _ (Oper.mk _ (Op.move _) _ _ _ _) _ _; exact xo_move rfl) | (show OpV _ _ _ _ (Oper.mk _ (Op.assign _) _ _ _ _) _ _; exact xo_assign rfl) | (show OpV _ _ _ _ (Oper.mk _ (Op.call ⟨.builtin .len, _, _⟩) _ _ _ _) _ _; first | exact xo_slen rfl | exact xo_len rfl) | (show OpV _ _ _ _ (Oper.mk _ (Op.unOp _ _ _) _ _ _ _) _ _; exact xo_not rfl) | (show OpV _ _ _ _ (Oper.mk _ (Op.binOp BinOp.lss _ _ _ _) _ _ _ _) _ _; exact xo_lss rfl rfl) | (show OpV _ _ _ _ (Oper.mk _ (Op.binOp BinOp.add _ _ _ _) _ _ _ _) _ _; first | exact xo_add rfl rfl | exact ov_sadd rfl rfl (by first | with_reducible exact fun _ => rfl | with_reducible exact fun h => h | exact fun _ => rfl | exact fun h => h | (intro himp; simp_all; done)) (by first | with_reducible exact fun _ => rfl | with_reducible exact fun h => h | exact fun _ => rfl | exact fun h => h | (intro himp; simp_all; done)) (by intro hcg; first | omega | (simp only [List.length_append, List.length_take, List.length_drop, List.length_cons, List.length_nil, List.length_nil]; omega))) | (show OpV _ _ _ _ (Oper.mk _ (Op.fieldAddr _ _ _) _ _ _ _) _ _; exact xo_fieldAddr rfl) | (show OpV _ _ _ _ (Oper.mk _ (Op.load _ _) _ _ _ _) _ _; first | exact xo_load1 rfl | exact xo_loadS rfl)) ?_ | refine wd_v rfl rfl rfl rfl rfl rfl (by first | ((show OpV _ _ _ _ (Oper.mk _ (Op.call ⟨.value (.func 27), _, _⟩) _ _ _ _) _ _; exact ov_call Tryd.call27 rfl (by intro himp; first | rfl | (simp_all; done)) (by rfl) (fun _ _ h k => h.ext k) (fun hcg w hw => digits_ok hw.laid n (by omega)))) | ((show OpV _ _ _ _ (Oper.mk _ (Op.call ⟨.value (.func 17), _, _⟩) _ _ _ _) _ _; exact ov_call Tryd.call17 rfl (by intro himp; first | rfl | (simp_all; done)) (by rfl) (fun _ _ h k => h.ext k) (fun hcg w hw => rreason_ok hw.laid _))) | fail) ?_ | refine wd_new rfl rfl rfl rfl rfl rfl steady_fresh (or_buildSlice rfl rfl (by first | exact (rfl : _ = some 1) | exact (rfl : _ = some 2) | exact (rfl : _ = some 3) | exact (rfl : _ = some 4) | exact (rfl : _ = some 6) | exact rfl) (fun _ => rfl) rfl rfl rfl (by simp only [cellsAll, Value.cells, List.size_toArray, List.length_cons, List.length_nil, Nat.zero_add, Nat.reduceAdd, and_self, if_true, true_and, Option.map_some, List.cons_append, List.nil_append]; first | done | rfl)) ?_ | refine wd_conv rfl rfl rfl rfl rfl rfl rfl rfl rfl rfl ?_) | (show WD _ _ _ _ _ _ _ _ _; first | refine wd_nil ?_ | refine wd_nilF ?_) | (first | refine wc_seq ?_ | refine wc_region ?_ | refine wl_nil ?_ | refine wn_seq ?_ | refine wn_blk ?_ | refine wc_skip ?_ | refine wc_block ?_ | refine wc_exit rfl ?_ | (show WL _ _ (_ :: _) _ _ _ _; first | refine wl_v rfl rfl rfl (by first | (show OpV _ _ _ _ (Oper.mk _ (Op.move _) _ _ _ _) _ _; exact xo_move rfl) | (show OpV _ _ _ _ (Oper.mk _ (Op.assign _) _ _ _ _) _ _; exact xo_assign rfl) | (show OpV _ _ _ _ (Oper.mk _ (Op.call ⟨.builtin .len, _, _⟩) _ _ _ _) _ _; first | exact xo_slen rfl | exact xo_len rfl) | (show OpV _ _ _ _ (Oper.mk _ (Op.unOp _ _ _) _ _ _ _) _ _; exact xo_not rfl) | (show OpV _ _ _ _ (Oper.mk _ (Op.binOp BinOp.lss _ _ _ _) _ _ _ _) _ _; exact xo_lss rfl rfl) | (show OpV _ _ _ _ (Oper.mk _ (Op.binOp BinOp.add _ _ _ _) _ _ _ _) _ _; first | exact xo_add rfl rfl | exact ov_sadd rfl rfl (by first | with_reducible exact fun _ => rfl | with_reducible exact fun h => h | exact fun _ => rfl | exact fun h => h | (intro himp; simp_all; done)) (by first | with_reducible exact fun _ => rfl | with_reducible exact fun h => h | exact fun _ => rfl | exact fun h => h | (intro himp; simp_all; done)) (by intro hcg; first | omega | (simp only [List.length_append, List.length_take, List.length_drop, List.length_cons, List.length_nil, List.length_nil]; omega))) | (show OpV _ _ _ _ (Oper.mk _ (Op.fieldAddr _ _ _) _ _ _ _) _ _; exact xo_fieldAddr rfl) | (show OpV _ _ _ _ (Oper.mk _ (Op.load _ _) _ _ _ _) _ _; first | exact xo_load1 rfl | exact xo_loadS rfl)) ?_ | refine wl_v rfl rfl rfl (by first | ((show OpV _ _ _ _ (Oper.mk _ (Op.call ⟨.value (.func 27), _, _⟩) _ _ _ _) _ _; exact ov_call Tryd.call27 rfl (by intro himp; first | rfl | (simp_all; done)) (by rfl) (fun _ _ h k => h.ext k) (fun hcg w hw => digits_ok hw.laid n (by omega)))) | ((show OpV _ _ _ _ (Oper.mk _ (Op.call ⟨.value (.func 17), _, _⟩) _ _ _ _) _ _; exact ov_call Tryd.call17 rfl (by intro himp; first | rfl | (simp_all; done)) (by rfl) (fun _ _ h k => h.ext k) (fun hcg w hw => rreason_ok hw.laid _))) | fail) ?_ | refine xl_box rfl (fun _ => ?_)) | refine wc_ret rfl ?_))
  have he : [72, 84, 84, 80, 47, 49, 46, 49, 32] ++ Lib.decDigits n ++ [32] ++ reasonS (n : Int) ++ [13, 10] = headS (n : Int) := by rw [headS, itoa_nat]; rfl
  repeat' (first | (first | refine wc_seq ?_ | refine wc_region ?_ | refine wl_nil ?_ | refine wn_seq ?_ | refine wn_blk ?_ | refine wc_skip ?_ | refine wc_block ?_ | refine wc_exit rfl ?_ | (show WL _ _ (_ :: _) _ _ _ _; first | refine wl_v rfl rfl rfl (by first | (show OpV _ _ _ _ (Oper.mk _ (Op.move _) _ _ _ _) _ _; exact xo_move rfl) | (show OpV _ _ _ _ (Oper.mk _ (Op.assign _) _ _ _ _) _ _; exact xo_assign rfl) | (show OpV _ _ _ _ (Oper.mk _ (Op.call ⟨.builtin .len, _, _⟩) _ _ _ _) _ _; first | exact xo_slen rfl | exact xo_len rfl) | (show OpV _ _ _ _ (Oper.mk _ (Op.unOp _ _ _) _ _ _ _) _ _; exact xo_not rfl) | (show OpV _ _ _ _ (Oper.mk _ (Op.binOp BinOp.lss _ _ _ _) _ _ _ _) _ _; exact xo_lss rfl rfl) | (show OpV _ _ _ _ (Oper.mk _ (Op.binOp BinOp.add _ _ _ _) _ _ _ _) _ _; first | exact xo_add rfl rfl | exact ov_sadd rfl rfl (by first | with_reducible exact fun _ => rfl | with_reducible exact fun h => h | exact fun _ => rfl | exact fun h => h | (intro himp; simp_all; done)) (by first | with_reducible exact fun _ => rfl | with_reducible exact fun h => h | exact fun _ => rfl | exact fun h => h | (intro himp; simp_all; done)) (by intro hcg; first | omega | (simp only [List.length_append, List.length_take, List.length_drop, List.length_cons, List.length_nil, List.length_nil]; omega))) | (show OpV _ _ _ _ (Oper.mk _ (Op.fieldAddr _ _ _) _ _ _ _) _ _; exact xo_fieldAddr rfl) | (show OpV _ _ _ _ (Oper.mk _ (Op.load _ _) _ _ _ _) _ _; first | exact xo_load1 rfl | exact xo_loadS rfl)) ?_ | refine wl_v rfl rfl rfl (by first  | fail) ?_ | refine xl_box rfl (fun _ => ?_)) | refine wc_ret rfl ?_) | (show WC _ (Code.cond _ _ _) _ _ _ _; (refine wc_cond rfl (fun hc => ?_) (fun hc => ?_) <;> (try (simp only [decide_eq_true_eq, decide_eq_false_iff_not, Bool.and_eq_true, Bool.or_eq_true, Bool.and_eq_false_iff, Bool.or_eq_false_iff, Bool.not_eq_true', Bool.not_eq_false', Int.not_lt, Int.not_le] at hc)) <;> (try (exfalso; first | omega | contradiction)))))
  refine wc_loop (α := { i : Nat // i ≤ l.length }) (fun x => [(1, true, .pointer (some ⟨b1, 0, none⟩)), (5, true, str (headS (n : Int) ++ (l.take x.1).flatMap hline)), (6, true, i64 (x.1 : Int))]) (fun _ => St w [] [(b1, .cells [i64 (n : Int), .slice a l.length cap, str bd].toArray 24 (0, 0))] M) (fun x => l.length - x.1) ⟨0, by omega⟩ (by rw [List.take_zero, List.flatMap_nil, List.append_nil, ← he]; exact (by first | exact Sub.nil _ | (repeat (first | exact Sub.nil _ | refine Sub.cons (by first | rfl | (simp [look]; done)) ?_)))) (fun _ h => h) ?_
  rintro ⟨i, hi⟩
  dsimp only
  have hfl := flat_length hb i hi
  rcases Nat.lt_or_ge i l.length with hlt | hge
  · have hbi : (l.getD i default).1.length ≤ 140737488355328 ∧ (l.getD i default).2.length ≤ 140737488355328 := by
      have : l.getD i default = l[i] := by simp [hlt]
      rw [this]; exact hb _ (List.getElem_mem _)
    repeat' (first | (first | refine wc_seq ?_ | refine wc_region ?_ | refine wl_nil ?_ | refine wn_seq ?_ | refine wn_blk ?_ | refine wc_skip ?_ | refine wc_block ?_ | refine wc_exit rfl ?_ | (show WL _ _ (_ :: _) _ _ _ _; first | refine wl_v rfl rfl rfl (by first | (show OpV _ _ _ _ (Oper.mk _ (Op.move _) _ _ _ _) _ _; exact xo_move rfl) | (show OpV _ _ _ _ (Oper.mk _ (Op.assign _) _ _ _ _) _ _; exact xo_assign rfl) | (show OpV _ _ _ _ (Oper.mk _ (Op.call ⟨.builtin .len, _, _⟩) _ _ _ _) _ _; first | exact xo_slen rfl | exact xo_len rfl) | (show OpV _ _ _ _ (Oper.mk _ (Op.unOp _ _ _) _ _ _ _) _ _; exact xo_not rfl) | (show OpV _ _ _ _ (Oper.mk _ (Op.binOp BinOp.lss _ _ _ _) _ _ _ _) _ _; exact xo_lss rfl rfl) | (show OpV _ _ _ _ (Oper.mk _ (Op.binOp BinOp.add _ _ _ _) _ _ _ _) _ _; first | exact xo_add rfl rfl | exact ov_sadd rfl rfl (by first | with_reducible exact fun _ => rfl | with_reducible exact fun h => h | exact fun _ => rfl | exact fun h => h | (intro himp; simp_all; done)) (by first | with_reducible exact fun _ => rfl | with_reducible exact fun h => h | exact fun _ => rfl | exact fun h => h | (intro himp; simp_all; done)) (by intro hcg; first | omega | (simp only [List.length_append, List.length_take, List.length_drop, List.length_cons, List.length_nil, List.length_nil]; omega))) | (show OpV _ _ _ _ (Oper.mk _ (Op.fieldAddr _ _ _) _ _ _ _) _ _; exact xo_fieldAddr rfl) | (show OpV _ _ _ _ (Oper.mk _ (Op.load _ _) _ _ _ _) _ _; first | exact xo_load1 rfl | exact xo_loadS rfl)) ?_ | refine wl_v rfl rfl rfl (by first  | fail) ?_ | refine xl_box rfl (fun _ => ?_)) | refine wc_ret rfl ?_) | (show WC _ (Code.cond _ _ _) _ _ _ _; (refine wc_cond rfl (fun hc => ?_) (fun hc => ?_) <;> (try (simp only [decide_eq_true_eq, decide_eq_false_iff_not, Bool.and_eq_true, Bool.or_eq_true, Bool.and_eq_false_iff, Bool.or_eq_false_iff, Bool.not_eq_true', Bool.not_eq_false', Int.not_lt, Int.not_le] at hc)) <;> (try (exfalso; first | omega | contradiction)))))
    refine wc_weak (E' := [(1, true, .pointer (some ⟨b1, 0, none⟩)), (5, true, str (headS (n : Int) ++ (l.take i).flatMap hline)), (6, true, i64 (i : Int))]) (by first | exact Sub.nil _ | (repeat (first | exact Sub.nil _ | refine Sub.cons (by first | rfl | (simp [look]; done)) ?_))) (fun _ h => h) ?_
    have hstep : headS (n : Int) ++ (l.take (i + 1)).flatMap hline = headS (n : Int) ++ (l.take i).flatMap hline ++ (l.getD i default).1 ++ [58, 32] ++ (l.getD i default).2 ++ [13, 10] := by rw [flat_succ hlt, hline]; simp only [List.append_assoc]
    refine wc_draw 17 (by kernel_rfl) rfl (by kernel_rfl) (fun _ _ h k => h.ext k) ?_
    repeat' (first | (show WD _ _ (_ :: _) _ _ _ _ _ _; first | refine wd_v rfl rfl rfl rfl rfl rfl (by first | (show OpV _ _ _ _ (Oper.mk _ (Op.move _) _ _ _ _) _ _; exact xo_move rfl) | (show OpV _ _ _ _ (Oper.mk _ (Op.assign _) _ _ _ _) _ _; exact xo_assign rfl) | (show OpV _ _ _ _ (Oper.mk _ (Op.call ⟨.builtin .len, _, _⟩) _ _ _ _) _ _; first | exact xo_slen rfl | exact xo_len rfl) | (show OpV _ _ _ _ (Oper.mk _ (Op.unOp _ _ _) _ _ _ _) _ _; exact xo_not rfl) | (show OpV _ _ _ _ (Oper.mk _ (Op.binOp BinOp.lss _ _ _ _) _ _ _ _) _ _; exact xo_lss rfl rfl) | (show OpV _ _ _ _ (Oper.mk _ (Op.binOp BinOp.add _ _ _ _) _ _ _ _) _ _; first | exact xo_add rfl rfl | exact ov_sadd rfl rfl (by first | with_reducible exact fun _ => rfl | with_reducible exact fun h => h | exact fun _ => rfl | exact fun h => h | (intro himp; simp_all; done)) (by first | with_reducible exact fun _ => rfl | with_reducible exact fun h => h | exact fun _ => rfl | exact fun h => h | (intro himp; simp_all; done)) (by intro hcg; first | omega | (simp only [List.length_append, List.length_take, List.length_drop, List.length_cons, List.length_nil, List.length_nil]; omega))) | (show OpV _ _ _ _ (Oper.mk _ (Op.fieldAddr _ _ _) _ _ _ _) _ _; exact xo_fieldAddr rfl) | (show OpV _ _ _ _ (Oper.mk _ (Op.load _ _) _ _ _ _) _ _; first | exact xo_load1 rfl | exact xo_loadS rfl)) ?_ | refine wd_v rfl rfl rfl rfl rfl rfl (by first | (show OpV _ _ _ _ (Oper.mk _ (Op.indexAddr _ _ _) _ _ _ _) _ _; exact ov_indexAddr rfl rfl (by (fail_if_success (with_reducible show (987654321 : Int) = _)); repeat' (first | with_reducible exact nc_cast | with_reducible exact nc_lit | apply nc_add | apply nc_div | apply nc_mod | apply nc_mul | refine nc_sub (m := _) (n := _) nc_cast nc_lit (by omega) | refine nc_sub (m := _) (n := _) nc_cast nc_cast (by omega))) (by first | with_reducible exact fun _ => rfl | with_reducible exact fun h => h | exact fun _ => rfl | exact fun h => h | (intro himp; simp_all; done)) (by first | with_reducible exact fun _ => rfl | with_reducible exact fun h => h | exact fun _ => rfl | exact fun h => h | (intro himp; simp_all; done)) rfl (by first | exact (rfl : _ = some 1) | exact (rfl : _ = some 2) | exact (rfl : _ = some 3) | exact (rfl : _ = some 4) | exact (rfl : _ = some 6) | exact rfl) (fun hcg => (h3 (by intro h; subst h; simp only [List.length_nil] at *; omega)).1) (by intro hcg; first | omega | (simp at hcg; omega))) | (show OpV _ _ _ _ (Oper.mk _ (Op.load _ _) _ _ _ _) _ _; first | exact ov_load1M rfl (by first | with_reducible exact fun _ => rfl | with_reducible exact fun h => h | exact fun _ => rfl | exact fun h => h | (intro himp; simp_all; done)) rfl rfl (fun hcg => (h3 (by intro h; subst h; simp only [List.length_nil] at *; omega)).2) (fun hcg => (h4 i (by first | omega | (simp at hcg; omega))).1) | exact ov_load1M rfl (by first | with_reducible exact fun _ => rfl | with_reducible exact fun h => h | exact fun _ => rfl | exact fun h => h | (intro himp; simp_all; done)) rfl rfl (fun hcg => (h3 (by intro h; subst h; simp only [List.length_nil] at *; omega)).2) (fun hcg => (h4 i (by first | omega | (simp at hcg; omega))).2)) | fail) ?_ | refine wd_new rfl rfl rfl rfl rfl rfl steady_fresh (or_buildSlice rfl rfl (by first | exact (rfl : _ = some 1) | exact (rfl : _ = some 2) | exact (rfl : _ = some 3) | exact (rfl : _ = some 4) | exact (rfl : _ = some 6) | exact rfl) (fun _ => rfl) rfl rfl rfl (by simp only [cellsAll, Value.cells, List.size_toArray, List.length_cons, List.length_nil, Nat.zero_add, Nat.reduceAdd, and_self, if_true, true_and, Option.map_some, List.cons_append, List.nil_append]; first | done | rfl)) ?_ | refine wd_conv rfl rfl rfl rfl rfl rfl rfl rfl rfl rfl ?_) | (show WD _ _ _ _ _ _ _ _ _; first | refine wd_nil ?_ | refine wd_nilF ?_) | (first | refine wc_seq ?_ | refine wc_region ?_ | refine wl_nil ?_ | refine wn_seq ?_ | refine wn_blk ?_ | refine wc_skip ?_ | refine wc_block ?_ | refine wc_exit rfl ?_ | (show WL _ _ (_ :: _) _ _ _ _; first | refine wl_v rfl rfl rfl (by first | (show OpV _ _ _ _ (Oper.mk _ (Op.move _) _ _ _ _) _ _; exact xo_move rfl) | (show OpV _ _ _ _ (Oper.mk _ (Op.assign _) _ _ _ _) _ _; exact xo_assign rfl) | (show OpV _ _ _ _ (Oper.mk _ (Op.call ⟨.builtin .len, _, _⟩) _ _ _ _) _ _; first | exact xo_slen rfl | exact xo_len rfl) | (show OpV _ _ _ _ (Oper.mk _ (Op.unOp _ _ _) _ _ _ _) _ _; exact xo_not rfl) | (show OpV _ _ _ _ (Oper.mk _ (Op.binOp BinOp.lss _ _ _ _) _ _ _ _) _ _; exact xo_lss rfl rfl) | (show OpV _ _ _ _ (Oper.mk _ (Op.binOp BinOp.add _ _ _ _) _ _ _ _) _ _; first | exact xo_add rfl rfl | exact ov_sadd rfl rfl (by first | with_reducible exact fun _ => rfl | with_reducible exact fun h => h | exact fun _ => rfl | exact fun h => h | (intro himp; simp_all; done)) (by first | with_reducible exact fun _ => rfl | with_reducible exact fun h => h | exact fun _ => rfl | exact fun h => h | (intro himp; simp_all; done)) (by intro hcg; first | omega | (simp only [List.length_append, List.length_take, List.length_drop, List.length_cons, List.length_nil, List.length_nil]; omega))) | (show OpV _ _ _ _ (Oper.mk _ (Op.fieldAddr _ _ _) _ _ _ _) _ _; exact xo_fieldAddr rfl) | (show OpV _ _ _ _ (Oper.mk _ (Op.load _ _) _ _ _ _) _ _; first | exact xo_load1 rfl | exact xo_loadS rfl)) ?_ | refine wl_v rfl rfl rfl (by first | (show OpV _ _ _ _ (Oper.mk _ (Op.indexAddr _ _ _) _ _ _ _) _ _; exact ov_indexAddr rfl rfl (by (fail_if_success (with_reducible show (987654321 : Int) = _)); repeat' (first | with_reducible exact nc_cast | with_reducible exact nc_lit | apply nc_add | apply nc_div | apply nc_mod | apply nc_mul | refine nc_sub (m := _) (n := _) nc_cast nc_lit (by omega) | refine nc_sub (m := _) (n := _) nc_cast nc_cast (by omega))) (by first | with_reducible exact fun _ => rfl | with_reducible exact fun h => h | exact fun _ => rfl | exact fun h => h | (intro himp; simp_all; done)) (by first | with_reducible exact fun _ => rfl | with_reducible exact fun h => h | exact fun _ => rfl | exact fun h => h | (intro himp; simp_all; done)) rfl (by first | exact (rfl : _ = some 1) | exact (rfl : _ = some 2) | exact (rfl : _ = some 3) | exact (rfl : _ = some 4) | exact (rfl : _ = some 6) | exact rfl) (fun hcg => (h3 (by intro h; subst h; simp only [List.length_nil] at *; omega)).1) (by intro hcg; first | omega | (simp at hcg; omega))) | (show OpV _ _ _ _ (Oper.mk _ (Op.load _ _) _ _ _ _) _ _; first | exact ov_load1M rfl (by first | with_reducible exact fun _ => rfl | with_reducible exact fun h => h | exact fun _ => rfl | exact fun h => h | (intro himp; simp_all; done)) rfl rfl (fun hcg => (h3 (by intro h; subst h; simp only [List.length_nil] at *; omega)).2) (fun hcg => (h4 i (by first | omega | (simp at hcg; omega))).1) | exact ov_load1M rfl (by first | with_reducible exact fun _ => rfl | with_reducible exact fun h => h | exact fun _ => rfl | exact fun h => h | (intro himp; simp_all; done)) rfl rfl (fun hcg => (h3 (by intro h; subst h; simp only [List.length_nil] at *; omega)).2) (fun hcg => (h4 i (by first | omega | (simp at hcg; omega))).2)) | fail) ?_ | refine xl_box rfl (fun _ => ?_)) | refine wc_ret rfl ?_))
    refine wn_cut ⟨i + 1, by omega⟩ (by show l.length - (i + 1) < l.length - i; omega) (by repeat (first | exact Sub.nil _ | refine Sub.cons (by first | rfl | (simp only [look]; rw [hstep]; rfl) | (simp only [look]; rw [hstep]; simp; done)) ?_)) (fun _ h => h.drop (by repeat (first | exact List.Sublist.refl _ | apply List.Sublist.cons)))
  · repeat' (first | (first | refine wc_seq ?_ | refine wc_region ?_ | refine wl_nil ?_ | refine wn_seq ?_ | refine wn_blk ?_ | refine wc_skip ?_ | refine wc_block ?_ | refine wc_exit rfl ?_ | (show WL _ _ (_ :: _) _ _ _ _; first | refine wl_v rfl rfl rfl (by first | (show OpV _ _ _ _ (Oper.mk _ (Op.move _) _ _ _ _) _ _; exact xo_move rfl) | (show OpV _ _ _ _ (Oper.mk _ (Op.assign _) _ _ _ _) _ _; exact xo_assign rfl) | (show OpV _ _ _ _ (Oper.mk _ (Op.call ⟨.builtin .len, _, _⟩) _ _ _ _) _ _; first | exact xo_slen rfl | exact xo_len rfl) | (show OpV _ _ _ _ (Oper.mk _ (Op.unOp _ _ _) _ _ _ _) _ _; exact xo_not rfl) | (show OpV _ _ _ _ (Oper.mk _ (Op.binOp BinOp.lss _ _ _ _) _ _ _ _) _ _; exact xo_lss rfl rfl) | (show OpV _ _ _ _ (Oper.mk _ (Op.binOp BinOp.add _ _ _ _) _ _ _ _) _ _; first | exact xo_add rfl rfl | exact ov_sadd rfl rfl (by first | with_reducible exact fun _ => rfl | with_reducible exact fun h => h | exact fun _ => rfl | exact fun h => h | (intro himp; simp_all; done)) (by first | with_reducible exact fun _ => rfl | with_reducible exact fun h => h | exact fun _ => rfl | exact fun h => h | (intro himp; simp_all; done)) (by intro hcg; first | omega | (simp only [List.length_append, List.length_take, List.length_drop, List.length_cons, List.length_nil, List.length_nil]; omega))) | (show OpV _ _ _ _ (Oper.mk _ (Op.fieldAddr _ _ _) _ _ _ _) _ _; exact xo_fieldAddr rfl) | (show OpV _ _ _ _ (Oper.mk _ (Op.load _ _) _ _ _ _) _ _; first | exact xo_load1 rfl | exact xo_loadS rfl)) ?_ | refine wl_v rfl rfl rfl (by first  | fail) ?_ | refine xl_box rfl (fun _ => ?_)) | refine wc_ret rfl ?_) | (show WC _ (Code.cond _ _ _) _ _ _ _; (refine wc_cond rfl (fun hc => ?_) (fun hc => ?_) <;> (try (simp only [decide_eq_true_eq, decide_eq_false_iff_not, Bool.and_eq_true, Bool.or_eq_true, Bool.and_eq_false_iff, Bool.or_eq_false_iff, Bool.not_eq_true', Bool.not_eq_false', Int.not_lt, Int.not_le] at hc)) <;> (try (exfalso; first | omega | contradiction)))))
    rw [List.take_of_length_le (by omega)] at *
    have hdl : (Lib.decDigits bd.length).length ≤ bd.length + 1 := dec_length _
    refine wc_weak (E' := [(1, true, .pointer (some ⟨b1, 0, none⟩)), (5, true, str (headS (n : Int) ++ l.flatMap hline))]) (by first | exact Sub.nil _ | (repeat (first | exact Sub.nil _ | refine Sub.cons (by first | rfl | (simp [look]; done)) ?_))) (fun _ h => h) ?_
    refine wc_draw 11 (by kernel_rfl) rfl (by kernel_rfl) (fun _ _ h k => h.ext k) ?_
    repeat' (first | (show WD _ _ (_ :: _) _ _ _ _ _ _; first | refine wd_v rfl rfl rfl rfl rfl rfl (by first | (show OpV _ _ _ _ (Oper.mk _ (Op.move _) _ _ _ _) _ _; exact xo_move rfl) | (show OpV _ _ _ _ (Oper.mk _ (Op.assign _) _ _ _ _) _ _; exact xo_assign rfl) | (show OpV _ _ _ _ (Oper.mk _ (Op.call ⟨.builtin .len, _, _⟩) _ _ _ _) _ _; first | exact xo_slen rfl | exact xo_len rfl) | (show OpV _ _ _ _ (Oper.mk _ (Op.unOp _ _ _) _ _ _ _) _ _; exact xo_not rfl) | (show OpV _ _ _ _ (Oper.mk _ (Op.binOp BinOp.lss _ _ _ _) _ _ _ _) _ _; exact xo_lss rfl rfl) | (show OpV _ _ _ _ (Oper.mk _ (Op.binOp BinOp.add _ _ _ _) _ _ _ _) _ _; first | exact xo_add rfl rfl | exact ov_sadd rfl rfl (by first | with_reducible exact fun _ => rfl | with_reducible exact fun h => h | exact fun _ => rfl | exact fun h => h | (intro himp; simp_all; done)) (by first | with_reducible exact fun _ => rfl | with_reducible exact fun h => h | exact fun _ => rfl | exact fun h => h | (intro himp; simp_all; done)) (by intro hcg; first | omega | (simp only [List.length_append, List.length_take, List.length_drop, List.length_cons, List.length_nil, List.length_nil]; omega))) | (show OpV _ _ _ _ (Oper.mk _ (Op.fieldAddr _ _ _) _ _ _ _) _ _; exact xo_fieldAddr rfl) | (show OpV _ _ _ _ (Oper.mk _ (Op.load _ _) _ _ _ _) _ _; first | exact xo_load1 rfl | exact xo_loadS rfl)) ?_ | refine wd_v rfl rfl rfl rfl rfl rfl (by first | ((show OpV _ _ _ _ (Oper.mk _ (Op.call ⟨.value (.func 27), _, _⟩) _ _ _ _) _ _; exact ov_call Tryd.call27 rfl (by intro himp; first | rfl | (simp_all; done)) (by rfl) (fun _ _ h k => h.ext k) (fun hcg w hw => digits_ok hw.laid bd.length (by omega)))) | fail) ?_ | refine wd_new rfl rfl rfl rfl rfl rfl steady_fresh (or_buildSlice rfl rfl (by first | exact (rfl : _ = some 1) | exact (rfl : _ = some 2) | exact (rfl : _ = some 3) | exact (rfl : _ = some 4) | exact (rfl : _ = some 6) | exact rfl) (fun _ => rfl) rfl rfl rfl (by simp only [cellsAll, Value.cells, List.size_toArray, List.length_cons, List.length_nil, Nat.zero_add, Nat.reduceAdd, and_self, if_true, true_and, Option.map_some, List.cons_append, List.nil_append]; first | done | rfl)) ?_ | refine wd_conv rfl rfl rfl rfl rfl rfl rfl rfl rfl rfl ?_) | (show WD _ _ _ _ _ _ _ _ _; first | refine wd_nil ?_ | refine wd_nilF ?_) | (first | refine wc_seq ?_ | refine wc_region ?_ | refine wl_nil ?_ | refine wn_seq ?_ | refine wn_blk ?_ | refine wc_skip ?_ | refine wc_block ?_ | refine wc_exit rfl ?_ | (show WL _ _ (_ :: _) _ _ _ _; first | refine wl_v rfl rfl rfl (by first | (show OpV _ _ _ _ (Oper.mk _ (Op.move _) _ _ _ _) _ _; exact xo_move rfl) | (show OpV _ _ _ _ (Oper.mk _ (Op.assign _) _ _ _ _) _ _; exact xo_assign rfl) | (show OpV _ _ _ _ (Oper.mk _ (Op.call ⟨.builtin .len, _, _⟩) _ _ _ _) _ _; first | exact xo_slen rfl | exact xo_len rfl) | (show OpV _ _ _ _ (Oper.mk _ (Op.unOp _ _ _) _ _ _ _) _ _; exact xo_not rfl) | (show OpV _ _ _ _ (Oper.mk _ (Op.binOp BinOp.lss _ _ _ _) _ _ _ _) _ _; exact xo_lss rfl rfl) | (show OpV _ _ _ _ (Oper.mk _ (Op.binOp BinOp.add _ _ _ _) _ _ _ _) _ _; first | exact xo_add rfl rfl | exact ov_sadd rfl rfl (by first | with_reducible exact fun _ => rfl | with_reducible exact fun h => h | exact fun _ => rfl | exact fun h => h | (intro himp; simp_all; done)) (by first | with_reducible exact fun _ => rfl | with_reducible exact fun h => h | exact fun _ => rfl | exact fun h => h | (intro himp; simp_all; done)) (by intro hcg; first | omega | (simp only [List.length_append, List.length_take, List.length_drop, List.length_cons, List.length_nil, List.length_nil]; omega))) | (show OpV _ _ _ _ (Oper.mk _ (Op.fieldAddr _ _ _) _ _ _ _) _ _; exact xo_fieldAddr rfl) | (show OpV _ _ _ _ (Oper.mk _ (Op.load _ _) _ _ _ _) _ _; first | exact xo_load1 rfl | exact xo_loadS rfl)) ?_ | refine wl_v rfl rfl rfl (by first | ((show OpV _ _ _ _ (Oper.mk _ (Op.call ⟨.value (.func 27), _, _⟩) _ _ _ _) _ _; exact ov_call Tryd.call27 rfl (by intro himp; first | rfl | (simp_all; done)) (by rfl) (fun _ _ h k => h.ext k) (fun hcg w hw => digits_ok hw.laid bd.length (by omega)))) | fail) ?_ | refine xl_box rfl (fun _ => ?_)) | refine wc_ret rfl ?_))
    refine wr_tmp2 rfl rfl rfl ?_ ?_
    · rw [if_pos hR, writeR_eq, itoa_nat]; rfl
    · rw [if_pos hR]

theorem texts_ok (hM : Laid M w) {u v : Value} {l m : List (List UInt8)} (hu : SlS M u l) (hv : SlS M v m) : Calls Tryd.prog 18 #[u, v] w (RetE w (.bool (decide (l = m)))) := by
  obtain ⟨a, cap, b, o, cs, T, fz, rfl, h1, h2, h3, h4⟩ := hu.open
  obtain ⟨a', cap', b', o', cs', T', fz', rfl, h1', h2', h3', h4'⟩ := hv.open
  refine calls_st (l := [.slice a l.length cap, .slice a' m.length cap']) hM Tryd.func18 rfl rfl rfl (E0 := [(0, true, .slice a l.length cap), (1, true, .slice a' m.length cap')]) (params_cons rfl (params_cons rfl (params_nil _))) ?_
  repeat' (first | (first | refine wc_seq ?_ | refine wc_region ?_ | refine wl_nil ?_ | refine wn_seq ?_ | refine wn_blk ?_ | refine wc_skip ?_ | refine wc_block ?_ | refine wc_exit rfl ?_ | (show WL _ _ (_ :: _) _ _ _ _; first | refine wl_v rfl rfl rfl (by first | (show OpV _ _ _ _ (Oper.mk _ (Op.move _) _ _ _ _) _ _; exact xo_move rfl) | (show OpV _ _ _ _ (Oper.mk _ (Op.assign _) _ _ _ _) _ _; exact xo_assign rfl) | (show OpV _ _ _ _ (Oper.mk _ (Op.call ⟨.builtin .len, _, _⟩) _ _ _ _) _ _; first | exact xo_slen rfl | exact xo_len rfl) | (show OpV _ _ _ _ (Oper.mk _ (Op.binOp BinOp.neq _ _ _ _) _ _ _ _) _ _; first | exact xo_neq rfl rfl | exact xo_sneq rfl rfl | exact xo_bneq rfl rfl | exact xo_aneq rfl rfl) | (show OpV _ _ _ _ (Oper.mk _ (Op.binOp BinOp.lss _ _ _ _) _ _ _ _) _ _; exact xo_lss rfl rfl) | (show OpV _ _ _ _ (Oper.mk _ (Op.binOp BinOp.add _ _ _ _) _ _ _ _) _ _; first | exact xo_add rfl rfl | exact ov_sadd rfl rfl (by first | with_reducible exact fun _ => rfl | with_reducible exact fun h => h | exact fun _ => rfl | exact fun h => h | (intro himp; simp_all; done)) (by first | with_reducible exact fun _ => rfl | with_reducible exact fun h => h | exact fun _ => rfl | exact fun h => h | (intro himp; simp_all; done)) (by intro hcg; first | omega | (simp only [List.length_append, List.length_take, List.length_drop, List.length_cons, List.length_nil, List.length_nil]; omega))) | (show OpV _ _ _ _ (Oper.mk _ (Op.load _ _) _ _ _ _) _ _; first | exact xo_load1 rfl | exact xo_loadS rfl)) ?_ | refine wl_v rfl rfl rfl (by first  | fail) ?_) | refine wc_ret rfl ?_) | (show WC _ (Code.cond _ _ _) _ _ _ _; (refine wc_cond rfl (fun hc => ?_) (fun hc => ?_) <;> (try (simp only [decide_eq_true_eq, decide_eq_false_iff_not, Bool.and_eq_true, Bool.or_eq_true, Bool.and_eq_false_iff, Bool.or_eq_false_iff, Bool.not_eq_true', Bool.not_eq_false', Int.not_lt, Int.not_le] at hc)) <;> (try (exfalso; first | omega | contradiction)))))
  · refine wr_tmp rfl rfl (congrArg Value.bool ?_)
    symm
    rw [decide_eq_false_iff_not]
    rintro rfl; exact hc rfl
  · refine wc_loop (α := { i : Nat // i ≤ l.length ∧ ∀ j, j < i → l.getD j default = m.getD j default }) (fun x => [(0, true, .slice a l.length cap), (1, true, .slice a' m.length cap'), (5, true, i64 (x.1 : Int))]) (fun x => St w [] [] M) (fun x => l.length - x.1) ⟨0, by omega, by intro j hj; omega⟩ (by first | exact Sub.nil _ | (repeat (first | exact Sub.nil _ | refine Sub.cons (by first | rfl | (simp [look]; done)) ?_))) (fun _ h => h) ?_
    rintro ⟨i, hi, hall⟩
    dsimp only
    repeat' (first | (first | refine wc_seq ?_ | refine wc_region ?_ | refine wl_nil ?_ | refine wn_seq ?_ | refine wn_blk ?_ | refine wc_skip ?_ | refine wc_block ?_ | refine wc_exit rfl ?_ | (show WL _ _ (_ :: _) _ _ _ _; first | refine wl_v rfl rfl rfl (by first | (show OpV _ _ _ _ (Oper.mk _ (Op.move _) _ _ _ _) _ _; exact xo_move rfl) | (show OpV _ _ _ _ (Oper.mk _ (Op.assign _) _ _ _ _) _ _; exact xo_assign rfl) | (show OpV _ _ _ _ (Oper.mk _ (Op.call ⟨.builtin .len, _, _⟩) _ _ _ _) _ _; first | exact xo_slen rfl | exact xo_len rfl) | (show OpV _ _ _ _ (Oper.mk _ (Op.binOp BinOp.neq _ _ _ _) _ _ _ _) _ _; first | exact xo_neq rfl rfl | exact xo_sneq rfl rfl | exact xo_bneq rfl rfl | exact xo_aneq rfl rfl) | (show OpV _ _ _ _ (Oper.mk _ (Op.binOp BinOp.lss _ _ _ _) _ _ _ _) _ _; exact xo_lss rfl rfl) | (show OpV _ _ _ _ (Oper.mk _ (Op.binOp BinOp.add _ _ _ _) _ _ _ _) _ _; first | exact xo_add rfl rfl | exact ov_sadd rfl rfl (by first | with_reducible exact fun _ => rfl | with_reducible exact fun h => h | exact fun _ => rfl | exact fun h => h | (intro himp; simp_all; done)) (by first | with_reducible exact fun _ => rfl | with_reducible exact fun h => h | exact fun _ => rfl | exact fun h => h | (intro himp; simp_all; done)) (by intro hcg; first | omega | (simp only [List.length_append, List.length_take, List.length_drop, List.length_cons, List.length_nil, List.length_nil]; omega))) | (show OpV _ _ _ _ (Oper.mk _ (Op.load _ _) _ _ _ _) _ _; first | exact xo_load1 rfl | exact xo_loadS rfl)) ?_ | refine wl_v rfl rfl rfl (by first  | fail) ?_) | refine wc_ret rfl ?_) | (show WC _ (Code.cond _ _ _) _ _ _ _; (refine wc_cond rfl (fun hc => ?_) (fun hc => ?_) <;> (try (simp only [decide_eq_true_eq, decide_eq_false_iff_not, Bool.and_eq_true, Bool.or_eq_true, Bool.and_eq_false_iff, Bool.or_eq_false_iff, Bool.not_eq_true', Bool.not_eq_false', Int.not_lt, Int.not_le] at hc)) <;> (try (exfalso; first | omega | contradiction)))))
    · refine wc_weak (E' := [(0, true, .slice a l.length cap), (1, true, .slice a' m.length cap'), (5, true, i64 (i : Int))]) (by first | exact Sub.nil _ | (repeat (first | exact Sub.nil _ | refine Sub.cons (by first | rfl | (simp [look]; done)) ?_))) (fun _ h => h) ?_
      refine wc_draw 9 (by kernel_rfl) rfl (by kernel_rfl) (fun _ _ h k => h.ext k) ?_
      repeat' (first | (show WD _ _ (_ :: _) _ _ _ _ _ _; first | refine wd_v rfl rfl rfl rfl rfl rfl (by first | (show OpV _ _ _ _ (Oper.mk _ (Op.move _) _ _ _ _) _ _; exact xo_move rfl) | (show OpV _ _ _ _ (Oper.mk _ (Op.assign _) _ _ _ _) _ _; exact xo_assign rfl) | (show OpV _ _ _ _ (Oper.mk _ (Op.call ⟨.builtin .len, _, _⟩) _ _ _ _) _ _; first | exact xo_slen rfl | exact xo_len rfl) | (show OpV _ _ _ _ (Oper.mk _ (Op.binOp BinOp.neq _ _ _ _) _ _ _ _) _ _; first | exact xo_neq rfl rfl | exact xo_sneq rfl rfl | exact xo_bneq rfl rfl | exact xo_aneq rfl rfl) | (show OpV _ _ _ _ (Oper.mk _ (Op.binOp BinOp.lss _ _ _ _) _ _ _ _) _ _; exact xo_lss rfl rfl) | (show OpV _ _ _ _ (Oper.mk _ (Op.binOp BinOp.add _ _ _ _) _ _ _ _) _ _; first | exact xo_add rfl rfl | exact ov_sadd rfl rfl (by first | with_reducible exact fun _ => rfl | with_reducible exact fun h => h | exact fun _ => rfl | exact fun h => h | (intro himp; simp_all; done)) (by first | with_reducible exact fun _ => rfl | with_reducible exact fun h => h | exact fun _ => rfl | exact fun h => h | (intro himp; simp_all; done)) (by intro hcg; first | omega | (simp only [List.length_append, List.length_take, List.length_drop, List.length_cons, List.length_nil, List.length_nil]; omega))) | (show OpV _ _ _ _ (Oper.mk _ (Op.load _ _) _ _ _ _) _ _; first | exact xo_load1 rfl | exact xo_loadS rfl)) ?_ | refine wd_v rfl rfl rfl rfl rfl rfl (by first | (show OpV _ _ _ _ (Oper.mk _ (Op.indexAddr _ _ _) _ _ _ _) _ _; first | exact ov_indexAddr rfl rfl (by (fail_if_success (with_reducible show (987654321 : Int) = _)); repeat' (first | with_reducible exact nc_cast | with_reducible exact nc_lit | apply nc_add | apply nc_div | apply nc_mod | apply nc_mul | refine nc_sub (m := _) (n := _) nc_cast nc_lit (by omega) | refine nc_sub (m := _) (n := _) nc_cast nc_cast (by omega))) (by first | with_reducible exact fun _ => rfl | with_reducible exact fun h => h | exact fun _ => rfl | exact fun h => h | (intro himp; simp_all; done)) (by first | with_reducible exact fun _ => rfl | with_reducible exact fun h => h | exact fun _ => rfl | exact fun h => h | (intro himp; simp_all; done)) rfl (by first | exact (rfl : _ = some 1) | exact (rfl : _ = some 2) | exact (rfl : _ = some 3) | exact (rfl : _ = some 4) | exact (rfl : _ = some 6) | exact rfl) (fun hcg => (h3 (by intro h; subst h; simp only [List.length_nil] at *; omega)).1) (by intro hcg; first | omega | (simp at hcg; omega)) | exact ov_indexAddr rfl rfl (by (fail_if_success (with_reducible show (987654321 : Int) = _)); repeat' (first | with_reducible exact nc_cast | with_reducible exact nc_lit | apply nc_add | apply nc_div | apply nc_mod | apply nc_mul | refine nc_sub (m := _) (n := _) nc_cast nc_lit (by omega) | refine nc_sub (m := _) (n := _) nc_cast nc_cast (by omega))) (by first | with_reducible exact fun _ => rfl | with_reducible exact fun h => h | exact fun _ => rfl | exact fun h => h | (intro himp; simp_all; done)) (by first | with_reducible exact fun _ => rfl | with_reducible exact fun h => h | exact fun _ => rfl | exact fun h => h | (intro himp; simp_all; done)) rfl (by first | exact (rfl : _ = some 1) | exact (rfl : _ = some 2) | exact (rfl : _ = some 3) | exact (rfl : _ = some 4) | exact (rfl : _ = some 6) | exact rfl) (fun hcg => (h3' (by intro h; subst h; simp only [List.length_nil] at *; omega)).1) (by intro hcg; first | omega | (simp at hcg; omega))) | (show OpV _ _ _ _ (Oper.mk _ (Op.load _ _) _ _ _ _) _ _; first | exact ov_load1M rfl (by first | with_reducible exact fun _ => rfl | with_reducible exact fun h => h | exact fun _ => rfl | exact fun h => h | (intro himp; simp_all; done)) rfl rfl (fun hcg => (h3 (by intro h; subst h; simp only [List.length_nil] at *; omega)).2) (fun hcg => h4 i (by omega)) | exact ov_load1M rfl (by first | with_reducible exact fun _ => rfl | with_reducible exact fun h => h | exact fun _ => rfl | exact fun h => h | (intro himp; simp_all; done)) rfl rfl (fun hcg => (h3' (by intro h; subst h; simp only [List.length_nil] at *; omega)).2) (fun hcg => h4' i (by omega))) | fail) ?_ | refine wd_new rfl rfl rfl rfl rfl rfl steady_fresh (or_buildSlice rfl rfl (by first | exact (rfl : _ = some 1) | exact (rfl : _ = some 2) | exact (rfl : _ = some 3) | exact (rfl : _ = some 4) | exact (rfl : _ = some 6) | exact rfl) (fun _ => rfl) rfl rfl rfl (by simp only [cellsAll, Value.cells, List.size_toArray, List.length_cons, List.length_nil, Nat.zero_add, Nat.reduceAdd, and_self, if_true, true_and, Option.map_some, List.cons_append, List.nil_append]; first | done | rfl)) ?_ | refine wd_conv rfl rfl rfl rfl rfl rfl rfl rfl rfl rfl ?_) | (show WD _ _ _ _ _ _ _ _ _; first | refine wd_nil ?_ | refine wd_nilF ?_) | (first | refine wc_seq ?_ | refine wc_region ?_ | refine wl_nil ?_ | refine wn_seq ?_ | refine wn_blk ?_ | refine wc_skip ?_ | refine wc_block ?_ | refine wc_exit rfl ?_ | (show WL _ _ (_ :: _) _ _ _ _; first | refine wl_v rfl rfl rfl (by first | (show OpV _ _ _ _ (Oper.mk _ (Op.move _) _ _ _ _) _ _; exact xo_move rfl) | (show OpV _ _ _ _ (Oper.mk _ (Op.assign _) _ _ _ _) _ _; exact xo_assign rfl) | (show OpV _ _ _ _ (Oper.mk _ (Op.call ⟨.builtin .len, _, _⟩) _ _ _ _) _ _; first | exact xo_slen rfl | exact xo_len rfl) | (show OpV _ _ _ _ (Oper.mk _ (Op.binOp BinOp.neq _ _ _ _) _ _ _ _) _ _; first | exact xo_neq rfl rfl | exact xo_sneq rfl rfl | exact xo_bneq rfl rfl | exact xo_aneq rfl rfl) | (show OpV _ _ _ _ (Oper.mk _ (Op.binOp BinOp.lss _ _ _ _) _ _ _ _) _ _; exact xo_lss rfl rfl) | (show OpV _ _ _ _ (Oper.mk _ (Op.binOp BinOp.add _ _ _ _) _ _ _ _) _ _; first | exact xo_add rfl rfl | exact ov_sadd rfl rfl (by first | with_reducible exact fun _ => rfl | with_reducible exact fun h => h | exact fun _ => rfl | exact fun h => h | (intro himp; simp_all; done)) (by first | with_reducible exact fun _ => rfl | with_reducible exact fun h => h | exact fun _ => rfl | exact fun h => h | (intro himp; simp_all; done)) (by intro hcg; first | omega | (simp only [List.length_append, List.length_take, List.length_drop, List.length_cons, List.length_nil, List.length_nil]; omega))) | (show OpV _ _ _ _ (Oper.mk _ (Op.load _ _) _ _ _ _) _ _; first | exact xo_load1 rfl | exact xo_loadS rfl)) ?_ | refine wl_v rfl rfl rfl (by first | (show OpV _ _ _ _ (Oper.mk _ (Op.indexAddr _ _ _) _ _ _ _) _ _; first | exact ov_indexAddr rfl rfl (by (fail_if_success (with_reducible show (987654321 : Int) = _)); repeat' (first | with_reducible exact nc_cast | with_reducible exact nc_lit | apply nc_add | apply nc_div | apply nc_mod | apply nc_mul | refine nc_sub (m := _) (n := _) nc_cast nc_lit (by omega) | refine nc_sub (m := _) (n := _) nc_cast nc_cast (by omega))) (by first | with_reducible exact fun _ => rfl | with_reducible exact fun h => h | exact fun _ => rfl | exact fun h => h | (intro himp; simp_all; done)) (by first | with_reducible exact fun _ => rfl | with_reducible exact fun h => h | exact fun _ => rfl | exact fun h => h | (intro himp; simp_all; done)) rfl (by first | exact (rfl : _ = some 1) | exact (rfl : _ = some 2) | exact (rfl : _ = some 3) | exact (rfl : _ = some 4) | exact (rfl : _ = some 6) | exact rfl) (fun hcg => (h3 (by intro h; subst h; simp only [List.length_nil] at *; omega)).1) (by intro hcg; first | omega | (simp at hcg; omega)) | exact ov_indexAddr rfl rfl (by (fail_if_success (with_reducible show (987654321 : Int) = _)); repeat' (first | with_reducible exact nc_cast | with_reducible exact nc_lit | apply nc_add | apply nc_div | apply nc_mod | apply nc_mul | refine nc_sub (m := _) (n := _) nc_cast nc_lit (by omega) | refine nc_sub (m := _) (n := _) nc_cast nc_cast (by omega))) (by first | with_reducible exact fun _ => rfl | with_reducible exact fun h => h | exact fun _ => rfl | exact fun h => h | (intro himp; simp_all; done)) (by first | with_reducible exact fun _ => rfl | with_reducible exact fun h => h | exact fun _ => rfl | exact fun h => h | (intro himp; simp_all; done)) rfl (by first | exact (rfl : _ = some 1) | exact (rfl : _ = some 2) | exact (rfl : _ = some 3) | exact (rfl : _ = some 4) | exact (rfl : _ = some 6) | exact rfl) (fun hcg => (h3' (by intro h; subst h; simp only [List.length_nil] at *; omega)).1) (by intro hcg; first | omega | (simp at hcg; omega))) | (show OpV _ _ _ _ (Oper.mk _ (Op.load _ _) _ _ _ _) _ _; first | exact ov_load1M rfl (by first | with_reducible exact fun _ => rfl | with_reducible exact fun h => h | exact fun _ => rfl | exact fun h => h | (intro himp; simp_all; done)) rfl rfl (fun hcg => (h3 (by intro h; subst h; simp only [List.length_nil] at *; omega)).2) (fun hcg => h4 i (by omega)) | exact ov_load1M rfl (by first | with_reducible exact fun _ => rfl | with_reducible exact fun h => h | exact fun _ => rfl | exact fun h => h | (intro himp; simp_all; done)) rfl rfl (fun hcg => (h3' (by intro h; subst h; simp only [List.length_nil] at *; omega)).2) (fun hcg => h4' i (by omega))) | fail) ?_) | refine wc_ret rfl ?_))
      repeat' (first | (first | refine wc_seq ?_ | refine wc_region ?_ | refine wl_nil ?_ | refine wn_seq ?_ | refine wn_blk ?_ | refine wc_skip ?_ | refine wc_block ?_ | refine wc_exit rfl ?_ | (show WL _ _ (_ :: _) _ _ _ _; first | refine wl_v rfl rfl rfl (by first | (show OpV _ _ _ _ (Oper.mk _ (Op.move _) _ _ _ _) _ _; exact xo_move rfl) | (show OpV _ _ _ _ (Oper.mk _ (Op.assign _) _ _ _ _) _ _; exact xo_assign rfl) | (show OpV _ _ _ _ (Oper.mk _ (Op.call ⟨.builtin .len, _, _⟩) _ _ _ _) _ _; first | exact xo_slen rfl | exact xo_len rfl) | (show OpV _ _ _ _ (Oper.mk _ (Op.binOp BinOp.neq _ _ _ _) _ _ _ _) _ _; first | exact xo_neq rfl rfl | exact xo_sneq rfl rfl | exact xo_bneq rfl rfl | exact xo_aneq rfl rfl) | (show OpV _ _ _ _ (Oper.mk _ (Op.binOp BinOp.lss _ _ _ _) _ _ _ _) _ _; exact xo_lss rfl rfl) | (show OpV _ _ _ _ (Oper.mk _ (Op.binOp BinOp.add _ _ _ _) _ _ _ _) _ _; first | exact xo_add rfl rfl | exact ov_sadd rfl rfl (by first | with_reducible exact fun _ => rfl | with_reducible exact fun h => h | exact fun _ => rfl | exact fun h => h | (intro himp; simp_all; done)) (by first | with_reducible exact fun _ => rfl | with_reducible exact fun h => h | exact fun _ => rfl | exact fun h => h | (intro himp; simp_all; done)) (by intro hcg; first | omega | (simp only [List.length_append, List.length_take, List.length_drop, List.length_cons, List.length_nil, List.length_nil]; omega))) | (show OpV _ _ _ _ (Oper.mk _ (Op.load _ _) _ _ _ _) _ _; first | exact xo_load1 rfl | exact xo_loadS rfl)) ?_ | refine wl_v rfl rfl rfl (by first  | fail) ?_) | refine wc_ret rfl ?_) | (show WC _ (Code.cond _ _ _) _ _ _ _; (refine wc_cond rfl (fun hc => ?_) (fun hc => ?_) <;> (try (simp only [decide_eq_true_eq, decide_eq_false_iff_not, Bool.and_eq_true, Bool.or_eq_true, Bool.and_eq_false_iff, Bool.or_eq_false_iff, Bool.not_eq_true', Bool.not_eq_false', Int.not_lt, Int.not_le] at hc)) <;> (try (exfalso; first | omega | contradiction)))))
      · refine wr_tmp rfl rfl (congrArg Value.bool ?_)
        symm
        rw [decide_eq_false_iff_not]
        rintro rfl
        simp at hc
      · refine wn_cut ⟨i + 1, by omega, ?_⟩ (by show l.length - (i + 1) < l.length - i; omega) (by first | exact Sub.nil _ | (repeat (first | exact Sub.nil _ | refine Sub.cons (by first | rfl | (simp [look]; done)) ?_))) (fun _ h => h)
        intro j hj
        by_cases h : j = i
        · subst h; exact hc
        · exact hall j (by omega)
    · refine wr_tmp rfl rfl (congrArg Value.bool ?_)
      symm
      rw [decide_eq_true_iff]
      apply List.ext_getElem (by omega)
      intro j hj hj'
      have := hall j (by omega)
      simpa [hj, hj'] using this

theorem texts_same (hM : Laid M w) {u v : Value} {l : List (List UInt8)} (hu : SlS M u l) (hv : SlS M v l) : Calls Tryd.prog 18 #[u, v] w (RetE w (.bool true)) := by
  have := texts_ok hM hu hv
  rwa [decide_eq_true rfl] at this
theorem same_ok (hM : Laid M w) {u v : Value} {l m : List Pr} (hu : SlP M u l) (hv : SlP M v m) (st st' : Int) (bd bd' : List UInt8) : Calls Tryd.prog 12 #[.agg #[i64 st, u, str bd], .agg #[i64 st', v, str bd']] w (RetE w (.bool (decide ((⟨st, l, bd⟩ : Resp) = ⟨st', m, bd'⟩)))) := by
  obtain ⟨a, cap, b, o, cs, T, fz, rfl, h1, h2, h3, h4⟩ := hu.open
  obtain ⟨a', cap', b', o', cs', T', fz', rfl, h1', h2', h3', h4'⟩ := hv.open
  refine calls_st (l := [.agg #[i64 st, .slice a l.length cap, str bd], .agg #[i64 st', .slice a' m.length cap', str bd']]) hM Tryd.func12 rfl rfl rfl (E0 := [(0, true, .agg #[i64 st, .slice a l.length cap, str bd]), (1, true, .agg #[i64 st', .slice a' m.length cap', str bd'])]) (params_cons rfl (params_cons rfl (params_nil _))) ?_
  repeat' (first | (first | refine wc_seq ?_ | refine wc_region ?_ | refine wl_nil ?_ | refine wn_seq ?_ | refine wn_blk ?_ | refine wc_skip ?_ | refine wc_block ?_ | refine wc_exit rfl ?_ | (show WL _ _ (_ :: _) _ _ _ _; first | refine wl_v rfl rfl rfl (by first | (show OpV _ _ _ _ (Oper.mk _ (Op.move _) _ _ _ _) _ _; exact xo_move rfl) | (show OpV _ _ _ _ (Oper.mk _ (Op.assign _) _ _ _ _) _ _; exact xo_assign rfl) | (show OpV _ _ _ _ (Oper.mk _ (Op.pick _ _ _) _ _ _ _) _ _; first | exact xo_and rfl rfl | exact xo_or rfl rfl) | (show OpV _ _ _ _ (Oper.mk _ (Op.binOp BinOp.eql _ _ _ _) _ _ _ _) _ _; first | exact xo_eql rfl rfl | exact xo_seql rfl rfl | exact xo_beql rfl rfl | exact xo_aeql rfl rfl) | (show OpV _ _ _ _ (Oper.mk _ (Op.fieldAddr _ _ _) _ _ _ _) _ _; exact xo_fieldAddr rfl) | (show OpV _ _ _ _ (Oper.mk _ (Op.load _ _) _ _ _ _) _ _; first | exact xo_load1 rfl | exact xo_loadS rfl)) ?_ | refine wl_v rfl rfl rfl (by first | ((show OpV _ _ _ _ (Oper.mk _ (Op.call ⟨.value (.func 23), _, _⟩) _ _ _ _) _ _; exact ov_call Tryd.call23 rfl (by intro himp; first | rfl | (simp_all; done)) (by rfl) (fun _ _ h k => h.ext k) (fun hcg w hw => pairs_ok hw.laid hu hv))) | fail) ?_ | refine xl_box rfl (fun _ => ?_)) | refine wc_ret rfl ?_) | (show WC _ (Code.cond _ _ _) _ _ _ _; (refine wc_cond rfl (fun hc => ?_) (fun hc => ?_) <;> (try (simp only [decide_eq_true_eq, decide_eq_false_iff_not, Bool.and_eq_true, Bool.or_eq_true, Bool.and_eq_false_iff, Bool.or_eq_false_iff, Bool.not_eq_true', Bool.not_eq_false', Int.not_lt, Int.not_le] at hc)) <;> (try (exfalso; first | omega | contradiction)))))
  refine wr_tmp rfl rfl (congrArg Value.bool ?_)
  rw [Bool.eq_iff_iff]
  simp only [Bool.and_eq_true, decide_eq_true_eq, Resp.mk.injEq]
  constructor
  · rintro ⟨⟨h1, h2⟩, h3⟩; exact ⟨h1, h3, h2⟩
  · rintro ⟨h1, h3, h2⟩; exact ⟨⟨h1, h2⟩, h3⟩

def fewR (r : Resp) : Bool := fewB r.headers && (decide (r.body.length ≤ 300) || decide (8192 < r.body.length))
theorem rfew_ok (hM : Laid M w) {hv : Value} {l : List Pr} (hh : SlP M hv l) (st : Int) (bd : List UInt8) : Calls Tryd.prog 10 #[.agg #[i64 st, hv, str bd]] w (RetE w (.bool (fewR ⟨st, l, bd⟩))) := by
  obtain ⟨a, cap, b, o, cs, T, fz, rfl, h1, h2, h3, h4⟩ := hh.open
  refine calls_st (l := [.agg #[i64 st, .slice a l.length cap, str bd]]) hM Tryd.func10 rfl rfl rfl (E0 := [(0, true, .agg #[i64 st, .slice a l.length cap, str bd])]) (params_cons rfl (params_nil _)) ?_
  repeat' (first | (first | refine wc_seq ?_ | refine wc_region ?_ | refine wl_nil ?_ | refine wn_seq ?_ | refine wn_blk ?_ | refine wc_skip ?_ | refine wc_block ?_ | refine wc_exit rfl ?_ | (show WL _ _ (_ :: _) _ _ _ _; first | refine wl_v rfl rfl rfl (by first | (show OpV _ _ _ _ (Oper.mk _ (Op.move _) _ _ _ _) _ _; exact xo_move rfl) | (show OpV _ _ _ _ (Oper.mk _ (Op.assign _) _ _ _ _) _ _; exact xo_assign rfl) | (show OpV _ _ _ _ (Oper.mk _ (Op.pick _ _ _) _ _ _ _) _ _; first | exact xo_and rfl rfl | exact xo_or rfl rfl) | (show OpV _ _ _ _ (Oper.mk _ (Op.call ⟨.builtin .len, _, _⟩) _ _ _ _) _ _; first | exact xo_slen rfl | exact xo_len rfl) | (show OpV _ _ _ _ (Oper.mk _ (Op.binOp BinOp.leq _ _ _ _) _ _ _ _) _ _; exact xo_leq rfl rfl) | (show OpV _ _ _ _ (Oper.mk _ (Op.binOp BinOp.gtr _ _ _ _) _ _ _ _) _ _; exact xo_gtr rfl rfl) | (show OpV _ _ _ _ (Oper.mk _ (Op.fieldAddr _ _ _) _ _ _ _) _ _; exact xo_fieldAddr rfl) | (show OpV _ _ _ _ (Oper.mk _ (Op.load _ _) _ _ _ _) _ _; first | exact xo_load1 rfl | exact xo_loadS rfl)) ?_ | refine wl_v rfl rfl rfl (by first | ((show OpV _ _ _ _ (Oper.mk _ (Op.call ⟨.value (.func 30), _, _⟩) _ _ _ _) _ _; exact ov_call Tryd.call30 rfl (by intro himp; first | rfl | (simp_all; done)) (by rfl) (fun _ _ h k => h.ext k) (fun hcg w hw => few_ok hw.laid hh))) | fail) ?_ | refine xl_box rfl (fun _ => ?_)) | refine wc_ret rfl ?_) | (show WC _ (Code.cond _ _ _) _ _ _ _; (refine wc_cond rfl (fun hc => ?_) (fun hc => ?_) <;> (try (simp only [decide_eq_true_eq, decide_eq_false_iff_not, Bool.and_eq_true, Bool.or_eq_true, Bool.and_eq_false_iff, Bool.or_eq_false_iff, Bool.not_eq_true', Bool.not_eq_false', Int.not_lt, Int.not_le] at hc)) <;> (try (exfalso; first | omega | contradiction)))))
  refine wr_tmp rfl rfl (congrArg Value.bool ?_)
  unfold fewR
  congr 2
  · apply decide_eq_decide.2; dsimp only; omega
  · apply decide_eq_decide.2; dsimp only; omega
end Go.Proofs.YthkpekmecgbokaaDoor
