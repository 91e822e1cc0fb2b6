/-
  Texts of a proof, joined: EngH, EngN, EngS, BytA, Shelf, Glob, EngI, EngJ, EngK, EngL, XmlA, PctT, Prs, Bld, BldB, XmlB, XmlC, XmlD, XmlN.
-/
import Derived.Test.YtgfbieplidpebaaGreatDoorProg
import Derived.Shelf.Strings.Builder1
import Derived.Shelf.Strings.Builder2
import Derived.Shelf.Small.Utf8
import Derived.Shelf.Small.Strs
import Derived.Shelf.Strings.BuilderF
import Derived.Shelf.Strings.BuilderK
import Derived.Shelf.Strings.Search1
import Derived.Shelf.Strings.Search2
import Derived.Shelf.Strings.Search3
import Derived.Shelf.Strings.Cut
import Derived.Shelf.Strings.Count
import Derived.Shelf.LaysM
import Derived.Shelf.Strings.Shaped
import Derived.Shelf.Strings.Prefix
import Derived.Shelf.Strings.Split
import Derived.Shelf.Strings.Replace
import Derived.Shelf.Strings.Runes
import Derived.Shelf.Strings.IndexAny
import Derived.Shelf.Strings.AsciiSet
import Derived.Shelf.Strings.IndexAnyAll
import Derived.Shelf.Unicode.DecodeSlow
import Derived.Lib.LaidTab
import Derived.Lib.ItoaNum
import Derived.Sort.Grow
import Derived.Laws.RangeAny
import Derived.Laws.Runes
import Derived.Lib.OthersKept
import Derived.Test.YtgfbieplidpebaaGreatDoorJFRndReads1
/-
  The engine's rules once more: their routine premises are closed by tactics of their own, so that the texts that use them stay small. Nothing of the program stands here.
-/
namespace Go.Eng
open Go.RowKit
set_option linter.unusedVariables false
set_option linter.unusedSimpArgs false
section
variable {P : Program} {n : Nat} {E : Env} {k : Kont} {ops : Array Oper} {rest : List Oper} {cg : Bool}
variable {dst : Option Tmp} {ty : TypeId} {pos : String} {af : Array Edge} {g : Option (Nat × Bool)}
variable {w0 : World} {bs : List Nat} {H : List (Nat × Obj)} {M : Ghost} {C : World → Prop}
variable {x y z : Operand} {cx cy : Bool} {tx tyy : TypeId}

theorem xo_move {x : Operand} {c : Bool} {v : Value} (hx : ev E x = some (c, v)) (hc : Imp cg c := by first | with_reducible exact fun _ => rfl | with_reducible exact fun h => h | exact fun _ => rfl | exact fun h => h | (intro himp; simp_all; done)) : OpV P n E C ⟨dst, .move x, ty, pos, af, g⟩ cg v :=
  ov_move (hx := hx) (hc := hc)
theorem xo_assign {x : Operand} {c : Bool} {v : Value} (hx : ev E x = some (c, v)) (hc : Imp cg c := by first | with_reducible exact fun _ => rfl | with_reducible exact fun h => h | exact fun _ => rfl | exact fun h => h | (intro himp; simp_all; done)) : OpV P n E C ⟨dst, .assign x, ty, pos, af, g⟩ cg v :=
  ov_assign (hx := hx) (hc := hc)
theorem xo_extract {vs : Array Value} {i : Nat} {v : Value} (hx : ev E x = some (cx, .tuple vs)) (hi : vs[i]? = some v := by first | exact tup2_0 | exact tup2_1 | exact tup3_0 | exact tup3_1 | exact tup3_2 | rfl) (h1 : Imp cg cx := by first | with_reducible exact fun _ => rfl | with_reducible exact fun h => h | exact fun _ => rfl | exact fun h => h | (intro himp; simp_all; done)) : OpV P n E C ⟨dst, .extract x i, ty, pos, af, g⟩ cg v :=
  ov_extract (hx := hx) (hi := hi) (h1 := h1)
theorem xo_slen {s : List UInt8} {t : TypeId} (hx : ev E x = some (cx, str s)) (h1 : Imp cg cx := by first | with_reducible exact fun _ => rfl | with_reducible exact fun h => h | exact fun _ => rfl | exact fun h => h | (intro himp; simp_all; done)) (ht : P.underlying t = some .string := by rfl) : OpV P n E C ⟨dst, .call ⟨.builtin .len, #[x], #[t]⟩, ty, pos, af, g⟩ cg (i64 (s.length : Int)) :=
  ov_slen (hx := hx) (h1 := h1) (ht := ht)
theorem xo_len {t e : TypeId} {a0 : Option Addr} {len cap : Nat} (hx : ev E x = some (cx, .slice a0 len cap)) (h1 : Imp cg cx := by first | with_reducible exact fun _ => rfl | with_reducible exact fun h => h | exact fun _ => rfl | exact fun h => h | (intro himp; simp_all; done)) (ht : P.underlying t = some (.slice e) := by rfl) : OpV P n E C ⟨dst, .call ⟨.builtin .len, #[x], #[t]⟩, ty, pos, af, g⟩ cg (i64 (len : Int)) :=
  ov_len (hx := hx) (h1 := h1) (ht := ht)
theorem xo_aeql {xs ys : Array Value} {fs : Array Field} {r : Bool} (hx : ev E x = some (cx, .agg xs)) (hy : ev E y = some (cy, .agg ys)) (h1 : Imp cg cx := by first | with_reducible exact fun _ => rfl | with_reducible exact fun h => h | exact fun _ => rfl | exact fun h => h | (intro himp; simp_all; done)) (h2 : Imp cg cy := by first | with_reducible exact fun _ => rfl | with_reducible exact fun h => h | exact fun _ => rfl | exact fun h => h | (intro himp; simp_all; done)) (hm : P.eqGuardType P.depth tx = false := by kernel_rfl) (ht : P.underlying tx = some (.struct fs) := by rfl) (hst : P.stoodInHeld tx = false := by kernel_rfl) (hr : EqF P 9999 xs ys fs.toList r := by repeat (first | exact eqG_nil | apply eqG_str (by kernel_rfl) (by rfl) (by rfl) (by rfl) | apply eqG_int (by kernel_rfl) (by rfl) (by rfl) (by rfl) | apply eqG_bool (by kernel_rfl) (by rfl) (by rfl) (by rfl))) : OpV P n E C ⟨dst, .binOp .eql tx x y tyy, ty, pos, af, g⟩ cg (.bool r) :=
  ov_aeql (hx := hx) (hy := hy) (h1 := h1) (h2 := h2) (hm := hm) (ht := ht) (hst := hst) (hr := hr)
theorem xo_aneq {xs ys : Array Value} {fs : Array Field} {r : Bool} (hx : ev E x = some (cx, .agg xs)) (hy : ev E y = some (cy, .agg ys)) (h1 : Imp cg cx := by first | with_reducible exact fun _ => rfl | with_reducible exact fun h => h | exact fun _ => rfl | exact fun h => h | (intro himp; simp_all; done)) (h2 : Imp cg cy := by first | with_reducible exact fun _ => rfl | with_reducible exact fun h => h | exact fun _ => rfl | exact fun h => h | (intro himp; simp_all; done)) (hm : P.eqGuardType P.depth tx = false := by kernel_rfl) (ht : P.underlying tx = some (.struct fs) := by rfl) (hst : P.stoodInHeld tx = false := by kernel_rfl) (hr : EqF P 9999 xs ys fs.toList r := by repeat (first | exact eqG_nil | apply eqG_str (by kernel_rfl) (by rfl) (by rfl) (by rfl) | apply eqG_int (by kernel_rfl) (by rfl) (by rfl) (by rfl) | apply eqG_bool (by kernel_rfl) (by rfl) (by rfl) (by rfl))) : OpV P n E C ⟨dst, .binOp .neq tx x y tyy, ty, pos, af, g⟩ cg (.bool (!r)) :=
  ov_aneq (hx := hx) (hy := hy) (h1 := h1) (h2 := h2) (hm := hm) (ht := ht) (hst := hst) (hr := hr)
theorem xo_lss {kd : IntKind} {u : Int} {z : Int} (hx : ev E x = some (cx, .int kd u)) (hy : ev E y = some (cy, .int kd z)) (h1 : Imp cg cx := by first | with_reducible exact fun _ => rfl | with_reducible exact fun h => h | exact fun _ => rfl | exact fun h => h | (intro himp; simp_all; done)) (h2 : Imp cg cy := by first | with_reducible exact fun _ => rfl | with_reducible exact fun h => h | exact fun _ => rfl | exact fun h => h | (intro himp; simp_all; done)) : OpV P n E C ⟨dst, .binOp .lss tx x y tyy, ty, pos, af, g⟩ cg (.bool (decide (u < z))) :=
  ov_lss (hx := hx) (hy := hy) (h1 := h1) (h2 := h2)
theorem xo_leq {kd : IntKind} {u : Int} {z : Int} (hx : ev E x = some (cx, .int kd u)) (hy : ev E y = some (cy, .int kd z)) (h1 : Imp cg cx := by first | with_reducible exact fun _ => rfl | with_reducible exact fun h => h | exact fun _ => rfl | exact fun h => h | (intro himp; simp_all; done)) (h2 : Imp cg cy := by first | with_reducible exact fun _ => rfl | with_reducible exact fun h => h | exact fun _ => rfl | exact fun h => h | (intro himp; simp_all; done)) : OpV P n E C ⟨dst, .binOp .leq tx x y tyy, ty, pos, af, g⟩ cg (.bool (decide (u ≤ z))) :=
  ov_leq (hx := hx) (hy := hy) (h1 := h1) (h2 := h2)
theorem xo_gtr {kd : IntKind} {u : Int} {z : Int} (hx : ev E x = some (cx, .int kd u)) (hy : ev E y = some (cy, .int kd z)) (h1 : Imp cg cx := by first | with_reducible exact fun _ => rfl | with_reducible exact fun h => h | exact fun _ => rfl | exact fun h => h | (intro himp; simp_all; done)) (h2 : Imp cg cy := by first | with_reducible exact fun _ => rfl | with_reducible exact fun h => h | exact fun _ => rfl | exact fun h => h | (intro himp; simp_all; done)) : OpV P n E C ⟨dst, .binOp .gtr tx x y tyy, ty, pos, af, g⟩ cg (.bool (decide (z < u))) :=
  ov_gtr (hx := hx) (hy := hy) (h1 := h1) (h2 := h2)
theorem xo_geq {kd : IntKind} {u : Int} {z : Int} (hx : ev E x = some (cx, .int kd u)) (hy : ev E y = some (cy, .int kd z)) (h1 : Imp cg cx := by first | with_reducible exact fun _ => rfl | with_reducible exact fun h => h | exact fun _ => rfl | exact fun h => h | (intro himp; simp_all; done)) (h2 : Imp cg cy := by first | with_reducible exact fun _ => rfl | with_reducible exact fun h => h | exact fun _ => rfl | exact fun h => h | (intro himp; simp_all; done)) : OpV P n E C ⟨dst, .binOp .geq tx x y tyy, ty, pos, af, g⟩ cg (.bool (decide (z ≤ u))) :=
  ov_geq (hx := hx) (hy := hy) (h1 := h1) (h2 := h2)
theorem xo_add {kd : IntKind} {u : Int} {z : Int} (hx : ev E x = some (cx, .int kd u)) (hy : ev E y = some (cy, .int kd z)) (h1 : Imp cg cx := by first | with_reducible exact fun _ => rfl | with_reducible exact fun h => h | exact fun _ => rfl | exact fun h => h | (intro himp; simp_all; done)) (h2 : Imp cg cy := by first | with_reducible exact fun _ => rfl | with_reducible exact fun h => h | exact fun _ => rfl | exact fun h => h | (intro himp; simp_all; done)) (hf : cg = true → Fits kd (u + z) := by intro hcg; clear hcg; first | exact fits_i64 (by omega) (by omega) | exact fits_u8 (by omega) (by omega) | exact fits_i32 (by omega) (by omega) | exact fits_u64 (by omega) (by omega) | exact fits_u32 (by omega) (by omega)) : OpV P n E C ⟨dst, .binOp .add tx x y tyy, ty, pos, af, g⟩ cg (.int kd (u + z)) :=
  ov_add (hx := hx) (hy := hy) (h1 := h1) (h2 := h2) (hf := hf)
theorem xo_sub {kd : IntKind} {u : Int} {z : Int} (hx : ev E x = some (cx, .int kd u)) (hy : ev E y = some (cy, .int kd z)) (h1 : Imp cg cx := by first | with_reducible exact fun _ => rfl | with_reducible exact fun h => h | exact fun _ => rfl | exact fun h => h | (intro himp; simp_all; done)) (h2 : Imp cg cy := by first | with_reducible exact fun _ => rfl | with_reducible exact fun h => h | exact fun _ => rfl | exact fun h => h | (intro himp; simp_all; done)) (hf : cg = true → Fits kd (u - z) := by intro hcg; clear hcg; first | exact fits_i64 (by omega) (by omega) | exact fits_u8 (by omega) (by omega) | exact fits_i32 (by omega) (by omega) | exact fits_u64 (by omega) (by omega) | exact fits_u32 (by omega) (by omega)) : OpV P n E C ⟨dst, .binOp .sub tx x y tyy, ty, pos, af, g⟩ cg (.int kd (u - z)) :=
  ov_sub (hx := hx) (hy := hy) (h1 := h1) (h2 := h2) (hf := hf)
theorem xo_mul {kd : IntKind} {u : Int} {z : Int} (hx : ev E x = some (cx, .int kd u)) (hy : ev E y = some (cy, .int kd z)) (h1 : Imp cg cx := by first | with_reducible exact fun _ => rfl | with_reducible exact fun h => h | exact fun _ => rfl | exact fun h => h | (intro himp; simp_all; done)) (h2 : Imp cg cy := by first | with_reducible exact fun _ => rfl | with_reducible exact fun h => h | exact fun _ => rfl | exact fun h => h | (intro himp; simp_all; done)) (hf : cg = true → Fits kd (u * z) := by intro hcg; clear hcg; first | exact fits_i64 (by omega) (by omega) | exact fits_u8 (by omega) (by omega) | exact fits_i32 (by omega) (by omega) | exact fits_u64 (by omega) (by omega) | exact fits_u32 (by omega) (by omega)) : OpV P n E C ⟨dst, .binOp .mul tx x y tyy, ty, pos, af, g⟩ cg (.int kd (u * z)) :=
  ov_mul (hx := hx) (hy := hy) (h1 := h1) (h2 := h2) (hf := hf)
theorem xo_quo {kd : IntKind} {u : Int} {z : Int} (hx : ev E x = some (cx, .int kd u)) (hy : ev E y = some (cy, .int kd z)) (h1 : Imp cg cx := by first | with_reducible exact fun _ => rfl | with_reducible exact fun h => h | exact fun _ => rfl | exact fun h => h | (intro himp; simp_all; done)) (h2 : Imp cg cy := by first | with_reducible exact fun _ => rfl | with_reducible exact fun h => h | exact fun _ => rfl | exact fun h => h | (intro himp; simp_all; done)) (hf : cg = true → 0 ≤ u ∧ 0 < z ∧ Fits kd (u / z) := by intro _; exact ⟨by omega, by omega, by first | exact fits_i64 (by omega) (by omega) | exact fits_u8 (by omega) (by omega)⟩) : OpV P n E C ⟨dst, .binOp .quo tx x y tyy, ty, pos, af, g⟩ cg (.int kd (u / z)) :=
  ov_quo (hx := hx) (hy := hy) (h1 := h1) (h2 := h2) (hf := hf)
theorem xo_rem {kd : IntKind} {u : Int} {z : Int} (hx : ev E x = some (cx, .int kd u)) (hy : ev E y = some (cy, .int kd z)) (h1 : Imp cg cx := by first | with_reducible exact fun _ => rfl | with_reducible exact fun h => h | exact fun _ => rfl | exact fun h => h | (intro himp; simp_all; done)) (h2 : Imp cg cy := by first | with_reducible exact fun _ => rfl | with_reducible exact fun h => h | exact fun _ => rfl | exact fun h => h | (intro himp; simp_all; done)) (hf : cg = true → 0 ≤ u ∧ 0 < z := by intro _; exact ⟨by omega, by omega⟩) : OpV P n E C ⟨dst, .binOp .rem tx x y tyy, ty, pos, af, g⟩ cg (.int kd (u % z)) :=
  ov_rem (hx := hx) (hy := hy) (h1 := h1) (h2 := h2) (hf := hf)
theorem xo_sindex {u : Int} {s : List UInt8} {k1 : IntKind} {i : Nat} (hx : ev E x = some (cx, str s)) (hy : ev E y = some (cy, .int k1 u)) (hi : u = (i : Int) := by (fail_if_success (with_reducible show (987654321 : Int) = _)); repeat' (first | with_reducible exact nc_cast | with_reducible exact nc_lit | apply nc_add | apply nc_div | apply nc_mod | apply nc_mul | refine nc_sub (m := _) (n := _) nc_cast nc_lit (by omega) | refine nc_sub (m := _) (n := _) nc_cast nc_cast (by omega))) (h1 : Imp cg cx := by first | with_reducible exact fun _ => rfl | with_reducible exact fun h => h | exact fun _ => rfl | exact fun h => h | (intro himp; simp_all; done)) (h2 : Imp cg cy := by first | with_reducible exact fun _ => rfl | with_reducible exact fun h => h | exact fun _ => rfl | exact fun h => h | (intro himp; simp_all; done)) (ht : P.underlying tx = some .string := by rfl) (hf : cg = true → i < s.length := by intro hcg; first | omega | (simp at hcg; omega)) : OpV P n E C ⟨dst, .index tx x y, ty, pos, af, g⟩ cg (byt (s.getD i 0)) :=
  ov_sindex (hx := hx) (hy := hy) (hi := hi) (h1 := h1) (h2 := h2) (ht := ht) (hf := hf)
theorem xo_slice {u : Int} {z : Int} {s : List UInt8} {lo hi : Operand} {cl ch : Bool} {k1 k2 : IntKind} {i j : Nat} (hx : ev E x = some (cx, str s)) (hl : ev E lo = some (cl, .int k1 u)) (hh : ev E hi = some (ch, .int k2 z)) (hi1 : u = (i : Int) := by (fail_if_success (with_reducible show (987654321 : Int) = _)); repeat' (first | with_reducible exact nc_cast | with_reducible exact nc_lit | apply nc_add | apply nc_div | apply nc_mod | apply nc_mul | refine nc_sub (m := _) (n := _) nc_cast nc_lit (by omega) | refine nc_sub (m := _) (n := _) nc_cast nc_cast (by omega))) (hi2 : z = (j : Int) := by (fail_if_success (with_reducible show (987654321 : Int) = _)); repeat' (first | with_reducible exact nc_cast | with_reducible exact nc_lit | apply nc_add | apply nc_div | apply nc_mod | apply nc_mul | refine nc_sub (m := _) (n := _) nc_cast nc_lit (by omega) | refine nc_sub (m := _) (n := _) nc_cast nc_cast (by omega))) (h1 : Imp cg cx := by first | with_reducible exact fun _ => rfl | with_reducible exact fun h => h | exact fun _ => rfl | exact fun h => h | (intro himp; simp_all; done)) (h2 : Imp cg cl := by first | with_reducible exact fun _ => rfl | with_reducible exact fun h => h | exact fun _ => rfl | exact fun h => h | (intro himp; simp_all; done)) (h3 : Imp cg ch := by first | with_reducible exact fun _ => rfl | with_reducible exact fun h => h | exact fun _ => rfl | exact fun h => h | (intro himp; simp_all; done)) (ht : P.underlying tx = some .string := by rfl) (hf : cg = true → i ≤ j ∧ j ≤ s.length := by intro hcg; first | omega | (simp at hcg; omega)) : OpV P n E C ⟨dst, .slice tx x (some lo) (some hi) none, ty, pos, af, g⟩ cg (str ((s.drop i).take (j - i))) :=
  ov_slice (hx := hx) (hl := hl) (hh := hh) (hi1 := hi1) (hi2 := hi2) (h1 := h1) (h2 := h2) (h3 := h3) (ht := ht) (hf := hf)
theorem xo_from {u : Int} {s : List UInt8} {lo : Operand} {cl : Bool} {k1 : IntKind} {i : Nat} (hx : ev E x = some (cx, str s)) (hl : ev E lo = some (cl, .int k1 u)) (hi1 : u = (i : Int) := by (fail_if_success (with_reducible show (987654321 : Int) = _)); repeat' (first | with_reducible exact nc_cast | with_reducible exact nc_lit | apply nc_add | apply nc_div | apply nc_mod | apply nc_mul | refine nc_sub (m := _) (n := _) nc_cast nc_lit (by omega) | refine nc_sub (m := _) (n := _) nc_cast nc_cast (by omega))) (h1 : Imp cg cx := by first | with_reducible exact fun _ => rfl | with_reducible exact fun h => h | exact fun _ => rfl | exact fun h => h | (intro himp; simp_all; done)) (h2 : Imp cg cl := by first | with_reducible exact fun _ => rfl | with_reducible exact fun h => h | exact fun _ => rfl | exact fun h => h | (intro himp; simp_all; done)) (ht : P.underlying tx = some .string := by rfl) (hf : cg = true → i ≤ s.length := by intro hcg; first | omega | (simp at hcg; omega)) : OpV P n E C ⟨dst, .slice tx x (some lo) none none, ty, pos, af, g⟩ cg (str (s.drop i)) :=
  ov_from (hx := hx) (hl := hl) (hi1 := hi1) (h1 := h1) (h2 := h2) (ht := ht) (hf := hf)
theorem xo_to {z : Int} {s : List UInt8} {hi : Operand} {ch : Bool} {k2 : IntKind} {j : Nat} (hx : ev E x = some (cx, str s)) (hh : ev E hi = some (ch, .int k2 z)) (hi2 : z = (j : Int) := by (fail_if_success (with_reducible show (987654321 : Int) = _)); repeat' (first | with_reducible exact nc_cast | with_reducible exact nc_lit | apply nc_add | apply nc_div | apply nc_mod | apply nc_mul | refine nc_sub (m := _) (n := _) nc_cast nc_lit (by omega) | refine nc_sub (m := _) (n := _) nc_cast nc_cast (by omega))) (h1 : Imp cg cx := by first | with_reducible exact fun _ => rfl | with_reducible exact fun h => h | exact fun _ => rfl | exact fun h => h | (intro himp; simp_all; done)) (h3 : Imp cg ch := by first | with_reducible exact fun _ => rfl | with_reducible exact fun h => h | exact fun _ => rfl | exact fun h => h | (intro himp; simp_all; done)) (ht : P.underlying tx = some .string := by rfl) (hf : cg = true → j ≤ s.length := by intro hcg; first | omega | (simp at hcg; omega)) : OpV P n E C ⟨dst, .slice tx x none (some hi) none, ty, pos, af, g⟩ cg (str (s.take j)) :=
  ov_to (hx := hx) (hh := hh) (hi2 := hi2) (h1 := h1) (h3 := h3) (ht := ht) (hf := hf)
theorem xo_slcB {t e : TypeId} {lo hi : Operand} {cl ch : Bool} {k1 k2 : IntKind} {a0 : Option Addr} {len cap l h m : Nat} {u v : Int} (hx : ev E x = some (cx, .slice a0 len cap)) (hlo : ev E lo = some (cl, .int k1 u)) (hh : ev E hi = some (ch, .int k2 v)) (e1 : u = (l : Int) := by (fail_if_success (with_reducible show (987654321 : Int) = _)); repeat' (first | with_reducible exact nc_cast | with_reducible exact nc_lit | apply nc_add | apply nc_div | apply nc_mod | apply nc_mul | refine nc_sub (m := _) (n := _) nc_cast nc_lit (by omega) | refine nc_sub (m := _) (n := _) nc_cast nc_cast (by omega))) (e2 : v = (h : Int) := by (fail_if_success (with_reducible show (987654321 : Int) = _)); repeat' (first | with_reducible exact nc_cast | with_reducible exact nc_lit | apply nc_add | apply nc_div | apply nc_mod | apply nc_mul | refine nc_sub (m := _) (n := _) nc_cast nc_lit (by omega) | refine nc_sub (m := _) (n := _) nc_cast nc_cast (by omega))) (h1 : Imp cg cx := by first | with_reducible exact fun _ => rfl | with_reducible exact fun h => h | exact fun _ => rfl | exact fun h => h | (intro himp; simp_all; done)) (h2 : Imp cg cl := by first | with_reducible exact fun _ => rfl | with_reducible exact fun h => h | exact fun _ => rfl | exact fun h => h | (intro himp; simp_all; done)) (h3 : Imp cg ch := by first | with_reducible exact fun _ => rfl | with_reducible exact fun h => h | exact fun _ => rfl | exact fun h => h | (intro himp; simp_all; done)) (ht : P.underlying t = some (.slice e) := by rfl) (hs : (P.info? e).map (·.size) = some m := by first | exact (rfl : _ = some 1) | exact (rfl : _ = some 2) | exact (rfl : _ = some 3) | exact (rfl : _ = some 4) | exact (rfl : _ = some 6) | exact rfl) (hf : cg = true → l ≤ h ∧ h ≤ cap := by intro hcg; first | omega | (simp at hcg; omega)) : OpV P n E C ⟨dst, .slice t x (some lo) (some hi) none, ty, pos, af, g⟩ cg (slc a0 m l h cap) :=
  ov_slcB (hx := hx) (hlo := hlo) (hh := hh) (e1 := e1) (e2 := e2) (h1 := h1) (h2 := h2) (h3 := h3) (ht := ht) (hs := hs) (hf := hf)
theorem xo_slcFrom {t e : TypeId} {lo : Operand} {cl : Bool} {k1 : IntKind} {a0 : Option Addr} {len cap l m : Nat} {u : Int} (hx : ev E x = some (cx, .slice a0 len cap)) (hh : ev E lo = some (cl, .int k1 u)) (e1 : u = (l : Int) := by (fail_if_success (with_reducible show (987654321 : Int) = _)); repeat' (first | with_reducible exact nc_cast | with_reducible exact nc_lit | apply nc_add | apply nc_div | apply nc_mod | apply nc_mul | refine nc_sub (m := _) (n := _) nc_cast nc_lit (by omega) | refine nc_sub (m := _) (n := _) nc_cast nc_cast (by omega))) (h1 : Imp cg cx := by first | with_reducible exact fun _ => rfl | with_reducible exact fun h => h | exact fun _ => rfl | exact fun h => h | (intro himp; simp_all; done)) (h2 : Imp cg cl := by first | with_reducible exact fun _ => rfl | with_reducible exact fun h => h | exact fun _ => rfl | exact fun h => h | (intro himp; simp_all; done)) (ht : P.underlying t = some (.slice e) := by rfl) (hs : (P.info? e).map (·.size) = some m := by first | exact (rfl : _ = some 1) | exact (rfl : _ = some 2) | exact (rfl : _ = some 3) | exact (rfl : _ = some 4) | exact (rfl : _ = some 6) | exact rfl) (hf : cg = true → l ≤ len := by intro hcg; first | omega | (simp at hcg; omega)) : OpV P n E C ⟨dst, .slice t x (some lo) none none, ty, pos, af, g⟩ cg (slc a0 m l len cap) :=
  ov_slcFrom (hx := hx) (hh := hh) (e1 := e1) (h1 := h1) (h2 := h2) (ht := ht) (hs := hs) (hf := hf)
theorem xo_slcTo {t e : TypeId} {hi : Operand} {ch : Bool} {k1 : IntKind} {a0 : Option Addr} {len cap h m : Nat} {u : Int} (hx : ev E x = some (cx, .slice a0 len cap)) (hh : ev E hi = some (ch, .int k1 u)) (e1 : u = (h : Int) := by (fail_if_success (with_reducible show (987654321 : Int) = _)); repeat' (first | with_reducible exact nc_cast | with_reducible exact nc_lit | apply nc_add | apply nc_div | apply nc_mod | apply nc_mul | refine nc_sub (m := _) (n := _) nc_cast nc_lit (by omega) | refine nc_sub (m := _) (n := _) nc_cast nc_cast (by omega))) (h1 : Imp cg cx := by first | with_reducible exact fun _ => rfl | with_reducible exact fun h => h | exact fun _ => rfl | exact fun h => h | (intro himp; simp_all; done)) (h2 : Imp cg ch := by first | with_reducible exact fun _ => rfl | with_reducible exact fun h => h | exact fun _ => rfl | exact fun h => h | (intro himp; simp_all; done)) (ht : P.underlying t = some (.slice e) := by rfl) (hs : (P.info? e).map (·.size) = some m := by first | exact (rfl : _ = some 1) | exact (rfl : _ = some 2) | exact (rfl : _ = some 3) | exact (rfl : _ = some 4) | exact (rfl : _ = some 6) | exact rfl) (hf : cg = true → h ≤ cap := by intro hcg; first | omega | (simp at hcg; omega)) : OpV P n E C ⟨dst, .slice t x none (some hi) none, ty, pos, af, g⟩ cg (.slice a0 h cap) :=
  ov_slcTo (hx := hx) (hh := hh) (e1 := e1) (h1 := h1) (h2 := h2) (ht := ht) (hs := hs) (hf := hf)
theorem xo_slc3 {t e : TypeId} {hi mx : Operand} {ch cm : Bool} {k1 k2 : IntKind} {a0 : Option Addr} {len cap h c m : Nat} {u v : Int} (hx : ev E x = some (cx, .slice a0 len cap)) (hh : ev E hi = some (ch, .int k1 u)) (hm : ev E mx = some (cm, .int k2 v)) (e1 : u = (h : Int) := by (fail_if_success (with_reducible show (987654321 : Int) = _)); repeat' (first | with_reducible exact nc_cast | with_reducible exact nc_lit | apply nc_add | apply nc_div | apply nc_mod | apply nc_mul | refine nc_sub (m := _) (n := _) nc_cast nc_lit (by omega) | refine nc_sub (m := _) (n := _) nc_cast nc_cast (by omega))) (e2 : v = (c : Int) := by (fail_if_success (with_reducible show (987654321 : Int) = _)); repeat' (first | with_reducible exact nc_cast | with_reducible exact nc_lit | apply nc_add | apply nc_div | apply nc_mod | apply nc_mul | refine nc_sub (m := _) (n := _) nc_cast nc_lit (by omega) | refine nc_sub (m := _) (n := _) nc_cast nc_cast (by omega))) (h1 : Imp cg cx := by first | with_reducible exact fun _ => rfl | with_reducible exact fun h => h | exact fun _ => rfl | exact fun h => h | (intro himp; simp_all; done)) (h2 : Imp cg ch := by first | with_reducible exact fun _ => rfl | with_reducible exact fun h => h | exact fun _ => rfl | exact fun h => h | (intro himp; simp_all; done)) (h3 : Imp cg cm := by first | with_reducible exact fun _ => rfl | with_reducible exact fun h => h | exact fun _ => rfl | exact fun h => h | (intro himp; simp_all; done)) (ht : P.underlying t = some (.slice e) := by rfl) (hs : (P.info? e).map (·.size) = some m := by first | exact (rfl : _ = some 1) | exact (rfl : _ = some 2) | exact (rfl : _ = some 3) | exact (rfl : _ = some 4) | exact (rfl : _ = some 6) | exact rfl) (hf : cg = true → h ≤ c ∧ c ≤ cap := by intro hcg; first | omega | (simp at hcg; omega)) : OpV P n E C ⟨dst, .slice t x none (some hi) (some mx), ty, pos, af, g⟩ cg (.slice a0 h c) :=
  ov_slc3 (hx := hx) (hh := hh) (hm := hm) (e1 := e1) (e2 := e2) (h1 := h1) (h2 := h2) (h3 := h3) (ht := ht) (hs := hs) (hf := hf)
theorem xo_conv {kd : IntKind} {u : Int} {s t : TypeId} {k' : IntKind} (hx : ev E x = some (cx, .int kd u)) (h1 : Imp cg cx := by first | with_reducible exact fun _ => rfl | with_reducible exact fun h => h | exact fun _ => rfl | exact fun h => h | (intro himp; simp_all; done)) (hs : (P.underlying s).isSome = true := by rfl) (ht : P.underlying t = some (.int k') := by rfl) (hf : cg = true → Fits k' u := by intro hcg; clear hcg; first | exact fits_i64 (by omega) (by omega) | exact fits_u8 (by omega) (by omega) | exact fits_i32 (by omega) (by omega) | exact fits_u64 (by omega) (by omega) | exact fits_u32 (by omega) (by omega)) : OpV P n E C ⟨dst, .convert s t x, ty, pos, af, g⟩ cg (.int k' u) :=
  ov_conv (hx := hx) (h1 := h1) (hs := hs) (ht := ht) (hf := hf)
theorem xo_convBytes {src dst' e : TypeId} {b cap : Nat} {T : TypeId} {fz : Nat × Nat} {vs : List Value} {l : List UInt8} (hx : ev E x = some (cx, .slice (some ⟨b, 0, none⟩) vs.length cap)) (hm : (b, Obj.cells vs.toArray T fz) ∈ H := by first | exact List.Mem.head _ | exact List.Mem.tail _ (List.Mem.head _) | exact List.Mem.tail _ (List.Mem.tail _ (List.Mem.head _)) | exact List.Mem.tail _ (List.Mem.tail _ (List.Mem.tail _ (List.Mem.head _))) | exact List.Mem.tail _ (List.Mem.tail _ (List.Mem.tail _ (List.Mem.tail _ (List.Mem.head _)))) | exact List.mem_append_right _ (List.Mem.head _) | exact List.mem_append_right _ (List.Mem.tail _ (List.Mem.head _)) | exact List.mem_append_right _ (List.Mem.tail _ (List.Mem.tail _ (List.Mem.head _))) | exact List.mem_append_right _ (List.Mem.tail _ (List.Mem.tail _ (List.Mem.tail _ (List.Mem.head _)))) | exact List.Mem.tail _ (List.mem_append_right _ (List.Mem.head _)) | exact List.Mem.tail _ (List.mem_append_right _ (List.Mem.tail _ (List.Mem.head _))) | exact List.Mem.tail _ (List.mem_append_right _ (List.Mem.tail _ (List.Mem.tail _ (List.Mem.head _)))) | exact List.Mem.tail _ (List.mem_append_right _ (List.Mem.tail _ (List.Mem.tail _ (List.Mem.tail _ (List.Mem.head _))))) | exact List.Mem.tail _ (List.Mem.tail _ (List.mem_append_right _ (List.Mem.head _))) | exact List.Mem.tail _ (List.Mem.tail _ (List.mem_append_right _ (List.Mem.tail _ (List.Mem.head _)))) | exact List.Mem.tail _ (List.Mem.tail _ (List.mem_append_right _ (List.Mem.tail _ (List.Mem.tail _ (List.Mem.head _)))))) (h1 : Imp cg cx := by first | with_reducible exact fun _ => rfl | with_reducible exact fun h => h | exact fun _ => rfl | exact fun h => h | (intro himp; simp_all; done)) (hs : P.underlying src = some (.slice e) := by rfl) (he : P.underlying e = some (.int .u8) := by rfl) (hd : P.underlying dst' = some .string := by rfl) (hl : bytesOf vs = some l := by rfl) : OpV P n E (St w0 bs H M) ⟨dst, .convert src dst' x, ty, pos, af, g⟩ cg (str l) :=
  ov_convBytes (hx := hx) (h1 := h1) (hs := hs) (he := he) (hd := hd) (hm := hm) (hl := hl)
theorem xo_fieldAddr {T : TypeId} {fs : Array Field} {f : Field} {i m b o : Nat} (hx : ev E x = some (cx, .pointer (some ⟨b, o, none⟩))) (h1 : Imp cg cx := by first | with_reducible exact fun _ => rfl | with_reducible exact fun h => h | exact fun _ => rfl | exact fun h => h | (intro himp; simp_all; done)) (ht : P.underlying T = some (.struct fs) := by rfl) (hf : fs[i]? = some f := by rfl) (hs : (P.info? f.type).map (·.size) = some (m + 1) := by rfl) : OpV P n E C ⟨dst, .fieldAddr T x i, ty, pos, af, g⟩ cg (.pointer (some ⟨b, o + f.offset, none⟩)) :=
  ov_fieldAddr (hx := hx) (h1 := h1) (ht := ht) (hf := hf) (hs := hs)
theorem xo_load1 {t : TypeId} {d : TypeDesc} {b o : Nat} {cs : Array Value} {T : TypeId} {fz : Nat × Nat} {v : Value} (hx : ev E x = some (cx, .pointer (some ⟨b, o, none⟩))) (hm : (b, Obj.cells cs T fz) ∈ H := by first | exact List.Mem.head _ | exact List.Mem.tail _ (List.Mem.head _) | exact List.Mem.tail _ (List.Mem.tail _ (List.Mem.head _)) | exact List.Mem.tail _ (List.Mem.tail _ (List.Mem.tail _ (List.Mem.head _))) | exact List.Mem.tail _ (List.Mem.tail _ (List.Mem.tail _ (List.Mem.tail _ (List.Mem.head _)))) | exact List.mem_append_right _ (List.Mem.head _) | exact List.mem_append_right _ (List.Mem.tail _ (List.Mem.head _)) | exact List.mem_append_right _ (List.Mem.tail _ (List.Mem.tail _ (List.Mem.head _))) | exact List.mem_append_right _ (List.Mem.tail _ (List.Mem.tail _ (List.Mem.tail _ (List.Mem.head _)))) | exact List.Mem.tail _ (List.mem_append_right _ (List.Mem.head _)) | exact List.Mem.tail _ (List.mem_append_right _ (List.Mem.tail _ (List.Mem.head _))) | exact List.Mem.tail _ (List.mem_append_right _ (List.Mem.tail _ (List.Mem.tail _ (List.Mem.head _)))) | exact List.Mem.tail _ (List.mem_append_right _ (List.Mem.tail _ (List.Mem.tail _ (List.Mem.tail _ (List.Mem.head _))))) | exact List.Mem.tail _ (List.Mem.tail _ (List.mem_append_right _ (List.Mem.head _))) | exact List.Mem.tail _ (List.Mem.tail _ (List.mem_append_right _ (List.Mem.tail _ (List.Mem.head _)))) | exact List.Mem.tail _ (List.Mem.tail _ (List.mem_append_right _ (List.Mem.tail _ (List.Mem.tail _ (List.Mem.head _)))))) (h1 : Imp cg cx := by first | with_reducible exact fun _ => rfl | with_reducible exact fun h => h | exact fun _ => rfl | exact fun h => h | (intro himp; simp_all; done)) (ht : P.underlying t = some d := by rfl) (hd : (match d with | .struct _ | .array _ _ => true | _ => false) = false := by rfl) (hv : cs[o]? = some v := by first | exact lk0 | exact lk1 | exact lk2 | exact lk3 | exact lk4 | exact lk5 | exact lk6 | exact lk7 | exact lk8 | exact lk9 | exact lk10 | exact lk11 | rfl) : OpV P n E (St w0 bs H M) ⟨dst, .load t x, ty, pos, af, g⟩ cg v :=
  ov_load1 (hx := hx) (h1 := h1) (ht := ht) (hd := hd) (hm := hm) (hv := hv)
theorem xo_loadS {t : TypeId} {fs : Array Field} {b : Nat} {l : List Value} {T : TypeId} {fz : Nat × Nat} (hx : ev E x = some (cx, .pointer (some ⟨b, 0, none⟩))) (hm : (b, Obj.cells l.toArray T fz) ∈ H := by first | exact List.Mem.head _ | exact List.Mem.tail _ (List.Mem.head _) | exact List.Mem.tail _ (List.Mem.tail _ (List.Mem.head _)) | exact List.Mem.tail _ (List.Mem.tail _ (List.Mem.tail _ (List.Mem.head _))) | exact List.Mem.tail _ (List.Mem.tail _ (List.Mem.tail _ (List.Mem.tail _ (List.Mem.head _)))) | exact List.mem_append_right _ (List.Mem.head _) | exact List.mem_append_right _ (List.Mem.tail _ (List.Mem.head _)) | exact List.mem_append_right _ (List.Mem.tail _ (List.Mem.tail _ (List.Mem.head _))) | exact List.mem_append_right _ (List.Mem.tail _ (List.Mem.tail _ (List.Mem.tail _ (List.Mem.head _)))) | exact List.Mem.tail _ (List.mem_append_right _ (List.Mem.head _)) | exact List.Mem.tail _ (List.mem_append_right _ (List.Mem.tail _ (List.Mem.head _))) | exact List.Mem.tail _ (List.mem_append_right _ (List.Mem.tail _ (List.Mem.tail _ (List.Mem.head _)))) | exact List.Mem.tail _ (List.mem_append_right _ (List.Mem.tail _ (List.Mem.tail _ (List.Mem.tail _ (List.Mem.head _))))) | exact List.Mem.tail _ (List.Mem.tail _ (List.mem_append_right _ (List.Mem.head _))) | exact List.Mem.tail _ (List.Mem.tail _ (List.mem_append_right _ (List.Mem.tail _ (List.Mem.head _)))) | exact List.Mem.tail _ (List.Mem.tail _ (List.mem_append_right _ (List.Mem.tail _ (List.Mem.tail _ (List.Mem.head _)))))) (h1 : Imp cg cx := by first | with_reducible exact fun _ => rfl | with_reducible exact fun h => h | exact fun _ => rfl | exact fun h => h | (intro himp; simp_all; done)) (ht : P.underlying t = some (.struct fs) := by rfl) (hs : (P.info? t).map (·.size) = some l.length := by rfl) : OpV P n E (St w0 bs H M) ⟨dst, .load t x, ty, pos, af, g⟩ cg (.agg l.toArray) :=
  ov_loadS (hx := hx) (h1 := h1) (ht := ht) (hs := hs) (hm := hm)
theorem xo_field {t : TypeId} {fs : Array Field} {f : Field} {i : Nat} {cs : Array Value} {d : TypeDesc} {v : Value} (hx : ev E x = some (cx, .agg cs)) (h1 : Imp cg cx := by first | with_reducible exact fun _ => rfl | with_reducible exact fun h => h | exact fun _ => rfl | exact fun h => h | (intro himp; simp_all; done)) (ht : P.underlying t = some (.struct fs) := by rfl) (hf : fs[i]? = some f := by rfl) (hd : P.underlying f.type = some d := by rfl) (hd' : (match d with | .struct _ | .array _ _ => true | _ => false) = false := by rfl) (hv : cs[f.offset]? = some v := by rfl) : OpV P n E C ⟨dst, .field t x i, ty, pos, af, g⟩ cg v :=
  ov_field (hx := hx) (h1 := h1) (ht := ht) (hf := hf) (hd := hd) (hd' := hd') (hv := hv)
theorem xo_nilCheck {a0 : Addr} (hx : ev E x = some (cx, .pointer (some a0))) (h1 : Imp cg cx := by first | with_reducible exact fun _ => rfl | with_reducible exact fun h => h | exact fun _ => rfl | exact fun h => h | (intro himp; simp_all; done)) : OpV P n E C ⟨dst, .nilCheck x, ty, pos, af, g⟩ cg (.pointer (some a0)) :=
  ov_nilCheck (hx := hx) (h1 := h1)
theorem xo_build {t : TypeId} {ps : List (Nat × Operand)} {parts : List (Nat × Value)} {z l : List Value} {pl : List (Nat × Nat)} (hv : evp E ps = some parts) (hz : zeroOf P t = some z := by rfl) (hp : placesOf P t = some pl := by rfl) (hl : laidIn z parts pl = some l := by simp only [laidIn, Value.cells, setCells, Nat.zero_add, Nat.reduceAdd, List.set_cons_zero, List.set_cons_succ, List.getElem?_cons_zero, List.getElem?_cons_succ]; first | done | rfl) : OpV P n E C ⟨dst, .build t ps.toArray, ty, pos, af, g⟩ cg (.agg l.toArray) :=
  ov_build (hv := hv) (hz := hz) (hp := hp) (hl := hl)
theorem xo_indexAddr {t e : TypeId} {a0 : Option Addr} {len cap i m b o : Nat} {k1 : IntKind} {z : Int} (hx : ev E x = some (cx, .slice a0 len cap)) (hy : ev E y = some (cy, .int k1 z)) (ha0 : cg = true → a0 = some ⟨b, o, none⟩) (hf : cg = true → i < len) (hi : z = (i : Int) := by (fail_if_success (with_reducible show (987654321 : Int) = _)); repeat' (first | with_reducible exact nc_cast | with_reducible exact nc_lit | apply nc_add | apply nc_div | apply nc_mod | apply nc_mul | refine nc_sub (m := _) (n := _) nc_cast nc_lit (by omega) | refine nc_sub (m := _) (n := _) nc_cast nc_cast (by omega))) (h1 : Imp cg cx := by first | with_reducible exact fun _ => rfl | with_reducible exact fun h => h | exact fun _ => rfl | exact fun h => h | (intro himp; simp_all; done)) (h2 : Imp cg cy := by first | with_reducible exact fun _ => rfl | with_reducible exact fun h => h | exact fun _ => rfl | exact fun h => h | (intro himp; simp_all; done)) (ht : P.underlying t = some (.slice e) := by rfl) (hs : (P.info? e).map (·.size) = some m := by first | exact (rfl : _ = some 1) | exact (rfl : _ = some 2) | exact (rfl : _ = some 3) | exact (rfl : _ = some 4) | exact (rfl : _ = some 6) | exact rfl) : OpV P n E C ⟨dst, .indexAddr t x y, ty, pos, af, g⟩ cg (.pointer (some ⟨b, o + i * m, none⟩)) :=
  ov_indexAddr (hx := hx) (hy := hy) (hi := hi) (h1 := h1) (h2 := h2) (ht := ht) (hs := hs) (ha0 := ha0) (hf := hf)
theorem xo_load1M {t : TypeId} {d : TypeDesc} {b o : Nat} {cs : Array Value} {T : TypeId} {fz : Nat × Nat} {v : Value} (hx : ev E x = some (cx, .pointer (some ⟨b, o, none⟩))) (hm : cg = true → M b (Obj.cells cs T fz)) (hv : cg = true → cs[o]? = some v) (h1 : Imp cg cx := by first | with_reducible exact fun _ => rfl | with_reducible exact fun h => h | exact fun _ => rfl | exact fun h => h | (intro himp; simp_all; done)) (ht : P.underlying t = some d := by rfl) (hd : (match d with | .struct _ | .array _ _ => true | _ => false) = false := by rfl) : OpV P n E (St w0 bs H M) ⟨dst, .load t x, ty, pos, af, g⟩ cg v :=
  ov_load1M (hx := hx) (h1 := h1) (ht := ht) (hd := hd) (hm := hm) (hv := hv)
theorem xo_loadSM {t : TypeId} {fs : Array Field} {b o : Nat} {cs : Array Value} {l : List Value} {T : TypeId} {fz : Nat × Nat} (hx : ev E x = some (cx, .pointer (some ⟨b, o, none⟩))) (hm : cg = true → M b (Obj.cells cs T fz)) (hv : cg = true → ∀ j, j < l.length → cs[o + j]? = l[j]?) (h1 : Imp cg cx := by first | with_reducible exact fun _ => rfl | with_reducible exact fun h => h | exact fun _ => rfl | exact fun h => h | (intro himp; simp_all; done)) (ht : P.underlying t = some (.struct fs) := by rfl) (hs : (P.info? t).map (·.size) = some l.length := by first | exact (rfl : _ = some 1) | exact (rfl : _ = some 2) | exact (rfl : _ = some 3) | exact (rfl : _ = some 4) | exact (rfl : _ = some 6) | exact rfl) : OpV P n E (St w0 bs H M) ⟨dst, .load t x, ty, pos, af, g⟩ cg (.agg l.toArray) :=
  ov_loadSM (hx := hx) (h1 := h1) (ht := ht) (hs := hs) (hm := hm) (hv := hv)
theorem xl_alloc {T : TypeId} {z : Value} {d : Nat} {l : List Value} (h : ∀ b, WL P ops rest n ((d, true, .pointer (some ⟨b, 0, none⟩)) :: E) (St w0 bs ((b, .cells l.toArray T (0, 0)) :: H) M) k) (hg : gd ops E g = some true := by rfl) (hz : ∀ w, (zeroValue T).run P w = .ok z w := by exact fun _ => rfl) (hd : Nat.blt d n = true := by rfl) (hl : z.cells.toList = l := by simp only [Value.cells]; first | done | rfl) : WL P ops (⟨some d, .alloc T, ty, pos, af, g⟩ :: rest) n E (St w0 bs H M) k :=
  wl_alloc (hg := hg) (hz := hz) (hd := hd) (hl := hl) (h := h)
theorem xl_box {T : TypeId} {x : Operand} {v : Value} {d : Nat} {l : List Value} (hx : ev E x = some (true, v)) (h : ∀ b, WL P ops rest n ((d, true, .pointer (some ⟨b, 0, none⟩)) :: E) (St w0 bs ((b, .cells l.toArray T (0, 0)) :: H) M) k) (hg : gd ops E g = some true := by rfl) (hd : Nat.blt d n = true := by rfl) (hl : v.cells.toList = l := by simp only [Value.cells]; first | done | rfl) : WL P ops (⟨some d, .box T x, ty, pos, af, g⟩ :: rest) n E (St w0 bs H M) k :=
  wl_box (hg := hg) (hx := hx) (hd := hd) (hl := hl) (h := h)
theorem xl_store {t : TypeId} {b o : Nat} {l : List Value} {T : TypeId} {v : Value} {H' : List (Nat × Obj)} {l' : List Value} (hx : ev E x = some (true, .pointer (some ⟨b, o, none⟩))) (hy : ev E y = some (true, v)) (h : WL P ops rest n E (St w0 bs H' M) k) (hg : gd ops E g = some true := by rfl) (hs : (P.info? t).map (·.size) = some v.cells.size := by rfl) (hu : Upd H b (.cells l.toArray T (0, 0)) (.cells l'.toArray T (0, 0)) H' := by first | exact Upd.here | exact Upd.there Upd.here | exact Upd.there (Upd.there Upd.here) | exact Upd.there (Upd.there (Upd.there Upd.here)) | exact Upd.there (Upd.there (Upd.there (Upd.there Upd.here))) | exact Upd.app _ (Upd.here) | exact Upd.app _ (Upd.there Upd.here) | exact Upd.app _ (Upd.there (Upd.there Upd.here)) | exact Upd.app _ (Upd.there (Upd.there (Upd.there Upd.here))) | exact Upd.there (Upd.app _ (Upd.here)) | exact Upd.there (Upd.app _ (Upd.there Upd.here)) | exact Upd.there (Upd.app _ (Upd.there (Upd.there Upd.here))) | exact Upd.there (Upd.app _ (Upd.there (Upd.there (Upd.there Upd.here)))) | exact Upd.there (Upd.there (Upd.app _ (Upd.here))) | exact Upd.there (Upd.there (Upd.app _ (Upd.there Upd.here))) | exact Upd.there (Upd.there (Upd.app _ (Upd.there (Upd.there Upd.here))))) (hn : setCells l o v.cells.toList = l' := by dsimp only [Value.cells, setCells, List.set, Nat.zero_add, Nat.reduceAdd]; first | done | rfl) (hl : Nat.ble (o + v.cells.size) l.length = true := by rfl) (hp : v.cells.toList.all plainV = true := by rfl) : WL P ops (⟨none, .store t x y, ty, pos, af, g⟩ :: rest) n E (St w0 bs H M) k :=
  wl_store (hg := hg) (hx := hx) (hy := hy) (hs := hs) (hu := hu) (hn := hn) (hl := hl) (hp := hp) (h := h)
theorem xl_buildSlice {t e : TypeId} {m len d : Nat} {z : Value} {ps : List (Nat × Operand)} {parts : List (Nat × Value)} {l : List Value} (hv : evp E ps = some parts) (h : ∀ b, WL P ops rest n ((d, true, .slice (some ⟨b, 0, none⟩) len len) :: E) (St w0 bs ((b, .cells l.toArray e (0, 0)) :: H) M) k) (hg : gd ops E g = some true := by rfl) (ht : P.underlying t = some (.slice e) := by rfl) (hs : (P.info? e).map (·.size) = some m := by first | exact (rfl : _ = some 1) | exact (rfl : _ = some 2) | exact (rfl : _ = some 3) | exact (rfl : _ = some 4) | exact (rfl : _ = some 6) | exact rfl) (hz : ∀ w, (zeroValue e).run P w = .ok z w := by exact fun _ => rfl) (hzc : z.cells.size = m := by rfl) (hlen : len = parts.length := by rfl) (hlim : Nat.ble (len * m) 16777216 = true := by rfl) (hl : cellsAll m parts 0 = some l := by simp only [cellsAll, Value.cells, List.size_toArray, List.length_cons, List.length_nil, Nat.zero_add, Nat.reduceAdd, and_self, if_true, true_and, Option.map_some, List.cons_append, List.nil_append]; first | done | rfl) (hd : Nat.blt d n = true := by rfl) : WL P ops (⟨some d, .buildSlice t len ps.toArray, ty, pos, af, g⟩ :: rest) n E (St w0 bs H M) k :=
  wl_buildSlice (hg := hg) (hv := hv) (ht := ht) (hs := hs) (hz := hz) (hzc := hzc) (hlen := hlen) (hlim := hlim) (hl := hl) (hd := hd) (h := h)
theorem xo_and {c cy b b' r : Bool} (hx : ev E x = some (c, .bool b)) (hy : ev E y = some (cy, .bool b')) (hc : Imp cg c := by first | with_reducible exact fun _ => rfl | with_reducible exact fun h => h | exact fun _ => rfl | exact fun h => h | (intro himp; simp_all; done)) (h1 : cg = true → b = true → cy = true := by intro himp1 himp2; first | rfl | (rw [himp2]; rfl) | (simp_all; done)) (hr : (b && b') = r := by first | with_reducible exact dec_self _ | with_reducible exact ndec_self _ | with_reducible exact band_tl _ | with_reducible exact band_tr _ | with_reducible exact band_fl _ | with_reducible exact bor_tl _ | with_reducible exact bor_fl _ | with_reducible exact bor_fr _ | with_reducible exact bnot_t | with_reducible exact bnot_f | exact rfl) : OpV P n E C ⟨dst, .pick x y (.const (.bool false)), ty, pos, af, g⟩ cg (.bool r) := opv_eq (ov_and hx hy hc h1) hr
theorem xo_or {c cz b b' r : Bool} (hx : ev E x = some (c, .bool b)) (hz : ev E z = some (cz, .bool b')) (hc : Imp cg c := by first | with_reducible exact fun _ => rfl | with_reducible exact fun h => h | exact fun _ => rfl | exact fun h => h | (intro himp; simp_all; done)) (h0 : cg = true → b = false → cz = true := by intro himp1 himp2; first | rfl | (rw [himp2]; rfl) | (simp_all; done)) (hr : (b || b') = r := by first | with_reducible exact dec_self _ | with_reducible exact ndec_self _ | with_reducible exact band_tl _ | with_reducible exact band_tr _ | with_reducible exact band_fl _ | with_reducible exact bor_tl _ | with_reducible exact bor_fl _ | with_reducible exact bor_fr _ | with_reducible exact bnot_t | with_reducible exact bnot_f | exact rfl) : OpV P n E C ⟨dst, .pick x (.const (.bool true)) z, ty, pos, af, g⟩ cg (.bool r) := opv_eq (ov_or hx hz hc h0) hr
theorem xo_not {b r : Bool} (hx : ev E x = some (cx, .bool b)) (h1 : Imp cg cx := by first | with_reducible exact fun _ => rfl | with_reducible exact fun h => h | exact fun _ => rfl | exact fun h => h | (intro himp; simp_all; done)) (hr : (!b) = r := by first | with_reducible exact dec_self _ | with_reducible exact ndec_self _ | with_reducible exact band_tl _ | with_reducible exact band_tr _ | with_reducible exact band_fl _ | with_reducible exact bor_tl _ | with_reducible exact bor_fl _ | with_reducible exact bor_fr _ | with_reducible exact bnot_t | with_reducible exact bnot_f | exact rfl) : OpV P n E C ⟨dst, .unOp .not tx x, ty, pos, af, g⟩ cg (.bool r) := opv_eq (ov_not hx h1) hr
theorem xo_eql {kd : IntKind} {u z : Int} {r : Bool} (hx : ev E x = some (cx, .int kd u)) (hy : ev E y = some (cy, .int kd z)) (h1 : Imp cg cx := by first | with_reducible exact fun _ => rfl | with_reducible exact fun h => h | exact fun _ => rfl | exact fun h => h | (intro himp; simp_all; done)) (h2 : Imp cg cy := by first | with_reducible exact fun _ => rfl | with_reducible exact fun h => h | exact fun _ => rfl | exact fun h => h | (intro himp; simp_all; done)) (hr : decide (u = z) = r := by first | with_reducible exact dec_self _ | with_reducible exact ndec_self _ | with_reducible exact band_tl _ | with_reducible exact band_tr _ | with_reducible exact band_fl _ | with_reducible exact bor_tl _ | with_reducible exact bor_fl _ | with_reducible exact bor_fr _ | with_reducible exact bnot_t | with_reducible exact bnot_f | exact rfl) : OpV P n E C ⟨dst, .binOp .eql tx x y tyy, ty, pos, af, g⟩ cg (.bool r) := opv_eq (ov_eql hx hy h1 h2) hr
theorem xo_neq {kd : IntKind} {u z : Int} {r : Bool} (hx : ev E x = some (cx, .int kd u)) (hy : ev E y = some (cy, .int kd z)) (h1 : Imp cg cx := by first | with_reducible exact fun _ => rfl | with_reducible exact fun h => h | exact fun _ => rfl | exact fun h => h | (intro himp; simp_all; done)) (h2 : Imp cg cy := by first | with_reducible exact fun _ => rfl | with_reducible exact fun h => h | exact fun _ => rfl | exact fun h => h | (intro himp; simp_all; done)) (hr : (!decide (u = z)) = r := by first | with_reducible exact dec_self _ | with_reducible exact ndec_self _ | with_reducible exact band_tl _ | with_reducible exact band_tr _ | with_reducible exact band_fl _ | with_reducible exact bor_tl _ | with_reducible exact bor_fl _ | with_reducible exact bor_fr _ | with_reducible exact bnot_t | with_reducible exact bnot_f | exact rfl) : OpV P n E C ⟨dst, .binOp .neq tx x y tyy, ty, pos, af, g⟩ cg (.bool r) := opv_eq (ov_neq hx hy h1 h2) hr
theorem xo_seql {s t : List UInt8} {r : Bool} (hx : ev E x = some (cx, str s)) (hy : ev E y = some (cy, str t)) (h1 : Imp cg cx := by first | with_reducible exact fun _ => rfl | with_reducible exact fun h => h | exact fun _ => rfl | exact fun h => h | (intro himp; simp_all; done)) (h2 : Imp cg cy := by first | with_reducible exact fun _ => rfl | with_reducible exact fun h => h | exact fun _ => rfl | exact fun h => h | (intro himp; simp_all; done)) (hr : decide (s = t) = r := by first | with_reducible exact dec_self _ | with_reducible exact ndec_self _ | with_reducible exact band_tl _ | with_reducible exact band_tr _ | with_reducible exact band_fl _ | with_reducible exact bor_tl _ | with_reducible exact bor_fl _ | with_reducible exact bor_fr _ | with_reducible exact bnot_t | with_reducible exact bnot_f | exact rfl) : OpV P n E C ⟨dst, .binOp .eql tx x y tyy, ty, pos, af, g⟩ cg (.bool r) := opv_eq (ov_seql hx hy h1 h2) hr
theorem xo_sneq {s t : List UInt8} {r : Bool} (hx : ev E x = some (cx, str s)) (hy : ev E y = some (cy, str t)) (h1 : Imp cg cx := by first | with_reducible exact fun _ => rfl | with_reducible exact fun h => h | exact fun _ => rfl | exact fun h => h | (intro himp; simp_all; done)) (h2 : Imp cg cy := by first | with_reducible exact fun _ => rfl | with_reducible exact fun h => h | exact fun _ => rfl | exact fun h => h | (intro himp; simp_all; done)) (hr : (!decide (s = t)) = r := by first | with_reducible exact dec_self _ | with_reducible exact ndec_self _ | with_reducible exact band_tl _ | with_reducible exact band_tr _ | with_reducible exact band_fl _ | with_reducible exact bor_tl _ | with_reducible exact bor_fl _ | with_reducible exact bor_fr _ | with_reducible exact bnot_t | with_reducible exact bnot_f | exact rfl) : OpV P n E C ⟨dst, .binOp .neq tx x y tyy, ty, pos, af, g⟩ cg (.bool r) := opv_eq (ov_sneq hx hy h1 h2) hr
theorem xo_beql {b b' r : Bool} (hx : ev E x = some (cx, .bool b)) (hy : ev E y = some (cy, .bool b')) (h1 : Imp cg cx := by first | with_reducible exact fun _ => rfl | with_reducible exact fun h => h | exact fun _ => rfl | exact fun h => h | (intro himp; simp_all; done)) (h2 : Imp cg cy := by first | with_reducible exact fun _ => rfl | with_reducible exact fun h => h | exact fun _ => rfl | exact fun h => h | (intro himp; simp_all; done)) (ht : P.underlying tx = some .bool := by rfl) (hr : decide (b = b') = r := by first | with_reducible exact dec_self _ | with_reducible exact ndec_self _ | with_reducible exact band_tl _ | with_reducible exact band_tr _ | with_reducible exact band_fl _ | with_reducible exact bor_tl _ | with_reducible exact bor_fl _ | with_reducible exact bor_fr _ | with_reducible exact bnot_t | with_reducible exact bnot_f | exact rfl) : OpV P n E C ⟨dst, .binOp .eql tx x y tyy, ty, pos, af, g⟩ cg (.bool r) := opv_eq (ov_beql hx hy h1 h2 ht) hr
theorem xo_bneq {b b' r : Bool} (hx : ev E x = some (cx, .bool b)) (hy : ev E y = some (cy, .bool b')) (h1 : Imp cg cx := by first | with_reducible exact fun _ => rfl | with_reducible exact fun h => h | exact fun _ => rfl | exact fun h => h | (intro himp; simp_all; done)) (h2 : Imp cg cy := by first | with_reducible exact fun _ => rfl | with_reducible exact fun h => h | exact fun _ => rfl | exact fun h => h | (intro himp; simp_all; done)) (ht : P.underlying tx = some .bool := by rfl) (hr : (!decide (b = b')) = r := by first | with_reducible exact dec_self _ | with_reducible exact ndec_self _ | with_reducible exact band_tl _ | with_reducible exact band_tr _ | with_reducible exact band_fl _ | with_reducible exact bor_tl _ | with_reducible exact bor_fl _ | with_reducible exact bor_fr _ | with_reducible exact bnot_t | with_reducible exact bnot_f | exact rfl) : OpV P n E C ⟨dst, .binOp .neq tx x y tyy, ty, pos, af, g⟩ cg (.bool r) := opv_eq (ov_bneq hx hy h1 h2 ht) hr

end
end Go.Eng
/-
  One rule for all operations that yield one value: which rule serves is found by a tactic of the rule's own; the same for what the function's end asks. Nothing of the program stands here.
-/
namespace Go.Eng
open Go.RowKit
set_option linter.unusedVariables false
set_option linter.unusedSimpArgs false
section
variable {P : Program} {n : Nat} {E : Env} {k : Kont} {ops : Array Oper} {rest : List Oper} {cg : Bool} {C : World → Prop}
variable {dst : Option Tmp} {ty : TypeId} {pos : String} {af : Array Edge} {g : Option (Nat × Bool)}
variable {w0 : World} {bs : List Nat} {H : List (Nat × Obj)} {M : Ghost}
section
variable {x y : Operand} {cx : Bool} {v : Value} {tx tyy : TypeId} {op : BinOp}
/-! probes: of what kind an operand is -/
theorem pb_i {kd : IntKind} {u : Int} (h : ev E x = some (cx, .int kd u)) (h2 : OpV P n E C ⟨dst, .binOp op tx x y tyy, ty, pos, af, g⟩ cg v) : OpV P n E C ⟨dst, .binOp op tx x y tyy, ty, pos, af, g⟩ cg v := h2
theorem pb_s {s : List UInt8} (h : ev E x = some (cx, str s)) (h2 : OpV P n E C ⟨dst, .binOp op tx x y tyy, ty, pos, af, g⟩ cg v) : OpV P n E C ⟨dst, .binOp op tx x y tyy, ty, pos, af, g⟩ cg v := h2
theorem pb_b {b : Bool} (h : ev E x = some (cx, .bool b)) (h2 : OpV P n E C ⟨dst, .binOp op tx x y tyy, ty, pos, af, g⟩ cg v) : OpV P n E C ⟨dst, .binOp op tx x y tyy, ty, pos, af, g⟩ cg v := h2
theorem pl_s {s : List UInt8} {ats : Array TypeId} (h : ev E x = some (cx, str s)) (h2 : OpV P n E C ⟨dst, .call ⟨.builtin .len, #[x], ats⟩, ty, pos, af, g⟩ cg v) : OpV P n E C ⟨dst, .call ⟨.builtin .len, #[x], ats⟩, ty, pos, af, g⟩ cg v := h2
theorem ps_s {s : List UInt8} {lo hi mx : Option Operand} (h : ev E x = some (cx, str s)) (h2 : OpV P n E C ⟨dst, .slice tx x lo hi mx, ty, pos, af, g⟩ cg v) : OpV P n E C ⟨dst, .slice tx x lo hi mx, ty, pos, af, g⟩ cg v := h2
theorem pc_i {kd : IntKind} {u : Int} {st : TypeId} (h : ev E x = some (cx, .int kd u)) (h2 : OpV P n E C ⟨dst, .convert st tx x, ty, pos, af, g⟩ cg v) : OpV P n E C ⟨dst, .convert st tx x, ty, pos, af, g⟩ cg v := h2
theorem pd_st {fs : Array Field} (h : P.underlying tx = some (.struct fs)) (h2 : OpV P n E C ⟨dst, .load tx x, ty, pos, af, g⟩ cg v) : OpV P n E C ⟨dst, .load tx x, ty, pos, af, g⟩ cg v := h2
end
theorem yl_v {d : Nat} {v : Value} {o : Oper} (hg : gd ops E o.guard = some cg) (ho : o.dst = some d) (hd : Nat.blt d n = true) (h : WL P ops rest n ((d, cg, v) :: E) C k) (hv : OpV P n E C o cg v := by first | (show OpV _ _ _ _ (Oper.mk _ (Op.move _) _ _ _ _) _ _; exact xo_move rfl) | (show OpV _ _ _ _ (Oper.mk _ (Op.call ⟨.builtin .len, _, _⟩) _ _ _ _) _ _; first | (apply pl_s rfl; exact xo_slen rfl) | exact xo_len rfl) | (show OpV _ _ _ _ (Oper.mk _ (Op.load _ _) _ _ _ _) _ _; first | (apply pd_st rfl; exact xo_loadS rfl) | exact xo_load1 rfl) | (show OpV _ _ _ _ (Oper.mk _ (Op.assign _) _ _ _ _) _ _; exact xo_assign rfl) | (show OpV _ _ _ _ (Oper.mk _ (Op.binOp _ _ _ _ _) _ _ _ _) _ _; first | (show OpV _ _ _ _ (Oper.mk _ (Op.binOp BinOp.eql _ _ _ _) _ _ _ _) _ _; first | (apply pb_i rfl; exact xo_eql rfl rfl) | (apply pb_s rfl; exact xo_seql rfl rfl) | (apply pb_b rfl; exact xo_beql rfl rfl) | exact xo_aeql rfl rfl) | (show OpV _ _ _ _ (Oper.mk _ (Op.binOp BinOp.neq _ _ _ _) _ _ _ _) _ _; first | (apply pb_i rfl; exact xo_neq rfl rfl) | (apply pb_s rfl; exact xo_sneq rfl rfl) | (apply pb_b rfl; exact xo_bneq rfl rfl) | exact xo_aneq rfl rfl) | (show OpV _ _ _ _ (Oper.mk _ (Op.binOp BinOp.lss _ _ _ _) _ _ _ _) _ _; exact xo_lss rfl rfl) | (show OpV _ _ _ _ (Oper.mk _ (Op.binOp BinOp.leq _ _ _ _) _ _ _ _) _ _; exact xo_leq rfl rfl) | (show OpV _ _ _ _ (Oper.mk _ (Op.binOp BinOp.gtr _ _ _ _) _ _ _ _) _ _; exact xo_gtr rfl rfl) | (show OpV _ _ _ _ (Oper.mk _ (Op.binOp BinOp.geq _ _ _ _) _ _ _ _) _ _; exact xo_geq rfl rfl) | (show OpV _ _ _ _ (Oper.mk _ (Op.binOp BinOp.add _ _ _ _) _ _ _ _) _ _; first | (apply pb_i rfl; exact xo_add rfl rfl) | exact ov_sadd rfl rfl (by first | with_reducible exact fun _ => rfl | with_reducible exact fun h => h | exact fun _ => rfl | exact fun h => h | (intro himp; simp_all; done)) (by first | with_reducible exact fun _ => rfl | with_reducible exact fun h => h | exact fun _ => rfl | exact fun h => h | (intro himp; simp_all; done)) (by intro hcg; first | omega | (simp only [List.length_append, List.length_take, List.length_drop, List.length_cons, List.length_nil, List.length_nil]; omega))) | (show OpV _ _ _ _ (Oper.mk _ (Op.binOp BinOp.sub _ _ _ _) _ _ _ _) _ _; exact xo_sub rfl rfl) | (show OpV _ _ _ _ (Oper.mk _ (Op.binOp BinOp.mul _ _ _ _) _ _ _ _) _ _; exact xo_mul rfl rfl) | (show OpV _ _ _ _ (Oper.mk _ (Op.binOp BinOp.quo _ _ _ _) _ _ _ _) _ _; exact xo_quo rfl rfl) | (show OpV _ _ _ _ (Oper.mk _ (Op.binOp BinOp.rem _ _ _ _) _ _ _ _) _ _; exact xo_rem rfl rfl) ) | (show OpV _ _ _ _ (Oper.mk _ (Op.pick _ _ _) _ _ _ _) _ _; first | exact xo_and rfl rfl | exact xo_or rfl rfl) | (show OpV _ _ _ _ (Oper.mk _ (Op.extract _ _) _ _ _ _) _ _; exact xo_extract rfl) | (show OpV _ _ _ _ (Oper.mk _ (Op.unOp _ _ _) _ _ _ _) _ _; exact xo_not rfl) | (show OpV _ _ _ _ (Oper.mk _ (Op.slice _ _ _ _ _) _ _ _ _) _ _; first | (show OpV _ _ _ _ (Oper.mk _ (Op.slice _ _ (some _) (some _) none) _ _ _ _) _ _; first | (apply ps_s rfl; exact xo_slice rfl rfl rfl) | exact xo_slcB rfl rfl rfl) | (show OpV _ _ _ _ (Oper.mk _ (Op.slice _ _ (some _) none none) _ _ _ _) _ _; first | (apply ps_s rfl; exact xo_from rfl rfl) | exact xo_slcFrom rfl rfl) | (show OpV _ _ _ _ (Oper.mk _ (Op.slice _ _ none (some _) none) _ _ _ _) _ _; first | (apply ps_s rfl; exact xo_to rfl rfl) | exact xo_slcTo rfl rfl) | (show OpV _ _ _ _ (Oper.mk _ (Op.slice _ _ none (some _) (some _)) _ _ _ _) _ _; exact xo_slc3 rfl rfl rfl) ) | (show OpV _ _ _ _ (Oper.mk _ (Op.index _ _ _) _ _ _ _) _ _; exact xo_sindex rfl rfl) | (show OpV _ _ _ _ (Oper.mk _ (Op.convert _ _ _) _ _ _ _) _ _; first | (apply pc_i rfl; exact xo_conv rfl) | exact xo_convBytes rfl) | (show OpV _ _ _ _ (Oper.mk _ (Op.fieldAddr _ _ _) _ _ _ _) _ _; exact xo_fieldAddr rfl) | (show OpV _ _ _ _ (Oper.mk _ (Op.field _ _ _) _ _ _ _) _ _; exact xo_field rfl) | (show OpV _ _ _ _ (Oper.mk _ (Op.build _ _) _ _ _ _) _ _; exact xo_build rfl) | (show OpV _ _ _ _ (Oper.mk _ (Op.makeFunc _ _ _) _ _ _ _) _ _; exact ov_makeFunc rfl rfl) | (show OpV _ _ _ _ (Oper.mk _ (Op.nilCheck _) _ _ _ _) _ _; exact xo_nilCheck rfl)) : WL P ops (o :: rest) n E C k := wl_v hg ho hd hv h
theorem yd_v {d : Nat} {v : Value} {o : Oper} {tail : List Oper} {F : REnv} (hg : gd ops E o.guard = some cg) (ho : o.dst = some d) (hd : Nat.blt d n = true) (hb : belowN n E = true) (hsel : noSel o = true) (hF : lookR F d = none) (h : WD P ops rest n ((d, cg, v) :: E) F C tail k) (hv : OpV P n E C o cg v := by first | (show OpV _ _ _ _ (Oper.mk _ (Op.move _) _ _ _ _) _ _; exact xo_move rfl) | (show OpV _ _ _ _ (Oper.mk _ (Op.call ⟨.builtin .len, _, _⟩) _ _ _ _) _ _; first | (apply pl_s rfl; exact xo_slen rfl) | exact xo_len rfl) | (show OpV _ _ _ _ (Oper.mk _ (Op.load _ _) _ _ _ _) _ _; first | (apply pd_st rfl; exact xo_loadS rfl) | exact xo_load1 rfl) | (show OpV _ _ _ _ (Oper.mk _ (Op.assign _) _ _ _ _) _ _; exact xo_assign rfl) | (show OpV _ _ _ _ (Oper.mk _ (Op.binOp _ _ _ _ _) _ _ _ _) _ _; first | (show OpV _ _ _ _ (Oper.mk _ (Op.binOp BinOp.eql _ _ _ _) _ _ _ _) _ _; first | (apply pb_i rfl; exact xo_eql rfl rfl) | (apply pb_s rfl; exact xo_seql rfl rfl) | (apply pb_b rfl; exact xo_beql rfl rfl) | exact xo_aeql rfl rfl) | (show OpV _ _ _ _ (Oper.mk _ (Op.binOp BinOp.neq _ _ _ _) _ _ _ _) _ _; first | (apply pb_i rfl; exact xo_neq rfl rfl) | (apply pb_s rfl; exact xo_sneq rfl rfl) | (apply pb_b rfl; exact xo_bneq rfl rfl) | exact xo_aneq rfl rfl) | (show OpV _ _ _ _ (Oper.mk _ (Op.binOp BinOp.lss _ _ _ _) _ _ _ _) _ _; exact xo_lss rfl rfl) | (show OpV _ _ _ _ (Oper.mk _ (Op.binOp BinOp.leq _ _ _ _) _ _ _ _) _ _; exact xo_leq rfl rfl) | (show OpV _ _ _ _ (Oper.mk _ (Op.binOp BinOp.gtr _ _ _ _) _ _ _ _) _ _; exact xo_gtr rfl rfl) | (show OpV _ _ _ _ (Oper.mk _ (Op.binOp BinOp.geq _ _ _ _) _ _ _ _) _ _; exact xo_geq rfl rfl) | (show OpV _ _ _ _ (Oper.mk _ (Op.binOp BinOp.add _ _ _ _) _ _ _ _) _ _; first | (apply pb_i rfl; exact xo_add rfl rfl) | exact ov_sadd rfl rfl (by first | with_reducible exact fun _ => rfl | with_reducible exact fun h => h | exact fun _ => rfl | exact fun h => h | (intro himp; simp_all; done)) (by first | with_reducible exact fun _ => rfl | with_reducible exact fun h => h | exact fun _ => rfl | exact fun h => h | (intro himp; simp_all; done)) (by intro hcg; first | omega | (simp only [List.length_append, List.length_take, List.length_drop, List.length_cons, List.length_nil, List.length_nil]; omega))) | (show OpV _ _ _ _ (Oper.mk _ (Op.binOp BinOp.sub _ _ _ _) _ _ _ _) _ _; exact xo_sub rfl rfl) | (show OpV _ _ _ _ (Oper.mk _ (Op.binOp BinOp.mul _ _ _ _) _ _ _ _) _ _; exact xo_mul rfl rfl) | (show OpV _ _ _ _ (Oper.mk _ (Op.binOp BinOp.quo _ _ _ _) _ _ _ _) _ _; exact xo_quo rfl rfl) | (show OpV _ _ _ _ (Oper.mk _ (Op.binOp BinOp.rem _ _ _ _) _ _ _ _) _ _; exact xo_rem rfl rfl) ) | (show OpV _ _ _ _ (Oper.mk _ (Op.pick _ _ _) _ _ _ _) _ _; first | exact xo_and rfl rfl | exact xo_or rfl rfl) | (show OpV _ _ _ _ (Oper.mk _ (Op.extract _ _) _ _ _ _) _ _; exact xo_extract rfl) | (show OpV _ _ _ _ (Oper.mk _ (Op.unOp _ _ _) _ _ _ _) _ _; exact xo_not rfl) | (show OpV _ _ _ _ (Oper.mk _ (Op.slice _ _ _ _ _) _ _ _ _) _ _; first | (show OpV _ _ _ _ (Oper.mk _ (Op.slice _ _ (some _) (some _) none) _ _ _ _) _ _; first | (apply ps_s rfl; exact xo_slice rfl rfl rfl) | exact xo_slcB rfl rfl rfl) | (show OpV _ _ _ _ (Oper.mk _ (Op.slice _ _ (some _) none none) _ _ _ _) _ _; first | (apply ps_s rfl; exact xo_from rfl rfl) | exact xo_slcFrom rfl rfl) | (show OpV _ _ _ _ (Oper.mk _ (Op.slice _ _ none (some _) none) _ _ _ _) _ _; first | (apply ps_s rfl; exact xo_to rfl rfl) | exact xo_slcTo rfl rfl) | (show OpV _ _ _ _ (Oper.mk _ (Op.slice _ _ none (some _) (some _)) _ _ _ _) _ _; exact xo_slc3 rfl rfl rfl) ) | (show OpV _ _ _ _ (Oper.mk _ (Op.index _ _ _) _ _ _ _) _ _; exact xo_sindex rfl rfl) | (show OpV _ _ _ _ (Oper.mk _ (Op.convert _ _ _) _ _ _ _) _ _; first | (apply pc_i rfl; exact xo_conv rfl) | exact xo_convBytes rfl) | (show OpV _ _ _ _ (Oper.mk _ (Op.fieldAddr _ _ _) _ _ _ _) _ _; exact xo_fieldAddr rfl) | (show OpV _ _ _ _ (Oper.mk _ (Op.field _ _ _) _ _ _ _) _ _; exact xo_field rfl) | (show OpV _ _ _ _ (Oper.mk _ (Op.build _ _) _ _ _ _) _ _; exact xo_build rfl) | (show OpV _ _ _ _ (Oper.mk _ (Op.makeFunc _ _ _) _ _ _ _) _ _; exact ov_makeFunc rfl rfl) | (show OpV _ _ _ _ (Oper.mk _ (Op.nilCheck _) _ _ _ _) _ _; exact xo_nilCheck rfl)) : WD P ops (o :: rest) n E F C tail k := wd_v hg ho hd hb hsel hF hv h
theorem yd_new {d len : Nat} {o : Oper} {o' : Obj} {tail : List Oper} {F : REnv} (hg : o.guard = none) (ho : o.dst = some d) (hd : Nat.blt d n = true) (hb : belowN n E = true) (hsel : noSel o = true) (hE : look E d = none) (h : WD P ops rest n E ((d, Fresh w0 bs H M len o') :: F) (St w0 bs H M) tail k)
    (hv : OpR P n E (St w0 bs H M) (fun _ => True) o (Fresh w0 bs H M len o') := by exact or_buildSlice rfl rfl (by first | exact (rfl : _ = some 1) | exact (rfl : _ = some 2) | exact (rfl : _ = some 3) | exact (rfl : _ = some 4) | exact (rfl : _ = some 6) | exact rfl) (fun _ => rfl) rfl rfl rfl (by simp only [cellsAll, Value.cells, List.size_toArray, List.length_cons, List.length_nil, Nat.zero_add, Nat.reduceAdd, and_self, if_true, true_and, Option.map_some, List.cons_append, List.nil_append]; first | done | rfl)) : WD P ops (o :: rest) n E F (St w0 bs H M) tail k := wd_new hg ho hd hb hsel hE steady_fresh hv h
theorem yr_layC {M0 : Ghost} {fn : Func} {t b : Nat} {tid : TypeId} {fs : Array Field} {l : List Value} {T : TypeId} {fz : Nat × Nat} {Hn : List (Nat × Obj)} {R : Ghost → List (Nat × Obj) → Value → Prop} (hr : fn.results = #[.cell t tid]) (ht : look E t = some (true, .pointer (some ⟨b, 0, none⟩)))
    (hty : P.underlying tid = some (.struct fs)) (hs : (P.info? tid).map (·.size) = some l.length) (hsi : Since w0 M0 M) (hH : List.Sublist Hn H) (hR : R (With M Hn) [] (.agg l.toArray)) (hm : (b, Obj.cells l.toArray T fz) ∈ H := by exact (by first | exact List.Mem.head _ | exact List.Mem.tail _ (List.Mem.head _) | exact List.Mem.tail _ (List.Mem.tail _ (List.Mem.head _)) | exact List.Mem.tail _ (List.Mem.tail _ (List.Mem.tail _ (List.Mem.head _))) | exact List.Mem.tail _ (List.Mem.tail _ (List.Mem.tail _ (List.Mem.tail _ (List.Mem.head _)))) | exact List.mem_append_right _ (List.Mem.head _) | exact List.mem_append_right _ (List.Mem.tail _ (List.Mem.head _)) | exact List.mem_append_right _ (List.Mem.tail _ (List.Mem.tail _ (List.Mem.head _))) | exact List.mem_append_right _ (List.Mem.tail _ (List.Mem.tail _ (List.Mem.tail _ (List.Mem.head _)))) | exact List.Mem.tail _ (List.mem_append_right _ (List.Mem.head _)) | exact List.Mem.tail _ (List.mem_append_right _ (List.Mem.tail _ (List.Mem.head _))) | exact List.Mem.tail _ (List.mem_append_right _ (List.Mem.tail _ (List.Mem.tail _ (List.Mem.head _)))) | exact List.Mem.tail _ (List.mem_append_right _ (List.Mem.tail _ (List.Mem.tail _ (List.Mem.tail _ (List.Mem.head _))))) | exact List.Mem.tail _ (List.Mem.tail _ (List.mem_append_right _ (List.Mem.head _))) | exact List.Mem.tail _ (List.Mem.tail _ (List.mem_append_right _ (List.Mem.tail _ (List.Mem.head _)))) | exact List.Mem.tail _ (List.Mem.tail _ (List.mem_append_right _ (List.Mem.tail _ (List.Mem.tail _ (List.Mem.head _))))))) : WR n E (St w0 [] H M) (bodyPost P fn (RetS M0 w0 R)) := wr_layC hr ht hty hm hs hsi hH hR
theorem yr_layC2 {M0 : Ghost} {fn : Func} {t u b : Nat} {tid : TypeId} {fs : Array Field} {l : List Value} {T : TypeId} {fz : Nat × Nat} {r : Value} {Hn : List (Nat × Obj)} {R : Ghost → List (Nat × Obj) → Value → Prop} (hr : fn.results = #[.cell t tid, .tmp u]) (ht : look E t = some (true, .pointer (some ⟨b, 0, none⟩))) (hu : look E u = some (true, r))
    (hty : P.underlying tid = some (.struct fs)) (hs : (P.info? tid).map (·.size) = some l.length) (hsi : Since w0 M0 M) (hH : List.Sublist Hn H) (hR : R (With M Hn) [] (.tuple #[.agg l.toArray, r])) (hm : (b, Obj.cells l.toArray T fz) ∈ H := by exact (by first | exact List.Mem.head _ | exact List.Mem.tail _ (List.Mem.head _) | exact List.Mem.tail _ (List.Mem.tail _ (List.Mem.head _)) | exact List.Mem.tail _ (List.Mem.tail _ (List.Mem.tail _ (List.Mem.head _))) | exact List.Mem.tail _ (List.Mem.tail _ (List.Mem.tail _ (List.Mem.tail _ (List.Mem.head _)))) | exact List.mem_append_right _ (List.Mem.head _) | exact List.mem_append_right _ (List.Mem.tail _ (List.Mem.head _)) | exact List.mem_append_right _ (List.Mem.tail _ (List.Mem.tail _ (List.Mem.head _))) | exact List.mem_append_right _ (List.Mem.tail _ (List.Mem.tail _ (List.Mem.tail _ (List.Mem.head _)))) | exact List.Mem.tail _ (List.mem_append_right _ (List.Mem.head _)) | exact List.Mem.tail _ (List.mem_append_right _ (List.Mem.tail _ (List.Mem.head _))) | exact List.Mem.tail _ (List.mem_append_right _ (List.Mem.tail _ (List.Mem.tail _ (List.Mem.head _)))) | exact List.Mem.tail _ (List.mem_append_right _ (List.Mem.tail _ (List.Mem.tail _ (List.Mem.tail _ (List.Mem.head _))))) | exact List.Mem.tail _ (List.Mem.tail _ (List.mem_append_right _ (List.Mem.head _))) | exact List.Mem.tail _ (List.Mem.tail _ (List.mem_append_right _ (List.Mem.tail _ (List.Mem.head _)))) | exact List.Mem.tail _ (List.Mem.tail _ (List.mem_append_right _ (List.Mem.tail _ (List.Mem.tail _ (List.Mem.head _))))))) : WR n E (St w0 [] H M) (bodyPost P fn (RetS M0 w0 R)) := wr_layC2 hr ht hu hty hm hs hsi hH hR
theorem y_append {s src : Operand} {t e : TypeId} {m by' d : Nat} {i : TypeInfo} {z v : Value} {Hs H0 : List (Nat × Obj)} {xs news : List Value} {b c len2 : Nat} {T2 : TypeId} {fz : Nat × Nat} (hg : gd ops E g = some true) (hown : OwnS e m v Hs xs) (hd : Nat.blt d n = true)
    (hx : ev E s = some (true, v)) (hy : ev E src = some (true, .slice (some ⟨b, 0, none⟩) len2 c)) (ht : P.underlying t = some (.slice e)) (hi : P.info? e = some i) (hz : i.zero = some z) (hsz : i.size = m) (hby : i.bytes = by') (hzs : z.cells.size = m) (hm : Nat.blt 0 m = true)
    (hl2 : news.length = len2 * m) (hp : news.all plainV = true) (hb1 : xs.length / m + len2 ≤ 1000000000) (hb2 : Nat.ble by' 140000 = true)
    (h : ∀ v' Hs', OwnS e m v' Hs' (xs ++ news) → WL P ops rest n ((d, true, v') :: E) (St w0 bs (Hs' ++ H0) M) k) (hmem : (b, Obj.cells news.toArray T2 fz) ∈ H := by exact (by first | exact List.Mem.head _ | exact List.Mem.tail _ (List.Mem.head _) | exact List.Mem.tail _ (List.Mem.tail _ (List.Mem.head _)) | exact List.Mem.tail _ (List.Mem.tail _ (List.Mem.tail _ (List.Mem.head _))) | exact List.Mem.tail _ (List.Mem.tail _ (List.Mem.tail _ (List.Mem.tail _ (List.Mem.head _)))) | exact List.mem_append_right _ (List.Mem.head _) | exact List.mem_append_right _ (List.Mem.tail _ (List.Mem.head _)) | exact List.mem_append_right _ (List.Mem.tail _ (List.Mem.tail _ (List.Mem.head _))) | exact List.mem_append_right _ (List.Mem.tail _ (List.Mem.tail _ (List.Mem.tail _ (List.Mem.head _)))) | exact List.Mem.tail _ (List.mem_append_right _ (List.Mem.head _)) | exact List.Mem.tail _ (List.mem_append_right _ (List.Mem.tail _ (List.Mem.head _))) | exact List.Mem.tail _ (List.mem_append_right _ (List.Mem.tail _ (List.Mem.tail _ (List.Mem.head _)))) | exact List.Mem.tail _ (List.mem_append_right _ (List.Mem.tail _ (List.Mem.tail _ (List.Mem.tail _ (List.Mem.head _))))) | exact List.Mem.tail _ (List.Mem.tail _ (List.mem_append_right _ (List.Mem.head _))) | exact List.Mem.tail _ (List.Mem.tail _ (List.mem_append_right _ (List.Mem.tail _ (List.Mem.head _)))) | exact List.Mem.tail _ (List.Mem.tail _ (List.mem_append_right _ (List.Mem.tail _ (List.Mem.tail _ (List.Mem.head _))))))) (hsub : List.Sublist (Hs ++ H0) H := by exact (by repeat (first | exact List.Sublist.refl _ | apply List.Sublist.cons))) :
    WL P ops (⟨some d, .call ⟨.builtin .append, #[s, src], #[t, t]⟩, ty, pos, af, g⟩ :: rest) n E (St w0 bs H M) k := wl_append hg hown hd hx hy ht hi hz hsz hby hzs hm hmem hl2 hp hsub hb1 hb2 h
end
end Go.Eng
/-
  Short names for the side conditions of the rules: a theorem whose one premise is found by a tactic of its own. Nothing of the program stands here.
-/
namespace Go.Eng
open Go.RowKit
set_option linter.unusedVariables false
set_option linter.unusedSimpArgs false
section
variable {p : Prop}
theorem pI (h : p := by first | with_reducible exact fun _ => rfl | with_reducible exact fun h => h | exact fun _ => rfl | exact fun h => h | (intro himp; simp_all; done)) : p := h
theorem pJ (h : p := by intro himp1 himp2; first | rfl | (rw [himp2]; rfl) | (simp_all; done)) : p := h
theorem pA (h : p := by intro himp; first | rfl | (simp_all; done)) : p := h
theorem pB (h : p := by intro hcg; clear hcg; first | exact fits_i64 (by omega) (by omega) | exact fits_u8 (by omega) (by omega) | exact fits_i32 (by omega) (by omega) | exact fits_u64 (by omega) (by omega) | exact fits_u32 (by omega) (by omega)) : p := h
theorem pS (h : p := by intro hcg; first | omega | (simp at hcg; omega)) : p := h
theorem pM (h : p := by first | exact List.Mem.head _ | exact List.Mem.tail _ (List.Mem.head _) | exact List.Mem.tail _ (List.Mem.tail _ (List.Mem.head _)) | exact List.Mem.tail _ (List.Mem.tail _ (List.Mem.tail _ (List.Mem.head _))) | exact List.Mem.tail _ (List.Mem.tail _ (List.Mem.tail _ (List.Mem.tail _ (List.Mem.head _)))) | exact List.mem_append_right _ (List.Mem.head _) | exact List.mem_append_right _ (List.Mem.tail _ (List.Mem.head _)) | exact List.mem_append_right _ (List.Mem.tail _ (List.Mem.tail _ (List.Mem.head _))) | exact List.mem_append_right _ (List.Mem.tail _ (List.Mem.tail _ (List.Mem.tail _ (List.Mem.head _)))) | exact List.Mem.tail _ (List.mem_append_right _ (List.Mem.head _)) | exact List.Mem.tail _ (List.mem_append_right _ (List.Mem.tail _ (List.Mem.head _))) | exact List.Mem.tail _ (List.mem_append_right _ (List.Mem.tail _ (List.Mem.tail _ (List.Mem.head _)))) | exact List.Mem.tail _ (List.mem_append_right _ (List.Mem.tail _ (List.Mem.tail _ (List.Mem.tail _ (List.Mem.head _))))) | exact List.Mem.tail _ (List.Mem.tail _ (List.mem_append_right _ (List.Mem.head _))) | exact List.Mem.tail _ (List.Mem.tail _ (List.mem_append_right _ (List.Mem.tail _ (List.Mem.head _)))) | exact List.Mem.tail _ (List.Mem.tail _ (List.mem_append_right _ (List.Mem.tail _ (List.Mem.tail _ (List.Mem.head _)))))) : p := h
theorem pU (h : p := by first | exact Upd.here | exact Upd.there Upd.here | exact Upd.there (Upd.there Upd.here) | exact Upd.there (Upd.there (Upd.there Upd.here)) | exact Upd.there (Upd.there (Upd.there (Upd.there Upd.here))) | exact Upd.app _ (Upd.here) | exact Upd.app _ (Upd.there Upd.here) | exact Upd.app _ (Upd.there (Upd.there Upd.here)) | exact Upd.app _ (Upd.there (Upd.there (Upd.there Upd.here))) | exact Upd.there (Upd.app _ (Upd.here)) | exact Upd.there (Upd.app _ (Upd.there Upd.here)) | exact Upd.there (Upd.app _ (Upd.there (Upd.there Upd.here))) | exact Upd.there (Upd.app _ (Upd.there (Upd.there (Upd.there Upd.here)))) | exact Upd.there (Upd.there (Upd.app _ (Upd.here))) | exact Upd.there (Upd.there (Upd.app _ (Upd.there Upd.here))) | exact Upd.there (Upd.there (Upd.app _ (Upd.there (Upd.there Upd.here))))) : p := h
theorem pN (h : p := by simp only [laidIn, Value.cells, setCells, Nat.zero_add, Nat.reduceAdd, List.set_cons_zero, List.set_cons_succ, List.getElem?_cons_zero, List.getElem?_cons_succ]; first | done | rfl) : p := h
theorem pC (h : p := by first | exact lk0 | exact lk1 | exact lk2 | exact lk3 | exact lk4 | exact lk5 | exact lk6 | exact lk7 | exact lk8 | exact lk9 | exact lk10 | exact lk11 | rfl) : p := h
theorem pO (h : p := by simp only [Value.cells]; first | done | rfl) : p := h
theorem pQ (h : p := by dsimp only [Value.cells, setCells, List.set, Nat.zero_add, Nat.reduceAdd]; first | done | rfl) : p := h
theorem pE (h : p := by first | exact Sub.nil _ | (repeat (first | exact Sub.nil _ | refine Sub.cons (by first | rfl | (simp [look]; done)) ?_))) : p := h
theorem pL (h : p := by repeat (first | exact List.Sublist.refl _ | apply List.Sublist.cons)) : p := h
theorem pZ (h : p := by first | exact (rfl : _ = some 1) | exact (rfl : _ = some 2) | exact (rfl : _ = some 3) | exact (rfl : _ = some 4) | exact (rfl : _ = some 6) | exact rfl) : p := h
theorem pK (h : p := by (fail_if_success (with_reducible show (987654321 : Int) = _)); repeat' (first | with_reducible exact nc_cast | with_reducible exact nc_lit | apply nc_add | apply nc_div | apply nc_mod | apply nc_mul | refine nc_sub (m := _) (n := _) nc_cast nc_lit (by omega) | refine nc_sub (m := _) (n := _) nc_cast nc_cast (by omega))) : p := h
theorem pT (h : p := by simp only [cellsAll, Value.cells, List.size_toArray, List.length_cons, List.length_nil, Nat.zero_add, Nat.reduceAdd, and_self, if_true, true_and, Option.map_some, List.cons_append, List.nil_append]; first | done | rfl) : p := h
theorem pR (h : p := by first | with_reducible exact dec_self _ | with_reducible exact ndec_self _ | with_reducible exact band_tl _ | with_reducible exact band_tr _ | with_reducible exact band_fl _ | with_reducible exact bor_tl _ | with_reducible exact bor_fl _ | with_reducible exact bor_fr _ | with_reducible exact bnot_t | with_reducible exact bnot_f | exact rfl) : p := h
theorem pP (h : p := by first | with_reducible exact dec_self _ | with_reducible exact ndec_self _ | with_reducible exact band_tl _ | with_reducible exact band_tr _ | with_reducible exact band_fl _ | with_reducible exact bor_tl _ | with_reducible exact bor_fl _ | with_reducible exact bor_fr _ | with_reducible exact bnot_t | with_reducible exact bnot_f | exact dec_t (by omega) | exact ndec_t (by omega) | exact dec_f (by omega) | exact ndec_f (by omega) | exact rfl) : p := h
theorem pF (h : p := by repeat (first | exact eqG_nil | apply eqG_str (by kernel_rfl) (by rfl) (by rfl) (by rfl) | apply eqG_int (by kernel_rfl) (by rfl) (by rfl) (by rfl) | apply eqG_bool (by kernel_rfl) (by rfl) (by rfl) (by rfl))) : p := h
/-- what is left to be shown -/
structure Later (q : Prop) : Prop where
  get : q
/-! what needs no word: as far as it goes, and one step alone -/
theorem sk {q : Prop} (h : q) (hs : Later q → p := by intro r; (first | refine wc_seq ?_ | refine wc_region ?_ | refine wl_nil ?_ | refine wn_seq ?_ | refine wn_blk ?_ | refine wc_skip ?_ | refine wc_scope ?_ | refine wc_label ?_ | refine wn_noGoto ?_ | refine wc_block ?_ | refine wc_exit rfl ?_ | (show WL _ _ (_ :: _) _ _ _ _; refine yl_v rfl rfl rfl ?_) | refine wc_ret rfl ?_); (repeat' (first | refine wc_seq ?_ | refine wc_region ?_ | refine wl_nil ?_ | refine wn_seq ?_ | refine wn_blk ?_ | refine wc_skip ?_ | refine wc_scope ?_ | refine wc_label ?_ | refine wn_noGoto ?_ | refine wc_block ?_ | refine wc_exit rfl ?_ | (show WL _ _ (_ :: _) _ _ _ _; refine yl_v rfl rfl rfl ?_) | refine wc_ret rfl ?_)); exact r.get) : p := hs ⟨h⟩
theorem sk1 {q : Prop} (h : q) (hs : Later q → p := by intro r; (first | refine wc_seq ?_ | refine wc_region ?_ | refine wl_nil ?_ | refine wn_seq ?_ | refine wn_blk ?_ | refine wc_skip ?_ | refine wc_scope ?_ | refine wc_label ?_ | refine wn_noGoto ?_ | refine wc_block ?_ | refine wc_exit rfl ?_ | (show WL _ _ (_ :: _) _ _ _ _; refine yl_v rfl rfl rfl ?_) | refine wc_ret rfl ?_); exact r.get) : p := hs ⟨h⟩
end
/-- what a condition says -/
theorem bls : (∀ (a : Prop) [Decidable a], (decide a = true) = a) ∧ (∀ (a : Prop) [Decidable a], (decide a = false) = ¬a) ∧ (∀ a b : Bool, ((a && b) = true) = (a = true ∧ b = true)) ∧ (∀ a b : Bool, ((a || b) = true) = (a = true ∨ b = true)) ∧ (∀ a b : Bool, ((a && b) = false) = (a = false ∨ b = false)) ∧ (∀ a b : Bool, ((a || b) = false) = (a = false ∧ b = false)) ∧ (∀ a : Bool, ((!a) = true) = (a = false)) ∧ (∀ a : Bool, ((!a) = false) = (a = true)) ∧ (∀ a b : Int, (¬a < b) = (b ≤ a)) ∧ (∀ a b : Int, (¬a ≤ b) = (b < a)) :=
  ⟨fun a _ => by simp, fun a _ => by simp, fun a b => by simp, fun a b => by simp, fun a b => by cases a <;> simp, fun a b => by simp, fun a => by simp, fun a => by simp, fun a b => by simp, fun a b => by simp⟩
section
variable {P : Program} {n : Nat} {E : Env} {cg : Bool} {C : World → Prop} {dst : Option Tmp} {ty : TypeId} {pos : String} {af : Array Edge} {g : Option (Nat × Bool)}
/-! what kind a goal is -/
section
variable {ops : Array Oper} {o : Oper} {rest tail : List Oper} {F : REnv} {k : Kont}
theorem gL (h : WL P ops (o :: rest) n E C k) : WL P ops (o :: rest) n E C k := h
theorem gF (f : FuncId) {l : Array Operand} {ats : Array TypeId} (h : WL P ops (⟨dst, .call ⟨.value (.func f), l, ats⟩, ty, pos, af, g⟩ :: rest) n E C k) : WL P ops (⟨dst, .call ⟨.value (.func f), l, ats⟩, ty, pos, af, g⟩ :: rest) n E C k := h
theorem gD (h : WD P ops (o :: rest) n E F C tail k) : WD P ops (o :: rest) n E F C tail k := h
theorem gE (h : WD P ops [] n E F C tail k) : WD P ops [] n E F C tail k := h
end
theorem oc (f : FuncId) {l : List Operand} {ats : Array TypeId} {vs : List (Bool × Value)} {args : Array Value} {v : Value} (hf : ∀ args w, (callFunc f args).run P w = .ok (.enter f args) w) (hl : evg cg E l = some vs := by exact rfl)
    (hp : cg = true → vs.all (·.1) = true := by intro himp; first | rfl | (simp_all; done)) (hargs : vs.map (·.2) = args.toList := by rfl) (hC : ∀ w w', C w → Ext w w' → C w' := by exact fun _ _ h k => h.ext k) (h : cg = true → ∀ w, C w → Calls P f args w (RetE w v)) : OpV P n E C ⟨dst, .call ⟨.value (.func f), l.toArray, ats⟩, ty, pos, af, g⟩ cg v := ov_call hf hl hp hargs hC h
variable {M : Ghost} {w : World} {R : Ending → World → Prop} {fn : Func} {f : FuncId} {c : Code} {m : Nat}
theorem fn0 (hM : Laid M w) (hf : P.funcs[f]? = some fn) (h : WC P c m [] (St w [] [] M) (.fin (bodyPost P fn R))) (hb : fn.body = some c := by exact rfl) (hm : fn.ntmps = m := by exact rfl) (hl : Nat.ble 0 m = true := by exact rfl) : Calls P f #[] w R :=
  calls_st (l := []) hM hf hb hm hl (E0 := []) (params_nil _) h
theorem fn1 {x0 : Value} (hM : Laid M w) (hf : P.funcs[f]? = some fn) (h : WC P c m [(0, true, x0)] (St w [] [] M) (.fin (bodyPost P fn R))) (hb : fn.body = some c := by exact rfl) (hm : fn.ntmps = m := by exact rfl) (hl : Nat.ble 1 m = true := by exact rfl) : Calls P f #[x0] w R :=
  calls_st (l := [x0]) hM hf hb hm hl (E0 := [(0, true, x0)]) (params_cons rfl (params_nil _)) h
theorem fn2 {x0 x1 : Value} (hM : Laid M w) (hf : P.funcs[f]? = some fn) (h : WC P c m [(0, true, x0), (1, true, x1)] (St w [] [] M) (.fin (bodyPost P fn R))) (hb : fn.body = some c := by exact rfl) (hm : fn.ntmps = m := by exact rfl) (hl : Nat.ble 2 m = true := by exact rfl) : Calls P f #[x0, x1] w R :=
  calls_st (l := [x0, x1]) hM hf hb hm hl (E0 := [(0, true, x0), (1, true, x1)]) (params_cons rfl (params_cons rfl (params_nil _))) h
theorem fn3 {x0 x1 x2 : Value} (hM : Laid M w) (hf : P.funcs[f]? = some fn) (h : WC P c m [(0, true, x0), (1, true, x1), (2, true, x2)] (St w [] [] M) (.fin (bodyPost P fn R))) (hb : fn.body = some c := by exact rfl) (hm : fn.ntmps = m := by exact rfl) (hl : Nat.ble 3 m = true := by exact rfl) : Calls P f #[x0, x1, x2] w R :=
  calls_st (l := [x0, x1, x2]) hM hf hb hm hl (E0 := [(0, true, x0), (1, true, x1), (2, true, x2)]) (params_cons rfl (params_cons rfl (params_cons rfl (params_nil _)))) h
theorem fn4 {x0 x1 x2 x3 : Value} (hM : Laid M w) (hf : P.funcs[f]? = some fn) (h : WC P c m [(0, true, x0), (1, true, x1), (2, true, x2), (3, true, x3)] (St w [] [] M) (.fin (bodyPost P fn R))) (hb : fn.body = some c := by exact rfl) (hm : fn.ntmps = m := by exact rfl) (hl : Nat.ble 4 m = true := by exact rfl) : Calls P f #[x0, x1, x2, x3] w R :=
  calls_st (l := [x0, x1, x2, x3]) hM hf hb hm hl (E0 := [(0, true, x0), (1, true, x1), (2, true, x2), (3, true, x3)]) (params_cons rfl (params_cons rfl (params_cons rfl (params_cons rfl (params_nil _))))) h
theorem fn5 {x0 x1 x2 x3 x4 : Value} (hM : Laid M w) (hf : P.funcs[f]? = some fn) (h : WC P c m [(0, true, x0), (1, true, x1), (2, true, x2), (3, true, x3), (4, true, x4)] (St w [] [] M) (.fin (bodyPost P fn R))) (hb : fn.body = some c := by exact rfl) (hm : fn.ntmps = m := by exact rfl) (hl : Nat.ble 5 m = true := by exact rfl) : Calls P f #[x0, x1, x2, x3, x4] w R :=
  calls_st (l := [x0, x1, x2, x3, x4]) hM hf hb hm hl (E0 := [(0, true, x0), (1, true, x1), (2, true, x2), (3, true, x3), (4, true, x4)]) (params_cons rfl (params_cons rfl (params_cons rfl (params_cons rfl (params_cons rfl (params_nil _)))))) h
end
end Go.Eng
/-
  Bytes as numbers: what the walks of texts need; the contract of package pct's Plain.
-/
namespace Go.Proofs.YtgfbieplidpebaaGreatDoor
open Go.Eng Go.Pct
set_option maxRecDepth 10000
set_option linter.unusedSimpArgs false
set_option linter.unusedVariables false

theorem getD_cast (c : UInt8) (d : UInt8) : ((c.toNat : Int) = (d.toNat : Int)) ↔ c = d := by
  constructor
  · intro h; exact UInt8.toNat_inj.1 (by omega)
  · rintro rfl; rfl
theorem u8_lt (c : UInt8) : (c.toNat : Int) < 256 := by have := c.toNat_lt; omega
theorem u8_eq (c : UInt8) (m : Nat) (hm : m < 256) : ((c.toNat : Int) = (m : Int)) ↔ c = UInt8.ofNat m := by
  constructor
  · intro h; apply UInt8.toNat_inj.1; simp; omega
  · rintro rfl; simp; omega
theorem u8_byt {z : Int} (h0 : 0 ≤ z) (h1 : z ≤ 255) : Value.int .u8 z = byt (UInt8.ofNat z.toNat) := by
  have h3 : z.toNat < 256 := by omega
  have : ((UInt8.ofNat z.toNat).toNat : Int) = z := by simp [Nat.mod_eq_of_lt h3]; omega
  rw [byt, this]
variable {M : Ghost} {w : World}
theorem plain_all (c : UInt8) : ((decide ((97 : Int) ≤ c.toNat) && decide ((c.toNat : Int) ≤ 122) || decide ((65 : Int) ≤ c.toNat) && decide ((c.toNat : Int) ≤ 90) || decide ((48 : Int) ≤ c.toNat) && decide ((c.toNat : Int) ≤ 57) || decide ((c.toNat : Int) = 45) || decide ((c.toNat : Int) = 46) || decide ((c.toNat : Int) = 95) || decide ((c.toNat : Int) = 126)) : Bool) = plainB c := by
  revert c; apply all_bytes; decide +kernel
end Go.Proofs.YtgfbieplidpebaaGreatDoor
/-
  DERIVED: THE SHELF's CONTRACTS AT THIS DUMP, IN PLAIN WORDS (tools/lay-plain.mjs out of 'TryzShelf.lean', which tools/lay-shelf.mjs wrote): THE SAME DECLARATIONS UNDER THE SAME NAMES: 'import', 'namespace', 'open', 'def', 'theorem' AND NOTHING ELSE: no command of the shelf's: FOR A HAND-IN. Each laying: the table of numbers ('.._ren') and one theorem, a field a fact of the dump's own or the kernel's comparison; each contract: ONE APPLICATION.
-/
namespace Go.Proofs
open Go.Shelf
def Tryz.lays119_ren : Go.Shelf.Ren := ⟨fun | 119 => 119 | n => n, fun | 21 => 21 | 4 => 4 | n => n, fun | n => n⟩
theorem Tryz.lays119 : Go.Proofs.Lays.n119 Tryz.prog Tryz.lays119_ren := {
  mixed := by kernel_rfl
  f119 := Tryz.func119.trans (congrArg some (by kernel_rfl))
  t4 := Tryz.underlying4
  a4 := Tryz.isAgg4
  z4 := Tryz.sizeOf4
  v4 := Tryz.zeroValue4
  t21 := Tryz.underlying21
  a21 := Tryz.isAgg21
  z21 := Tryz.sizeOf21
  v21 := Tryz.zeroValue21 }
/-- utf8.ValidRune: "ValidRune reports whether r can be legally encoded as UTF-8. Code points that are out of range or a surrogate half are illegal.": IT RETURNS 'Lib.validRune r'; the world is as it was. (LAID: no walk: one application.) -/
theorem Tryz.utf8_ValidRune (r : Int) (w : World) :
    Calls Tryz.prog 119 #[.int .i32 r] w fun e w' => e = .returned (.bool (Lib.validRune r)) ∧ w' = w := Any.utf8_ValidRune Tryz.lays119 r w
def Tryz.lays137_ren : Go.Shelf.Ren := ⟨fun | 137 => 118 | 217 => 125 | 266 => 131 | n => n, fun | 9 => 9 | 5 => 5 | 3 => 3 | n => n, fun | n => n⟩
theorem Tryz.lays137 : Go.Proofs.Lays.n137 Tryz.prog Tryz.lays137_ren := {
  mixed := by kernel_rfl
  f137 := Tryz.func118.trans (congrArg some (by kernel_rfl))
  f217 := Tryz.func125.trans (congrArg some (by kernel_rfl))
  f266 := Tryz.func131.trans (congrArg some (by kernel_rfl))
  t3 := Tryz.underlying3
  a3 := Tryz.isAgg3
  z3 := Tryz.sizeOf3
  v3 := Tryz.zeroValue3
  t5 := Tryz.underlying5
  a5 := Tryz.isAgg5
  z5 := Tryz.sizeOf5
  v5 := Tryz.zeroValue5
  t9 := Tryz.underlying9
  a9 := Tryz.isAgg9
  z9 := Tryz.sizeOf9
  v9 := Tryz.zeroValue9 }
open Go.RowKit in
/-- strings.IndexByte: "IndexByte returns the index of the first instance of c in s, or -1 if c is not present in s.": IT RETURNS 'Lib.indexByte s c'; the world is as it was. (LAID: no walk: one application.) -/
theorem Tryz.strings_IndexByte (s : ByteArray) (c : Int) (w : World) :
    Calls Tryz.prog 118 #[.string s, .int .u8 c] w fun e w' => e = .returned (.int .i64 (Lib.indexByte s.data.toList c.toNat.toUInt8)) ∧ w' = w := Any.strings_IndexByte Tryz.lays137 s c w
def Tryz.lays145_ren : Go.Shelf.Ren := ⟨fun | 145 => 90 | 220 => 108 | 219 => 122 | 217 => 125 | 225 => 121 | 224 => 120 | 267 => 126 | 266 => 131 | 314 => 132 | n => n, fun | 9 => 9 | 4 => 4 | 59 => 43 | 3 => 3 | 5 => 5 | 46 => 140 | 146 => 149 | 51 => 148 | n => n, fun | 1 => 1 | n => n⟩
theorem Tryz.lays145 : Go.Proofs.Lays.n145 Tryz.prog Tryz.lays145_ren := {
  mixed := by kernel_rfl
  f145 := Tryz.func90.trans (congrArg some (by kernel_rfl))
  f217 := Tryz.func125.trans (congrArg some (by kernel_rfl))
  f219 := Tryz.func122.trans (congrArg some (by kernel_rfl))
  f220 := Tryz.func108.trans (congrArg some (by kernel_rfl))
  f224 := Tryz.func120.trans (congrArg some (by kernel_rfl))
  f225 := Tryz.func121.trans (congrArg some (by kernel_rfl))
  f266 := Tryz.func131.trans (congrArg some (by kernel_rfl))
  f267 := Tryz.func126.trans (congrArg some (by kernel_rfl))
  f314 := Tryz.func132.trans (congrArg some (by kernel_rfl))
  t3 := Tryz.underlying3
  a3 := Tryz.isAgg3
  z3 := Tryz.sizeOf3
  v3 := Tryz.zeroValue3
  t4 := Tryz.underlying4
  a4 := Tryz.isAgg4
  z4 := Tryz.sizeOf4
  v4 := Tryz.zeroValue4
  t5 := Tryz.underlying5
  a5 := Tryz.isAgg5
  z5 := Tryz.sizeOf5
  v5 := Tryz.zeroValue5
  t9 := Tryz.underlying9
  a9 := Tryz.isAgg9
  z9 := Tryz.sizeOf9
  v9 := Tryz.zeroValue9
  t46 := Tryz.underlying140
  a46 := Tryz.isAgg140
  z46 := Tryz.sizeOf140
  v46 := Tryz.zeroValue140
  t51 := Tryz.underlying148
  a51 := Tryz.isAgg148
  z51 := Tryz.sizeOf148
  v51 := Tryz.zeroValue148
  t59 := Tryz.underlying43
  a59 := Tryz.isAgg43
  z59 := Tryz.sizeOf43
  v59 := Tryz.zeroValue43
  t146 := Tryz.underlying149
  a146 := Tryz.isAgg149
  z146 := Tryz.sizeOf149
  v146 := Tryz.zeroValue149
  g1 := by kernel_rfl }
open Go.RowKit Go.Lib in
/-- strings.Cut: "Cut slices s around the first instance of sep, returning the text before and after sep. The found result reports whether sep appears in s. If sep does not appear in s, cut returns s, "", false.": IT RETURNS 'Lib.cut s sep'; the world is as it was but for the count of draws. (LAID: no walk: one application.) -/
theorem Tryz.strings_Cut (s sep : ByteArray) (m : Int) (w : World) (hs : s.size < 4294967281) (hm : w.cell? ⟨1, 0, none⟩ = some (.int .i64 m)) :
    Calls Tryz.prog 90 #[.string s, .string sep] w fun e w' => e = .returned (.tuple #[.string ⟨(Lib.cut s.data.toList sep.data.toList).1.toArray⟩, .string ⟨(Lib.cut s.data.toList sep.data.toList).2.1.toArray⟩, .bool (Lib.cut s.data.toList sep.data.toList).2.2]) ∧ ∃ n, w' = w.drewN n := Any.strings_Cut Tryz.lays145 s sep m w hs hm
def Tryz.laysM219_ren : Go.Shelf.Ren := ⟨fun | 219 => 122 | 217 => 125 | 225 => 121 | 224 => 120 | 267 => 126 | 266 => 131 | 314 => 132 | n => n, fun | 9 => 9 | 3 => 3 | 4 => 4 | 5 => 5 | 46 => 140 | 146 => 149 | 51 => 148 | n => n, fun | 1 => 1 | n => n⟩
theorem Tryz.laysM219 : Go.Proofs.LaysM.n219 Tryz.prog Tryz.laysM219_ren := {
  mixed := by kernel_rfl
  f217 := Tryz.func125.trans (congrArg some (by kernel_rfl))
  f219 := Tryz.func122.trans (congrArg some (by kernel_rfl))
  f224 := Tryz.func120.trans (congrArg some (by kernel_rfl))
  f225 := Tryz.func121.trans (congrArg some (by kernel_rfl))
  f266 := Tryz.func131.trans (congrArg some (by kernel_rfl))
  f267 := Tryz.func126.trans (congrArg some (by kernel_rfl))
  f314 := Tryz.func132.trans (congrArg some (by kernel_rfl))
  t3 := Tryz.underlying3
  a3 := Tryz.isAgg3
  z3 := Tryz.sizeOf3
  v3 := Tryz.zeroValue3
  t4 := Tryz.underlying4
  a4 := Tryz.isAgg4
  z4 := Tryz.sizeOf4
  v4 := Tryz.zeroValue4
  t5 := Tryz.underlying5
  a5 := Tryz.isAgg5
  z5 := Tryz.sizeOf5
  v5 := Tryz.zeroValue5
  t9 := Tryz.underlying9
  a9 := Tryz.isAgg9
  z9 := Tryz.sizeOf9
  v9 := Tryz.zeroValue9
  t46 := Tryz.underlying140
  a46 := Tryz.isAgg140
  z46 := Tryz.sizeOf140
  v46 := Tryz.zeroValue140
  t51 := Tryz.underlying148
  a51 := Tryz.isAgg148
  z51 := Tryz.sizeOf148
  v51 := Tryz.zeroValue148
  t146 := Tryz.underlying149
  a146 := Tryz.isAgg149
  z146 := Tryz.sizeOf149
  v146 := Tryz.zeroValue149
  g1 := by kernel_rfl
  i3 := by kernel_rfl
  i4 := by kernel_rfl
  i5 := by kernel_rfl
  i9 := by kernel_rfl
  i46 := by kernel_rfl
  i51 := by kernel_rfl
  i146 := by kernel_rfl
  m1 := by kernel_rfl
  s1_3 := fun w h => Go.Proofs.cell_of_shapedOpen_int (zero := #[.int .i64 0]) (t := 3) h (of_decide_eq_true (by kernel_rfl)) (by kernel_rfl) rfl (by kernel_rfl) (by kernel_rfl) Tryz.underlying3 }
def Tryz.lays206_ren : Go.Shelf.Ren := ⟨fun | 206 => 81 | n => n, fun | 9 => 9 | 4 => 4 | 3 => 3 | n => n, fun | n => n⟩
theorem Tryz.lays206 : Go.Proofs.Lays.n206 Tryz.prog Tryz.lays206_ren := {
  mixed := by kernel_rfl
  f206 := Tryz.func81.trans (congrArg some (by kernel_rfl))
  t3 := Tryz.underlying3
  a3 := Tryz.isAgg3
  z3 := Tryz.sizeOf3
  v3 := Tryz.zeroValue3
  t4 := Tryz.underlying4
  a4 := Tryz.isAgg4
  z4 := Tryz.sizeOf4
  v4 := Tryz.zeroValue4
  t9 := Tryz.underlying9
  a9 := Tryz.isAgg9
  z9 := Tryz.sizeOf9
  v9 := Tryz.zeroValue9 }
open Go.RowKit Go.Lib in
/-- internal/stringslite.HasPrefix (what strings.HasPrefix calls). (LAID: no walk: one application.) -/
theorem Tryz.stringslite_HasPrefix (s p : ByteArray) (w : World) :
    Calls Tryz.prog 81 #[.string s, .string p] w fun e w' => e = .returned (.bool (Lib.hasPrefix s.data.toList p.data.toList)) ∧ w' = w := Any.stringslite_HasPrefix Tryz.lays206 s p w
def Tryz.lays99_ren : Go.Shelf.Ren := ⟨fun | 99 => 79 | 206 => 81 | n => n, fun | 9 => 9 | 4 => 4 | 3 => 3 | n => n, fun | n => n⟩
theorem Tryz.lays99 : Go.Proofs.Lays.n99 Tryz.prog Tryz.lays99_ren := {
  mixed := by kernel_rfl
  f99 := Tryz.func79.trans (congrArg some (by kernel_rfl))
  f206 := Tryz.func81.trans (congrArg some (by kernel_rfl))
  t3 := Tryz.underlying3
  a3 := Tryz.isAgg3
  z3 := Tryz.sizeOf3
  v3 := Tryz.zeroValue3
  t4 := Tryz.underlying4
  a4 := Tryz.isAgg4
  z4 := Tryz.sizeOf4
  v4 := Tryz.zeroValue4
  t9 := Tryz.underlying9
  a9 := Tryz.isAgg9
  z9 := Tryz.sizeOf9
  v9 := Tryz.zeroValue9 }
open Go.RowKit Go.Lib in
/-- strings.HasPrefix: "HasPrefix reports whether the string s begins with prefix.": IT RETURNS 'Lib.hasPrefix s prefix'; the world is as it was. (LAID: no walk: one application.) -/
theorem Tryz.strings_HasPrefix (s p : ByteArray) (w : World) :
    Calls Tryz.prog 79 #[.string s, .string p] w fun e w' => e = .returned (.bool (Lib.hasPrefix s.data.toList p.data.toList)) ∧ w' = w := Any.strings_HasPrefix Tryz.lays99 s p w
def Tryz.lays155_ren : Go.Shelf.Ren := ⟨fun | 155 => 117 | 154 => 124 | 138 => 127 | 165 => 128 | 143 => 129 | 166 => 91 | 197 => 130 | 169 => 85 | 195 => 133 | 218 => 134 | 240 => 109 | 241 => 135 | 219 => 122 | 260 => 136 | 276 => 123 | 277 => 137 | 217 => 125 | 225 => 121 | 224 => 120 | 267 => 126 | 266 => 131 | 314 => 132 | n => n, fun | 9 => 9 | 3 => 3 | 4 => 4 | 72 => 110 | 0 => 0 | 76 => 119 | 105 => 146 | 21 => 21 | 5 => 5 | 70 => 107 | 20 => 20 | 37 => 108 | 75 => 118 | 127 => 126 | 164 => 142 | 46 => 140 | 119 => 153 | 139 => 156 | 138 => 155 | 146 => 149 | 51 => 148 | 80 => 112 | n => n, fun | 1 => 1 | 3 => 2 | 4 => 3 | n => n⟩
theorem Tryz.lays155 : Go.Proofs.Lays.n155 Tryz.prog Tryz.lays155_ren := {
  mixed := by kernel_rfl
  f138 := Tryz.func127.trans (congrArg some (by kernel_rfl))
  f143 := Tryz.func129.trans (congrArg some (by kernel_rfl))
  f154 := Tryz.func124.trans (congrArg some (by kernel_rfl))
  f155 := Tryz.func117.trans (congrArg some (by kernel_rfl))
  f165 := Tryz.func128.trans (congrArg some (by kernel_rfl))
  f166 := Tryz.func91.trans (congrArg some (by kernel_rfl))
  f169 := Tryz.func85.trans (congrArg some (by kernel_rfl))
  f195 := Tryz.func133.trans (congrArg some (by kernel_rfl))
  f197 := Tryz.func130.trans (congrArg some (by kernel_rfl))
  f217 := Tryz.func125.trans (congrArg some (by kernel_rfl))
  f218 := Tryz.func134.trans (congrArg some (by kernel_rfl))
  f219 := Tryz.func122.trans (congrArg some (by kernel_rfl))
  f224 := Tryz.func120.trans (congrArg some (by kernel_rfl))
  f225 := Tryz.func121.trans (congrArg some (by kernel_rfl))
  f240 := Tryz.func109.trans (congrArg some (by kernel_rfl))
  f241 := Tryz.func135.trans (congrArg some (by kernel_rfl))
  f260 := Tryz.func136.trans (congrArg some (by kernel_rfl))
  f266 := Tryz.func131.trans (congrArg some (by kernel_rfl))
  f267 := Tryz.func126.trans (congrArg some (by kernel_rfl))
  f276 := Tryz.func123.trans (congrArg some (by kernel_rfl))
  f277 := Tryz.func137.trans (congrArg some (by kernel_rfl))
  f314 := Tryz.func132.trans (congrArg some (by kernel_rfl))
  t0 := Tryz.underlying0
  a0 := Tryz.isAgg0
  z0 := Tryz.sizeOf0
  v0 := Tryz.zeroValue0
  t3 := Tryz.underlying3
  a3 := Tryz.isAgg3
  z3 := Tryz.sizeOf3
  v3 := Tryz.zeroValue3
  t4 := Tryz.underlying4
  a4 := Tryz.isAgg4
  z4 := Tryz.sizeOf4
  v4 := Tryz.zeroValue4
  t5 := Tryz.underlying5
  a5 := Tryz.isAgg5
  z5 := Tryz.sizeOf5
  v5 := Tryz.zeroValue5
  t9 := Tryz.underlying9
  a9 := Tryz.isAgg9
  z9 := Tryz.sizeOf9
  v9 := Tryz.zeroValue9
  t20 := Tryz.underlying20
  a20 := Tryz.isAgg20
  z20 := Tryz.sizeOf20
  v20 := Tryz.zeroValue20
  t21 := Tryz.underlying21
  a21 := Tryz.isAgg21
  z21 := Tryz.sizeOf21
  v21 := Tryz.zeroValue21
  t37 := Tryz.underlying108
  a37 := Tryz.isAgg108
  z37 := Tryz.sizeOf108
  v37 := Tryz.zeroValue108
  t46 := Tryz.underlying140
  a46 := Tryz.isAgg140
  z46 := Tryz.sizeOf140
  v46 := Tryz.zeroValue140
  t51 := Tryz.underlying148
  a51 := Tryz.isAgg148
  z51 := Tryz.sizeOf148
  v51 := Tryz.zeroValue148
  t70 := Tryz.underlying107
  a70 := Tryz.isAgg107
  z70 := Tryz.sizeOf107
  v70 := Tryz.zeroValue107
  t72 := Tryz.underlying110
  a72 := Tryz.isAgg110
  z72 := Tryz.sizeOf110
  v72 := Tryz.zeroValue110
  t75 := Tryz.underlying118
  a75 := Tryz.isAgg118
  z75 := Tryz.sizeOf118
  v75 := Tryz.zeroValue118
  t76 := Tryz.underlying119
  a76 := Tryz.isAgg119
  z76 := Tryz.sizeOf119
  v76 := Tryz.zeroValue119
  t105 := Tryz.underlying146
  a105 := Tryz.isAgg146
  z105 := Tryz.sizeOf146
  v105 := Tryz.zeroValue146
  t119 := Tryz.underlying153
  a119 := Tryz.isAgg153
  z119 := Tryz.sizeOf153
  t127 := Tryz.underlying126
  a127 := Tryz.isAgg126
  z127 := Tryz.sizeOf126
  v127 := Tryz.zeroValue126
  t138 := Tryz.underlying155
  a138 := Tryz.isAgg155
  z138 := Tryz.sizeOf155
  v138 := Tryz.zeroValue155
  t139 := Tryz.underlying156
  a139 := Tryz.isAgg156
  z139 := Tryz.sizeOf156
  v139 := Tryz.zeroValue156
  t146 := Tryz.underlying149
  a146 := Tryz.isAgg149
  z146 := Tryz.sizeOf149
  v146 := Tryz.zeroValue149
  t164 := Tryz.underlying142
  a164 := Tryz.isAgg142
  z164 := Tryz.sizeOf142
  v164 := Tryz.zeroValue142
  g1 := by kernel_rfl
  g3 := by kernel_rfl
  g4 := by kernel_rfl }
theorem Tryz.Builder_Extra_155 : Builder.Extra Tryz.prog Tryz.lays155_ren := {
  sizeBuilder := by kernel_rfl
  liesBuilder := by kernel_rfl
  t5 := Tryz.underlying5
  a5 := Tryz.isAgg5
  z5 := Tryz.sizeOf5
  v5 := Tryz.zeroValue5
  infoByte := by kernel_rfl
  cellsByte := by kernel_rfl
  sizeByte := by kernel_rfl
  neB5 := by decide }
open Go.RowKit Go.Lib in
/-- strings.ReplaceAll: "ReplaceAll returns a copy of the string s with all non-overlapping instances of old replaced by new.": AT AN old THAT IS NOT EMPTY: 'Lib.replaceAll s old new'. (LAID: no walk: one application.) -/
theorem Tryz.strings_ReplaceAll (s old new : ByteArray) (m : Int) (w : World) (hs : s.size < 4294967281) (hm : w.cell? ⟨1, 0, none⟩ = some (.int .i64 m)) (h1 : 1 ≤ old.size) (hlen : s.size + Lib.countB s old * new.size ≤ 140737488355328) :
    Calls Tryz.prog 117 #[.string s, .string old, .string new] w fun e w' =>
      e = .returned (.string ⟨(Lib.replaceAll s.data.toList old.data.toList new.data.toList).toArray⟩) ∧ Below w.heap.size w w' := Any.strings_ReplaceAll Tryz.lays155 Tryz.Builder_Extra_155 s old new m w hs hm h1 hlen
def Tryz.lays152_ren : Go.Shelf.Ren := ⟨fun | 152 => 104 | 137 => 118 | 119 => 119 | 224 => 120 | 225 => 121 | 217 => 125 | 266 => 131 | n => n, fun | 9 => 9 | 21 => 21 | 3 => 3 | 4 => 4 | 5 => 5 | 0 => 0 | 46 => 140 | n => n, fun | n => n⟩
theorem Tryz.lays152 : Go.Proofs.Lays.n152 Tryz.prog Tryz.lays152_ren := {
  mixed := by kernel_rfl
  f119 := Tryz.func119.trans (congrArg some (by kernel_rfl))
  f137 := Tryz.func118.trans (congrArg some (by kernel_rfl))
  f152 := Tryz.func104.trans (congrArg some (by kernel_rfl))
  f217 := Tryz.func125.trans (congrArg some (by kernel_rfl))
  f224 := Tryz.func120.trans (congrArg some (by kernel_rfl))
  f225 := Tryz.func121.trans (congrArg some (by kernel_rfl))
  f266 := Tryz.func131.trans (congrArg some (by kernel_rfl))
  t0 := Tryz.underlying0
  a0 := Tryz.isAgg0
  z0 := Tryz.sizeOf0
  v0 := Tryz.zeroValue0
  t3 := Tryz.underlying3
  a3 := Tryz.isAgg3
  z3 := Tryz.sizeOf3
  v3 := Tryz.zeroValue3
  t4 := Tryz.underlying4
  a4 := Tryz.isAgg4
  z4 := Tryz.sizeOf4
  v4 := Tryz.zeroValue4
  t5 := Tryz.underlying5
  a5 := Tryz.isAgg5
  z5 := Tryz.sizeOf5
  v5 := Tryz.zeroValue5
  t9 := Tryz.underlying9
  a9 := Tryz.isAgg9
  z9 := Tryz.sizeOf9
  v9 := Tryz.zeroValue9
  t21 := Tryz.underlying21
  a21 := Tryz.isAgg21
  z21 := Tryz.sizeOf21
  v21 := Tryz.zeroValue21
  t46 := Tryz.underlying140
  a46 := Tryz.isAgg140
  z46 := Tryz.sizeOf140
  v46 := Tryz.zeroValue140 }
open Go.RowKit Go.Lib in
theorem Tryz.strings_IndexRune_ascii (s : ByteArray) (r : Int) (w : World) (h0 : 0 ≤ r) (h1 : r < 128) :
    Calls Tryz.prog 104 #[.string s, .int .i32 r] w fun e w' => e = .returned (.int .i64 (Lib.indexByte s.data.toList r.toNat.toUInt8)) ∧ w' = w := Any.strings_IndexRune_ascii Tryz.lays152 s r w h0 h1
def Tryz.lays226_ren : Go.Shelf.Ren := ⟨fun | 226 => 105 | n => n, fun | 3 => 3 | 4 => 4 | n => n, fun | n => n⟩
theorem Tryz.lays226 : Go.Proofs.Lays.n226 Tryz.prog Tryz.lays226_ren := {
  mixed := by kernel_rfl
  f226 := Tryz.func105.trans (congrArg some (by kernel_rfl))
  t3 := Tryz.underlying3
  a3 := Tryz.isAgg3
  z3 := Tryz.sizeOf3
  v3 := Tryz.zeroValue3
  t4 := Tryz.underlying4
  a4 := Tryz.isAgg4
  z4 := Tryz.sizeOf4
  v4 := Tryz.zeroValue4 }
open Go.RowKit Go.Lib in
theorem Tryz.strings_shouldUseASCIISet (n : Int) (w : World) :
    Calls Tryz.prog 105 #[.int .i64 n] w fun e w' => e = .returned (.bool (decide (8 < n))) ∧ w' = w := Any.strings_shouldUseASCIISet Tryz.lays226 n w
def Tryz.lays153_ren : Go.Shelf.Ren := ⟨fun | 153 => 88 | 152 => 104 | 226 => 105 | 227 => 106 | 228 => 107 | 137 => 118 | 119 => 119 | 224 => 120 | 225 => 121 | 217 => 125 | 266 => 131 | n => n, fun | 9 => 9 | 3 => 3 | 4 => 4 | 5 => 5 | 21 => 21 | 117 => 131 | 116 => 130 | 0 => 0 | 46 => 140 | 124 => 141 | n => n, fun | n => n⟩
theorem Tryz.lays153 : Go.Proofs.Lays.n153 Tryz.prog Tryz.lays153_ren := {
  mixed := by kernel_rfl
  f119 := Tryz.func119.trans (congrArg some (by kernel_rfl))
  f137 := Tryz.func118.trans (congrArg some (by kernel_rfl))
  f152 := Tryz.func104.trans (congrArg some (by kernel_rfl))
  f153 := Tryz.func88.trans (congrArg some (by kernel_rfl))
  f217 := Tryz.func125.trans (congrArg some (by kernel_rfl))
  f224 := Tryz.func120.trans (congrArg some (by kernel_rfl))
  f225 := Tryz.func121.trans (congrArg some (by kernel_rfl))
  f226 := Tryz.func105.trans (congrArg some (by kernel_rfl))
  f227 := Tryz.func106.trans (congrArg some (by kernel_rfl))
  f228 := Tryz.func107.trans (congrArg some (by kernel_rfl))
  f266 := Tryz.func131.trans (congrArg some (by kernel_rfl))
  t0 := Tryz.underlying0
  a0 := Tryz.isAgg0
  z0 := Tryz.sizeOf0
  v0 := Tryz.zeroValue0
  t3 := Tryz.underlying3
  a3 := Tryz.isAgg3
  z3 := Tryz.sizeOf3
  v3 := Tryz.zeroValue3
  t4 := Tryz.underlying4
  a4 := Tryz.isAgg4
  z4 := Tryz.sizeOf4
  v4 := Tryz.zeroValue4
  t5 := Tryz.underlying5
  a5 := Tryz.isAgg5
  z5 := Tryz.sizeOf5
  v5 := Tryz.zeroValue5
  t9 := Tryz.underlying9
  a9 := Tryz.isAgg9
  z9 := Tryz.sizeOf9
  v9 := Tryz.zeroValue9
  t21 := Tryz.underlying21
  a21 := Tryz.isAgg21
  z21 := Tryz.sizeOf21
  v21 := Tryz.zeroValue21
  t46 := Tryz.underlying140
  a46 := Tryz.isAgg140
  z46 := Tryz.sizeOf140
  v46 := Tryz.zeroValue140
  t116 := Tryz.underlying130
  a116 := Tryz.isAgg130
  z116 := Tryz.sizeOf130
  t117 := Tryz.underlying131
  a117 := Tryz.isAgg131
  z117 := Tryz.sizeOf131
  v117 := Tryz.zeroValue131
  t124 := Tryz.underlying141
  a124 := Tryz.isAgg141
  z124 := Tryz.sizeOf141
  v124 := Tryz.zeroValue141 }
open Go.RowKit Go.Lib in
/-- chars is one ASCII byte. (LAID: no walk: one application.) -/
theorem Tryz.strings_IndexAny_one (s chars : ByteArray) (w : World) (h1 : chars.size = 1) (hascii : ∀ (j : Nat) b, chars.data.toList[j]? = some b → b.toNat < 128) :
    Calls Tryz.prog 88 #[.string s, .string chars] w fun e w' => e = .returned (.int .i64 (Lib.indexAny s.data.toList chars.data.toList)) ∧ w' = w := Any.strings_IndexAny_one Tryz.lays153 s chars w h1 hascii
open Go.RowKit Go.Lib in
theorem Tryz.strings_IndexAny_long (hv116 : ∀ w, (zeroValue 130).run Tryz.prog w = .ok (.agg (Array.replicate 256 (.bool false))) w) (s chars : ByteArray) (w : World) (h2 : 2 ≤ chars.size) (h8 : 8 < s.size) (hs : s.size < 4294967281) (hcs : chars.size < 4294967281) (hascii : ∀ (j : Nat) b, chars.data.toList[j]? = some b → b.toNat < 128) :
    Calls Tryz.prog 88 #[.string s, .string chars] w fun e w' => e = .returned (.int .i64 (Lib.indexAny s.data.toList chars.data.toList)) ∧ w' = ((w.alloc (.cells (Lib.setCells chars.data.toList) 130)).alloc (.cells (Lib.setCells chars.data.toList) 130)) := Any.strings_IndexAny_long Tryz.lays153 hv116 (by kernel_rfl) s chars w h2 h8 hs hcs hascii
end Go.Proofs
/-
  The package-level variables that are read, as far as this program has them; what the library's functions ask of them.
-/
namespace Go.Proofs.YtgfbieplidpebaaGreatDoor
open Go.Eng Go.Pct
set_option linter.unusedVariables false

/-- the cells of the marks that are escaped -/
def markCells : List Value := [str [38], str [38, 97, 109, 112, 59], str [60], str [38, 108, 116, 59], str [62], str [38, 103, 116, 59], str [34], str [38, 113, 117, 111, 116, 59], str [39], str [38, 35, 51, 57, 59]]
structure Glob (M : Ghost) : Prop where
  maxLen : ∃ cs T fz m, M 1 (.cells cs T fz) ∧ cs[0]? = some (.int .i64 m)
  marks : ∃ cs T fz, M 0 (.cells cs T fz) ∧ ∀ j, j < 10 → cs[j]? = markCells[j]?

variable {M : Ghost} {w : World}
theorem Glob.mono {M M' : Ghost} (h : Glob M) (hm : ∀ b o, M b o → M' b o) : Glob M' := by
  constructor
  · obtain ⟨cs, T, fz, m, h1, h2⟩ := h.maxLen; exact ⟨cs, T, fz, m, hm _ _ h1, h2⟩
  · obtain ⟨cs, T, fz, h1, h2⟩ := h.marks; exact ⟨cs, T, fz, hm _ _ h1, h2⟩
theorem maxLen_at (hG : Glob M) (hM : Laid M w) : ∃ m, w.cell? ⟨1, 0, none⟩ = some (.int .i64 m) := by
  obtain ⟨cs, T, fz, m, h1, h2⟩ := hG.maxLen
  exact ⟨m, by rw [cell_of (hM _ _ h1)]; exact h2⟩
theorem baSize (l : List UInt8) : (⟨l.toArray⟩ : ByteArray).size = l.length := by simp [ByteArray.size]
theorem ext_grow (w : World) (k : Nat) (os : Array Obj) : Ext w (Go.Sort.grow (w.drewN k) os) :=
  ⟨rfl, rfl, rfl, by simp [Go.Sort.grow], fun b hb _ => by show (w.heap ++ os)[b]? = w.heap[b]?; rw [Array.getElem?_append_left hb]⟩
end Go.Proofs.YtgfbieplidpebaaGreatDoor
/-
  The engine at a region that draws its order and in which one operation turns a block that the others do not look at: told as in EngD, the worlds before and behind related by whatever relation serves. Nothing of the program stands here.
-/
namespace Go.Eng
open Go.RowKit
set_option linter.unusedVariables false

def SteadyX (X : World → World → Prop) (V : Tell) : Prop := ∀ u w w', X w w' → V u w → V u w'
theorem steadyX_exact (X : World → World → Prop) (c : Bool) (v : Value) : SteadyX X (exact1 c v) := fun _ _ _ _ h => h
section
variable {P : Program} {n : Nat} {E : Env} {C : World → Prop} {k : Kont} {ops : Array Oper} {X : World → World → Prop}
structure ObX (P : Program) (ops : Array Oper) (n : Nat) (C : World → Prop) (X : World → World → Prop) (o : Oper) (G : REnv) (V : Tell) : Prop where
  run : ∀ a w, C w → a.defers = [] → a.tmps.size = n → HR G (· ∈ o.looksAt ops) a w →
    (Region.wanted o (yielded ops a.tmps) = true → o.wp P a w (fun a' w' => ∃ v, a' = a.put o.dst v ∧ (o.dst = none → v = undef) ∧ V v w' ∧ X w w' ∧ C w') (fun _ _ _ => False)) ∧
    (Region.wanted o (yielded ops a.tmps) = false → V undef w)
def putG (o : Oper) (V : Tell) (G : REnv) : REnv := match o.dst with
  | some d => (d, V) :: G
  | none => G
def putQ (o : Oper) (V : Tell) (Q : World → Prop) : World → Prop := match o.dst with
  | some _ => Q
  | none => fun w => Q w ∧ V undef w
def WDsX (P : Program) (ops : Array Oper) (n : Nat) (C : World → Prop) (X : World → World → Prop) : List Oper → REnv → (World → Prop) → (REnv → (World → Prop) → Prop) → Prop
  | [], G, Q, fin => fin G Q
  | o :: rest, G, Q, fin => ∃ V, (∀ d, o.dst = some d → d < n) ∧ SteadyX X V ∧ ObX P ops n C X o G V ∧ WDsX P ops n C X rest (putG o V G) (putQ o V Q) fin

theorem wds_outX : ∀ (l : List Oper) (i : Nat) (G : REnv) (Q : World → Prop) (fin : REnv → (World → Prop) → Prop), (∀ j, j < l.length → ops[i + j]? = l[j]?) → WDsX P ops n C X l G Q fin →
    ∃ (Vs : Nat → Tell) (Q' : World → Prop), (∀ j, j < l.length → ∃ o, ops[i + j]? = some o ∧ (∀ d, o.dst = some d → d < n) ∧ SteadyX X (Vs j) ∧ ObX P ops n C X o (Gam (ops.extract i ops.size) Vs G j) (Vs j)) ∧ fin (Gam (ops.extract i ops.size) Vs G l.length) Q' ∧
      ∀ w, Q w → (∀ j o, j < l.length → ops[i + j]? = some o → o.dst = none → Vs j undef w) → Q' w
  | [], i, G, Q, fin, _, h => ⟨fun _ => fun _ _ => True, Q, by simp, h, fun _ hq _ => hq⟩
  | o :: rest, i, G, Q, fin, hl, h => by
    obtain ⟨V, hdn, hst, hob, hr⟩ := h
    have hoi : ops[i]? = some o := by simpa using hl 0 (by simp)
    obtain ⟨Vs, Q', h1, h2, h3⟩ := wds_outX rest (i + 1) (putG o V G) (putQ o V Q) fin (fun j hj => by have := hl (j + 1) (by simp; omega); simpa [Nat.add_assoc, Nat.add_comm 1 j] using this) hr
    have hilt : i < ops.size := by
      rcases Nat.lt_or_ge i ops.size with h' | h'
      · exact h'
      · simp [Array.getElem?_eq_none h'] at hoi
    have key : ∀ j, Gam (ops.extract i ops.size) (fun | 0 => V | q + 1 => Vs q) G (j + 1) = Gam (ops.extract (i + 1) ops.size) Vs (putG o V G) j := by
      intro j
      induction j with
      | zero =>
        have : (ops.extract i ops.size)[0]? = some o := by rw [Array.getElem?_extract, if_pos (by omega)]; simpa using hoi
        cases hd : o.dst <;> simp [Gam, this, putG, hd]
      | succ j ih =>
        have e : (ops.extract i ops.size)[j + 1]? = (ops.extract (i + 1) ops.size)[j]? := by
          simp only [Array.getElem?_extract]
          have : i + (j + 1) = i + 1 + j := by omega
          rw [this]
          by_cases h' : j < min ops.size ops.size - (i + 1)
          · rw [if_pos (by omega), if_pos h']
          · rw [if_neg (by omega), if_neg h']
        have hS : ∀ (q : Nat) (A : Array Oper) (W : Nat → Tell) (G : REnv), Gam A W G (q + 1) = match (A[q]?).bind (·.dst) with | some d => (d, W q) :: Gam A W G q | none => Gam A W G q := fun _ _ _ _ => rfl
        rw [hS (j + 1) (ops.extract i ops.size) _ G, hS j (ops.extract (i + 1) ops.size) Vs, e, ih]
    refine ⟨fun | 0 => V | q + 1 => Vs q, Q', ?_, ?_, ?_⟩
    · intro j hj
      cases j with
      | zero => exact ⟨o, by simpa using hoi, hdn, hst, hob⟩
      | succ j =>
        obtain ⟨o', ho', hdn', hst', hob'⟩ := h1 j (by simpa using hj)
        exact ⟨o', by rw [← ho']; congr 1; omega, hdn', hst', by rw [key]; exact hob'⟩
    · rw [List.length_cons, key]; exact h2
    · intro w hq hall
      refine h3 w ?_ (fun j p hj hp hd => ?_)
      · unfold putQ
        cases hd : o.dst with
        | some d => exact hq
        | none => exact ⟨hq, hall 0 o (by simp) (by simpa using hoi) hd⟩
      · exact hall (j + 1) p (by simpa using hj) (by rw [← hp]; congr 1; omega) hd

/-- The state in the midst of the first part. -/
structure MidX (ops : Array Oper) (n m : Nat) (C : World → Prop) (Vs : Nat → Tell) (G0 : REnv) (listed : Array Bool) (a : Act) (w : World) : Prop where
  closed : Closed ops listed
  inC : C w
  defers : a.defers = []
  size : a.tmps.size = n
  few : ∀ j, On listed j → j < m
  vals : ∀ j o d, On listed j → ops[j]? = some o → o.dst = some d → ∃ u, a.tmps[d]? = some u ∧ Vs j u w
  facts : ∀ j o, On listed j → ops[j]? = some o → o.dst = none → Vs j undef w
  base : ∀ s U, lookR G0 s = some U → (∀ j o, On listed j → ops[j]? = some o → o.dst ≠ some s) → ∃ u, a.tmps[s]? = some u ∧ U u w

theorem mid_allX {Q : Exit → Act → World → Prop} {m : Nat} {Vs : Nat → Tell} {G0 : REnv} (hord : orderly ops m = true) (hm : m ≤ ops.size) (hst0 : ∀ s U, lookR G0 s = some U → SteadyX X U) (hrefl : ∀ w, X w w)
    (hV : ∀ j, j < m → ∃ o, ops[j]? = some o ∧ (∀ d, o.dst = some d → d < n) ∧ SteadyX X (Vs j) ∧ ObX P ops n C X o (Gam ops Vs G0 j) (Vs j))
    (hfin : ∀ a w, C w → HA n (Gam ops Vs G0 m) a w → (∀ j o, j < m → ops[j]? = some o → o.dst = none → Vs j undef w) → wpList P ops Q (ops.toList.drop m) a w) :
    ∀ (fuel : Nat) (listed : Array Bool) (a : Act) (w : World), left listed = fuel → MidX ops n m C Vs G0 listed a w → wpAny P .any ops Q fuel listed a w := by
  -- all of the prefix is done
  have done : ∀ (fuel : Nat) (listed : Array Bool) (a : Act) (w : World), left listed = fuel → MidX ops n m C Vs G0 listed a w → (∀ j, j < m → On listed j) → wpAny P .any ops Q fuel listed a w := by
    intro fuel listed a w hf hmid hall
    have hon : ∀ j, On listed j ↔ j < m := fun j => ⟨hmid.few j, hall j⟩
    have hlen : left listed = (ops.toList.drop m).length := by
      have : listed = Array.ofFn (n := ops.size) (fun i => decide (i.val < m)) := by
        apply Array.ext
        · simp [hmid.closed.size]
        · intro i h1 h2
          have := hon i
          simp [On, h1] at this
          simp
          cases hb : listed[i] with
          | true => simp [← this, hb]
          | false => simp [hb] at this; simp; omega
      have hc : ∀ (q : Nat), (List.ofFn (n := q) (fun i => decide (i.val < m))).countP (fun b => !b) = q - m := by
        intro q
        induction q with
        | zero => simp
        | succ q ih =>
          rw [List.ofFn_succ_last]
          simp only [List.countP_append, Fin.val_castSucc] 
          rw [ih]
          by_cases h' : q < m
          · simp [h']; omega
          · simp [h']; omega
      unfold left
      rw [this, Array.toList_ofFn, hc]
      simp
    rw [← hf, hlen]
    refine tail_any hord (ops.toList.drop m) m listed a w (Nat.le_refl _) (by simp; omega) (fun j hj => by simp) hmid.closed.size hon (hfin a w hmid.inC ⟨hmid.defers, hmid.size, ?_⟩ (fun j o hj ho hd => hmid.facts j o (hall j hj) ho hd))
    intro s U hs _
    rcases look_gam hs with ⟨j, o, hj, ho, hd, rfl⟩ | ⟨h0, hn⟩
    · exact hmid.vals j o s (hall j hj) ho hd
    · exact hmid.base s U h0 (fun j o hj ho => hn j o ((hon j).1 hj) ho)
  intro fuel
  induction fuel with
  | zero =>
    intro listed a w hf hmid
    exact done 0 listed a w hf hmid (fun j hj => left_zero hf (by rw [hmid.closed.size]; omega))
  | succ fuel ih =>
    intro listed a w hf hmid
    by_cases hall : ∀ j, j < m → On listed j
    · exact done _ listed a w hf hmid hall
    have hready : ∃ i o, i < m ∧ ops[i]? = some o ∧ ¬ On listed i ∧ ∀ l ∈ edges o, On listed l := by
      have : ∃ i, i < m ∧ ¬ On listed i := by
        rcases Classical.em (∃ i, i < m ∧ ¬ On listed i) with h' | h'
        · exact h'
        · exact absurd (fun j hj => Classical.byContradiction fun hn => h' ⟨j, hj, hn⟩) hall
      obtain ⟨i, ⟨hi, hni⟩, hleast⟩ := exists_least this
      have hilt : i < ops.size := by omega
      refine ⟨i, ops[i], hi, by simp [hilt], hni, fun l hl => ?_⟩
      have hli := (orderly_at hord (i := i) (o := ops[i]) (by simp [hilt])).1 l hl
      exact Classical.byContradiction fun hn => by have := hleast l ⟨by omega, hn⟩; omega
    refine ⟨fun h0 => ?_, fun i hi => ?_⟩
    · obtain ⟨i, o, him, ho, hno, hr⟩ := hready
      have : i ∈ Region.ready .any ops listed := (ready_iff hmid.closed.size).2 ⟨o, ho, hno, hr⟩
      rw [h0] at this; cases this
    · obtain ⟨o, ho, hno, hr⟩ := (ready_iff hmid.closed.size).1 hi
      have hord1 := orderly_at hord ho
      have him : i < m := by
        rcases Nat.lt_or_ge i m with h' | h'
        · exact h'
        · obtain ⟨q, p, hqm, hp, hnq, _⟩ := hready
          exact absurd (anc_on hmid.closed (i + 1) i o ho hr q (hord1.2.2.2 h' q (by omega))) hnq
      obtain ⟨o', ho', hdn, hst, hob⟩ := hV i him
      obtain rfl : o = o' := by rw [ho] at ho'; simpa using ho'
      have hilt : i < listed.size := by rw [hmid.closed.size]; omega
      have hHR : HR (Gam ops Vs G0 i) (· ∈ o.looksAt ops) a w := by
        intro s U hs hlook
        rcases look_gam hs with ⟨j, p, hj, hp, hd', rfl⟩ | ⟨h0, hn⟩
        · have := ((hord1.2.2.1 j p s hp (by omega) hd').2 hlook)
          rw [if_pos hj] at this
          exact hmid.vals j p s (hr j this) hp hd'
        · refine hmid.base s U h0 (fun j p hj hp hs' => ?_)
          by_cases hji : j < i
          · exact hn j p hji hp hs'
          · have hne : j ≠ i := fun e => hno (e ▸ hj)
            have := ((hord1.2.2.1 j p s hp hne hs').2 hlook)
            rw [if_neg hji] at this
            exact hno (hmid.closed.back j p hp hj i this)
      have hnext : ∀ v w', (o.dst = none → v = undef) → Vs i v w' → X w w' → C w' → wpAny P .any ops Q fuel (listed.setIfInBounds i true) (a.put o.dst v) w' := by
        intro v w' hun hv hx hC'
        have hsz : (a.put o.dst v).tmps.size = n := by
          cases hd : o.dst <;> simp [Act.put, hmid.size]
        have hdf : (a.put o.dst v).defers = [] := by
          cases hd : o.dst <;> simp [Act.put, hmid.defers]
        have hoth : ∀ s, o.dst ≠ some s → (a.put o.dst v).tmps[s]? = a.tmps[s]? := by
          intro s hs
          cases hd : o.dst with
          | none => simp [Act.put]
          | some d =>
            have hne : d ≠ s := fun e => hs (by rw [hd, e])
            simp only [Act.put]; rw [Array.getElem?_setIfInBounds_ne hne]
        refine ih _ _ _ (by have := left_set hilt hno; omega) ⟨⟨by simpa using hmid.closed.size, ?_⟩, hC', hdf, hsz, ?_, ?_, ?_, ?_⟩
        · intro q p hp hq j hj
          rw [on_set hilt] at hq ⊢
          rcases hq with rfl | hq
          · rw [ho] at hp; obtain rfl : o = p := by simpa using hp
            exact .inr (hr j hj)
          · exact .inr (hmid.closed.back q p hp hq j hj)
        · intro j hj
          rw [on_set hilt] at hj
          rcases hj with rfl | hj
          · exact him
          · exact hmid.few j hj
        · intro j p d' hj hp hd'
          rw [on_set hilt] at hj
          by_cases e : j = i
          · subst e; rw [ho] at hp; obtain rfl : o = p := by simpa using hp
            have hdn' := hdn d' hd'
            exact ⟨v, by rw [hd']; simp [Act.put, hmid.size, hdn'], hv⟩
          · have hj : On listed j := hj.resolve_left e
            obtain ⟨u, hu, hVu⟩ := hmid.vals j p d' hj hp hd'
            have hne := (hord1.2.2.1 j p d' hp e hd').1
            obtain ⟨o2, ho2, _, hst2, _⟩ := hV j (hmid.few j hj)
            exact ⟨u, by rw [hoth d' hne]; exact hu, hst2 _ _ _ hx hVu⟩
        · intro j p hj hp hd'
          rw [on_set hilt] at hj
          by_cases e : j = i
          · subst e; rw [ho] at hp; obtain rfl : o = p := by simpa using hp
            rw [← hun hd']; exact hv
          · have hj : On listed j := hj.resolve_left e
            obtain ⟨o2, ho2, _, hst2, _⟩ := hV j (hmid.few j hj)
            exact hst2 _ _ _ hx (hmid.facts j p hj hp hd')
        · intro s U hs hn
          have hne : o.dst ≠ some s := hn i o (by rw [on_set hilt]; exact .inl rfl) ho
          obtain ⟨u, hu, hU⟩ := hmid.base s U hs (fun j p hj hp => hn j p (by rw [on_set hilt]; exact .inr hj) hp)
          exact ⟨u, by rw [hoth s hne]; exact hu, hst0 s U hs _ _ _ hx hU⟩
      obtain ⟨h1, h2⟩ := hob.run a w hmid.inC hmid.defers hmid.size hHR
      unfold wpOp
      simp only [ho]
      split
      · rename_i hw
        refine .inl ?_
        have := h1 hw
        unfold Oper.wp at this ⊢
        generalize (execOp a.eval o).run P w = r at *
        cases r with
        | ok nx w1 =>
          cases nx <;> simp only [Oper.upon] at this ⊢
          case value u => obtain ⟨v, e, hun, h3, h4, h5⟩ := this; rw [e]; exact hnext v _ hun h3 h4 h5
          case skip => obtain ⟨v, e, hun, h3, h4, h5⟩ := this; rw [e]; exact hnext v _ hun h3 h4 h5
          case defer => obtain ⟨v, e, hun, h3, h4, h5⟩ := this; rw [e]; exact hnext v _ hun h3 h4 h5
          case enter f args =>
            refine this.mono fun e w2 he => ?_
            cases e with
            | returned u => obtain ⟨v, e, hun, h3, h4, h5⟩ := he; show wpAny P .any ops Q fuel _ (a.put o.dst u) w2; rw [e]; exact hnext v _ hun h3 h4 h5
            | panicked c => exact he.elim
            | outgrown => obtain ⟨_, _, h⟩ := he; exact h.elim
          case row row args => refine this.mono fun u w2 he => ?_; obtain ⟨v, e, hun, h3, h4, h5⟩ := he; rw [e]; exact hnext v _ hun h3 h4 h5
        | halt x w1 => cases x <;> simp only [Oper.upon] at this
      · rename_i hw
        have hw' : Region.wanted o (yielded ops a.tmps) = false := by simpa using hw
        exact hnext undef w (fun _ => rfl) (h2 hw') (hrefl _) hmid.inC


/-- The told part (exact entries only), the facts that its writers leave; what is left is walked in the order of the text. -/
structure WX (P : Program) (ops : Array Oper) (l : List Oper) (n : Nat) (E : Env) (C : World → Prop) (X : World → World → Prop) (Q : World → Prop) (tail : List Oper) (k : Kont) : Prop where
  run : ∀ G, (∀ s, lookR G s = (look E s).map fun cv => exact1 cv.1 cv.2) → WDsX P ops n C X l G Q (fun G' Q' => ∀ a w, C w → Q' w → HA n G' a w → wpList P ops (k.post P) tail a w)
theorem wc_drawX {id : Nat} {l : List Oper} (m : Nat) (X : World → World → Prop) (C' : World → Prop) (hm : P.follows .mixedOrders = true) (hml : Nat.ble m l.length = true) (hord : orderly l.toArray m = true) (hrefl : ∀ w, X w w) (hC : ∀ w, C w → C' w.drew)
    (h : WX P l.toArray (l.take m) n E C' X (fun _ => True) (l.drop m) k) : WC P (.region id l.toArray true) n E C k := by
  have hml : m ≤ l.length := Nat.le_of_ble_eq_true hml
  refine ⟨fun a w ha hw => wp_region_any hm ?_⟩
  have h := h.run (ofEnv E) (by intro s; rw [lookR_ofEnv])
  obtain ⟨Vs, Q', hV, hfin, hQ⟩ := wds_outX (ops := l.toArray) (l.take m) 0 _ _ _ (by intro j hj; simp at hj; simp [hj]) h
  have hex : l.toArray.extract 0 l.toArray.size = l.toArray := by simp
  rw [hex] at hV hfin
  have hlen : (l.take m).length = m := by simp; omega
  rw [hlen] at hV hfin hQ
  refine mid_allX (m := m) (C := C') (X := X) (G0 := ofEnv E) hord (by simpa using hml) ?_ hrefl (fun j hj => ?_) (fun a w hCw hA hf => by simpa using hfin a w hCw (hQ w trivial (fun j o hj ho hd => hf j o hj (by simpa using ho) hd)) hA) _ _ a _ (start_left _) ?_
  · intro s U hs
    rw [lookR_ofEnv] at hs
    obtain ⟨cv, _, rfl⟩ := Option.map_eq_some_iff.1 hs
    exact steadyX_exact _ _ _
  · obtain ⟨o, h1, h2⟩ := hV j hj
    exact ⟨o, by simpa using h1, h2⟩
  · refine ⟨⟨by simp, fun i o _ hi => absurd hi (start_on _ _)⟩, hC w hw, ha.defers, ha.size, fun j hj => absurd hj (start_on _ _), fun j o d hj => absurd hj (start_on _ _), fun j o hj => absurd hj (start_on _ _), ?_⟩
    intro s U hs _
    rw [lookR_ofEnv] at hs
    obtain ⟨cv, hcv, rfl⟩ := Option.map_eq_some_iff.1 hs
    exact ⟨_, ha.reads s cv.1 cv.2 hcv, rfl⟩
theorem wx_nil {Q : World → Prop} {tail : List Oper} (h : WL P ops tail n E (fun w => C w ∧ Q w) k) : WX P ops [] n E C X Q tail k := ⟨fun G hG a w hw hq hA => h.run a w ⟨hA.1, hA.2.1, fun i c v hi => by
  obtain ⟨u, hu, hU⟩ := hA.2.2 i (exact1 c v) (by rw [hG]; simp [hi]) trivial
  rw [hu, hU]⟩ ⟨hw, hq⟩⟩
theorem wx_v {d : Nat} {cg : Bool} {v : Value} {o : Oper} {rest tail : List Oper} {Q : World → Prop} (hX : ∀ w w', Ext w w' → X w w') (hg : gd ops E o.guard = some cg) (ho : o.dst = some d) (hd : Nat.blt d n = true) (hb : belowN n E = true) (hsel : noSel o = true)
    (hv : OpV P n E C o cg v) (h : WX P ops rest n ((d, cg, v) :: E) C X Q tail k) : WX P ops (o :: rest) n E C X Q tail k := ⟨fun G hG => by
  have hd : d < n := by simpa [Nat.blt_eq] using hd
  refine ⟨exact1 cg v, (fun d' hd' => by rw [ho] at hd'; cases hd'; exact hd), steadyX_exact _ _ _, ⟨fun a w hw had has hHR => ?_⟩, ?_⟩
  · obtain ⟨b, hb1, hb2, hb3⟩ := turn (ops := ops) (E := E) o had has (fun i c u hi hm => by
      obtain ⟨u', h1, h2⟩ := hHR i (exact1 c u) (by rw [hG]; simp [hi]) hm
      rw [h1, h2]) (noSel_spec hsel) (belowN_look hb)
    have hwb := wanted_gd (ops := ops) hb1 hg
    rw [hb3] at hwb
    refine ⟨fun hwant => ?_, fun hno => ?_⟩
    · have hcg : cg = true := by rw [← hwb]; exact hwant
      have := hv.run hcg b hb1 w hw
      have : YAt P o a C w v := by unfold YAt at *; rw [hb2] at this; exact this
      exact this.wp hw fun w' hw' hx => ⟨v, rfl, (fun h => by rw [ho] at h; cases h), by simp [exact1, hcg], hX _ _ hx, hw'⟩
    · have hcg : cg = false := by rw [← hwb]; exact hno
      simp [exact1, hcg]
  · unfold putG putQ
    rw [ho]
    refine h.run _ ?_
    intro s
    simp only [lookR, look]
    by_cases e : d = s
    · subst e; simp
    · rw [beq_no e, cond_false, cond_false]; exact hG s⟩
/-- a writer: what it leaves is a fact -/
theorem wx_w {o : Oper} {rest tail : List Oper} {Q F : World → Prop} (hg : o.guard = none) (ho : o.dst = none) (hb : belowN n E = true) (hsel : noSel o = true) (hF : ∀ w w', X w w' → F w → F w')
    (hv : ∀ a w, Holds n E a → C w → ∃ w', (execOp a.eval o).run P w = .ok .skip w' ∧ X w w' ∧ C w' ∧ F w') (h : WX P ops rest n E C X (fun w => Q w ∧ F w) tail k) : WX P ops (o :: rest) n E C X Q tail k := ⟨fun G hG => by
  refine ⟨fun _ w => F w, (fun d' hd' => by rw [ho] at hd'; cases hd'), fun _ _ _ hx hf => hF _ _ hx hf, ⟨fun a w hw had has hHR => ?_⟩, ?_⟩
  · obtain ⟨b, hb1, hb2, hb3⟩ := turn (ops := ops) (E := E) o had has (fun i c u hi hm => by
      obtain ⟨u', h1, h2⟩ := hHR i (exact1 c u) (by rw [hG]; simp [hi]) hm
      rw [h1, h2]) (noSel_spec hsel) (belowN_look hb)
    refine ⟨fun _ => ?_, fun hno => by simp [Region.wanted, hg] at hno⟩
    obtain ⟨w', h1, h2, h3, h4⟩ := hv b w hb1 hw
    unfold Oper.wp
    rw [← hb2, h1, Oper.upon_skip, ho]
    exact ⟨undef, by simp [Act.put], fun _ => rfl, h4, h2, h3⟩
  · have e1 : putG o (fun _ w => F w) G = G := by unfold putG; rw [ho]
    have e2 : putQ o (fun _ w => F w) Q = fun w => Q w ∧ F w := by unfold putQ; rw [ho]
    rw [e1, e2]
    exact h.run G hG⟩
/-- laid for good from here on; that it is new is known -/
theorem wl_publish {w0 : World} {H1 H2 : List (Nat × Obj)} {M : Ghost} {l : List Oper} (h : (∀ p ∈ H1, w0.heap.size ≤ p.1) → WL P ops l n E (St w0 [] H2 (With M H1)) k) : WL P ops l n E (St w0 [] (H1 ++ H2) M) k :=
  ⟨fun a w ha hw => (h (fun p hp => by have := hw.new p (List.mem_append_left _ hp); simpa using this)).run a w ha hw.publish⟩
theorem wc_publish {w0 : World} {H1 H2 : List (Nat × Obj)} {M : Ghost} {c : Code} (h : (∀ p ∈ H1, w0.heap.size ≤ p.1) → WC P c n E (St w0 [] H2 (With M H1)) k) : WC P c n E (St w0 [] (H1 ++ H2) M) k :=
  ⟨fun a w ha hw => (h (fun p hp => by have := hw.new p (List.mem_append_left _ hp); simpa using this)).run a w ha hw.publish⟩
theorem since_new {w0 : World} {M0 M : Ghost} {H1 : List (Nat × Obj)} (h : Since w0 M0 M) (hn : ∀ p ∈ H1, w0.heap.size ≤ p.1) : Since w0 M0 (With M H1) := h.step (fun _ _ h => .inl h) (fun b o hb => hb.elim .inl fun hm => .inr (hn (b, o) hm))
/-- a class of worlds that leaves open what one block holds -/
theorem ov_ex {α : Type} {D : α → World → Prop} {o : Oper} {cg : Bool} {v : Value} (h : ∀ x, OpV P n E (D x) o cg v) : OpV P n E (fun w => ∃ x, D x w) o cg v := ⟨fun hc a ha w ⟨x, hw⟩ => by
  have := (h x).run hc a ha w hw
  unfold YAt at *
  generalize (execOp a.eval o).run P w = r at *
  cases r with
  | ok nx w1 =>
    cases nx <;> simp only [] at this ⊢
    case value u => exact this
    case enter f args => exact ⟨this.1, this.2.mono fun e w2 ⟨h1, h2, h3⟩ => ⟨h1, h2, x, h3⟩⟩
  | halt x w1 => simp only [] at this⟩
/-- a store of a whole block of one's own, run -/
theorem exec_store {w0 : World} {bs : List Nat} {H : List (Nat × Obj)} {M : Ghost} {x y : Operand} {ty t : TypeId} {pos : String} {af : Array Edge} {g : Option (Nat × Bool)} {b : Nat} {c l : List Value} {T : TypeId} {v : Value} {a : Act} {w : World} (hw : St w0 bs ((b, .cells c.toArray T (0, 0)) :: H) M w)
    (hx : a.eval x = .pointer (some ⟨b, 0, none⟩)) (hy : a.eval y = v) (hs : (P.info? t).map (·.size) = some v.cells.size) (hv : v.cells.toList = l) (hl : l.length = c.length) (hp : l.all plainV = true) :
    ∃ w', (execOp a.eval ⟨none, .store t x y, ty, pos, af, g⟩).run P w = .ok .skip w' ∧ Keep [b] w w' ∧ St w0 bs ((b, .cells l.toArray T (0, 0)) :: H) M w' ∧ w'.heap[b]? = some (.cells l.toArray T (0, 0)) := by
  have hsz : v.cells.size = l.length := by rw [← hv]; simp
  obtain ⟨w', h1, h2, h3⟩ := run_storeCells (P := P) (b := b) (o := 0) (T := T) v.cells.toList 0 c w (hw.get List.mem_cons_self) (by rw [hv]; omega) (by rw [hv]; exact hp)
  have e : setCells c (0 + 0) v.cells.toList = l := by
    rw [hv]
    have := set_past ([] : List Value) l c (by omega)
    simp only [List.nil_append, List.length_nil] at this
    rw [this, List.drop_eq_nil_of_le (by omega), List.append_nil]
  rw [e] at h3
  refine ⟨w', ?_, h2, hw.upd (o := .cells c.toArray T (0, 0)) Upd.here h2 h3, h3⟩
  simp [execOp, hx, hy, Instr.storeAt, Instr.sureAddr, storeVar, run_sizeOf hs, h1]
/-- what is known of a block said of it -/
theorem St.known {w0 : World} {bs : List Nat} {H : List (Nat × Obj)} {M : Ghost} {b : Nat} {o o' : Obj} {w : World} (h : St w0 bs ((b, o) :: H) M w) (hb : w.heap[b]? = some o') : St w0 bs ((b, o') :: H) M w := by
  refine ⟨h.keep, fun p hp => ?_, fun p hp => ?_, by simpa using h.nodup, h.laid, fun q r hm p hp => ?_⟩
  · rcases List.mem_cons.1 hp with rfl | hp
    · exact hb
    · exact h.own p (List.mem_cons_of_mem _ hp)
  · rcases List.mem_cons.1 hp with rfl | hp
    · exact h.new (b, o) List.mem_cons_self
    · exact h.new p (List.mem_cons_of_mem _ hp)
  · rcases List.mem_cons.1 hp with rfl | hp
    · exact h.apart q r hm (b, o) List.mem_cons_self
    · exact h.apart q r hm p (List.mem_cons_of_mem _ hp)
/-- one block may turn, once, to what is said -/
def TurnsTo (b : Nat) (o : Obj) (w w' : World) : Prop := Keep [b] w w' ∧ (w.heap[b]? = some o → w'.heap[b]? = some o)
theorem TurnsTo.refl (b : Nat) (o : Obj) (w : World) : TurnsTo b o w w := ⟨Keep.refl _ _, id⟩
theorem TurnsTo.ext {b : Nat} {o : Obj} {w w' : World} (h : Ext w w') : TurnsTo b o w w' := ⟨h.to, fun hb => by rw [h.block b (lt_of_get hb) (by simp)]; exact hb⟩
end
end Go.Eng
/-
  The engine at a call that is lent blocks of its caller's: told by a class of worlds ahead and behind. Nothing of the program stands here.
-/
namespace Go.Eng
open Go.RowKit
set_option linter.unusedVariables false

section
variable {P : Program} {n : Nat} {E : Env} {k : Kont} {ops : Array Oper} {rest : List Oper} {C C' : World → Prop}
variable {dst : Option Tmp} {ty : TypeId} {pos : String} {af : Array Edge} {g : Option (Nat × Bool)}
/-- what a lent call ends in -/
def RetC (C' : World → Prop) (v : Value) : Ending → World → Prop := fun e w' => e = .returned v ∧ C' w'
/-- A call that leads from one class of worlds to another. -/
theorem wl_callL {f : FuncId} {l : List Operand} {ats : Array TypeId} {vs : List (Bool × Value)} {args : Array Value} {d : Nat} {v : Value}
    (hg : gd ops E g = some true) (hf : ∀ args w, (callFunc f args).run P w = .ok (.enter f args) w) (hl : evg true E l = some vs) (hp : vs.all (·.1) = true) (hargs : vs.map (·.2) = args.toList) (hd : Nat.blt d n = true)
    (hc : ∀ w, C w → Calls P f args w (RetC C' v))
    (h : WL P ops rest n ((d, true, v) :: E) C' k) :
    WL P ops (⟨some d, .call ⟨.value (.func f), l.toArray, ats⟩, ty, pos, af, g⟩ :: rest) n E C k := by
  have hd : d < n := by simpa [Nat.blt_eq] using hd
  refine wl_op hg fun a w ha hw => ?_
  unfold Oper.wp
  rw [run_callf hf (args := args) (by rw [evg_eval ha hl (by simpa using hp), hargs]), Oper.upon_enter]
  refine (hc w hw).mono ?_
  rintro e w' ⟨rfl, hC⟩
  exact h.run _ w' (ha.put hd rfl) hC
/-- A lent call is its body's walk. -/
theorem calls_lent {fn : Func} {f : FuncId} {c : Code} {l : List Value} {w : World} {R : Ending → World → Prop} (hC : C w) (hf : P.funcs[f]? = some fn) (hb : fn.body = some c) {m : Nat} (hm : fn.ntmps = m) (hl : Nat.ble l.length m = true) {E0 : Env}
    (hE : ∀ i cc v, look E0 i = some (cc, v) → cc = true ∧ l[i]? = some v) (h : WC P c m E0 C (.fin (bodyPost P fn R))) : Calls P f l.toArray w R :=
  calls_ex hf hb hm (Nat.le_of_ble_eq_true hl) hE ⟨fun a w' ha hw => by subst hw; exact h.run a w' ha hC⟩
theorem wrl_tmp2 {fn : Func} {t u : Nat} {v v' r r' : Value} (hr : fn.results = #[.tmp t, .tmp u]) (ht : look E t = some (true, v')) (hu : look E u = some (true, r')) (hv : v' = v) (hv2 : r' = r) (hC : ∀ w, C w → C' w) : WR n E C (bodyPost P fn (RetC C' (.tuple #[v, r]))) := ⟨fun a w ha hw => by
  refine bodyPost_ret (v := .tuple #[v, r]) ?_ ha.defers ⟨rfl, hC _ hw⟩
  have h1 := ha.reads t true v' ht
  have h2 := ha.reads u true r' hu
  rw [results_tmp2 hr]
  simp [h1, h2, hv, hv2]⟩
/-- what a lent call ends in that lays something for good: blocks that are new since w0 -/
def RetCS (w0 : World) (bs : List Nat) (H : List (Nat × Obj)) (M : Ghost) (R : Ghost → Value → Prop) : Ending → World → Prop := fun e w' => ∃ v M', e = .returned v ∧ (∀ b o, M b o → M' b o) ∧ (∀ b o, M' b o → M b o ∨ w0.heap.size ≤ b) ∧ St w0 bs H M' w' ∧ R M' v
theorem wl_callLS {w0 : World} {bs : List Nat} {H : List (Nat × Obj)} {M : Ghost} {R : Ghost → Value → Prop} {f : FuncId} {l : List Operand} {ats : Array TypeId} {vs : List (Bool × Value)} {args : Array Value} {d : Nat}
    (hg : gd ops E g = some true) (hf : ∀ args w, (callFunc f args).run P w = .ok (.enter f args) w) (hl : evg true E l = some vs) (hp : vs.all (·.1) = true) (hargs : vs.map (·.2) = args.toList) (hd : Nat.blt d n = true)
    (hc : ∀ w, C w → Calls P f args w (RetCS w0 bs H M R))
    (h : ∀ v M', (∀ b o, M b o → M' b o) → (∀ b o, M' b o → M b o ∨ w0.heap.size ≤ b) → R M' v → WL P ops rest n ((d, true, v) :: E) (St w0 bs H M') k) :
    WL P ops (⟨some d, .call ⟨.value (.func f), l.toArray, ats⟩, ty, pos, af, g⟩ :: rest) n E C k := by
  have hd : d < n := by simpa [Nat.blt_eq] using hd
  refine wl_op hg fun a w ha hw => ?_
  unfold Oper.wp
  rw [run_callf hf (args := args) (by rw [evg_eval ha hl (by simpa using hp), hargs]), Oper.upon_enter]
  refine (hc w hw).mono ?_
  rintro e w' ⟨v, M', rfl, h1, h2, h3, h4⟩
  exact (h v M' h1 h2 h4).run _ w' (ha.put hd rfl) h3
/-- the return of such a call: what is laid -/
theorem wrl_lay2 {w0 : World} {H H' Hn : List (Nat × Obj)} {M M0 : Ghost} {R : Ghost → Value → Prop} {fn : Func} {t u : Nat} {v' r' : Value} (hr : fn.results = #[.tmp t, .tmp u]) (ht : look E t = some (true, v')) (hu : look E u = some (true, r'))
    (hs : Since w0 M0 M) (hH : (Hn ++ H').Sublist H) (hR : R (With M Hn) (.tuple #[v', r'])) : WR n E (St w0 [] H M) (bodyPost P fn (RetCS w0 [] H' M0 R)) := ⟨fun a w ha hw => by
  have h1 := ha.reads t true v' ht
  have h2 := ha.reads u true r' hu
  have hw2 := hw.drop hH
  refine bodyPost_ret (v := .tuple #[v', r']) ?_ ha.defers ⟨_, With M Hn, rfl, fun b o h => .inl (hs.1 b o h), fun b o h => ?_, hw2.publish, hR⟩
  · rw [results_tmp2 hr]
    simp [h1, h2]
  · rcases h with h | h
    · exact hs.2 b o h
    · rcases hw2.new (b, o) (List.mem_append_left _ h) with h3 | h3
      · exact .inr h3
      · cases h3⟩
end
end Go.Eng
/-
  The engine: results that the caller owns. Nothing of the program stands here.
-/
namespace Go.Eng
open Go.RowKit
set_option linter.unusedVariables false

section
variable {P : Program} {n : Nat} {E : Env} {k : Kont} {ops : Array Oper} {rest : List Oper} {C C' : World → Prop}
variable {w0 : World} {bs : List Nat} {H : List (Nat × Obj)} {M : Ghost}
theorem wr_own {M0 : Ghost} {fn : Func} {t : Nat} {v' : Value} {Hn : List (Nat × Obj)} {R : Ghost → List (Nat × Obj) → Value → Prop} (hr : fn.results = #[.tmp t]) (ht : look E t = some (true, v')) (hs : Since w0 M0 M) (hH : List.Sublist Hn H) (hR : R M Hn v') : WR n E (St w0 [] H M) (bodyPost P fn (RetS M0 w0 R)) := ⟨fun a w ha hw => by
  have h1 := ha.reads t true v' ht
  refine bodyPost_ret (v := v') ?_ ha.defers ⟨_, Hn, M, rfl, hs.1, hs.2, hw.drop hH, hR⟩
  rw [results_tmp hr]
  simp [h1]⟩
theorem wr_own2 {M0 : Ghost} {fn : Func} {t u : Nat} {v' r' : Value} {Hn : List (Nat × Obj)} {R : Ghost → List (Nat × Obj) → Value → Prop} (hr : fn.results = #[.tmp t, .tmp u]) (ht : look E t = some (true, v')) (hu : look E u = some (true, r')) (hs : Since w0 M0 M) (hH : List.Sublist Hn H) (hR : R M Hn (.tuple #[v', r'])) : WR n E (St w0 [] H M) (bodyPost P fn (RetS M0 w0 R)) := ⟨fun a w ha hw => by
  have h1 := ha.reads t true v' ht
  have h2 := ha.reads u true r' hu
  refine bodyPost_ret (v := .tuple #[v', r']) ?_ ha.defers ⟨_, Hn, M, rfl, hs.1, hs.2, hw.drop hH, hR⟩
  rw [results_tmp2 hr]
  simp [h1, h2]⟩
/-- what a call's caller owns may be laid for good -/
theorem RetS.lay {M : Ghost} {w : World} {R R' : Ghost → List (Nat × Obj) → Value → Prop} (h : ∀ M' H v, R M' H v → R' (With M' H) [] v) {e : Ending} {w' : World} (hr : RetS M w R e w') : RetS M w R' e w' := by
  obtain ⟨v, H, M', h0, h1, h2, hst, hR⟩ := hr
  have hst2 : St w [] (H ++ []) M' w' := by rw [List.append_nil]; exact hst
  refine ⟨v, [], With M' H, h0, fun b o hb => .inl (h1 b o hb), fun b o hb => hb.elim (h2 b o) (fun hm => ?_), hst2.publish, h M' H v hR⟩
  rcases hst.new (b, o) hm with h3 | h3
  · exact .inr h3
  · cases h3
end
end Go.Eng
/-
  The engine: ranges over strings, runes as strings. Nothing of the program stands here.
-/
namespace Go.Eng
open Go.RowKit
set_option linter.unusedVariables false

section
variable {P : Program} {n : Nat} {E : Env} {k : Kont} {ops : Array Oper} {rest : List Oper} {C C' : World → Prop} {cg cx : Bool} {x : Operand}
variable {w0 : World} {bs : List Nat} {H : List (Nat × Obj)} {M : Ghost}
variable {dst : Option Tmp} {ty : TypeId} {pos : String} {af : Array Edge} {g : Option (Nat × Bool)}
/-- 'range' over a string: a new iterator -/
theorem wl_range {t : TypeId} {s : List UInt8} {d : Nat} (hg : gd ops E g = some true) (hx : ev E x = some (true, str s)) (ht : P.underlying t = some .string) (hd : Nat.blt d n = true)
    (h : ∀ b, WL P ops rest n ((d, true, .pointer (some ⟨b, 0, none⟩)) :: E) (St w0 bs ((b, .stringIter ⟨s.toArray⟩ 0) :: H) M) k) :
    WL P ops (⟨some d, .range t x, ty, pos, af, g⟩ :: rest) n E (St w0 bs H M) k := by
  have hd : d < n := by simpa [Nat.blt_eq] using hd
  refine wl_op hg fun a w ha hw => ?_
  unfold Oper.wp
  have hr : (execOp a.eval ⟨some d, .range t x, ty, pos, af, g⟩).run P w = .ok (.value (.pointer (some ⟨w.heap.size, 0, none⟩))) (w.iter ⟨s.toArray⟩ 0) := by
    simp [execOp, ha.eval hx, run_range_string _ _ _ ht]
  rw [hr, Oper.upon_value]
  exact (h w.heap.size).run _ _ (ha.put hd rfl) (hw.alloc _)
/-- its next rune -/
theorem wl_next {s : List UInt8} {d b p : Nat} {H' : List (Nat × Obj)} (hg : gd ops E g = some true) (hx : ev E x = some (true, .pointer (some ⟨b, 0, none⟩))) (hd : Nat.blt d n = true)
    (hu : Upd H b (.stringIter ⟨s.toArray⟩ p) (.stringIter ⟨s.toArray⟩ (p + (Utf8.decode ⟨s.toArray⟩ p).2)) H') (hp : p < s.length)
    (h : WL P ops rest n ((d, true, .tuple #[.bool true, i64 (p : Int), .int .i32 ((Utf8.decode ⟨s.toArray⟩ p).1 : Int)]) :: E) (St w0 bs H' M) k) :
    WL P ops (⟨some d, .next x true, ty, pos, af, g⟩ :: rest) n E (St w0 bs H M) k := by
  have hd : d < n := by simpa [Nat.blt_eq] using hd
  refine wl_op hg fun a w ha hw => ?_
  unfold Oper.wp
  have hb := hw.get hu.mem
  have hr : (execOp a.eval ⟨some d, .next x true, ty, pos, af, g⟩).run P w = .ok (.value (.tuple #[.bool true, i64 (p : Int), .int .i32 ((Utf8.decode ⟨s.toArray⟩ p).1 : Int)])) (w.iterAt b ⟨s.toArray⟩ (p + (Utf8.decode ⟨s.toArray⟩ p).2)) := by
    simp [execOp, ha.eval hx, Lib.run_next_any_at w b ⟨s.toArray⟩ p ty hb (by rw [size_str]; exact hp)]
  rw [hr, Oper.upon_value]
  refine h.run _ _ (ha.put hd rfl) (hw.upd hu ⟨rfl, rfl, rfl, by rw [Lib.iterAt_size]; exact Nat.le_refl _, fun j hj hn => Lib.iterAt_other w b j _ _ (by simpa using hn)⟩ (Lib.iterAt_heap w b _ p _ hb))
theorem wl_nextEnd {s : List UInt8} {d b p : Nat} (hg : gd ops E g = some true) (hx : ev E x = some (true, .pointer (some ⟨b, 0, none⟩))) (hd : Nat.blt d n = true)
    (hm : (b, Obj.stringIter ⟨s.toArray⟩ p) ∈ H) (hp : s.length ≤ p)
    (h : WL P ops rest n ((d, true, .tuple #[.bool false]) :: E) (St w0 bs H M) k) :
    WL P ops (⟨some d, .next x true, ty, pos, af, g⟩ :: rest) n E (St w0 bs H M) k := by
  have hd : d < n := by simpa [Nat.blt_eq] using hd
  refine wl_op hg fun a w ha hw => ?_
  unfold Oper.wp
  have hb := hw.get hm
  have hr : (execOp a.eval ⟨some d, .next x true, ty, pos, af, g⟩).run P w = .ok (.value (.tuple #[.bool false])) w := by
    simp [execOp, ha.eval hx, Lib.run_next_end_at w b ⟨s.toArray⟩ p ty hb (by rw [size_str]; omega)]
  rw [hr, Oper.upon_value]
  exact h.run _ _ (ha.put hd rfl) hw
/-- a rune as a string -/
theorem ov_runeStr {src dst' : TypeId} {kd : IntKind} {r : Int} {l : List UInt8} (hx : ev E x = some (cx, .int kd r)) (h1 : Imp cg cx) (hs : (P.underlying src).isSome = true) (hd : P.underlying dst' = some .string) (hl : Utf8.encode r = ⟨l.toArray⟩) :
    OpV P n E C ⟨dst, .convert src dst' x, ty, pos, af, g⟩ cg (str l) :=
  ov_run fun h a ha w _ => by
    simp [execOp, ha.evalc hx (h1 h), run_convert_int_string w src dst' kd r hs hd, hl]
/-- a rune beyond ASCII: what is skipped is beyond ASCII too -/
theorem decode_skip (s : ByteArray) (p j : Nat) (h : p < s.size) (ha : 128 ≤ (s.get! (p + 0)).toNat) (h1 : p < j) (h2 : j < p + (Utf8.decode s p).2) : j < s.size ∧ 128 ≤ (s.get! j).toNat := by
  have hn : ¬ (s.get! (p + 0)).toNat < 128 := by omega
  have one : ∀ k, decide (p + k < s.size) && (s.get! (p + k)).toNat / 64 == 2 → p + k < s.size ∧ 128 ≤ (s.get! (p + k)).toNat := by
    intro k hk
    simp only [Bool.and_eq_true, decide_eq_true_eq, beq_iff_eq] at hk
    exact ⟨hk.1, by omega⟩
  simp only [Utf8.decode, hn, if_false] at h2
  split at h2
  · rename_i hc
    rw [Bool.and_eq_true] at hc
    have k1 := one 1 hc.2
    split at h2
    · have : j = p + 1 := by simp only at h2; omega
      subst this; exact k1
    · simp only at h2; omega
  · split at h2
    · rename_i hc
      simp only [Bool.and_eq_true] at hc
      have k1 := one 1 (by simpa using hc.1.2)
      have k2 := one 2 (by simpa using hc.2)
      split at h2
      · have : j = p + 1 ∨ j = p + 2 := by simp only at h2; omega
        rcases this with rfl | rfl
        · exact k1
        · exact k2
      · simp only at h2; omega
    · split at h2
      · rename_i hc
        simp only [Bool.and_eq_true] at hc
        have k1 := one 1 (by simpa using hc.1.1.2)
        have k2 := one 2 (by simpa using hc.1.2)
        have k3 := one 3 (by simpa using hc.2)
        split at h2
        · have : j = p + 1 ∨ j = p + 2 ∨ j = p + 3 := by simp only at h2; omega
          rcases this with rfl | rfl | rfl
          · exact k1
          · exact k2
          · exact k3
        · simp only at h2; omega
      · simp only at h2; omega
/-- an array's element of several cells -/
theorem ov_aindexS {tx : TypeId} {y : Operand} {cy : Bool} {e : TypeId} {len i m : Nat} {cs : Array Value} {k1 : IntKind} {z : Int} {fs : Array Field} {l : List Value} (hx : ev E x = some (cx, .agg cs)) (hy : ev E y = some (cy, .int k1 z)) (hi : z = (i : Int)) (h1 : Imp cg cx) (h2 : Imp cg cy) (ht : P.underlying tx = some (.array len e)) (hs : (P.info? e).map (·.size) = some m)
    (hd : P.underlying e = some (.struct fs)) (hf : cg = true → i < len) (hl : l.length = m) (hv : cg = true → (cs.extract (i * m) (i * m + m)) = l.toArray) : OpV P n E C ⟨dst, .index tx x y, ty, pos, af, g⟩ cg (.agg l.toArray) :=
  ov_run fun h a ha w _ => by
    have := hf h
    have hv := hv h
    subst hi
    have h3 : (0 : Int) ≤ (i : Int) ∧ (i : Int) < (len : Int) := by omega
    simp only [execOp, ha.evalc hx (h1 h), ha.evalc hy (h2 h), Sem.run_bind, Instr.index, asIntOf, Sem.run_pure, Result.andThen_ok, run_underlying ht]
    rw [if_pos h3]
    simp [run_sizeOf hs, part, isAgg_struct hd, hv]
/-- all of an array, as a slice -/
theorem ov_slcArr {tx e : TypeId} {len b m : Nat} (hs : (P.info? e).map (·.size) = some m) (hx : ev E x = some (cx, .pointer (some ⟨b, 0, none⟩))) (h1 : Imp cg cx) (ht : P.underlying tx = some (.array len e)) :
    OpV P n E C ⟨dst, .slice tx x none none none, ty, pos, af, g⟩ cg (.slice (some ⟨b, 0, none⟩) len len) :=
  ov_run fun h a ha w _ => by
    simp [execOp, ha.evalc hx (h1 h), Instr.sliceAt, run_underlying ht, Instr.sureAddr, Instr.sliceBounds, run_sizeOf hs, add_addr]
end
end Go.Eng
/-
  The library's IndexRune and IndexAny at ASCII characters, whatever bytes the text has.
-/
namespace Go.Proofs.YtgfbieplidpebaaGreatDoor
open Go.Eng Go.Pct
set_option maxRecDepth 10000
set_option linter.unusedSimpArgs false
set_option linter.unusedVariables false

variable {M : Ghost} {w : World}

theorem ext_alloc (w : World) (o : Obj) : Ext w (w.alloc o) := ⟨rfl, rfl, rfl, by show w.heap.size ≤ (w.heap.push o).size; simp, fun b hb _ => by show (w.heap.push o)[b]? = w.heap[b]?; rw [Array.getElem?_push]; simp [Nat.ne_of_lt hb]⟩
theorem get_bang (s : List UInt8) (p : Nat) : (⟨s.toArray⟩ : ByteArray).get! p = s.getD p 0 := by
  show (s.toArray)[p]! = _
  rcases Nat.lt_or_ge p s.length with h | h
  · simp [h]
  · simp [h]; rfl
theorem get_b (s : List UInt8) (p : Nat) (h : p < (⟨s.toArray⟩ : ByteArray).size) : (⟨s.toArray⟩ : ByteArray)[p]'h = s.getD p 0 := by
  have h2 : p < s.length := by rwa [size_str] at h
  show s.toArray[p] = _
  simp [h2]
theorem decode_low (s : List UInt8) (p : Nat) (h : p < s.length) (ha : (s.getD p 0).toNat < 128) : Utf8.decode ⟨s.toArray⟩ p = ((s.getD p 0).toNat, 1) := by
  have hp : p < (⟨s.toArray⟩ : ByteArray).size := by rw [size_str]; exact h
  rw [decode_ascii ⟨s.toArray⟩ p hp (by rw [get_b]; exact ha), get_b]
theorem vrune_ok (r : Int) : Calls Tryz.prog 119 #[.int .i32 r] w (RetE w (.bool (Lib.validRune r))) := by
  refine (Tryz.utf8_ValidRune r w).mono ?_
  rintro e w' ⟨rfl, rfl⟩; exact ⟨rfl, Keep.refl _ _⟩
theorem ibyte_ok (s : List UInt8) (c : UInt8) : Calls Tryz.prog 118 #[str s, byt c] w (RetE w (i64 (Lib.indexByte s c))) := by
  refine (Tryz.strings_IndexByte ⟨s.toArray⟩ (c.toNat : Int) w).mono ?_
  rintro e w' ⟨rfl, rfl⟩
  refine ⟨?_, Keep.refl _ _⟩
  have : ((c.toNat : Int)).toNat.toUInt8 = c := by simp
  rw [this]
theorem ibyte_no {s : List UInt8} {c : UInt8} (h : c ∉ s) : Lib.indexByte s c = -1 := by
  induction s with
  | nil => rfl
  | cons d r ih =>
    simp only [List.mem_cons, not_or] at h
    rw [Lib.indexByte, if_neg (by simpa using fun e => h.1 e.symm), ih h.2]
    rfl
theorem irune_lo (s : List UInt8) (c : UInt8) (h : c.toNat < 128) : Calls Tryz.prog 104 #[str s, .int .i32 (c.toNat : Int)] w (RetE w (i64 (Lib.indexByte s c))) := by
  refine (Tryz.strings_IndexRune_ascii ⟨s.toArray⟩ (c.toNat : Int) w (by omega) (by omega)).mono ?_
  rintro e w' ⟨rfl, rfl⟩
  refine ⟨?_, Keep.refl _ _⟩
  have : ((c.toNat : Int)).toNat.toUInt8 = c := by simp
  rw [this]
theorem irune_hi (hM : Laid M w) (s : List UInt8) (hs : ∀ c ∈ s, c.toNat < 128) (hl : s.length ≤ 100) (r : Int) (h128 : 128 ≤ r) (hr : r ≤ 2147483647) : Calls Tryz.prog 104 #[str s, .int .i32 r] w (RetE w (i64 (-1))) := by
  have hat : ∀ p, p < s.length → (s.getD p 0).toNat < 128 := fun p hp => by
    have e : s.getD p 0 = s[p] := by simp [hp]
    rw [e]; exact hs _ (List.getElem_mem _)
  refine fn2 hM Tryz.func104 ?_
  by_cases h53 : r = 65533
  · repeat' (first | refine sk ?_ | (refine wc_cond rfl (fun hc => ?_) (fun hc => ?_) <;> (try (simp only [bls] at hc)) <;> (try (exfalso; first | omega | contradiction))))
    refine wl_range rfl rfl rfl rfl (fun b => ?_)
    repeat' (first | refine sk ?_ | (refine wc_cond rfl (fun hc => ?_) (fun hc => ?_) <;> (try (simp only [bls] at hc)) <;> (try (exfalso; first | omega | contradiction))))
    refine wc_loop (α := { p : Nat // p ≤ s.length }) (fun x => [(175, true, .pointer (some ⟨b, 0, none⟩))]) (fun x => St w [] [(b, .stringIter ⟨s.toArray⟩ x.1)] M) (fun x => s.length - x.1) ⟨0, by omega⟩ pE (fun _ h => h) ?_
    rintro ⟨p, hp⟩
    dsimp only
    rcases Nat.lt_or_ge p s.length with hlt | hge
    · have hd := decode_low s p hlt (hat p hlt)
      have hu := u8_lt (s.getD p 0)
      have hb := hat p hlt
      repeat' (first | refine sk ?_ | (refine wc_cond rfl (fun hc => ?_) (fun hc => ?_) <;> (try (simp only [bls] at hc)) <;> (try (exfalso; first | omega | contradiction))))
      refine wl_next (s := s) (p := p) rfl rfl rfl Upd.here hlt ?_
      rw [hd]
      repeat' (first | refine sk ?_ | (refine wc_cond rfl (fun hc => ?_) (fun hc => ?_) <;> (try (simp only [bls] at hc)) <;> (try (exfalso; first | omega | contradiction))))
      exact wn_cut ⟨p + 1, by omega⟩ (by show s.length - (p + 1) < s.length - p; omega) pE (fun _ h => h)
    · repeat' (first | refine sk ?_ | (refine wc_cond rfl (fun hc => ?_) (fun hc => ?_) <;> (try (simp only [bls] at hc)) <;> (try (exfalso; first | omega | contradiction))))
      refine wl_nextEnd (s := s) (p := p) rfl rfl rfl (List.Mem.head _) hge ?_
      repeat' (first | refine sk ?_ | (refine wc_cond rfl (fun hc => ?_) (fun hc => ?_) <;> (try (simp only [bls] at hc)) <;> (try (exfalso; first | omega | contradiction))))
      exact wr_tmp rfl rfl rfl
  · cases hv : Lib.validRune r with
    | false =>
      have hvr := fun {w : World} => vrune_ok (w := w) r
      rw [hv] at hvr
      repeat' (first | (first | refine sk ?_ | (refine gL ?_; first | refine wl_v rfl rfl rfl (by first | (exact oc 119 Tryz.call119 (h := fun hcg w hw => hvr))) ?_) | fail) | (refine wc_cond rfl (fun hc => ?_) (fun hc => ?_) <;> (try (simp only [bls] at hc)) <;> (try (exfalso; first | omega | contradiction))))
      exact wr_tmp rfl rfl rfl
    | true =>
      have hvr := fun {w : World} => vrune_ok (w := w) r
      rw [hv] at hvr
      obtain ⟨f1, f2, f3⟩ := encode_facts r (by simp [Lib.validRune] at hv; simp [Utf8.valid]; omega) h128
      have hel : Utf8.encode r = ⟨(Utf8.encode r).data.toList.toArray⟩ := (Txt.strMk _).symm
      have hlen : (Utf8.encode r).data.toList.length = (Utf8.encode r).size := Array.length_toList
      have hlast : 128 ≤ ((Utf8.encode r).data.toList.getD ((Utf8.encode r).data.toList.length - 1) 0).toNat := by
        have := f3 (by omega)
        have hp : (Utf8.encode r).size - 1 < (Utf8.encode r).data.size := by show (Utf8.encode r).size - 1 < (Utf8.encode r).size; omega
        have e : (Utf8.encode r).data.toList.getD ((Utf8.encode r).size - 1) 0 = (Utf8.encode r).data[(Utf8.encode r).size - 1]'hp := by
          simp [List.getD_eq_getElem?_getD, Array.getElem?_eq_getElem hp]
        rw [hlen, e]
        exact this
      rw [← hlen] at f1 f2
      generalize (Utf8.encode r).data.toList = rs at *
      clear f3 hlen hv
      repeat' (first | (first | refine sk ?_ | (refine gL ?_; first | refine wl_v rfl rfl rfl (by first | (exact oc 119 Tryz.call119 (h := fun hcg w hw => hvr)) | (show OpV _ _ _ _ (Oper.mk _ (Op.convert _ _ _) _ _ _ _) _ _; exact ov_runeStr rfl pI rfl rfl hel)) ?_) | fail) | (refine wc_cond rfl (fun hc => ?_) (fun hc => ?_) <;> (try (simp only [bls] at hc)) <;> (try (exfalso; first | omega | contradiction))))
      refine wc_loop (α := Unit) (fun _ => [(0, true, str s), (7, true, str rs), (8, true, .int .i64 ((rs.length : Int) - 1)), (9, true, .int .i64 ((rs.length : Int) - 1))]) (fun _ => St w [] [] M) (fun _ => 0) () pE (fun _ h => h) ?_
      intro _
      rcases Nat.lt_or_ge (rs.length - 1) s.length with hlt | hge
      · have a1 := hat _ hlt
        have hnm : rs.getD (rs.length - 1) 0 ∉ s.drop (rs.length - 1 + 1) := fun hm => by
          have := hs _ (List.mem_of_mem_drop hm); omega
        have hib : ∀ {w : World}, Calls Tryz.prog 118 #[str (s.drop (rs.length - 1 + 1)), byt (rs.getD (rs.length - 1) 0)] w (RetE w (i64 (-1))) := fun {w} => by
          have := ibyte_ok (w := w) (s.drop (rs.length - 1 + 1)) (rs.getD (rs.length - 1) 0)
          rw [ibyte_no hnm] at this; exact this
        repeat' (first | refine sk ?_ | (refine wc_cond rfl (fun hc => ?_) (fun hc => ?_) <;> (try (simp only [bls] at hc)) <;> (try (exfalso; first | omega | contradiction))))
        refine wc_weak (E' := [(0, true, str s), (7, true, str rs), (8, true, .int .i64 ((rs.length : Int) - 1)), (9, true, .int .i64 ((rs.length : Int) - 1))]) pE (fun _ h => h) ?_
        refine wc_draw 7 (by kernel_rfl) rfl (by kernel_rfl) (fun _ _ h k => h.ext k) ?_
        repeat' (first | (refine gD ?_; first | refine yd_v rfl rfl rfl rfl rfl rfl ?_ | refine yd_new rfl rfl rfl rfl rfl rfl ?_ | refine wd_conv rfl rfl rfl rfl rfl rfl rfl rfl rfl rfl ?_) | (refine gE ?_; first | refine wd_nil ?_ | refine wd_nilF ?_) | refine sk ?_ | fail)
        repeat' (first | refine sk ?_ | (refine wc_cond rfl (fun hc => ?_) (fun hc => ?_) <;> (try (simp only [bls] at hc)) <;> (try (exfalso; first | omega | contradiction))))
        refine wc_weak (E' := [(0, true, str s), (7, true, str rs), (8, true, .int .i64 ((rs.length : Int) - 1)), (9, true, .int .i64 ((rs.length : Int) - 1))]) pE (fun _ h => h) ?_
        refine wc_draw 9 (by kernel_rfl) rfl (by kernel_rfl) (fun _ _ h k => h.ext k) ?_
        repeat' (first | (refine gD ?_; first | refine yd_v rfl rfl rfl rfl rfl rfl ?_ | refine wd_v rfl rfl rfl rfl rfl rfl (by first | (exact oc 118 Tryz.call118 (h := fun hcg w hw => hib))) ?_ | refine yd_new rfl rfl rfl rfl rfl rfl ?_ | refine wd_conv rfl rfl rfl rfl rfl rfl rfl rfl rfl rfl ?_) | (refine gE ?_; first | refine wd_nil ?_ | refine wd_nilF ?_) | (first | refine sk ?_ | (refine gL ?_; first | refine wl_v rfl rfl rfl (by first | (exact oc 118 Tryz.call118 (h := fun hcg w hw => hib))) ?_) | fail))
        repeat' (first | refine sk ?_ | (refine wc_cond rfl (fun hc => ?_) (fun hc => ?_) <;> (try (simp only [bls] at hc)) <;> (try (exfalso; first | omega | contradiction))))
        exact wr_tmp rfl rfl rfl
      · repeat' (first | refine sk ?_ | (refine wc_cond rfl (fun hc => ?_) (fun hc => ?_) <;> (try (simp only [bls] at hc)) <;> (try (exfalso; first | omega | contradiction))))
        exact wr_tmp rfl rfl rfl
theorem iany_ok (hM : Laid M w) (s chars : List UInt8) (hs : s.length < 4294967281) (hca : ∀ c ∈ chars, c.toNat < 128) (h0 : chars ≠ []) (hl : chars.length ≤ 100) : Calls Tryz.prog 88 #[str s, str chars] w (RetE w (i64 (Lib.indexAny s chars))) := by
  have hpos := List.length_pos_iff.2 h0
  have has : ∀ (j : Nat) (b : UInt8), (⟨chars.toArray⟩ : ByteArray).data.toList[j]? = some b → b.toNat < 128 := fun j b hb => hca b (List.mem_of_getElem? hb)
  by_cases h1 : chars.length = 1
  · refine (Tryz.strings_IndexAny_one ⟨s.toArray⟩ ⟨chars.toArray⟩ w (by rw [baSize]; exact h1) has).mono ?_
    rintro e w' ⟨rfl, rfl⟩; exact ⟨rfl, Keep.refl _ _⟩
  by_cases h8 : 8 < s.length
  · refine (Tryz.strings_IndexAny_long (fun w => by kernel_rfl) ⟨s.toArray⟩ ⟨chars.toArray⟩ w (by rw [baSize]; omega) (by rw [baSize]; omega) (by rw [baSize]; omega) (by rw [baSize]; omega) has).mono ?_
    rintro e w' ⟨rfl, rfl⟩
    exact ⟨rfl, (ext_alloc _ _).trans (ext_alloc _ _)⟩
  have hsu : ∀ {w : World}, Calls Tryz.prog 105 #[i64 (s.length : Int)] w (RetE w (.bool false)) := fun {w} => by
    refine (Tryz.strings_shouldUseASCIISet (s.length : Int) w).mono ?_
    rintro e w' ⟨rfl, rfl⟩
    exact ⟨by rw [decide_eq_false (by omega)], Keep.refl _ _⟩
  refine fn2 hM Tryz.func88 ?_
  repeat' (first | (first | refine sk ?_ | (refine gL ?_; first | refine wl_v rfl rfl rfl (by first | (exact oc 105 Tryz.call105 (h := fun hcg w hw => hsu))) ?_ | refine xl_alloc (fun _ => ?_) | refine xl_store rfl rfl ?_) | fail) | (refine wc_cond rfl (fun hc => ?_) (fun hc => ?_) <;> (try (simp only [bls] at hc)) <;> (try (exfalso; first | omega | contradiction))))
  refine wl_range rfl rfl rfl rfl (fun b => ?_)
  repeat' (first | (first | refine sk ?_ | (refine gL ?_; first | refine xl_alloc (fun _ => ?_) | refine xl_store rfl rfl ?_) | fail) | (refine wc_cond rfl (fun hc => ?_) (fun hc => ?_) <;> (try (simp only [bls] at hc)) <;> (try (exfalso; first | omega | contradiction))))
  refine wc_loop (α := { p : Nat // p ≤ s.length ∧ Lib.NoAny s chars p }) (fun x => [(1, true, str chars), (45, true, .pointer (some ⟨b, 0, none⟩))]) (fun x => St w [] [(b, .stringIter ⟨s.toArray⟩ x.1)] M) (fun x => s.length - x.1) ⟨0, by omega, Lib.NoAny.zero _ _⟩ pE (fun _ h => h) ?_
  rintro ⟨p, hp, hno⟩
  dsimp only
  rcases Nat.lt_or_ge p s.length with hlt | hge
  · have hat : s[p]? = some (s.getD p 0) := by simp [hlt]
    by_cases ha : (s.getD p 0).toNat < 128
    · have hd := decode_low s p hlt ha
      have hlo := fun {w : World} => irune_lo (w := w) chars (s.getD p 0) ha
      have hcon := Lib.contains_iff_indexByte chars (s.getD p 0)
      cases hin : chars.contains (s.getD p 0) with
      | true =>
        have hge0 : (0 : Int) ≤ Lib.indexByte chars (s.getD p 0) := by rw [hin] at hcon; exact of_decide_eq_true hcon.symm
        have hhit := Lib.indexAny_hit hno hat hin
        repeat' (first | (first | refine sk ?_ | (refine gL ?_; first | refine xl_alloc (fun _ => ?_) | refine xl_store rfl rfl ?_) | fail) | (refine wc_cond rfl (fun hc => ?_) (fun hc => ?_) <;> (try (simp only [bls] at hc)) <;> (try (exfalso; first | omega | contradiction))))
        refine wl_next (s := s) (p := p) rfl rfl rfl Upd.here hlt ?_
        rw [hd]
        repeat' (first | (first | refine sk ?_ | (refine gL ?_; first | refine wl_v rfl rfl rfl (by first | (exact oc 104 Tryz.call104 (h := fun hcg w hw => hlo))) ?_ | refine xl_alloc (fun _ => ?_) | refine xl_store rfl rfl ?_) | fail) | (refine wc_cond rfl (fun hc => ?_) (fun hc => ?_) <;> (try (simp only [bls] at hc)) <;> (try (exfalso; first | omega | contradiction))))
        exact wr_tmp rfl rfl (by rw [hhit])
      | false =>
        have hlt0 : ¬ (0 : Int) ≤ Lib.indexByte chars (s.getD p 0) := by rw [hin] at hcon; exact of_decide_eq_false hcon.symm
        repeat' (first | (first | refine sk ?_ | (refine gL ?_; first | refine xl_alloc (fun _ => ?_) | refine xl_store rfl rfl ?_) | fail) | (refine wc_cond rfl (fun hc => ?_) (fun hc => ?_) <;> (try (simp only [bls] at hc)) <;> (try (exfalso; first | omega | contradiction))))
        refine wl_next (s := s) (p := p) rfl rfl rfl Upd.here hlt ?_
        rw [hd]
        repeat' (first | (first | refine sk ?_ | (refine gL ?_; first | refine wl_v rfl rfl rfl (by first | (exact oc 104 Tryz.call104 (h := fun hcg w hw => hlo))) ?_ | refine xl_alloc (fun _ => ?_) | refine xl_store rfl rfl ?_) | fail) | (refine wc_cond rfl (fun hc => ?_) (fun hc => ?_) <;> (try (simp only [bls] at hc)) <;> (try (exfalso; first | omega | contradiction))))
        exact wn_cut ⟨p + 1, by omega, hno.succ hat hin⟩ (by show s.length - (p + 1) < s.length - p; omega) pE (fun _ h => h)
    · have hpz : p < (⟨s.toArray⟩ : ByteArray).size := by rw [size_str]; exact hlt
      obtain ⟨d1, d2⟩ := decode_high ⟨s.toArray⟩ p hpz (by rw [get_b]; omega)
      have d3 := decode_le ⟨s.toArray⟩ p
      have hsk := fun j h1 h2 => decode_skip ⟨s.toArray⟩ p j hpz (by rw [Nat.add_zero, get_bang]; omega) h1 h2
      have hhi := fun {w : World} (h : Laid M w) => irune_hi h chars hca hl ((Utf8.decode ⟨s.toArray⟩ p).1 : Int) (by omega) (by omega)
      have hnot : ∀ c : UInt8, 128 ≤ c.toNat → chars.contains c = false := fun c h => by
        rw [Bool.eq_false_iff]; intro hm
        have := hca c (by simpa using hm); omega
      have hend : p + (Utf8.decode ⟨s.toArray⟩ p).2 ≤ s.length := by
        rcases Nat.lt_or_ge 1 (Utf8.decode ⟨s.toArray⟩ p).2 with h | h
        · have := (hsk (p + (Utf8.decode ⟨s.toArray⟩ p).2 - 1) (by omega) (by omega)).1
          rw [size_str] at this; omega
        · omega
      have hno2 : Lib.NoAny s chars (p + (Utf8.decode ⟨s.toArray⟩ p).2) := fun j b hj hb => by
        rcases Nat.lt_trichotomy j p with h | h | h
        · exact hno j b h hb
        · subst h
          rw [hat] at hb; cases hb
          exact hnot _ (by omega)
        · have := (hsk j h hj).2
          rw [get_bang] at this
          have e : s.getD j 0 = b := by rw [List.getD_eq_getElem?_getD, hb]; rfl
          rw [e] at this
          exact hnot _ this
      repeat' (first | (first | refine sk ?_ | (refine gL ?_; first | refine xl_alloc (fun _ => ?_) | refine xl_store rfl rfl ?_) | fail) | (refine wc_cond rfl (fun hc => ?_) (fun hc => ?_) <;> (try (simp only [bls] at hc)) <;> (try (exfalso; first | omega | contradiction))))
      refine wl_next (s := s) (p := p) rfl rfl rfl Upd.here hlt ?_
      generalize hq : Utf8.decode ⟨s.toArray⟩ p = q at *
      repeat' (first | (first | refine sk ?_ | (refine gL ?_; first | refine wl_v rfl rfl rfl (by first | (exact oc 104 Tryz.call104 (h := fun hcg w hw => hhi hw.laid))) ?_ | refine xl_alloc (fun _ => ?_) | refine xl_store rfl rfl ?_) | fail) | (refine wc_cond rfl (fun hc => ?_) (fun hc => ?_) <;> (try (simp only [bls] at hc)) <;> (try (exfalso; first | omega | contradiction))))
      exact wn_cut ⟨p + q.2, hend, hno2⟩ (by show s.length - (p + q.2) < s.length - p; omega) pE (fun _ h => h)
  · have hnone := Lib.indexAny_none (s := s) (chars := chars) (fun j b hj hb => hno j b (by omega) hb)
    repeat' (first | (first | refine sk ?_ | (refine gL ?_; first | refine xl_alloc (fun _ => ?_) | refine xl_store rfl rfl ?_) | fail) | (refine wc_cond rfl (fun hc => ?_) (fun hc => ?_) <;> (try (simp only [bls] at hc)) <;> (try (exfalso; first | omega | contradiction))))
    refine wl_nextEnd (s := s) (p := p) rfl rfl rfl (List.Mem.head _) hge ?_
    repeat' (first | (first | refine sk ?_ | (refine gL ?_; first | refine xl_alloc (fun _ => ?_) | refine xl_store rfl rfl ?_) | fail) | (refine wc_cond rfl (fun hc => ?_) (fun hc => ?_) <;> (try (simp only [bls] at hc)) <;> (try (exfalso; first | omega | contradiction))))
    exact wr_tmp rfl rfl (by rw [hnone])
theorem cany_ok (hM : Laid M w) (s chars : List UInt8) (hs : s.length < 4294967281) (hca : ∀ c ∈ chars, c.toNat < 128) (h0 : chars ≠ []) (hl : chars.length ≤ 100) : Calls Tryz.prog 89 #[str s, str chars] w (RetE w (.bool (decide (0 ≤ Lib.indexAny s chars)))) := by
  refine fn2 hM Tryz.func89 ?_
  repeat' (first | (first | refine sk ?_ | (refine gL ?_; first | refine wl_v rfl rfl rfl (by first | (exact oc 88 Tryz.call88 (h := fun hcg w hw => iany_ok hw.laid s chars hs hca h0 hl))) ?_) | fail) | (refine wc_cond rfl (fun hc => ?_) (fun hc => ?_) <;> (try (simp only [bls] at hc)) <;> (try (exfalso; first | omega | contradiction))))
  exact wr_tmp rfl rfl rfl
end Go.Proofs.YtgfbieplidpebaaGreatDoor
/-
  Forms, plainly: pairs of texts read and written. No program stands here.
-/
namespace Go.Pct
open Go.Txt

abbrev Pr := List UInt8 × List UInt8
/-- a piece's pair -/
def pairOf (x : List UInt8) : Option Pr :=
  match decode true (x.take (idx 61 x)), decode true (x.drop (idx 61 x + 1)) with
  | some n, some v => some (n, v)
  | _, _ => none
/-- through the pieces: the pairs and the error's number -/
def formGo : List (List UInt8) → List Pr → List Pr × Nat
  | [], out => (out, 0)
  | x :: r, out => if x = [] then formGo r out else if 32 ≤ out.length then ([], 5) else match pairOf x with
    | none => ([], 11)
    | some p => formGo r (out ++ [p])
def form (s : List UInt8) : List Pr × Nat := formGo (pieces 38 s) []
theorem decode_length {plus : Bool} {s t : List UInt8} (h : decode plus s = some t) : t.length ≤ s.length := by
  unfold decode at h
  have : ∀ n (s t : List UInt8), s.length ≤ n → each (byDec plus) s = some t → t.length ≤ s.length := by
    intro n
    induction n with
    | zero => intro s t hs h; have : s = [] := List.eq_nil_of_length_eq_zero (by omega); subst this; simp [each] at h; subst h; simp
    | succ n ih =>
      intro s t hs h
      cases s with
      | nil => simp [each] at h; subst h; simp
      | cons c r =>
        rw [each_cons] at h
        split at h
        · cases ht : told r with
          | none => rw [ht] at h; cases h
          | some x =>
            obtain ⟨d, r'⟩ := x
            rw [ht] at h
            simp only at h
            have hr : r'.length ≤ r.length := by
              match r, ht with
              | a :: b :: r, ht => simp only [told, Option.map_eq_some_iff, Prod.mk.injEq] at ht; obtain ⟨_, _, _, rfl⟩ := ht; simp; omega
            obtain ⟨u, hu, rfl⟩ := Option.map_eq_some_iff.1 h
            have := ih r' u (by simp at hs; omega) hu
            have := byDec_length plus d true
            simp at *; omega
        · obtain ⟨u, hu, rfl⟩ := Option.map_eq_some_iff.1 h
          have := ih r u (by simp at hs; omega) hu
          have := byDec_length plus c false
          simp at *; omega
  exact this _ _ _ (Nat.le_refl _) h
theorem formGo_short : ∀ {l : List (List UInt8)} {out : List Pr}, out.length ≤ 32 → (formGo l out).1.length ≤ 32
  | [], out, h => h
  | x :: r, out, h => by
    simp only [formGo]
    split
    · exact formGo_short h
    · split
      · simp
      · split
        · simp
        · exact formGo_short (by simp; omega)
theorem form_short (s : List UInt8) : (form s).1.length ≤ 32 := formGo_short (by simp)

/-- .. as far as the pieces have been gone through -/
def FormAt (l : List (List UInt8)) (i : Nat) (out : List Pr) : Prop := i ≤ l.length ∧ formGo l [] = formGo (l.drop i) out ∧ out.length ≤ 32
theorem formAt_start (l : List (List UInt8)) : FormAt l 0 [] := ⟨Nat.zero_le _, rfl, by simp⟩
theorem drop_get {α : Type} [Inhabited α] {l : List α} {i : Nat} (h : i < l.length) : l.drop i = l.getD i default :: l.drop (i + 1) := by
  rw [List.drop_eq_getElem_cons h]; simp [h]
theorem formAt_skip {l : List (List UInt8)} {i : Nat} {out : List Pr} (h : FormAt l i out) (hi : i < l.length) (he : l.getD i default = []) : FormAt l (i + 1) out := by
  refine ⟨hi, ?_, h.2.2⟩
  rw [h.2.1, drop_get hi, formGo, if_pos he]
theorem formAt_full {l : List (List UInt8)} {i : Nat} {out : List Pr} (h : FormAt l i out) (hi : i < l.length) (he : l.getD i default ≠ []) (hf : 32 ≤ out.length) : formGo l [] = ([], 5) := by
  rw [h.2.1, drop_get hi, formGo, if_neg he, if_pos hf]
theorem formAt_bad {l : List (List UInt8)} {i : Nat} {out : List Pr} (h : FormAt l i out) (hi : i < l.length) (he : l.getD i default ≠ []) (hf : out.length < 32) (hp : pairOf (l.getD i default) = none) : formGo l [] = ([], 11) := by
  rw [h.2.1, drop_get hi, formGo, if_neg he, if_neg (by omega), hp]
theorem formAt_pair {l : List (List UInt8)} {i : Nat} {out : List Pr} {p : Pr} (h : FormAt l i out) (hi : i < l.length) (he : l.getD i default ≠ []) (hf : out.length < 32) (hp : pairOf (l.getD i default) = some p) : FormAt l (i + 1) (out ++ [p]) := by
  refine ⟨hi, ?_, by simp; omega⟩
  rw [h.2.1, drop_get hi, formGo, if_neg he, if_neg (by omega), hp]
theorem formAt_end {l : List (List UInt8)} {i : Nat} {out : List Pr} (h : FormAt l i out) (hi : l.length ≤ i) : formGo l [] = (out, 0) := by
  rw [h.2.1, List.drop_eq_nil_of_le hi]; rfl

/-! ### Get -/
def getP (name : List UInt8) : List Pr → List UInt8 × Nat
  | [] => ([], 0)
  | p :: r => if p.1 = name then (p.2, (getP name r).2 + 1) else getP name r
theorem getP_snoc (name : List UInt8) (l : List Pr) (p : Pr) : getP name (l ++ [p]) = if p.1 = name then (if (getP name l).2 = 0 then p.2 else (getP name l).1, (getP name l).2 + 1) else getP name l := by
  induction l with
  | nil => simp [getP]
  | cons q l ih =>
    simp only [List.cons_append, getP, ih]
    by_cases h : p.1 = name <;> by_cases h2 : q.1 = name <;> simp [h, h2]
theorem getP_le (name : List UInt8) (l : List Pr) : (getP name l).2 ≤ l.length := by
  induction l with
  | nil => simp [getP]
  | cons p l ih => simp only [getP]; split <;> simp <;> omega

/-! ### Write -/
def w1 (p : Pr) : List UInt8 := encode p.1 ++ 61 :: encode p.2
def writeP : List Pr → List UInt8
  | [] => []
  | p :: r => w1 p ++ r.flatMap (fun q => 38 :: w1 q)
theorem writeP_snoc (l : List Pr) (p : Pr) : writeP (l ++ [p]) = writeP l ++ (if l = [] then [] else [38]) ++ w1 p := by
  cases l with
  | nil => simp [writeP]
  | cons q l => simp [writeP, List.flatMap_append]
theorem writeP_take {l : List Pr} {i : Nat} (h : i < l.length) : writeP (l.take (i + 1)) = writeP (l.take i) ++ (if i = 0 then [] else [38]) ++ w1 (l.getD i default) := by
  rw [List.take_succ_eq_append_getElem h, writeP_snoc]
  have e : l.getD i default = l[i] := by simp [h]
  rw [e]
  have : l.take i = [] ↔ i = 0 := by
    constructor
    · intro h2
      have := congrArg List.length h2
      simp at this
      rcases this with h3 | h3
      · exact h3
      · subst h3; simp at h
    · rintro rfl; simp
  by_cases h0 : i = 0
  · simp [h0]
  · rw [if_neg (fun h => h0 (this.1 h)), if_neg h0]
theorem writeP_join (l : List Pr) : Lib.join (l.map w1) [38] = writeP l := by
  cases l with
  | nil => rfl
  | cons p l =>
    rw [List.map_cons, Lib.join_cons, writeP, Lib.joinTail, List.map_map, List.flatMap_def]
    rfl
/-- texts that are not too long -/
def Small (m : Nat) (l : List Pr) : Prop := ∀ p ∈ l, p.1.length ≤ m ∧ p.2.length ≤ m
theorem w1_length {m : Nat} {p : Pr} (h : p.1.length ≤ m ∧ p.2.length ≤ m) : (w1 p).length ≤ 6 * m + 1 := by
  have h1 := (encode_length p.1).2
  have h2 := (encode_length p.2).2
  simp [w1]; omega
theorem writeP_length {m : Nat} {l : List Pr} (h : Small m l) (i : Nat) (hi : i ≤ l.length) : (writeP (l.take i)).length ≤ i * (6 * m + 2) := by
  induction i with
  | zero => simp [writeP]
  | succ i ih =>
    have := ih (by omega)
    have hm : l.getD i default ∈ l := by
      have : l.getD i default = l[i] := by simp [show i < l.length by omega]
      rw [this]; exact List.getElem_mem _
    have := w1_length (h _ hm)
    rw [writeP_take (by omega), List.length_append, List.length_append, Nat.succ_mul]
    split <;> simp only [List.length_nil, List.length_cons] <;> omega
end Go.Pct
/-
  Pairs of texts in memory: the contracts of matricularef01's Few and Pairs.
-/
namespace Go.Proofs.YtgfbieplidpebaaGreatDoor
open Go.Eng Go.Pct Go.Txt
set_option maxRecDepth 10000
set_option linter.unusedSimpArgs false
set_option linter.unusedVariables false

variable {M : Ghost} {w : World}

def fewB (l : List Pr) : Bool := l.all (fun p => decide (p.1.length ≤ 60 ∧ p.2.length ≤ 60)) && decide (l.length ≤ 50)
theorem fewB_small {l : List Pr} (h : fewB l = true) : Small 60 l ∧ l.length ≤ 50 := by
  unfold fewB at h
  simp only [Bool.and_eq_true, List.all_eq_true, decide_eq_true_eq] at h
  exact h
theorem few_ok (hM : Laid M w) {v : Value} {l : List Pr} (hv : SlP M v l) : Calls Tryz.prog 21 #[v] w (RetE w (.bool (fewB l))) := by
  obtain ⟨a, cap, b, o, cs, T, fz, rfl, h1, h2, h3, h4⟩ := hv.open
  refine fn1 hM Tryz.func21 ?_
  repeat' (first | refine sk ?_ | (refine wc_cond rfl (fun hc => ?_) (fun hc => ?_) <;> (try (simp only [bls] at hc)) <;> (try (exfalso; first | omega | contradiction))))
  refine wc_loop (α := { i : Nat // i ≤ l.length ∧ ∀ j, j < i → (l.getD j default).1.length ≤ 60 ∧ (l.getD j default).2.length ≤ 60 }) (fun x => [(0, true, .slice a l.length cap), (3, true, i64 (x.1 : Int))]) (fun x => St w [] [] M) (fun x => l.length - x.1) ⟨0, by omega, by intro j hj; omega⟩ pE (fun _ h => h) ?_
  rintro ⟨i, hi, hall⟩
  dsimp only
  have hmem : ∀ j, j < l.length → l.getD j default ∈ l := fun j hj => by
    have : l.getD j default = l[j] := by simp [hj]
    rw [this]; exact List.getElem_mem _
  repeat' (first | (first | refine sk ?_ | (refine gL ?_; first | refine wl_v rfl rfl rfl (by first | (show OpV _ _ _ _ (Oper.mk _ (Op.indexAddr _ _ _) _ _ _ _) _ _; exact ov_indexAddr rfl rfl pK pI pI rfl pZ (fun hcg => (h3 (by intro h; subst h; simp only [List.length_nil] at *; omega)).1) pS) | (show OpV _ _ _ _ (Oper.mk _ (Op.load _ _) _ _ _ _) _ _; first | exact ov_load1M rfl pI rfl rfl (fun hcg => (h3 (by intro h; subst h; simp only [List.length_nil] at *; omega)).2) (fun hcg => (h4 i (by first | omega | (simp at hcg; omega))).1) | exact ov_load1M rfl pI rfl rfl (fun hcg => (h3 (by intro h; subst h; simp only [List.length_nil] at *; omega)).2) (fun hcg => (h4 i (by first | omega | (simp at hcg; omega))).2))) ?_) | fail) | (refine wc_cond rfl (fun hc => ?_) (fun hc => ?_) <;> (try (simp only [bls] at hc)) <;> (try (exfalso; first | omega | contradiction))))
  · refine wr_tmp rfl rfl (congrArg Value.bool ?_)
    symm
    rw [Bool.eq_false_iff]
    intro h
    have := (fewB_small h).1 _ (hmem i (by omega))
    omega
  · refine wn_cut ⟨i + 1, by omega, ?_⟩ (by show l.length - (i + 1) < l.length - i; omega) pE (fun _ h => h)
    intro j hj
    by_cases h : j = i
    · subst h; omega
    · exact hall j (by omega)
  · refine wr_tmp rfl rfl (congrArg Value.bool ?_)
    have hs : l.all (fun p => decide (p.1.length ≤ 60 ∧ p.2.length ≤ 60)) = true := by
      rw [List.all_eq_true]
      intro p hp
      obtain ⟨j, hj, rfl⟩ := List.mem_iff_getElem.1 hp
      have := hall j (by omega)
      simpa [hj] using this
    rw [fewB, hs, Bool.true_and]
    apply decide_eq_decide.2
    omega

theorem pcell {l : List Pr} {cs : Array Value} {o i : Nat} (h : cs[o + i * 2]? = some (str (l.getD i default).1) ∧ cs[o + i * 2 + 1]? = some (str (l.getD i default).2)) : ∀ j, j < [str (l.getD i default).1, str (l.getD i default).2].length → cs[o + i * 2 + j]? = [str (l.getD i default).1, str (l.getD i default).2][j]? := by
  intro j hj
  match j, hj with
  | 0, _ => exact h.1
  | 1, _ => exact h.2

theorem pairs_ok (hM : Laid M w) {u v : Value} {l m : List Pr} (hu : SlP M u l) (hv : SlP M v m) : Calls Tryz.prog 31 #[u, v] w (RetE w (.bool (decide (l = m)))) := by
  obtain ⟨a, cap, b, o, cs, T, fz, rfl, h1, h2, h3, h4⟩ := hu.open
  obtain ⟨a', cap', b', o', cs', T', fz', rfl, h1', h2', h3', h4'⟩ := hv.open
  refine fn2 hM Tryz.func31 ?_
  repeat' (first | refine sk ?_ | (refine wc_cond rfl (fun hc => ?_) (fun hc => ?_) <;> (try (simp only [bls] at hc)) <;> (try (exfalso; first | omega | contradiction))))
  · refine wr_tmp rfl rfl (congrArg Value.bool ?_)
    symm
    rw [decide_eq_false_iff_not]
    rintro rfl; exact hc rfl
  · refine wc_loop (α := { i : Nat // i ≤ l.length ∧ ∀ j, j < i → l.getD j default = m.getD j default }) (fun x => [(0, true, .slice a l.length cap), (1, true, .slice a' m.length cap'), (5, true, i64 (x.1 : Int))]) (fun x => St w [] [] M) (fun x => l.length - x.1) ⟨0, by omega, by intro j hj; omega⟩ pE (fun _ h => h) ?_
    rintro ⟨i, hi, hall⟩
    dsimp only
    repeat' (first | refine sk ?_ | (refine wc_cond rfl (fun hc => ?_) (fun hc => ?_) <;> (try (simp only [bls] at hc)) <;> (try (exfalso; first | omega | contradiction))))
    · refine wc_weak (E' := [(0, true, .slice a l.length cap), (1, true, .slice a' m.length cap'), (5, true, i64 (i : Int))]) pE (fun _ h => h) ?_
      refine wc_draw 9 (by kernel_rfl) rfl (by kernel_rfl) (fun _ _ h k => h.ext k) ?_
      repeat' (first | (refine gD ?_; first | refine yd_v rfl rfl rfl rfl rfl rfl ?_ | refine wd_v rfl rfl rfl rfl rfl rfl (by first | (show OpV _ _ _ _ (Oper.mk _ (Op.indexAddr _ _ _) _ _ _ _) _ _; first | exact ov_indexAddr rfl rfl pK pI pI rfl pZ (fun hcg => (h3 (by intro h; subst h; simp only [List.length_nil] at *; omega)).1) pS | exact ov_indexAddr rfl rfl pK pI pI rfl pZ (fun hcg => (h3' (by intro h; subst h; simp only [List.length_nil] at *; omega)).1) pS) | (show OpV _ _ _ _ (Oper.mk _ (Op.load _ _) _ _ _ _) _ _; first | exact ov_loadSM rfl pI rfl pZ (fun hcg => (h3 (by intro h; subst h; simp only [List.length_nil] at *; omega)).2) (fun hcg => pcell (h4 i (by omega))) | exact ov_loadSM rfl pI rfl pZ (fun hcg => (h3' (by intro h; subst h; simp only [List.length_nil] at *; omega)).2) (fun hcg => pcell (h4' i (by omega))))) ?_ | refine yd_new rfl rfl rfl rfl rfl rfl ?_ | refine wd_conv rfl rfl rfl rfl rfl rfl rfl rfl rfl rfl ?_) | (refine gE ?_; first | refine wd_nil ?_ | refine wd_nilF ?_) | (first | refine sk ?_ | (refine gL ?_; first | refine wl_v rfl rfl rfl (by first | (show OpV _ _ _ _ (Oper.mk _ (Op.indexAddr _ _ _) _ _ _ _) _ _; first | exact ov_indexAddr rfl rfl pK pI pI rfl pZ (fun hcg => (h3 (by intro h; subst h; simp only [List.length_nil] at *; omega)).1) pS | exact ov_indexAddr rfl rfl pK pI pI rfl pZ (fun hcg => (h3' (by intro h; subst h; simp only [List.length_nil] at *; omega)).1) pS) | (show OpV _ _ _ _ (Oper.mk _ (Op.load _ _) _ _ _ _) _ _; first | exact ov_loadSM rfl pI rfl pZ (fun hcg => (h3 (by intro h; subst h; simp only [List.length_nil] at *; omega)).2) (fun hcg => pcell (h4 i (by omega))) | exact ov_loadSM rfl pI rfl pZ (fun hcg => (h3' (by intro h; subst h; simp only [List.length_nil] at *; omega)).2) (fun hcg => pcell (h4' i (by omega))))) ?_) | fail))
      repeat' (first | refine sk ?_ | (refine wc_cond rfl (fun hc => ?_) (fun hc => ?_) <;> (try (simp only [bls] at hc)) <;> (try (exfalso; first | omega | contradiction))))
      · refine wr_tmp rfl rfl (congrArg Value.bool ?_)
        symm
        rw [decide_eq_false_iff_not]
        rintro rfl
        simp at hc
      · have hh : l.getD i default = m.getD i default := by
          simp at hc
          exact Prod.ext hc.1 hc.2
        refine wn_cut ⟨i + 1, by omega, ?_⟩ (by show l.length - (i + 1) < l.length - i; omega) pE (fun _ h => h)
        intro j hj
        by_cases h : j = i
        · subst h; exact hh
        · exact hall j (by omega)
    · refine wr_tmp rfl rfl (congrArg Value.bool ?_)
      symm
      rw [decide_eq_true_iff]
      apply List.ext_getElem (by omega)
      intro j hj hj'
      have := hall j (by omega)
      simpa [hj, hj'] using this
/-- the cells of laid pairs, in a row -/
theorem row_cells : ∀ (l : List Pr) (cs : Array Value) (o : Nat), (∀ i, i < l.length → cs[o + i * 2]? = some (str (l.getD i default).1) ∧ cs[o + i * 2 + 1]? = some (str (l.getD i default).2)) → ∀ j u, (cellsP l)[j]? = some u → cs[o + j]? = some u
  | [], cs, o, _, j, u, hj => by simp [cellsP] at hj
  | p :: l, cs, o, h, j, u, hj => by
    have h0 := h 0 (by simp)
    have hl := row_cells l cs (o + 2) (fun i hi => by
      have := h (i + 1) (by simpa using hi)
      rw [show o + 2 + i * 2 = o + (i + 1) * 2 from by omega]
      simpa using this)
    match j, hj with
    | 0, hj => simp [cellsP] at hj; subst hj; simpa using h0.1
    | 1, hj => simp [cellsP] at hj; subst hj; simpa using h0.2
    | j + 2, hj =>
      have := hl j u (by simpa [cellsP] using hj)
      rw [show o + (j + 2) = o + 2 + j from by omega]; exact this
theorem row_at {M : Ghost} {a : Option Addr} {b o : Nat} {cs : Array Value} {T : TypeId} {fz : Nat × Nat} {l : List Pr} (h3 : l ≠ [] → a = some ⟨b, o, none⟩ ∧ M b (.cells cs T fz)) (h4 : ∀ i, i < l.length → cs[o + i * 2]? = some (str (l.getD i default).1) ∧ cs[o + i * 2 + 1]? = some (str (l.getD i default).2)) : RowAt M a (cellsP l) := by
  cases l with
  | nil => exact .inl rfl
  | cons p l =>
    obtain ⟨h5, h6⟩ := h3 (by simp)
    exact .inr ⟨b, o, cs, T, fz, h5, h6, row_cells _ cs o h4⟩
end Go.Proofs.YtgfbieplidpebaaGreatDoor
/-
  The library's contracts of strings.Builder at this program, and a class of worlds in which the call has a builder.
-/
namespace Go.Proofs.YtgfbieplidpebaaGreatDoor
open Go.Eng Go.Shelf Go.RowKit
set_option maxRecDepth 10000

def bren166 : Go.Shelf.Ren := ⟨fun | 166 => 91 | 240 => 109 | 276 => 123 | n => n, fun | 0 => 0 | 3 => 3 | 4 => 4 | 9 => 9 | 20 => 20 | 37 => 108 | 70 => 107 | 72 => 110 | 75 => 118 | 164 => 142 | 5 => 5 | 80 => 112 | n => n, fun n => n⟩
theorem blays166 : Go.Proofs.Lays.n166 Tryz.prog bren166 := {
  mixed := by kernel_rfl
  f166 := Tryz.func91.trans (congrArg some (by kernel_rfl))
  f240 := Tryz.func109.trans (congrArg some (by kernel_rfl))
  f276 := Tryz.func123.trans (congrArg some (by kernel_rfl))
  t0 := Tryz.underlying0
  a0 := Tryz.isAgg0
  z0 := Tryz.sizeOf0
  v0 := Tryz.zeroValue0
  t3 := Tryz.underlying3
  a3 := Tryz.isAgg3
  z3 := Tryz.sizeOf3
  v3 := Tryz.zeroValue3
  t4 := Tryz.underlying4
  a4 := Tryz.isAgg4
  z4 := Tryz.sizeOf4
  v4 := Tryz.zeroValue4
  t9 := Tryz.underlying9
  a9 := Tryz.isAgg9
  z9 := Tryz.sizeOf9
  v9 := Tryz.zeroValue9
  t20 := Tryz.underlying20
  a20 := Tryz.isAgg20
  z20 := Tryz.sizeOf20
  v20 := Tryz.zeroValue20
  t37 := Tryz.underlying108
  a37 := Tryz.isAgg108
  z37 := Tryz.sizeOf108
  v37 := Tryz.zeroValue108
  t70 := Tryz.underlying107
  a70 := Tryz.isAgg107
  z70 := Tryz.sizeOf107
  v70 := Tryz.zeroValue107
  t72 := Tryz.underlying110
  a72 := Tryz.isAgg110
  z72 := Tryz.sizeOf110
  v72 := Tryz.zeroValue110
  t75 := Tryz.underlying118
  a75 := Tryz.isAgg118
  z75 := Tryz.sizeOf118
  v75 := Tryz.zeroValue118
  t164 := Tryz.underlying142
  a164 := Tryz.isAgg142
  z164 := Tryz.sizeOf142
  v164 := Tryz.zeroValue142 }
theorem bext166 : Builder.Extra Tryz.prog bren166 := {
  sizeBuilder := by kernel_rfl
  liesBuilder := by kernel_rfl
  t5 := Tryz.underlying5
  a5 := Tryz.isAgg5
  z5 := Tryz.sizeOf5
  v5 := Tryz.zeroValue5
  infoByte := by kernel_rfl
  cellsByte := by kernel_rfl
  sizeByte := by kernel_rfl
  neB5 := by decide }
def bren169 : Go.Shelf.Ren := ⟨fun | 169 => 85 | n => n, fun | 0 => 0 | 3 => 3 | 9 => 9 | 37 => 108 | 70 => 107 | 72 => 110 | 127 => 126 | 5 => 5 | n => n, fun n => n⟩
theorem blays169 : Go.Proofs.Lays.n169 Tryz.prog bren169 := {
  mixed := by kernel_rfl
  f169 := Tryz.func85.trans (congrArg some (by kernel_rfl))
  t0 := Tryz.underlying0
  a0 := Tryz.isAgg0
  z0 := Tryz.sizeOf0
  v0 := Tryz.zeroValue0
  t3 := Tryz.underlying3
  a3 := Tryz.isAgg3
  z3 := Tryz.sizeOf3
  v3 := Tryz.zeroValue3
  t9 := Tryz.underlying9
  a9 := Tryz.isAgg9
  z9 := Tryz.sizeOf9
  v9 := Tryz.zeroValue9
  t37 := Tryz.underlying108
  a37 := Tryz.isAgg108
  z37 := Tryz.sizeOf108
  v37 := Tryz.zeroValue108
  t70 := Tryz.underlying107
  a70 := Tryz.isAgg107
  z70 := Tryz.sizeOf107
  v70 := Tryz.zeroValue107
  t72 := Tryz.underlying110
  a72 := Tryz.isAgg110
  z72 := Tryz.sizeOf110
  v72 := Tryz.zeroValue110
  t127 := Tryz.underlying126
  a127 := Tryz.isAgg126
  z127 := Tryz.sizeOf126
  v127 := Tryz.zeroValue126 }
theorem bext169 : Builder.Extra Tryz.prog bren169 := {
  sizeBuilder := by kernel_rfl
  liesBuilder := by kernel_rfl
  t5 := Tryz.underlying5
  a5 := Tryz.isAgg5
  z5 := Tryz.sizeOf5
  v5 := Tryz.zeroValue5
  infoByte := by kernel_rfl
  cellsByte := by kernel_rfl
  sizeByte := by kernel_rfl
  neB5 := by decide }
abbrev tB : TypeId := 110
abbrev tY : TypeId := 5

/-- The state of a call that has a builder at block b, of these bytes. -/
structure SB (w0 : World) (H : List (Nat × Obj)) (M : Ghost) (b : Nat) (l : List UInt8) (w : World) : Prop where
  st : St w0 [] H M w
  bd : Lib.IsBuilderF tB tY w0.heap.size b (Lib.byteCells l) w
  ne : ∀ p ∈ H, p.1 ≠ b ∧ ∀ c fz, p.2 ≠ .cells c tY fz
  nm : ∀ k o, M k o → k < w0.heap.size ∨ (k ≠ b ∧ ∀ c fz, o ≠ .cells c tY fz)

section
variable {w0 w w' : World} {H : List (Nat × Obj)} {M : Ghost} {b : Nat} {l : List UInt8}
theorem SB.start {hw : ∀ k o, M k o → k < w0.heap.size} (h : St w0 [] ((b, .cells [.pointer none, .slice none 0 0].toArray tB (0, 0)) :: H) M w) (hH : ∀ p ∈ H, ∀ c fz, p.2 ≠ .cells c tY fz) : SB w0 H M b [] w := by
  have h0 := h.own (b, _) (List.Mem.head _)
  have hb := h.new (b, .cells [.pointer none, .slice none 0 0].toArray tB (0, 0)) (List.Mem.head _)
  have hn := h.nodup
  refine ⟨h.drop (List.Sublist.cons _ (List.Sublist.refl _)), .inl ⟨by simpa using hb, .slice none 0 0, h0, World.ownsRowF_nil _ _ _ _, by simp [Value.ownBlock]⟩, fun p hp => ⟨?_, hH p hp⟩, fun k o hm => .inl (hw k o hm)⟩
  intro e
  simp only [List.map_cons, List.nodup_cons] at hn
  exact hn.1 (List.mem_map.2 ⟨p, hp, e⟩)
theorem SB.ext (h : SB w0 H M b l w) (k : Ext w w') : SB w0 H M b l w' := by
  have hat : ∀ p, Lib.BuilderAtF tB tY w0.heap.size b p (Lib.byteCells l) w → Lib.BuilderAtF tB tY w0.heap.size b p (Lib.byteCells l) w' := by
    intro p hp
    have hlt := hp.lt
    obtain ⟨hB, v, hb, hown, hne⟩ := hp
    exact ⟨hB, v, by rw [k.block b hlt (by simp)]; exact hb, hown.kept (row := none) ⟨k.os, k.tape, k.output, k.size, fun j hj _ => k.block j hj (by simp)⟩ (by cases hv : v.ownBlock <;> simp), hne⟩
  exact ⟨h.st.ext k, h.bd.imp (hat _) (hat _), h.ne, h.nm⟩
theorem SB.step (h : SB w0 H M b l w) {l' : List UInt8} (hb : Below w0.heap.size w w') (ho : Lib.OthersKept tY (some b) w w') (hd : Lib.IsBuilderF tB tY w0.heap.size b (Lib.byteCells l') w') : SB w0 H M b l' w' := by
  refine ⟨⟨⟨hb.os.trans h.st.keep.os, hb.tape.trans h.st.keep.tape, hb.output.trans h.st.keep.output, Nat.le_trans h.st.keep.size hb.size, fun k hk hn => (hb.block k hk).trans (h.st.keep.block k hk hn)⟩, ?_, h.st.new, h.st.nodup, ?_, h.st.apart⟩, hd, h.ne, h.nm⟩
  · intro p hp
    have := h.ne p hp
    exact ho p.1 p.2 (h.st.own p hp) (by intro e; injection e with e; exact this.1 e) this.2
  · intro k o hm
    rcases h.nm k o hm with hk | hk
    · rw [hb.block k hk]; exact h.st.laid k o hm
    · exact ho k o (h.st.laid k o hm) (by intro e; injection e with e; exact hk.1 e) hk.2
theorem SB.size (h : SB w0 H M b l w) : w0.heap.size ≤ w.heap.size := h.st.keep.size
theorem byteCells_append (l m : List UInt8) : Lib.byteCells (l ++ m) = Lib.byteCells l ++ Lib.byteCells m := by simp [Lib.byteCells]
theorem strCells_byte (m : List UInt8) : Lib.strCells ⟨m.toArray⟩ = Lib.byteCells m := by simp [Lib.strCells, Lib.byteCells]
theorem bwString (h : SB w0 H M b l w) (s : List UInt8) (hl : l.length ≤ 100000000000000) (hs : s.length ≤ 10000000000000) : Calls Tryz.prog 91 #[.pointer (some ⟨b, 0, none⟩), str s] w (fun e w' => e = .returned (.tuple #[i64 (s.length : Int), .nilIface]) ∧ SB w0 H M b (l ++ s) w') := by
  refine (Any.Builder_WriteString_k blays166 bext166 w0.heap.size b (Lib.byteCells l) ⟨s.toArray⟩ w h.bd (by rw [Lib.byteCells_length]; simp [ByteArray.size]; omega) h.size).mono ?_
  rintro e w' ⟨rfl, h1, h2, h3⟩
  refine ⟨by simp [ByteArray.size, i64], h.step h2 h3 (.inr ?_)⟩
  rw [byteCells_append, ← strCells_byte s]; exact h1
theorem bsString (h : SB w0 H M b l w) : Calls Tryz.prog 85 #[.pointer (some ⟨b, 0, none⟩)] w (fun e w' => e = .returned (str l) ∧ SB w0 H M b l w') := by
  refine (Any.Builder_String_any_k blays169 bext169 w0.heap.size b l w h.bd h.size).mono ?_
  rintro e w' ⟨rfl, h1, h2, h3⟩
  exact ⟨rfl, h.step h2 h3 h1⟩
end

section
variable {P : Program} {n : Nat} {E : Env} {k : Kont} {ops : Array Oper} {rest : List Oper} {C C' : World → Prop}
variable {dst : Option Tmp} {ty : TypeId} {pos : String} {af : Array Edge} {g : Option (Nat × Bool)}
/-- A call that leads from one class of worlds to another. -/
theorem wl_callC {f : FuncId} {l : List Operand} {ats : Array TypeId} {vs : List (Bool × Value)} {args : Array Value} {d : Nat} {v : Value}
    (hg : gd ops E g = some true) (hf : ∀ args w, (callFunc f args).run P w = .ok (.enter f args) w) (hl : evg true E l = some vs) (hp : vs.all (·.1) = true) (hargs : vs.map (·.2) = args.toList) (hd : Nat.blt d n = true)
    (hc : ∀ w, C w → Calls P f args w (fun e w' => e = .returned v ∧ C' w'))
    (h : WL P ops rest n ((d, true, v) :: E) C' k) :
    WL P ops (⟨some d, .call ⟨.value (.func f), l.toArray, ats⟩, ty, pos, af, g⟩ :: rest) n E C k := by
  have hd : d < n := by simpa [Nat.blt_eq] using hd
  refine wl_op hg fun a w ha hw => ?_
  unfold Oper.wp
  rw [run_callf hf (args := args) (by rw [evg_eval ha hl (by simpa using hp), hargs]), Oper.upon_enter]
  refine (hc w hw).mono ?_
  rintro e w' ⟨rfl, hC⟩
  exact h.run _ w' (ha.put hd rfl) hC
end
end Go.Proofs.YtgfbieplidpebaaGreatDoor
/-
  The engine in a call that has a builder: its own blocks beside it.
-/
namespace Go.Proofs.YtgfbieplidpebaaGreatDoor
open Go.Eng Go.RowKit
set_option linter.unusedVariables false

section
variable {w0 w w' : World} {H H' : List (Nat × Obj)} {M : Ghost} {b : Nat} {l : List UInt8}
theorem SB.own (h : SB w0 H M b l w) (hst : St w0 [] H' M w') (hg : w.heap.size ≤ w'.heap.size) (hk : ∀ j o, w.heap[j]? = some o → (j = b ∨ ∃ c fz, o = .cells c tY fz) → w'.heap[j]? = some o) (hne : ∀ p ∈ H', p.1 ≠ b ∧ ∀ c fz, p.2 ≠ .cells c tY fz) : SB w0 H' M b l w' := by
  have hat : ∀ p, Lib.BuilderAtF tB tY w0.heap.size b p (Lib.byteCells l) w → Lib.BuilderAtF tB tY w0.heap.size b p (Lib.byteCells l) w' := by
    intro p hp
    obtain ⟨hB, v, hb, hown, hn⟩ := hp
    refine ⟨hB, v, hk b _ hb (.inl rfl), ⟨hown.1, ?_⟩, hn⟩
    rcases hown.2 with h1 | ⟨g, cap, cur, fz, rfl, hb2, hgg, rest⟩
    · exact .inl h1
    · exact .inr ⟨g, cap, cur, fz, rfl, hb2, hk g _ hgg (.inr ⟨cur, fz, rfl⟩), rest⟩
  exact ⟨hst, h.bd.imp (hat _) (hat _), hne, h.nm⟩
theorem SB.lt (h : SB w0 H M b l w) : b < w.heap.size := by
  rcases h.bd with hb | hb
  · exact hb.lt
  · exact hb.lt
theorem SB.alloc (h : SB w0 H M b l w) (o : Obj) (ho : ∀ c fz, o ≠ .cells c tY fz) : SB w0 ((w.heap.size, o) :: H) M b l { w with heap := w.heap.push o } := by
  have hlt := h.lt
  refine h.own (h.st.alloc o) (by simp) (fun j o' hj _ => ?_) ?_
  · have := lt_of_get hj
    show (w.heap.push o)[j]? = _
    rw [Array.getElem?_push, if_neg (by omega)]; exact hj
  · intro p hp
    rcases List.mem_cons.1 hp with rfl | hp
    · exact ⟨by show w.heap.size ≠ b; omega, ho⟩
    · exact h.ne p hp
theorem SB.upd {c : Nat} {o o' : Obj} (h : SB w0 H M b l w) (hu : Upd H c o o' H') (k : Keep [c] w w') (hb : w'.heap[c]? = some o') (ho : ∀ x fz, o' ≠ .cells x tY fz) : SB w0 H' M b l w' := by
  have hm := h.ne _ hu.mem
  have hc := h.st.get hu.mem
  refine h.own (h.st.upd hu k hb) k.size (fun j o1 hj hor => ?_) ?_
  · rw [k.block j (lt_of_get hj) ?_]; exact hj
    intro hmem
    rw [List.mem_singleton] at hmem
    subst hmem
    rcases hor with e | ⟨x, fz, rfl⟩
    · exact hm.1 e
    · rw [hc] at hj
      exact hm.2 x fz (Option.some.inj hj)
  · intro p hp
    rcases hu.new h.st.nodup p hp with rfl | ⟨hp, _⟩
    · exact ⟨hm.1, ho⟩
    · exact h.ne p hp
theorem SB.publish {H1 H2 : List (Nat × Obj)} (h : SB w0 (H1 ++ H2) M b l w) : SB w0 H2 (With M H1) b l w := by
  refine ⟨h.st.publish, h.bd, fun p hp => h.ne p (List.mem_append_right _ hp), fun k o hm => ?_⟩
  rcases hm with hm | hm
  · exact h.nm k o hm
  · exact .inr (h.ne (k, o) (List.mem_append_left _ hm))
end
section
variable {P : Program} {n : Nat} {E : Env} {k : Kont} {ops : Array Oper} {rest : List Oper} {cg : Bool}
variable {dst : Option Tmp} {ty : TypeId} {pos : String} {af : Array Edge} {g : Option (Nat × Bool)}
variable {w0 : World} {H : List (Nat × Obj)} {M : Ghost} {b : Nat} {s : List UInt8} {x y : Operand}
theorem ov_SB {o : Oper} {v : Value} (h : OpV P n E (St w0 [] H M) o cg v) : OpV P n E (SB w0 H M b s) o cg v := ⟨fun hc a ha w hw => by
  have h := h.run hc a ha w hw.st
  unfold YAt at *
  generalize (execOp a.eval o).run P w = r at *
  cases r with
  | ok nx w1 =>
    cases nx <;> simp only [] at h ⊢
    case value u => exact h
    case enter f args => exact ⟨h.1, h.2.mono fun e w2 ⟨he, hx, _⟩ => ⟨he, hx, hw.ext hx⟩⟩
  | halt x w1 => simp only [] at h⟩
theorem wl_allocB {T : TypeId} {z : Value} {d : Nat} {l : List Value} (hg : gd ops E g = some true) (hz : ∀ w, (zeroValue T).run P w = .ok z w) (hd : Nat.blt d n = true) (hl : z.cells.toList = l) (hT : T ≠ tY)
    (h : ∀ c, WL P ops rest n ((d, true, .pointer (some ⟨c, 0, none⟩)) :: E) (SB w0 ((c, .cells l.toArray T (0, 0)) :: H) M b s) k) :
    WL P ops (⟨some d, .alloc T, ty, pos, af, g⟩ :: rest) n E (SB w0 H M b s) k := by
  have hd : d < n := by simpa [Nat.blt_eq] using hd
  refine wl_op hg fun a w ha hw => ?_
  subst hl
  unfold Oper.wp
  have : (execOp a.eval ⟨some d, .alloc T, ty, pos, af, g⟩).run P w = .ok (.value (.pointer (some ⟨w.heap.size, 0, none⟩))) { w with heap := w.heap.push (.cells z.cells T (0, 0)) } := by
    simp [execOp, Instr.alloc, hz, newVar, run_newRow]
  rw [this, Oper.upon_value]
  exact (h _).run _ _ (ha.put hd rfl) (hw.alloc _ (fun c fz e => hT (by injection e)))
theorem wl_storeB {t : TypeId} {c o : Nat} {l : List Value} {T : TypeId} {v : Value} {H' : List (Nat × Obj)} (hg : gd ops E g = some true) (hx : ev E x = some (true, .pointer (some ⟨c, o, none⟩))) (hy : ev E y = some (true, v)) (hs : (P.info? t).map (·.size) = some v.cells.size)
    {l' : List Value} (hu : Upd H c (.cells l.toArray T (0, 0)) (.cells l'.toArray T (0, 0)) H') (hn : setCells l o v.cells.toList = l') (hl : Nat.ble (o + v.cells.size) l.length = true) (hp : v.cells.toList.all plainV = true) (hT : T ≠ tY)
    (h : WL P ops rest n E (SB w0 H' M b s) k) : WL P ops (⟨none, .store t x y, ty, pos, af, g⟩ :: rest) n E (SB w0 H M b s) k := by
  refine wl_op hg fun a w ha hw => ?_
  have hl : o + v.cells.size ≤ l.length := by simpa [Nat.ble_eq] using hl
  subst hn
  obtain ⟨w', h1, h2, h3⟩ := run_storeCells (P := P) v.cells.toList 0 l w (hw.st.get hu.mem) (by simpa using hl) hp
  unfold Oper.wp
  have : (execOp a.eval ⟨none, .store t x y, ty, pos, af, g⟩).run P w = .ok .skip w' := by
    simp [execOp, ha.eval hx, ha.eval hy, Instr.storeAt, Instr.sureAddr, storeVar, Go.Eng.run_sizeOf hs, h1]
  rw [this, Oper.upon_skip]
  exact h.run _ _ (by simpa [Act.put] using ha) (hw.upd hu h2 (by simpa using h3) (fun c fz e => hT (by injection e)))
theorem wl_publishB {H1 H2 : List (Nat × Obj)} {l : List Oper} (h : WL P ops l n E (SB w0 H2 (With M H1) b s) k) : WL P ops l n E (SB w0 (H1 ++ H2) M b s) k :=
  wl_weak (Eng.Sub.refl _) (fun _ h => h.publish) h
end
end Go.Proofs.YtgfbieplidpebaaGreatDoor
/-
  The small functions of package xml and matricularef06; the library's CutPrefix, IndexFunc, ContainsFunc.
-/
namespace Go.Proofs.YtgfbieplidpebaaGreatDoor
open Go.Eng Go.Pct Go.Xml Go.Rsp
set_option maxRecDepth 10000
set_option linter.unusedSimpArgs false
set_option linter.unusedVariables false

variable {M : Ghost} {w : World}

theorem prefix_ok (hM : Laid M w) (s p : List UInt8) : Calls Tryz.prog 79 #[str s, str p] w (RetE w (.bool (Lib.hasPrefix s p))) := by
  refine (Tryz.strings_HasPrefix ⟨s.toArray⟩ ⟨p.toArray⟩ w).mono ?_
  rintro e w' ⟨rfl, rfl⟩
  exact ⟨rfl, Keep.refl _ _⟩
theorem lprefix_ok (hM : Laid M w) (s p : List UInt8) : Calls Tryz.prog 81 #[str s, str p] w (RetE w (.bool (Lib.hasPrefix s p))) := by
  refine (Tryz.stringslite_HasPrefix ⟨s.toArray⟩ ⟨p.toArray⟩ w).mono ?_
  rintro e w' ⟨rfl, rfl⟩
  exact ⟨rfl, Keep.refl _ _⟩
theorem hasPrefix_len {s p : List UInt8} (h : Lib.hasPrefix s p = true) : p.length ≤ s.length := by
  unfold Lib.hasPrefix at h
  exact (List.isPrefixOf_iff_prefix.1 h).length_le
def cutP (s p : List UInt8) : List UInt8 := if Lib.hasPrefix s p = true then s.drop p.length else s
theorem lcutprefix_ok (hM : Laid M w) (s p : List UInt8) : Calls Tryz.prog 103 #[str s, str p] w (RetE w (.tuple #[str (cutP s p), .bool (Lib.hasPrefix s p)])) := by
  unfold cutP
  cases h : Lib.hasPrefix s p with
  | true =>
    have hp := fun {w : World} (hw : Laid M w) => lprefix_ok hw s p
    rw [h] at hp
    have := hasPrefix_len h
    refine fn2 hM Tryz.func103 ?_
    repeat' (first | (first | refine sk ?_ | (refine gL ?_; first | refine wl_v rfl rfl rfl (by first | (exact oc 81 Tryz.call81 (h := fun hcg w hw => hp hw.laid))) ?_) | fail) | (refine wc_cond rfl (fun hc => ?_) (fun hc => ?_) <;> (try (simp only [bls] at hc)) <;> (try (exfalso; first | omega | contradiction))))
    exact wr_tmp2 rfl rfl rfl rfl rfl
  | false =>
    have hp := fun {w : World} (hw : Laid M w) => lprefix_ok hw s p
    rw [h] at hp
    refine fn2 hM Tryz.func103 ?_
    repeat' (first | (first | refine sk ?_ | (refine gL ?_; first | refine wl_v rfl rfl rfl (by first | (exact oc 81 Tryz.call81 (h := fun hcg w hw => hp hw.laid))) ?_) | fail) | (refine wc_cond rfl (fun hc => ?_) (fun hc => ?_) <;> (try (simp only [bls] at hc)) <;> (try (exfalso; first | omega | contradiction))))
    exact wr_tmp2 rfl rfl rfl rfl rfl
theorem cutprefix_ok (hM : Laid M w) (s p : List UInt8) : Calls Tryz.prog 87 #[str s, str p] w (RetE w (.tuple #[str (cutP s p), .bool (Lib.hasPrefix s p)])) := by
  refine fn2 hM Tryz.func87 ?_
  repeat' (first | (first | refine sk ?_ | (refine gL ?_; first | refine wl_v rfl rfl rfl (by first | (exact oc 103 Tryz.call103 (h := fun hcg w hw => lcutprefix_ok hw.laid s p))) ?_) | fail) | (refine wc_cond rfl (fun hc => ?_) (fun hc => ?_) <;> (try (simp only [bls] at hc)) <;> (try (exfalso; first | omega | contradiction))))
  exact wr_tmp2 rfl rfl rfl rfl rfl
theorem mk_f1 (c : UInt8) : (c.toNat : Int) = 38 → (mk c).getD [] = [38, 97, 109, 112, 59] := by revert c; apply all_bytes; decide +kernel
theorem mk_f2 (c : UInt8) : (c.toNat : Int) = 60 → (mk c).getD [] = [38, 108, 116, 59] := by revert c; apply all_bytes; decide +kernel
theorem mk_f3 (c : UInt8) : (c.toNat : Int) = 62 → (mk c).getD [] = [38, 103, 116, 59] := by revert c; apply all_bytes; decide +kernel
theorem mk_f4 (c : UInt8) : (c.toNat : Int) = 34 → (mk c).getD [] = [38, 113, 117, 111, 116, 59] := by revert c; apply all_bytes; decide +kernel
theorem mk_f5 (c : UInt8) : (c.toNat : Int) = 39 → (mk c).getD [] = [38, 35, 51, 57, 59] := by revert c; apply all_bytes; decide +kernel
theorem mk_f6 (c : UInt8) : (¬ (c.toNat : Int) = 38 ∧ ¬ (c.toNat : Int) = 60 ∧ ¬ (c.toNat : Int) = 62 ∧ ¬ (c.toNat : Int) = 34 ∧ ¬ (c.toNat : Int) = 39) → (mk c).getD [] = [] := by revert c; apply all_bytes; decide +kernel
theorem rmark_ok (hM : Laid M w) (c : UInt8) : Calls Tryz.prog 114 #[byt c] w (RetE w (str ((mk c).getD []))) := by
  have hu := u8_lt c
  refine fn1 hM Tryz.func114 ?_
  repeat' (first | refine sk ?_ | (refine wc_cond rfl (fun hc => ?_) (fun hc => ?_) <;> (try (simp only [bls] at hc)) <;> (try (exfalso; first | omega | contradiction))))
  · exact wr_tmp rfl rfl (by rw [mk_f1 c (by omega)])
  · exact wr_tmp rfl rfl (by rw [mk_f2 c (by omega)])
  · exact wr_tmp rfl rfl (by rw [mk_f3 c (by omega)])
  · exact wr_tmp rfl rfl (by rw [mk_f4 c (by omega)])
  · exact wr_tmp rfl rfl (by rw [mk_f5 c (by omega)])
  · exact wr_tmp rfl rfl (by rw [mk_f6 c (by omega)])
theorem esc_length (s : List UInt8) : (esc s).length ≤ 6 * s.length := by
  have key : ∀ c, (esc1 c).length ≤ 6 := by apply all_bytes; decide +kernel
  unfold esc
  induction s with
  | nil => simp
  | cons c s ih => rw [List.flatMap_cons, List.length_append, List.length_cons]; have := key c; omega
theorem esc_succ {s : List UInt8} {i : Nat} (h : i < s.length) : esc (s.take (i + 1)) = esc (s.take i) ++ esc1 (s.getD i 0) := by
  unfold esc; rw [take_getD h, List.flatMap_append]; simp
theorem mk_len (c : UInt8) : ((mk c).getD []).length ≤ 6 := by revert c; apply all_bytes; decide +kernel
theorem esc1_of (c : UInt8) : ((mk c).getD [] = [] → esc1 c = [c]) ∧ (¬ (mk c).getD [] = [] → esc1 c = (mk c).getD []) := by
  revert c; apply all_bytes; decide +kernel
theorem rescape_ok (hM : Laid M w) (s : List UInt8) (hs : s.length ≤ 1000000000) : Calls Tryz.prog 102 #[str s] w (RetE w (str (esc s))) := by
  refine fn1 hM Tryz.func102 ?_
  repeat' (first | refine sk ?_ | (refine wc_cond rfl (fun hc => ?_) (fun hc => ?_) <;> (try (simp only [bls] at hc)) <;> (try (exfalso; first | omega | contradiction))))
  refine wc_loop (α := { i : Nat // i ≤ s.length }) (fun x => [(0, true, str s), (3, true, str (esc (s.take x.1))), (4, true, i64 (x.1 : Int))]) (fun _ => St w [] [] M) (fun x => s.length - x.1) ⟨0, by omega⟩ pE (fun _ h => h) ?_
  rintro ⟨i, hi⟩
  dsimp only
  have hle := esc_length (s.take i)
  have hlt : (s.take i).length ≤ i := List.length_take_le _ _
  have hml := mk_len (s.getD i 0)
  obtain ⟨q1, q2⟩ := esc1_of (s.getD i 0)
  repeat' (first | (first | refine sk ?_ | (refine gL ?_; first | refine wl_v rfl rfl rfl (by first | (exact oc 114 Tryz.call114 (h := fun hcg w hw => rmark_ok hw.laid _))) ?_) | fail) | (refine wc_cond rfl (fun hc => ?_) (fun hc => ?_) <;> (try (simp only [bls] at hc)) <;> (try (exfalso; first | omega | contradiction))))
  · refine wn_cut ⟨i + 1, by omega⟩ (by show s.length - (i + 1) < s.length - i; omega) (by rw [esc_succ (by omega), q1 hc]; rw [slice_one (by omega)]; exact pE) (fun _ h => h)
  · refine wn_cut ⟨i + 1, by omega⟩ (by show s.length - (i + 1) < s.length - i; omega) (by rw [esc_succ (by omega), q2 hc]; exact pE) (fun _ h => h)
  · refine wr_tmp rfl rfl ?_
    rw [List.take_of_length_le (by omega)]
/-- where a pair first is as asked -/
def idxP (p : Pr → Bool) : List Pr → Nat
  | [] => 0
  | x :: l => if p x = true then 0 else idxP p l + 1
theorem idxP_hit (p : Pr → Bool) : ∀ {l : List Pr} {i : Nat}, i < l.length → (∀ j, j < i → p (l.getD j default) = false) → p (l.getD i default) = true → idxP p l = i
  | [], i, h, _, _ => by simp at h
  | x :: l, 0, _, _, h2 => by
    have : p x = true := by simpa using h2
    rw [idxP, if_pos this]
  | x :: l, i + 1, h, h1, h2 => by
    have hx : p x = false := by simpa using h1 0 (by omega)
    rw [idxP, if_neg (by rw [hx]; decide), idxP_hit p (l := l) (i := i) (by simpa using h) (fun j hj => by simpa using h1 (j + 1) (by omega)) (by simpa using h2)]
theorem idxP_no (p : Pr → Bool) : ∀ {l : List Pr}, (∀ j, j < l.length → p (l.getD j default) = false) → idxP p l = l.length
  | [], _ => rfl
  | x :: l, h => by
    have hx : p x = false := by simpa using h 0 (by simp)
    rw [idxP, if_neg (by rw [hx]; decide), idxP_no p (l := l) (fun j hj => by simpa using h (j + 1) (by simpa using hj))]; rfl
def idxZ (p : Pr → Bool) (l : List Pr) : Int := if idxP p l < l.length then (idxP p l : Int) else -1
theorem ifunc_ok (hM : Laid M w) {v : Value} {l : List Pr} (hv : SlP M v l) (p : Pr → Bool) (f : FuncId) (first captured : List Value) (hf : ∀ args w, (callFunc f args).run Tryz.prog w = .ok (.enter f args) w)
    (hby : ∀ x w, Laid M w → Calls Tryz.prog f (first ++ [Value.agg #[str x.1, str x.2]] ++ captured).toArray w (RetE w (.bool (p x)))) : Calls Tryz.prog 92 #[v, .func (.func f) first.toArray captured.toArray] w (RetE w (i64 (idxZ p l))) := by
  obtain ⟨a, cap, b, o, cs, T, fz, rfl, h1, h2, h3, h4⟩ := hv.open
  refine fn2 hM Tryz.func92 ?_
  repeat' (first | refine sk ?_ | (refine wc_cond rfl (fun hc => ?_) (fun hc => ?_) <;> (try (simp only [bls] at hc)) <;> (try (exfalso; first | omega | contradiction))))
  refine wc_loop (α := { i : Nat // i ≤ l.length ∧ ∀ j, j < i → p (l.getD j default) = false }) (fun x => [(0, true, .slice a l.length cap), (1, true, .func (.func f) first.toArray captured.toArray), (7, true, i64 (l.length : Int)), (8, true, i64 (x.1 : Int))]) (fun _ => St w [] [] M) (fun x => l.length - x.1) ⟨0, by omega, by intro j hj; omega⟩ pE (fun _ h => h) ?_
  rintro ⟨i, hi, hall⟩
  dsimp only
  rcases Nat.lt_or_ge i l.length with hlt | hge
  · have hne : l ≠ [] := by intro h; subst h; simp at hlt
    repeat' (first | (first | refine sk ?_ | (refine gL ?_; first | refine wl_v rfl rfl rfl (by first | (show OpV _ _ _ _ (Oper.mk _ (Op.indexAddr _ _ _) _ _ _ _) _ _; exact ov_indexAddr rfl rfl pK pI pI rfl pZ (fun hcg => (h3 hne).1) pS) | (show OpV _ _ _ _ (Oper.mk _ (Op.load _ _) _ _ _ _) _ _; exact ov_loadSM rfl pI rfl pZ (fun hcg => (h3 hne).2) (fun hcg => pcell (h4 i (by omega)))) | (show OpV _ _ _ _ (Oper.mk _ (Op.call ⟨.value (.tmp _), _, _⟩) _ _ _ _) _ _; exact ov_callV (first := first) (captured := captured) rfl hf rfl pA (by rfl) (fun _ _ h k => h.ext k) (fun hcg w hw => hby _ w hw.laid))) ?_) | fail) | (refine wc_cond rfl (fun hc => ?_) (fun hc => ?_) <;> (try (simp only [bls] at hc)) <;> (try (exfalso; first | omega | contradiction))))
    · refine wr_tmp rfl rfl ?_
      unfold idxZ
      rw [idxP_hit p hlt hall hc, if_pos hlt]
    · refine wn_cut ⟨i + 1, by omega, ?_⟩ (by show l.length - (i + 1) < l.length - i; omega) pE (fun _ h => h)
      intro j hj
      by_cases h : j = i
      · subst h; exact hc
      · exact hall j (by omega)
  · repeat' (first | refine sk ?_ | (refine wc_cond rfl (fun hc => ?_) (fun hc => ?_) <;> (try (simp only [bls] at hc)) <;> (try (exfalso; first | omega | contradiction))))
    refine wr_tmp rfl rfl ?_
    unfold idxZ
    rw [idxP_no p (fun j hj => hall j (by omega)), if_neg (by omega)]
theorem cfunc_ok (hM : Laid M w) {v : Value} {l : List Pr} (hv : SlP M v l) (p : Pr → Bool) (f : FuncId) (first captured : List Value) (hf : ∀ args w, (callFunc f args).run Tryz.prog w = .ok (.enter f args) w)
    (hby : ∀ x w, Laid M w → Calls Tryz.prog f (first ++ [Value.agg #[str x.1, str x.2]] ++ captured).toArray w (RetE w (.bool (p x)))) : Calls Tryz.prog 112 #[v, .func (.func f) first.toArray captured.toArray] w (RetE w (.bool (l.any p))) := by
  have hi := fun {w : World} (h : Laid M w) => ifunc_ok h hv p f first captured hf hby
  obtain ⟨a, cap, b, o, cs, T, fz, rfl, h1, h2, h3, h4⟩ := hv.open
  refine fn2 hM Tryz.func112 ?_
  repeat' (first | (first | refine sk ?_ | (refine gL ?_; first | refine wl_v rfl rfl rfl (by first | (exact oc 92 Tryz.call92 (h := fun hcg w hw => hi hw.laid))) ?_) | fail) | (refine wc_cond rfl (fun hc => ?_) (fun hc => ?_) <;> (try (simp only [bls] at hc)) <;> (try (exfalso; first | omega | contradiction))))
  refine wr_tmp rfl rfl (congrArg Value.bool ?_)
  have key : ∀ l : List Pr, decide (0 ≤ idxZ p l) = l.any p := by
    intro l
    have h : idxP p l < l.length ↔ l.any p = true := by
      induction l with
      | nil => simp [idxP]
      | cons x l ih =>
        rw [idxP, List.any_cons]
        by_cases hx : p x = true
        · rw [if_pos hx, hx]; simp
        · rw [if_neg hx]
          have hx' : p x = false := by simpa using hx
          rw [hx', Bool.false_or, ← ih, List.length_cons]; omega
    unfold idxZ
    by_cases hlt : idxP p l < l.length
    · rw [if_pos hlt, h.1 hlt, decide_eq_true (by omega)]
    · rw [if_neg hlt]
      have : l.any p = false := by rw [Bool.eq_false_iff]; exact fun e => hlt (h.2 e)
      rw [this]; rfl
  exact key l
theorem letter_all (c : UInt8) : ((decide ((97 : Int) ≤ c.toNat) && decide ((c.toNat : Int) ≤ 122) || decide ((65 : Int) ≤ c.toNat) && decide ((c.toNat : Int) ≤ 90)) : Bool) = letC c := by
  revert c; apply all_bytes; decide +kernel
theorem inside_all (c : UInt8) : ((letC c || decide ((48 : Int) ≤ c.toNat) && decide ((c.toNat : Int) ≤ 57) || decide ((c.toNat : Int) = 58) || decide ((c.toNat : Int) = 45) || decide ((c.toNat : Int) = 95)) : Bool) = insC c := by
  revert c; apply all_bytes; decide +kernel
theorem letter_ok (hM : Laid M w) (c : UInt8) : Calls Tryz.prog 110 #[byt c] w (RetE w (.bool (letC c))) := by
  refine fn1 hM Tryz.func110 ?_
  repeat' (first | refine sk ?_ | (refine wc_cond rfl (fun hc => ?_) (fun hc => ?_) <;> (try (simp only [bls] at hc)) <;> (try (exfalso; first | omega | contradiction))))
  exact wr_tmp rfl rfl (congrArg Value.bool (letter_all c))
theorem inside_ok (hM : Laid M w) (c : UInt8) : Calls Tryz.prog 111 #[byt c] w (RetE w (.bool (insC c))) := by
  refine fn1 hM Tryz.func111 ?_
  repeat' (first | (first | refine sk ?_ | (refine gL ?_; first | refine wl_v rfl rfl rfl (by first | (exact oc 110 Tryz.call110 (h := fun hcg w hw => letter_ok hw.laid _))) ?_) | fail) | (refine wc_cond rfl (fun hc => ?_) (fun hc => ?_) <;> (try (simp only [bls] at hc)) <;> (try (exfalso; first | omega | contradiction))))
  exact wr_tmp rfl rfl (congrArg Value.bool (inside_all c))
theorem name_ok (hM : Laid M w) (s : List UInt8) (hs : s.length ≤ 9223372036854775807) : Calls Tryz.prog 94 #[str s] w (RetE w (.bool (nameB s))) := by
  by_cases h0 : s = []
  · subst h0
    refine fn1 hM Tryz.func94 ?_
    repeat' (first | (first | refine sk ?_ | (refine gL ?_; first | refine wl_v rfl rfl rfl (by first | (show OpV _ _ _ _ (Oper.mk _ (Op.index _ _ _) _ _ _ _) _ _; exact ov_off (v := byt 0) rfl) | (exact oc 110 Tryz.call110 (h := fun hcg w hw => letter_ok hw.laid _))) ?_) | fail) | (refine wc_cond rfl (fun hc => ?_) (fun hc => ?_) <;> (try (simp only [bls] at hc)) <;> (try (exfalso; first | omega | contradiction))))
    exact wr_tmp rfl rfl rfl
  have hp := List.length_pos_iff.2 h0
  have hne : s.isEmpty = false := by cases s <;> simp_all
  refine fn1 hM Tryz.func94 ?_
  repeat' (first | (first | refine sk ?_ | (refine gL ?_; first | refine wl_v rfl rfl rfl (by first | (exact oc 110 Tryz.call110 (h := fun hcg w hw => letter_ok hw.laid _))) ?_) | fail) | (refine wc_cond rfl (fun hc => ?_) (fun hc => ?_) <;> (try (simp only [bls] at hc)) <;> (try (exfalso; first | omega | contradiction))))
  · refine wr_tmp rfl rfl (congrArg Value.bool ?_)
    unfold nameB
    rcases hc with h | h
    · exact absurd h h0
    · rw [hne, h]; rfl
  have hlet := hc.2
  refine wc_loop (α := { i : Nat // i ≤ s.length ∧ ∀ j, j < i → insC (s.getD j 0) = true }) (fun x => [(0, true, str s), (13, true, i64 (s.length : Int)), (14, true, i64 (x.1 : Int))]) (fun _ => St w [] [] M) (fun x => s.length - x.1) ⟨0, by omega, by intro j hj; omega⟩ pE (fun _ h => h) ?_
  rintro ⟨i, hi, hall⟩
  dsimp only
  repeat' (first | (first | refine sk ?_ | (refine gL ?_; first | refine wl_v rfl rfl rfl (by first | (exact oc 111 Tryz.call111 (h := fun hcg w hw => inside_ok hw.laid _))) ?_) | fail) | (refine wc_cond rfl (fun hc => ?_) (fun hc => ?_) <;> (try (simp only [bls] at hc)) <;> (try (exfalso; first | omega | contradiction))))
  · refine wr_tmp rfl rfl (congrArg Value.bool ?_)
    unfold nameB
    rw [all_no (i := i) (by omega) hc, Bool.and_false]
  · refine wn_cut ⟨i + 1, by omega, ?_⟩ (by show s.length - (i + 1) < s.length - i; omega) pE (fun _ h => h)
    intro j hj
    by_cases h : j = i
    · subst h; exact hc
    · exact hall j (by omega)
  · refine wr_tmp rfl rfl (congrArg Value.bool ?_)
    unfold nameB
    rw [hne, hlet, all_yes (fun j hj => hall j (by omega))]; rfl
theorem shw_no (c : UInt8) : ((c.toNat : Int) = 127 ∨ ((c.toNat : Int) < 32 ∧ ¬ (c.toNat : Int) = 9) ∧ ¬ (c.toNat : Int) = 10) → shwC c = false := by revert c; apply all_bytes; decide +kernel
theorem shw_yes (c : UInt8) : (¬ (c.toNat : Int) = 127 ∧ ((32 ≤ (c.toNat : Int) ∨ (c.toNat : Int) = 9) ∨ (c.toNat : Int) = 10)) → shwC c = true := by revert c; apply all_bytes; decide +kernel
theorem shown_ok (hM : Laid M w) (s : List UInt8) (hs : s.length ≤ 9223372036854775807) : Calls Tryz.prog 96 #[str s] w (RetE w (.bool (shwB s))) := by
  refine fn1 hM Tryz.func96 ?_
  repeat' (first | refine sk ?_ | (refine wc_cond rfl (fun hc => ?_) (fun hc => ?_) <;> (try (simp only [bls] at hc)) <;> (try (exfalso; first | omega | contradiction))))
  refine wc_loop (α := { i : Nat // i ≤ s.length ∧ ∀ j, j < i → shwC (s.getD j 0) = true }) (fun x => [(0, true, str s), (6, true, i64 (s.length : Int)), (7, true, i64 (x.1 : Int))]) (fun _ => St w [] [] M) (fun x => s.length - x.1) ⟨0, by omega, by intro j hj; omega⟩ pE (fun _ h => h) ?_
  rintro ⟨i, hi, hall⟩
  dsimp only
  repeat' (first | refine sk ?_ | (refine wc_cond rfl (fun hc => ?_) (fun hc => ?_) <;> (try (simp only [bls] at hc)) <;> (try (exfalso; first | omega | contradiction))))
  · refine wr_tmp rfl rfl (congrArg Value.bool ?_)
    unfold shwB
    rw [all_no (i := i) (by omega) (shw_no _ hc)]
  · refine wn_cut ⟨i + 1, by omega, ?_⟩ (by show s.length - (i + 1) < s.length - i; omega) pE (fun _ h => h)
    intro j hj
    by_cases h : j = i
    · subst h; exact shw_yes _ hc
    · exact hall j (by omega)
  · refine wr_tmp rfl rfl (congrArg Value.bool ?_)
    unfold shwB
    rw [all_yes (fun j hj => hall j (by omega))]
end Go.Proofs.YtgfbieplidpebaaGreatDoor
/-
  Texts escaped, and what they were: xml.Escape, xml.Unescape, matricularef06.Unescape.
-/
namespace Go.Proofs.YtgfbieplidpebaaGreatDoor
open Go.Eng Go.Pct Go.Xml Go.Rsp
set_option maxRecDepth 10000
set_option linter.unusedSimpArgs false
set_option linter.unusedVariables false

variable {M : Ghost} {w : World}

theorem marks_sl (hG : Glob M) : SlP M (.slice (some ⟨0, 0, none⟩) 5 5) marksT := by
  obtain ⟨cs, T, fz, h1, h2⟩ := hG.marks
  refine ⟨_, 5, rfl, Nat.le_refl _, by decide, fun _ => ⟨_, 0, cs, T, fz, rfl, h1, fun i hi => ⟨_, rfl, rfl, fun j hj => ?_⟩⟩⟩
  have hi5 : i < 5 := hi
  rw [Nat.zero_add, h2 _ (by omega)]
  match i, hi5, j, hj with
  | 0, _, 0, _ => rfl
  | 0, _, 1, _ => rfl
  | 1, _, 0, _ => rfl
  | 1, _, 1, _ => rfl
  | 2, _, 0, _ => rfl
  | 2, _, 1, _ => rfl
  | 3, _, 0, _ => rfl
  | 3, _, 1, _ => rfl
  | 4, _, 0, _ => rfl
  | 4, _, 1, _ => rfl
theorem count_le_len (s : List UInt8) (c : UInt8) : Lib.countB ⟨s.toArray⟩ ⟨#[c]⟩ ≤ s.length := by
  have h := Txt.split_count s c
  have := Txt.pieces_length c s
  omega
theorem mark_shape : ∀ k, k < 5 → ∃ c, (marksT.getD k default).1 = [c] ∧ (marksT.getD k default).2 ≠ [c] ∧ (marksT.getD k default).2.length ≤ 6 := by
  intro k hk
  match k, hk with
  | 0, _ => exact ⟨38, rfl, by decide, by decide⟩
  | 1, _ => exact ⟨60, rfl, by decide, by decide⟩
  | 2, _ => exact ⟨62, rfl, by decide, by decide⟩
  | 3, _ => exact ⟨34, rfl, by decide, by decide⟩
  | 4, _ => exact ⟨39, rfl, by decide, by decide⟩
theorem replall_ok (hG : Glob M) (hM : Laid M w) (s : List UInt8) {k : Nat} (hk : k < 5) (hs : s.length ≤ 1000000000) : Calls Tryz.prog 117 #[str s, str (marksT.getD k default).1, str (marksT.getD k default).2] w (RetE w (str (rep1 (marksT.getD k default) s))) := by
  obtain ⟨m, hm⟩ := maxLen_at hG hM
  obtain ⟨c, e1, e2, e3⟩ := mark_shape k hk
  have hc := count_le_len s c
  have hr : rep1 (marksT.getD k default) s = s.flatMap (fun d => if d = c then (marksT.getD k default).2 else [d]) := by
    unfold rep1; rw [e1]
    congr 1; funext d
    by_cases h : d = c
    · subst h; simp
    · rw [if_neg h, if_neg (by simpa using h)]
  rw [hr]
  generalize (marksT.getD k default).2 = v at *
  rw [e1]
  refine (Tryz.strings_ReplaceAll ⟨s.toArray⟩ ⟨#[c]⟩ ⟨v.toArray⟩ m w (by rw [baSize]; omega) hm (Nat.le_refl 1) ?_).mono ?_
  · rw [baSize, baSize]
    have := Nat.mul_le_mul hc e3
    omega
  · rintro e w' ⟨rfl, hb⟩
    exact ⟨by rw [← replaceAll_one s c e2], Ext.of_below hb⟩
theorem escTo_one : ∀ k, k ≤ 5 → ∀ c : UInt8, (escTo k [c]).length ≤ 6 := by
  intro k hk
  match k, hk with
  | 0, _ => apply all_bytes; decide +kernel
  | 1, _ => apply all_bytes; decide +kernel
  | 2, _ => apply all_bytes; decide +kernel
  | 3, _ => apply all_bytes; decide +kernel
  | 4, _ => apply all_bytes; decide +kernel
  | 5, _ => apply all_bytes; decide +kernel
theorem escTo_flat (s : List UInt8) : ∀ k, k ≤ 5 → escTo k s = s.flatMap (fun c => escTo k [c])
  | 0, _ => by
    show s = s.flatMap (fun c => [c])
    induction s with
    | nil => rfl
    | cons c s ih => rw [List.flatMap_cons, ← ih]; rfl
  | k + 1, h => by
    rw [escTo_succ (by omega), escTo_flat s k (by omega), rep1_flat]
    congr 1; funext c
    rw [escTo_succ (by omega)]
theorem escTo_length (s : List UInt8) (k : Nat) (hk : k ≤ 5) : (escTo k s).length ≤ 6 * s.length := by
  rw [escTo_flat s k hk]
  have key := escTo_one k hk
  induction s with
  | nil => simp
  | cons c s ih => rw [List.flatMap_cons, List.length_append, List.length_cons]; have := key c; omega
theorem escape_ok (hG : Glob M) (hM : Laid M w) (s : List UInt8) (hs : s.length ≤ 150000000) : Calls Tryz.prog 101 #[str s] w (RetE w (str (esc s))) := by
  obtain ⟨cs, T, fz, g1, g2⟩ := hG.marks
  refine fn1 hM Tryz.func101 ?_
  repeat' (first | (first | refine sk ?_ | (refine gL ?_; first | refine wl_v rfl rfl rfl (by first | (show OpV _ _ _ _ (Oper.mk _ (Op.load _ _) _ _ _ _) _ _; exact ov_loadAM (l := markCells) rfl pI rfl rfl (fun _ => g1) (fun _ j hj => by rw [Nat.zero_add]; exact g2 j hj))) ?_ | refine xl_alloc (fun _ => ?_) | refine xl_store rfl rfl ?_) | fail) | (refine wc_cond rfl (fun hc => ?_) (fun hc => ?_) <;> (try (simp only [bls] at hc)) <;> (try (exfalso; first | omega | contradiction))))
  refine wc_loop (α := { k : Nat // k ≤ 5 }) (fun x => [(0, true, str (escTo x.1 s)), (5, true, .agg markCells.toArray), (6, true, i64 (x.1 : Int))]) (fun _ => St w [] [] M) (fun x => 5 - x.1) ⟨0, by omega⟩ pE (fun _ h => h) ?_
  rintro ⟨k, hk⟩
  dsimp only
  have hl := escTo_length s k hk
  rcases Nat.lt_or_ge k 5 with hlt | hge
  · have hsu := escTo_succ hlt s
    have hcells : markCells.toArray.extract (k * 2) (k * 2 + 2) = [str (marksT.getD k default).1, str (marksT.getD k default).2].toArray := by
      match k, hlt with
      | 0, _ => rfl
      | 1, _ => rfl
      | 2, _ => rfl
      | 3, _ => rfl
      | 4, _ => rfl
    repeat' (first | (first | refine sk ?_ | (refine gL ?_; first | refine wl_v rfl rfl rfl (by first | (show OpV _ _ _ _ (Oper.mk _ (Op.index _ _ _) _ _ _ _) _ _; exact ov_aindexS (i := k) (l := [str (marksT.getD k default).1, str (marksT.getD k default).2]) rfl rfl rfl pI pI rfl rfl rfl pS rfl (fun _ => hcells)) | (exact oc 117 Tryz.call117 (h := fun hcg w hw => replall_ok hG hw.laid _ hlt (by omega)))) ?_ | refine xl_alloc (fun _ => ?_) | refine xl_store rfl rfl ?_) | fail) | (refine wc_cond rfl (fun hc => ?_) (fun hc => ?_) <;> (try (simp only [bls] at hc)) <;> (try (exfalso; first | omega | contradiction))))
    rw [← hsu]
    exact wn_cut ⟨k + 1, by omega⟩ (by show 5 - (k + 1) < 5 - k; omega) pE (fun _ h => h.drop pL)
  · obtain rfl : k = 5 := by omega
    rw [escTo_all]
    repeat' (first | (first | refine sk ?_ | (refine gL ?_; first | refine xl_alloc (fun _ => ?_) | refine xl_store rfl rfl ?_) | fail) | (refine wc_cond rfl (fun hc => ?_) (fun hc => ?_) <;> (try (simp only [bls] at hc)) <;> (try (exfalso; first | omega | contradiction))))
    exact wr_tmp rfl rfl rfl
theorem indexAny_iff (chars : List UInt8) : ∀ s : List UInt8, 0 ≤ Lib.indexAny s chars ↔ ∃ c ∈ s, chars.contains c = true
  | [] => by simp [Lib.indexAny]
  | c :: r => by
    have ih := indexAny_iff chars r
    have hge := Lib.indexAny_ge chars r
    by_cases h : chars.contains c = true
    · have e : Lib.indexAny (c :: r) chars = 0 := by simp only [Lib.indexAny]; rw [if_pos h]
      rw [e]
      exact ⟨fun _ => ⟨c, List.mem_cons_self .., h⟩, fun _ => Int.le_refl _⟩
    · have e : (0 ≤ Lib.indexAny (c :: r) chars) ↔ 0 ≤ Lib.indexAny r chars := by
        simp only [Lib.indexAny]
        rw [if_neg h]
        by_cases h2 : Lib.indexAny r chars = -1
        · rw [h2]; decide
        · simp only [beq_iff_eq, h2, if_false]; omega
      rw [e, ih]
      constructor
      · rintro ⟨d, hd, hc⟩; exact ⟨d, List.mem_cons_of_mem _ hd, hc⟩
      · rintro ⟨d, hd, hc⟩
        rcases List.mem_cons.1 hd with rfl | hd
        · exact absurd hc h
        · exact ⟨d, hd, hc⟩
theorem bad_contains (c : UInt8) : ([60, 62, 34, 39] : List UInt8).contains c = badC c := by revert c; apply all_bytes; decide +kernel
theorem which_idx (s : List UInt8) : idxZ (fun x => Lib.hasPrefix s x.2) marksT = which s := by
  unfold which idxZ marksT Lib.hasPrefix
  simp only [whichGo, idxP, List.length_cons, List.length_nil]
  repeat' split
  all_goals first | rfl | omega | (simp_all; done)
/-- what a reading of a text yields -/
def resU (r : Option (List UInt8)) : Value := .tuple #[str (r.getD []), i64 (if r.isSome then 0 else 10)]
theorem cut1_ok (hG : Glob M) (hM : Laid M w) (s : List UInt8) (c : UInt8) (hs : s.length ≤ 1000000000) : Calls Tryz.prog 90 #[str s, str [c]] w (RetE w (.tuple #[str (s.take (Txt.idx c s)), str (s.drop (Txt.idx c s + 1)), .bool (decide (Txt.idx c s < s.length))])) := by
  obtain ⟨m, hm⟩ := maxLen_at hG hM
  refine (Tryz.strings_Cut ⟨s.toArray⟩ ⟨#[c]⟩ m w (by rw [baSize]; omega) hm).mono ?_
  rintro e w' ⟨rfl, n, rfl⟩
  refine ⟨?_, Ext.drew w n⟩
  have h := Txt.cut_idx s c
  have e1 : (⟨s.toArray⟩ : ByteArray).data.toList = s := rfl
  have e2 : (⟨#[c]⟩ : ByteArray).data.toList = [c] := rfl
  rw [e1, e2, h]
theorem SB.less {M' : Ghost} {w0 : World} {H : List (Nat × Obj)} {b : Nat} {l : List UInt8} (h : SB w0 H M' b l w) (hm : ∀ b o, M b o → M' b o) : SB w0 H M b l w :=
  ⟨⟨h.st.keep, h.st.own, h.st.new, h.st.nodup, fun b o hb => h.st.laid b o (hm b o hb), fun b o hb => h.st.apart b o (hm b o hb)⟩, h.bd, h.ne, fun k o hk => h.nm k o (hm k o hk)⟩
theorem unFn_ok (hM : Laid M w) (rest : List UInt8) {b : Nat} {T : TypeId} {fz : Nat × Nat} (hb : M b (.cells #[str rest] T fz)) (x : Pr) (hl : rest.length ≤ 1000000000) : Calls Tryz.prog 93 ([] ++ [Value.agg #[str x.1, str x.2]] ++ [Value.pointer (some ⟨b, 0, none⟩)]).toArray w (RetE w (.bool (Lib.hasPrefix (38 :: rest) x.2))) := by
  show Calls Tryz.prog 93 #[.agg #[str x.1, str x.2], .pointer (some ⟨b, 0, none⟩)] w _
  refine fn2 hM Tryz.func93 ?_
  repeat' (first | (first | refine sk ?_ | (refine gL ?_; first | refine wl_v rfl rfl rfl (by first | (show OpV _ _ _ _ (Oper.mk _ (Op.load _ _) _ _ _ _) _ _; exact ov_load1M rfl pI rfl rfl (fun _ => hb) (fun _ => rfl)) | (exact oc 79 Tryz.call79 (h := fun hcg w hw => prefix_ok hw.laid _ _))) ?_ | refine xl_box rfl (fun _ => ?_)) | fail) | (refine wc_cond rfl (fun hc => ?_) (fun hc => ?_) <;> (try (simp only [bls] at hc)) <;> (try (exfalso; first | omega | contradiction))))
  exact wr_tmp rfl rfl rfl
theorem unescape_ok (hG : Glob M) (hM : Laid M w) (s : List UInt8) (hs : s.length ≤ 1000000000) : Calls Tryz.prog 78 #[str s] w (RetE w (resU (unescQ s))) := by
  obtain ⟨cs, T, fz, g1, g2⟩ := hG.marks
  refine fn1 hM Tryz.func78 ?_
  by_cases hb : ∃ c ∈ s, badC c = true
  · have hi : (0 : Int) ≤ Lib.indexAny s [60, 62, 34, 39] := (indexAny_iff _ s).2 (by obtain ⟨c, h1, h2⟩ := hb; exact ⟨c, h1, by rw [bad_contains]; exact h2⟩)
    have hn := unescQ_bad _ s (Nat.le_refl _) hb
    have hc : ∀ {w : World}, Laid M w → Calls Tryz.prog 89 #[str s, str [60, 62, 34, 39]] w (RetE w (.bool true)) := fun h => by
      have := cany_ok h s [60, 62, 34, 39] (by omega) (by decide) (by decide) (by decide)
      rw [decide_eq_true hi] at this; exact this
    repeat' (first | (first | refine sk ?_ | (refine gL ?_; first | refine wl_v rfl rfl rfl (by first | (exact oc 89 Tryz.call89 (h := fun hcg w hw => hc hw.laid))) ?_ | refine xl_alloc (fun _ => ?_) | refine xl_store rfl rfl ?_) | fail) | (refine wc_cond rfl (fun hc => ?_) (fun hc => ?_) <;> (try (simp only [bls] at hc)) <;> (try (exfalso; first | omega | contradiction))))
    rw [hn]
    exact wr_tmp2 rfl rfl rfl rfl rfl
  have hi : ¬ (0 : Int) ≤ Lib.indexAny s [60, 62, 34, 39] := fun h => hb (by
    obtain ⟨c, h1, h2⟩ := (indexAny_iff _ s).1 h
    exact ⟨c, h1, by rw [← bad_contains]; exact h2⟩)
  have hca : ∀ {w : World}, Laid M w → Calls Tryz.prog 89 #[str s, str [60, 62, 34, 39]] w (RetE w (.bool false)) := fun h => by
    have := cany_ok h s [60, 62, 34, 39] (by omega) (by decide) (by decide) (by decide)
    rw [decide_eq_false hi] at this; exact this
  have hgood : ∀ c ∈ s, badC c = false := fun c hc => by
    rw [Bool.eq_false_iff]; exact fun h => hb ⟨c, hc, h⟩
  repeat' (first | (first | refine sk ?_ | (refine gL ?_; first | refine wl_v rfl rfl rfl (by first | (exact oc 89 Tryz.call89 (h := fun hcg w hw => hca hw.laid))) ?_ | refine xl_alloc (fun _ => ?_) | refine xl_store rfl rfl ?_) | fail) | (refine wc_cond rfl (fun hc => ?_) (fun hc => ?_) <;> (try (simp only [bls] at hc)) <;> (try (exfalso; first | omega | contradiction))))
  rename_i b
  refine wc_loop (α := { x : List UInt8 × List UInt8 // unescQ s = (unescQ x.1).map (x.2 ++ ·) ∧ (∀ c ∈ x.1, badC c = false) ∧ x.2.length + x.1.length ≤ s.length }) (fun x => [(0, true, str x.1.1), (4, true, .pointer (some ⟨b, 0, none⟩))]) (fun x => SB w [] M b x.1.2) (fun x => x.1.1.length) ⟨(s, []), by simp, hgood, by simp⟩ pE (fun _ h => SB.start (hw := fun k o h => lt_of_get (hM k o h)) h (by simp)) ?_
  rintro ⟨⟨cur, out⟩, hinv, hbad, hlen⟩
  dsimp only at hinv hbad hlen ⊢
  by_cases hc0 : cur = []
  · subst hc0
    rw [unescQ_nil, Option.map_some, List.append_nil] at hinv
    repeat' (first | (first | (refine gF 91 ?_; refine wl_callC rfl Tryz.call91 rfl rfl rfl rfl (fun w hw => bwString hw _ (by first | omega | (simp only [List.length_append, List.length_take, List.length_drop, List.length_cons, List.length_nil, List.length_nil]; omega)) (by first | omega | (simp only [List.length_append, List.length_take, List.length_drop, List.length_cons, List.length_nil, List.length_nil]; omega))) ?_) | (refine gF 85 ?_; refine wl_callC rfl Tryz.call85 rfl rfl rfl rfl (fun w hw => bsString hw) ?_) ) | (first | refine sk ?_ | (refine gL ?_; first | refine xl_alloc (fun _ => ?_) | refine xl_store rfl rfl ?_) | fail) | (refine wc_cond rfl (fun hc => ?_) (fun hc => ?_) <;> (try (simp only [bls] at hc)) <;> (try (exfalso; first | omega | contradiction))))
    rw [hinv]
    exact wr_weak (fun _ h => h.st) (wr_tmp2 rfl rfl rfl rfl rfl)
  have hcl := List.length_pos_iff.2 hc0
  have hib := Txt.idx_before 38 cur
  have hile := Txt.idx_le 38 cur
  have hplain : ∀ c ∈ cur.take (Txt.idx 38 cur), badC c = false ∧ c ≠ 38 := fun c hc => ⟨hbad c (List.mem_of_mem_take hc), fun e => hib (e ▸ hc)⟩
  have hcut := fun {w : World} (h : Laid M w) => cut1_ok hG h cur 38 (by omega)
  by_cases hk : Txt.idx 38 cur < cur.length
  · have hdrop := Txt.drop_getD hk
    rw [Txt.idx_at 38 cur hk] at hdrop
    have hsp : unescQ cur = (unescQ (38 :: cur.drop (Txt.idx 38 cur + 1))).map (cur.take (Txt.idx 38 cur) ++ ·) := by
      conv => lhs; rw [← List.take_append_drop (Txt.idx 38 cur) cur, hdrop]
      exact unescQ_plain _ _ hplain
    rw [decide_eq_true hk] at hcut
    have hpl : (cur.take (Txt.idx 38 cur)).length = Txt.idx 38 cur := by rw [List.length_take]; omega
    have hrl : (cur.drop (Txt.idx 38 cur + 1)).length = cur.length - (Txt.idx 38 cur + 1) := List.length_drop
    have hrb : ∀ c ∈ cur.drop (Txt.idx 38 cur + 1), badC c = false := fun c hc => hbad c (List.mem_of_mem_drop hc)
    generalize cur.take (Txt.idx 38 cur) = pl at *
    generalize cur.drop (Txt.idx 38 cur + 1) = rest at *
    repeat' (first | (first | (refine gF 91 ?_; refine wl_callC rfl Tryz.call91 rfl rfl rfl rfl (fun w hw => bwString hw _ (by first | omega | (simp only [List.length_append, List.length_take, List.length_drop, List.length_cons, List.length_nil, List.length_nil]; omega)) (by first | omega | (simp only [List.length_append, List.length_take, List.length_drop, List.length_cons, List.length_nil, List.length_nil]; omega))) ?_) | (refine gF 85 ?_; refine wl_callC rfl Tryz.call85 rfl rfl rfl rfl (fun w hw => bsString hw) ?_) ) | (first | refine sk ?_ | (refine gL ?_; first | refine wl_v rfl rfl rfl (by first | (exact oc 90 Tryz.call90 (h := fun hcg w hw => hcut hw.st.laid))) ?_ | refine xl_alloc (fun _ => ?_) | refine xl_store rfl rfl ?_) | fail) | (refine wc_cond rfl (fun hc => ?_) (fun hc => ?_) <;> (try (simp only [bls] at hc)) <;> (try (exfalso; first | omega | contradiction))))
    refine wl_allocB (z := str []) (l := [str []]) rfl (fun _ => rfl) rfl rfl (by decide) (fun b6 => ?_)
    repeat' (first | (first | (refine gF 91 ?_; refine wl_callC rfl Tryz.call91 rfl rfl rfl rfl (fun w hw => bwString hw _ (by first | omega | (simp only [List.length_append, List.length_take, List.length_drop, List.length_cons, List.length_nil, List.length_nil]; omega)) (by first | omega | (simp only [List.length_append, List.length_take, List.length_drop, List.length_cons, List.length_nil, List.length_nil]; omega))) ?_) | (refine gF 85 ?_; refine wl_callC rfl Tryz.call85 rfl rfl rfl rfl (fun w hw => bsString hw) ?_) ) | (first | refine sk ?_ | (refine gL ?_; first | refine xl_alloc (fun _ => ?_) | refine xl_store rfl rfl ?_) | fail) | (refine wc_cond rfl (fun hc => ?_) (fun hc => ?_) <;> (try (simp only [bls] at hc)) <;> (try (exfalso; first | omega | contradiction))))
    refine wl_storeB rfl rfl rfl rfl Upd.here rfl rfl rfl (by decide) ?_
    refine wl_publishB (H1 := [(b6, .cells [str rest].toArray 9 (0, 0))]) ?_
    have hG6 : Glob (With M [(b6, .cells [str rest].toArray 9 (0, 0))]) := hG.mono (fun _ _ => .inl)
    have hm6 : With M [(b6, .cells [str rest].toArray 9 (0, 0))] b6 (.cells #[str rest] 9 (0, 0)) := .inr (List.Mem.head _)
    have hif := fun {w : World} (h : Laid (With M [(b6, .cells [str rest].toArray 9 (0, 0))]) w) => ifunc_ok h (marks_sl hG6) (fun x => Lib.hasPrefix (38 :: rest) x.2) 93 [] [.pointer (some ⟨b6, 0, none⟩)] Tryz.call93 (fun x w hL => unFn_ok hL rest hm6 x (by omega))
    rw [which_idx] at hif
    have hwr := which_range (38 :: rest)
    have huc := unescQ_cons 38 rest
    rw [if_neg (by decide), if_pos rfl] at huc
    repeat' (first | (first | (refine gF 91 ?_; refine wl_callC rfl Tryz.call91 rfl rfl rfl rfl (fun w hw => bwString hw _ (by first | omega | (simp only [List.length_append, List.length_take, List.length_drop, List.length_cons, List.length_nil, List.length_nil]; omega)) (by first | omega | (simp only [List.length_append, List.length_take, List.length_drop, List.length_cons, List.length_nil, List.length_nil]; omega))) ?_) | (refine gF 85 ?_; refine wl_callC rfl Tryz.call85 rfl rfl rfl rfl (fun w hw => bsString hw) ?_) ) | (first | refine sk ?_ | (refine gL ?_; first | refine wl_v rfl rfl rfl (by first | (show OpV _ _ _ _ (Oper.mk _ (Op.slice _ _ none none none) _ _ _ _) _ _; exact ov_slcArr (m := 2) rfl rfl pI rfl) | (exact oc 92 Tryz.call92 (h := fun hcg w hw => hif hw.st.laid))) ?_ | refine xl_alloc (fun _ => ?_) | refine xl_store rfl rfl ?_) | fail) | (refine wc_cond rfl (fun hc => ?_) (fun hc => ?_) <;> (try (simp only [bls] at hc)) <;> (try (exfalso; first | omega | contradiction))))
    · rw [if_pos (by omega)] at huc
      have hn : unescQ s = none := by rw [hinv, hsp, huc]; rfl
      rw [hn]
      exact wr_weak (fun _ h => h.st) (wr_tmp2 rfl rfl rfl rfl rfl)
    rename_i hge
    rw [if_neg (by omega)] at huc
    have hsome : ((which (38 :: rest)).toNat : Int) = which (38 :: rest) := by omega
    have hpre := which_pre (s := 38 :: rest) (by omega)
    generalize hwn : (which (38 :: rest)).toNat = m at *
    rw [← hsome]
    have hm5 : m < 5 := by omega
    obtain ⟨l1, l2, l3⟩ := mark_len m hm5
    have hple : (marksT.getD m default).2.length ≤ rest.length + 1 := by
      have := (List.isPrefixOf_iff_prefix.1 hpre).length_le
      simpa using this
    have hc1 : cs[0 + m * 2]? = some (str (marksT.getD m default).1) ∧ cs[0 + m * 2 + 1]? = some (str (marksT.getD m default).2) := by
      rw [g2 _ (by omega), g2 _ (by omega)]
      match m, hm5 with
      | 0, _ => exact ⟨rfl, rfl⟩
      | 1, _ => exact ⟨rfl, rfl⟩
      | 2, _ => exact ⟨rfl, rfl⟩
      | 3, _ => exact ⟨rfl, rfl⟩
      | 4, _ => exact ⟨rfl, rfl⟩
    have hdr : (38 :: rest).drop (marksT.getD m default).2.length = rest.drop ((marksT.getD m default).2.length - 1) := by
      obtain ⟨q, hq⟩ : ∃ q, (marksT.getD m default).2.length = q + 1 := ⟨(marksT.getD m default).2.length - 1, by omega⟩
      rw [hq, List.drop_succ_cons]; rfl
    rw [hdr] at huc
    generalize (marksT.getD m default).1 = nm at *
    generalize (marksT.getD m default).2 = vl at *
    repeat' (first | (first | (refine gF 91 ?_; refine wl_callC rfl Tryz.call91 rfl rfl rfl rfl (fun w hw => bwString hw _ (by first | omega | (simp only [List.length_append, List.length_take, List.length_drop, List.length_cons, List.length_nil, List.length_nil]; omega)) (by first | omega | (simp only [List.length_append, List.length_take, List.length_drop, List.length_cons, List.length_nil, List.length_nil]; omega))) ?_) | (refine gF 85 ?_; refine wl_callC rfl Tryz.call85 rfl rfl rfl rfl (fun w hw => bsString hw) ?_) ) | (first | refine sk ?_ | (refine gL ?_; first | refine wl_v rfl rfl rfl (by first | (show OpV _ _ _ _ (Oper.mk _ (Op.indexAddr _ _ _) _ _ _ _) _ _; exact ov_indexAddrA (i := m) rfl rfl rfl pI pI rfl rfl pS) | (show OpV _ _ _ _ (Oper.mk _ (Op.load _ _) _ _ _ _) _ _; exact ov_SB (ov_load1M (d := .string) rfl pI rfl rfl (fun _ => .inl g1) (fun _ => hc1.1)))) ?_ | refine xl_alloc (fun _ => ?_) | refine xl_store rfl rfl ?_) | fail) | (refine wc_cond rfl (fun hc => ?_) (fun hc => ?_) <;> (try (simp only [bls] at hc)) <;> (try (exfalso; first | omega | contradiction))))
    refine wc_draw 9 rfl rfl (by decide) (fun _ _ h k => h.ext k) ?_
    repeat' (first | (refine gD ?_; first | refine yd_v rfl rfl rfl rfl rfl rfl ?_ | refine wd_v rfl rfl rfl rfl rfl rfl (by first | (show OpV _ _ _ _ (Oper.mk _ (Op.indexAddr _ _ _) _ _ _ _) _ _; exact ov_indexAddrA (i := m) rfl rfl rfl pI pI rfl rfl pS) | (show OpV _ _ _ _ (Oper.mk _ (Op.load _ _) _ _ _ _) _ _; exact ov_SB (ov_load1M (d := .string) rfl pI rfl rfl (fun _ => .inl g1) (fun _ => hc1.2))) | (show OpV _ _ _ _ (Oper.mk _ (Op.load _ _) _ _ _ _) _ _; exact ov_SB (ov_load1M (d := .string) rfl pI rfl rfl (fun _ => hm6) (fun _ => rfl)))) ?_ | refine yd_new rfl rfl rfl rfl rfl rfl ?_ | refine wd_conv rfl rfl rfl rfl rfl rfl rfl rfl rfl rfl ?_) | (refine gE ?_; first | refine wd_nil ?_ | refine wd_nilF ?_) | (first | refine sk ?_ | (refine gL ?_; first | refine wl_v rfl rfl rfl (by first | (show OpV _ _ _ _ (Oper.mk _ (Op.indexAddr _ _ _) _ _ _ _) _ _; exact ov_indexAddrA (i := m) rfl rfl rfl pI pI rfl rfl pS) | (show OpV _ _ _ _ (Oper.mk _ (Op.load _ _) _ _ _ _) _ _; exact ov_SB (ov_load1M (d := .string) rfl pI rfl rfl (fun _ => .inl g1) (fun _ => hc1.2))) | (show OpV _ _ _ _ (Oper.mk _ (Op.load _ _) _ _ _ _) _ _; exact ov_SB (ov_load1M (d := .string) rfl pI rfl rfl (fun _ => hm6) (fun _ => rfl)))) ?_ | refine xl_alloc (fun _ => ?_) | refine xl_store rfl rfl ?_) | fail))
    refine wn_cut ⟨(rest.drop (vl.length - 1), out ++ pl ++ nm), ?_, fun c hc => hrb c (List.mem_of_mem_drop hc), ?_⟩ ?_ pE (fun _ h => h.less (fun _ _ => .inl))
    · rw [hinv, hsp, huc]
      simp [Function.comp_def]
    · simp only [List.length_append, List.length_drop]; omega
    · show (rest.drop (vl.length - 1)).length < cur.length
      rw [List.length_drop]; omega
  · have e1 : cur.take (Txt.idx 38 cur) = cur := List.take_of_length_le (by omega)
    rw [e1] at hplain hcut
    rw [decide_eq_false hk] at hcut
    have hall : unescQ cur = some cur := by
      have := unescQ_plain cur [] hplain
      rw [List.append_nil, unescQ_nil] at this
      simpa using this
    generalize cur.drop (Txt.idx 38 cur + 1) = rest at *
    repeat' (first | (first | (refine gF 91 ?_; refine wl_callC rfl Tryz.call91 rfl rfl rfl rfl (fun w hw => bwString hw _ (by first | omega | (simp only [List.length_append, List.length_take, List.length_drop, List.length_cons, List.length_nil, List.length_nil]; omega)) (by first | omega | (simp only [List.length_append, List.length_take, List.length_drop, List.length_cons, List.length_nil, List.length_nil]; omega))) ?_) | (refine gF 85 ?_; refine wl_callC rfl Tryz.call85 rfl rfl rfl rfl (fun w hw => bsString hw) ?_) ) | (first | refine sk ?_ | (refine gL ?_; first | refine wl_v rfl rfl rfl (by first | (exact oc 90 Tryz.call90 (h := fun hcg w hw => hcut hw.st.laid))) ?_ | refine xl_alloc (fun _ => ?_) | refine xl_store rfl rfl ?_) | fail) | (refine wc_cond rfl (fun hc => ?_) (fun hc => ?_) <;> (try (simp only [bls] at hc)) <;> (try (exfalso; first | omega | contradiction))))
    refine wl_allocB (z := str []) (l := [str []]) rfl (fun _ => rfl) rfl rfl (by decide) (fun b6 => ?_)
    repeat' (first | (first | (refine gF 91 ?_; refine wl_callC rfl Tryz.call91 rfl rfl rfl rfl (fun w hw => bwString hw _ (by first | omega | (simp only [List.length_append, List.length_take, List.length_drop, List.length_cons, List.length_nil, List.length_nil]; omega)) (by first | omega | (simp only [List.length_append, List.length_take, List.length_drop, List.length_cons, List.length_nil, List.length_nil]; omega))) ?_) | (refine gF 85 ?_; refine wl_callC rfl Tryz.call85 rfl rfl rfl rfl (fun w hw => bsString hw) ?_) ) | (first | refine sk ?_ | (refine gL ?_; first | refine xl_alloc (fun _ => ?_) | refine xl_store rfl rfl ?_) | fail) | (refine wc_cond rfl (fun hc => ?_) (fun hc => ?_) <;> (try (simp only [bls] at hc)) <;> (try (exfalso; first | omega | contradiction))))
    refine wl_storeB rfl rfl rfl rfl Upd.here rfl rfl rfl (by decide) ?_
    repeat' (first | (first | (refine gF 91 ?_; refine wl_callC rfl Tryz.call91 rfl rfl rfl rfl (fun w hw => bwString hw _ (by first | omega | (simp only [List.length_append, List.length_take, List.length_drop, List.length_cons, List.length_nil, List.length_nil]; omega)) (by first | omega | (simp only [List.length_append, List.length_take, List.length_drop, List.length_cons, List.length_nil, List.length_nil]; omega))) ?_) | (refine gF 85 ?_; refine wl_callC rfl Tryz.call85 rfl rfl rfl rfl (fun w hw => bsString hw) ?_) ) | (first | refine sk ?_ | (refine gL ?_; first | refine xl_alloc (fun _ => ?_) | refine xl_store rfl rfl ?_) | fail) | (refine wc_cond rfl (fun hc => ?_) (fun hc => ?_) <;> (try (simp only [bls] at hc)) <;> (try (exfalso; first | omega | contradiction))))
    rw [hinv, hall]
    exact wr_weak (fun _ h => h.st.drop (List.nil_sublist _)) (wr_tmp2 rfl rfl rfl rfl rfl)
end Go.Proofs.YtgfbieplidpebaaGreatDoor
/-
  What a text was, a name, what is shown: the reference's functions.
-/
namespace Go.Proofs.YtgfbieplidpebaaGreatDoor
open Go.Eng Go.Pct Go.Xml Go.Rsp
set_option maxRecDepth 10000
set_option linter.unusedSimpArgs false
set_option linter.unusedVariables false

variable {M : Ghost} {w : World}

theorem marksC_at : ∀ k, k < 5 → (mk (marksC.getD k 0)).getD [] = (marksT.getD k default).2 ∧ (marksT.getD k default).1 = [marksC.getD k 0] := by decide
theorem cells_at : ∀ k, k < 5 → [byt 38, byt 60, byt 62, byt 34, byt 39][0 + k * 1]? = some (byt (marksC.getD k 0))
  | 0, _ => rfl
  | 1, _ => rfl
  | 2, _ => rfl
  | 3, _ => rfl
  | 4, _ => rfl
  | k + 5, h => by omega
theorem pre_at {s m : List UInt8} {i : Nat} (hi : i ≤ s.length) : (i + m.length ≤ s.length ∧ (s.drop i).take (i + m.length - i) = m) ↔ m.isPrefixOf (s.drop i) = true := by
  rw [List.isPrefixOf_iff_prefix, Nat.add_sub_cancel_left]
  constructor
  · rintro ⟨_, h⟩
    exact ⟨(s.drop i).drop m.length, by have := List.take_append_drop m.length (s.drop i); rw [h] at this; exact this⟩
  · rintro ⟨t, ht⟩
    have hl := congrArg List.length ht
    rw [List.length_append, List.length_drop] at hl
    exact ⟨by omega, by rw [← ht]; simp⟩
theorem whichGo_at {s : List UInt8} : ∀ {l : List (List UInt8 × List UInt8)} {i k : Nat}, k < l.length → (∀ j, j < k → (l.getD j default).2.isPrefixOf s = false) → (l.getD k default).2.isPrefixOf s = true → whichGo s l i = ((i + k : Nat) : Int)
  | [], _, _, h, _, _ => by simp at h
  | m :: r, i, 0, _, _, h => by rw [whichGo, if_pos (by simpa using h)]; simp
  | m :: r, i, k + 1, hl, hb, h => by
    have h0 := hb 0 (by omega)
    rw [whichGo, if_neg (by simp only [List.getD_cons_zero] at h0; rw [h0]; decide), whichGo_at (k := k) (by simpa using hl) (fun j hj => by simpa using hb (j + 1) (by omega)) (by simpa using h)]
    congr 1; omega
theorem whichGo_no {s : List UInt8} : ∀ {l : List (List UInt8 × List UInt8)} {i : Nat}, (∀ j, j < l.length → (l.getD j default).2.isPrefixOf s = false) → whichGo s l i = -1
  | [], _, _ => rfl
  | m :: r, i, hb => by
    have h0 := hb 0 (by simp)
    rw [whichGo, if_neg (by simp only [List.getD_cons_zero] at h0; rw [h0]; decide), whichGo_no (fun j hj => by simpa using hb (j + 1) (by simpa using hj))]
theorem letN (c : UInt8) : ((97 : Int) ≤ (c.toNat : Int) ∧ (c.toNat : Int) ≤ 122) ∨ ((65 : Int) ≤ (c.toNat : Int) ∧ (c.toNat : Int) ≤ 90) ↔ letC c = true := by revert c; apply all_bytes; decide +kernel
theorem badN (c : UInt8) : ((((c.toNat : Int) = 60 ∨ (c.toNat : Int) = 62) ∨ (c.toNat : Int) = 34) ∨ (c.toNat : Int) = 39) ↔ badC c = true := by revert c; apply all_bytes; decide +kernel
theorem ofNat_toNat (c : UInt8) : UInt8.ofNat ((c.toNat : Int).toNat) = c := by revert c; apply all_bytes; decide +kernel
theorem n38 (c : UInt8) : (c.toNat : Int) = 38 ↔ c = 38 := by revert c; apply all_bytes; decide +kernel
theorem runescape_ok (hM : Laid M w) (s : List UInt8) (hs : s.length ≤ 1000000000) : Calls Tryz.prog 98 #[str s] w (RetE w (resU (unescQ s))) := by
  refine fn1 hM Tryz.func98 ?_
  repeat' (first | (first | refine sk ?_ | (refine gL ?_; first | refine xl_buildSlice rfl (fun _ => ?_)) | fail) | (refine wc_cond rfl (fun hc => ?_) (fun hc => ?_) <;> (try (simp only [bls] at hc)) <;> (try (exfalso; first | omega | contradiction))))
  rename_i b
  refine wc_loop (α := { x : Nat × List UInt8 // x.1 ≤ s.length ∧ unescQ s = (unescQ (s.drop x.1)).map (x.2 ++ ·) ∧ x.2.length ≤ x.1 }) (fun x => [(0, true, str s), (4, true, str x.1.2), (5, true, .slice (some ⟨b, 0, none⟩) 5 5), (6, true, i64 (x.1.1 : Int))]) (fun _ => St w [] [(b, .cells [byt 38, byt 60, byt 62, byt 34, byt 39].toArray 5 (0, 0))] M) (fun x => s.length - x.1.1) ⟨(0, []), by omega, by simp, by simp⟩ pE (fun _ h => h) ?_
  rintro ⟨⟨i, out⟩, hi, hinv, hol⟩
  dsimp only at hi hinv hol ⊢
  rcases Nat.lt_or_ge i s.length with hlt | hge
  · have hdrop : s.drop i = s.getD i 0 :: s.drop (i + 1) := Txt.drop_getD hlt
    have huc := unescQ_cons (s.getD i 0) (s.drop (i + 1))
    have hone := slice_one hlt
    have hu := u8_lt (s.getD i 0)
    have hbi := badN (s.getD i 0)
    by_cases hb : badC (s.getD i 0) = true
    · rw [if_pos hb] at huc
      have hn : unescQ s = none := by rw [hinv, hdrop, huc]; rfl
      have hb' := hbi.2 hb
      repeat' (first | (first | refine sk ?_ | (refine gL ?_; first | refine xl_buildSlice rfl (fun _ => ?_)) | fail) | (refine wc_cond rfl (fun hc => ?_) (fun hc => ?_) <;> (try (simp only [bls] at hc)) <;> (try (exfalso; first | omega | contradiction))))
      rw [hn]
      exact wr_tmp2 rfl rfl rfl rfl rfl
    have hb' := fun h => hb (hbi.1 h)
    by_cases h38 : s.getD i 0 = 38
    · rw [if_neg hb, if_pos h38, ← hdrop] at huc
      have e38 : ((s.getD i 0).toNat : Int) = 38 := by rw [h38]; rfl
      have hwr := which_range (s.drop i)
      repeat' (first | (first | refine sk ?_ | (refine gL ?_; first | refine xl_buildSlice rfl (fun _ => ?_)) | fail) | (refine wc_cond rfl (fun hc => ?_) (fun hc => ?_) <;> (try (simp only [bls] at hc)) <;> (try (exfalso; first | omega | contradiction))))
      refine wc_loop (α := { k : Nat // k ≤ 5 ∧ ∀ j, j < k → (marksT.getD j default).2.isPrefixOf (s.drop i) = false } ⊕ { k : Nat // k < 5 ∧ which (s.drop i) = (k : Int) }) (fun | .inl k => [(0, true, str s), (4, true, str out), (5, true, .slice (some ⟨b, 0, none⟩) 5 5), (6, true, i64 (i : Int)), (8, true, .bool false), (9, true, i64 (k.1 : Int))] | .inr k => [(0, true, str s), (4, true, str (out ++ (marksT.getD k.1 default).1)), (5, true, .slice (some ⟨b, 0, none⟩) 5 5), (6, true, i64 ((i : Int) + ((marksT.getD k.1 default).2.length : Int) - 1)), (8, true, .bool true), (9, true, i64 ((k.1 : Int) + 1))]) (fun _ => St w [] [(b, .cells [byt 38, byt 60, byt 62, byt 34, byt 39].toArray 5 (0, 0))] M) (fun | .inl k => 7 - k.1 | .inr k => 0) (.inl ⟨0, by omega, by intro j hj; omega⟩) (by dsimp only; exact pE) (fun _ h => h) ?_
      rintro (⟨k, hk, hno⟩ | ⟨k, hk, hw⟩)
      · dsimp only
        rcases Nat.lt_or_ge k 5 with hk5 | hk5
        · obtain ⟨m1, m2⟩ := marksC_at k hk5
          have hpi := pre_at (s := s) (m := (marksT.getD k default).2) hi
          obtain ⟨l1, l2, l3⟩ := mark_len k hk5
          have hca := cells_at k hk5
          have hmk : ∀ {w : World}, Laid M w → Calls Tryz.prog 114 #[byt (marksC.getD k 0)] w (RetE w (str (marksT.getD k default).2)) := fun h => by
            have := rmark_ok h (marksC.getD k 0)
            rw [m1] at this; exact this
          generalize hvl : (marksT.getD k default).2 = vl at hpi hmk l1 l2
          repeat' (first | (first | refine sk ?_ | (refine gL ?_; first | refine wl_v rfl rfl rfl (by first | (show OpV _ _ _ _ (Oper.mk _ (Op.indexAddr _ _ _) _ _ _ _) _ _; exact ov_indexAddr (i := k) rfl rfl rfl pI pI rfl pZ (fun _ => rfl) pS) | (show OpV _ _ _ _ (Oper.mk _ (Op.load _ _) _ _ _ _) _ _; exact ov_load1 rfl pI rfl rfl pM (by rw [List.getElem?_toArray]; exact hca)) | (exact oc 114 Tryz.call114 (h := fun hcg w hw => hmk hw.laid))) ?_ | refine xl_buildSlice rfl (fun _ => ?_)) | fail) | (refine wc_cond rfl (fun hc => ?_) (fun hc => ?_) <;> (try (simp only [bls] at hc)) <;> (try (exfalso; first | omega | contradiction))))
          · have hw := whichGo_at (s := s.drop i) (l := marksT) (i := 0) hk5 hno (by rw [hvl]; exact hpi.1 ⟨by omega, hc.2⟩)
            rw [Nat.zero_add] at hw
            refine wn_cut (.inr ⟨k, hk5, hw⟩) (by show 0 < 7 - k; omega) (by dsimp only; rw [hvl, m2]; refine Sub.cons rfl (Sub.cons ?_ (Sub.cons rfl (Sub.cons rfl (Sub.cons rfl (Sub.cons rfl (Sub.nil _)))))); show some (true, str (out ++ [UInt8.ofNat ((marksC.getD k 0).toNat : Int).toNat])) = _; rw [ofNat_toNat]) (fun _ h => h.drop pL)
          · refine wn_cut (.inl ⟨k + 1, by omega, ?_⟩) (by show 7 - (k + 1) < 7 - k; omega) (by dsimp only; exact pE) (fun _ h => h.drop pL)
            have hneg := hc
            intro j hj
            by_cases h : j = k
            · subst h
              rw [Bool.eq_false_iff, hvl]
              intro h
              obtain ⟨q1, q2⟩ := hpi.2 h
              rcases hneg with hneg | hneg
              · omega
              · exact hneg q2
            · exact hno j (by omega)
        · obtain rfl : k = 5 := by omega
          have hw : which (s.drop i) = -1 := whichGo_no (l := marksT) (i := 0) hno
          rw [hw, if_pos (by decide)] at huc
          have hn : unescQ s = none := by rw [hinv, huc]; rfl
          repeat' (first | (first | refine sk ?_ | (refine gL ?_; first | refine xl_buildSlice rfl (fun _ => ?_)) | fail) | (refine wc_cond rfl (fun hc => ?_) (fun hc => ?_) <;> (try (simp only [bls] at hc)) <;> (try (exfalso; first | omega | contradiction))))
          rw [hn]
          exact wr_tmp2 rfl rfl rfl rfl rfl
      · dsimp only
        have e1 : (which (s.drop i)).toNat = k := by omega
        rw [if_neg (by omega), e1] at huc
        have hpre := which_pre (s := s.drop i) (by omega)
        rw [e1] at hpre
        obtain ⟨l1, l2, l3⟩ := mark_len k hk
        have hple := (List.isPrefixOf_iff_prefix.1 hpre).length_le
        rw [List.length_drop] at hple
        generalize (marksT.getD k default).2 = vl at *
        generalize (marksT.getD k default).1 = nm at *
        have ei : (i : Int) + (vl.length : Int) - 1 + 1 = ((i + vl.length : Nat) : Int) := by omega
        repeat' (first | (first | refine sk ?_ | (refine gL ?_; first | refine xl_buildSlice rfl (fun _ => ?_)) | fail) | (refine wc_cond rfl (fun hc => ?_) (fun hc => ?_) <;> (try (simp only [bls] at hc)) <;> (try (exfalso; first | omega | contradiction))))
        · cases hc.2
        refine wn_cut ⟨(i + vl.length, out ++ nm), by omega, ?_, ?_⟩ (by show s.length - (i + vl.length) < s.length - i; omega) (by repeat (first | exact Sub.nil _ | refine Sub.cons (by first | rfl | (simp only [look]; rw [ei]; rfl) | (simp only [look]; rw [ei]; simp; done)) ?_)) (fun _ h => h)
        · rw [hinv, huc, List.drop_drop]
          simp [Function.comp_def]
        · simp only [List.length_append]; omega
    · rw [if_neg hb, if_neg h38] at huc
      have h38' : ¬ ((s.getD i 0).toNat : Int) = 38 := fun e => h38 ((n38 _).1 e)
      repeat' (first | (first | refine sk ?_ | (refine gL ?_; first | refine xl_buildSlice rfl (fun _ => ?_)) | fail) | (refine wc_cond rfl (fun hc => ?_) (fun hc => ?_) <;> (try (simp only [bls] at hc)) <;> (try (exfalso; first | omega | contradiction))))
      refine wn_cut ⟨(i + 1, out ++ [s.getD i 0]), by omega, by rw [hinv, hdrop, huc]; simp [Function.comp_def], by simp; omega⟩ (by show s.length - (i + 1) < s.length - i; omega) (by rw [hone]; exact pE) (fun _ h => h.drop pL)
  · have e : s.drop i = [] := List.drop_eq_nil_of_le hge
    rw [e, unescQ_nil, Option.map_some, List.append_nil] at hinv
    repeat' (first | (first | refine sk ?_ | (refine gL ?_; first | refine xl_buildSlice rfl (fun _ => ?_)) | fail) | (refine wc_cond rfl (fun hc => ?_) (fun hc => ?_) <;> (try (simp only [bls] at hc)) <;> (try (exfalso; first | omega | contradiction))))
    rw [hinv]
    exact wr_tmp2 rfl rfl rfl rfl rfl
theorem rshown_ok (hM : Laid M w) (s : List UInt8) (hs : s.length ≤ 1000000000000000) : Calls Tryz.prog 116 #[str s] w (RetE w (.bool (shwB s))) := by
  refine fn1 hM Tryz.func116 ?_
  repeat' (first | refine sk ?_ | (refine wc_cond rfl (fun hc => ?_) (fun hc => ?_) <;> (try (simp only [bls] at hc)) <;> (try (exfalso; first | omega | contradiction))))
  refine wc_loop (α := { i : Nat // i ≤ s.length ∧ ∀ j, j < i → shwC (s.getD j 0) = true }) (fun x => [(0, true, str s), (3, true, i64 (x.1 : Int))]) (fun _ => St w [] [] M) (fun x => s.length - x.1) ⟨0, by omega, by intro j hj; omega⟩ pE (fun _ h => h) ?_
  rintro ⟨i, hi, hall⟩
  dsimp only
  repeat' (first | refine sk ?_ | (refine wc_cond rfl (fun hc => ?_) (fun hc => ?_) <;> (try (simp only [bls] at hc)) <;> (try (exfalso; first | omega | contradiction))))
  · refine wr_tmp rfl rfl (congrArg Value.bool ?_)
    unfold shwB
    rw [all_no (i := i) (by omega) (shw_no _ hc)]
  · refine wn_cut ⟨i + 1, by omega, ?_⟩ (by show s.length - (i + 1) < s.length - i; omega) pE (fun _ h => h)
    intro j hj
    by_cases h : j = i
    · subst h; exact shw_yes _ hc
    · exact hall j (by omega)
  · refine wr_tmp rfl rfl (congrArg Value.bool ?_)
    unfold shwB
    rw [all_yes (fun j hj => hall j (by omega))]
theorem let_no (c : UInt8) : (((c.toNat : Int) < 97 ∨ 122 < (c.toNat : Int)) ∧ ((c.toNat : Int) < 65 ∨ 90 < (c.toNat : Int))) → letC c = false := by revert c; apply all_bytes; decide +kernel
theorem ins_no (c : UInt8) : letC c = false → (((((c.toNat : Int) < 48 ∨ 57 < (c.toNat : Int)) ∧ ¬ (c.toNat : Int) = 58) ∧ ¬ (c.toNat : Int) = 45) ∧ ¬ (c.toNat : Int) = 95) → insC c = false := by revert c; apply all_bytes; decide +kernel
theorem let_yes (c : UInt8) : ((97 ≤ (c.toNat : Int) ∧ (c.toNat : Int) ≤ 122) ∨ (65 ≤ (c.toNat : Int) ∧ (c.toNat : Int) ≤ 90)) → letC c = true := by revert c; apply all_bytes; decide +kernel
theorem let_ins (c : UInt8) : letC c = true → insC c = true := by revert c; apply all_bytes; decide +kernel
theorem ins_yes (c : UInt8) : ((((48 ≤ (c.toNat : Int) ∧ (c.toNat : Int) ≤ 57) ∨ (c.toNat : Int) = 58) ∨ (c.toNat : Int) = 45) ∨ (c.toNat : Int) = 95) → insC c = true := by revert c; apply all_bytes; decide +kernel
theorem rname_ok (hM : Laid M w) (s : List UInt8) (hs : s.length ≤ 1000000000000000) : Calls Tryz.prog 115 #[str s] w (RetE w (.bool (nameB s))) := by
  refine fn1 hM Tryz.func115 ?_
  repeat' (first | refine sk ?_ | (refine wc_cond rfl (fun hc => ?_) (fun hc => ?_) <;> (try (simp only [bls] at hc)) <;> (try (exfalso; first | omega | contradiction))))
  refine wc_loop (α := { i : Nat // i ≤ s.length ∧ (0 < i → letC (s.getD 0 0) = true) ∧ ∀ j, j < i → insC (s.getD j 0) = true }) (fun x => [(0, true, str s), (3, true, i64 (x.1 : Int))]) (fun _ => St w [] [] M) (fun x => s.length - x.1) ⟨0, by omega, by omega, by intro j hj; omega⟩ pE (fun _ h => h) ?_
  rintro ⟨i, hi, hlet, hall⟩
  dsimp only
  repeat' (first | refine sk ?_ | (refine wc_cond rfl (fun hc => ?_) (fun hc => ?_) <;> (try (simp only [bls] at hc)) <;> (try (exfalso; first | omega | contradiction))))
  · refine wr_tmp rfl rfl (congrArg Value.bool ?_)
    unfold nameB
    have hl := let_no _ hc.1
    rcases hc.2 with h0 | h1
    · obtain rfl : i = 0 := by omega
      rw [hl, Bool.and_false, Bool.false_and]
    · rw [all_no (i := i) (by omega) (ins_no _ hl h1), Bool.and_false]
  · refine wn_cut ⟨i + 1, by omega, ?_, ?_⟩ (by show s.length - (i + 1) < s.length - i; omega) pE (fun _ h => h)
    · intro _
      by_cases h0 : i = 0
      · subst h0
        rcases hc with h | h
        · exact let_yes _ h
        · exact absurd rfl h.1
      · exact hlet (by omega)
    have hc2 := hc
    intro j hj
    by_cases h : j = i
    · subst h
      rcases hc2 with h | h
      · exact let_ins _ (let_yes _ h)
      · exact ins_yes _ h.2
    · exact hall j (by omega)
  · refine wr_tmp rfl rfl (congrArg Value.bool ?_)
    unfold nameB
    rw [all_yes (fun j hj => hall j (by omega)), Bool.and_true]
    by_cases h0 : s = []
    · subst h0; rfl
    · have hp := List.length_pos_iff.2 h0
      rw [hlet (by omega), decide_eq_false h0]
      cases s with
      | nil => exact absurd rfl h0
      | cons a r => rfl
end Go.Proofs.YtgfbieplidpebaaGreatDoor
/-
  Elements, plainly, and as they lie in memory. No program stands here.
-/
namespace Go.Xml
open Go.Pct Go.Eng
set_option linter.unusedVariables false

inductive Nd where
  | mk (n : List UInt8) (a : List (List UInt8 × List UInt8)) (t : List UInt8) (k : List Nd)
/-- an element's cells, so deep at most -/
def NodeC (M : Ghost) : Nat → Nd → List Value → Prop
  | 0, _, _ => False
  | D + 1, .mk n a t k, vs => ∃ va vk, vs = [str n, va, str t, vk] ∧ SlP M va a ∧ Sl M 4 (NodeC M D) vk k ∧ n.length ≤ 100000000 ∧ t.length ≤ 100000000 ∧ (∀ p ∈ a, p.1.length ≤ 100000000 ∧ p.2.length ≤ 100000000)
theorem NodeC.four {M : Ghost} : ∀ {D : Nat} {x : Nd} {vs : List Value}, NodeC M D x vs → vs.length = 4
  | 0, _, _, h => h.elim
  | D + 1, .mk n a t k, vs, h => by
    obtain ⟨va, vk, rfl, _⟩ := h; rfl
theorem NodeC.mono {M M' : Ghost} (hM : ∀ b o, M b o → M' b o) : ∀ {D : Nat} {x : Nd} {vs : List Value}, NodeC M D x vs → NodeC M' D x vs
  | 0, _, _, h => h.elim
  | D + 1, .mk n a t k, vs, h => by
    obtain ⟨va, vk, h1, h2, h3, h4⟩ := h
    exact ⟨va, vk, h1, Sl.mono h2 hM (fun _ _ _ h => h), Sl.mono h3 hM (fun x vs _ h => NodeC.mono hM h), h4⟩
theorem NodeC.up {M : Ghost} : ∀ {D D' : Nat} {x : Nd} {vs : List Value}, D ≤ D' → NodeC M D x vs → NodeC M D' x vs
  | 0, _, _, _, _, h => h.elim
  | D + 1, 0, _, _, hd, _ => by omega
  | D + 1, D' + 1, .mk n a t k, vs, hd, h => by
    obtain ⟨va, vk, h1, h2, h3, h4⟩ := h
    exact ⟨va, vk, h1, h2, Sl.mono h3 (fun _ _ h => h) (fun x vs _ h => NodeC.up (by omega) h), h4⟩
mutual
/-- how many are left -/
def fewN : Nd → Int → Int → Int
  | .mk _ _ _ k, left, deep => if left ≤ 0 ∨ deep ≤ 0 then -1 else fewL k (left - 1) (deep - 1)
def fewL : List Nd → Int → Int → Int
  | [], left, _ => left
  | x :: l, left, deep => if fewN x left deep < 0 then -1 else fewL l (fewN x left deep) deep
end
def attrOk (l : List (List UInt8 × List UInt8)) (i : Nat) : Bool := nameB (l.getD i default).1 && shwB (l.getD i default).2 && !((l.take i).any fun b => decide (b.1 = (l.getD i default).1))
def attrsB (l : List (List UInt8 × List UInt8)) : Bool := (List.range l.length).all (attrOk l)
mutual
/-- can an element be, but for how many there are? -/
def ownN : Nd → Bool
  | .mk n a t k => nameB n && shwB t && (t.isEmpty || k.isEmpty) && attrsB a && ownL k
def ownL : List Nd → Bool
  | [] => true
  | x :: l => ownN x && ownL l
end
def rightN (x : Nd) : Bool := decide (0 ≤ fewN x 200 8) && ownN x
def attrT (a : List (List UInt8 × List UInt8)) : List UInt8 := a.flatMap fun p => [32] ++ p.1 ++ [61, 34] ++ esc p.2 ++ [34]
mutual
/-- an element's text -/
def textN : Nd → List UInt8
  | .mk n a t k => ([60] ++ n ++ attrT a) ++ ([62] ++ esc t) ++ textL k ++ ([60, 47] ++ n ++ [62])
def textL : List Nd → List UInt8
  | [] => []
  | x :: l => textN x ++ textL l
end
mutual
def sameN : Nd → Nd → Bool
  | .mk n a t k, .mk n' a' t' k' => decide (n = n') && decide (t = t') && decide (a = a') && sameL k k'
def sameL : List Nd → List Nd → Bool
  | [], [] => true
  | x :: l, y :: m => sameN x y && sameL l m
  | _, _ => false
end
mutual
theorem sameN_eq : ∀ {x y : Nd}, sameN x y = true → x = y
  | .mk n a t k, .mk n' a' t' k', h => by
    simp only [sameN, Bool.and_eq_true, decide_eq_true_eq] at h
    obtain ⟨⟨⟨rfl, rfl⟩, rfl⟩, h⟩ := h
    rw [sameL_eq h]
theorem sameL_eq : ∀ {x y : List Nd}, sameL x y = true → x = y
  | [], [], _ => rfl
  | x :: l, y :: m, h => by
    simp only [sameL, Bool.and_eq_true] at h
    rw [sameN_eq h.1, sameL_eq h.2]
  | [], _ :: _, h => by simp [sameL] at h
  | _ :: _, [], h => by simp [sameL] at h
end
mutual
theorem sameN_refl : ∀ (x : Nd), sameN x x = true
  | .mk n a t k => by simp [sameN, sameL_refl k]
theorem sameL_refl : ∀ (l : List Nd), sameL l l = true
  | [] => rfl
  | x :: l => by simp [sameL, sameN_refl x, sameL_refl l]
end
mutual
/-- how many there are -/
def cntN : Nd → Nat
  | .mk _ _ _ k => 1 + cntL k
def cntL : List Nd → Nat
  | [] => 0
  | x :: l => cntN x + cntL l
end
mutual
/-- how deep it is -/
def dpN : Nd → Nat
  | .mk _ _ _ k => 1 + dpL k
def dpL : List Nd → Nat
  | [] => 0
  | x :: l => max (dpN x) (dpL l)
end
mutual
theorem fewN_yes : ∀ (x : Nd) (left deep : Int), dpN x ≤ deep → cntN x ≤ left → fewN x left deep = left - cntN x
  | .mk _ _ _ k, left, deep, h1, h2 => by
    simp only [dpN, cntN] at h1 h2 ⊢
    rw [fewN, if_neg (by omega), fewL_yes k _ _ (by omega) (by omega)]
    omega
theorem fewL_yes : ∀ (l : List Nd) (left deep : Int), dpL l ≤ deep → cntL l ≤ left → fewL l left deep = left - cntL l
  | [], left, deep, _, _ => by simp [fewL, cntL]
  | x :: l, left, deep, h1, h2 => by
    simp only [dpL, cntL] at h1 h2 ⊢
    rw [fewL, fewN_yes x left deep (by omega) (by omega), if_neg (by omega), fewL_yes l _ _ (by omega) (by omega)]
    omega
end
mutual
theorem fewN_no : ∀ (x : Nd) (left deep : Int), 0 ≤ fewN x left deep → dpN x ≤ deep ∧ cntN x ≤ left
  | .mk _ _ _ k, left, deep, h => by
    rw [fewN] at h
    split at h
    · omega
    · have := fewL_no k _ _ (by omega) (by omega) h
      simp only [dpN, cntN]
      omega
theorem fewL_no : ∀ (l : List Nd) (left deep : Int), 0 ≤ left → 0 ≤ deep → 0 ≤ fewL l left deep → dpL l ≤ deep ∧ cntL l ≤ left
  | [], left, deep, h0, h0', _ => by simp only [dpL, cntL]; omega
  | x :: l, left, deep, h0, h0', h => by
    rw [fewL] at h
    split at h
    · omega
    · have h1 := fewN_no x left deep (by omega)
      rw [fewN_yes x left deep h1.1 h1.2] at h
      have h2 := fewL_no l _ _ (by omega) h0' h
      simp only [dpL, cntL]
      omega
end
mutual
/-- does an element fit, so deep, of as many as are left; how many are left then -/
def fitsN : Nd → Int → Int → Bool × Int
  | .mk n a t k, deep, left => if ((((8 < deep ∨ left - 1 < 0) ∨ nameB n = false) ∨ attrsB a = false) ∨ shwB t = false) ∨ (¬ t = [] ∧ 0 < (k.length : Int)) then (false, left - 1) else fitsL k (deep + 1) (left - 1)
def fitsL : List Nd → Int → Int → Bool × Int
  | [], _, left => (true, left)
  | x :: l, deep, left => if (fitsN x deep left).1 = true then fitsL l deep (fitsN x deep left).2 else (false, (fitsN x deep left).2)
end
mutual
theorem fitsN_iff : ∀ (x : Nd) (deep left : Int), ((fitsN x deep left).1 = true ↔ (deep + dpN x ≤ 9 ∧ cntN x ≤ left ∧ ownN x = true)) ∧ ((fitsN x deep left).1 = true → (fitsN x deep left).2 = left - cntN x) ∧ (fitsN x deep left).2 ≤ left
  | .mk n a t k, deep, left => by
    rw [fitsN]
    simp only [dpN, cntN, ownN]
    split
    · rename_i hc
      refine ⟨⟨fun h => absurd h (by simp), ?_⟩, fun h => absurd h (by simp), by show left - 1 ≤ left; omega⟩
      rintro ⟨h1, h2, h3⟩
      exfalso
      simp only [Bool.and_eq_true, Bool.or_eq_true, List.isEmpty_iff] at h3
      obtain ⟨⟨⟨⟨g1, g2⟩, g3⟩, g4⟩, g5⟩ := h3
      rcases hc with ((((hc | hc) | hc) | hc) | hc) | ⟨hc, hc'⟩
      · omega
      · omega
      · rw [hc] at g1; cases g1
      · rw [hc] at g4; cases g4
      · rw [hc] at g2; cases g2
      · rcases g3 with g3 | g3
        · exact hc g3
        · subst g3; simp at hc'
    · rename_i hc
      simp only [not_or, not_and, Int.not_lt, Bool.not_eq_false] at hc
      obtain ⟨⟨⟨⟨⟨c1, c2⟩, c3⟩, c4⟩, c5⟩, c6⟩ := hc
      obtain ⟨e1, e2, e3⟩ := fitsL_iff k (deep + 1) (left - 1) (by omega) (by omega)
      have htk : (t.isEmpty || k.isEmpty) = true := by
        by_cases h : t = []
        · subst h; rfl
        · have := c6 h
          have : k = [] := List.eq_nil_of_length_eq_zero (by omega)
          subst this; simp
      refine ⟨?_, fun h => by rw [e2 h]; omega, by omega⟩
      rw [e1, c3, c4, c5, htk]
      simp only [Bool.true_and]
      constructor
      · rintro ⟨h1, h2, h3⟩; exact ⟨by omega, by omega, h3⟩
      · rintro ⟨h1, h2, h3⟩; exact ⟨by omega, by omega, h3⟩
theorem fitsL_iff : ∀ (l : List Nd) (deep left : Int), deep ≤ 9 → 0 ≤ left → ((fitsL l deep left).1 = true ↔ (deep + dpL l ≤ 9 ∧ cntL l ≤ left ∧ ownL l = true)) ∧ ((fitsL l deep left).1 = true → (fitsL l deep left).2 = left - cntL l) ∧ (fitsL l deep left).2 ≤ left
  | [], deep, left, hd, hl => by
    simp only [fitsL, dpL, cntL, ownL]
    exact ⟨⟨fun _ => ⟨by omega, by omega, trivial⟩, fun _ => trivial⟩, fun _ => by omega, by omega⟩
  | x :: l, deep, left, hd, hl => by
    obtain ⟨e1, e2, e3⟩ := fitsN_iff x deep left
    rw [fitsL]
    simp only [dpL, cntL, ownL]
    split
    · rename_i hc
      obtain ⟨f1, f2, f3⟩ := e1.1 hc
      have e4 := e2 hc
      obtain ⟨k1, k2, k3⟩ := fitsL_iff l deep (fitsN x deep left).2 hd (by omega)
      rw [e4] at k1 k2 k3 ⊢
      refine ⟨?_, fun h => by rw [k2 h]; omega, by omega⟩
      rw [k1, f3, Bool.true_and]
      constructor
      · rintro ⟨h1, h2, h3⟩; exact ⟨by omega, by omega, h3⟩
      · rintro ⟨h1, h2, h3⟩; exact ⟨by omega, by omega, h3⟩
    · rename_i hc
      refine ⟨⟨fun h => absurd h (by simp), ?_⟩, fun h => absurd h (by simp), e3⟩
      rintro ⟨h1, h2, h3⟩
      rw [Bool.and_eq_true] at h3
      exact absurd (e1.2 ⟨by omega, by omega, h3.1⟩) hc
end
theorem fits_right (x : Nd) : (fitsN x 1 200).1 = rightN x := by
  have h := (fitsN_iff x 1 200).1
  unfold rightN
  by_cases hf : 0 ≤ fewN x 200 8
  · have h1 := fewN_no x 200 8 hf
    rw [decide_eq_true hf, Bool.true_and]
    cases ho : ownN x
    · rw [Bool.eq_false_iff]
      intro e
      have := (h.1 e).2.2
      rw [ho] at this; cases this
    · exact h.2 ⟨by omega, h1.2, ho⟩
  · rw [decide_eq_false hf, Bool.false_and, Bool.eq_false_iff]
    intro e
    have h2 := h.1 e
    rw [fewN_yes x 200 8 (by omega) h2.2.1] at hf
    omega
theorem fewN_le (x : Nd) (left deep : Int) : -1 ≤ fewN x left deep ∧ (fewN x left deep ≤ left ∨ fewN x left deep = -1) := by
  by_cases h : 0 ≤ fewN x left deep
  · have h1 := fewN_no x left deep h
    rw [fewN_yes x left deep h1.1 h1.2] at h ⊢
    omega
  · suffices fewN x left deep = -1 by omega
    have key : ∀ (l : List Nd) (left deep : Int), 0 ≤ left → fewL l left deep = -1 ∨ 0 ≤ fewL l left deep := by
      intro l
      induction l with
      | nil => intro left deep h0; exact .inr h0
      | cons y l ih =>
        intro left deep h0
        rw [fewL]
        split
        · exact .inl rfl
        · exact ih _ _ (by omega)
    cases x with
    | mk n a t k =>
      rw [fewN] at h ⊢
      split
      · rfl
      · rename_i hc
        rw [if_neg hc] at h
        rcases key k (left - 1) (deep - 1) (by omega) with h' | h' <;> omega
end Go.Xml
