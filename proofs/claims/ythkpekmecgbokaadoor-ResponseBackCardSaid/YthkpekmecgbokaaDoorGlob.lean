/-
  The package-level variables that are read, as far as this program has them; what the library's functions ask of them.
-/
import Derived.Test.YthkpekmecgbokaaDoorBytA
import Derived.Test.YthkpekmecgbokaaDoorEngG
import Derived.Test.YthkpekmecgbokaaDoorShelf
import Derived.Lib.LaidTab
import Derived.Lib.ItoaNum
namespace Go.Proofs.YthkpekmecgbokaaDoor
open Go.Eng Go.Pct
set_option linter.unusedVariables false

structure Glob (M : Ghost) : Prop where
  maxLen : ∃ cs T fz m, M 1 (.cells cs T fz) ∧ cs[0]? = some (.int .i64 m)
  pow : ∃ T fz, M 0 (.cells (Lib.pow10Tab.map fun z => Value.int .u64 z).toArray T fz)

variable {M : Ghost} {w : World}
theorem Glob.mono {M M' : Ghost} (h : Glob M) (hm : ∀ b o, M b o → M' b o) : Glob M' := by
  constructor
  · obtain ⟨cs, T, fz, m, h1, h2⟩ := h.maxLen; exact ⟨cs, T, fz, m, hm _ _ h1, h2⟩
  · obtain ⟨T, fz, h1⟩ := h.pow; exact ⟨T, fz, hm _ _ h1⟩
theorem maxLen_at (hG : Glob M) (hM : Laid M w) : ∃ m, w.cell? ⟨1, 0, none⟩ = some (.int .i64 m) := by
  obtain ⟨cs, T, fz, m, h1, h2⟩ := hG.maxLen
  exact ⟨m, by rw [cell_of (hM _ _ h1)]; exact h2⟩
theorem baSize (l : List UInt8) : (⟨l.toArray⟩ : ByteArray).size = l.length := by simp [ByteArray.size]
theorem gPow : Tryd.prog.globalNamed "internal/strconv.uint64pow10" = some 0 := by kernel_rfl
theorem pow_at (hG : Glob M) (hM : Laid M w) : Lib.TabIs Tryd.prog w "internal/strconv.uint64pow10" .u64 Lib.pow10Tab := by
  obtain ⟨T, fz, h1⟩ := hG.pow
  unfold Lib.TabIs World.var?
  rw [gPow, Option.bind_some, hM _ _ h1]
theorem ext_grow (w : World) (k : Nat) (os : Array Obj) : Ext w (Go.Sort.grow (w.drewN k) os) :=
  ⟨rfl, rfl, rfl, by simp [Go.Sort.grow], fun b hb _ => by show (w.heap ++ os)[b]? = w.heap[b]?; rw [Array.getElem?_append_left hb]⟩
theorem itoa_ok (hG : Glob M) (hM : Laid M w) (n : Nat) (hn : n ≤ 9223372036854775807) : Calls Tryd.prog 31 #[i64 (n : Int)] w (RetE w (str (Lib.itoa (n : Int)))) := by
  refine (Tryd.strconv_Itoa (n : Int) (by omega) (by omega) w (pow_at hG hM)).mono ?_
  rintro e w' ⟨rfl, k, os, rfl⟩
  exact ⟨rfl, ext_grow w k os⟩
end Go.Proofs.YthkpekmecgbokaaDoor
