/-
  Headers' bytes, plainly: which texts are tokens, shown, alike. No program stands here.
-/
import Derived.Test.YthkpekmecgbokaaDoorPctS
namespace Go.Rsp
open Go.Pct

def lowC (c : UInt8) : UInt8 := if 65 ≤ c.toNat ∧ c.toNat ≤ 90 then UInt8.ofNat (c.toNat + 32) else c
def alikeB (a b : List UInt8) : Bool := decide (a.map lowC = b.map lowC)
def tokC (c : UInt8) : Bool := (97 ≤ c.toNat && c.toNat ≤ 122) || (65 ≤ c.toNat && c.toNat ≤ 90) || (48 ≤ c.toNat && c.toNat ≤ 57) || c.toNat == 45
def tokenB (s : List UInt8) : Bool := s.all tokC && !s.isEmpty
def shownB (f : UInt8) (s : List UInt8) : Bool := s.all fun c => decide (f.toNat ≤ c.toNat) && decide (c.toNat ≤ 126)
theorem alike_no {a b : List UInt8} {i : Nat} (h : i < a.length) (hl : a.length = b.length) (hne : lowC (a.getD i 0) ≠ lowC (b.getD i 0)) : alikeB a b = false := by
  unfold alikeB
  rw [decide_eq_false_iff_not]
  intro e
  have := congrArg (fun l => l.getD i (0 : UInt8)) e
  simp [h, show i < b.length by omega] at this
  simp [h, show i < b.length by omega] at hne
  exact hne this
theorem alike_len {a b : List UInt8} (h : a.length ≠ b.length) : alikeB a b = false := by
  unfold alikeB
  rw [decide_eq_false_iff_not]
  intro e
  exact h (by simpa using congrArg List.length e)
theorem alike_yes {a b : List UInt8} (hl : a.length = b.length) (h : ∀ j, j < a.length → lowC (a.getD j 0) = lowC (b.getD j 0)) : alikeB a b = true := by
  unfold alikeB
  rw [decide_eq_true_iff]
  apply List.ext_getElem (by simpa using hl)
  intro j h1 h2
  have := h j (by simpa using h1)
  have h3 : j < a.length := by simpa using h1
  have h4 : j < b.length := by omega
  simpa [h3, h4] using this
theorem all_no {p : UInt8 → Bool} {s : List UInt8} {i : Nat} (h : i < s.length) (hn : p (s.getD i 0) = false) : s.all p = false := by
  rw [Bool.eq_false_iff]
  intro ha
  have := List.all_eq_true.1 ha (s.getD i 0) (by
    have e : s.getD i 0 = s[i] := by simp [h]
    rw [e]; exact List.getElem_mem _)
  rw [hn] at this; cases this
theorem all_yes {p : UInt8 → Bool} {s : List UInt8} (h : ∀ j, j < s.length → p (s.getD j 0) = true) : s.all p = true := by
  rw [List.all_eq_true]
  intro c hc
  obtain ⟨j, hj, rfl⟩ := List.mem_iff_getElem.1 hc
  have := h j hj
  simpa [hj] using this
end Go.Rsp
