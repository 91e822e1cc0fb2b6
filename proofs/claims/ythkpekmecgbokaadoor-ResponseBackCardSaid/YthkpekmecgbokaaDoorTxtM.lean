/-
  Texts cut at a separator of several bytes, plainly; what the library's words for it say in these words. No program stands here.
-/
import Derived.Test.YthkpekmecgbokaaDoorTxtS
import Derived.Lib.AtoiAll
namespace Go.Txt

/-- Where a separator first stands: what is ahead of it, what is behind it. -/
def cutS (sep : List UInt8) : List UInt8 → Option (List UInt8 × List UInt8)
  | [] => none
  | c :: r => if sep.isPrefixOf (c :: r) = true then some ([], (c :: r).drop sep.length) else (cutS sep r).map fun p => (c :: p.1, p.2)
theorem pre_split {a b : List UInt8} (h : a.isPrefixOf b = true) : b = a ++ b.drop a.length := by
  rw [List.isPrefixOf_iff_prefix] at h
  obtain ⟨t, rfl⟩ := h
  simp
theorem cutS_some {sep : List UInt8} : ∀ {s a b : List UInt8}, cutS sep s = some (a, b) → s = a ++ sep ++ b
  | [], _, _, h => by cases h
  | c :: r, a, b, h => by
    rw [cutS] at h
    split at h
    · rename_i hp
      simp only [Option.some.injEq, Prod.mk.injEq] at h
      obtain ⟨rfl, rfl⟩ := h
      exact pre_split hp
    · obtain ⟨p, hp, e⟩ := Option.map_eq_some_iff.1 h
      simp only [Prod.mk.injEq] at e
      obtain ⟨rfl, rfl⟩ := e
      rw [cutS_some (a := p.1) (b := p.2) hp]; rfl
theorem cutS_length {sep s a b : List UInt8} (h : cutS sep s = some (a, b)) : s.length = a.length + sep.length + b.length := by
  rw [cutS_some h]; simp; omega
theorem lib_index {sep : List UInt8} (hs : sep ≠ []) : ∀ s : List UInt8, Lib.index s sep = match cutS sep s with | some p => (p.1.length : Int) | none => -1
  | [] => by
    have : sep.isEmpty = false := by cases sep <;> simp_all
    simp [Lib.index, cutS, this]
  | c :: r => by
    rw [Lib.index, cutS, lib_index hs r]
    by_cases h : sep.isPrefixOf (c :: r) = true
    · rw [if_pos h, if_pos h]; rfl
    · rw [if_neg h, if_neg h]
      cases hc : cutS sep r with
      | none => simp
      | some p =>
        have hn : ¬ (((p.1.length : Int)) == -1) = true := by simp
        simp only [Option.map_some, List.length_cons]
        rw [if_neg hn]; simp
theorem lib_cut {sep : List UInt8} (hs : sep ≠ []) (s : List UInt8) : Lib.cut s sep = match cutS sep s with | some p => (p.1, p.2, true) | none => (s, [], false) := by
  unfold Lib.cut
  rw [lib_index hs s]
  cases hc : cutS sep s with
  | none => simp
  | some p =>
    obtain ⟨a, b⟩ := p
    have h0 : (0 : Int) ≤ (a.length : Int) := by omega
    have e := cutS_some hc
    simp only [h0, if_true, Int.toNat_natCast]
    rw [e]
    simp
theorem split_none {sep s : List UInt8} (hs : sep ≠ []) (h : cutS sep s = none) : Lib.split s sep = [s] := by
  have hi : Lib.index s sep = -1 := by rw [lib_index hs, h]
  unfold Lib.split
  rw [Lib.count_miss hi]; rfl
theorem split_some {sep s a b : List UInt8} (hs : sep ≠ []) (h : cutS sep s = some (a, b)) : Lib.split s sep = a :: Lib.split b sep := by
  have hi : Lib.index s sep = (a.length : Int) := by rw [lib_index hs, h]
  have e := cutS_some h
  unfold Lib.split
  rw [Lib.count_hit hs hi, Nat.add_comm 1, Lib.splitK, hi]
  have hn : ¬ (((a.length : Int)) == -1) = true := by simp
  rw [if_neg hn]
  simp only [Int.toNat_natCast, Nat.add_zero]
  have e1 : s.take a.length = a := by rw [e]; simp
  have e2 : s.drop (a.length + sep.length) = b := by rw [e]; simp
  rw [e1, e2]
theorem splitK_zero (sep s : List UInt8) : Lib.splitK sep 0 0 s = [s] := rfl
theorem splitK_none {sep s : List UInt8} (hs : sep ≠ []) (h : cutS sep s = none) (k : Nat) : Lib.splitK sep 0 k s = [s] := by
  cases k with
  | zero => rfl
  | succ k =>
    have hi : Lib.index s sep = -1 := by rw [lib_index hs, h]
    rw [Lib.splitK, hi]; rfl
theorem splitK_some {sep s a b : List UInt8} (hs : sep ≠ []) (h : cutS sep s = some (a, b)) (k : Nat) : Lib.splitK sep 0 (k + 1) s = a :: Lib.splitK sep 0 k b := by
  have hi : Lib.index s sep = (a.length : Int) := by rw [lib_index hs, h]
  have e := cutS_some h
  have hn : ¬ (((a.length : Int)) == -1) = true := by simp
  rw [Lib.splitK, hi, if_neg hn]
  simp only [Int.toNat_natCast, Nat.add_zero]
  have e1 : s.take a.length = a := by rw [e]; simp
  have e2 : s.drop (a.length + sep.length) = b := by rw [e]; simp
  rw [e1, e2]
/-- the first byte of the separator does not stand ahead -/
theorem cutS_mid {c : UInt8} {t : List UInt8} : ∀ {a : List UInt8} (b : List UInt8), c ∉ a → cutS (c :: t) (a ++ (c :: t) ++ b) = some (a, b)
  | [], b, _ => by
    rw [List.nil_append, List.cons_append, cutS, if_pos]
    · simp
    · rw [← List.cons_append]; exact List.isPrefixOf_iff_prefix.2 (List.prefix_append _ _)
  | x :: a, b, h => by
    simp only [List.mem_cons, not_or] at h
    have hx : ¬ (c :: t).isPrefixOf (x :: (a ++ (c :: t) ++ b)) = true := by
      simp [List.isPrefixOf, h.1]
    show cutS (c :: t) (x :: (a ++ (c :: t) ++ b)) = _
    rw [cutS, if_neg hx, cutS_mid b h.2]; rfl
theorem cutS_no {c : UInt8} {t : List UInt8} : ∀ {a : List UInt8}, c ∉ a → cutS (c :: t) a = none
  | [], _ => rfl
  | x :: a, h => by
    simp only [List.mem_cons, not_or] at h
    have hx : ¬ (c :: t).isPrefixOf (x :: a) = true := by simp [List.isPrefixOf, h.1]
    rw [cutS, if_neg hx, cutS_no h.2]; rfl
/-- one byte more ahead that does not begin the separator -/
theorem cutS_skip {c x : UInt8} {t r : List UInt8} (h : ¬ (c :: t).isPrefixOf (x :: r) = true) : cutS (c :: t) (x :: r) = (cutS (c :: t) r).map fun p => (x :: p.1, p.2) := by
  rw [cutS, if_neg h]
theorem cutS_ahead {c : UInt8} {t : List UInt8} : ∀ {a : List UInt8} (r : List UInt8), c ∉ a → cutS (c :: t) (a ++ r) = (cutS (c :: t) r).map fun p => (a ++ p.1, p.2)
  | [], r, _ => by simp
  | x :: a, r, h => by
    simp only [List.mem_cons, not_or] at h
    have hx : ¬ (c :: t).isPrefixOf (x :: (a ++ r)) = true := by simp [List.isPrefixOf, h.1]
    rw [List.cons_append, cutS_skip hx, cutS_ahead r h.2, Option.map_map]; rfl
/-! ### lines -/
/-- lines, one after the other, a line's end between them -/
def lines : List (List UInt8) → List UInt8
  | [] => []
  | [l] => l
  | l :: r => l ++ [13, 10] ++ lines r
theorem lines_cons (l : List UInt8) {r : List (List UInt8)} (h : r ≠ []) : lines (l :: r) = l ++ [13, 10] ++ lines r := by
  cases r with
  | nil => exact absurd rfl h
  | cons x r => rfl
theorem split_lines : ∀ {ls : List (List UInt8)}, ls ≠ [] → (∀ l ∈ ls, (13 : UInt8) ∉ l) → Lib.split (lines ls) [13, 10] = ls
  | [l], _, h => split_none (by simp) (cutS_no (h l List.mem_cons_self))
  | l :: l2 :: r, _, h => by
    rw [lines_cons l (by simp)]
    rw [split_some (a := l) (b := lines (l2 :: r)) (by simp) (cutS_mid (c := 13) (t := [10]) _ (h l List.mem_cons_self))]
    rw [split_lines (by simp) (fun x hx => h x (List.mem_cons_of_mem _ hx))]
theorem cut_lines : ∀ {ls : List (List UInt8)} (body : List UInt8), ls ≠ [] → (∀ l ∈ ls, (13 : UInt8) ∉ l ∧ l ≠ []) → cutS [13, 10, 13, 10] (lines ls ++ [13, 10, 13, 10] ++ body) = some (lines ls, body)
  | [l], body, _, h => cutS_mid (c := 13) (t := [10, 13, 10]) body (h l List.mem_cons_self).1
  | l :: l2 :: r, body, _, h => by
    have h2 := h l2 (List.mem_cons_of_mem _ List.mem_cons_self)
    have ih := cut_lines (ls := l2 :: r) body (by simp) (fun x hx => h x (List.mem_cons_of_mem _ hx))
    have e : lines (l :: l2 :: r) ++ [13, 10, 13, 10] ++ body = l ++ (13 :: 10 :: (lines (l2 :: r) ++ [13, 10, 13, 10] ++ body)) := by
      rw [lines_cons l (by simp)]; simp
    have hd : ∃ x y, lines (l2 :: r) = x :: y ∧ x ≠ 13 := by
      obtain ⟨x, y, rfl⟩ : ∃ x y, l2 = x :: y := by cases hl : l2 <;> simp_all
      have hx : x ≠ 13 := fun e => h2.1 (by rw [e]; exact List.mem_cons_self)
      cases r with
      | nil => exact ⟨x, y, rfl, hx⟩
      | cons z r => exact ⟨x, y ++ [13, 10] ++ lines (z :: r), by rw [lines_cons _ (by simp)]; simp, hx⟩
    obtain ⟨x, y, hxy, hx⟩ := hd
    rw [e, cutS_ahead _ (h l List.mem_cons_self).1]
    rw [cutS_skip (by rw [hxy]; simp [List.isPrefixOf]; intro e; exact absurd e.symm hx), cutS_skip (by simp [List.isPrefixOf]), ih]
    rw [lines_cons l (by simp)]; simp
/-! ### a separator of two bytes looked for, byte by byte -/
def Scan (c d : UInt8) (s : List UInt8) (at' i : Nat) : Prop := at' ≤ i ∧ i ≤ s.length ∧ cutS [c, d] (s.drop at') = (cutS [c, d] (s.drop i)).map fun p => ((s.drop at').take (i - at') ++ p.1, p.2)
theorem scan_start (c d : UInt8) {s : List UInt8} {i : Nat} (h : i ≤ s.length) : Scan c d s i i := ⟨Nat.le_refl _, h, by simp⟩
theorem take_more {s : List UInt8} {a i : Nat} (h1 : a ≤ i) (h2 : i < s.length) : (s.drop a).take (i + 1 - a) = (s.drop a).take (i - a) ++ [s.getD i 0] := by
  have e : i + 1 - a = (i - a) + 1 := by omega
  have hl : i - a < (s.drop a).length := by simp; omega
  rw [e, List.take_succ_eq_append_getElem hl]
  congr 2
  simp [List.getElem_drop, show a + (i - a) = i by omega, h2]
theorem scan_step {c d : UInt8} {s : List UInt8} {a i : Nat} (h : Scan c d s a i) (hi : i + 1 < s.length) (hn : ¬ (s.getD i 0 = c ∧ s.getD (i + 1) 0 = d)) : Scan c d s a (i + 1) := by
  obtain ⟨h1, h2, h3⟩ := h
  refine ⟨by omega, by omega, ?_⟩
  have e := drop_getD (s := s) (i := i) (by omega)
  have e2 := drop_getD (s := s) (i := i + 1) hi
  have hp : ¬ [c, d].isPrefixOf (s.getD i 0 :: s.drop (i + 1)) = true := by
    rw [e2]
    intro hh
    simp only [List.isPrefixOf, Bool.and_eq_true, beq_iff_eq] at hh
    exact hn ⟨hh.1.symm, hh.2.1.symm⟩
  rw [h3, e, cutS_skip hp, Option.map_map, take_more h1 (by omega)]
  congr 1
  funext p
  simp
theorem scan_hit {c d : UInt8} {s : List UInt8} {a i : Nat} (h : Scan c d s a i) (hi : i + 1 < s.length) (hc : s.getD i 0 = c) (hd : s.getD (i + 1) 0 = d) : cutS [c, d] (s.drop a) = some ((s.drop a).take (i - a), s.drop (i + 2)) := by
  obtain ⟨h1, h2, h3⟩ := h
  have e := drop_getD (s := s) (i := i) (by omega)
  have e2 := drop_getD (s := s) (i := i + 1) hi
  have hp : [c, d].isPrefixOf (s.getD i 0 :: s.drop (i + 1)) = true := by
    rw [e2, hc, hd]; simp [List.isPrefixOf]
  rw [h3, e, cutS, if_pos hp, e2]
  simp
theorem scan_end {c d : UInt8} {s : List UInt8} {a i : Nat} (h : Scan c d s a i) (hi : s.length ≤ i + 1) : cutS [c, d] (s.drop a) = none := by
  obtain ⟨h1, h2, h3⟩ := h
  rw [h3]
  by_cases e : i = s.length
  · rw [show s.drop i = [] from List.drop_eq_nil_of_le (by omega)]; rfl
  · have e1 := drop_getD (s := s) (i := i) (by omega)
    rw [e1, show s.drop (i + 1) = [] from List.drop_eq_nil_of_le (by omega)]
    rw [cutS, if_neg (by simp [List.isPrefixOf])]; rfl
/-- what Atoi yields -/
def atoiV (l : List UInt8) : Int := match Lib.atoiAll l with
  | .ok v => v
  | .range => Lib.atoiSat l
  | _ => 0
end Go.Txt
