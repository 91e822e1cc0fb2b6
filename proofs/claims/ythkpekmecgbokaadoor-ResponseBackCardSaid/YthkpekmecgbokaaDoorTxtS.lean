/-
  Texts cut at a byte, plainly; what the library's words for it say in these words. No program stands here.
-/
import Derived.Lib.Split
import Derived.Lib.SplitLaws
import Derived.Lib.IndexLaws
import Derived.Lib.IndexBytes
import Derived.Lib.IndexMore
import Derived.Lib.Join
namespace Go.Txt

theorem drop_getD {s : List UInt8} {i : Nat} (h : i < s.length) : s.drop i = s.getD i 0 :: s.drop (i + 1) := by
  rw [List.drop_eq_getElem_cons h]; simp [h]
theorem take_getD {s : List UInt8} {i : Nat} (h : i < s.length) : s.take (i + 1) = s.take i ++ [s.getD i 0] := by
  rw [List.take_succ_eq_append_getElem h]; simp [h]

/-- Where a byte first stands; the length: nowhere. -/
def idx (c : UInt8) : List UInt8 → Nat
  | [] => 0
  | x :: s => if x = c then 0 else idx c s + 1
theorem idx_le (c : UInt8) : ∀ s : List UInt8, idx c s ≤ s.length
  | [] => Nat.le_refl _
  | x :: s => by
    simp only [idx]; split
    · simp
    · have := idx_le c s; simp; omega
theorem idx_eq {c : UInt8} : ∀ {s : List UInt8} {k : Nat}, k ≤ s.length → (∀ j, j < k → s.getD j 0 ≠ c) → (k = s.length ∨ s.getD k 0 = c) → idx c s = k
  | [], k, h, _, _ => by simp at h; subst h; rfl
  | x :: s, 0, _, _, h2 => by
    have : x = c := by
      rcases h2 with h2 | h2
      · simp at h2
      · simpa using h2
    simp [idx, this]
  | x :: s, k + 1, h, h1, h2 => by
    have hx : x ≠ c := by simpa using h1 0 (by omega)
    rw [idx, if_neg hx, idx_eq (s := s) (k := k) (by simpa using h) (fun j hj => by simpa using h1 (j + 1) (by omega)) (by simpa using h2)]
theorem idx_append {c : UInt8} {a b : List UInt8} (h : c ∉ a) : idx c (a ++ c :: b) = a.length := by
  induction a with
  | nil => simp [idx]
  | cons x a ih =>
    simp only [List.mem_cons, not_or] at h
    simp only [List.cons_append, idx, List.length_cons]
    rw [if_neg (fun e => h.1 e.symm), ih h.2]
theorem idx_no {c : UInt8} {a : List UInt8} (h : c ∉ a) : idx c a = a.length := by
  induction a with
  | nil => rfl
  | cons x a ih =>
    simp only [List.mem_cons, not_or] at h
    simp only [idx, List.length_cons]
    rw [if_neg (fun e => h.1 e.symm), ih h.2]
theorem idx_before (c : UInt8) : ∀ (s : List UInt8), c ∉ s.take (idx c s)
  | [] => by simp [idx]
  | x :: s => by
    simp only [idx]; split
    · simp
    · rename_i h
      simp only [List.take_succ_cons, List.mem_cons, not_or]
      exact ⟨fun e => h e.symm, idx_before c s⟩
theorem idx_at (c : UInt8) : ∀ (s : List UInt8), idx c s < s.length → s.getD (idx c s) 0 = c
  | [], h => by simp at h
  | x :: s, h => by
    simp only [idx] at *; split
    · rename_i e; simp [e]
    · rename_i e; rw [if_neg e] at h; simp only [List.length_cons, Nat.add_lt_add_iff_right] at h; simpa using idx_at c s h

/-- A text's pieces at a byte. -/
def pieces (c : UInt8) : List UInt8 → List (List UInt8)
  | [] => [[]]
  | x :: s => if x = c then [] :: pieces c s else match pieces c s with | p :: ps => (x :: p) :: ps | [] => [[x]]
theorem pieces_ne (c : UInt8) (s : List UInt8) : pieces c s ≠ [] := by
  cases s with
  | nil => simp [pieces]
  | cons x s => simp only [pieces]; split; · simp
                · split <;> simp
theorem pieces_no {c : UInt8} {a : List UInt8} (h : c ∉ a) : pieces c a = [a] := by
  induction a with
  | nil => rfl
  | cons x a ih =>
    simp only [List.mem_cons, not_or] at h
    rw [pieces, if_neg (fun e => h.1 e.symm), ih h.2]
theorem pieces_hit {c : UInt8} {a b : List UInt8} (h : c ∉ a) : pieces c (a ++ c :: b) = a :: pieces c b := by
  induction a with
  | nil => simp [pieces]
  | cons x a ih =>
    simp only [List.mem_cons, not_or] at h
    rw [List.cons_append, pieces, if_neg (fun e => h.1 e.symm), ih h.2]
theorem pieces_append (c : UInt8) (a b : List UInt8) : pieces c (a ++ c :: b) = pieces c a ++ pieces c b := by
  induction a with
  | nil => simp [pieces]
  | cons x a ih =>
    simp only [List.cons_append, pieces]
    split
    · rw [ih]; rfl
    · rw [ih]
      cases hp : pieces c a with
      | nil => exact absurd hp (pieces_ne c a)
      | cons p ps => rfl
theorem pieces_length (c : UInt8) (s : List UInt8) : (pieces c s).length ≤ s.length + 1 := by
  induction s with
  | nil => simp [pieces]
  | cons x s ih =>
    simp only [pieces]; split
    · simp; omega
    · split
      · rename_i e; rw [e] at ih; simp at ih ⊢; omega
      · simp
theorem pieces_total (c : UInt8) (s : List UInt8) : ∀ p ∈ pieces c s, p.length ≤ s.length := by
  induction s with
  | nil => simp [pieces]
  | cons x s ih =>
    simp only [pieces]; split
    · intro p hp; rcases List.mem_cons.1 hp with rfl | hp
      · simp
      · have := ih p hp; simp; omega
    · split
      · rename_i p ps e
        intro q hq
        rw [e] at ih
        rcases List.mem_cons.1 hq with rfl | hq
        · have := ih p (List.mem_cons_self ..); simp; omega
        · have := ih q (List.mem_cons_of_mem _ hq); simp; omega
      · simp

/-! ### the library's words -/
theorem mem_take_of {c : UInt8} {s : List UInt8} {k : Nat} (h : ∀ j, j < k → s[j]? ≠ some c) : c ∉ s.take k := by
  intro hm
  obtain ⟨j, hj, e⟩ := List.mem_iff_getElem.1 hm
  simp only [List.length_take] at hj
  exact h j (by omega) (by rw [List.getElem?_eq_getElem (by omega)]; simpa using e)
theorem index_idx (s : List UInt8) (c : UInt8) : Lib.index s [c] = if idx c s < s.length then (idx c s : Int) else -1 := by
  rw [Lib.index_one]
  induction s with
  | nil => rfl
  | cons x s ih =>
    by_cases e : x = c
    · have e2 : idx c (x :: s) = 0 := by simp [idx, e]
      rw [e2, if_pos (by simp)]
      simp [Lib.indexByte, e]
    · have e2 : idx c (x :: s) = idx c s + 1 := by simp [idx, e]
      rw [e2, List.length_cons, Lib.indexByte, if_neg (by simpa using e), ih]
      by_cases h : idx c s < s.length
      · rw [if_pos h, if_neg (by simp), if_pos (by omega)]; omega
      · rw [if_neg h, if_pos (by decide), if_neg (by omega)]
theorem cut_idx (s : List UInt8) (c : UInt8) : Lib.cut s [c] = (s.take (idx c s), s.drop (idx c s + 1), decide (idx c s < s.length)) := by
  unfold Lib.cut
  rw [index_idx]
  by_cases h : idx c s < s.length
  · rw [if_pos h, if_pos (by omega)]; simp [h]
  · rw [if_neg h, if_neg (by omega)]
    have := idx_le c s
    rw [List.take_of_length_le (by omega), List.drop_eq_nil_of_le (by omega)]; simp [h]
theorem pieces_idx (c : UInt8) (s : List UInt8) : pieces c s = if idx c s < s.length then s.take (idx c s) :: pieces c (s.drop (idx c s + 1)) else [s] := by
  split
  · rename_i h
    conv => lhs; rw [← List.take_append_drop (idx c s) s, drop_getD h, idx_at c s h]
    exact pieces_hit (idx_before c s)
  · rename_i h
    have := idx_le c s
    have h2 := idx_before c s
    rw [List.take_of_length_le (by omega)] at h2
    exact pieces_no h2
theorem split_pieces (c : UInt8) : ∀ (n : Nat) (s : List UInt8), s.length ≤ n → Lib.splitK [c] 0 (Lib.count s [c]) s = pieces c s
  | n, s, hn => by
    rw [pieces_idx]
    by_cases h : idx c s < s.length
    · rw [if_pos h]
      have hi : Lib.index s [c] = (idx c s : Nat) := by rw [index_idx, if_pos h]
      rw [Lib.count_hit (by simp) hi, Nat.add_comm, Lib.splitK, if_neg (by rw [hi]; simp), hi]
      simp only [Int.toNat_natCast, Nat.add_zero, List.length_cons, List.length_nil, Nat.zero_add]
      match n, hn with
      | 0, hn => omega
      | n + 1, hn => rw [split_pieces c n _ (by simp; omega)]
    · have hi : Lib.index s [c] = -1 := by rw [index_idx, if_neg h]
      rw [if_neg h, Lib.count_miss hi]; rfl
theorem strMk (x : ByteArray) : (⟨x.data.toList.toArray⟩ : ByteArray) = x := by cases x; simp
/-- the row of pieces that strings.Split makes -/
theorem split_cells (s : List UInt8) (c : UInt8) : (Lib.splitB ⟨#[c]⟩ 0 (Lib.countB ⟨s.toArray⟩ ⟨#[c]⟩) ⟨s.toArray⟩).map Value.string = (pieces c s).map fun p => Value.string ⟨p.toArray⟩ := by
  have h := Lib.splitB_data ⟨#[c]⟩ 0 (Lib.countB ⟨s.toArray⟩ ⟨#[c]⟩) ⟨s.toArray⟩
  have h2 : (Lib.splitB ⟨#[c]⟩ 0 (Lib.countB ⟨s.toArray⟩ ⟨#[c]⟩) ⟨s.toArray⟩).map (·.data.toList) = pieces c s := by
    rw [h]; exact split_pieces c _ s (Nat.le_refl _)
  rw [← h2, List.map_map]
  apply List.map_congr_left
  intro x _
  simp
theorem split_count (s : List UInt8) (c : UInt8) : Lib.countB ⟨s.toArray⟩ ⟨#[c]⟩ + 1 = (pieces c s).length := by
  have h := Lib.splitB_data ⟨#[c]⟩ 0 (Lib.countB ⟨s.toArray⟩ ⟨#[c]⟩) ⟨s.toArray⟩
  have h3 : Lib.splitK [c] 0 (Lib.countB ⟨s.toArray⟩ ⟨#[c]⟩) s = pieces c s := split_pieces c _ s (Nat.le_refl _)
  have h4 := Lib.splitB_all ⟨#[c]⟩ (Nat.le_refl 1) 0 _ ⟨s.toArray⟩ rfl
  rw [← h4, ← List.length_map (f := fun (x : ByteArray) => x.data.toList), h]
  exact congrArg List.length h3
end Go.Txt
