/-
  The plain laws of forms: what is written is read; forms side by side. No program stands here.
-/
import Derived.Test.YtopgbidgdfmddaaDoorPctP
namespace Go.Pct
open Go.Txt

theorem each_length {by1 : UInt8 → Bool → List UInt8} (h1 : ∀ c, (by1 c false).length ≤ 1) (h2 : ∀ c, (by1 c true).length ≤ 3) : ∀ (n : Nat) (s t : List UInt8), s.length ≤ n → each by1 s = some t → t.length ≤ s.length
  | _, [], t, _, h => by simp [each] at h; subst h; simp
  | 0, c :: r, t, hn, _ => by simp at hn
  | n + 1, c :: r, t, hn, h => by
    rw [each_cons] at h
    split at h
    · cases ht : told r with
      | none => rw [ht] at h; cases h
      | some x =>
        obtain ⟨d, r'⟩ := x
        rw [ht] at h
        simp only at h
        have hr : r'.length + 2 = r.length := by
          match r, ht with
          | a :: b :: r, ht => simp only [told, Option.map_eq_some_iff, Prod.mk.injEq] at ht; obtain ⟨_, _, _, rfl⟩ := ht; simp
        obtain ⟨u, hu, rfl⟩ := Option.map_eq_some_iff.1 h
        have := each_length h1 h2 n r' u (by simp at hn; omega) hu
        have := h2 d
        simp; omega
    · obtain ⟨u, hu, rfl⟩ := Option.map_eq_some_iff.1 h
      have := each_length h1 h2 n r u (by simpa using hn) hu
      have := h1 c
      simp; omega
theorem normal_length {s t : List UInt8} (h : normal s = some t) : t.length ≤ s.length := each_length (by1 := byNorm) (fun c => by simp [byNorm]) (fun c => byNorm_length c true) _ s t (Nat.le_refl _) h
theorem gaps : ∀ j, j < 10 → ([38, 38, 38, 38, 38, 38, 38, 38, 38, 38] : List UInt8).take (1 + j) = List.replicate (j + 1) 38 := by decide
theorem not_mem_of_all {d : UInt8} {s : List UInt8} (h : s.all (fun c => c == 37 || plainB c) = true) (hd : d = 38 ∨ d = 61) : d ∉ s := by
  intro hm
  have := List.all_eq_true.1 h d hm
  rcases hd with rfl | rfl <;> revert this <;> decide +kernel
theorem w1_amp (p : Pr) : (38 : UInt8) ∉ w1 p := by
  have h1 := not_mem_of_all (d := 38) (enc_bytes p.1) (.inl rfl)
  have h2 := not_mem_of_all (d := 38) (enc_bytes p.2) (.inl rfl)
  simp only [w1, List.mem_append, List.mem_cons, not_or]
  exact ⟨h1, by decide, h2⟩
theorem pieces_write : ∀ (l : List Pr) (p : Pr), pieces 38 (w1 p ++ l.flatMap (fun q => 38 :: w1 q)) = (p :: l).map w1
  | [], p => by simp [pieces_no (w1_amp p)]
  | q :: l, p => by
    rw [List.flatMap_cons, List.cons_append, pieces_hit (w1_amp p), pieces_write l q]; rfl
theorem pairOf_w1 (p : Pr) : pairOf (w1 p) = some p := by
  have h1 := not_mem_of_all (d := 61) (enc_bytes p.1) (.inr rfl)
  have hi : idx 61 (w1 p) = (encode p.1).length := idx_append h1
  have e1 : (w1 p).take (encode p.1).length = encode p.1 := by simp [w1]
  have e2 : (w1 p).drop ((encode p.1).length + 1) = encode p.2 := by simp [w1]
  unfold pairOf
  rw [hi, e1, e2, decode_encode, decode_encode]
theorem w1_ne (p : Pr) : w1 p ≠ [] := by simp [w1]
theorem formGo_w1 : ∀ (l out : List Pr), out.length ≤ 32 → formGo (l.map w1) out = if out.length + l.length ≤ 32 then (out ++ l, 0) else ([], 5)
  | [], out, h => by simp [formGo, h]
  | p :: l, out, h => by
    simp only [List.map_cons, formGo]
    rw [if_neg (w1_ne p), pairOf_w1]
    by_cases h2 : 32 ≤ out.length
    · rw [if_pos h2, if_neg (by simp; omega)]
    · rw [if_neg h2]
      simp only
      rw [formGo_w1 l (out ++ [p]) (by simp; omega)]
      simp only [List.length_append, List.length_cons, List.length_nil, List.append_assoc, List.singleton_append]
      by_cases h3 : out.length + (l.length + 1) ≤ 32
      · rw [if_pos (by omega), if_pos h3]
      · rw [if_neg (by omega), if_neg h3]
/-- what is written as a form is read -/
theorem form_write (l : List Pr) : form (writeP l) = if l.length ≤ 32 then (l, 0) else ([], 5) := by
  cases l with
  | nil => rfl
  | cons p l =>
    unfold form writeP
    rw [pieces_write, formGo_w1 _ [] (by simp)]
    simp only [List.length_nil, Nat.zero_add, List.nil_append]

/-! ### side by side -/
theorem formGo_append : ∀ (l1 l2 : List (List UInt8)) (out r : List Pr), formGo l1 out = (r, 0) → formGo (l1 ++ l2) out = formGo l2 r
  | [], l2, out, r, h => by simp only [formGo, Prod.mk.injEq, and_true] at h; subst h; rfl
  | x :: l1, l2, out, r, h => by
    simp only [List.cons_append, formGo] at *
    split at h
    · rename_i hx; rw [if_pos hx]; exact formGo_append l1 l2 out r h
    · rename_i hx; rw [if_neg hx]
      split at h
      · cases h
      · rename_i hf; rw [if_neg hf]
        split at h
        · cases h
        · exact formGo_append l1 l2 _ r h
theorem formGo_from : ∀ (l : List (List UInt8)) (out r : List Pr), formGo l out = (r, 0) → ∃ b, r = out ++ b ∧ ∀ out' : List Pr, out'.length ≤ 32 → formGo l out' = if out'.length + b.length ≤ 32 then (out' ++ b, 0) else ([], 5)
  | [], out, r, h => by
    simp only [formGo, Prod.mk.injEq, and_true] at h; subst h
    exact ⟨[], by simp, fun out' h => by simp [formGo, h]⟩
  | x :: l, out, r, h => by
    simp only [formGo] at h
    split at h
    · rename_i hx
      obtain ⟨b, hb, hall⟩ := formGo_from l out r h
      exact ⟨b, hb, fun out' h' => by rw [formGo, if_pos hx]; exact hall out' h'⟩
    · rename_i hx
      split at h
      · cases h
      · split at h
        · cases h
        · rename_i p hp
          obtain ⟨b, hb, hall⟩ := formGo_from l _ r h
          refine ⟨p :: b, by rw [hb]; simp, fun out' h' => ?_⟩
          rw [formGo, if_neg hx]
          by_cases h2 : 32 ≤ out'.length
          · rw [if_pos h2, if_neg (by simp; omega)]
          · rw [if_neg h2, hp]
            simp only
            rw [hall (out' ++ [p]) (by simp; omega)]
            simp only [List.length_append, List.length_cons, List.length_nil, List.append_assoc, List.singleton_append]
            by_cases h3 : out'.length + (b.length + 1) ≤ 32
            · rw [if_pos (by omega), if_pos h3]
            · rw [if_neg (by omega), if_neg h3]
theorem formGo_gap (n : Nat) (l : List (List UInt8)) (out : List Pr) : formGo (List.replicate n [] ++ l) out = formGo l out := by
  induction n with
  | zero => rfl
  | succ n ih => rw [List.replicate_succ, List.cons_append, formGo, if_pos rfl, ih]
theorem pieces_gap (n : Nat) (t : List UInt8) : pieces 38 (List.replicate n 38 ++ t) = List.replicate n [] ++ pieces 38 t := by
  induction n with
  | zero => rfl
  | succ n ih => simp only [List.replicate_succ, List.cons_append, pieces]; rw [if_pos trivial, ih]
/-- forms side by side are their pairs side by side -/
theorem form_joins {s t : List UInt8} {a b : List Pr} (n : Nat) (ha : form s = (a, 0)) (hb : form t = (b, 0)) : form (s ++ List.replicate (n + 1) 38 ++ t) = if a.length + b.length ≤ 32 then (a ++ b, 0) else ([], 5) := by
  unfold form at *
  have e : s ++ List.replicate (n + 1) 38 ++ t = s ++ 38 :: (List.replicate n 38 ++ t) := by simp [List.replicate_succ]
  have hal : a.length ≤ 32 := by have := form_short s; unfold form at this; rw [ha] at this; exact this
  rw [e, pieces_append, formGo_append _ _ _ _ ha, pieces_gap, formGo_gap]
  obtain ⟨b', hb', hall⟩ := formGo_from _ _ _ hb
  simp only [List.nil_append] at hb'
  subst hb'
  exact hall a hal
end Go.Pct
