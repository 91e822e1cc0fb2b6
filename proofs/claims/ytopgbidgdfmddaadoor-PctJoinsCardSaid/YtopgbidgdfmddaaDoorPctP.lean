/-
  The plain laws of percents and forms. No program stands here.
-/
import Derived.Test.YtopgbidgdfmddaaDoorPctT
namespace Go.Pct
open Go.Txt

/-! ### what is encoded is decoded -/
theorem enc1_all (c : UInt8) : (enc1 c).all (fun d => d == 37 || plainB d) = true := by revert c; apply all_bytes; decide +kernel
theorem enc_bytes (s : List UInt8) : (encode s).all (fun d => d == 37 || plainB d) = true := by
  induction s with
  | nil => rfl
  | cons c s ih => simp only [encode, List.flatMap_cons, List.all_append, Bool.and_eq_true] at *; exact ⟨enc1_all c, ih⟩
theorem told2_hex (c : UInt8) : told2 (hexd (c.toNat / 16)) (hexd (c.toNat % 16)) = some c := by revert c; apply all_bytes; decide +kernel
theorem plain_not (c : UInt8) (h : plainB c = true) : c ≠ 37 ∧ c ≠ 43 ∧ c ≠ 38 ∧ c ≠ 61 := by revert h; revert c; apply all_bytes; decide +kernel
theorem each_plain (by1 : UInt8 → Bool → List UInt8) (c : UInt8) (r : List UInt8) (h : c ≠ 37) : each by1 (c :: r) = (each by1 r).map (by1 c false ++ ·) := by rw [each_cons, if_neg h]
theorem each_pct (by1 : UInt8 → Bool → List UInt8) (c : UInt8) (r : List UInt8) : each by1 (pctOf c ++ r) = (each by1 r).map (by1 c true ++ ·) := by
  rw [pctOf, List.cons_append, each_cons, if_pos rfl]
  simp [told, told2_hex]
theorem decode_encode (plus : Bool) (s : List UInt8) : decode plus (encode s) = some s := by
  unfold decode
  induction s with
  | nil => rfl
  | cons c s ih =>
    simp only [encode, List.flatMap_cons] at *
    by_cases h : plainB c = true
    · rw [enc1, if_pos h, List.singleton_append, each_plain _ _ _ (plain_not c h).1, ih]
      simp [byDec, (plain_not c h).2.1]
    · rw [enc1, if_neg h, each_pct, ih]
      simp [byDec]

/-! ### a text's tokens -/
def tokens : List UInt8 → Option (List (UInt8 × Bool))
  | [] => some []
  | [c] => if c = 37 then none else some [(c, false)]
  | [c, d] => if c = 37 then none else if d = 37 then none else some [(c, false), (d, false)]
  | c :: a :: b :: r =>
    if c = 37 then (match told2 a b with
      | some d => (tokens r).map ((d, true) :: ·)
      | none => none)
    else (tokens (a :: b :: r)).map ((c, false) :: ·)
theorem tokens_cons (c : UInt8) (r : List UInt8) : tokens (c :: r) = if c = 37 then (match told r with | some (d, r') => (tokens r').map ((d, true) :: ·) | none => none) else (tokens r).map ((c, false) :: ·) := by
  match r with
  | [] => by_cases h : c = 37 <;> simp [tokens, told, h]
  | [d] => by_cases h : c = 37 <;> by_cases h' : d = 37 <;> simp [tokens, told, h, h']
  | a :: b :: r =>
    simp only [tokens, told]
    split
    · cases told2 a b <;> rfl
    · rfl
theorem told_shorter {r : List UInt8} {d : UInt8} {r' : List UInt8} (h : told r = some (d, r')) : r'.length < r.length := by
  match r, h with
  | a :: b :: r, ht => simp only [told, Option.map_eq_some_iff, Prod.mk.injEq] at ht; obtain ⟨_, _, _, rfl⟩ := ht; simp; omega
theorem each_tokens (by1 : UInt8 → Bool → List UInt8) : ∀ (n : Nat) (s : List UInt8), s.length ≤ n → each by1 s = (tokens s).map (fun l => l.flatMap fun p => by1 p.1 p.2)
  | _, [], _ => by simp [each, tokens]
  | 0, c :: r, h => by simp at h
  | n + 1, c :: r, h => by
    rw [each_cons, tokens_cons]
    split
    · cases ht : told r with
      | none => rfl
      | some x =>
        obtain ⟨d, r'⟩ := x
        have := told_shorter ht
        simp only
        rw [each_tokens by1 n r' (by simp at h; omega)]
        simp [Option.map_map, Function.comp_def]
    · rw [each_tokens by1 n r (by simpa using h)]
      simp [Option.map_map, Function.comp_def]
/-- a byte that stands as itself is no percent -/
def Good (l : List (UInt8 × Bool)) : Prop := ∀ p ∈ l, p.2 = false → p.1 ≠ 37
theorem tokens_good : ∀ (n : Nat) (s : List UInt8) (l : List (UInt8 × Bool)), s.length ≤ n → tokens s = some l → Good l
  | _, [], l, _, h => by simp [tokens] at h; subst h; simp [Good]
  | 0, c :: r, l, hn, _ => by simp at hn
  | n + 1, c :: r, l, hn, h => by
    rw [tokens_cons] at h
    split at h
    · cases ht : told r with
      | none => rw [ht] at h; cases h
      | some x =>
        obtain ⟨d, r'⟩ := x
        rw [ht] at h
        have := told_shorter ht
        obtain ⟨u, hu, rfl⟩ := Option.map_eq_some_iff.1 h
        have := tokens_good n r' u (by simp at hn; omega) hu
        intro p hp
        rcases List.mem_cons.1 hp with rfl | hp
        · intro h; cases h
        · exact this p hp
    · rename_i hc
      obtain ⟨u, hu, rfl⟩ := Option.map_eq_some_iff.1 h
      have := tokens_good n r u (by simpa using hn) hu
      intro p hp
      rcases List.mem_cons.1 hp with rfl | hp
      · intro _; exact hc
      · exact this p hp
theorem tokens_only : ∀ (n : Nat) (s : List UInt8) (l : List (UInt8 × Bool)), s.length ≤ n → tokens s = some l → s.all (fun d => d == 37 || plainB d) = true → ∀ p ∈ l, p.2 = false → plainB p.1 = true
  | _, [], l, _, h, _ => by simp [tokens] at h; subst h; simp
  | 0, c :: r, l, hn, _, _ => by simp at hn
  | n + 1, c :: r, l, hn, h, ho => by
    simp only [List.all_cons, Bool.and_eq_true] at ho
    rw [tokens_cons] at h
    split at h
    · cases ht : told r with
      | none => rw [ht] at h; cases h
      | some x =>
        obtain ⟨d, r'⟩ := x
        rw [ht] at h
        have hsh := told_shorter ht
        have hr' : r'.all (fun d => d == 37 || plainB d) = true := by
          match r, ht, ho with
          | a :: b :: r, ht, ho => simp only [told, Option.map_eq_some_iff, Prod.mk.injEq] at ht; obtain ⟨_, _, _, rfl⟩ := ht; simp only [List.all_cons, Bool.and_eq_true] at ho; exact ho.2.2.2
        obtain ⟨u, hu, rfl⟩ := Option.map_eq_some_iff.1 h
        have := tokens_only n r' u (by simp at hn; omega) hu hr'
        intro p hp
        rcases List.mem_cons.1 hp with rfl | hp
        · intro h; cases h
        · exact this p hp
    · rename_i hc
      obtain ⟨u, hu, rfl⟩ := Option.map_eq_some_iff.1 h
      have := tokens_only n r u (by simpa using hn) hu ho.2
      intro p hp
      rcases List.mem_cons.1 hp with rfl | hp
      · intro _; simpa [hc] using ho.1
      · exact this p hp
def rn (p : UInt8 × Bool) : UInt8 × Bool := (p.1, p.2 && !plainB p.1)
def nrm (l : List (UInt8 × Bool)) : List UInt8 := l.flatMap fun p => byNorm p.1 p.2
theorem tokens_plain (c : UInt8) (r : List UInt8) (h : c ≠ 37) : tokens (c :: r) = (tokens r).map ((c, false) :: ·) := by rw [tokens_cons, if_neg h]
theorem tokens_pct (c : UInt8) (r : List UInt8) : tokens (pctOf c ++ r) = (tokens r).map ((c, true) :: ·) := by
  rw [pctOf, List.cons_append, tokens_cons, if_pos rfl]
  simp [told, told2_hex]
theorem tokens_nrm (l : List (UInt8 × Bool)) (h : Good l) : tokens (nrm l) = some (l.map rn) := by
  induction l with
  | nil => rfl
  | cons p l ih =>
    have ih := ih (fun q hq => h q (List.mem_cons_of_mem _ hq))
    have hp := h p (List.mem_cons_self ..)
    obtain ⟨c, pc⟩ := p
    simp only [nrm, List.flatMap_cons, List.map_cons] at *
    cases pc with
    | false =>
      rw [show byNorm c false = [c] from by simp [byNorm], List.singleton_append, tokens_plain _ _ (hp rfl), ih]; simp [rn]
    | true =>
      by_cases hpl : plainB c = true
      · rw [show byNorm c true = [c] from by simp [byNorm, hpl], List.singleton_append, tokens_plain _ _ (plain_not c hpl).1, ih]; simp [rn, hpl]
      · rw [show byNorm c true = pctOf c from by simp [byNorm, hpl], tokens_pct, ih]; simp [rn, hpl]
theorem normal_tokens (s : List UInt8) : normal s = (tokens s).map nrm := each_tokens byNorm _ s (Nat.le_refl _)
theorem decode_tokens (s : List UInt8) : decode false s = (tokens s).map (·.map (·.1)) := by
  unfold decode
  rw [each_tokens _ _ s (Nat.le_refl _)]
  congr 1
  funext l
  induction l with
  | nil => rfl
  | cons p l ih => simp only [List.flatMap_cons, List.map_cons, ih]; simp [byDec]
theorem nrm_rn (l : List (UInt8 × Bool)) : nrm (l.map rn) = nrm l := by
  induction l with
  | nil => rfl
  | cons p l ih =>
    simp only [nrm, List.map_cons, List.flatMap_cons] at *
    rw [ih]
    congr 1
    obtain ⟨c, pc⟩ := p
    cases pc <;> by_cases h : plainB c = true <;> simp [byNorm, rn, h]
theorem fst_rn (l : List (UInt8 × Bool)) : (l.map rn).map (·.1) = l.map (·.1) := by simp [rn, Function.comp_def]
theorem nrm_encode (l : List (UInt8 × Bool)) (h : ∀ p ∈ l, p.2 = false → plainB p.1 = true) : nrm l = encode (l.map (·.1)) := by
  induction l with
  | nil => rfl
  | cons p l ih =>
    have ih := ih (fun q hq => h q (List.mem_cons_of_mem _ hq))
    have hp := h p (List.mem_cons_self ..)
    simp only [nrm, encode, List.map_cons, List.flatMap_cons] at *
    rw [ih]
    congr 1
    obtain ⟨c, pc⟩ := p
    cases pc with
    | false => simp [byNorm, enc1, hp rfl]
    | true => by_cases hpl : plainB c = true <;> simp [byNorm, enc1, hpl]
/-- Normal is one way of writing -/
theorem normal_law {s a : List UInt8} (h : normal s = some a) : ∃ x, normal a = some a ∧ decode false s = some x ∧ decode false a = some x ∧ (s.all (fun d => d == 37 || plainB d) = true → a = encode x) := by
  rw [normal_tokens] at h
  obtain ⟨l, hl, rfl⟩ := Option.map_eq_some_iff.1 h
  have hg := tokens_good _ s l (Nat.le_refl _) hl
  refine ⟨l.map (·.1), ?_, ?_, ?_, fun ho => ?_⟩
  · rw [normal_tokens, tokens_nrm l hg, Option.map_some, nrm_rn]
  · rw [decode_tokens, hl]; rfl
  · rw [decode_tokens, tokens_nrm l hg, Option.map_some, fst_rn]
  · exact nrm_encode l (tokens_only _ s l (Nat.le_refl _) hl ho)
end Go.Pct
