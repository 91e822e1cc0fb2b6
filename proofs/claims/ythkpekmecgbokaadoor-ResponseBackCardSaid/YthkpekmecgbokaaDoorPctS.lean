/-
  Bytes as percents, plainly: what the functions of package pct compute. No program stands here.
-/
namespace Go.Pct

def lowS : List UInt8 := [48, 49, 50, 51, 52, 53, 54, 55, 56, 57, 97, 98, 99, 100, 101, 102]
def highS : List UInt8 := [48, 49, 50, 51, 52, 53, 54, 55, 56, 57, 65, 66, 67, 68, 69, 70]
def allS : List UInt8 := List.append [97, 98, 99, 100, 101, 102, 103, 104, 105, 106, 107, 108, 109, 110, 111, 112, 113, 114, 115, 116, 117, 118, 119, 120, 121, 122, 65, 66, 67, 68, 69, 70, 71] [72, 73, 74, 75, 76, 77, 78, 79, 80, 81, 82, 83, 84, 85, 86, 87, 88, 89, 90, 48, 49, 50, 51, 52, 53, 54, 55, 56, 57, 45, 46, 95, 126]

/-- A hexadecimal digit's value; below 0: it is none. -/
def digv (c : UInt8) : Int :=
  if 48 ≤ c.toNat ∧ c.toNat ≤ 57 then (c.toNat : Int) - 48 else if 97 ≤ c.toNat ∧ c.toNat ≤ 102 then (c.toNat : Int) - 87 else if 65 ≤ c.toNat ∧ c.toNat ≤ 70 then (c.toNat : Int) - 55 else -1
def plainB (c : UInt8) : Bool :=
  (97 ≤ c.toNat && c.toNat ≤ 122) || (65 ≤ c.toNat && c.toNat ≤ 90) || (48 ≤ c.toNat && c.toNat ≤ 57) || c.toNat == 45 || c.toNat == 46 || c.toNat == 95 || c.toNat == 126
def hexd (n : Nat) : UInt8 := highS.getD n 0
def pctOf (c : UInt8) : List UInt8 := [37, hexd (c.toNat / 16), hexd (c.toNat % 16)]
def enc1 (c : UInt8) : List UInt8 := if plainB c then [c] else pctOf c
def encode (s : List UInt8) : List UInt8 := s.flatMap enc1
/-- The byte that two digits tell. -/
def told2 (a b : UInt8) : Option UInt8 := if digv a < 0 ∨ digv b < 0 then none else some (UInt8.ofNat (16 * digv a + digv b).toNat)
/-- The byte that the percent at the head of a text tells (the text behind the percent). -/
def told : List UInt8 → Option (UInt8 × List UInt8)
  | a :: b :: r => (told2 a b).map (·, r)
  | _ => none
/-- Through a text: a byte that stands as itself, and one that a percent tells, each turned. -/
def each (by1 : UInt8 → Bool → List UInt8) : List UInt8 → Option (List UInt8)
  | [] => some []
  | [c] => if c = 37 then none else some (by1 c false)
  | [c, d] => if c = 37 then none else if d = 37 then none else some (by1 c false ++ by1 d false)
  | c :: a :: b :: r =>
    if c = 37 then (match told2 a b with
      | some d => (each by1 r).map (by1 d true ++ ·)
      | none => none)
    else (each by1 (a :: b :: r)).map (by1 c false ++ ·)
def byDec (plus : Bool) (c : UInt8) (pc : Bool) : List UInt8 := if plus && !pc && c = 43 then [32] else [c]
def byNorm (c : UInt8) (pc : Bool) : List UInt8 := if pc && !plainB c then pctOf c else [c]
def decode (plus : Bool) (s : List UInt8) : Option (List UInt8) := each (byDec plus) s
def normal (s : List UInt8) : Option (List UInt8) := each byNorm s

/-! ### all bytes -/
theorem all_bytes {p : UInt8 → Prop} (h : ∀ i : Fin 256, p (UInt8.ofNat i.val)) (c : UInt8) : p c := by
  have := h ⟨c.toNat, c.toNat_lt⟩
  simpa using this
theorem digv_find (c : UInt8) : (∀ i, i < 16 → (lowS.getD i 0 = c ∨ highS.getD i 0 = c) → digv c = i) ∧ ((∀ i, i < 16 → ¬ (lowS.getD i 0 = c ∨ highS.getD i 0 = c)) → digv c = -1) := by
  revert c; apply all_bytes; decide +kernel
theorem plain_find (c : UInt8) : (∀ i, i < 66 → allS.getD i 0 = c → plainB c = true) ∧ ((∀ i, i < 66 → ¬ allS.getD i 0 = c) → plainB c = false) := by
  revert c; apply all_bytes; decide +kernel
theorem digv_bound (c : UInt8) : -1 ≤ digv c ∧ digv c ≤ 15 := by revert c; apply all_bytes; decide +kernel
theorem allS_length : allS.length = 66 := by decide

theorem drop_getD {s : List UInt8} {i : Nat} (h : i < s.length) : s.drop i = s.getD i 0 :: s.drop (i + 1) := by
  rw [List.drop_eq_getElem_cons h]; simp [h]
theorem take_getD {s : List UInt8} {i : Nat} (h : i < s.length) : s.take (i + 1) = s.take i ++ [s.getD i 0] := by
  rw [List.take_succ_eq_append_getElem h]; simp [h]
theorem slice_one {s : List UInt8} {i : Nat} (h : i < s.length) : (s.drop i).take (i + 1 - i) = [s.getD i 0] := by
  rw [drop_getD h, show i + 1 - i = 1 from by omega]; rfl

/-! ### encode -/
theorem encode_append (a b : List UInt8) : encode (a ++ b) = encode a ++ encode b := by simp [encode]
theorem encode_succ {s : List UInt8} {i : Nat} (h : i < s.length) : encode (s.take (i + 1)) = encode (s.take i) ++ enc1 (s.getD i 0) := by
  rw [take_getD h, encode_append]; simp [encode]
theorem enc1_length (c : UInt8) : 1 ≤ (enc1 c).length ∧ (enc1 c).length ≤ 3 := by unfold enc1; split <;> simp [pctOf]
theorem encode_length (s : List UInt8) : s.length ≤ (encode s).length ∧ (encode s).length ≤ 3 * s.length := by
  induction s with
  | nil => simp [encode]
  | cons c s ih => have := enc1_length c; simp only [encode, List.flatMap_cons, List.length_append, List.length_cons] at *; omega

/-! ### told -/
def toldI (s : List UInt8) (i : Nat) : Int := match told (s.drop (i + 1)) with | some (d, _) => d.toNat | none => -1
theorem told_short {s : List UInt8} {i : Nat} (h : s.length ≤ i + 2) : told (s.drop (i + 1)) = none := by
  have : (s.drop (i + 1)).length ≤ 1 := by simp; omega
  match hd : s.drop (i + 1) with
  | [] => rfl
  | [_] => rfl
  | _ :: _ :: _ => rw [hd] at this; simp at this
theorem told_long {s : List UInt8} {i : Nat} (h : i + 2 < s.length) : told (s.drop (i + 1)) = (told2 (s.getD (i + 1) 0) (s.getD (i + 2) 0)).map (·, s.drop (i + 3)) := by
  rw [drop_getD (by omega : i + 1 < s.length), drop_getD (by omega : i + 1 + 1 < s.length)]; rfl
theorem told2_toNat (a b : UInt8) : (∀ d, told2 a b = some d → (d.toNat : Int) = 16 * digv a + digv b ∧ 0 ≤ digv a ∧ 0 ≤ digv b) ∧ (told2 a b = none → digv a < 0 ∨ digv b < 0) := by
  have h1 := digv_bound a
  have h2 := digv_bound b
  unfold told2
  constructor
  · intro d
    split
    · intro h; cases h
    · rename_i h
      rw [not_or] at h
      intro e
      have : d = UInt8.ofNat (16 * digv a + digv b).toNat := by injection e with e; exact e.symm
      rw [this]
      have h3 : (16 * digv a + digv b).toNat < 256 := by omega
      have h4 : (UInt8.ofNat (16 * digv a + digv b).toNat).toNat = (16 * digv a + digv b).toNat := by simp [Nat.mod_eq_of_lt h3]
      rw [h4]; omega
  · split
    · intro _; assumption
    · intro h; cases h
theorem toldI_short {s : List UInt8} {i : Nat} (h : s.length ≤ i + 2) : toldI s i = -1 := by unfold toldI; rw [told_short h]
theorem toldI_no {s : List UInt8} {i : Nat} (h : i + 2 < s.length) (hd : digv (s.getD (i + 1) 0) < 0 ∨ digv (s.getD (i + 2) 0) < 0) : toldI s i = -1 := by
  unfold toldI; rw [told_long h, told2, if_pos hd]; rfl
theorem toldI_yes {s : List UInt8} {i : Nat} (h : i + 2 < s.length) (hd : 0 ≤ digv (s.getD (i + 1) 0) ∧ 0 ≤ digv (s.getD (i + 2) 0)) : toldI s i = 16 * digv (s.getD (i + 1) 0) + digv (s.getD (i + 2) 0) := by
  have := (told2_toNat (s.getD (i + 1) 0) (s.getD (i + 2) 0))
  unfold toldI; rw [told_long h]
  cases ht : told2 (s.getD (i + 1) 0) (s.getD (i + 2) 0) with
  | none => have := this.2 ht; omega
  | some d => have := (this.1 d ht).1; simpa using this
theorem toldI_bound (s : List UInt8) (i : Nat) : -1 ≤ toldI s i ∧ toldI s i ≤ 255 := by
  unfold toldI; split
  · rename_i d _ _; have := d.toNat_lt; omega
  · omega
/-- what a percent tells, as the number says -/
theorem told_neg {s : List UInt8} {i : Nat} (h : toldI s i < 0) : told (s.drop (i + 1)) = none := by
  unfold toldI at h
  cases ht : told (s.drop (i + 1)) with
  | none => rfl
  | some x => rw [ht] at h; simp at h; omega
theorem told_pos {s : List UInt8} {i : Nat} (h : 0 ≤ toldI s i) : i + 2 < s.length ∧ told (s.drop (i + 1)) = some (UInt8.ofNat (toldI s i).toNat, s.drop (i + 3)) := by
  by_cases hl : i + 2 < s.length
  · refine ⟨hl, ?_⟩
    unfold toldI at *
    rw [told_long hl] at *
    cases ht : told2 (s.getD (i + 1) 0) (s.getD (i + 2) 0) with
    | none => rw [ht] at h; simp at h
    | some d => simp
  · rw [toldI_short (by omega)] at h; omega

/-! ### each -/
theorem each_cons (by1 : UInt8 → Bool → List UInt8) (c : UInt8) (r : List UInt8) : each by1 (c :: r) = if c = 37 then (match told r with | some (d, r') => (each by1 r').map (by1 d true ++ ·) | none => none) else (each by1 r).map (by1 c false ++ ·) := by
  match r with
  | [] => simp [each, told]
  | [d] => by_cases h : c = 37 <;> by_cases h' : d = 37 <;> simp [each, told, h, h']
  | a :: b :: r =>
    simp only [each, told]
    split
    · cases told2 a b <;> rfl
    · rfl
theorem each_at {by1 : UInt8 → Bool → List UInt8} {s : List UInt8} {i : Nat} (h : i < s.length) : each by1 (s.drop i) = if s.getD i 0 = 37 then (match told (s.drop (i + 1)) with | some (d, r') => (each by1 r').map (by1 d true ++ ·) | none => none) else (each by1 (s.drop (i + 1))).map (by1 (s.getD i 0) false ++ ·) := by
  rw [drop_getD h, each_cons]
/-- .. as far as it has been gone through -/
def EachAt (by1 : UInt8 → Bool → List UInt8) (s : List UInt8) (i : Nat) (out : List UInt8) : Prop := i ≤ s.length ∧ each by1 s = (each by1 (s.drop i)).map (out ++ ·) ∧ out.length ≤ i
theorem eachAt_start (by1 : UInt8 → Bool → List UInt8) (s : List UInt8) : EachAt by1 s 0 [] := ⟨Nat.zero_le _, by simp, by simp⟩
theorem eachAt_plain {by1 : UInt8 → Bool → List UInt8} {s : List UInt8} {i : Nat} {out : List UInt8} (h : EachAt by1 s i out) (hi : i < s.length) (hc : s.getD i 0 ≠ 37) (hb : (by1 (s.getD i 0) false).length ≤ 1) : EachAt by1 s (i + 1) (out ++ by1 (s.getD i 0) false) := by
  refine ⟨hi, ?_, by have := h.2.2; rw [List.length_append]; omega⟩
  rw [h.2.1, each_at hi, if_neg hc]
  simp [Option.map_map, Function.comp_def]
theorem eachAt_told {by1 : UInt8 → Bool → List UInt8} {s : List UInt8} {i : Nat} {out : List UInt8} (h : EachAt by1 s i out) (hi : i < s.length) (hc : s.getD i 0 = 37) (ht : 0 ≤ toldI s i) (hb : ∀ d, (by1 d true).length ≤ 3) : EachAt by1 s (i + 3) (out ++ by1 (UInt8.ofNat (toldI s i).toNat) true) := by
  obtain ⟨h1, h2⟩ := told_pos ht
  refine ⟨by omega, ?_, by have := h.2.2; have := hb (UInt8.ofNat (toldI s i).toNat); rw [List.length_append]; omega⟩
  rw [h.2.1, each_at hi, if_pos hc, h2]
  simp [Option.map_map, Function.comp_def]
theorem eachAt_bad {by1 : UInt8 → Bool → List UInt8} {s : List UInt8} {i : Nat} {out : List UInt8} (h : EachAt by1 s i out) (hi : i < s.length) (hc : s.getD i 0 = 37) (ht : toldI s i < 0) : each by1 s = none := by
  rw [h.2.1, each_at hi, if_pos hc, told_neg ht]; rfl
theorem eachAt_end {by1 : UInt8 → Bool → List UInt8} {s : List UInt8} {i : Nat} {out : List UInt8} (h : EachAt by1 s i out) (hi : s.length ≤ i) : each by1 s = some out := by
  rw [h.2.1, List.drop_eq_nil_of_le hi]; simp [each]
theorem byDec_length (plus : Bool) (c : UInt8) (b : Bool) : (byDec plus c b).length ≤ 1 := by unfold byDec; split <;> simp
theorem byNorm_length (c : UInt8) (b : Bool) : (byNorm c b).length ≤ 3 := by unfold byNorm; split <;> simp [pctOf]
end Go.Pct
