/-
  Texts of a proof, joined: PctS, TxtS, RspS, XmlS, EngA, EngB, EngC, EngD, EngE, EngF, EngG.
-/
import Derived.Lib.Split
import Derived.Lib.SplitLaws
import Derived.Lib.IndexLaws
import Derived.Lib.IndexBytes
import Derived.Lib.IndexMore
import Derived.Lib.Join
import Derived.Lib.Replace
import Derived.WalkKit
import Derived.WalkLawsBesides
import Derived.Below
import Derived.Orders
import Derived.Deep.Draws
import Derived.Deep.LoopGhost
import Derived.Scope
import Derived.MapKept
import Derived.WideMake
/-
  Bytes as percents, plainly: what the functions of package pct compute. No program stands here.
-/
namespace Go.Pct

def lowS : List UInt8 := [48, 49, 50, 51, 52, 53, 54, 55, 56, 57, 97, 98, 99, 100, 101, 102]
def highS : List UInt8 := [48, 49, 50, 51, 52, 53, 54, 55, 56, 57, 65, 66, 67, 68, 69, 70]
def allS : List UInt8 := List.append [97, 98, 99, 100, 101, 102, 103, 104, 105, 106, 107, 108, 109, 110, 111, 112, 113, 114, 115, 116, 117, 118, 119, 120, 121, 122, 65, 66, 67, 68, 69, 70, 71] [72, 73, 74, 75, 76, 77, 78, 79, 80, 81, 82, 83, 84, 85, 86, 87, 88, 89, 90, 48, 49, 50, 51, 52, 53, 54, 55, 56, 57, 45, 46, 95, 126]

/-- A hexadecimal digit's value; below 0: it is none. -/
def digv (c : UInt8) : Int :=
  if 48 ≤ c.toNat ∧ c.toNat ≤ 57 then (c.toNat : Int) - 48 else if 97 ≤ c.toNat ∧ c.toNat ≤ 102 then (c.toNat : Int) - 87 else if 65 ≤ c.toNat ∧ c.toNat ≤ 70 then (c.toNat : Int) - 55 else -1
def plainB (c : UInt8) : Bool :=
  (97 ≤ c.toNat && c.toNat ≤ 122) || (65 ≤ c.toNat && c.toNat ≤ 90) || (48 ≤ c.toNat && c.toNat ≤ 57) || c.toNat == 45 || c.toNat == 46 || c.toNat == 95 || c.toNat == 126
def hexd (n : Nat) : UInt8 := highS.getD n 0
def pctOf (c : UInt8) : List UInt8 := [37, hexd (c.toNat / 16), hexd (c.toNat % 16)]
def enc1 (c : UInt8) : List UInt8 := if plainB c then [c] else pctOf c
def encode (s : List UInt8) : List UInt8 := s.flatMap enc1
/-- The byte that two digits tell. -/
def told2 (a b : UInt8) : Option UInt8 := if digv a < 0 ∨ digv b < 0 then none else some (UInt8.ofNat (16 * digv a + digv b).toNat)
/-- The byte that the percent at the head of a text tells (the text behind the percent). -/
def told : List UInt8 → Option (UInt8 × List UInt8)
  | a :: b :: r => (told2 a b).map (·, r)
  | _ => none
/-- Through a text: a byte that stands as itself, and one that a percent tells, each turned. -/
def each (by1 : UInt8 → Bool → List UInt8) : List UInt8 → Option (List UInt8)
  | [] => some []
  | [c] => if c = 37 then none else some (by1 c false)
  | [c, d] => if c = 37 then none else if d = 37 then none else some (by1 c false ++ by1 d false)
  | c :: a :: b :: r =>
    if c = 37 then (match told2 a b with
      | some d => (each by1 r).map (by1 d true ++ ·)
      | none => none)
    else (each by1 (a :: b :: r)).map (by1 c false ++ ·)
def byDec (plus : Bool) (c : UInt8) (pc : Bool) : List UInt8 := if plus && !pc && c = 43 then [32] else [c]
def byNorm (c : UInt8) (pc : Bool) : List UInt8 := if pc && !plainB c then pctOf c else [c]
def decode (plus : Bool) (s : List UInt8) : Option (List UInt8) := each (byDec plus) s
def normal (s : List UInt8) : Option (List UInt8) := each byNorm s

/-! ### all bytes -/
theorem all_bytes {p : UInt8 → Prop} (h : ∀ i : Fin 256, p (UInt8.ofNat i.val)) (c : UInt8) : p c := by
  have := h ⟨c.toNat, c.toNat_lt⟩
  simpa using this
theorem digv_find (c : UInt8) : (∀ i, i < 16 → (lowS.getD i 0 = c ∨ highS.getD i 0 = c) → digv c = i) ∧ ((∀ i, i < 16 → ¬ (lowS.getD i 0 = c ∨ highS.getD i 0 = c)) → digv c = -1) := by
  revert c; apply all_bytes; decide +kernel
theorem plain_find (c : UInt8) : (∀ i, i < 66 → allS.getD i 0 = c → plainB c = true) ∧ ((∀ i, i < 66 → ¬ allS.getD i 0 = c) → plainB c = false) := by
  revert c; apply all_bytes; decide +kernel
theorem digv_bound (c : UInt8) : -1 ≤ digv c ∧ digv c ≤ 15 := by revert c; apply all_bytes; decide +kernel
theorem allS_length : allS.length = 66 := by decide

theorem drop_getD {s : List UInt8} {i : Nat} (h : i < s.length) : s.drop i = s.getD i 0 :: s.drop (i + 1) := by
  rw [List.drop_eq_getElem_cons h]; simp [h]
theorem take_getD {s : List UInt8} {i : Nat} (h : i < s.length) : s.take (i + 1) = s.take i ++ [s.getD i 0] := by
  rw [List.take_succ_eq_append_getElem h]; simp [h]
theorem slice_one {s : List UInt8} {i : Nat} (h : i < s.length) : (s.drop i).take (i + 1 - i) = [s.getD i 0] := by
  rw [drop_getD h, show i + 1 - i = 1 from by omega]; rfl

/-! ### encode -/
theorem encode_append (a b : List UInt8) : encode (a ++ b) = encode a ++ encode b := by simp [encode]
theorem encode_succ {s : List UInt8} {i : Nat} (h : i < s.length) : encode (s.take (i + 1)) = encode (s.take i) ++ enc1 (s.getD i 0) := by
  rw [take_getD h, encode_append]; simp [encode]
theorem enc1_length (c : UInt8) : 1 ≤ (enc1 c).length ∧ (enc1 c).length ≤ 3 := by unfold enc1; split <;> simp [pctOf]
theorem encode_length (s : List UInt8) : s.length ≤ (encode s).length ∧ (encode s).length ≤ 3 * s.length := by
  induction s with
  | nil => simp [encode]
  | cons c s ih => have := enc1_length c; simp only [encode, List.flatMap_cons, List.length_append, List.length_cons] at *; omega

/-! ### told -/
def toldI (s : List UInt8) (i : Nat) : Int := match told (s.drop (i + 1)) with | some (d, _) => d.toNat | none => -1
theorem told_short {s : List UInt8} {i : Nat} (h : s.length ≤ i + 2) : told (s.drop (i + 1)) = none := by
  have : (s.drop (i + 1)).length ≤ 1 := by simp; omega
  match hd : s.drop (i + 1) with
  | [] => rfl
  | [_] => rfl
  | _ :: _ :: _ => rw [hd] at this; simp at this
theorem told_long {s : List UInt8} {i : Nat} (h : i + 2 < s.length) : told (s.drop (i + 1)) = (told2 (s.getD (i + 1) 0) (s.getD (i + 2) 0)).map (·, s.drop (i + 3)) := by
  rw [drop_getD (by omega : i + 1 < s.length), drop_getD (by omega : i + 1 + 1 < s.length)]; rfl
theorem told2_toNat (a b : UInt8) : (∀ d, told2 a b = some d → (d.toNat : Int) = 16 * digv a + digv b ∧ 0 ≤ digv a ∧ 0 ≤ digv b) ∧ (told2 a b = none → digv a < 0 ∨ digv b < 0) := by
  have h1 := digv_bound a
  have h2 := digv_bound b
  unfold told2
  constructor
  · intro d
    split
    · intro h; cases h
    · rename_i h
      rw [not_or] at h
      intro e
      have : d = UInt8.ofNat (16 * digv a + digv b).toNat := by injection e with e; exact e.symm
      rw [this]
      have h3 : (16 * digv a + digv b).toNat < 256 := by omega
      have h4 : (UInt8.ofNat (16 * digv a + digv b).toNat).toNat = (16 * digv a + digv b).toNat := by simp [Nat.mod_eq_of_lt h3]
      rw [h4]; omega
  · split
    · intro _; assumption
    · intro h; cases h
theorem toldI_short {s : List UInt8} {i : Nat} (h : s.length ≤ i + 2) : toldI s i = -1 := by unfold toldI; rw [told_short h]
theorem toldI_no {s : List UInt8} {i : Nat} (h : i + 2 < s.length) (hd : digv (s.getD (i + 1) 0) < 0 ∨ digv (s.getD (i + 2) 0) < 0) : toldI s i = -1 := by
  unfold toldI; rw [told_long h, told2, if_pos hd]; rfl
theorem toldI_yes {s : List UInt8} {i : Nat} (h : i + 2 < s.length) (hd : 0 ≤ digv (s.getD (i + 1) 0) ∧ 0 ≤ digv (s.getD (i + 2) 0)) : toldI s i = 16 * digv (s.getD (i + 1) 0) + digv (s.getD (i + 2) 0) := by
  have := (told2_toNat (s.getD (i + 1) 0) (s.getD (i + 2) 0))
  unfold toldI; rw [told_long h]
  cases ht : told2 (s.getD (i + 1) 0) (s.getD (i + 2) 0) with
  | none => have := this.2 ht; omega
  | some d => have := (this.1 d ht).1; simpa using this
theorem toldI_bound (s : List UInt8) (i : Nat) : -1 ≤ toldI s i ∧ toldI s i ≤ 255 := by
  unfold toldI; split
  · rename_i d _ _; have := d.toNat_lt; omega
  · omega
/-- what a percent tells, as the number says -/
theorem told_neg {s : List UInt8} {i : Nat} (h : toldI s i < 0) : told (s.drop (i + 1)) = none := by
  unfold toldI at h
  cases ht : told (s.drop (i + 1)) with
  | none => rfl
  | some x => rw [ht] at h; simp at h; omega
theorem told_pos {s : List UInt8} {i : Nat} (h : 0 ≤ toldI s i) : i + 2 < s.length ∧ told (s.drop (i + 1)) = some (UInt8.ofNat (toldI s i).toNat, s.drop (i + 3)) := by
  by_cases hl : i + 2 < s.length
  · refine ⟨hl, ?_⟩
    unfold toldI at *
    rw [told_long hl] at *
    cases ht : told2 (s.getD (i + 1) 0) (s.getD (i + 2) 0) with
    | none => rw [ht] at h; simp at h
    | some d => simp
  · rw [toldI_short (by omega)] at h; omega

/-! ### each -/
theorem each_cons (by1 : UInt8 → Bool → List UInt8) (c : UInt8) (r : List UInt8) : each by1 (c :: r) = if c = 37 then (match told r with | some (d, r') => (each by1 r').map (by1 d true ++ ·) | none => none) else (each by1 r).map (by1 c false ++ ·) := by
  match r with
  | [] => simp [each, told]
  | [d] => by_cases h : c = 37 <;> by_cases h' : d = 37 <;> simp [each, told, h, h']
  | a :: b :: r =>
    simp only [each, told]
    split
    · cases told2 a b <;> rfl
    · rfl
theorem each_at {by1 : UInt8 → Bool → List UInt8} {s : List UInt8} {i : Nat} (h : i < s.length) : each by1 (s.drop i) = if s.getD i 0 = 37 then (match told (s.drop (i + 1)) with | some (d, r') => (each by1 r').map (by1 d true ++ ·) | none => none) else (each by1 (s.drop (i + 1))).map (by1 (s.getD i 0) false ++ ·) := by
  rw [drop_getD h, each_cons]
/-- .. as far as it has been gone through -/
def EachAt (by1 : UInt8 → Bool → List UInt8) (s : List UInt8) (i : Nat) (out : List UInt8) : Prop := i ≤ s.length ∧ each by1 s = (each by1 (s.drop i)).map (out ++ ·) ∧ out.length ≤ i
theorem eachAt_start (by1 : UInt8 → Bool → List UInt8) (s : List UInt8) : EachAt by1 s 0 [] := ⟨Nat.zero_le _, by simp, by simp⟩
theorem eachAt_plain {by1 : UInt8 → Bool → List UInt8} {s : List UInt8} {i : Nat} {out : List UInt8} (h : EachAt by1 s i out) (hi : i < s.length) (hc : s.getD i 0 ≠ 37) (hb : (by1 (s.getD i 0) false).length ≤ 1) : EachAt by1 s (i + 1) (out ++ by1 (s.getD i 0) false) := by
  refine ⟨hi, ?_, by have := h.2.2; rw [List.length_append]; omega⟩
  rw [h.2.1, each_at hi, if_neg hc]
  simp [Option.map_map, Function.comp_def]
theorem eachAt_told {by1 : UInt8 → Bool → List UInt8} {s : List UInt8} {i : Nat} {out : List UInt8} (h : EachAt by1 s i out) (hi : i < s.length) (hc : s.getD i 0 = 37) (ht : 0 ≤ toldI s i) (hb : ∀ d, (by1 d true).length ≤ 3) : EachAt by1 s (i + 3) (out ++ by1 (UInt8.ofNat (toldI s i).toNat) true) := by
  obtain ⟨h1, h2⟩ := told_pos ht
  refine ⟨by omega, ?_, by have := h.2.2; have := hb (UInt8.ofNat (toldI s i).toNat); rw [List.length_append]; omega⟩
  rw [h.2.1, each_at hi, if_pos hc, h2]
  simp [Option.map_map, Function.comp_def]
theorem eachAt_bad {by1 : UInt8 → Bool → List UInt8} {s : List UInt8} {i : Nat} {out : List UInt8} (h : EachAt by1 s i out) (hi : i < s.length) (hc : s.getD i 0 = 37) (ht : toldI s i < 0) : each by1 s = none := by
  rw [h.2.1, each_at hi, if_pos hc, told_neg ht]; rfl
theorem eachAt_end {by1 : UInt8 → Bool → List UInt8} {s : List UInt8} {i : Nat} {out : List UInt8} (h : EachAt by1 s i out) (hi : s.length ≤ i) : each by1 s = some out := by
  rw [h.2.1, List.drop_eq_nil_of_le hi]; simp [each]
theorem byDec_length (plus : Bool) (c : UInt8) (b : Bool) : (byDec plus c b).length ≤ 1 := by unfold byDec; split <;> simp
theorem byNorm_length (c : UInt8) (b : Bool) : (byNorm c b).length ≤ 3 := by unfold byNorm; split <;> simp [pctOf]
end Go.Pct
/-
  Texts cut at a byte, plainly; what the library's words for it say in these words. No program stands here.
-/
namespace Go.Txt

theorem drop_getD {s : List UInt8} {i : Nat} (h : i < s.length) : s.drop i = s.getD i 0 :: s.drop (i + 1) := by
  rw [List.drop_eq_getElem_cons h]; simp [h]
theorem take_getD {s : List UInt8} {i : Nat} (h : i < s.length) : s.take (i + 1) = s.take i ++ [s.getD i 0] := by
  rw [List.take_succ_eq_append_getElem h]; simp [h]

/-- Where a byte first stands; the length: nowhere. -/
def idx (c : UInt8) : List UInt8 → Nat
  | [] => 0
  | x :: s => if x = c then 0 else idx c s + 1
theorem idx_le (c : UInt8) : ∀ s : List UInt8, idx c s ≤ s.length
  | [] => Nat.le_refl _
  | x :: s => by
    simp only [idx]; split
    · simp
    · have := idx_le c s; simp; omega
theorem idx_eq {c : UInt8} : ∀ {s : List UInt8} {k : Nat}, k ≤ s.length → (∀ j, j < k → s.getD j 0 ≠ c) → (k = s.length ∨ s.getD k 0 = c) → idx c s = k
  | [], k, h, _, _ => by simp at h; subst h; rfl
  | x :: s, 0, _, _, h2 => by
    have : x = c := by
      rcases h2 with h2 | h2
      · simp at h2
      · simpa using h2
    simp [idx, this]
  | x :: s, k + 1, h, h1, h2 => by
    have hx : x ≠ c := by simpa using h1 0 (by omega)
    rw [idx, if_neg hx, idx_eq (s := s) (k := k) (by simpa using h) (fun j hj => by simpa using h1 (j + 1) (by omega)) (by simpa using h2)]
theorem idx_append {c : UInt8} {a b : List UInt8} (h : c ∉ a) : idx c (a ++ c :: b) = a.length := by
  induction a with
  | nil => simp [idx]
  | cons x a ih =>
    simp only [List.mem_cons, not_or] at h
    simp only [List.cons_append, idx, List.length_cons]
    rw [if_neg (fun e => h.1 e.symm), ih h.2]
theorem idx_no {c : UInt8} {a : List UInt8} (h : c ∉ a) : idx c a = a.length := by
  induction a with
  | nil => rfl
  | cons x a ih =>
    simp only [List.mem_cons, not_or] at h
    simp only [idx, List.length_cons]
    rw [if_neg (fun e => h.1 e.symm), ih h.2]
theorem idx_before (c : UInt8) : ∀ (s : List UInt8), c ∉ s.take (idx c s)
  | [] => by simp [idx]
  | x :: s => by
    simp only [idx]; split
    · simp
    · rename_i h
      simp only [List.take_succ_cons, List.mem_cons, not_or]
      exact ⟨fun e => h e.symm, idx_before c s⟩
theorem idx_at (c : UInt8) : ∀ (s : List UInt8), idx c s < s.length → s.getD (idx c s) 0 = c
  | [], h => by simp at h
  | x :: s, h => by
    simp only [idx] at *; split
    · rename_i e; simp [e]
    · rename_i e; rw [if_neg e] at h; simp only [List.length_cons, Nat.add_lt_add_iff_right] at h; simpa using idx_at c s h

/-- A text's pieces at a byte. -/
def pieces (c : UInt8) : List UInt8 → List (List UInt8)
  | [] => [[]]
  | x :: s => if x = c then [] :: pieces c s else match pieces c s with | p :: ps => (x :: p) :: ps | [] => [[x]]
theorem pieces_ne (c : UInt8) (s : List UInt8) : pieces c s ≠ [] := by
  cases s with
  | nil => simp [pieces]
  | cons x s => simp only [pieces]; split; · simp
                · split <;> simp
theorem pieces_no {c : UInt8} {a : List UInt8} (h : c ∉ a) : pieces c a = [a] := by
  induction a with
  | nil => rfl
  | cons x a ih =>
    simp only [List.mem_cons, not_or] at h
    rw [pieces, if_neg (fun e => h.1 e.symm), ih h.2]
theorem pieces_hit {c : UInt8} {a b : List UInt8} (h : c ∉ a) : pieces c (a ++ c :: b) = a :: pieces c b := by
  induction a with
  | nil => simp [pieces]
  | cons x a ih =>
    simp only [List.mem_cons, not_or] at h
    rw [List.cons_append, pieces, if_neg (fun e => h.1 e.symm), ih h.2]
theorem pieces_append (c : UInt8) (a b : List UInt8) : pieces c (a ++ c :: b) = pieces c a ++ pieces c b := by
  induction a with
  | nil => simp [pieces]
  | cons x a ih =>
    simp only [List.cons_append, pieces]
    split
    · rw [ih]; rfl
    · rw [ih]
      cases hp : pieces c a with
      | nil => exact absurd hp (pieces_ne c a)
      | cons p ps => rfl
theorem pieces_length (c : UInt8) (s : List UInt8) : (pieces c s).length ≤ s.length + 1 := by
  induction s with
  | nil => simp [pieces]
  | cons x s ih =>
    simp only [pieces]; split
    · simp; omega
    · split
      · rename_i e; rw [e] at ih; simp at ih ⊢; omega
      · simp
theorem pieces_total (c : UInt8) (s : List UInt8) : ∀ p ∈ pieces c s, p.length ≤ s.length := by
  induction s with
  | nil => simp [pieces]
  | cons x s ih =>
    simp only [pieces]; split
    · intro p hp; rcases List.mem_cons.1 hp with rfl | hp
      · simp
      · have := ih p hp; simp; omega
    · split
      · rename_i p ps e
        intro q hq
        rw [e] at ih
        rcases List.mem_cons.1 hq with rfl | hq
        · have := ih p (List.mem_cons_self ..); simp; omega
        · have := ih q (List.mem_cons_of_mem _ hq); simp; omega
      · simp

/-! ### the library's words -/
theorem mem_take_of {c : UInt8} {s : List UInt8} {k : Nat} (h : ∀ j, j < k → s[j]? ≠ some c) : c ∉ s.take k := by
  intro hm
  obtain ⟨j, hj, e⟩ := List.mem_iff_getElem.1 hm
  simp only [List.length_take] at hj
  exact h j (by omega) (by rw [List.getElem?_eq_getElem (by omega)]; simpa using e)
theorem index_idx (s : List UInt8) (c : UInt8) : Lib.index s [c] = if idx c s < s.length then (idx c s : Int) else -1 := by
  rw [Lib.index_one]
  induction s with
  | nil => rfl
  | cons x s ih =>
    by_cases e : x = c
    · have e2 : idx c (x :: s) = 0 := by simp [idx, e]
      rw [e2, if_pos (by simp)]
      simp [Lib.indexByte, e]
    · have e2 : idx c (x :: s) = idx c s + 1 := by simp [idx, e]
      rw [e2, List.length_cons, Lib.indexByte, if_neg (by simpa using e), ih]
      by_cases h : idx c s < s.length
      · rw [if_pos h, if_neg (by simp), if_pos (by omega)]; omega
      · rw [if_neg h, if_pos (by decide), if_neg (by omega)]
theorem cut_idx (s : List UInt8) (c : UInt8) : Lib.cut s [c] = (s.take (idx c s), s.drop (idx c s + 1), decide (idx c s < s.length)) := by
  unfold Lib.cut
  rw [index_idx]
  by_cases h : idx c s < s.length
  · rw [if_pos h, if_pos (by omega)]; simp [h]
  · rw [if_neg h, if_neg (by omega)]
    have := idx_le c s
    rw [List.take_of_length_le (by omega), List.drop_eq_nil_of_le (by omega)]; simp [h]
theorem pieces_idx (c : UInt8) (s : List UInt8) : pieces c s = if idx c s < s.length then s.take (idx c s) :: pieces c (s.drop (idx c s + 1)) else [s] := by
  split
  · rename_i h
    conv => lhs; rw [← List.take_append_drop (idx c s) s, drop_getD h, idx_at c s h]
    exact pieces_hit (idx_before c s)
  · rename_i h
    have := idx_le c s
    have h2 := idx_before c s
    rw [List.take_of_length_le (by omega)] at h2
    exact pieces_no h2
theorem split_pieces (c : UInt8) : ∀ (n : Nat) (s : List UInt8), s.length ≤ n → Lib.splitK [c] 0 (Lib.count s [c]) s = pieces c s
  | n, s, hn => by
    rw [pieces_idx]
    by_cases h : idx c s < s.length
    · rw [if_pos h]
      have hi : Lib.index s [c] = (idx c s : Nat) := by rw [index_idx, if_pos h]
      rw [Lib.count_hit (by simp) hi, Nat.add_comm, Lib.splitK, if_neg (by rw [hi]; simp), hi]
      simp only [Int.toNat_natCast, Nat.add_zero, List.length_cons, List.length_nil, Nat.zero_add]
      match n, hn with
      | 0, hn => omega
      | n + 1, hn => rw [split_pieces c n _ (by simp; omega)]
    · have hi : Lib.index s [c] = -1 := by rw [index_idx, if_neg h]
      rw [if_neg h, Lib.count_miss hi]; rfl
theorem strMk (x : ByteArray) : (⟨x.data.toList.toArray⟩ : ByteArray) = x := by cases x; simp
/-- the row of pieces that strings.Split makes -/
theorem split_cells (s : List UInt8) (c : UInt8) : (Lib.splitB ⟨#[c]⟩ 0 (Lib.countB ⟨s.toArray⟩ ⟨#[c]⟩) ⟨s.toArray⟩).map Value.string = (pieces c s).map fun p => Value.string ⟨p.toArray⟩ := by
  have h := Lib.splitB_data ⟨#[c]⟩ 0 (Lib.countB ⟨s.toArray⟩ ⟨#[c]⟩) ⟨s.toArray⟩
  have h2 : (Lib.splitB ⟨#[c]⟩ 0 (Lib.countB ⟨s.toArray⟩ ⟨#[c]⟩) ⟨s.toArray⟩).map (·.data.toList) = pieces c s := by
    rw [h]; exact split_pieces c _ s (Nat.le_refl _)
  rw [← h2, List.map_map]
  apply List.map_congr_left
  intro x _
  simp
theorem split_count (s : List UInt8) (c : UInt8) : Lib.countB ⟨s.toArray⟩ ⟨#[c]⟩ + 1 = (pieces c s).length := by
  have h := Lib.splitB_data ⟨#[c]⟩ 0 (Lib.countB ⟨s.toArray⟩ ⟨#[c]⟩) ⟨s.toArray⟩
  have h3 : Lib.splitK [c] 0 (Lib.countB ⟨s.toArray⟩ ⟨#[c]⟩) s = pieces c s := split_pieces c _ s (Nat.le_refl _)
  have h4 := Lib.splitB_all ⟨#[c]⟩ (Nat.le_refl 1) 0 _ ⟨s.toArray⟩ rfl
  rw [← h4, ← List.length_map (f := fun (x : ByteArray) => x.data.toList), h]
  exact congrArg List.length h3
end Go.Txt
/-
  Headers' bytes, plainly: which texts are tokens, shown, alike. No program stands here.
-/
namespace Go.Rsp
open Go.Pct

def lowC (c : UInt8) : UInt8 := if 65 ≤ c.toNat ∧ c.toNat ≤ 90 then UInt8.ofNat (c.toNat + 32) else c
def alikeB (a b : List UInt8) : Bool := decide (a.map lowC = b.map lowC)
def tokC (c : UInt8) : Bool := (97 ≤ c.toNat && c.toNat ≤ 122) || (65 ≤ c.toNat && c.toNat ≤ 90) || (48 ≤ c.toNat && c.toNat ≤ 57) || c.toNat == 45
def tokenB (s : List UInt8) : Bool := s.all tokC && !s.isEmpty
def shownB (f : UInt8) (s : List UInt8) : Bool := s.all fun c => decide (f.toNat ≤ c.toNat) && decide (c.toNat ≤ 126)
theorem alike_no {a b : List UInt8} {i : Nat} (h : i < a.length) (hl : a.length = b.length) (hne : lowC (a.getD i 0) ≠ lowC (b.getD i 0)) : alikeB a b = false := by
  unfold alikeB
  rw [decide_eq_false_iff_not]
  intro e
  have := congrArg (fun l => l.getD i (0 : UInt8)) e
  simp [h, show i < b.length by omega] at this
  simp [h, show i < b.length by omega] at hne
  exact hne this
theorem alike_len {a b : List UInt8} (h : a.length ≠ b.length) : alikeB a b = false := by
  unfold alikeB
  rw [decide_eq_false_iff_not]
  intro e
  exact h (by simpa using congrArg List.length e)
theorem alike_yes {a b : List UInt8} (hl : a.length = b.length) (h : ∀ j, j < a.length → lowC (a.getD j 0) = lowC (b.getD j 0)) : alikeB a b = true := by
  unfold alikeB
  rw [decide_eq_true_iff]
  apply List.ext_getElem (by simpa using hl)
  intro j h1 h2
  have := h j (by simpa using h1)
  have h3 : j < a.length := by simpa using h1
  have h4 : j < b.length := by omega
  simpa [h3, h4] using this
theorem all_no {p : UInt8 → Bool} {s : List UInt8} {i : Nat} (h : i < s.length) (hn : p (s.getD i 0) = false) : s.all p = false := by
  rw [Bool.eq_false_iff]
  intro ha
  have := List.all_eq_true.1 ha (s.getD i 0) (by
    have e : s.getD i 0 = s[i] := by simp [h]
    rw [e]; exact List.getElem_mem _)
  rw [hn] at this; cases this
theorem all_yes {p : UInt8 → Bool} {s : List UInt8} (h : ∀ j, j < s.length → p (s.getD j 0) = true) : s.all p = true := by
  rw [List.all_eq_true]
  intro c hc
  obtain ⟨j, hj, rfl⟩ := List.mem_iff_getElem.1 hc
  have := h j hj
  simpa [hj] using this
end Go.Rsp
/-
  Texts in elements, plainly: what is escaped, names, what is shown. No program stands here.
-/
namespace Go.Xml
open Go.Pct

/-- a byte as it is escaped -/
def mk (c : UInt8) : Option (List UInt8) :=
  if c = 38 then some [38, 97, 109, 112, 59] else if c = 60 then some [38, 108, 116, 59] else if c = 62 then some [38, 103, 116, 59] else if c = 34 then some [38, 113, 117, 111, 116, 59] else if c = 39 then some [38, 35, 51, 57, 59] else none
def esc1 (c : UInt8) : List UInt8 := (mk c).getD [c]
def esc (s : List UInt8) : List UInt8 := s.flatMap esc1
def badC (c : UInt8) : Bool := c == 60 || c == 62 || c == 34 || c == 39
/-- the bytes that are escaped, in the order of the text -/
def marksT : List (List UInt8 × List UInt8) := [([38], [38, 97, 109, 112, 59]), ([60], [38, 108, 116, 59]), ([62], [38, 103, 116, 59]), ([34], [38, 113, 117, 111, 116, 59]), ([39], [38, 35, 51, 57, 59])]
def marksC : List UInt8 := [38, 60, 62, 34, 39]
/-- which escape a text begins with; -1: none -/
def whichGo (s : List UInt8) : List (List UInt8 × List UInt8) → Nat → Int
  | [], _ => -1
  | m :: r, i => if m.2.isPrefixOf s = true then (i : Int) else whichGo s r (i + 1)
def which (s : List UInt8) : Int := whichGo s marksT 0
def unesc : Nat → List UInt8 → Option (List UInt8)
  | 0, _ => some []
  | _ + 1, [] => some []
  | n + 1, c :: r => if badC c = true then none else if c = 38 then
      (if which (c :: r) < 0 then none else (unesc n ((c :: r).drop (marksT.getD (which (c :: r)).toNat default).2.length)).map ((marksT.getD (which (c :: r)).toNat default).1 ++ ·))
    else (unesc n r).map (c :: ·)
def unescQ (s : List UInt8) : Option (List UInt8) := unesc s.length s
theorem which_range (s : List UInt8) : -1 ≤ which s ∧ which s < 5 := by
  unfold which marksT
  simp only [whichGo]
  repeat' split
  all_goals omega
theorem mark_len : ∀ i, i < 5 → 4 ≤ (marksT.getD i default).2.length ∧ (marksT.getD i default).2.length ≤ 6 ∧ (marksT.getD i default).1.length = 1 := by decide
theorem unesc_fuel : ∀ (n m : Nat) (s : List UInt8), s.length ≤ n → s.length ≤ m → unesc n s = unesc m s
  | 0, 0, s, _, _ => rfl
  | 0, m + 1, s, h, _ => by
    have : s = [] := List.eq_nil_of_length_eq_zero (by omega)
    subst this; rfl
  | n + 1, 0, s, _, h => by
    have : s = [] := List.eq_nil_of_length_eq_zero (by omega)
    subst this; rfl
  | n + 1, m + 1, [], _, _ => rfl
  | n + 1, m + 1, c :: r, h1, h2 => by
    simp only [List.length_cons] at h1 h2
    rw [unesc, unesc]
    have hw := which_range (c :: r)
    split
    · rfl
    split
    · split
      · rfl
      · have hl := (mark_len (which (c :: r)).toNat (by omega)).1
        rw [unesc_fuel n m _ (by rw [List.length_drop, List.length_cons]; omega) (by rw [List.length_drop, List.length_cons]; omega)]
    · rw [unesc_fuel n m r (by omega) (by omega)]
theorem unescQ_nil : unescQ [] = some [] := rfl
theorem unescQ_cons (c : UInt8) (r : List UInt8) : unescQ (c :: r) = if badC c = true then none else if c = 38 then
      (if which (c :: r) < 0 then none else (unescQ ((c :: r).drop (marksT.getD (which (c :: r)).toNat default).2.length)).map ((marksT.getD (which (c :: r)).toNat default).1 ++ ·))
    else (unescQ r).map (c :: ·) := by
  unfold unescQ
  rw [List.length_cons, unesc]
  have hw := which_range (c :: r)
  split
  · rfl
  split
  · split
    · rfl
    · have hl := (mark_len (which (c :: r)).toNat (by omega)).1
      rw [unesc_fuel r.length _ _ (by rw [List.length_drop, List.length_cons]; omega) (Nat.le_refl _)]
  · rfl
theorem unescQ_plain (a r : List UInt8) (h : ∀ c ∈ a, badC c = false ∧ c ≠ 38) : unescQ (a ++ r) = (unescQ r).map (a ++ ·) := by
  induction a with
  | nil => simp
  | cons c a ih =>
    obtain ⟨h1, h2⟩ := h c (List.mem_cons_self ..)
    rw [List.cons_append, unescQ_cons, if_neg (by rw [h1]; decide), if_neg h2, ih (fun d hd => h d (List.mem_cons_of_mem _ hd))]
    simp [Option.map_map, Function.comp_def]
/-- an escape's bytes are none of the marks but the first -/
theorem mark_bytes : ∀ i, i < 5 → ∀ c ∈ (marksT.getD i default).2, badC c = false := by decide
theorem which_pre {s : List UInt8} (h : 0 ≤ which s) : (marksT.getD (which s).toNat default).2.isPrefixOf s = true := by
  unfold which marksT at *
  simp only [whichGo] at *
  repeat' (split at h)
  all_goals first
    | (rename_i hp; simp only [hp, if_true]; first | exact hp | (simp_all; done))
    | omega
    | (simp_all; done)
theorem unescQ_bad : ∀ (n : Nat) (s : List UInt8), s.length ≤ n → (∃ c ∈ s, badC c = true) → unescQ s = none
  | _, [], _, ⟨c, h, _⟩ => by cases h
  | 0, c :: r, hn, _ => by simp at hn
  | n + 1, c :: r, hn, ⟨d, hd, hb⟩ => by
    simp only [List.length_cons] at hn
    rw [unescQ_cons]
    split
    · rfl
    rename_i hc
    have hdr : d ∈ r := by
      rcases List.mem_cons.1 hd with rfl | h
      · exact absurd hb hc
      · exact h
    split
    · split
      · rfl
      · rename_i hw
        have hwr := which_range (c :: r)
        have hp := which_pre (s := c :: r) (by omega)
        have hm := mark_bytes (which (c :: r)).toNat (by omega)
        have hl := mark_len (which (c :: r)).toNat (by omega)
        generalize (marksT.getD (which (c :: r)).toNat default).2 = m at *
        have hs := List.isPrefixOf_iff_prefix.1 hp
        obtain ⟨t, ht⟩ := hs
        have htd : (c :: r).drop m.length = t := by rw [← ht]; simp
        rw [htd]
        have hdt : d ∈ t := by
          rw [← ht] at hd
          rcases List.mem_append.1 hd with h | h
          · rw [hm d h] at hb; cases hb
          · exact h
        have hlt : t.length ≤ n := by
          have := congrArg List.length ht
          simp only [List.length_append, List.length_cons] at this; omega
        rw [unescQ_bad n t hlt ⟨d, hdt, hb⟩]; rfl
    · rw [unescQ_bad n r (by omega) ⟨d, hdr, hb⟩]; rfl

/-! ### the library's words -/
theorem rep_id {c : UInt8} {new : List UInt8} : ∀ {a : List UInt8}, c ∉ a → a.flatMap (fun d => if d = c then new else [d]) = a
  | [], _ => rfl
  | d :: a, ha => by
    simp only [List.mem_cons, not_or] at ha
    rw [List.flatMap_cons, if_neg (fun e => ha.1 e.symm), rep_id ha.2]; rfl
theorem count_idx (c : UInt8) (new : List UInt8) : ∀ (n : Nat) (s : List UInt8), s.length ≤ n → Lib.replaceK [c] new (Lib.count s [c]) s = s.flatMap (fun d => if d = c then new else [d])
  | n, s, hn => by
    by_cases h : Txt.idx c s < s.length
    · have hi : Lib.index s [c] = (Txt.idx c s : Nat) := by rw [Txt.index_idx, if_pos h]
      rw [Lib.count_hit (by simp) hi, Nat.add_comm, Lib.replaceK_hit [c] new _ s _ hi]
      have e : s = s.take (Txt.idx c s) ++ c :: s.drop (Txt.idx c s + 1) := by
        conv => lhs; rw [← List.take_append_drop (Txt.idx c s) s, Txt.drop_getD h, Txt.idx_at c s h]
      have hb := Txt.idx_before c s
      match n, hn with
      | 0, hn => omega
      | n + 1, hn =>
        have ih := count_idx c new n (s.drop (Txt.idx c s + 1)) (by rw [List.length_drop]; omega)
        simp only [List.length_cons, List.length_nil, Nat.zero_add]
        rw [ih]
        conv => rhs; rw [e]
        rw [List.flatMap_append, rep_id hb, List.flatMap_cons, if_pos rfl]
        simp
    · have hi : Lib.index s [c] = -1 := by rw [Txt.index_idx, if_neg h]
      rw [Lib.count_miss hi]
      have hle := Txt.idx_le c s
      have hb := Txt.idx_before c s
      rw [List.take_of_length_le (by omega)] at hb
      exact (rep_id hb).symm
theorem replaceAll_one (s : List UInt8) (c : UInt8) {new : List UInt8} (hne : new ≠ [c]) : Lib.replaceAll s [c] new = s.flatMap (fun d => if d = c then new else [d]) := by
  unfold Lib.replaceAll Lib.replace Lib.replaceNum
  rw [if_neg (by simpa using fun e => hne e.symm), if_pos (.inl (by decide))]
  exact count_idx c new _ s (Nat.le_refl _)
def rep1 (m : List UInt8 × List UInt8) (s : List UInt8) : List UInt8 := s.flatMap (fun d => if [d] = m.1 then m.2 else [d])
/-- as far as the marks have been escaped -/
def escTo (k : Nat) (s : List UInt8) : List UInt8 := (marksT.take k).foldl (fun s m => rep1 m s) s
theorem escTo_succ {k : Nat} (h : k < 5) (s : List UInt8) : escTo (k + 1) s = rep1 (marksT.getD k default) (escTo k s) := by
  unfold escTo
  have hl : k < marksT.length := h
  rw [List.take_succ_eq_append_getElem hl, List.foldl_append]
  have e : marksT.getD k default = marksT[k] := by simp [hl]
  rw [e]; rfl
theorem rep1_flat (m : List UInt8 × List UInt8) (f : UInt8 → List UInt8) (s : List UInt8) : rep1 m (s.flatMap f) = s.flatMap (fun c => rep1 m (f c)) := by
  unfold rep1
  rw [List.flatMap_assoc]
theorem escTo_all (s : List UInt8) : escTo 5 s = esc s := by
  have h0 : s = s.flatMap (fun c => [c]) := by induction s with
    | nil => rfl
    | cons c s ih => rw [List.flatMap_cons, ← ih]; rfl
  have key : ∀ c : UInt8, escTo 5 [c] = esc1 c := by
    apply all_bytes; decide +kernel
  have h1 : escTo 5 s = s.flatMap (fun c => escTo 5 [c]) := by
    conv => lhs; rw [h0]
    show rep1 _ (rep1 _ (rep1 _ (rep1 _ (rep1 _ (s.flatMap fun c => [c]))))) = _
    simp only [rep1_flat]; rfl
  rw [h1]
  unfold esc
  congr 1; funext c; exact key c
theorem rep1_length {m : List UInt8 × List UInt8} (hm : m.2.length ≤ 6) (s : List UInt8) : (rep1 m s).length ≤ 6 * s.length := by
  unfold rep1
  induction s with
  | nil => simp
  | cons c s ih =>
    rw [List.flatMap_cons, List.length_append, List.length_cons]
    split
    · omega
    · simp only [List.length_cons, List.length_nil]; omega

/-! ### names, what is shown -/
def letC (c : UInt8) : Bool := (97 ≤ c.toNat && c.toNat ≤ 122) || (65 ≤ c.toNat && c.toNat ≤ 90)
def insC (c : UInt8) : Bool := letC c || (48 ≤ c.toNat && c.toNat ≤ 57) || c.toNat == 58 || c.toNat == 45 || c.toNat == 95
def nameB (s : List UInt8) : Bool := !s.isEmpty && letC (s.getD 0 0) && s.all insC
def shwC (c : UInt8) : Bool := !(c.toNat == 127) && (32 ≤ c.toNat || c.toNat == 9 || c.toNat == 10)
def shwB (s : List UInt8) : Bool := s.all shwC
end Go.Xml
/-
  A small engine over the walk's rules: a frame is told by an environment (slot, is it valid, value), a world by a class; structural rules. Nothing of the program stands here.
-/
namespace Go.Eng
open Go.RowKit

/-- An environment: slot, whether what follows is known to hold, the value. -/
abbrev Env := List (Nat × Bool × Value)

def look : Env → Nat → Option (Bool × Value)
  | [], _ => none
  | (j, c, v) :: E, i => bif Nat.beq j i then some (c, v) else look E i

/-- What is known of a frame. -/
structure Holds (n : Nat) (E : Env) (a : Act) : Prop where
  defers : a.defers = []
  size : a.tmps.size = n
  reads : ∀ i c v, look E i = some (c, v) → a.tmps[i]? = some (bif c then v else undef)

/-- An operand's entry. -/
def ev (E : Env) : Operand → Option (Bool × Value)
  | .tmp t => look E t
  | .const v => some (true, v)
  | .global g => some (true, .pointer (some ⟨g, 0, none⟩))
  | .func f => some (true, .func (.func f) #[] #[])

theorem Holds.evalc {n : Nat} {E : Env} {a : Act} (h : Holds n E a) {x : Operand} {c : Bool} {v : Value} (hx : ev E x = some (c, v)) (hc : c = true) : a.eval x = v := by
  subst hc
  cases x with
  | tmp t => have := h.reads t true v hx; simp [Act.eval, this]
  | const u => simp [ev] at hx; simp [Act.eval, hx]
  | global g => simp [ev] at hx; simp [Act.eval, hx]
  | func f => simp [ev] at hx; simp [Act.eval, hx]
theorem Holds.eval {n : Nat} {E : Env} {a : Act} (h : Holds n E a) {x : Operand} {v : Value} (hx : ev E x = some (true, v)) : a.eval x = v := h.evalc hx rfl
theorem beq_no {i j : Nat} (e : ¬ i = j) : Nat.beq i j = false := by
  cases h : Nat.beq i j
  · rfl
  · exact absurd (Nat.eq_of_beq_eq_true h) e

theorem Holds.put {n : Nat} {E : Env} {a : Act} (h : Holds n E a) {d : Nat} (hd : d < n) {c : Bool} {v v' : Value} (hc : v' = bif c then v else undef) : Holds n ((d, c, v) :: E) (a.put (some d) v') where
  defers := h.defers
  size := by simp [Act.put, h.size]
  reads := by
    intro i cu u hi
    simp only [look] at hi
    by_cases e : d = i
    · subst e
      simp at hi
      obtain ⟨rfl, rfl⟩ := hi
      simp [Act.put, h.size, hd, hc]
    · rw [beq_no e, cond_false] at hi
      have := h.reads i cu u hi
      simp only [Act.put]
      rw [Array.getElem?_setIfInBounds_ne (by omega)]
      exact this

/-- Fewer entries hold too. -/
theorem Holds.sub {n : Nat} {E E' : Env} {a : Act} (h : Holds n E a) (hs : ∀ i c v, look E' i = some (c, v) → look E i = some (c, v)) : Holds n E' a :=
  ⟨h.defers, h.size, fun i c v hi => h.reads i c v (hs i c v hi)⟩

/-- The entries of a list are met in another environment. -/
def Sub (E' E : Env) : Prop := ∀ i c v, look E' i = some (c, v) → look E i = some (c, v)
theorem Sub.nil (E : Env) : Sub [] E := by intro i c v h; simp [look] at h
theorem Sub.cons {E' E : Env} {i : Nat} {v : Value} (h : look E i = some (true, v)) (hs : Sub E' E) : Sub ((i, true, v) :: E') E := by
  intro j c u hj
  simp only [look] at hj
  by_cases e : i = j
  · subst e; simp at hj; obtain ⟨rfl, rfl⟩ := hj; exact h
  · rw [beq_no e, cond_false] at hj
    exact hs j c u hj

/-! ### What stands behind a piece of code -/
inductive Kont where
  | fin (Q : Exit → Act → World → Prop)
  | seq (y : Code) (k : Kont)
  | blk (id : Nat) (k : Kont)
  | cut (N : Act → World → Prop) (k : Kont)
  | noGoto (k : Kont)

def Kont.post (P : Program) : Kont → Exit → Act → World → Prop
  | .fin Q => Q
  | .seq y k => Exit.then (y.wp P (k.post P)) (k.post P)
  | .blk id k => Exit.inBlock id (k.post P)
  | .cut N k => Exit.then N (k.post P)
  | .noGoto k => Exit.noGoto (k.post P)

structure WC (P : Program) (c : Code) (n : Nat) (E : Env) (C : World → Prop) (k : Kont) : Prop where
  run : ∀ a w, Holds n E a → C w → c.wp P (k.post P) a w
structure WN (P : Program) (n : Nat) (E : Env) (C : World → Prop) (k : Kont) : Prop where
  run : ∀ a w, Holds n E a → C w → k.post P .normal a w
structure WL (P : Program) (ops : Array Oper) (l : List Oper) (n : Nat) (E : Env) (C : World → Prop) (k : Kont) : Prop where
  run : ∀ a w, Holds n E a → C w → wpList P ops (k.post P) l a w

section
variable {P : Program} {n : Nat} {E : Env} {C : World → Prop} {k : Kont}

theorem wc_seq {x y : Code} (h : WC P x n E C (.seq y k)) : WC P (.seq x y) n E C k := ⟨fun a w ha hw => wp_seq (h.run a w ha hw)⟩
theorem wc_skip (h : WN P n E C k) : WC P .skip n E C k := ⟨fun a w ha hw => wp_skip (h.run a w ha hw)⟩
theorem wc_label {l : Nat} (h : WN P n E C k) : WC P (.label l) n E C k := ⟨fun a w ha hw => wp_label (h.run a w ha hw)⟩
theorem wn_seq {y : Code} (h : WC P y n E C k) : WN P n E C (.seq y k) := ⟨fun a w ha hw => h.run a w ha hw⟩
theorem wn_blk {id : Nat} (h : WN P n E C k) : WN P n E C (.blk id k) := ⟨fun a w ha hw => h.run a w ha hw⟩
theorem wn_noGoto (h : WN P n E C k) : WN P n E C (.noGoto k) := ⟨fun a w ha hw => by
  have := h.run a w ha hw
  simpa [Kont.post, Exit.noGoto] using this⟩
theorem wc_scope {c : Code} (h : WC P c n E C (.noGoto k)) : WC P (.scope c) n E C k := ⟨fun a w ha hw => wp_scope_straight (h.run a w ha hw)⟩
theorem wc_block {id : Nat} {c : Code} (h : WC P c n E C (.blk id k)) : WC P (.block id c) n E C k := ⟨fun a w ha hw => wp_block (h.run a w ha hw)⟩
theorem wc_region {id : Nat} {l : List Oper} (h : WL P l.toArray l n E C k) : WC P (.region id l.toArray false) n E C k := ⟨fun a w ha hw => wp_region_lit (h.run a w ha hw)⟩
theorem wl_nil {ops : Array Oper} (h : WN P n E C k) : WL P ops [] n E C k := ⟨fun a w ha hw => wpList_nil (h.run a w ha hw)⟩

/-- Leaving a block: what stands behind it. -/
def popTo (id : Nat) : Kont → Option Kont
  | .fin _ => none
  | .seq _ k => popTo id k
  | .blk j k => bif Nat.beq id j then some k else popTo id k
  | .cut _ k => popTo id k
  | .noGoto k => popTo id k
theorem post_exit {id : Nat} {k k' : Kont} (h : popTo id k = some k') {a : Act} {w : World} (hk : k'.post P .normal a w) : k.post P (.exit id) a w := by
  induction k with
  | fin Q => simp [popTo] at h
  | seq y k ih => exact ih h
  | cut N k ih => exact ih h
  | noGoto k ih => simpa [Kont.post, Exit.noGoto] using ih h
  | blk j k ih =>
    simp only [popTo] at h
    by_cases e : id = j
    · subst e; simp at h; subst h; simpa [Kont.post, Exit.inBlock] using hk
    · rw [beq_no e, cond_false] at h
      have := ih h
      simpa [Kont.post, Exit.inBlock, e] using this
theorem wc_exit {id : Nat} {k' : Kont} (h : popTo id k = some k') (hk : WN P n E C k') : WC P (.exit id) n E C k := ⟨fun a w ha hw => wp_exit (post_exit h (hk.run a w ha hw))⟩

/-- The function's own end. -/
def base : Kont → (Exit → Act → World → Prop)
  | .fin Q => Q
  | .seq _ k | .blk _ k | .cut _ k | .noGoto k => base k
theorem post_ret {k : Kont} {a : Act} {w : World} (h : base k .ret a w) : k.post P .ret a w := by
  induction k with
  | fin Q => exact h
  | seq y k ih => exact ih h
  | cut N k ih => exact ih h
  | blk j k ih => exact ih h
  | noGoto k ih => simpa [Kont.post, Exit.noGoto] using ih h
/-- 'return': what is left to show speaks of the frame and the world. -/
structure WR (n : Nat) (E : Env) (C : World → Prop) (Q : Exit → Act → World → Prop) : Prop where
  run : ∀ a w, Holds n E a → C w → Q .ret a w
theorem wc_ret {Q : Exit → Act → World → Prop} (hb : base k = Q) (h : WR n E C Q) : WC P .ret n E C k := ⟨fun a w ha hw => wp_ret (post_ret (by rw [hb]; exact h.run a w ha hw))⟩

theorem wc_cond {c : Operand} {b : Bool} {x y : Code} (hc : ev E c = some (true, .bool b)) (ht : b = true → WC P x n E C k) (hf : b = false → WC P y n E C k) : WC P (.cond c x y) n E C k :=
  ⟨fun a w ha hw => wp_cond_split (ha.eval hc) (fun h => (ht h).run a w ha hw) (fun h => (hf h).run a w ha hw)⟩

/-- Fewer entries, a wider class. -/
theorem wc_weak {c : Code} {E' : Env} {C' : World → Prop} (hE : Sub E' E) (hC : ∀ w, C w → C' w) (h : WC P c n E' C' k) : WC P c n E C k := ⟨fun a w ha hw => h.run a w (ha.sub hE) (hC w hw)⟩
theorem wn_weak {E' : Env} {C' : World → Prop} (hE : Sub E' E) (hC : ∀ w, C w → C' w) (h : WN P n E' C' k) : WN P n E C k := ⟨fun a w ha hw => h.run a w (ha.sub hE) (hC w hw)⟩
theorem wl_weak {ops : Array Oper} {l : List Oper} {E' : Env} {C' : World → Prop} (hE : Sub E' E) (hC : ∀ w, C w → C' w) (h : WL P ops l n E' C' k) : WL P ops l n E C k := ⟨fun a w ha hw => h.run a w (ha.sub hE) (hC w hw)⟩

/-- A cut: the first piece comes to one of a family of states; the second goes on from each. -/
def Family (α : Type) (n : Nat) (EJ : α → Env) (CJ : α → World → Prop) (p : α → Prop) : Act → World → Prop := fun a w => ∃ y, p y ∧ Holds n (EJ y) a ∧ CJ y w
theorem wn_cut {α : Type} {EJ : α → Env} {CJ : α → World → Prop} {p : α → Prop} (y : α) (hp : p y) (hE : Sub (EJ y) E) (hC : ∀ w, C w → CJ y w) : WN P n E C (.cut (Family α n EJ CJ p) k) :=
  ⟨fun _ w ha hw => ⟨y, hp, ha.sub hE, hC w hw⟩⟩
theorem wc_seq_cut {α : Type} (EJ : α → Env) (CJ : α → World → Prop) {x y : Code} (h : WC P x n E C (.cut (Family α n EJ CJ (fun _ => True)) k)) (h' : ∀ z, WC P y n (EJ z) (CJ z) k) : WC P (.seq x y) n E C k :=
  ⟨fun a w ha hw => wp_seq (wp_mono (h.run a w ha hw) fun e a' w' q => by
    cases e with
    | normal => obtain ⟨z, _, hz, hc⟩ := q; exact (h' z).run a' w' hz hc
    | _ => exact q)⟩

theorem wc_split {α : Type} (EJ : α → Env) (CJ : α → World → Prop) {x y : Code} (h : WC P x n E C (.cut (Family α n EJ CJ (fun _ => True)) k)) (h' : ∀ z, WC P y n (EJ z) (CJ z) k) : WC P x n E C (.seq y k) :=
  ⟨fun a w ha hw => wp_mono (h.run a w ha hw) fun e a' w' q => by
    cases e with
    | normal => obtain ⟨z, _, hz, hc⟩ := q; exact (h' z).run a' w' hz hc
    | _ => exact q⟩

/-- A loop: a family of states, a measure. -/
theorem wc_loop {α : Type} (EJ : α → Env) (CJ : α → World → Prop) (μ : α → Nat) (x0 : α) {c : Code} (hE : Sub (EJ x0) E) (hC : ∀ w, C w → CJ x0 w)
    (h : ∀ x, WC P c n (EJ x) (CJ x) (.cut (Family α n EJ CJ (fun y => μ y < μ x)) k)) : WC P (.loop c) n E C k := by
  refine ⟨fun a w ha hw => ?_⟩
  refine wp_loop_ghost (fun m a w => ∃ x, μ x = m ∧ Holds n (EJ x) a ∧ CJ x w) (μ x0) ⟨x0, rfl, ha.sub hE, hC w hw⟩ ?_
  rintro m a w ⟨x, rfl, hx, hc⟩
  refine wp_mono ((h x).run a w hx hc) fun e a' w' q => ?_
  cases e with
  | normal => obtain ⟨z, hz, hz', hc'⟩ := q; exact ⟨_, hz, z, rfl, hz', hc'⟩
  | _ => exact q

/-! ### A guard -/
/-- Whether an operation runs. -/
def gd (ops : Array Oper) (E : Env) : Option (Nat × Bool) → Option Bool
  | none => some true
  | some (j, want) => match (ops[j]?).bind (·.dst) with
    | some d => match look E d with
      | some (c, .bool g) => some (bif c then (g == want) else false)
      | _ => none
    | none => none

end
end Go.Eng
/-
  The engine's operations: those that yield one value in every world of a class. Nothing of the program stands here.
-/
namespace Go.Eng
open Go.RowKit

/-- All blocks but those of a list are as they were; nothing has gone. -/
structure Keep (bs : List Nat) (w w' : World) : Prop where
  os : w'.os = w.os
  tape : w'.tape = w.tape
  output : w'.output = w.output
  size : w.heap.size ≤ w'.heap.size
  block : ∀ b, b < w.heap.size → b ∉ bs → w'.heap[b]? = w.heap[b]?
abbrev Ext (w w' : World) : Prop := Keep [] w w'

theorem Keep.refl (bs : List Nat) (w : World) : Keep bs w w := ⟨rfl, rfl, rfl, Nat.le_refl _, fun _ _ _ => rfl⟩
theorem Keep.trans {bs : List Nat} {a b c : World} (h : Keep bs a b) (k : Keep bs b c) : Keep bs a c :=
  ⟨k.os.trans h.os, k.tape.trans h.tape, k.output.trans h.output, Nat.le_trans h.size k.size, fun i hi hn => (k.block i (Nat.lt_of_lt_of_le hi h.size) hn).trans (h.block i hi hn)⟩
theorem Keep.mono {bs bs' : List Nat} {a b : World} (h : Keep bs a b) (hs : ∀ x ∈ bs, x ∈ bs') : Keep bs' a b := ⟨h.os, h.tape, h.output, h.size, fun i hi hn => h.block i hi (fun hm => hn (hs i hm))⟩
theorem Ext.to {bs : List Nat} {a b : World} (h : Ext a b) : Keep bs a b := h.mono (by simp)
theorem Ext.below {a b : World} (h : Ext a b) : Below a.heap.size a b := ⟨h.os, h.tape, h.output, h.size, fun k hk => h.block k hk (by simp)⟩
theorem Ext.of_below {a b : World} (h : Below a.heap.size a b) : Ext a b := ⟨h.os, h.tape, h.output, h.size, fun k hk _ => h.block k hk⟩
theorem Ext.drew (w : World) (n : Nat) : Ext w (w.drewN n) := ⟨rfl, rfl, rfl, Nat.le_refl _, fun _ _ _ => rfl⟩
theorem lt_of_get {w : World} {b : Nat} {o : Obj} (h : w.heap[b]? = some o) : b < w.heap.size := by
  rcases Nat.lt_or_ge b w.heap.size with h' | h'
  · exact h'
  · simp [Array.getElem?_eq_none h'] at h

/-- A string by its bytes; a byte. -/
abbrev str (l : List UInt8) : Value := .string ⟨l.toArray⟩
abbrev byt (c : UInt8) : Value := .int .u8 (c.toNat : Int)
abbrev i64 (z : Int) : Value := .int .i64 z

/-- One operation, in one world: it yields that value and leaves the world; or it is a call that comes back with it, whatever new memory it has laid. -/
def YAt (P : Program) (o : Oper) (a : Act) (C : World → Prop) (w : World) (v : Value) : Prop :=
  match (execOp a.eval o).run P w with
  | .ok (.value u) w' => w' = w ∧ u = v
  | .ok (.enter f args) w' => w' = w ∧ Calls P f args w (fun e w2 => e = .returned v ∧ Ext w w2 ∧ C w2)
  | _ => False
theorem YAt.wp {P : Program} {o : Oper} {a : Act} {C : World → Prop} {w : World} {v : Value} {K : Act → World → Prop} {Q : Exit → Act → World → Prop} (h : YAt P o a C w v) (hw : C w) (hK : ∀ w', C w' → Ext w w' → K (a.put o.dst v) w') : o.wp P a w K Q := by
  unfold YAt at h
  unfold Oper.wp
  generalize (execOp a.eval o).run P w = r at *
  cases r with
  | ok nx w1 =>
    cases nx <;> simp only [] at h <;> simp only [Oper.upon]
    case value u => obtain ⟨rfl, rfl⟩ := h; exact hK _ hw (Keep.refl _ _)
    case enter f args => obtain ⟨rfl, h⟩ := h; exact h.mono fun e w2 ⟨he, hx, hC⟩ => by subst he; exact hK _ hC hx
  | halt x w1 => simp only [] at h
/-- One value, in every world of the class, if the operation runs. -/
structure OpV (P : Program) (n : Nat) (E : Env) (C : World → Prop) (o : Oper) (cg : Bool) (v : Value) : Prop where
  run : cg = true → ∀ a, Holds n E a → ∀ w, C w → YAt P o a C w v

section
variable {P : Program} {n : Nat} {E : Env} {C : World → Prop} {k : Kont} {ops : Array Oper} {rest : List Oper} {cg : Bool}

theorem wanted_gd {a : Act} (ha : Holds n E a) {o : Oper} (h : gd ops E o.guard = some cg) : Region.wanted o (yielded ops a.tmps) = cg := by
  unfold Region.wanted
  cases hg : o.guard with
  | none => rw [hg] at h; simp [gd] at h; simp [h]
  | some g =>
    obtain ⟨j, want⟩ := g
    rw [hg] at h
    simp only [gd] at h
    simp only [yielded]
    cases hd : (ops[j]?).bind (·.dst) with
    | none => simp [hd] at h
    | some d =>
      simp only [hd] at h
      cases hl : look E d with
      | none => simp [hl] at h
      | some cv =>
        obtain ⟨c, v⟩ := cv
        simp only [hl] at h
        cases v with
        | bool b =>
          simp at h
          have hr := ha.reads d c _ hl
          simp only [Option.bind_some]
          rw [hr, ← h]
          cases c
          · simp [undef]
          · cases b <;> cases want <;> rfl
        | _ => simp at h

/-- An operation of one value. -/
theorem wl_v {d : Nat} {v : Value} {o : Oper} (hg : gd ops E o.guard = some cg) (ho : o.dst = some d) (hd : Nat.blt d n = true) (hv : OpV P n E C o cg v) (h : WL P ops rest n ((d, cg, v) :: E) C k) : WL P ops (o :: rest) n E C k := by
  have hd : d < n := by simpa [Nat.blt_eq] using hd
  refine ⟨fun a w ha hw => ?_⟩
  have hwa := wanted_gd (ops := ops) ha hg
  unfold wpList
  cases cg with
  | true =>
    rw [if_pos hwa]
    refine .inl ((hv.run rfl a ha w hw).wp hw fun w' hw' _ => ?_)
    rw [ho]
    exact h.run _ _ (ha.put hd rfl) hw'
  | false =>
    rw [if_neg (by rw [hwa]; simp), ho]
    exact h.run _ _ (ha.put hd rfl) hw

/-- What an operation without a call yields. -/
theorem ov_run {o : Oper} {v : Value} (h : cg = true → ∀ a, Holds n E a → ∀ w, C w → (execOp a.eval o).run P w = .ok (.value v) w) : OpV P n E C o cg v := by
  refine ⟨fun hc a ha w hw => ?_⟩
  unfold YAt
  rw [h hc a ha w hw]
  exact ⟨rfl, rfl⟩

variable {dst : Option Tmp} {ty : TypeId} {pos : String} {af : Array Edge} {g : Option (Nat × Bool)}
/-- What a guard's condition hands on. -/
abbrev Imp (cg c : Bool) : Prop := cg = true → c = true

theorem ov_move {x : Operand} {c : Bool} {v : Value} (hx : ev E x = some (c, v)) (hc : Imp cg c) : OpV P n E C ⟨dst, .move x, ty, pos, af, g⟩ cg v :=
  ov_run fun h a ha w _ => by simp [execOp, ha.evalc hx (hc h)]
theorem ov_assign {x : Operand} {c : Bool} {v : Value} (hx : ev E x = some (c, v)) (hc : Imp cg c) : OpV P n E C ⟨dst, .assign x, ty, pos, af, g⟩ cg v :=
  ov_run fun h a ha w _ => by simp [execOp, ha.evalc hx (hc h)]

/-! ### pick -/
theorem ov_pick {x y z : Operand} {c cy cz : Bool} {b : Bool} {vy vz v : Value} (hx : ev E x = some (c, .bool b)) (hy : ev E y = some (cy, vy)) (hz : ev E z = some (cz, vz))
    (hc : Imp cg c) (h1 : cg = true → b = true → cy = true ∧ vy = v) (h0 : cg = true → b = false → cz = true ∧ vz = v) : OpV P n E C ⟨dst, .pick x y z, ty, pos, af, g⟩ cg v :=
  ov_run fun h a ha w _ => by
    cases b
    · obtain ⟨h2, h3⟩ := h0 h rfl; simp [execOp, ha.evalc hx (hc h), asBool, ha.evalc hz h2, h3]
    · obtain ⟨h2, h3⟩ := h1 h rfl; simp [execOp, ha.evalc hx (hc h), asBool, ha.evalc hy h2, h3]
/-- 'a && b' -/
theorem ov_and {x y : Operand} {c cy : Bool} {b b' : Bool} (hx : ev E x = some (c, .bool b)) (hy : ev E y = some (cy, .bool b')) (hc : Imp cg c) (h1 : cg = true → b = true → cy = true) :
    OpV P n E C ⟨dst, .pick x y (.const (.bool false)), ty, pos, af, g⟩ cg (.bool (b && b')) :=
  ov_pick hx hy rfl hc (fun h hb => ⟨h1 h hb, by simp [hb]⟩) (fun _ hb => ⟨rfl, by simp [hb]⟩)
/-- 'a || b' -/
theorem ov_or {x z : Operand} {c cz : Bool} {b b' : Bool} (hx : ev E x = some (c, .bool b)) (hz : ev E z = some (cz, .bool b')) (hc : Imp cg c) (h0 : cg = true → b = false → cz = true) :
    OpV P n E C ⟨dst, .pick x (.const (.bool true)) z, ty, pos, af, g⟩ cg (.bool (b || b')) :=
  ov_pick hx rfl hz hc (fun _ hb => ⟨rfl, by simp [hb]⟩) (fun h hb => ⟨h0 h hb, by simp [hb]⟩)

/-! ### numbers that are not negative -/
theorem nc_cast {n : Nat} : (n : Int) = (n : Int) := rfl
theorem nc_lit {n : Nat} : (OfNat.ofNat n : Int) = ((OfNat.ofNat n : Nat) : Int) := rfl
theorem nc_add {a b : Int} {m n : Nat} (h1 : a = (m : Int)) (h2 : b = (n : Int)) : a + b = ((m + n : Nat) : Int) := by omega
theorem nc_mul {a b : Int} {m n : Nat} (h1 : a = (m : Int)) (h2 : b = (n : Int)) : a * b = ((m * n : Nat) : Int) := by subst h1; subst h2; simp
theorem nc_div {a b : Int} {m n : Nat} (h1 : a = (m : Int)) (h2 : b = (n : Int)) : a / b = ((m / n : Nat) : Int) := by subst h1; subst h2; simp
theorem nc_mod {a b : Int} {m n : Nat} (h1 : a = (m : Int)) (h2 : b = (n : Int)) : a % b = ((m % n : Nat) : Int) := by subst h1; subst h2; simp
theorem nc_sub {a b : Int} {m n : Nat} (h1 : a = (m : Int)) (h2 : b = (n : Int)) (h : n ≤ m) : a - b = ((m - n : Nat) : Int) := by omega

/-! ### numbers -/
/-- A number fits its kind. -/
def Fits (k : IntKind) (z : Int) : Prop := k.min ≤ z ∧ z ≤ k.max
theorem wrap_fits {k : IntKind} {z : Int} (h : Fits k z) : k.wrap z = z := by
  obtain ⟨h1, h2⟩ := h
  cases k <;> simp [IntKind.min, IntKind.max, IntKind.signed, IntKind.bits] at h1 h2 <;> simp [IntKind.wrap, IntKind.signed, IntKind.bits] <;> (try split) <;> omega
theorem fits_i64 {z : Int} (h1 : -9223372036854775808 ≤ z) (h2 : z ≤ 9223372036854775807) : Fits .i64 z := by
  simp only [Fits, IntKind.min, IntKind.max, IntKind.signed, IntKind.bits]; constructor <;> simp <;> omega
theorem fits_u8 {z : Int} (h1 : 0 ≤ z) (h2 : z ≤ 255) : Fits .u8 z := by
  simp only [Fits, IntKind.min, IntKind.max, IntKind.signed, IntKind.bits]; constructor <;> simp <;> omega
theorem fits_i32 {z : Int} (h1 : -2147483648 ≤ z) (h2 : z ≤ 2147483647) : Fits .i32 z := by
  simp only [Fits, IntKind.min, IntKind.max, IntKind.signed, IntKind.bits]; constructor <;> simp <;> omega
theorem fits_u64 {z : Int} (h1 : 0 ≤ z) (h2 : z ≤ 18446744073709551615) : Fits .u64 z := by
  simp only [Fits, IntKind.min, IntKind.max, IntKind.signed, IntKind.bits]; constructor <;> simp <;> omega
theorem fits_u32 {z : Int} (h1 : 0 ≤ z) (h2 : z ≤ 4294967295) : Fits .u32 z := by
  simp only [Fits, IntKind.min, IntKind.max, IntKind.signed, IntKind.bits]; constructor <;> simp <;> omega

variable {x y : Operand} {cx cy : Bool} {tx tyy : TypeId} {kd : IntKind} {u z : Int}
theorem run_bin {op : BinOp} {vx vy r : Value} {a : Act} {w : World} (h1 : a.eval x = vx) (h2 : a.eval y = vy) (he : (eqGuard op tx x y vx vy).run P w = .ok () w) (hb : (binOp op tx vx vy).run P w = .ok r w) :
    (execOp a.eval ⟨dst, .binOp op tx x y tyy, ty, pos, af, g⟩).run P w = .ok (.value r) w := by
  simp [execOp, h1, h2, he, hb]
theorem guard_no {op : BinOp} {vx vy : Value} {w : World} (h : (op == .eql || op == .neq) = false) : (eqGuard op tx x y vx vy).run P w = .ok () w := by
  cases op <;> simp_all [eqGuard]
theorem guard_int {op : BinOp} {k1 k2 : IntKind} {w : World} : (eqGuard op tx x y (.int k1 u) (.int k2 z)).run P w = .ok () w := by
  cases op <;> simp [eqGuard]
theorem guard_bool {op : BinOp} {b1 b2 : Bool} {w : World} : (eqGuard op tx x y (.bool b1) (.bool b2)).run P w = .ok () w := by
  cases op <;> simp [eqGuard]
theorem guard_str {op : BinOp} {b1 b2 : ByteArray} {w : World} : (eqGuard op tx x y (.string b1) (.string b2)).run P w = .ok () w := by
  cases op <;> simp [eqGuard]

set_option linter.unusedVariables false in
theorem ov_int {op : BinOp} {r : Value} (hx : ev E x = some (cx, .int kd u)) (hy : ev E y = some (cy, .int kd z)) (h1 : Imp cg cx) (h2 : Imp cg cy)
    (hr : cg = true → ∀ w, (binOp op tx (.int kd u) (.int kd z)).run P w = .ok r w) : OpV P n E C ⟨dst, .binOp op tx x y tyy, ty, pos, af, g⟩ cg r :=
  ov_run fun h a ha w _ => run_bin (ha.evalc hx (h1 h)) (ha.evalc hy (h2 h)) guard_int (hr h w)

theorem ov_add (hx : ev E x = some (cx, .int kd u)) (hy : ev E y = some (cy, .int kd z)) (h1 : Imp cg cx) (h2 : Imp cg cy) (hf : cg = true → Fits kd (u + z)) :
    OpV P n E C ⟨dst, .binOp .add tx x y tyy, ty, pos, af, g⟩ cg (.int kd (u + z)) :=
  ov_int hx hy h1 h2 fun h w => by simp [binOp, Op.intArith, wrap_fits (hf h)]
theorem ov_sub (hx : ev E x = some (cx, .int kd u)) (hy : ev E y = some (cy, .int kd z)) (h1 : Imp cg cx) (h2 : Imp cg cy) (hf : cg = true → Fits kd (u - z)) :
    OpV P n E C ⟨dst, .binOp .sub tx x y tyy, ty, pos, af, g⟩ cg (.int kd (u - z)) :=
  ov_int hx hy h1 h2 fun h w => by simp [binOp, Op.intArith, wrap_fits (hf h)]
theorem ov_mul (hx : ev E x = some (cx, .int kd u)) (hy : ev E y = some (cy, .int kd z)) (h1 : Imp cg cx) (h2 : Imp cg cy) (hf : cg = true → Fits kd (u * z)) :
    OpV P n E C ⟨dst, .binOp .mul tx x y tyy, ty, pos, af, g⟩ cg (.int kd (u * z)) :=
  ov_int hx hy h1 h2 fun h w => by simp [binOp, Op.intArith, wrap_fits (hf h)]
theorem ov_quo (hx : ev E x = some (cx, .int kd u)) (hy : ev E y = some (cy, .int kd z)) (h1 : Imp cg cx) (h2 : Imp cg cy) (hf : cg = true → 0 ≤ u ∧ 0 < z ∧ Fits kd (u / z)) :
    OpV P n E C ⟨dst, .binOp .quo tx x y tyy, ty, pos, af, g⟩ cg (.int kd (u / z)) :=
  ov_int hx hy h1 h2 fun h w => by
    obtain ⟨h0, h1, h2⟩ := hf h
    have hz : z ≠ 0 := by omega
    simp [binOp, Op.intDiv, hz, Int.tdiv_eq_ediv_of_nonneg h0, wrap_fits h2]
theorem ov_rem (hx : ev E x = some (cx, .int kd u)) (hy : ev E y = some (cy, .int kd z)) (h1 : Imp cg cx) (h2 : Imp cg cy) (hf : cg = true → 0 ≤ u ∧ 0 < z) :
    OpV P n E C ⟨dst, .binOp .rem tx x y tyy, ty, pos, af, g⟩ cg (.int kd (u % z)) :=
  ov_int hx hy h1 h2 fun h w => by
    obtain ⟨h0, h1⟩ := hf h
    have hz : z ≠ 0 := by omega
    simp [binOp, Op.intDiv, hz, Int.tmod_eq_emod_of_nonneg h0]
theorem ov_lss (hx : ev E x = some (cx, .int kd u)) (hy : ev E y = some (cy, .int kd z)) (h1 : Imp cg cx) (h2 : Imp cg cy) :
    OpV P n E C ⟨dst, .binOp .lss tx x y tyy, ty, pos, af, g⟩ cg (.bool (decide (u < z))) :=
  ov_int hx hy h1 h2 fun h w => by simp [binOp, Op.intCmp]
theorem ov_leq (hx : ev E x = some (cx, .int kd u)) (hy : ev E y = some (cy, .int kd z)) (h1 : Imp cg cx) (h2 : Imp cg cy) :
    OpV P n E C ⟨dst, .binOp .leq tx x y tyy, ty, pos, af, g⟩ cg (.bool (decide (u ≤ z))) :=
  ov_int hx hy h1 h2 fun h w => by simp [binOp, Op.intCmp]
theorem ov_gtr (hx : ev E x = some (cx, .int kd u)) (hy : ev E y = some (cy, .int kd z)) (h1 : Imp cg cx) (h2 : Imp cg cy) :
    OpV P n E C ⟨dst, .binOp .gtr tx x y tyy, ty, pos, af, g⟩ cg (.bool (decide (z < u))) :=
  ov_int hx hy h1 h2 fun h w => by simp [binOp, Op.intCmp]
theorem ov_geq (hx : ev E x = some (cx, .int kd u)) (hy : ev E y = some (cy, .int kd z)) (h1 : Imp cg cx) (h2 : Imp cg cy) :
    OpV P n E C ⟨dst, .binOp .geq tx x y tyy, ty, pos, af, g⟩ cg (.bool (decide (z ≤ u))) :=
  ov_int hx hy h1 h2 fun h w => by simp [binOp, Op.intCmp]
theorem ov_eql (hx : ev E x = some (cx, .int kd u)) (hy : ev E y = some (cy, .int kd z)) (h1 : Imp cg cx) (h2 : Imp cg cy) :
    OpV P n E C ⟨dst, .binOp .eql tx x y tyy, ty, pos, af, g⟩ cg (.bool (decide (u = z))) :=
  ov_int hx hy h1 h2 fun h w => by simp [binOp, Op.intCmp, Bool.beq_eq_decide_eq]
theorem ov_neq (hx : ev E x = some (cx, .int kd u)) (hy : ev E y = some (cy, .int kd z)) (h1 : Imp cg cx) (h2 : Imp cg cy) :
    OpV P n E C ⟨dst, .binOp .neq tx x y tyy, ty, pos, af, g⟩ cg (.bool (!decide (u = z))) :=
  ov_int hx hy h1 h2 fun h w => by simp [binOp, Op.intCmp, bne, Bool.beq_eq_decide_eq]
/-- another kind of integer -/
theorem ov_conv {s t : TypeId} {k' : IntKind} (hx : ev E x = some (cx, .int kd u)) (h1 : Imp cg cx) (hs : (P.underlying s).isSome = true) (ht : P.underlying t = some (.int k')) (hf : cg = true → Fits k' u) :
    OpV P n E C ⟨dst, .convert s t x, ty, pos, af, g⟩ cg (.int k' u) :=
  ov_run fun h a ha w _ => by
    obtain ⟨ds, hs⟩ := Option.isSome_iff_exists.1 hs
    simp [execOp, ha.evalc hx (h1 h), convert, run_underlying hs, run_underlying ht, Conv.intToInt, wrap_fits (hf h)]

/-! ### bools -/
theorem ov_not {b : Bool} (hx : ev E x = some (cx, .bool b)) (h1 : Imp cg cx) : OpV P n E C ⟨dst, .unOp .not tx x, ty, pos, af, g⟩ cg (.bool (!b)) :=
  ov_run fun h a ha w _ => by simp [execOp, ha.evalc hx (h1 h), Op.unary]

theorem run_beql {b b' : Bool} {w : World} (ht : P.underlying tx = some .bool) : (binOp .eql tx (.bool b) (.bool b')).run P w = .ok (.bool (decide (b = b'))) w := by
  have h : ∀ d : Nat, (Op.equalIn (d + 1) tx (.bool b) (.bool b')).run P w = .ok (b == b') w := fun d => run_equalIn_bool' w d tx b b' ht
  simp only [binOp]
  simp [Op.equal, Op.maxDepth, h 9999]
  cases b <;> cases b' <;> rfl
theorem run_bneq {b b' : Bool} {w : World} (ht : P.underlying tx = some .bool) : (binOp .neq tx (.bool b) (.bool b')).run P w = .ok (.bool (!decide (b = b'))) w := by
  have h : ∀ d : Nat, (Op.equalIn (d + 1) tx (.bool b) (.bool b')).run P w = .ok (b == b') w := fun d => run_equalIn_bool' w d tx b b' ht
  simp only [binOp]
  simp [Op.equal, Op.maxDepth, h 9999]
  cases b <;> cases b' <;> rfl
theorem ov_beql {b b' : Bool} (hx : ev E x = some (cx, .bool b)) (hy : ev E y = some (cy, .bool b')) (h1 : Imp cg cx) (h2 : Imp cg cy) (ht : P.underlying tx = some .bool) :
    OpV P n E C ⟨dst, .binOp .eql tx x y tyy, ty, pos, af, g⟩ cg (.bool (decide (b = b'))) :=
  ov_run fun h _ ha _ _ => run_bin (ha.evalc hx (h1 h)) (ha.evalc hy (h2 h)) guard_bool (run_beql ht)
theorem ov_bneq {b b' : Bool} (hx : ev E x = some (cx, .bool b)) (hy : ev E y = some (cy, .bool b')) (h1 : Imp cg cx) (h2 : Imp cg cy) (ht : P.underlying tx = some .bool) :
    OpV P n E C ⟨dst, .binOp .neq tx x y tyy, ty, pos, af, g⟩ cg (.bool (!decide (b = b'))) :=
  ov_run fun h _ ha _ _ => run_bin (ha.evalc hx (h1 h)) (ha.evalc hy (h2 h)) guard_bool (run_bneq ht)

/-! ### strings -/
variable {s r : List UInt8}
set_option linter.unusedVariables false in
theorem ov_str {op : BinOp} {v : Value} (hx : ev E x = some (cx, str s)) (hy : ev E y = some (cy, str r)) (h1 : Imp cg cx) (h2 : Imp cg cy)
    (hr : cg = true → ∀ w, (binOp op tx (str s) (str r)).run P w = .ok v w) : OpV P n E C ⟨dst, .binOp op tx x y tyy, ty, pos, af, g⟩ cg v :=
  ov_run fun h a ha w _ => run_bin (ha.evalc hx (h1 h)) (ha.evalc hy (h2 h)) guard_str (hr h w)
theorem beq_dec {α : Type} [BEq α] [LawfulBEq α] [DecidableEq α] (a b : α) : (a == b) = decide (a = b) := by
  by_cases h : a = b <;> simp [h]
theorem ov_seql (hx : ev E x = some (cx, str s)) (hy : ev E y = some (cy, str r)) (h1 : Imp cg cx) (h2 : Imp cg cy) :
    OpV P n E C ⟨dst, .binOp .eql tx x y tyy, ty, pos, af, g⟩ cg (.bool (decide (s = r))) :=
  ov_str hx hy h1 h2 fun h w => by simp [binOp, Op.stringOp, beq_dec]
theorem ov_sneq (hx : ev E x = some (cx, str s)) (hy : ev E y = some (cy, str r)) (h1 : Imp cg cx) (h2 : Imp cg cy) :
    OpV P n E C ⟨dst, .binOp .neq tx x y tyy, ty, pos, af, g⟩ cg (.bool (!decide (s = r))) :=
  ov_str hx hy h1 h2 fun h w => by simp [binOp, Op.stringOp, beq_dec]
theorem str_append (s r : List UInt8) : (ByteArray.mk s.toArray) ++ (ByteArray.mk r.toArray) = ByteArray.mk (s ++ r).toArray := by
  apply ByteArray.ext
  simp
theorem size_str (s : List UInt8) : (ByteArray.mk s.toArray).size = s.length := by simp [ByteArray.size]
theorem ov_sadd (hx : ev E x = some (cx, str s)) (hy : ev E y = some (cy, str r)) (h1 : Imp cg cx) (h2 : Imp cg cy) (hf : cg = true → s.length + r.length ≤ 9223372036854775807) :
    OpV P n E C ⟨dst, .binOp .add tx x y tyy, ty, pos, af, g⟩ cg (str (s ++ r)) :=
  ov_str hx hy h1 h2 fun h w => by
    have hf := hf h
    have h3 : ¬ (((s.length + r.length : Nat) : Int) > IntKind.i64.max) := by simp [IntKind.max, IntKind.signed, IntKind.bits]; omega
    simp only [binOp, Op.stringOp, size_str, str_append]
    rw [if_neg h3]
    rfl
theorem ov_slen {t : TypeId} (hx : ev E x = some (cx, str s)) (h1 : Imp cg cx) (ht : P.underlying t = some .string) :
    OpV P n E C ⟨dst, .call ⟨.builtin .len, #[x], #[t]⟩, ty, pos, af, g⟩ cg (i64 (s.length : Int)) :=
  ov_run fun h a ha w _ => by
    have := ha.evalc hx (h1 h)
    simp [execOp, resolve, invoke, builtin, this, Builtin.len_, run_underlying ht, goInt, size_str]
theorem ov_sindex {k1 : IntKind} {i : Nat} (hx : ev E x = some (cx, str s)) (hy : ev E y = some (cy, .int k1 u)) (hi : u = (i : Int)) (h1 : Imp cg cx) (h2 : Imp cg cy) (ht : P.underlying tx = some .string) (hf : cg = true → i < s.length) :
    OpV P n E C ⟨dst, .index tx x y, ty, pos, af, g⟩ cg (byt (s.getD i 0)) :=
  ov_run fun h a ha w _ => by
    have hf := hf h
    subst hi
    simp only [execOp, ha.evalc hx (h1 h), ha.evalc hy (h2 h)]
    have h0 : 0 ≤ (i : Int) ∧ (i : Int) < ((ByteArray.mk s.toArray).size : Int) := by rw [size_str]; omega
    rw [Sem.run_bind, run_index_string w tx _ _ _ ht, dif_pos h0]
    have he : (ByteArray.mk s.toArray)[((i : Int)).toNat]'(by omega) = s.getD i 0 := by
      have : (ByteArray.mk s.toArray)[((i : Int)).toNat]'(by omega) = s[i] := by simp [ByteArray.getElem_eq_getElem_data]
      rw [this]; simp [List.getD_eq_getElem?_getD, hf]
    rw [he]; rfl
theorem extract_str (s : List UInt8) (a b : Nat) : (ByteArray.mk s.toArray).extract a b = ByteArray.mk ((s.drop a).take (b - a)).toArray := ByteArray.extract_mk s a b
/-- s[a:b], s[a:], s[:b] -/
theorem ov_slice {lo hi : Operand} {cl ch : Bool} {k1 k2 : IntKind} {i j : Nat} (hx : ev E x = some (cx, str s)) (hl : ev E lo = some (cl, .int k1 u)) (hh : ev E hi = some (ch, .int k2 z)) (hi1 : u = (i : Int)) (hi2 : z = (j : Int))
    (h1 : Imp cg cx) (h2 : Imp cg cl) (h3 : Imp cg ch) (ht : P.underlying tx = some .string) (hf : cg = true → i ≤ j ∧ j ≤ s.length) :
    OpV P n E C ⟨dst, .slice tx x (some lo) (some hi) none, ty, pos, af, g⟩ cg (str ((s.drop i).take (j - i))) :=
  ov_run fun h a ha w _ => by
    obtain ⟨ha1, hb1⟩ := hf h
    subst hi1; subst hi2
    have := run_slice_string (P := P) w tx ⟨s.toArray⟩ k1 k2 (i : Int) (j : Int) ht (by omega) (by omega) (by rw [size_str]; omega)
    simp only [execOp, ha.evalc hx (h1 h), Option.map, ha.evalc hl (h2 h), ha.evalc hh (h3 h), Sem.run_bind, run_sliceAt_string w tx _ _ _ _ ht, this]
    simp [extract_str]
theorem ov_from {lo : Operand} {cl : Bool} {k1 : IntKind} {i : Nat} (hx : ev E x = some (cx, str s)) (hl : ev E lo = some (cl, .int k1 u)) (hi1 : u = (i : Int))
    (h1 : Imp cg cx) (h2 : Imp cg cl) (ht : P.underlying tx = some .string) (hf : cg = true → i ≤ s.length) :
    OpV P n E C ⟨dst, .slice tx x (some lo) none none, ty, pos, af, g⟩ cg (str (s.drop i)) :=
  ov_run fun h a ha w _ => by
    have ha1 := hf h
    subst hi1
    have := run_slice_string_from_if (P := P) w tx ⟨s.toArray⟩ k1 (i : Int) ht
    simp only [execOp, ha.evalc hx (h1 h), Option.map, ha.evalc hl (h2 h), Sem.run_bind, run_sliceAt_string w tx _ _ _ _ ht, this]
    rw [size_str, if_pos (by omega)]
    simp [extract_str, List.take_of_length_le]
theorem ov_to {hi : Operand} {ch : Bool} {k2 : IntKind} {j : Nat} (hx : ev E x = some (cx, str s)) (hh : ev E hi = some (ch, .int k2 z)) (hi2 : z = (j : Int))
    (h1 : Imp cg cx) (h3 : Imp cg ch) (ht : P.underlying tx = some .string) (hf : cg = true → j ≤ s.length) :
    OpV P n E C ⟨dst, .slice tx x none (some hi) none, ty, pos, af, g⟩ cg (str (s.take j)) :=
  ov_run fun h a ha w _ => by
    have hb1 := hf h
    subst hi2
    have := run_slice_string_to_if (P := P) w tx ⟨s.toArray⟩ k2 (j : Int) ht
    simp only [execOp, ha.evalc hx (h1 h), Option.map, ha.evalc hh (h3 h), Sem.run_bind, run_sliceAt_string w tx _ _ _ _ ht, this]
    rw [size_str, if_pos (by omega)]
    simp [extract_str]

/-! ### tuples, functions -/
theorem tup2_0 {a b : Value} : (#[a, b] : Array Value)[0]? = some a := rfl
theorem tup2_1 {a b : Value} : (#[a, b] : Array Value)[1]? = some b := rfl
theorem tup3_0 {a b c : Value} : (#[a, b, c] : Array Value)[0]? = some a := rfl
theorem tup3_1 {a b c : Value} : (#[a, b, c] : Array Value)[1]? = some b := rfl
theorem tup3_2 {a b c : Value} : (#[a, b, c] : Array Value)[2]? = some c := rfl
theorem ov_extract {vs : Array Value} {i : Nat} {v : Value} (hx : ev E x = some (cx, .tuple vs)) (hi : vs[i]? = some v) (h1 : Imp cg cx) : OpV P n E C ⟨dst, .extract x i, ty, pos, af, g⟩ cg v :=
  ov_run fun h a ha w _ => by simp [execOp, ha.evalc hx (h1 h), Instr.extract, hi]

/-! ### calls with one result, whatever the world -/
def evs (E : Env) : List Operand → Option (List Value)
  | [] => some []
  | x :: l => match ev E x with
    | some (true, v) => (evs E l).map (v :: ·)
    | _ => none
theorem evs_eval {a : Act} (ha : Holds n E a) : ∀ {l : List Operand} {vs : List Value}, evs E l = some vs → l.map a.eval = vs
  | [], vs, h => by simp [evs] at h; simp [h]
  | x :: l, vs, h => by
    simp only [evs] at h
    cases hx : ev E x with
    | none => simp [hx] at h
    | some cv =>
      obtain ⟨c, v⟩ := cv
      cases c with
      | false => simp [hx] at h
      | true =>
        simp only [hx] at h
        cases hl : evs E l with
        | none => simp [hl] at h
        | some us =>
          simp [hl] at h
          rw [← h, List.map_cons, evs_eval ha hl, ha.eval hx]
/-- The same for an operation under a guard. -/
def evg (cg : Bool) (E : Env) : List Operand → Option (List (Bool × Value))
  | [] => some []
  | x :: l => match ev E x with
    | some cv => (evg cg E l).map (cv :: ·)
    | none => none
theorem evg_eval {a : Act} (ha : Holds n E a) : ∀ {l : List Operand} {vs : List (Bool × Value)}, evg cg E l = some vs → (∀ p ∈ vs, p.1 = true) → l.map a.eval = vs.map (·.2)
  | [], vs, h, _ => by simp [evg] at h; simp [h]
  | x :: l, vs, h, hp => by
    simp only [evg] at h
    cases hx : ev E x with
    | none => simp [hx] at h
    | some cv =>
      simp only [hx] at h
      cases hl : evg cg E l with
      | none => simp [hl] at h
      | some us =>
        simp [hl] at h
        subst h
        rw [List.map_cons, evg_eval ha hl (fun p h => hp p (List.mem_cons_of_mem _ h)), ha.evalc (c := cv.1) (v := cv.2) hx (hp cv List.mem_cons_self), List.map_cons]
/-! ### the same with what is plainly true or false said so -/
theorem dec_self {α : Type} [DecidableEq α] (a : α) : decide (a = a) = true := by simp
theorem ndec_self {α : Type} [DecidableEq α] (a : α) : (!decide (a = a)) = false := by simp
theorem dec_t {p : Prop} [Decidable p] (h : p) : decide p = true := decide_eq_true h
theorem ndec_t {p : Prop} [Decidable p] (h : p) : (!decide p) = false := by simp [h]
theorem dec_f {p : Prop} [Decidable p] (h : ¬ p) : decide p = false := decide_eq_false h
theorem ndec_f {p : Prop} [Decidable p] (h : ¬ p) : (!decide p) = true := by simp [h]
theorem band_tl (x : Bool) : (true && x) = x := rfl
theorem band_tr (x : Bool) : (x && true) = x := by cases x <;> rfl
theorem band_fl (x : Bool) : (false && x) = false := rfl
theorem bor_tl (x : Bool) : (true || x) = true := rfl
theorem bor_fl (x : Bool) : (false || x) = x := rfl
theorem bor_fr (x : Bool) : (x || false) = x := by cases x <;> rfl
theorem bnot_t : (!true) = false := rfl
theorem bnot_f : (!false) = true := rfl
theorem opv_eq {o : Oper} {b r : Bool} (h : OpV P n E C o cg (.bool b)) (hr : b = r) : OpV P n E C o cg (.bool r) := hr ▸ h
end
end Go.Eng
/-
  The engine's worlds: what a call keeps, what is its own, what is laid for good; calls; memory. Nothing of the program stands here.
-/
namespace Go.Eng
open Go.RowKit

/-- What is laid for good. -/
abbrev Ghost := Nat → Obj → Prop
def Laid (M : Ghost) (w : World) : Prop := ∀ b o, M b o → w.heap[b]? = some o
theorem Laid.ext {M : Ghost} {w w' : World} (h : Laid M w) (k : Ext w w') : Laid M w' := fun b o hm => by
  have := h b o hm
  rw [k.block b (lt_of_get this) (by simp)]; exact this

/-- The state of a call: the world in which it began, the blocks that it was lent, what it owns, what is laid. -/
structure St (w0 : World) (bs : List Nat) (H : List (Nat × Obj)) (M : Ghost) (w : World) : Prop where
  keep : Keep bs w0 w
  own : ∀ p ∈ H, w.heap[p.1]? = some p.2
  new : ∀ p ∈ H, w0.heap.size ≤ p.1 ∨ p.1 ∈ bs
  nodup : (H.map (·.1)).Nodup
  laid : Laid M w
  apart : ∀ b o, M b o → ∀ p ∈ H, p.1 ≠ b

section
variable {w0 w w' : World} {bs : List Nat} {H : List (Nat × Obj)} {M : Ghost}
theorem St.start (h : Laid M w) : St w [] [] M w := ⟨Keep.refl _ _, by simp, by simp, by simp, h, by simp⟩
theorem St.ext (h : St w0 bs H M w) (k : Ext w w') : St w0 bs H M w' where
  keep := h.keep.trans k.to
  own := fun p hp => by rw [k.block p.1 (lt_of_get (h.own p hp)) (by simp)]; exact h.own p hp
  new := h.new
  nodup := h.nodup
  laid := h.laid.ext k
  apart := h.apart
theorem St.get {b : Nat} {o : Obj} (h : St w0 bs H M w) (hm : (b, o) ∈ H) : w.heap[b]? = some o := h.own (b, o) hm
/-- A new block of the call's own. -/
theorem St.alloc (h : St w0 bs H M w) (o : Obj) : St w0 bs ((w.heap.size, o) :: H) M { w with heap := w.heap.push o } where
  keep := h.keep.trans ⟨rfl, rfl, rfl, by simp, fun b hb _ => by simp only [Array.getElem?_push]; rw [if_neg (by omega)]⟩
  own := by
    intro p hp
    rcases List.mem_cons.1 hp with rfl | hp
    · simp
    · have := h.own p hp
      have hl := lt_of_get this
      simp only [Array.getElem?_push]; rw [if_neg (by omega)]; exact this
  new := by
    intro p hp
    rcases List.mem_cons.1 hp with rfl | hp
    · exact .inl h.keep.size
    · exact h.new p hp
  nodup := by
    simp only [List.map_cons, List.nodup_cons]
    refine ⟨?_, h.nodup⟩
    intro hm
    obtain ⟨p, hp, e⟩ := List.mem_map.1 hm
    have := lt_of_get (h.own p hp)
    omega
  laid := fun b o' hm => by
    have := h.laid b o' hm
    have hl := lt_of_get this
    simp only [Array.getElem?_push]; rw [if_neg (by omega)]; exact this
  apart := by
    intro b o' hm p hp
    rcases List.mem_cons.1 hp with rfl | hp
    · have := lt_of_get (h.laid b o' hm); simp; omega
    · exact h.apart b o' hm p hp

/-- One block of a list turned. -/
inductive Upd : List (Nat × Obj) → Nat → Obj → Obj → List (Nat × Obj) → Prop where
  | here {b : Nat} {o o' : Obj} {H : List (Nat × Obj)} : Upd ((b, o) :: H) b o o' ((b, o') :: H)
  | there {b : Nat} {o o' : Obj} {H H' : List (Nat × Obj)} {p : Nat × Obj} : Upd H b o o' H' → Upd (p :: H) b o o' (p :: H')
theorem Upd.mem {H H' : List (Nat × Obj)} {b : Nat} {o o' : Obj} (h : Upd H b o o' H') : (b, o) ∈ H := by
  induction h with
  | here => exact List.mem_cons_self
  | there _ ih => exact List.mem_cons_of_mem _ ih
theorem Upd.names {H H' : List (Nat × Obj)} {b : Nat} {o o' : Obj} (h : Upd H b o o' H') : H'.map (·.1) = H.map (·.1) := by
  induction h with
  | here => rfl
  | there _ ih => simp [ih]
theorem Upd.new {H H' : List (Nat × Obj)} {b : Nat} {o o' : Obj} (h : Upd H b o o' H') (hn : (H.map (·.1)).Nodup) : ∀ p ∈ H', (p = (b, o')) ∨ (p ∈ H ∧ p.1 ≠ b) := by
  induction h with
  | here =>
    intro p hp
    simp only [List.map_cons, List.nodup_cons] at hn
    rcases List.mem_cons.1 hp with rfl | hp
    · exact .inl rfl
    · exact .inr ⟨List.mem_cons_of_mem _ hp, fun e => hn.1 (e ▸ List.mem_map_of_mem (f := (·.1)) hp)⟩
  | there hu ih =>
    intro p hp
    simp only [List.map_cons, List.nodup_cons] at hn
    rcases List.mem_cons.1 hp with rfl | hp
    · exact .inr ⟨List.mem_cons_self, fun e => hn.1 (e ▸ List.mem_map_of_mem (f := (·.1)) hu.mem)⟩
    · rcases ih hn.2 p hp with h | ⟨h, h'⟩
      · exact .inl h
      · exact .inr ⟨List.mem_cons_of_mem _ h, h'⟩
/-- A block of the call's own is turned, all others stay. -/
theorem St.upd {H' : List (Nat × Obj)} {b : Nat} {o o' : Obj} (h : St w0 bs H M w) (hu : Upd H b o o' H') (k : Keep [b] w w') (hb : w'.heap[b]? = some o') : St w0 bs H' M w' where
  keep := by
    have hm := h.new _ hu.mem
    refine ⟨k.os.trans h.keep.os, k.tape.trans h.keep.tape, k.output.trans h.keep.output, Nat.le_trans h.keep.size k.size, fun i hi hn => ?_⟩
    rw [k.block i (Nat.lt_of_lt_of_le hi h.keep.size) (by simp only [List.mem_singleton]; rintro rfl; exact hm.elim (fun h1 => by simp at h1; omega) hn)]
    exact h.keep.block i hi hn
  own := by
    intro p hp
    rcases hu.new h.nodup p hp with rfl | ⟨hp, hne⟩
    · exact hb
    · have := h.own p hp
      rw [k.block p.1 (lt_of_get this) (by simpa using hne)]; exact this
  new := by
    intro p hp
    have : p.1 ∈ H'.map (·.1) := List.mem_map_of_mem hp
    rw [hu.names] at this
    obtain ⟨q, hq, e⟩ := List.mem_map.1 this
    rw [← e]; exact h.new q hq
  nodup := by rw [hu.names]; exact h.nodup
  laid := fun i o'' hm => by
    have := h.laid i o'' hm
    rw [k.block i (lt_of_get this) (by simpa using fun e => h.apart i o'' hm _ hu.mem e.symm)]; exact this
  apart := by
    intro i o'' hm p hp
    have : p.1 ∈ H'.map (·.1) := List.mem_map_of_mem hp
    rw [hu.names] at this
    obtain ⟨q, hq, e⟩ := List.mem_map.1 this
    rw [← e]; exact h.apart i o'' hm q hq
/-- What is owned may be forgotten. -/
theorem St.drop {H' : List (Nat × Obj)} (h : St w0 bs H M w) (hs : H'.Sublist H) : St w0 bs H' M w :=
  ⟨h.keep, fun p hp => h.own p (hs.subset hp), fun p hp => h.new p (hs.subset hp), h.nodup.sublist (hs.map _), h.laid, fun b o hm p hp => h.apart b o hm p (hs.subset hp)⟩
/-- What is owned may be laid for good. -/
def With (M : Ghost) (H : List (Nat × Obj)) : Ghost := fun b o => M b o ∨ (b, o) ∈ H
theorem St.publish {H1 H2 : List (Nat × Obj)} (h : St w0 bs (H1 ++ H2) M w) : St w0 bs H2 (With M H1) w where
  keep := h.keep
  own := fun p hp => h.own p (List.mem_append_right _ hp)
  new := fun p hp => h.new p (List.mem_append_right _ hp)
  nodup := by have := h.nodup; rw [List.map_append] at this; exact (List.nodup_append.1 this).2.1
  laid := fun b o hm => by
    rcases hm with hm | hm
    · exact h.laid b o hm
    · exact h.own (b, o) (List.mem_append_left _ hm)
  apart := by
    intro b o hm p hp
    rcases hm with hm | hm
    · exact h.apart b o hm p (List.mem_append_right _ hp)
    · have := h.nodup; rw [List.map_append] at this
      have := (List.nodup_append.1 this).2.2 b (List.mem_map_of_mem (f := (·.1)) hm) p.1 (List.mem_map_of_mem (f := (·.1)) hp)
      exact fun e => this e.symm
end

/-- A call that comes back with one value, whatever new memory it has laid. -/
def RetE (w : World) (v : Value) : Ending → World → Prop := fun e w' => e = .returned v ∧ Ext w w'
/-- A call that comes back with a value of which more is said: what it has laid for good, what of it is the caller's own now. -/
def RetS (M : Ghost) (w : World) (R : Ghost → List (Nat × Obj) → Value → Prop) : Ending → World → Prop := fun e w' => ∃ v H M', e = .returned v ∧ (∀ b o, M b o → M' b o) ∧ (∀ b o, M' b o → M b o ∨ w.heap.size ≤ b) ∧ St w [] H M' w' ∧ R M' H v

section
variable {P : Program} {n : Nat} {E : Env} {k : Kont} {ops : Array Oper} {rest : List Oper} {cg : Bool}
variable {dst : Option Tmp} {ty : TypeId} {pos : String} {af : Array Edge} {g : Option (Nat × Bool)}
variable {w0 : World} {bs : List Nat} {H : List (Nat × Obj)} {M : Ghost} {C : World → Prop}

/-! ### calls -/
theorem wl_op {o : Oper} (hg : gd ops E o.guard = some true) (h : ∀ a w, Holds n E a → C w → o.wp P a w (fun a' w' => wpList P ops (k.post P) rest a' w') (k.post P)) : WL P ops (o :: rest) n E C k := ⟨fun a w ha hw => by
  have hwa := wanted_gd (ops := ops) ha hg
  unfold wpList
  rw [if_pos hwa]
  exact .inl (h a w ha hw)⟩
theorem upon_call {C : World → Prop} {o : Oper} {a : Act} {w : World} {f : FuncId} {args : Array Value} {v : Value} (hr : (execOp a.eval o).run P w = .ok (.enter f args) w) (hc : Calls P f args w fun e w' => e = .returned v ∧ Ext w w' ∧ C w') : YAt P o a C w v := by
  unfold YAt
  rw [hr]
  exact ⟨rfl, hc⟩
theorem run_callf {f : FuncId} {l : List Operand} {ats : Array TypeId} {a : Act} {w : World} {args : Array Value} (hf : ∀ args w, (callFunc f args).run P w = .ok (.enter f args) w) (ha : l.map a.eval = args.toList) :
    (execOp a.eval ⟨dst, .call ⟨.value (.func f), l.toArray, ats⟩, ty, pos, af, g⟩).run P w = .ok (.enter f args) w := by
  have : (l.map a.eval).toArray = args := by rw [ha]
  simp [execOp, resolve, Act.eval, Deferred.ofValue, invoke, this, hf]
/-- A call of a function by its name, of one result. -/
theorem ov_call {f : FuncId} {l : List Operand} {ats : Array TypeId} {vs : List (Bool × Value)} {args : Array Value} {v : Value} (hf : ∀ args w, (callFunc f args).run P w = .ok (.enter f args) w) (hl : evg cg E l = some vs)
    (hp : cg = true → vs.all (·.1) = true) (hargs : vs.map (·.2) = args.toList) (hC : ∀ w w', C w → Ext w w' → C w') (hc : cg = true → ∀ w, C w → Calls P f args w (RetE w v)) :
    OpV P n E C ⟨dst, .call ⟨.value (.func f), l.toArray, ats⟩, ty, pos, af, g⟩ cg v := ⟨fun h a ha w hw => by
  refine upon_call (run_callf hf (args := args) ?_) ((hc h w hw).mono fun e w' he => ⟨he.1, he.2, hC w w' hw he.2⟩)
  rw [evg_eval ha hl (by simpa using hp h), hargs]⟩
theorem stE {w w' : World} (h : St w0 bs H M w) (k : Ext w w') : St w0 bs H M w' := h.ext k

/-- A call whose result is told by more than a value. -/
theorem wl_callS {f : FuncId} {l : List Operand} {ats : Array TypeId} {vs : List (Bool × Value)} {args : Array Value} {d : Nat} {R : Ghost → List (Nat × Obj) → Value → Prop}
    (hg : gd ops E g = some true) (hf : ∀ args w, (callFunc f args).run P w = .ok (.enter f args) w) (hl : evg true E l = some vs) (hp : vs.all (·.1) = true) (hargs : vs.map (·.2) = args.toList) (hd : Nat.blt d n = true)
    (hc : ∀ w, St w0 bs H M w → Calls P f args w (RetS M w R))
    (h : ∀ v Hn M', (∀ b o, M b o → M' b o) → (∀ b o, M' b o → M b o ∨ w0.heap.size ≤ b) → R M' Hn v → WL P ops rest n ((d, true, v) :: E) (St w0 bs (Hn ++ H) M') k) :
    WL P ops (⟨some d, .call ⟨.value (.func f), l.toArray, ats⟩, ty, pos, af, g⟩ :: rest) n E (St w0 bs H M) k := by
  have hd : d < n := by simpa [Nat.blt_eq] using hd
  refine wl_op hg fun a w ha hw => ?_
  unfold Oper.wp
  rw [run_callf hf (args := args) (by rw [evg_eval ha hl (by simpa using hp), hargs]), Oper.upon_enter]
  refine (hc w hw).mono ?_
  rintro e w' ⟨v, Hn, M', rfl, hm, hnew, hst, hR⟩
  refine ((h v Hn M' hm (fun b o h1 => (hnew b o h1).imp id (fun h2 => Nat.le_trans hw.keep.size h2)) hR).run _ w' (ha.put hd rfl) ?_)
  have hx : Ext w w' := hst.keep
  have hold := hw.ext hx
  have hlt : ∀ p ∈ H, p.1 < w.heap.size := fun p hp => lt_of_get (hw.own p hp)
  have hge : ∀ p ∈ Hn, w.heap.size ≤ p.1 := fun p hp => by have := hst.new p hp; simpa using this
  refine ⟨hold.keep, ?_, ?_, ?_, hst.laid, ?_⟩
  · intro p hp
    rcases List.mem_append.1 hp with hp | hp
    · exact hst.own p hp
    · exact hold.own p hp
  · intro p hp
    rcases List.mem_append.1 hp with hp | hp
    · exact .inl (Nat.le_trans hw.keep.size (hge p hp))
    · exact hold.new p hp
  · rw [List.map_append, List.nodup_append]
    refine ⟨hst.nodup, hold.nodup, ?_⟩
    intro x hx y hy e
    obtain ⟨p, hp, rfl⟩ := List.mem_map.1 hx
    obtain ⟨q, hq, rfl⟩ := List.mem_map.1 hy
    have := hge p hp; have := hlt q hq; omega
  · intro b o hm' p hp
    rcases List.mem_append.1 hp with hp | hp
    · exact hst.apart b o hm' p hp
    · rcases hnew b o hm' with h1 | h1
      · exact hold.apart b o h1 p hp
      · have := hlt p hp; omega

/-! ### memory -/
theorem run_newRow (w : World) (e : TypeId) (cells : Array Value) : (newRow e cells).run P w = .ok ⟨w.heap.size, 0, none⟩ { w with heap := w.heap.push (.cells cells e) } := by
  simp [newRow]
/-- 'var x T', 'new(T)' -/
theorem wl_alloc {T : TypeId} {z : Value} {d : Nat} {l : List Value} (hg : gd ops E g = some true) (hz : ∀ w, (zeroValue T).run P w = .ok z w) (hd : Nat.blt d n = true) (hl : z.cells.toList = l)
    (h : ∀ b, WL P ops rest n ((d, true, .pointer (some ⟨b, 0, none⟩)) :: E) (St w0 bs ((b, .cells l.toArray T (0, 0)) :: H) M) k) :
    WL P ops (⟨some d, .alloc T, ty, pos, af, g⟩ :: rest) n E (St w0 bs H M) k := by
  have hd : d < n := by simpa [Nat.blt_eq] using hd
  refine wl_op hg fun a w ha hw => ?_
  subst hl
  unfold Oper.wp
  have : (execOp a.eval ⟨some d, .alloc T, ty, pos, af, g⟩).run P w = .ok (.value (.pointer (some ⟨w.heap.size, 0, none⟩))) { w with heap := w.heap.push (.cells z.cells T (0, 0)) } := by
    simp [execOp, Instr.alloc, hz, newVar, run_newRow]
  rw [this, Oper.upon_value]
  exact (h _).run _ _ (ha.put hd rfl) (hw.alloc _)
theorem wl_box {T : TypeId} {x : Operand} {v : Value} {d : Nat} {l : List Value} (hg : gd ops E g = some true) (hx : ev E x = some (true, v)) (hd : Nat.blt d n = true) (hl : v.cells.toList = l)
    (h : ∀ b, WL P ops rest n ((d, true, .pointer (some ⟨b, 0, none⟩)) :: E) (St w0 bs ((b, .cells l.toArray T (0, 0)) :: H) M) k) :
    WL P ops (⟨some d, .box T x, ty, pos, af, g⟩ :: rest) n E (St w0 bs H M) k := by
  have hd : d < n := by simpa [Nat.blt_eq] using hd
  refine wl_op hg fun a w ha hw => ?_
  subst hl
  unfold Oper.wp
  have : (execOp a.eval ⟨some d, .box T x, ty, pos, af, g⟩).run P w = .ok (.value (.pointer (some ⟨w.heap.size, 0, none⟩))) { w with heap := w.heap.push (.cells v.cells T (0, 0)) } := by
    simp [execOp, ha.eval hx, Instr.box, newVar, run_newRow]
  rw [this, Oper.upon_value]
  exact (h _).run _ _ (ha.put hd rfl) (hw.alloc _)

theorem add_addr (b o m : Nat) : (Addr.mk b o none).add m = ⟨b, o + m, none⟩ := by
  unfold Addr.add; split <;> simp_all
variable {x y : Operand} {cx cy : Bool}
theorem ov_fieldAddr {T : TypeId} {fs : Array Field} {f : Field} {i m b o : Nat} (hx : ev E x = some (cx, .pointer (some ⟨b, o, none⟩))) (h1 : Imp cg cx) (ht : P.underlying T = some (.struct fs)) (hf : fs[i]? = some f) (hs : (P.info? f.type).map (·.size) = some (m + 1)) :
    OpV P n E C ⟨dst, .fieldAddr T x i, ty, pos, af, g⟩ cg (.pointer (some ⟨b, o + f.offset, none⟩)) :=
  ov_run fun h a ha w _ => by
    obtain ⟨j, hj, hj'⟩ := Option.map_eq_some_iff.1 hs
    simp [execOp, ha.evalc hx (h1 h), Instr.fieldAt, run_underlying ht, hf, Instr.sureAddr, fieldPlace, sizeOf, typeInfo, hj, hj', add_addr]

theorem isAgg_no {t : TypeId} {d : TypeDesc} {w : World} (h : P.underlying t = some d) (h' : (match d with | .struct _ | .array _ _ => true | _ => false) = false) : (isAgg t).run P w = .ok false w := by
  cases d <;> simp_all [isAgg, run_underlying h]
theorem isAgg_struct {t : TypeId} {fs : Array Field} {w : World} (h : P.underlying t = some (.struct fs)) : (isAgg t).run P w = .ok true w := by simp [isAgg, run_underlying h]
theorem isAgg_array {t e : TypeId} {m : Nat} {w : World} (h : P.underlying t = some (.array m e)) : (isAgg t).run P w = .ok true w := by simp [isAgg, run_underlying h]
theorem cell_of {w : World} {b o : Nat} {cs : Array Value} {T : TypeId} {fz : Nat × Nat} (h : w.heap[b]? = some (.cells cs T fz)) : w.cell? ⟨b, o, none⟩ = cs[o]? := by simp [World.cell?, h]
theorem run_loadCell {w : World} {b o : Nat} {cs : Array Value} {T : TypeId} {fz : Nat × Nat} {v : Value} (h : w.heap[b]? = some (.cells cs T fz)) (hv : cs[o]? = some v) : (load ⟨b, o, none⟩).run P w = .ok v w := by
  simp [load, Sem.run, cell_of h, hv]
theorem run_loadFrom {w : World} {b o : Nat} {cs : Array Value} {T : TypeId} {fz : Nat × Nat} (h : w.heap[b]? = some (.cells cs T fz)) : ∀ (l : List Value) (i : Nat) (acc : Array Value), (∀ j, j < l.length → cs[o + i + j]? = l[j]?) →
    (loadCellsFrom ⟨b, o, none⟩ i l.length acc).run P w = .ok (acc ++ l.toArray) w
  | [], i, acc, _ => by simp [loadCellsFrom]
  | v :: l, i, acc, hl => by
    have h0 : cs[o + i]? = some v := by simpa using hl 0 (by simp)
    have := run_loadFrom h l (i + 1) (acc.push v) (fun j hj => by have := hl (j + 1) (by simp; omega); simpa [Nat.add_assoc, Nat.add_comm 1 j] using this)
    simp only [List.length_cons, loadCellsFrom, Sem.run_bind, add_addr, run_loadCell h h0, Result.andThen_ok, this]
    simp
theorem run_loadCells {w : World} {b o : Nat} {cs : Array Value} {T : TypeId} {fz : Nat × Nat} (h : w.heap[b]? = some (.cells cs T fz)) (l : List Value) (hl : ∀ j, j < l.length → cs[o + j]? = l[j]?) :
    (loadCells ⟨b, o, none⟩ l.length).run P w = .ok l.toArray w := by
  have := run_loadFrom (P := P) h l 0 #[] (by simpa using hl)
  simpa [loadCells] using this
theorem run_sizeOf {t : TypeId} {m : Nat} {w : World} (h : (P.info? t).map (·.size) = some m) : (sizeOf t).run P w = .ok m w := by
  obtain ⟨j, hj, hj'⟩ := Option.map_eq_some_iff.1 h
  simp [sizeOf, typeInfo, hj, hj']

/-- a variable of one cell is read: of one's own -/
theorem lk0 {x : Value} {l : List Value} : (x :: l).toArray[0]? = some x := rfl
theorem lk1 {a0 x : Value} {l : List Value} : (a0 :: x :: l).toArray[1]? = some x := rfl
theorem lk2 {a0 a1 x : Value} {l : List Value} : (a0 :: a1 :: x :: l).toArray[2]? = some x := rfl
theorem lk3 {a0 a1 a2 x : Value} {l : List Value} : (a0 :: a1 :: a2 :: x :: l).toArray[3]? = some x := rfl
theorem lk4 {a0 a1 a2 a3 x : Value} {l : List Value} : (a0 :: a1 :: a2 :: a3 :: x :: l).toArray[4]? = some x := rfl
theorem lk5 {a0 a1 a2 a3 a4 x : Value} {l : List Value} : (a0 :: a1 :: a2 :: a3 :: a4 :: x :: l).toArray[5]? = some x := rfl
theorem lk6 {a0 a1 a2 a3 a4 a5 x : Value} {l : List Value} : (a0 :: a1 :: a2 :: a3 :: a4 :: a5 :: x :: l).toArray[6]? = some x := rfl
theorem lk7 {a0 a1 a2 a3 a4 a5 a6 x : Value} {l : List Value} : (a0 :: a1 :: a2 :: a3 :: a4 :: a5 :: a6 :: x :: l).toArray[7]? = some x := rfl
theorem lk8 {a0 a1 a2 a3 a4 a5 a6 a7 x : Value} {l : List Value} : (a0 :: a1 :: a2 :: a3 :: a4 :: a5 :: a6 :: a7 :: x :: l).toArray[8]? = some x := rfl
theorem lk9 {a0 a1 a2 a3 a4 a5 a6 a7 a8 x : Value} {l : List Value} : (a0 :: a1 :: a2 :: a3 :: a4 :: a5 :: a6 :: a7 :: a8 :: x :: l).toArray[9]? = some x := rfl
theorem lk10 {a0 a1 a2 a3 a4 a5 a6 a7 a8 a9 x : Value} {l : List Value} : (a0 :: a1 :: a2 :: a3 :: a4 :: a5 :: a6 :: a7 :: a8 :: a9 :: x :: l).toArray[10]? = some x := rfl
theorem lk11 {a0 a1 a2 a3 a4 a5 a6 a7 a8 a9 a10 x : Value} {l : List Value} : (a0 :: a1 :: a2 :: a3 :: a4 :: a5 :: a6 :: a7 :: a8 :: a9 :: a10 :: x :: l).toArray[11]? = some x := rfl
theorem ov_load1 {t : TypeId} {d : TypeDesc} {b o : Nat} {cs : Array Value} {T : TypeId} {fz : Nat × Nat} {v : Value} (hx : ev E x = some (cx, .pointer (some ⟨b, o, none⟩))) (h1 : Imp cg cx) (ht : P.underlying t = some d)
    (hd : (match d with | .struct _ | .array _ _ => true | _ => false) = false) (hm : (b, Obj.cells cs T fz) ∈ H) (hv : cs[o]? = some v) : OpV P n E (St w0 bs H M) ⟨dst, .load t x, ty, pos, af, g⟩ cg v :=
  ov_run fun h a ha w hw => by
    simp [execOp, ha.evalc hx (h1 h), Instr.loadAt, Instr.sureAddr, loadVar, isAgg_no ht hd, cell_of (hw.get hm), hv]
/-- a whole struct -/
theorem ov_loadS {t : TypeId} {fs : Array Field} {b : Nat} {l : List Value} {T : TypeId} {fz : Nat × Nat} (hx : ev E x = some (cx, .pointer (some ⟨b, 0, none⟩))) (h1 : Imp cg cx) (ht : P.underlying t = some (.struct fs))
    (hs : (P.info? t).map (·.size) = some l.length) (hm : (b, Obj.cells l.toArray T fz) ∈ H) : OpV P n E (St w0 bs H M) ⟨dst, .load t x, ty, pos, af, g⟩ cg (.agg l.toArray) :=
  ov_run fun h a ha w hw => by
    simp [execOp, ha.evalc hx (h1 h), Instr.loadAt, Instr.sureAddr, loadVar, isAgg_struct ht, run_sizeOf hs, run_loadCells (o := 0) (hw.get hm) l (by simp)]
/-- the same of what is laid -/
theorem ov_load1M {t : TypeId} {d : TypeDesc} {b o : Nat} {cs : Array Value} {T : TypeId} {fz : Nat × Nat} {v : Value} (hx : ev E x = some (cx, .pointer (some ⟨b, o, none⟩))) (h1 : Imp cg cx) (ht : P.underlying t = some d)
    (hd : (match d with | .struct _ | .array _ _ => true | _ => false) = false) (hm : cg = true → M b (Obj.cells cs T fz)) (hv : cg = true → cs[o]? = some v) : OpV P n E (St w0 bs H M) ⟨dst, .load t x, ty, pos, af, g⟩ cg v :=
  ov_run fun h a ha w hw => by
    simp [execOp, ha.evalc hx (h1 h), Instr.loadAt, Instr.sureAddr, loadVar, isAgg_no ht hd, cell_of (hw.laid _ _ (hm h)), hv h]
theorem ov_loadSM {t : TypeId} {fs : Array Field} {b o : Nat} {cs : Array Value} {l : List Value} {T : TypeId} {fz : Nat × Nat} (hx : ev E x = some (cx, .pointer (some ⟨b, o, none⟩))) (h1 : Imp cg cx) (ht : P.underlying t = some (.struct fs))
    (hs : (P.info? t).map (·.size) = some l.length) (hm : cg = true → M b (Obj.cells cs T fz)) (hv : cg = true → ∀ j, j < l.length → cs[o + j]? = l[j]?) : OpV P n E (St w0 bs H M) ⟨dst, .load t x, ty, pos, af, g⟩ cg (.agg l.toArray) :=
  ov_run fun h a ha w hw => by
    simp [execOp, ha.evalc hx (h1 h), Instr.loadAt, Instr.sureAddr, loadVar, isAgg_struct ht, run_sizeOf hs, run_loadCells (hw.laid _ _ (hm h)) l (hv h)]

/-- Cells of a block of one's own turned. -/
def setCells (cs : List Value) : Nat → List Value → List Value
  | _, [] => cs
  | o, v :: vs => setCells (cs.set o v) (o + 1) vs
def plainV : Value → Bool
  | .agg _ | .tuple _ => false
  | _ => true
theorem run_storeCell {w : World} {b o : Nat} {l : List Value} {T : TypeId} {v : Value} (h : w.heap[b]? = some (.cells l.toArray T (0, 0))) (ho : o < l.length) (hv : plainV v = true) :
    (store ⟨b, o, none⟩ v).run P w = .ok () (w.setCell ⟨b, o, none⟩ v) := by
  have hc : w.cell? ⟨b, o, none⟩ = some l[o] := by rw [cell_of h]; simp [ho]
  have hf : w.frozen? ⟨b, o, none⟩ = false := by simp [World.frozen?, h]
  cases v <;> simp [plainV] at hv <;> simp [store, Sem.run, hc, hf]
theorem setCell_keep {w : World} {b o : Nat} {v : Value} : Keep [b] w (w.setCell ⟨b, o, none⟩ v) :=
  ⟨rfl, rfl, rfl, by simp [World.setCell], fun i _ hi => by simp only [World.setCell, Array.getElem?_modify]; rw [if_neg (by simpa using fun e => hi (by simp [e]))]⟩
theorem setCell_get {w : World} {b o : Nat} {l : List Value} {T : TypeId} {v : Value} (h : w.heap[b]? = some (.cells l.toArray T (0, 0))) : (w.setCell ⟨b, o, none⟩ v).heap[b]? = some (.cells (l.set o v).toArray T (0, 0)) := by
  simp [World.setCell, Array.getElem?_modify, h]
theorem run_storeCells {b o : Nat} {T : TypeId} : ∀ (vs : List Value) (i : Nat) (l : List Value) (w : World), w.heap[b]? = some (.cells l.toArray T (0, 0)) → o + i + vs.length ≤ l.length → vs.all plainV = true →
    ∃ w', (storeCells ⟨b, o, none⟩ vs i).run P w = .ok () w' ∧ Keep [b] w w' ∧ w'.heap[b]? = some (.cells (setCells l (o + i) vs).toArray T (0, 0))
  | [], i, l, w, h, _, _ => ⟨w, by simp [storeCells], Keep.refl _ _, by simpa [setCells] using h⟩
  | v :: vs, i, l, w, h, hl, hp => by
    simp only [List.all_cons, Bool.and_eq_true] at hp
    simp only [List.length_cons] at hl
    have h1 := run_storeCell (P := P) (o := o + i) h (by omega) hp.1
    have h2 := setCell_get (o := o + i) (v := v) h
    obtain ⟨w', h3, h4, h5⟩ := run_storeCells (o := o) vs (i + 1) (l.set (o + i) v) (w.setCell ⟨b, o + i, none⟩ v) h2 (by simp; omega) hp.2
    exact ⟨w', by simp only [storeCells, Sem.run_bind, add_addr, h1, Result.andThen_ok, h3], setCell_keep.trans h4, by simpa [setCells, Nat.add_assoc] using h5⟩
/-- a store into a block of one's own -/
theorem wl_store {t : TypeId} {b o : Nat} {l : List Value} {T : TypeId} {v : Value} {H' : List (Nat × Obj)} (hg : gd ops E g = some true) (hx : ev E x = some (true, .pointer (some ⟨b, o, none⟩))) (hy : ev E y = some (true, v)) (hs : (P.info? t).map (·.size) = some v.cells.size)
    {l' : List Value} (hu : Upd H b (.cells l.toArray T (0, 0)) (.cells l'.toArray T (0, 0)) H') (hn : setCells l o v.cells.toList = l') (hl : Nat.ble (o + v.cells.size) l.length = true) (hp : v.cells.toList.all plainV = true)
    (h : WL P ops rest n E (St w0 bs H' M) k) : WL P ops (⟨none, .store t x y, ty, pos, af, g⟩ :: rest) n E (St w0 bs H M) k := by
  refine wl_op hg fun a w ha hw => ?_
  have hl : o + v.cells.size ≤ l.length := by simpa [Nat.ble_eq] using hl
  subst hn
  obtain ⟨w', h1, h2, h3⟩ := run_storeCells (P := P) v.cells.toList 0 l w (hw.get hu.mem) (by simpa using hl) hp
  unfold Oper.wp
  have : (execOp a.eval ⟨none, .store t x y, ty, pos, af, g⟩).run P w = .ok .skip w' := by
    simp [execOp, ha.eval hx, ha.eval hy, Instr.storeAt, Instr.sureAddr, storeVar, run_sizeOf hs, h1]
  rw [this, Oper.upon_skip]
  exact h.run _ _ (by simpa [Act.put] using ha) (hw.upd hu h2 (by simpa using h3))

/-! ### the function's own end -/
theorem wr_tmp {fn : Func} {t : Nat} {v v' : Value} (hr : fn.results = #[.tmp t]) (ht : look E t = some (true, v')) (hv : v' = v) : WR n E (St w0 [] H M) (bodyPost P fn (RetE w0 v)) := ⟨fun a w ha hw => by
  refine bodyPost_ret (v := v) ?_ ha.defers ⟨rfl, hw.keep⟩
  have := ha.reads t true v' ht
  rw [results_tmp hr]
  simp [this, hv]⟩
theorem wr_tmp2 {fn : Func} {t u : Nat} {v v' r r' : Value} (hr : fn.results = #[.tmp t, .tmp u]) (ht : look E t = some (true, v')) (hu : look E u = some (true, r')) (hv : v' = v) (hv2 : r' = r) : WR n E (St w0 [] H M) (bodyPost P fn (RetE w0 (.tuple #[v, r]))) := ⟨fun a w ha hw => by
  refine bodyPost_ret (v := .tuple #[v, r]) ?_ ha.defers ⟨rfl, hw.keep⟩
  have h1 := ha.reads t true v' ht
  have h2 := ha.reads u true r' hu
  rw [results_tmp2 hr]
  simp [h1, h2, hv, hv2]⟩

/-- A call is its body's walk. -/
theorem calls_ex {fn : Func} {f : FuncId} {c : Code} {l : List Value} {w : World} {R : Ending → World → Prop} (hf : P.funcs[f]? = some fn) (hb : fn.body = some c) {m : Nat} (hm : fn.ntmps = m) (hl : l.length ≤ m) {E0 : Env}
    (hE : ∀ i cc v, look E0 i = some (cc, v) → cc = true ∧ l[i]? = some v) (h : WC P c m E0 (fun w' => w' = w) (.fin (bodyPost P fn R))) : Calls P f l.toArray w R := by
  refine calls_of_wp hf hb (h.run _ _ ⟨rfl, by simp [hm]; omega, ?_⟩ rfl)
  intro i cc v hi
  obtain ⟨rfl, hv⟩ := hE i cc v hi
  obtain ⟨hlt, rfl⟩ := List.getElem?_eq_some_iff.1 hv
  simp [Array.getElem?_append, hlt]
/-- The same from the state in which a call begins. -/
theorem calls_st {fn : Func} {f : FuncId} {c : Code} {l : List Value} {w : World} {R : Ending → World → Prop} (hM : Laid M w) (hf : P.funcs[f]? = some fn) (hb : fn.body = some c) {m : Nat} (hm : fn.ntmps = m) (hl : Nat.ble l.length m = true) {E0 : Env}
    (hE : ∀ i cc v, look E0 i = some (cc, v) → cc = true ∧ l[i]? = some v) (h : WC P c m E0 (St w [] [] M) (.fin (bodyPost P fn R))) : Calls P f l.toArray w R :=
  calls_ex hf hb hm (Nat.le_of_ble_eq_true hl) hE ⟨fun a w' ha hw => by subst hw; exact h.run a w' ha (St.start hM)⟩
theorem params_nil (l : List Value) : ∀ i cc v, look [] i = some (cc, v) → cc = true ∧ l[i]? = some v := by intro i cc v h; simp [look] at h
theorem params_cons {l : List Value} {E0 : Env} {j : Nat} {u : Value} (h : l[j]? = some u) (hE : ∀ i cc v, look E0 i = some (cc, v) → cc = true ∧ l[i]? = some v) : ∀ i cc v, look ((j, true, u) :: E0) i = some (cc, v) → cc = true ∧ l[i]? = some v := by
  intro i cc v hi
  simp only [look] at hi
  by_cases e : j = i
  · subst e; simp at hi; obtain ⟨rfl, rfl⟩ := hi; exact ⟨rfl, h⟩
  · rw [beq_no e, cond_false] at hi; exact hE i cc v hi
end
end Go.Eng
/-
  The engine at a region that draws its order: its operations are told one by one, each by what it leaves in its slot; the last ones may be walked in the order of the text. Nothing of the program stands here.
-/
namespace Go.Eng
open Go.RowKit

abbrev Tell := Value → World → Prop
abbrev REnv := List (Nat × Tell)
def lookR : REnv → Nat → Option Tell
  | [], _ => none
  | (j, V) :: G, i => bif Nat.beq j i then some V else lookR G i
/-- An entry of one value. -/
def exact1 (c : Bool) (v : Value) : Tell := fun u _ => u = bif c then v else undef
def ofEnv : Env → REnv
  | [] => []
  | (j, c, v) :: E => (j, exact1 c v) :: ofEnv E
theorem lookR_ofEnv (E : Env) (i : Nat) : lookR (ofEnv E) i = (look E i).map fun cv => exact1 cv.1 cv.2 := by
  induction E with
  | nil => rfl
  | cons p E ih =>
    obtain ⟨j, c, v⟩ := p
    simp only [ofEnv, lookR, look]
    cases h : Nat.beq j i <;> simp [ih]

def Steady (V : Tell) : Prop := ∀ u w w', Ext w w' → V u w → V u w'
theorem steady_exact (c : Bool) (v : Value) : Steady (exact1 c v) := fun _ _ _ _ h => h
/-- What is known of some slots. -/
def HR (G : REnv) (S : Nat → Prop) (a : Act) (w : World) : Prop := ∀ s U, lookR G s = some U → S s → ∃ u, a.tmps[s]? = some u ∧ U u w

section
variable {P : Program} {n : Nat} {E : Env} {C : World → Prop} {k : Kont} {ops : Array Oper}

/-- What one operation does, by the slots that it looks at. -/
structure Ob (P : Program) (ops : Array Oper) (n : Nat) (C : World → Prop) (o : Oper) (G : REnv) (V : Tell) : Prop where
  run : ∀ a w, C w → a.defers = [] → a.tmps.size = n → HR G (· ∈ o.looksAt ops) a w →
    (Region.wanted o (yielded ops a.tmps) = true → o.wp P a w (fun a' w' => ∃ v, a' = a.put o.dst v ∧ V v w' ∧ Ext w w' ∧ C w') (fun _ _ _ => False)) ∧
    (Region.wanted o (yielded ops a.tmps) = false → V undef w)

/-- The first part, told in the order of the text. -/
def WDs (P : Program) (ops : Array Oper) (n : Nat) (C : World → Prop) : List Oper → REnv → (REnv → Prop) → Prop
  | [], G, fin => fin G
  | o :: rest, G, fin => ∃ d V, o.dst = some d ∧ d < n ∧ Steady V ∧ Ob P ops n C o G V ∧ WDs P ops n C rest ((d, V) :: G) fin

/-! ### the look over a region -/
def edges (o : Oper) : List Nat := (o.after.toList.filter (Region.binds .any)).map (·.on)
def anc (ops : Array Oper) : Nat → Nat → List Nat
  | 0, _ => []
  | f + 1, i => match ops[i]? with
    | none => []
    | some o => (edges o).flatMap fun j => j :: anc ops f j
/-- a later one of the first part looks at it -/
def succs (ops : Array Oper) (m j : Nat) : Bool := (List.range m).any fun k => match ops[k]? with
  | some o => (edges o).contains j
  | none => false
/-- an operation of the tail comes behind all ahead of it, plainly -/
def tailOk (ops : Array Oper) (m i : Nat) (o : Oper) : Bool := bif Nat.beq i m then (List.range m).all (fun j => (edges o).contains j || succs ops m j) else (edges o).contains (i - 1)
/-- Edges lead back; slots are written once; who reads a slot comes behind who writes it, or ahead; who stands behind the first part comes behind all ahead of it. -/
def orderly (ops : Array Oper) (m : Nat) : Bool :=
  (List.range ops.size).all fun i => match ops[i]? with
    | none => false
    | some o =>
      (edges o).all (· < i) && (match o.op with | .select _ _ => false | _ => true) &&
      ((List.range ops.size).all fun j => match ops[j]? with
        | none => false
        | some p => j == i || ((p.dst.isNone || p.dst != o.dst) && (match p.dst with
          | none => true
          | some d => !(o.looksAt ops).contains d || (if j < i then (edges o).contains j else (edges p).contains i)))) &&
      (decide (i < m) || (tailOk ops m i o || (List.range i).all fun j => (anc ops (i + 1) i).contains j))

theorem orderly_parts {m i : Nat} {o : Oper} (h : orderly ops m = true) (hi : ops[i]? = some o) :
    (∀ j ∈ edges o, j < i) ∧ (∀ cs b, o.op ≠ .select cs b) ∧
    (∀ j p d, ops[j]? = some p → j ≠ i → p.dst = some d → o.dst ≠ some d ∧ (d ∈ o.looksAt ops → if j < i then j ∈ edges o else i ∈ edges p)) ∧
    (m ≤ i → tailOk ops m i o = true ∨ ∀ j, j < i → j ∈ anc ops (i + 1) i) := by
  have hlt : i < ops.size := by
    rcases Nat.lt_or_ge i ops.size with h' | h'
    · exact h'
    · simp [Array.getElem?_eq_none h'] at hi
  unfold orderly at h
  rw [List.all_eq_true] at h
  have h := h i (List.mem_range.2 hlt)
  rw [hi] at h
  simp only [Bool.and_eq_true, List.all_eq_true, Bool.or_eq_true, decide_eq_true_eq] at h
  obtain ⟨⟨⟨h1, h2⟩, h3⟩, h4⟩ := h
  refine ⟨h1, ?_, ?_, ?_⟩
  · intro cs b e; rw [e] at h2; simp at h2
  · intro j p d hj hne hd
    have hjlt : j < ops.size := by
      rcases Nat.lt_or_ge j ops.size with h' | h'
      · exact h'
      · simp [Array.getElem?_eq_none h'] at hj
    have h5 := h3 j (List.mem_range.2 hjlt)
    rw [hj] at h5
    simp only [hd, Bool.or_eq_true, beq_iff_eq, hne, false_or, Bool.and_eq_true] at h5
    obtain ⟨h6, h7⟩ := h5
    refine ⟨?_, ?_⟩
    · simp at h6
      exact fun e => h6 e.symm
    · intro hm
      rcases h7 with h7 | h7
      · simp [hm] at h7
      · split <;> rename_i hlt' <;> simp [hlt'] at h7 <;> exact h7
  · intro hm
    rcases h4 with h4 | h4 | h4
    · omega
    · exact .inl h4
    · exact .inr fun j hj => by simpa using h4 j (List.mem_range.2 hj)
theorem anc_mono {j : Nat} : ∀ {f f' i : Nat}, f ≤ f' → j ∈ anc ops f i → j ∈ anc ops f' i
  | 0, _, _, _, h => by simp [anc] at h
  | f + 1, f' + 1, i, hf, h => by
    simp only [anc] at h ⊢
    cases hi : ops[i]? with
    | none => simp [hi] at h
    | some o =>
      simp only [hi, List.mem_flatMap, List.mem_cons] at h ⊢
      obtain ⟨k, hk, h⟩ := h
      exact ⟨k, hk, h.imp id (anc_mono (by omega))⟩
theorem anc_trans {j k : Nat} {g : Nat} (hj : j ∈ anc ops g k) : ∀ {f i : Nat}, k ∈ anc ops f i → j ∈ anc ops (f + g) i
  | 0, _, h => by simp [anc] at h
  | f + 1, i, h => by
    rw [Nat.add_right_comm]
    simp only [anc] at h ⊢
    cases hi : ops[i]? with
    | none => simp [hi] at h
    | some o =>
      simp only [hi, List.mem_flatMap, List.mem_cons] at h ⊢
      obtain ⟨l, hl, h⟩ := h
      refine ⟨l, hl, .inr ?_⟩
      rcases h with rfl | h
      · exact anc_mono (by omega) hj
      · exact anc_trans hj h
theorem anc_edge {i j : Nat} {o : Oper} (hi : ops[i]? = some o) (hj : j ∈ edges o) : j ∈ anc ops 1 i := by
  simp only [anc, hi, List.mem_flatMap, List.mem_cons]
  exact ⟨j, hj, .inl rfl⟩
theorem anc_fuel {m : Nat} (h : orderly ops m = true) {j : Nat} : ∀ {i f : Nat}, j ∈ anc ops f i → j ∈ anc ops (i + 1) i := by
  intro i
  induction i using Nat.strongRecOn with
  | ind i ih =>
    intro f hf
    cases f with
    | zero => simp [anc] at hf
    | succ f =>
      simp only [anc] at hf ⊢
      cases hi : ops[i]? with
      | none => simp [hi] at hf
      | some o =>
        simp only [hi, List.mem_flatMap, List.mem_cons] at hf ⊢
        obtain ⟨k, hk, hf⟩ := hf
        have hki := (orderly_parts h hi).1 k hk
        exact ⟨k, hk, hf.imp id (fun hf => anc_mono (by omega) (ih k hki hf))⟩
theorem orderly_tail {m : Nat} (h : orderly ops m = true) : ∀ {i : Nat} {o : Oper}, ops[i]? = some o → m ≤ i → ∀ j, j < i → j ∈ anc ops (i + 1) i := by
  intro i
  induction i using Nat.strongRecOn with
  | ind i ih =>
    intro o hi hm j hj
    rcases (orderly_parts h hi).2.2.2 hm with ht | ht
    · unfold tailOk at ht
      by_cases e : i = m
      · subst e
        rw [Nat.beq_refl, cond_true, List.all_eq_true] at ht
        -- downward
        have key : ∀ n j, i - j ≤ n → j < i → ∃ f, j ∈ anc ops f i := by
          intro n
          induction n with
          | zero => intro j h1 h2; omega
          | succ n ihn =>
            intro j h1 h2
            have h3 := ht j (List.mem_range.2 h2)
            simp only [Bool.or_eq_true] at h3
            rcases h3 with h3 | h3
            · exact ⟨1, anc_edge hi (by simpa using h3)⟩
            · unfold succs at h3
              rw [List.any_eq_true] at h3
              obtain ⟨k, hk, h3⟩ := h3
              have hk := List.mem_range.1 hk
              cases hko : ops[k]? with
              | none => simp [hko] at h3
              | some p =>
                simp only [hko] at h3
                have hjk : j ∈ edges p := by simpa using h3
                have hlt := (orderly_parts h hko).1 j hjk
                obtain ⟨f, hf⟩ := ihn k (by omega) hk
                exact ⟨f + 1, anc_trans (anc_edge hko hjk) hf⟩
        obtain ⟨f, hf⟩ := key _ j (Nat.le_refl _) hj
        exact anc_fuel h hf
      · rw [beq_no e, cond_false] at ht
        have he : i - 1 ∈ edges o := by simpa using ht
        have h1 := anc_edge hi he
        by_cases ej : j = i - 1
        · subst ej; exact anc_fuel h h1
        · have hlt : i - 1 < ops.size := by
            have : i < ops.size := by
              rcases Nat.lt_or_ge i ops.size with h' | h'
              · exact h'
              · simp [Array.getElem?_eq_none h'] at hi
            omega
          have := ih (i - 1) (by omega) (o := ops[i - 1]) (by simp [hlt]) (by omega) j (by omega)
          exact anc_fuel h (anc_trans this h1)
    · exact ht j hj
theorem orderly_at {m i : Nat} {o : Oper} (h : orderly ops m = true) (hi : ops[i]? = some o) :
    (∀ j ∈ edges o, j < i) ∧ (∀ cs b, o.op ≠ .select cs b) ∧
    (∀ j p d, ops[j]? = some p → j ≠ i → p.dst = some d → o.dst ≠ some d ∧ (d ∈ o.looksAt ops → if j < i then j ∈ edges o else i ∈ edges p)) ∧
    (m ≤ i → ∀ j, j < i → j ∈ anc ops (i + 1) i) :=
  ⟨(orderly_parts h hi).1, (orderly_parts h hi).2.1, (orderly_parts h hi).2.2.1, orderly_tail h hi⟩

/-! ### the order -/
abbrev On (listed : Array Bool) (j : Nat) : Prop := listed.getD j false = true
theorem mem_edges {o : Oper} {j : Nat} : j ∈ edges o ↔ ∃ e ∈ o.after, Region.binds .any e = true ∧ e.on = j := by
  simp [edges, and_assoc]
theorem on_set {listed : Array Bool} {i j : Nat} (hi : i < listed.size) : On (listed.setIfInBounds i true) j ↔ (j = i ∨ On listed j) := by
  by_cases e : i = j
  · subst e; simp [On, hi]
  · have : ¬ j = i := fun h => e h.symm
    simp [On, this, Array.getElem?_setIfInBounds_ne e]

structure Closed (ops : Array Oper) (listed : Array Bool) : Prop where
  size : listed.size = ops.size
  back : ∀ i o, ops[i]? = some o → On listed i → ∀ j ∈ edges o, On listed j
theorem anc_on {listed : Array Bool} (hc : Closed ops listed) : ∀ (f i : Nat) (o : Oper), ops[i]? = some o → (∀ j ∈ edges o, On listed j) → ∀ j ∈ anc ops f i, On listed j
  | 0, _, _, _, _, j, hj => by simp [anc] at hj
  | f + 1, i, o, hi, hr, j, hj => by
    simp only [anc, hi, List.mem_flatMap, List.mem_cons] at hj
    obtain ⟨l, hl, hj⟩ := hj
    rcases hj with rfl | hj
    · exact hr _ hl
    · have hon := hr l hl
      have hlt : l < ops.size := by
        rw [← hc.size]
        rcases Nat.lt_or_ge l listed.size with h' | h'
        · exact h'
        · simp [On, Array.getElem?_eq_none h'] at hon
      have hlo : ops[l]? = some ops[l] := by simp [hlt]
      exact anc_on hc f l _ hlo (hc.back l _ hlo hon) j hj

theorem ready_iff {listed : Array Bool} (hs : listed.size = ops.size) {j : Nat} : j ∈ Region.ready .any ops listed ↔ ∃ o, ops[j]? = some o ∧ ¬ On listed j ∧ ∀ l ∈ edges o, On listed l := by
  rw [mem_ready]
  constructor
  · rintro ⟨h1, o, h2, h3⟩
    refine ⟨o, h2, ?_, ?_⟩
    · intro h4
      rcases Nat.lt_or_ge j listed.size with h' | h'
      · simp [On, h'] at h1 h4; rw [h1] at h4; cases h4
      · simp [Array.getElem?_eq_none h'] at h1
    · intro l hl
      obtain ⟨e, he, hb, rfl⟩ := mem_edges.1 hl
      exact h3 e he hb
  · rintro ⟨o, h1, h2, h3⟩
    have hlt : j < ops.size := by
      rcases Nat.lt_or_ge j ops.size with h' | h'
      · exact h'
      · simp [Array.getElem?_eq_none h'] at h1
    refine ⟨?_, o, h1, fun e he hb => h3 _ (mem_edges.2 ⟨e, he, hb, rfl⟩)⟩
    have : j < listed.size := by omega
    simp [On, this] at h2 ⊢
    exact h2

/-- How many are still to come. -/
def left (listed : Array Bool) : Nat := listed.toList.countP (fun b => !b)
theorem left_set {listed : Array Bool} {i : Nat} (hi : i < listed.size) (h : ¬ On listed i) : left (listed.setIfInBounds i true) + 1 = left listed := by
  have hf : listed[i] = false := by simpa [On, hi] using h
  have hl : i < listed.toList.length := by simpa using hi
  have hm : listed.toList[i] = false := by simpa using hf
  unfold left
  have h0 : 0 < listed.toList.countP (fun b => !b) := List.countP_pos_iff.2 ⟨false, by rw [← hm]; exact List.getElem_mem hl, rfl⟩
  have h1 : (listed.toList.set i true).countP (fun b => !b) = listed.toList.countP (fun b => !b) - 1 := by
    rw [List.countP_set hl, hm]; simp
  rw [Array.toList_setIfInBounds, h1]
  omega
theorem left_zero {listed : Array Bool} (h : left listed = 0) {j : Nat} (hj : j < listed.size) : On listed j := by
  unfold left at h
  rw [List.countP_eq_zero] at h
  have := h listed[j] (by simp)
  simpa [On, hj] using this

/-- The told entries ahead of an operation. -/
def Gam (ops : Array Oper) (Vs : Nat → Tell) (G0 : REnv) : Nat → REnv
  | 0 => G0
  | i + 1 => match (ops[i]?).bind (·.dst) with
    | some d => (d, Vs i) :: Gam ops Vs G0 i
    | none => Gam ops Vs G0 i
theorem look_gam {Vs : Nat → Tell} {G0 : REnv} {s : Nat} {U : Tell} : ∀ {i : Nat}, lookR (Gam ops Vs G0 i) s = some U →
    (∃ j o, j < i ∧ ops[j]? = some o ∧ o.dst = some s ∧ U = Vs j) ∨ (lookR G0 s = some U ∧ ∀ j o, j < i → ops[j]? = some o → o.dst ≠ some s)
  | 0, h => .inr ⟨h, fun j o hj => by omega⟩
  | i + 1, h => by
    simp only [Gam] at h
    cases hd : (ops[i]?).bind (·.dst) with
    | none =>
      rw [hd] at h
      rcases look_gam h with ⟨j, o, hj, ho, hs, hU⟩ | ⟨h0, hn⟩
      · exact .inl ⟨j, o, by omega, ho, hs, hU⟩
      · refine .inr ⟨h0, fun j o hj ho => ?_⟩
        by_cases e : j = i
        · subst e; intro hs; simp [ho, hs] at hd
        · exact hn j o (by omega) ho
    | some d =>
      rw [hd] at h
      obtain ⟨oi, hoi, hdi⟩ := Option.bind_eq_some_iff.1 hd
      simp only [lookR] at h
      by_cases e : d = s
      · subst e
        simp at h
        exact .inl ⟨i, oi, by omega, hoi, hdi, h.symm⟩
      · rw [beq_no e, cond_false] at h
        rcases look_gam h with ⟨j, o, hj, ho, hs, hU⟩ | ⟨h0, hn⟩
        · exact .inl ⟨j, o, by omega, ho, hs, hU⟩
        · refine .inr ⟨h0, fun j o hj ho => ?_⟩
          by_cases e' : j = i
          · subst e'; rw [hoi] at ho; obtain rfl : oi = o := by simpa using ho
            rw [hdi]; simpa using e
          · exact hn j o (by omega) ho

theorem wds_out : ∀ (l : List Oper) (i : Nat) (G : REnv) (fin : REnv → Prop), (∀ j, j < l.length → ops[i + j]? = l[j]?) → WDs P ops n C l G fin →
    ∃ Vs : Nat → Tell, (∀ j, j < l.length → ∃ o d, ops[i + j]? = some o ∧ o.dst = some d ∧ d < n ∧ Steady (Vs j) ∧ Ob P ops n C o (Gam (ops.extract i ops.size) Vs G j) (Vs j)) ∧ fin (Gam (ops.extract i ops.size) Vs G l.length)
  | [], i, G, fin, _, h => ⟨fun _ => fun _ _ => True, by simp, h⟩
  | o :: rest, i, G, fin, hl, h => by
    obtain ⟨d, V, hd, hdn, hst, hob, hr⟩ := h
    have hoi : ops[i]? = some o := by simpa using hl 0 (by simp)
    obtain ⟨Vs, h1, h2⟩ := wds_out rest (i + 1) ((d, V) :: G) fin (fun j hj => by have := hl (j + 1) (by simp; omega); simpa [Nat.add_assoc, Nat.add_comm 1 j] using this) hr
    have hilt : i < ops.size := by
      rcases Nat.lt_or_ge i ops.size with h' | h'
      · exact h'
      · simp [Array.getElem?_eq_none h'] at hoi
    have key : ∀ j, Gam (ops.extract i ops.size) (fun | 0 => V | q + 1 => Vs q) G (j + 1) = Gam (ops.extract (i + 1) ops.size) Vs ((d, V) :: G) j := by
      intro j
      induction j with
      | zero =>
        have : (ops.extract i ops.size)[0]? = some o := by rw [Array.getElem?_extract, if_pos (by omega)]; simpa using hoi
        simp [Gam, this, hd]
      | succ j ih =>
        have e : (ops.extract i ops.size)[j + 1]? = (ops.extract (i + 1) ops.size)[j]? := by
          simp only [Array.getElem?_extract]
          have : i + (j + 1) = i + 1 + j := by omega
          rw [this]
          by_cases h' : j < min ops.size ops.size - (i + 1)
          · rw [if_pos (by omega), if_pos h']
          · rw [if_neg (by omega), if_neg h']
        have hS : ∀ (q : Nat) (A : Array Oper) (W : Nat → Tell) (G : REnv), Gam A W G (q + 1) = match (A[q]?).bind (·.dst) with | some d => (d, W q) :: Gam A W G q | none => Gam A W G q := fun _ _ _ _ => rfl
        rw [hS (j + 1) (ops.extract i ops.size) _ G, hS j (ops.extract (i + 1) ops.size) Vs, e, ih]
    refine ⟨fun | 0 => V | q + 1 => Vs q, ?_, ?_⟩
    · intro j hj
      cases j with
      | zero => exact ⟨o, d, by simpa using hoi, hd, hdn, hst, hob⟩
      | succ j =>
        obtain ⟨o', d', ho', hd', hdn', hst', hob'⟩ := h1 j (by simpa using hj)
        exact ⟨o', d', by rw [← ho']; congr 1; omega, hd', hdn', hst', by rw [key]; exact hob'⟩
    · rw [List.length_cons, key]; exact h2

/-- All told entries hold. -/
def HA (n : Nat) (G : REnv) (a : Act) (w : World) : Prop := a.defers = [] ∧ a.tmps.size = n ∧ HR G (fun _ => True) a w

theorem wpOp_tail {Q : Exit → Act → World → Prop} {K : Act → World → Prop} {i : Nat} {o : Oper} {rest : List Oper} {a : Act} {w : World} (hi : ops[i]? = some o) (h : wpList P ops Q (o :: rest) a w)
    (hK : ∀ a w, wpList P ops Q rest a w → K a w) : wpOp P ops Q i K a w := by
  unfold wpOp
  simp only [hi]
  unfold wpList at h
  split
  · rename_i hw; rw [if_pos hw] at h; exact h.imp (Oper.wp_mono hK) id
  · rename_i hw; rw [if_neg hw] at h; exact hK _ _ h
/-- The last ones come in the order of the text. -/
theorem tail_any {Q : Exit → Act → World → Prop} {m : Nat} (hord : orderly ops m = true) : ∀ (l : List Oper) (i : Nat) (listed : Array Bool) (a : Act) (w : World), m ≤ i → i + l.length = ops.size → (∀ j, j < l.length → ops[i + j]? = l[j]?) →
    listed.size = ops.size → (∀ j, On listed j ↔ j < i) → wpList P ops Q l a w → wpAny P .any ops Q l.length listed a w
  | [], i, listed, a, w, _, hN, _, hs, hon, h => by
    refine ⟨?_, h⟩
    cases hr : Region.ready .any ops listed with
    | nil => rfl
    | cons x xs =>
      have : x ∈ Region.ready .any ops listed := by rw [hr]; exact List.mem_cons_self
      obtain ⟨o, ho, hno, _⟩ := (ready_iff hs).1 this
      have : x < ops.size := by
        rcases Nat.lt_or_ge x ops.size with h' | h'
        · exact h'
        · simp [Array.getElem?_eq_none h'] at ho
      exact absurd ((hon x).2 (by simp at hN; omega)) hno
  | o :: l, i, listed, a, w, hm, hN, hl, hs, hon, h => by
    simp only [List.length_cons] at hN
    have hoi : ops[i]? = some o := by simpa using hl 0 (by simp)
    have hcl : Closed ops listed := ⟨hs, fun q p hp hq j hj => (hon j).2 (Nat.lt_trans ((orderly_at hord hp).1 j hj) ((hon q).1 hq))⟩
    have hri : i ∈ Region.ready .any ops listed := (ready_iff hs).2 ⟨o, hoi, by rw [hon]; omega, fun j hj => (hon j).2 ((orderly_at hord hoi).1 j hj)⟩
    refine ⟨fun h0 => (by rw [h0] at hri; cases hri), fun q hq => ?_⟩
    obtain ⟨p, hp, hnq, hrq⟩ := (ready_iff hs).1 hq
    have hqi : q = i := by
      rw [hon] at hnq
      by_cases e : q = i
      · exact e
      · have := anc_on hcl (q + 1) q p hp hrq i ((orderly_at hord hp).2.2.2 (by omega) i (by omega))
        rw [hon] at this; omega
    subst hqi
    refine wpOp_tail hoi h fun a' w' h' => ?_
    refine tail_any hord l (q + 1) _ a' w' (by omega) (by omega) (fun j hj => by have := hl (j + 1) (by simp; omega); simpa [Nat.add_assoc, Nat.add_comm 1 j] using this) (by simpa using hs) ?_ h'
    intro j
    rw [on_set (by omega), hon]; omega

/-- The state in the midst of the first part. -/
structure Mid (ops : Array Oper) (n m : Nat) (C : World → Prop) (Vs : Nat → Tell) (G0 : REnv) (listed : Array Bool) (a : Act) (w : World) : Prop where
  closed : Closed ops listed
  inC : C w
  defers : a.defers = []
  size : a.tmps.size = n
  few : ∀ j, On listed j → j < m
  vals : ∀ j o d, On listed j → ops[j]? = some o → o.dst = some d → ∃ u, a.tmps[d]? = some u ∧ Vs j u w
  base : ∀ s U, lookR G0 s = some U → (∀ j o, On listed j → ops[j]? = some o → o.dst ≠ some s) → ∃ u, a.tmps[s]? = some u ∧ U u w

theorem mid_all {Q : Exit → Act → World → Prop} {m : Nat} {Vs : Nat → Tell} {G0 : REnv} (hord : orderly ops m = true) (hm : m ≤ ops.size) (hst0 : ∀ s U, lookR G0 s = some U → Steady U)
    (hV : ∀ j, j < m → ∃ o d, ops[j]? = some o ∧ o.dst = some d ∧ d < n ∧ Steady (Vs j) ∧ Ob P ops n C o (Gam ops Vs G0 j) (Vs j))
    (hfin : ∀ a w, C w → HA n (Gam ops Vs G0 m) a w → wpList P ops Q (ops.toList.drop m) a w) :
    ∀ (fuel : Nat) (listed : Array Bool) (a : Act) (w : World), left listed = fuel → Mid ops n m C Vs G0 listed a w → wpAny P .any ops Q fuel listed a w := by
  -- all of the prefix is done
  have done : ∀ (fuel : Nat) (listed : Array Bool) (a : Act) (w : World), left listed = fuel → Mid ops n m C Vs G0 listed a w → (∀ j, j < m → On listed j) → wpAny P .any ops Q fuel listed a w := by
    intro fuel listed a w hf hmid hall
    have hon : ∀ j, On listed j ↔ j < m := fun j => ⟨hmid.few j, hall j⟩
    have hlen : left listed = (ops.toList.drop m).length := by
      have : listed = Array.ofFn (n := ops.size) (fun i => decide (i.val < m)) := by
        apply Array.ext
        · simp [hmid.closed.size]
        · intro i h1 h2
          have := hon i
          simp [On, h1] at this
          simp
          cases hb : listed[i] with
          | true => simp [← this, hb]
          | false => simp [hb] at this; simp; omega
      have hc : ∀ (q : Nat), (List.ofFn (n := q) (fun i => decide (i.val < m))).countP (fun b => !b) = q - m := by
        intro q
        induction q with
        | zero => simp
        | succ q ih =>
          rw [List.ofFn_succ_last]
          simp only [List.countP_append, Fin.val_castSucc] 
          rw [ih]
          by_cases h' : q < m
          · simp [h']; omega
          · simp [h']; omega
      unfold left
      rw [this, Array.toList_ofFn, hc]
      simp
    rw [← hf, hlen]
    refine tail_any hord (ops.toList.drop m) m listed a w (Nat.le_refl _) (by simp; omega) (fun j hj => by simp) hmid.closed.size hon (hfin a w hmid.inC ⟨hmid.defers, hmid.size, ?_⟩)
    intro s U hs _
    rcases look_gam hs with ⟨j, o, hj, ho, hd, rfl⟩ | ⟨h0, hn⟩
    · exact hmid.vals j o s (hall j hj) ho hd
    · exact hmid.base s U h0 (fun j o hj ho => hn j o ((hon j).1 hj) ho)
  intro fuel
  induction fuel with
  | zero =>
    intro listed a w hf hmid
    exact done 0 listed a w hf hmid (fun j hj => left_zero hf (by rw [hmid.closed.size]; omega))
  | succ fuel ih =>
    intro listed a w hf hmid
    by_cases hall : ∀ j, j < m → On listed j
    · exact done _ listed a w hf hmid hall
    have hready : ∃ i o, i < m ∧ ops[i]? = some o ∧ ¬ On listed i ∧ ∀ l ∈ edges o, On listed l := by
      have : ∃ i, i < m ∧ ¬ On listed i := by
        rcases Classical.em (∃ i, i < m ∧ ¬ On listed i) with h' | h'
        · exact h'
        · exact absurd (fun j hj => Classical.byContradiction fun hn => h' ⟨j, hj, hn⟩) hall
      obtain ⟨i, ⟨hi, hni⟩, hleast⟩ := exists_least this
      have hilt : i < ops.size := by omega
      refine ⟨i, ops[i], hi, by simp [hilt], hni, fun l hl => ?_⟩
      have hli := (orderly_at hord (i := i) (o := ops[i]) (by simp [hilt])).1 l hl
      exact Classical.byContradiction fun hn => by have := hleast l ⟨by omega, hn⟩; omega
    refine ⟨fun h0 => ?_, fun i hi => ?_⟩
    · obtain ⟨i, o, him, ho, hno, hr⟩ := hready
      have : i ∈ Region.ready .any ops listed := (ready_iff hmid.closed.size).2 ⟨o, ho, hno, hr⟩
      rw [h0] at this; cases this
    · obtain ⟨o, ho, hno, hr⟩ := (ready_iff hmid.closed.size).1 hi
      have hord1 := orderly_at hord ho
      have him : i < m := by
        rcases Nat.lt_or_ge i m with h' | h'
        · exact h'
        · obtain ⟨q, p, hqm, hp, hnq, _⟩ := hready
          exact absurd (anc_on hmid.closed (i + 1) i o ho hr q (hord1.2.2.2 h' q (by omega))) hnq
      obtain ⟨o', d, ho', hd, hdn, hst, hob⟩ := hV i him
      obtain rfl : o = o' := by rw [ho] at ho'; simpa using ho'
      have hilt : i < listed.size := by rw [hmid.closed.size]; omega
      have hHR : HR (Gam ops Vs G0 i) (· ∈ o.looksAt ops) a w := by
        intro s U hs hlook
        rcases look_gam hs with ⟨j, p, hj, hp, hd', rfl⟩ | ⟨h0, hn⟩
        · have := ((hord1.2.2.1 j p s hp (by omega) hd').2 hlook)
          rw [if_pos hj] at this
          exact hmid.vals j p s (hr j this) hp hd'
        · refine hmid.base s U h0 (fun j p hj hp hs' => ?_)
          by_cases hji : j < i
          · exact hn j p hji hp hs'
          · have hne : j ≠ i := fun e => hno (e ▸ hj)
            have := ((hord1.2.2.1 j p s hp hne hs').2 hlook)
            rw [if_neg hji] at this
            exact hno (hmid.closed.back j p hp hj i this)
      have hnext : ∀ v w', Vs i v w' → Ext w w' → C w' → wpAny P .any ops Q fuel (listed.setIfInBounds i true) (a.put (some d) v) w' := by
        intro v w' hv hx hC'
        refine ih _ _ _ (by have := left_set hilt hno; omega) ⟨⟨by simpa using hmid.closed.size, ?_⟩, hC', hmid.defers, by simp [Act.put, hmid.size], ?_, ?_, ?_⟩
        · intro q p hp hq j hj
          rw [on_set hilt] at hq ⊢
          rcases hq with rfl | hq
          · rw [ho] at hp; obtain rfl : o = p := by simpa using hp
            exact .inr (hr j hj)
          · exact .inr (hmid.closed.back q p hp hq j hj)
        · intro j hj
          rw [on_set hilt] at hj
          rcases hj with rfl | hj
          · exact him
          · exact hmid.few j hj
        · intro j p d' hj hp hd'
          rw [on_set hilt] at hj
          by_cases e : j = i
          · subst e; rw [ho] at hp; obtain rfl : o = p := by simpa using hp
            rw [hd] at hd'; obtain rfl : d = d' := by simpa using hd'
            exact ⟨v, by simp [Act.put, hmid.size, hdn], hv⟩
          · have hj : On listed j := hj.resolve_left e
            obtain ⟨u, hu, hVu⟩ := hmid.vals j p d' hj hp hd'
            have hne : d ≠ d' := fun e' => (hord1.2.2.1 j p d' hp e hd').1 (e' ▸ hd)
            obtain ⟨o2, d2, ho2, _, _, hst2, _⟩ := hV j (hmid.few j hj)
            exact ⟨u, by simp only [Act.put]; rw [Array.getElem?_setIfInBounds_ne hne]; exact hu, hst2 _ _ _ hx hVu⟩
        · intro s U hs hn
          have hne : d ≠ s := fun e => hn i o (by rw [on_set hilt]; exact .inl rfl) ho (e ▸ hd)
          obtain ⟨u, hu, hU⟩ := hmid.base s U hs (fun j p hj hp => hn j p (by rw [on_set hilt]; exact .inr hj) hp)
          exact ⟨u, by simp only [Act.put]; rw [Array.getElem?_setIfInBounds_ne hne]; exact hu, hst0 s U hs _ _ _ hx hU⟩
      obtain ⟨h1, h2⟩ := hob.run a w hmid.inC hmid.defers hmid.size hHR
      unfold wpOp
      simp only [ho]
      split
      · rename_i hw
        refine .inl ?_
        have := h1 hw
        unfold Oper.wp at this ⊢
        generalize (execOp a.eval o).run P w = r at *
        rw [hd] at this
        cases r with
        | ok nx w1 =>
          cases nx <;> simp only [Oper.upon] at this ⊢
          case value u => obtain ⟨v, e, h3, h4, h5⟩ := this; rw [e]; exact hnext v _ h3 h4 h5
          case skip => obtain ⟨v, e, h3, h4, h5⟩ := this; rw [e]; exact hnext v _ h3 h4 h5
          case defer => obtain ⟨v, e, h3, h4, h5⟩ := this; rw [e]; exact hnext v _ h3 h4 h5
          case enter f args =>
            refine this.mono fun e w2 he => ?_
            cases e with
            | returned u => obtain ⟨v, e, h3, h4, h5⟩ := he; show wpAny P .any ops Q fuel _ (a.put o.dst u) w2; rw [e]; exact hnext v _ h3 h4 h5
            | panicked c => exact he.elim
            | outgrown => obtain ⟨_, _, h⟩ := he; exact h.elim
          case row row args => refine this.mono fun u w2 he => ?_; obtain ⟨v, e, h3, h4, h5⟩ := he; rw [e]; exact hnext v _ h3 h4 h5
        | halt x w1 => cases x <;> simp only [Oper.upon] at this
      · rename_i hw
        have hw' : Region.wanted o (yielded ops a.tmps) = false := by simpa using hw
        rw [hd]
        exact hnext undef w (h2 hw') (Keep.refl _ _) hmid.inC

/-! ### the rules -/
theorem start_left (m : Nat) : left (Array.replicate m false) = m := by
  simp only [left, Array.toList_replicate]
  induction m with
  | zero => rfl
  | succ m ih => rw [List.replicate_succ]; simp [ih]
theorem start_on (m j : Nat) : ¬ On (Array.replicate m false) j := by simp [On, Array.getElem?_replicate]; split <;> rfl

/-- The told part, exact entries and others apart; what is left is walked in the order of the text. -/
structure WD (P : Program) (ops : Array Oper) (l : List Oper) (n : Nat) (E : Env) (F : REnv) (C : World → Prop) (tail : List Oper) (k : Kont) : Prop where
  run : (∀ s, lookR F s ≠ none → look E s = none) → ∀ G, (∀ s, lookR G s = match lookR F s with | some V => some V | none => (look E s).map fun cv => exact1 cv.1 cv.2) →
    WDs P ops n C l G (fun G' => ∀ a w, C w → HA n G' a w → wpList P ops (k.post P) tail a w)

theorem wc_draw {id : Nat} {l : List Oper} (m : Nat) (hm : P.follows .mixedOrders = true) (hml : Nat.ble m l.length = true) (hord : orderly l.toArray m = true) (hC : ∀ w w', C w → Ext w w' → C w') (h : WD P l.toArray (l.take m) n E [] C (l.drop m) k) :
    WC P (.region id l.toArray true) n E C k := by
  have hml : m ≤ l.length := Nat.le_of_ble_eq_true hml
  refine ⟨fun a w ha hw => wp_region_any hm ?_⟩
  have h := h.run (by intro s hs; simp [lookR] at hs) (ofEnv E) (by intro s; simp [lookR, lookR_ofEnv])
  obtain ⟨Vs, hV, hfin⟩ := wds_out (ops := l.toArray) (l.take m) 0 _ _ (by intro j hj; simp at hj; simp [hj]) h
  have hex : l.toArray.extract 0 l.toArray.size = l.toArray := by simp
  rw [hex] at hV hfin
  have hlen : (l.take m).length = m := by simp; omega
  rw [hlen] at hV hfin
  refine mid_all (m := m) (G0 := ofEnv E) hord (by simpa using hml) ?_ (fun j hj => ?_) (fun a w hCw hA => by simpa using hfin a w hCw hA) _ _ a _ (start_left _) ?_
  · intro s U hs
    rw [lookR_ofEnv] at hs
    obtain ⟨cv, _, rfl⟩ := Option.map_eq_some_iff.1 hs
    exact steady_exact _ _
  · obtain ⟨o, d, h1, h2⟩ := hV j hj
    exact ⟨o, d, by simpa using h1, h2⟩
  · refine ⟨⟨by simp, fun i o _ hi => absurd hi (start_on _ _)⟩, hC w _ hw (Ext.drew w 1), ha.defers, ha.size, fun j hj => absurd hj (start_on _ _), fun j o d hj => absurd hj (start_on _ _), ?_⟩
    intro s U hs _
    rw [lookR_ofEnv] at hs
    obtain ⟨cv, hcv, rfl⟩ := Option.map_eq_some_iff.1 hs
    exact ⟨_, ha.reads s cv.1 cv.2 hcv, rfl⟩

theorem wd_nil {tail : List Oper} (h : WL P ops tail n E C k) : WD P ops [] n E [] C tail k := ⟨fun _ G hG a w hw hA => h.run a w ⟨hA.1, hA.2.1, fun i c v hi => by
  obtain ⟨u, hu, hU⟩ := hA.2.2 i (exact1 c v) (by rw [hG]; simp [lookR, hi]) trivial
  rw [hu, hU]⟩ hw⟩
/-- .. whatever else has been told -/
theorem wd_nilF {F : REnv} {tail : List Oper} (h : WL P ops tail n E C k) : WD P ops [] n E F C tail k := ⟨fun hdis G hG a w hw hA => h.run a w ⟨hA.1, hA.2.1, fun i c v hi => by
  have hFi : lookR F i = none := by
    cases hf : lookR F i with
    | none => rfl
    | some V => rw [hdis i (by simp [hf])] at hi; cases hi
  obtain ⟨u, hu, hU⟩ := hA.2.2 i (exact1 c v) (by rw [hG]; simp [hFi, hi]) trivial
  rw [hu, hU]⟩ hw⟩
/-- .. with one entry that is told by more than a value. -/
theorem wd_nil1 {d : Nat} {V : Tell} {tail : List Oper} (h : ∀ v, WL P ops tail n ((d, true, v) :: E) (fun w => C w ∧ V v w) k) : WD P ops [] n E [(d, V)] C tail k := ⟨fun hdis G hG a w hw hA => by
  obtain ⟨u, hu, hU⟩ := hA.2.2 d V (by rw [hG]; simp [lookR]) trivial
  refine (h u).run a w ⟨hA.1, hA.2.1, fun i c v hi => ?_⟩ ⟨hw, hU⟩
  simp only [look] at hi
  by_cases e : d = i
  · subst e; simp at hi; obtain ⟨rfl, rfl⟩ := hi; exact hu
  · rw [beq_no e, cond_false] at hi
    obtain ⟨u', hu', hU'⟩ := hA.2.2 i (exact1 c v) (by rw [hG]; simp [lookR, beq_no e, hi]) trivial
    rw [hu', hU']⟩

/-- A frame turned where an operation does not look. -/
theorem turn {a : Act} (o : Oper) (_hd : a.defers = []) (hs : a.tmps.size = n) (hE : ∀ i c v, look E i = some (c, v) → i ∈ o.looksAt ops → a.tmps[i]? = some (bif c then v else undef)) (hsel : ∀ cs b, o.op ≠ .select cs b) (hlt : ∀ i c v, look E i = some (c, v) → i < n) :
    ∃ b : Act, Holds n E b ∧ execOp b.eval o = execOp a.eval o ∧ Region.wanted o (yielded ops b.tmps) = Region.wanted o (yielded ops a.tmps) := by
  let f : Nat → Value := fun i => if i ∈ o.looksAt ops then a.tmps.getD i undef else match look E i with | some cv => bif cv.1 then cv.2 else undef | none => a.tmps.getD i undef
  have hget : ∀ i, i < n → (Array.ofFn (n := n) fun i => f i.val)[i]? = some (f i) := by intro i hi; simp [hi]
  have hsame : ∀ i, i ∈ o.looksAt ops → (Array.ofFn (n := n) fun i => f i.val)[i]? = a.tmps[i]? := by
    intro i hi
    rcases Nat.lt_or_ge i n with h | h
    · have h3 : i < a.tmps.size := by rw [hs]; exact h
      rw [hget i h]
      simp [f, hi, h3]
    · have h2 : a.tmps.size ≤ i := by rw [hs]; exact h
      rw [Array.getElem?_eq_none (by simpa using h), Array.getElem?_eq_none h2]
  refine ⟨⟨Array.ofFn (n := n) fun i => f i.val, []⟩, ⟨rfl, by simp, ?_⟩, ?_, ?_⟩
  · intro i c v hi
    show (Array.ofFn (n := n) fun i => f i.val)[i]? = _
    by_cases hm : i ∈ o.looksAt ops
    · rw [hsame i hm]; exact hE i c v hi hm
    · rw [hget i (hlt i c v hi)]
      simp only [f, if_neg hm, hi]
  · refine execOp_congr o hsel fun x hx => ?_
    cases x with
    | tmp t =>
      have hm : t ∈ o.looksAt ops := by
        unfold Oper.looksAt
        exact List.mem_append_left _ (List.mem_filterMap.2 ⟨.tmp t, by simpa using hx, rfl⟩)
      show (Array.ofFn (n := n) fun i => f i.val).getD t undef = a.tmps.getD t undef
      simp only [Array.getD_eq_getD_getElem?, hsame t hm]
    | _ => rfl
  · unfold Region.wanted
    cases hg : o.guard with
    | none => rfl
    | some g =>
      obtain ⟨j, want⟩ := g
      have : yielded ops (Array.ofFn (n := n) fun i => f i.val) j = yielded ops a.tmps j := by
        unfold yielded
        cases hd : (ops[j]?).bind (·.dst) with
        | none => rfl
        | some d =>
          have hm : d ∈ o.looksAt ops := by
            unfold Oper.looksAt
            refine List.mem_append_right _ ?_
            rw [hg]; simp [hd]
          simp only [Option.bind_some, hsame d hm]
      show (yielded ops (Array.ofFn (n := n) fun i => f i.val) j == some want) = _
      rw [this]

def belowN (n : Nat) : Env → Bool
  | [] => true
  | (j, _, _) :: E => Nat.blt j n && belowN n E
theorem belowN_look : ∀ {E : Env}, belowN n E = true → ∀ i c v, look E i = some (c, v) → i < n
  | [], _, i, c, v, h => by simp [look] at h
  | (j, c', v') :: E, hb, i, c, v, h => by
    simp only [belowN, Bool.and_eq_true, Nat.blt_eq] at hb
    simp only [look] at h
    by_cases e : j = i
    · subst e; exact hb.1
    · rw [beq_no e, cond_false] at h; exact belowN_look hb.2 i c v h
def noSel (o : Oper) : Bool := match o.op with | .select _ _ => false | _ => true
theorem noSel_spec {o : Oper} (h : noSel o = true) (cs : Array SelectCase) (b : Bool) : o.op ≠ .select cs b := by intro e; unfold noSel at h; rw [e] at h; cases h

/-- An operation of one value. -/
theorem wd_v {d : Nat} {cg : Bool} {v : Value} {o : Oper} {rest tail : List Oper} {F : REnv} (hg : gd ops E o.guard = some cg) (ho : o.dst = some d) (hd : Nat.blt d n = true) (hb : belowN n E = true) (hsel : noSel o = true) (hF : lookR F d = none)
    (hv : OpV P n E C o cg v) (h : WD P ops rest n ((d, cg, v) :: E) F C tail k) : WD P ops (o :: rest) n E F C tail k := ⟨fun hdis G hG => by
  have hd : d < n := by simpa [Nat.blt_eq] using hd
  refine ⟨d, exact1 cg v, ho, hd, steady_exact _ _, ⟨fun a w hw had has hHR => ?_⟩, h.run ?_ _ ?_⟩
  · obtain ⟨b, hb1, hb2, hb3⟩ := turn (ops := ops) (E := E) o had has (fun i c u hi hm => by
      have hFi : lookR F i = none := by
        cases hf : lookR F i with
        | none => rfl
        | some V => rw [hdis i (by simp [hf])] at hi; cases hi
      obtain ⟨u', h1, h2⟩ := hHR i (exact1 c u) (by rw [hG]; simp [hFi, hi]) hm
      rw [h1, h2]) (noSel_spec hsel) (belowN_look hb)
    have hwb := wanted_gd (ops := ops) hb1 hg
    rw [hb3] at hwb
    refine ⟨fun hwant => ?_, fun hno => ?_⟩
    · have hcg : cg = true := by rw [← hwb]; exact hwant
      have := hv.run hcg b hb1 w hw
      have : YAt P o a C w v := by unfold YAt at *; rw [hb2] at this; exact this
      exact this.wp hw fun w' hw' hx => ⟨v, rfl, by simp [exact1, hcg], hx, hw'⟩
    · have hcg : cg = false := by rw [← hwb]; exact hno
      simp [exact1, hcg]
  · intro s hs
    simp only [look]
    by_cases e : d = s
    · subst e; exact absurd hF hs
    · rw [beq_no e, cond_false]; exact hdis s hs
  · intro s
    simp only [lookR, look]
    by_cases e : d = s
    · subst e; simp [hF]
    · rw [beq_no e, cond_false, cond_false]; exact hG s⟩

/-- What an operation leaves is told by more than a value. -/
def Tells (P : Program) (o : Oper) (a : Act) (w : World) (V : Tell) (C : World → Prop) : Prop :=
  match (execOp a.eval o).run P w with
  | .ok (.value v) w' => V v w' ∧ Ext w w' ∧ C w'
  | .ok (.enter f args) w' => w' = w ∧ Calls P f args w (fun e w2 => ∃ v, e = .returned v ∧ V v w2 ∧ Ext w w2 ∧ C w2)
  | _ => False
structure OpR (P : Program) (n : Nat) (E : Env) (C : World → Prop) (D : World → Prop) (o : Oper) (V : Tell) : Prop where
  run : ∀ a, Holds n E a → ∀ w, C w → D w → Tells P o a w V C
theorem Tells.wp {o : Oper} {a : Act} {w : World} {V : Tell} (h : Tells P o a w V C) : o.wp P a w (fun a' w' => ∃ v, a' = a.put o.dst v ∧ V v w' ∧ Ext w w' ∧ C w') (fun _ _ _ => False) := by
  unfold Tells at h
  unfold Oper.wp
  generalize (execOp a.eval o).run P w = r at *
  cases r with
  | ok nx w1 =>
    cases nx <;> simp only [] at h <;> simp only [Oper.upon]
    case value u => exact ⟨u, rfl, h⟩
    case enter f args => obtain ⟨rfl, h⟩ := h; exact h.mono fun e w2 ⟨v, he, h2⟩ => by subst he; exact ⟨v, rfl, h2⟩
  | halt x w1 => simp only [] at h
theorem wd_new {d : Nat} {V : Tell} {o : Oper} {rest tail : List Oper} {F : REnv} (hg : o.guard = none) (ho : o.dst = some d) (hd : Nat.blt d n = true) (hb : belowN n E = true) (hsel : noSel o = true) (hE : look E d = none) (hst : Steady V)
    (hv : OpR P n E C (fun _ => True) o V) (h : WD P ops rest n E ((d, V) :: F) C tail k) : WD P ops (o :: rest) n E F C tail k := ⟨fun hdis G hG => by
  have hd : d < n := by simpa [Nat.blt_eq] using hd
  refine ⟨d, V, ho, hd, hst, ⟨fun a w hw had has hHR => ?_⟩, h.run ?_ _ ?_⟩
  · obtain ⟨b, hb1, hb2, hb3⟩ := turn (ops := ops) (E := E) o had has (fun i c u hi hm => by
      have hFi : lookR F i = none := by
        cases hf : lookR F i with
        | none => rfl
        | some V => rw [hdis i (by simp [hf])] at hi; cases hi
      obtain ⟨u', h1, h2⟩ := hHR i (exact1 c u) (by rw [hG]; simp [hFi, hi]) hm
      rw [h1, h2]) (noSel_spec hsel) (belowN_look hb)
    refine ⟨fun _ => ?_, fun hno => by simp [Region.wanted, hg] at hno⟩
    have := hv.run b hb1 w hw trivial
    have : Tells P o a w V C := by unfold Tells at *; rw [hb2] at this; exact this
    exact this.wp
  · intro s hs
    simp only [lookR] at hs
    by_cases e : d = s
    · subst e; exact hE
    · rw [beq_no e, cond_false] at hs; exact hdis s hs
  · intro s
    simp only [lookR]
    by_cases e : d = s
    · subst e; simp
    · rw [beq_no e, cond_false, cond_false]; exact hG s⟩
/-- An operation that looks at such an entry, and yields one value. -/
theorem wd_rel {d s : Nat} {U : Tell} {v : Value} {o : Oper} {rest tail : List Oper} {F : REnv} (hg : o.guard = none) (ho : o.dst = some d) (hd : Nat.blt d n = true) (hs : Nat.blt s n = true) (hb : belowN n E = true) (hsel : noSel o = true) (hF : lookR F d = none) (hU : lookR F s = some U)
    (hv : ∀ u, OpR P n ((s, true, u) :: E) C (U u) o (exact1 true v)) (hlook : s ∈ o.looksAt ops) (h : WD P ops rest n ((d, true, v) :: E) F C tail k) : WD P ops (o :: rest) n E F C tail k := ⟨fun hdis G hG => by
  have hd : d < n := by simpa [Nat.blt_eq] using hd
  have hs : s < n := by simpa [Nat.blt_eq] using hs
  refine ⟨d, exact1 true v, ho, hd, steady_exact _ _, ⟨fun a w hw had has hHR => ?_⟩, h.run ?_ _ ?_⟩
  · obtain ⟨u, hu, hUu⟩ := hHR s U (by rw [hG]; simp [hU]) hlook
    obtain ⟨b, hb1, hb2, hb3⟩ := turn (ops := ops) (E := (s, true, u) :: E) o had has (fun i c u' hi hm => by
      simp only [look] at hi
      by_cases e : s = i
      · subst e; simp at hi; obtain ⟨rfl, rfl⟩ := hi; exact hu
      · rw [beq_no e, cond_false] at hi
        have hFi : lookR F i = none := by
          cases hf : lookR F i with
          | none => rfl
          | some V => rw [hdis i (by simp [hf])] at hi; cases hi
        obtain ⟨u2, h1, h2⟩ := hHR i (exact1 c u') (by rw [hG]; simp [hFi, hi]) hm
        rw [h1, h2]) (noSel_spec hsel) (fun i c u' hi => by
          simp only [look] at hi
          by_cases e : s = i
          · subst e; exact hs
          · rw [beq_no e, cond_false] at hi; exact belowN_look hb i c u' hi)
    refine ⟨fun _ => ?_, fun hno => by simp [Region.wanted, hg] at hno⟩
    have := (hv u).run b hb1 w hw hUu
    have : Tells P o a w (exact1 true v) C := by unfold Tells at *; rw [hb2] at this; exact this
    exact this.wp
  · intro s hs
    simp only [look]
    by_cases e : d = s
    · subst e; exact absurd hF hs
    · rw [beq_no e, cond_false]; exact hdis s hs
  · intro s
    simp only [lookR, look]
    by_cases e : d = s
    · subst e; simp [hF]
    · rw [beq_no e, cond_false, cond_false]; exact hG s⟩
end
end Go.Eng
/-
  The engine: structs, slices, strings out of bytes, function values. Nothing of the program stands here.
-/
namespace Go.Eng
open Go.RowKit
set_option linter.unusedVariables false
section
variable {P : Program} {n : Nat} {E : Env} {k : Kont} {ops : Array Oper} {rest : List Oper} {cg : Bool}
variable {dst : Option Tmp} {ty : TypeId} {pos : String} {af : Array Edge} {g : Option (Nat × Bool)}
variable {w0 : World} {bs : List Nat} {H : List (Nat × Obj)} {M : Ghost} {C : World → Prop}
variable {x y : Operand} {cx cy : Bool} {tx tyy : TypeId}

/-! ### structs by value -/
def evp (E : Env) : List (Nat × Operand) → Option (List (Nat × Value))
  | [] => some []
  | (i, x) :: l => match ev E x with
    | some (true, v) => (evp E l).map ((i, v) :: ·)
    | _ => none
theorem evp_eval {a : Act} (ha : Holds n E a) : ∀ {l : List (Nat × Operand)} {vs : List (Nat × Value)}, evp E l = some vs → l.map (fun p => (p.1, a.eval p.2)) = vs
  | [], vs, h => by simp [evp] at h; simp [h]
  | (i, x) :: l, vs, h => by
    simp only [evp] at h
    cases hx : ev E x with
    | none => simp [hx] at h
    | some cv =>
      obtain ⟨c, v⟩ := cv
      cases c with
      | false => simp [hx] at h
      | true =>
        simp only [hx] at h
        cases hl : evp E l with
        | none => simp [hl] at h
        | some us =>
          simp [hl] at h
          rw [← h, List.map_cons, evp_eval ha hl, ha.eval hx]
/-- the cells of a struct, some fields laid -/
def laidIn : List Value → List (Nat × Value) → List (Nat × Nat) → Option (List Value)
  | z, [], _ => some z
  | z, (i, v) :: ps, pl => match pl[i]? with
    | some (off, size) => if v.cells.size ≠ size || off + v.cells.size > z.length then none else laidIn (setCells z off v.cells.toList) ps pl
    | none => none
theorem foldl_set (vs : List Value) : ∀ (z : List Value) (off i : Nat), (vs.zipIdx i).foldl (fun cs (p : Value × Nat) => cs.setIfInBounds (off + p.2) p.1) z.toArray = (setCells z (off + i) vs).toArray := by
  induction vs with
  | nil => intro z off i; simp [setCells]
  | cons v vs ih => intro z off i; simp only [List.zipIdx_cons, List.foldl_cons, setCells, List.setIfInBounds_toArray]; rw [ih]; simp [Nat.add_assoc]
theorem length_setCells : ∀ (vs : List Value) (z : List Value) (o : Nat), (setCells z o vs).length = z.length
  | [], _, _ => rfl
  | v :: vs, z, o => by simp [setCells, length_setCells vs]
theorem fill_laid (pl : List (Nat × Nat)) : ∀ (ps : List (Nat × Value)) (z l : List Value), laidIn z ps pl = some l → Instr.fill (pl.toArray[·]?) z.toArray ps = some l.toArray
  | [], z, l, h => by simp [laidIn] at h; simp [Instr.fill, h]
  | (i, v) :: ps, z, l, h => by
    simp only [laidIn] at h
    cases hp : pl[i]? with
    | none => simp [hp] at h
    | some os =>
      obtain ⟨off, size⟩ := os
      simp only [hp] at h
      split at h
      · cases h
      · rename_i hc
        have : (v.cells.zipIdx.foldl (fun cs (p : Value × Nat) => cs.setIfInBounds (off + p.2) p.1) z.toArray) = (setCells z off v.cells.toList).toArray := by
          have := foldl_set v.cells.toList z off 0
          rw [Nat.add_zero] at this
          rw [← this, ← Array.foldl_toList]; simp
        simp only [Instr.fill, List.getElem?_toArray, hp]
        rw [if_neg (by simpa using hc)]
        rw [this]
        simpa using fill_laid pl ps _ l h
def zeroOf (P : Program) (t : TypeId) : Option (List Value) := ((P.info? t).bind (·.zero)).map (·.cells.toList)
def placesOf (P : Program) (t : TypeId) : Option (List (Nat × Nat)) := match P.underlying t with
  | some (.struct fs) => fs.toList.mapM (fun f => (P.info? f.type).map fun i => (f.offset, i.size))
  | _ => none
theorem built_of {t : TypeId} {parts : List (Nat × Value)} {z l : List Value} {pl : List (Nat × Nat)} (hz : zeroOf P t = some z) (hp : placesOf P t = some pl) (hl : laidIn z parts pl = some l) : P.built t parts = some l.toArray := by
  unfold zeroOf at hz
  unfold placesOf at hp
  obtain ⟨zv, hzv, rfl⟩ := Option.map_eq_some_iff.1 hz
  obtain ⟨it, hit, hzz⟩ := Option.bind_eq_some_iff.1 hzv
  unfold Program.built
  rw [hit]
  cases hu : P.underlying t with
  | none => rw [hu] at hp; cases hp
  | some d =>
    rw [hu] at hp
    cases d <;> simp only [] at hp <;> try (cases hp; done)
    case struct fs =>
      simp only [hzz, hp]
      have := fill_laid pl parts zv.cells.toList l hl
      simpa using this
theorem ov_build {t : TypeId} {ps : List (Nat × Operand)} {parts : List (Nat × Value)} {z l : List Value} {pl : List (Nat × Nat)} (hv : evp E ps = some parts) (hz : zeroOf P t = some z) (hp : placesOf P t = some pl) (hl : laidIn z parts pl = some l) :
    OpV P n E C ⟨dst, .build t ps.toArray, ty, pos, af, g⟩ cg (.agg l.toArray) :=
  ov_run fun h a ha w _ => by
    have hb := built_of hz hp hl
    have he := evp_eval ha hv
    have : (ps.toArray.map fun (i, x) => (i, a.eval x)).toList = parts := by simpa using he
    simp only [execOp, Sem.run_bind]
    rw [run_build (P := P) w t _ l.toArray (by rw [this]; exact hb)]
    rfl
/-- a field of one cell -/
theorem ov_field {t : TypeId} {fs : Array Field} {f : Field} {i : Nat} {cs : Array Value} {d : TypeDesc} {v : Value} (hx : ev E x = some (cx, .agg cs)) (h1 : Imp cg cx) (ht : P.underlying t = some (.struct fs)) (hf : fs[i]? = some f) (hd : P.underlying f.type = some d)
    (hd' : (match d with | .struct _ | .array _ _ => true | _ => false) = false) (hv : cs[f.offset]? = some v) : OpV P n E C ⟨dst, .field t x i, ty, pos, af, g⟩ cg v :=
  ov_run fun h a ha w _ => by
    simp [execOp, ha.evalc hx (h1 h), Instr.field, run_underlying ht, hf, asAgg, part, isAgg_no hd (by cases d <;> simp_all), hv]

/-! ### two structs compared -/
theorem eqF_nil {d : Nat} {xs ys : Array Value} {w : World} : (Op.eqFields d xs ys []).run P w = .ok true w := by simp [Op.eqFields]
theorem part_one {t : TypeId} {d : TypeDesc} {cs : Array Value} {off : Nat} {v : Value} {w : World} (hd : P.underlying t = some d) (hd' : (match d with | .struct _ | .array _ _ => true | _ => false) = false) (hv : cs[off]? = some v) : (part t cs off).run P w = .ok v w := by
  simp [part, isAgg_no hd (by cases d <;> simp_all), hv]
theorem eqF_cons {d : Nat} {xs ys : Array Value} {f : Field} {fs : List Field} {u v : Value} {b r : Bool} {w : World} (hn : (f.name == "_") = false) (hu : (part f.type xs f.offset).run P w = .ok u w) (hv : (part f.type ys f.offset).run P w = .ok v w)
    (he : (Op.equalIn d f.type u v).run P w = .ok b w) (hr : (Op.eqFields d xs ys fs).run P w = .ok r w) : (Op.eqFields d xs ys (f :: fs)).run P w = .ok (b && r) w := by
  have hn : f.name ≠ "_" := by simpa using hn
  cases b <;> simp [Op.eqFields, hn, hu, hv, he, hr]
theorem eqF_str {d : Nat} {xs ys : Array Value} {f : Field} {fs : List Field} {u v : List UInt8} {r : Bool} {w : World} (hn : (f.name == "_") = false) (ht : P.underlying f.type = some .string) (hu : xs[f.offset]? = some (str u)) (hv : ys[f.offset]? = some (str v))
    (hr : (Op.eqFields (d + 1) xs ys fs).run P w = .ok r w) : (Op.eqFields (d + 1) xs ys (f :: fs)).run P w = .ok (decide (u = v) && r) w :=
  eqF_cons hn (part_one ht rfl hu) (part_one ht rfl hv) (by rw [run_equalIn_string w d _ _ _ ht]; simp [beq_dec]) hr
theorem eqF_int {d : Nat} {xs ys : Array Value} {f : Field} {fs : List Field} {k1 k3 : IntKind} {u v : Int} {r : Bool} {w : World} (hn : (f.name == "_") = false) (ht : P.underlying f.type = some (.int k3)) (hu : xs[f.offset]? = some (.int k1 u)) (hv : ys[f.offset]? = some (.int k1 v))
    (hr : (Op.eqFields (d + 1) xs ys fs).run P w = .ok r w) : (Op.eqFields (d + 1) xs ys (f :: fs)).run P w = .ok (decide (u = v) && r) w :=
  eqF_cons hn (part_one ht rfl hu) (part_one ht rfl hv) (by rw [run_equalIn_int w d _ k1 k3 _ _ ht]; simp [beq_dec]) hr
theorem eqF_bool {d : Nat} {xs ys : Array Value} {f : Field} {fs : List Field} {u v : Bool} {r : Bool} {w : World} (hn : (f.name == "_") = false) (ht : P.underlying f.type = some .bool) (hu : xs[f.offset]? = some (.bool u)) (hv : ys[f.offset]? = some (.bool v))
    (hr : (Op.eqFields (d + 1) xs ys fs).run P w = .ok r w) : (Op.eqFields (d + 1) xs ys (f :: fs)).run P w = .ok (decide (u = v) && r) w :=
  eqF_cons hn (part_one ht rfl hu) (part_one ht rfl hv) (by rw [run_equalIn_bool' w d _ _ _ ht]; simp [beq_dec]) hr
/-- the comparison of structs, field by field -/
structure EqF (P : Program) (d : Nat) (xs ys : Array Value) (fs : List Field) (r : Bool) : Prop where
  run : ∀ w, (Op.eqFields d xs ys fs).run P w = .ok r w
theorem eqG_nil {d : Nat} {xs ys : Array Value} : EqF P d xs ys [] true := ⟨fun _ => eqF_nil⟩
theorem eqG_str {d : Nat} {xs ys : Array Value} {f : Field} {fs : List Field} {u v : List UInt8} {r : Bool} (hn : (f.name == "_") = false) (ht : P.underlying f.type = some .string) (hu : xs[f.offset]? = some (str u)) (hv : ys[f.offset]? = some (str v))
    (hr : EqF P (d + 1) xs ys fs r) : EqF P (d + 1) xs ys (f :: fs) (decide (u = v) && r) := ⟨fun w => eqF_str hn ht hu hv (hr.run w)⟩
theorem eqG_int {d : Nat} {xs ys : Array Value} {f : Field} {fs : List Field} {k1 k3 : IntKind} {u v : Int} {r : Bool} (hn : (f.name == "_") = false) (ht : P.underlying f.type = some (.int k3)) (hu : xs[f.offset]? = some (.int k1 u)) (hv : ys[f.offset]? = some (.int k1 v))
    (hr : EqF P (d + 1) xs ys fs r) : EqF P (d + 1) xs ys (f :: fs) (decide (u = v) && r) := ⟨fun w => eqF_int hn ht hu hv (hr.run w)⟩
theorem eqG_bool {d : Nat} {xs ys : Array Value} {f : Field} {fs : List Field} {u v : Bool} {r : Bool} (hn : (f.name == "_") = false) (ht : P.underlying f.type = some .bool) (hu : xs[f.offset]? = some (.bool u)) (hv : ys[f.offset]? = some (.bool v))
    (hr : EqF P (d + 1) xs ys fs r) : EqF P (d + 1) xs ys (f :: fs) (decide (u = v) && r) := ⟨fun w => eqF_bool hn ht hu hv (hr.run w)⟩
theorem ov_aeql {xs ys : Array Value} {fs : Array Field} {r : Bool} (hx : ev E x = some (cx, .agg xs)) (hy : ev E y = some (cy, .agg ys)) (h1 : Imp cg cx) (h2 : Imp cg cy) (hm : P.eqGuardType P.depth tx = false) (ht : P.underlying tx = some (.struct fs)) (hst : P.stoodInHeld tx = false)
    (hr : EqF P 9999 xs ys fs.toList r) : OpV P n E C ⟨dst, .binOp .eql tx x y tyy, ty, pos, af, g⟩ cg (.bool r) :=
  ov_run fun h a ha w _ => by
    have hf : P.fieldsOf tx = fs := by simp [Program.fieldsOf, ht]
    refine run_bin (ha.evalc hx (h1 h)) (ha.evalc hy (h2 h)) (run_eqGuard_agg w .eql tx x y xs ys hm) ?_
    rw [run_eql_struct, run_equalIn_agg w 9999 tx xs ys (by rw [hf]; exact ht) hst, hf, hr.run w]
    rfl
theorem ov_aneq {xs ys : Array Value} {fs : Array Field} {r : Bool} (hx : ev E x = some (cx, .agg xs)) (hy : ev E y = some (cy, .agg ys)) (h1 : Imp cg cx) (h2 : Imp cg cy) (hm : P.eqGuardType P.depth tx = false) (ht : P.underlying tx = some (.struct fs)) (hst : P.stoodInHeld tx = false)
    (hr : EqF P 9999 xs ys fs.toList r) : OpV P n E C ⟨dst, .binOp .neq tx x y tyy, ty, pos, af, g⟩ cg (.bool (!r)) :=
  ov_run fun h a ha w _ => by
    have hf : P.fieldsOf tx = fs := by simp [Program.fieldsOf, ht]
    refine run_bin (ha.evalc hx (h1 h)) (ha.evalc hy (h2 h)) (run_eqGuard_agg w .neq tx x y xs ys hm) ?_
    rw [run_neq_struct, run_equalIn_agg w 9999 tx xs ys (by rw [hf]; exact ht) hst, hf, hr.run w]
    rfl

/-! ### a slice's literal; a string out of bytes -/
/-- the cells of a slice's literal, all its elements told -/
def cellsAll (m : Nat) : List (Nat × Value) → Nat → Option (List Value)
  | [], _ => some []
  | (i, v) :: ps, j => if i = j ∧ v.cells.size = m then (cellsAll m ps (j + 1)).map (v.cells.toList ++ ·) else none
theorem set_past (l1 : List Value) : ∀ (vs l2 : List Value), vs.length ≤ l2.length → setCells (l1 ++ l2) l1.length vs = l1 ++ vs ++ l2.drop vs.length
  | [], l2, _ => by simp [setCells]
  | v :: vs, [], h => by simp at h
  | v :: vs, u :: l2, h => by
    simp only [List.length_cons] at h
    have h1 : (l1 ++ u :: l2).set l1.length v = (l1 ++ [v]) ++ l2 := by
      rw [List.set_append_right _ _ (Nat.le_refl _)]; simp
    have h2 := set_past (l1 ++ [v]) vs l2 (by omega)
    simp only [setCells, h1]
    rw [show l1.length + 1 = (l1 ++ [v]).length from by simp, h2]
    simp
theorem fill_all (m : Nat) : ∀ (ps : List (Nat × Value)) (j : Nat) (l1 l2 l : List Value), cellsAll m ps j = some l → l1.length = j * m → l2.length = ps.length * m → Instr.fill (fun i => some (i * m, m)) (l1 ++ l2).toArray ps = some (l1 ++ l).toArray
  | [], j, l1, l2, l, h, _, h2 => by
    simp [cellsAll] at h
    have : l2 = [] := List.eq_nil_of_length_eq_zero (by simpa using h2)
    simp [Instr.fill, ← h, this]
  | (i, v) :: ps, j, l1, l2, l, h, h1, h2 => by
    simp only [cellsAll] at h
    split at h
    · rename_i hc
      obtain ⟨rfl, hm⟩ := hc
      obtain ⟨l', hl', rfl⟩ := Option.map_eq_some_iff.1 h
      have hlen : (v.cells.toList).length = m := by simpa using hm
      simp only [List.length_cons, Nat.add_mul, Nat.one_mul] at h2
      have hset : (v.cells.zipIdx.foldl (fun cs (p : Value × Nat) => cs.setIfInBounds (i * m + p.2) p.1) (l1 ++ l2).toArray) = (l1 ++ v.cells.toList ++ l2.drop m).toArray := by
        have := foldl_set v.cells.toList (l1 ++ l2) (i * m) 0
        rw [Nat.add_zero, ← h1, set_past l1 v.cells.toList l2 (by omega), hlen] at this
        rw [← this, ← Array.foldl_toList]; simp [h1]
      have hc2 : ¬ ((decide (v.cells.size ≠ m) || decide (i * m + v.cells.size > (l1 ++ l2).toArray.size)) = true) := by
        simp; omega
      simp only [Instr.fill]
      rw [if_neg (by simpa using hc2), hset]
      have := fill_all m ps (i + 1) (l1 ++ v.cells.toList) (l2.drop m) l' hl' (by simp [Nat.add_mul]; omega) (by simp; omega)
      rw [this]; simp
    · cases h
theorem run_buildSlice {t e : TypeId} {m len : Nat} {z : Value} {parts : List (Nat × Value)} {l : List Value} (ht : P.underlying t = some (.slice e)) (hs : (P.info? e).map (·.size) = some m) (hz : ∀ w, (zeroValue e).run P w = .ok z w) (hzc : z.cells.size = m)
    (hlen : len = parts.length) (hlim : len * m ≤ 2 ^ 24) (hl : cellsAll m parts 0 = some l) (w : World) :
    (Instr.buildSlice t len parts.toArray).run P w = .ok (.slice (some ⟨w.heap.size, 0, none⟩) len len) { w with heap := w.heap.push (.cells l.toArray e (0, 0)) } := by
  subst hlen
  have hf : ∀ zc : Array Value, Instr.fill (fun i => some (i * m, m)) ((Array.range (parts.length * m)).map (zc[· % zc.size]!)) parts = some l.toArray := fun zc => by
    have := fill_all m parts 0 [] ((Array.range (parts.length * m)).map (zc[· % zc.size]!)).toList l hl (by simp) (by simp)
    rw [List.nil_append, List.nil_append] at this
    rw [← this]
  unfold Instr.buildSlice
  simp only [Sem.run_bind, run_underlying ht, Result.andThen_ok, run_sizeOf hs]
  rw [if_neg (by omega)]
  by_cases h0 : parts.length * m = 0
  · simp only [Sem.run_bind, h0, if_true, Sem.run_pure, Result.andThen_ok]
    rw [show (Array.map (fun x => (#[] : Array Value)[x % (#[] : Array Value).size]!) (Array.range 0)) = (Array.range (parts.length * m)).map ((#[] : Array Value)[· % (#[] : Array Value).size]!) from by rw [h0]]
    simp only [hf, Sem.run_bind, run_newRow, Result.andThen_ok, Sem.run_pure]
  · simp only [Sem.run_bind, h0, if_false, hz, Sem.run_pure, Result.andThen_ok, hf, run_newRow]
theorem wl_buildSlice {t e : TypeId} {m len d : Nat} {z : Value} {ps : List (Nat × Operand)} {parts : List (Nat × Value)} {l : List Value} (hg : gd ops E g = some true) (hv : evp E ps = some parts) (ht : P.underlying t = some (.slice e)) (hs : (P.info? e).map (·.size) = some m) (hz : ∀ w, (zeroValue e).run P w = .ok z w) (hzc : z.cells.size = m)
    (hlen : len = parts.length) (hlim : Nat.ble (len * m) 16777216 = true) (hl : cellsAll m parts 0 = some l) (hd : Nat.blt d n = true)
    (h : ∀ b, WL P ops rest n ((d, true, .slice (some ⟨b, 0, none⟩) len len) :: E) (St w0 bs ((b, .cells l.toArray e (0, 0)) :: H) M) k) :
    WL P ops (⟨some d, .buildSlice t len ps.toArray, ty, pos, af, g⟩ :: rest) n E (St w0 bs H M) k := by
  have hd : d < n := by simpa [Nat.blt_eq] using hd
  refine wl_op hg fun a w ha hw => ?_
  unfold Oper.wp
  have he : (ps.toArray.map fun (i, x) => (i, a.eval x)) = parts.toArray := by have := evp_eval ha hv; simp [← this]
  have : (execOp a.eval ⟨some d, .buildSlice t len ps.toArray, ty, pos, af, g⟩).run P w = .ok (.value (.slice (some ⟨w.heap.size, 0, none⟩) len len)) { w with heap := w.heap.push (.cells l.toArray e (0, 0)) } := by
    simp only [execOp, Sem.run_bind, he]
    rw [run_buildSlice ht hs hz hzc hlen (by simpa using Nat.le_of_ble_eq_true hlim) hl w]
    rfl
  rw [this, Oper.upon_value]
  exact (h _).run _ _ (ha.put hd rfl) (hw.alloc _)
/-- The same inside a region that draws. -/
def Fresh (w0 : World) (bs : List Nat) (H : List (Nat × Obj)) (M : Ghost) (len : Nat) (o : Obj) : Tell := fun v w => ∃ b, v = .slice (some ⟨b, 0, none⟩) len len ∧ St w0 bs ((b, o) :: H) M w
theorem steady_fresh {len : Nat} {o : Obj} : Steady (Fresh w0 bs H M len o) := fun _ _ _ hx ⟨b, h1, h2⟩ => ⟨b, h1, h2.ext hx⟩
theorem or_buildSlice {t e : TypeId} {m len : Nat} {z : Value} {ps : List (Nat × Operand)} {parts : List (Nat × Value)} {l : List Value} (hv : evp E ps = some parts) (ht : P.underlying t = some (.slice e)) (hs : (P.info? e).map (·.size) = some m) (hz : ∀ w, (zeroValue e).run P w = .ok z w) (hzc : z.cells.size = m)
    (hlen : len = parts.length) (hlim : Nat.ble (len * m) 16777216 = true) (hl : cellsAll m parts 0 = some l) : OpR P n E (St w0 bs H M) (fun _ => True) ⟨dst, .buildSlice t len ps.toArray, ty, pos, af, none⟩ (Fresh w0 bs H M len (.cells l.toArray e (0, 0))) := ⟨fun a ha w hw _ => by
  have he : (ps.toArray.map fun (i, x) => (i, a.eval x)) = parts.toArray := by have := evp_eval ha hv; simp [← this]
  have hr : (execOp a.eval ⟨dst, .buildSlice t len ps.toArray, ty, pos, af, none⟩).run P w = .ok (.value (.slice (some ⟨w.heap.size, 0, none⟩) len len)) { w with heap := w.heap.push (.cells l.toArray e (0, 0)) } := by
    simp only [execOp, Sem.run_bind, he]
    rw [run_buildSlice ht hs hz hzc hlen (by simpa using Nat.le_of_ble_eq_true hlim) hl w]
    rfl
  unfold Tells
  rw [hr]
  have h2 := hw.alloc (.cells l.toArray e (0, 0))
  exact ⟨⟨_, rfl, h2⟩, ⟨rfl, rfl, rfl, by simp, fun b hb _ => by simp only [Array.getElem?_push]; rw [if_neg (by omega)]⟩, h2.drop (List.sublist_cons_self _ _)⟩⟩

def bytesOf : List Value → Option (List UInt8)
  | [] => some []
  | .int .u8 z :: l => (bytesOf l).map (UInt8.ofNat z.toNat :: ·)
  | _ => none
theorem bytesOf_eq : ∀ {vs : List Value} {l : List UInt8}, bytesOf vs = some l → ∃ ns : List Int, vs = ns.map (Value.int .u8) ∧ l = ns.map (fun z => UInt8.ofNat z.toNat)
  | [], l, h => by simp [bytesOf] at h; exact ⟨[], rfl, h⟩
  | v :: vs, l, h => by
    cases v <;> try (simp [bytesOf] at h; done)
    case int kd z =>
      cases kd <;> try (simp [bytesOf] at h; done)
      case u8 =>
        simp only [bytesOf] at h
        obtain ⟨l', hl', rfl⟩ := Option.map_eq_some_iff.1 h
        obtain ⟨ns, rfl, rfl⟩ := bytesOf_eq hl'
        exact ⟨z :: ns, rfl, rfl⟩
theorem foldl_push (ns : List Int) : ∀ (s : List UInt8), ns.foldl (fun (r : ByteArray) z => r.push (UInt8.ofNat z.toNat)) ⟨s.toArray⟩ = ⟨(s ++ ns.map (fun z => UInt8.ofNat z.toNat)).toArray⟩ := by
  induction ns with
  | nil => intro s; simp
  | cons z ns ih =>
    intro s
    have : (ByteArray.push ⟨s.toArray⟩ (UInt8.ofNat z.toNat)) = ⟨(s ++ [UInt8.ofNat z.toNat]).toArray⟩ := by apply ByteArray.ext; simp
    simp only [List.foldl_cons]; rw [this, ih]; simp
theorem run_convBytes {src dst' e : TypeId} {b o cap : Nat} {cs : Array Value} {T : TypeId} {fz : Nat × Nat} {vs : List Value} {l : List UInt8} {w : World} (hs : P.underlying src = some (.slice e)) (he : P.underlying e = some (.int .u8)) (hd : P.underlying dst' = some .string)
    (hb : w.heap[b]? = some (.cells cs T fz)) (hvs : ∀ j, j < vs.length → cs[o + j]? = vs[j]?) (hl : bytesOf vs = some l) : (convert src dst' (.slice (some ⟨b, o, none⟩) vs.length cap)).run P w = .ok (str l) w := by
  obtain ⟨ns, rfl, rfl⟩ := bytesOf_eq hl
  have h1 := run_loadCells (P := P) hb (ns.map (Value.int .u8)) hvs
  rw [run_convert_bytes_string w src dst' e _ _ _ hs he hd, run_bytesToString w _ _ _ ns h1]
  have := foldl_push ns []
  simp only [List.nil_append] at this
  exact congrArg (fun q => Result.ok (Value.string q) w) this
/-- a string out of bytes of one's own -/
theorem ov_convBytes {src dst' e : TypeId} {b cap : Nat} {T : TypeId} {fz : Nat × Nat} {vs : List Value} {l : List UInt8} (hx : ev E x = some (cx, .slice (some ⟨b, 0, none⟩) vs.length cap)) (h1 : Imp cg cx) (hs : P.underlying src = some (.slice e)) (he : P.underlying e = some (.int .u8)) (hd : P.underlying dst' = some .string)
    (hm : (b, Obj.cells vs.toArray T fz) ∈ H) (hl : bytesOf vs = some l) : OpV P n E (St w0 bs H M) ⟨dst, .convert src dst' x, ty, pos, af, g⟩ cg (str l) :=
  ov_run fun h a ha w hw => by
    simp only [execOp, ha.evalc hx (h1 h), Sem.run_bind]
    rw [run_convBytes (o := 0) hs he hd (hw.get hm) (by simp) hl]; rfl
theorem or_convBytes {src dst' e : TypeId} {s len : Nat} {T : TypeId} {vs : List Value} {l : List UInt8} (hs : P.underlying src = some (.slice e)) (he : P.underlying e = some (.int .u8)) (hd : P.underlying dst' = some .string) (hlen : len = vs.length) (hl : bytesOf vs = some l) (u : Value) :
    OpR P n ((s, true, u) :: E) (St w0 bs H M) (Fresh w0 bs H M len (.cells vs.toArray T (0, 0)) u) ⟨dst, .convert src dst' (.tmp s), ty, pos, af, none⟩ (exact1 true (str l)) := ⟨fun a ha w hw ⟨b, hu, hst⟩ => by
  subst hlen; subst hu
  have hx : a.eval (.tmp s) = .slice (some ⟨b, 0, none⟩) vs.length vs.length := ha.eval (by simp [ev, look])
  have hr : (execOp a.eval ⟨dst, .convert src dst' (.tmp s), ty, pos, af, none⟩).run P w = .ok (.value (str l)) w := by
    simp only [execOp, hx, Sem.run_bind]
    rw [run_convBytes (o := 0) hs he hd (hst.get List.mem_cons_self) (by simp) hl]; rfl
  unfold Tells
  rw [hr]
  exact ⟨rfl, Keep.refl _ _, hw⟩⟩
theorem wd_conv {d s src dst' e len : Nat} {T : TypeId} {vs : List Value} {l : List UInt8} {tail : List Oper} {F : REnv} (hU : lookR F s = some (Fresh w0 bs H M len (.cells vs.toArray T (0, 0)))) (hs : P.underlying src = some (.slice e)) (he : P.underlying e = some (.int .u8)) (hd : P.underlying dst' = some .string) (hlen : len = vs.length) (hl : bytesOf vs = some l)
    (hdn : Nat.blt d n = true) (hsn : Nat.blt s n = true) (hb : belowN n E = true) (hF : lookR F d = none) (h : WD P ops rest n ((d, true, str l) :: E) F (St w0 bs H M) tail k) : WD P ops (⟨some d, .convert src dst' (.tmp s), ty, pos, af, none⟩ :: rest) n E F (St w0 bs H M) tail k :=
  wd_rel (s := s) rfl rfl hdn hsn hb rfl hF hU (fun u => or_convBytes hs he hd hlen hl u) (by simp [Oper.looksAt, Op.operands]) h
/-- a nil slice of bytes -/
theorem ov_convNil {src dst' e : TypeId} {l c : Nat} (hx : ev E x = some (cx, .slice none l c)) (h1 : Imp cg cx) (hs : P.underlying src = some (.slice e)) (he : P.underlying e = some (.int .u8)) (hd : P.underlying dst' = some .string) :
    OpV P n E C ⟨dst, .convert src dst' x, ty, pos, af, g⟩ cg (str []) :=
  ov_run fun h a ha w hw => by
    simp [execOp, ha.evalc hx (h1 h), convert, run_underlying hs, run_underlying he, run_underlying hd, Conv.bytesToString]; rfl

/-! ### slices -/
theorem ov_len {t e : TypeId} {a0 : Option Addr} {len cap : Nat} (hx : ev E x = some (cx, .slice a0 len cap)) (h1 : Imp cg cx) (ht : P.underlying t = some (.slice e)) :
    OpV P n E C ⟨dst, .call ⟨.builtin .len, #[x], #[t]⟩, ty, pos, af, g⟩ cg (i64 (len : Int)) :=
  ov_run fun h a ha w _ => by
    have := ha.evalc hx (h1 h)
    simp [execOp, resolve, invoke, builtin, this, Builtin.len_, run_underlying ht, goInt]
theorem ov_indexAddr {t e : TypeId} {a0 : Option Addr} {len cap i m b o : Nat} {k1 : IntKind} {z : Int} (hx : ev E x = some (cx, .slice a0 len cap)) (hy : ev E y = some (cy, .int k1 z)) (hi : z = (i : Int)) (h1 : Imp cg cx) (h2 : Imp cg cy) (ht : P.underlying t = some (.slice e)) (hs : (P.info? e).map (·.size) = some m)
    (ha0 : cg = true → a0 = some ⟨b, o, none⟩) (hf : cg = true → i < len) : OpV P n E C ⟨dst, .indexAddr t x y, ty, pos, af, g⟩ cg (.pointer (some ⟨b, o + i * m, none⟩)) :=
  ov_run fun h a ha w _ => by
    have := hf h
    have := ha0 h
    subst hi; subst this
    have h3 : (0 : Int) ≤ (i : Int) ∧ (i : Int) < (len : Int) := by omega
    simp only [execOp, ha.evalc hx (h1 h), ha.evalc hy (h2 h), Sem.run_bind, Instr.indexAt, asIntOf, Sem.run_pure, Result.andThen_ok, run_underlying ht]
    rw [if_pos h3]
    simp [run_sizeOf hs, add_addr]
/-- an array's own element, at a place that is known to lie in it -/
theorem ov_indexAddrA {t e : TypeId} {len i m b o : Nat} {k1 : IntKind} {z : Int} (hx : ev E x = some (cx, .pointer (some ⟨b, o, none⟩))) (hy : ev E y = some (cy, .int k1 z)) (hi : z = (i : Int)) (h1 : Imp cg cx) (h2 : Imp cg cy) (ht : P.underlying t = some (.array len e)) (hs : (P.info? e).map (·.size) = some m)
    (hf : cg = true → i < len) : OpV P n E C ⟨dst, .indexAddr t x y, ty, pos, af, g⟩ cg (.pointer (some ⟨b, o + i * m, none⟩)) :=
  ov_run fun h a ha w _ => by
    have := hf h
    subst hi
    have h3 : (0 : Int) ≤ (i : Int) ∧ (i : Int) < (len : Int) := by omega
    simp only [execOp, ha.evalc hx (h1 h), ha.evalc hy (h2 h), Sem.run_bind, Instr.indexAt, asIntOf, Sem.run_pure, Result.andThen_ok, run_underlying ht, Instr.sureAddr]
    rw [if_pos h3]
    simp [run_sizeOf hs, add_addr]

/-- What a slice holds: a row of cells that is laid, m cells an element. -/
def Sl (M : Ghost) {α : Type} (m : Nat) (R : α → List Value → Prop) (v : Value) (l : List α) : Prop :=
  ∃ a cap, v = .slice a l.length cap ∧ l.length ≤ cap ∧ l.length ≤ 9223372036854775807 ∧ (l ≠ [] → ∃ b o cs T fz, a = some ⟨b, o, none⟩ ∧ M b (.cells cs T fz) ∧ ∀ i (h : i < l.length), ∃ vs, vs.length = m ∧ R l[i] vs ∧ ∀ j, j < m → cs[o + i * m + j]? = vs[j]?)
theorem Sl.mono {M M' : Ghost} {α : Type} {m : Nat} {R R' : α → List Value → Prop} {v : Value} {l : List α} (h : Sl M m R v l) (hM : ∀ b o, M b o → M' b o) (hR : ∀ x vs, x ∈ l → R x vs → R' x vs) : Sl M' m R' v l := by
  obtain ⟨a, cap, h1, h2, h3, h4⟩ := h
  refine ⟨a, cap, h1, h2, h3, fun hne => ?_⟩
  obtain ⟨b, o, cs, T, fz, h5, h6, h7⟩ := h4 hne
  refine ⟨b, o, cs, T, fz, h5, hM _ _ h6, fun i hi => ?_⟩
  obtain ⟨vs, h8, h9, h10⟩ := h7 i hi
  exact ⟨vs, h8, hR _ _ (List.getElem_mem hi) h9, h10⟩
theorem sl_nil {M : Ghost} {α : Type} {m : Nat} {R : α → List Value → Prop} : Sl M m R (.slice none 0 0) ([] : List α) := ⟨none, 0, rfl, by simp, by simp, fun h => absurd rfl h⟩

/-! ### append -/
/-- A slice that the call owns and may append to. -/
def OwnS (e : TypeId) (m : Nat) (v : Value) (Hs : List (Nat × Obj)) (xs : List Value) : Prop :=
  (v = .slice none 0 0 ∧ Hs = [] ∧ xs = []) ∨
  ∃ b len cap cur, v = .slice (some ⟨b, 0, none⟩) len cap ∧ Hs = [(b, .cells cur e (0, 0))] ∧ xs.length = len * m ∧ len ≤ cap ∧ cap ≤ maxLen ∧ cur.size = cap * m ∧ cur.toList.take (len * m) = xs
theorem OwnS.nil {e : TypeId} {m : Nat} : OwnS e m (.slice none 0 0) [] [] := .inl ⟨rfl, rfl, rfl⟩
theorem OwnS.lit {e : TypeId} {m len b : Nat} {l : List Value} (h : l.length = len * m) (hm : len ≤ maxLen) : OwnS e m (.slice (some ⟨b, 0, none⟩) len len) [(b, .cells l.toArray e (0, 0))] l :=
  .inr ⟨b, len, len, l.toArray, rfl, rfl, h, Nat.le_refl _, hm, by simpa using h, by rw [List.take_of_length_le (by simp; omega)]⟩
/-- .. what it reads as when it is laid for good. -/
theorem OwnS.sl {e : TypeId} {m : Nat} {v : Value} {Hs : List (Nat × Obj)} {xs : List Value} {M : Ghost} {α : Type} {R : α → List Value → Prop} {l : List α} (h : OwnS e m v Hs xs) (hm : 0 < m) (hM : ∀ p ∈ Hs, M p.1 p.2) (hlen : xs.length = l.length * m) (hb : l.length ≤ 9223372036854775807)
    (hR : ∀ i (hi : i < l.length), R l[i] ((xs.drop (i * m)).take m)) : Sl M m R v l := by
  rcases h with ⟨rfl, rfl, rfl⟩ | ⟨b, len, cap, cur, rfl, rfl, h1, h2, h3, h4, h5⟩
  · have : l = [] := List.eq_nil_of_length_eq_zero (by
      have : l.length * m = 0 := by simpa using hlen.symm
      rcases Nat.mul_eq_zero.1 this with h | h
      · exact h
      · omega)
    subst this; exact sl_nil
  · have hl : len = l.length := Nat.eq_of_mul_eq_mul_right hm (by omega)
    subst hl
    refine ⟨_, cap, rfl, h2, hb, fun _ => ⟨b, 0, cur, e, (0, 0), rfl, hM _ List.mem_cons_self, fun i hi => ⟨(xs.drop (i * m)).take m, ?_, hR i hi, fun j hj => ?_⟩⟩⟩
    · have : i * m + m ≤ l.length * m := by have := Nat.mul_le_mul_right m (Nat.succ_le_of_lt hi); rw [Nat.succ_mul] at this; exact this
      simp; omega
    · have : i * m + m ≤ l.length * m := by have := Nat.mul_le_mul_right m (Nat.succ_le_of_lt hi); rw [Nat.succ_mul] at this; exact this
      rw [← h5]
      simp only [Nat.zero_add, List.getElem?_take, List.getElem?_drop]
      rw [if_pos hj, if_pos (by omega)]; simp
theorem plain_one {v : Value} (h : plainV v = true) : v.oneCell' = true := by cases v <;> simp_all [plainV, Value.oneCell']
/-- An append onto an owned slice: what comes out is owned; the state behind it. -/
theorem run_append' {t e : TypeId} {m by' : Nat} {i : TypeInfo} {z v : Value} {Hs H0 : List (Nat × Obj)} {xs news : List Value} {ad : Addr} {c len2 : Nat} {w : World} (ht : P.underlying t = some (.slice e)) (hi : P.info? e = some i) (hz : i.zero = some z) (hsz : i.size = m) (hby : i.bytes = by') (hzs : z.cells.size = m) (hm : 0 < m)
    (hown : OwnS e m v Hs xs) (hw : St w0 bs (Hs ++ H0) M w) (hl2 : news.length = len2 * m) (hnews : ∀ j u, news[j]? = some u → w.cell? (ad.add j) = some u) (hp : news.all plainV = true) (hb1 : xs.length / m + len2 ≤ 1000000000) (hb2 : by' ≤ 140000) :
    ∃ v' Hs' w', (Builtin.append_ #[t, t] ty #[v, .slice (some ad) len2 c]).run P w = .ok v' w' ∧ OwnS e m v' Hs' (xs ++ news) ∧ St w0 bs (Hs' ++ H0) M w' := by
  have h1 : ∀ u ∈ news, u.oneCell' = true := fun u hu => plain_one (by rw [List.all_eq_true] at hp; exact hp u hu)
  subst hsz; subst hby
  -- a new block
  have grown : ∀ (old len : Nat) (Hs1 : List (Nat × Obj)), xs.length = len * i.size → len + len2 ≤ 1000000000 → old < len + len2 → St w0 bs (Hs1 ++ H0) M w →
      OwnS e i.size (.slice (some ⟨w.heap.size, 0, none⟩) (len + len2) (grownCap w (len + len2) old e)) [(w.heap.size, .cells (xs.toArray ++ news.toArray ++ Builtin.zeroCells z.cells (grownCap w (len + len2) old e - (len + len2))) e (0, 0))] (xs ++ news) ∧
      St w0 bs ([(w.heap.size, .cells (xs.toArray ++ news.toArray ++ Builtin.zeroCells z.cells (grownCap w (len + len2) old e - (len + len2))) e (0, 0))] ++ H0) M (w.drew.alloc (.cells (xs.toArray ++ news.toArray ++ Builtin.zeroCells z.cells (grownCap w (len + len2) old e - (len + len2))) e)) := by
    intro old len Hs1 hlen hb ho hst
    have hge := grownCap_ge w (len + len2) old e
    have hcm : grownCap w (len + len2) old e ≤ maxLen := grownCap_le_maxLen w (len + len2) old e (by simp only [maxLen]; omega)
    have hxl : (xs ++ news).length = (len + len2) * i.size := by rw [List.length_append, hlen, hl2, Nat.add_mul]
    refine ⟨.inr ⟨_, _, _, _, rfl, rfl, hxl, hge, hcm, ?_, ?_⟩, ?_⟩
    · simp only [Array.size_append, List.size_toArray, size_zeroCells, hzs, hlen, hl2, ← Nat.add_mul]
      congr 1
      omega
    · simp only [Array.toList_append, List.append_assoc]
      rw [← List.append_assoc, ← hxl]
      exact List.take_left
    · have h2 : St w0 bs H0 M w := hst.drop (List.sublist_append_right _ _)
      have h3 : St w0 bs H0 M w.drew := h2.ext (Ext.drew w 1)
      exact h3.alloc _
  rcases hown with ⟨rfl, rfl, rfl⟩ | ⟨b, len, cap, cur, rfl, rfl, h2, h3, h4, h5, h6⟩
  · simp at hb1
    by_cases h0 : len2 = 0
    · subst h0
      have hn : news = [] := List.eq_nil_of_length_eq_zero (by simpa using hl2)
      subst hn
      refine ⟨.slice none 0 0, [], w, ?_, by simpa using OwnS.nil, hw⟩
      simp [Builtin.append_, run_underlying ht, sizeOf, typeInfo, hi, Builtin.lenOf, Builtin.firstCells, loadCells, loadCellsFrom]
    · have hr := run_append_nil (P := P) w t ty e i z ht hi hz ad len2 c news hl2 hnews (by omega) (by omega) (by have := Nat.mul_le_mul hb1 hb2; omega)
      have := grown 0 0 [] (by simp) (by omega) (by omega) hw
      simp only [Nat.zero_add, List.nil_append, Array.empty_append] at this
      exact ⟨_, _, _, hr, this.1, this.2⟩
  · have hdiv : xs.length / i.size = len := by rw [h2]; exact Nat.mul_div_cancel _ hm
    rw [hdiv] at hb1
    have hg : w.heap[b]? = some (.cells cur e (0, 0)) := hw.get (by simp)
    by_cases hroom : len + len2 ≤ cap
    · have hfit : len * i.size + news.length ≤ cur.size := by rw [hl2, h5, ← Nat.add_mul]; exact Nat.mul_le_mul_right _ hroom
      have hr := run_append_room (P := P) w t ty e i ht hi b len cap cur hg ad len2 c news hl2 hnews h1 hroom hfit
      have hxl : (xs ++ news).length = (len + len2) * i.size := by rw [List.length_append, h2, hl2, Nat.add_mul]
      refine ⟨_, [(b, .cells (cur.toList.take (len * i.size) ++ news ++ cur.toList.drop (len * i.size + news.length)).toArray e (0, 0))], _, hr, .inr ⟨b, _, cap, _, rfl, rfl, hxl, hroom, h4, ?_, ?_⟩, ?_⟩
      · simp only [List.size_toArray, List.length_append, List.length_take, List.length_drop, Array.length_toList]
        omega
      · rw [h6, ← hxl]; exact List.take_left
      · refine hw.upd (o := .cells cur e (0, 0)) Upd.here ⟨rfl, rfl, rfl, by simp [World.setRow], fun k _ hk => setRow_other w b k _ (by simpa using hk)⟩ (setRow_heap w b cur _ e _ hg)
    · have holds : ∀ j u, xs[j]? = some u → w.cell? ((⟨b, 0, none⟩ : Addr).add j) = some u := by
        intro j u hj
        rw [add_addr, cell_of hg]
        rw [← h6] at hj
        simp only [List.getElem?_take] at hj
        split at hj
        · simpa using hj
        · cases hj
      have hr := run_append_grow (P := P) w t ty e i z ht hi hz ⟨b, 0, none⟩ len cap xs h2 holds ad len2 c news hl2 hnews (by omega) (by omega) (growslice_fits (by omega) (by have := Nat.mul_le_mul hb1 hb2; omega))
      have := grown cap len _ h2 hb1 (by omega) hw
      exact ⟨_, _, _, hr, this.1, this.2⟩
theorem run_appendOp {s src : Operand} {t : TypeId} {a : Act} {w : World} {v u : Value} (hs : a.eval s = v) (hx : a.eval src = u) {v' : Value} {w' : World} (hr : (Builtin.append_ #[t, t] ty #[v, u]).run P w = .ok v' w') :
    (execOp a.eval ⟨dst, .call ⟨.builtin .append, #[s, src], #[t, t]⟩, ty, pos, af, g⟩).run P w = .ok (.value v') w' := by
  simp [execOp, resolve, invoke, builtin, hs, hx, hr]
/-- append(s, x ..) where the source is a block of one's own (a literal) -/
theorem wl_append {s src : Operand} {t e : TypeId} {m by' d : Nat} {i : TypeInfo} {z v : Value} {Hs H0 : List (Nat × Obj)} {xs news : List Value} {b c len2 : Nat} {T2 : TypeId} {fz : Nat × Nat} (hg : gd ops E g = some true) (hown : OwnS e m v Hs xs) (hd : Nat.blt d n = true)
    (hx : ev E s = some (true, v)) (hy : ev E src = some (true, .slice (some ⟨b, 0, none⟩) len2 c)) (ht : P.underlying t = some (.slice e)) (hi : P.info? e = some i) (hz : i.zero = some z) (hsz : i.size = m) (hby : i.bytes = by') (hzs : z.cells.size = m) (hm : Nat.blt 0 m = true)
    (hmem : (b, Obj.cells news.toArray T2 fz) ∈ H) (hl2 : news.length = len2 * m) (hp : news.all plainV = true) (hsub : List.Sublist (Hs ++ H0) H) (hb1 : xs.length / m + len2 ≤ 1000000000) (hb2 : Nat.ble by' 140000 = true)
    (h : ∀ v' Hs', OwnS e m v' Hs' (xs ++ news) → WL P ops rest n ((d, true, v') :: E) (St w0 bs (Hs' ++ H0) M) k) :
    WL P ops (⟨some d, .call ⟨.builtin .append, #[s, src], #[t, t]⟩, ty, pos, af, g⟩ :: rest) n E (St w0 bs H M) k := by
  have hd : d < n := by simpa [Nat.blt_eq] using hd
  refine wl_op hg fun a w ha hw => ?_
  obtain ⟨v', Hs', w', hr, h2, h3⟩ := run_append' (ty := ty) (ad := ⟨b, 0, none⟩) (c := c) ht hi hz hsz hby hzs (by simpa [Nat.blt_eq] using hm) hown (hw.drop hsub) hl2 (fun j u hj => by rw [add_addr, cell_of (hw.get hmem)]; simpa using hj) hp hb1 (Nat.le_of_ble_eq_true hb2)
  unfold Oper.wp
  rw [run_appendOp (ha.eval hx) (ha.eval hy) hr, Oper.upon_value]
  exact (h v' Hs' h2).run _ _ (ha.put hd rfl) h3
/-- append(s, x ..) where the source is laid (an argument, say), nil or not -/
theorem wl_appendM {s src : Operand} {t e : TypeId} {m by' d : Nat} {i : TypeInfo} {z v : Value} {Hs H0 : List (Nat × Obj)} {xs news : List Value} {a2 : Option Addr} {c len2 : Nat} (hg : gd ops E g = some true) (hown : OwnS e m v Hs xs) (hd : Nat.blt d n = true)
    (hx : ev E s = some (true, v)) (hy : ev E src = some (true, .slice a2 len2 c)) (ht : P.underlying t = some (.slice e)) (hi : P.info? e = some i) (hz : i.zero = some z) (hsz : i.size = m) (hby : i.bytes = by') (hzs : z.cells.size = m) (hm : Nat.blt 0 m = true)
    (hsrc : len2 = 0 ∨ ∃ b o cs T fz, a2 = some ⟨b, o, none⟩ ∧ M b (.cells cs T fz) ∧ ∀ j u, news[j]? = some u → cs[o + j]? = some u) (hl2 : news.length = len2 * m) (hp : news.all plainV = true) (hsub : List.Sublist (Hs ++ H0) H) (hb1 : xs.length / m + len2 ≤ 1000000000) (hb2 : Nat.ble by' 140000 = true)
    (h : ∀ v' Hs', OwnS e m v' Hs' (xs ++ news) → WL P ops rest n ((d, true, v') :: E) (St w0 bs (Hs' ++ H0) M) k) :
    WL P ops (⟨some d, .call ⟨.builtin .append, #[s, src], #[t, t]⟩, ty, pos, af, g⟩ :: rest) n E (St w0 bs H M) k := by
  have hd : d < n := by simpa [Nat.blt_eq] using hd
  refine wl_op hg fun a w ha hw => ?_
  unfold Oper.wp
  rcases hsrc with h0 | ⟨b, o, cs, T, fz, rfl, hM, hcs⟩
  · subst h0
    have hn : news = [] := List.eq_nil_of_length_eq_zero (by simpa using hl2)
    subst hn
    have hr : (Builtin.append_ #[t, t] ty #[v, .slice a2 0 c]).run P w = .ok v w := by
      rcases hown with ⟨rfl, rfl, rfl⟩ | ⟨b, len, cap, cur, rfl, rfl, h2, h3, h4, h5, h6⟩
      · cases a2 <;> simp [Builtin.append_, run_underlying ht, sizeOf, typeInfo, hi, Builtin.lenOf, Builtin.firstCells, loadCells, loadCellsFrom]
      · cases a2 <;> simp [Builtin.append_, run_underlying ht, sizeOf, typeInfo, hi, Builtin.lenOf, Builtin.firstCells, loadCells, loadCellsFrom, h3, storeCells]
    rw [run_appendOp (ha.eval hx) (ha.eval hy) hr, Oper.upon_value]
    exact (h v Hs (by simpa using hown)).run _ _ (ha.put hd rfl) (hw.drop hsub)
  · obtain ⟨v', Hs', w', hr, h2, h3⟩ := run_append' (ty := ty) (ad := ⟨b, o, none⟩) (c := c) ht hi hz hsz hby hzs (by simpa [Nat.blt_eq] using hm) hown (hw.drop hsub) hl2 (fun j u hj => by rw [add_addr, cell_of (hw.laid _ _ hM)]; exact hcs j u hj) hp hb1 (Nat.le_of_ble_eq_true hb2)
    rw [run_appendOp (ha.eval hx) (ha.eval hy) hr, Oper.upon_value]
    exact (h v' Hs' h2).run _ _ (ha.put hd rfl) h3

/-! ### arrays that are laid; bits -/
theorem ov_loadAM {t e : TypeId} {b o m : Nat} {cs : Array Value} {l : List Value} {T : TypeId} {fz : Nat × Nat} (hx : ev E x = some (cx, .pointer (some ⟨b, o, none⟩))) (h1 : Imp cg cx) (ht : P.underlying t = some (.array m e))
    (hs : (P.info? t).map (·.size) = some l.length) (hm : cg = true → M b (Obj.cells cs T fz)) (hv : cg = true → ∀ j, j < l.length → cs[o + j]? = l[j]?) : OpV P n E (St w0 bs H M) ⟨dst, .load t x, ty, pos, af, g⟩ cg (.agg l.toArray) :=
  ov_run fun h a ha w hw => by
    simp [execOp, ha.evalc hx (h1 h), Instr.loadAt, Instr.sureAddr, loadVar, isAgg_array ht, run_sizeOf hs, run_loadCells (hw.laid _ _ (hm h)) l (hv h)]
/-- an array's element of one cell -/
theorem ov_aindex {e : TypeId} {len i : Nat} {cs : Array Value} {k1 : IntKind} {z : Int} {d : TypeDesc} {v : Value} (hx : ev E x = some (cx, .agg cs)) (hy : ev E y = some (cy, .int k1 z)) (hi : z = (i : Int)) (h1 : Imp cg cx) (h2 : Imp cg cy) (ht : P.underlying tx = some (.array len e)) (hs : (P.info? e).map (·.size) = some 1)
    (hd : P.underlying e = some d) (hd' : (match d with | .struct _ | .array _ _ => true | _ => false) = false) (hf : cg = true → i < len) (hv : cg = true → cs[i]? = some v) : OpV P n E C ⟨dst, .index tx x y, ty, pos, af, g⟩ cg v :=
  ov_run fun h a ha w _ => by
    have := hf h
    have hv := hv h
    subst hi
    have h3 : (0 : Int) ≤ (i : Int) ∧ (i : Int) < (len : Int) := by omega
    simp only [execOp, ha.evalc hx (h1 h), ha.evalc hy (h2 h), Sem.run_bind, Instr.index, asIntOf, Sem.run_pure, Result.andThen_ok, run_underlying ht]
    rw [if_pos h3]
    simp [run_sizeOf hs, part_one hd (by cases d <;> simp_all) hv]
def bitI (op : BinOp) (kd : IntKind) (u z : Int) : Int :=
  let a := BitVec.ofInt kd.bits u
  let b := BitVec.ofInt kd.bits z
  match op with
  | .and => kd.wrap (a &&& b).toNat
  | .or => kd.wrap (a ||| b).toNat
  | .xor => kd.wrap (a ^^^ b).toNat
  | _ => 0
theorem ov_bits {op : BinOp} {kd : IntKind} {u z : Int} (hx : ev E x = some (cx, .int kd u)) (hy : ev E y = some (cy, .int kd z)) (h1 : Imp cg cx) (h2 : Imp cg cy) (ho : (op == .and || op == .or || op == .xor) = true) :
    OpV P n E C ⟨dst, .binOp op tx x y tyy, ty, pos, af, g⟩ cg (.int kd (bitI op kd u z)) :=
  ov_run fun h a ha w _ => run_bin (ha.evalc hx (h1 h)) (ha.evalc hy (h2 h)) guard_int (by cases op <;> simp at ho <;> simp [binOp, Op.intBits, bitI])
/-- another kind of integer, cut to it -/
theorem ov_convW {s t : TypeId} {kd k' : IntKind} {u : Int} (hx : ev E x = some (cx, .int kd u)) (h1 : Imp cg cx) (hs : (P.underlying s).isSome = true) (ht : P.underlying t = some (.int k')) :
    OpV P n E C ⟨dst, .convert s t x, ty, pos, af, g⟩ cg (.int k' (k'.wrap u)) :=
  ov_run fun h a ha w _ => by
    obtain ⟨ds, hs⟩ := Option.isSome_iff_exists.1 hs
    simp [execOp, ha.evalc hx (h1 h), convert, run_underlying hs, run_underlying ht, Conv.intToInt]
/-- shifts by a number that is known -/
theorem ov_shr {kd k2 : IntKind} {u z : Int} {m : Nat} (hx : ev E x = some (cx, .int kd u)) (hy : ev E y = some (cy, .int k2 z)) (hz : z = (m : Int)) (h1 : Imp cg cx) (h2 : Imp cg cy) (hm : Nat.ble m kd.bits = true) (hu : cg = true → 0 ≤ u) :
    OpV P n E C ⟨dst, .binOp .shr tx x y tyy, ty, pos, af, g⟩ cg (.int kd (u / ((2 ^ m : Nat) : Int))) :=
  ov_run fun h a ha w _ => run_bin (ha.evalc hx (h1 h)) (ha.evalc hy (h2 h)) guard_int (by
    subst hz
    have h3 : ¬ ((m : Int) < 0) := by omega
    have h4 : min m kd.bits = m := Nat.min_eq_left (Nat.le_of_ble_eq_true hm)
    have h5 : u.fdiv (2 ^ m) = u / 2 ^ m := Int.fdiv_eq_ediv_of_nonneg _ (Int.pow_nonneg (by decide))
    have h6 : ((2 ^ m : Nat) : Int) = 2 ^ m := by simp
    simp [binOp, Op.shift, h3, h4, h5])
theorem ov_shl {kd k2 : IntKind} {u z : Int} {m : Nat} (hx : ev E x = some (cx, .int kd u)) (hy : ev E y = some (cy, .int k2 z)) (hz : z = (m : Int)) (h1 : Imp cg cx) (h2 : Imp cg cy) (hm : Nat.ble m kd.bits = true) (hu : cg = true → Fits kd (u * 2 ^ m)) :
    OpV P n E C ⟨dst, .binOp .shl tx x y tyy, ty, pos, af, g⟩ cg (.int kd (u * 2 ^ m)) :=
  ov_run fun h a ha w _ => run_bin (ha.evalc hx (h1 h)) (ha.evalc hy (h2 h)) guard_int (by
    subst hz
    have h3 : ¬ ((m : Int) < 0) := by omega
    have h4 : min m kd.bits = m := Nat.min_eq_left (Nat.le_of_ble_eq_true hm)
    simp [binOp, Op.shift, h3, h4, wrap_fits (hu h)])
theorem ov_nilCheck {a0 : Addr} (hx : ev E x = some (cx, .pointer (some a0))) (h1 : Imp cg cx) : OpV P n E C ⟨dst, .nilCheck x, ty, pos, af, g⟩ cg (.pointer (some a0)) :=
  ov_run fun h a ha w _ => by simp [execOp, ha.evalc hx (h1 h)]

/-! ### function values -/
theorem ov_makeFunc {fn : Fn} {f1 f2 : List Operand} {v1 v2 : List Value} (h1 : evs E f1 = some v1) (h2 : evs E f2 = some v2) : OpV P n E C ⟨dst, .makeFunc fn f1.toArray f2.toArray, ty, pos, af, g⟩ cg (.func fn v1.toArray v2.toArray) :=
  ov_run fun h a ha w _ => by
    have e1 := evs_eval ha h1
    have e2 := evs_eval ha h2
    simp [execOp, Instr.makeFunc, e1, e2]
/-- A call of a function value that is known. -/
theorem ov_callV {f : FuncId} {fv : Operand} {l : List Operand} {ats : Array TypeId} {vs : List (Bool × Value)} {args : Array Value} {first captured : List Value} {v : Value} (hfv : ev E fv = some (true, .func (.func f) first.toArray captured.toArray)) (hf : ∀ args w, (callFunc f args).run P w = .ok (.enter f args) w) (hl : evg cg E l = some vs)
    (hp : cg = true → vs.all (·.1) = true) (hargs : first ++ vs.map (·.2) ++ captured = args.toList) (hC : ∀ w w', C w → Ext w w' → C w') (hc : cg = true → ∀ w, C w → Calls P f args w (RetE w v)) :
    OpV P n E C ⟨dst, .call ⟨.value fv, l.toArray, ats⟩, ty, pos, af, g⟩ cg v := ⟨fun h a ha w hw => by
  have he := evg_eval ha hl (by simpa using hp h)
  have ha2 : (first.toArray ++ (l.map a.eval).toArray ++ captured.toArray) = args := by rw [he]; simp [hargs]
  have hr : (execOp a.eval ⟨dst, .call ⟨.value fv, l.toArray, ats⟩, ty, pos, af, g⟩).run P w = .ok (.enter f args) w := by
    have h1 : (first ++ (List.map a.eval l ++ captured)).toArray = args := by rw [← ha2]; simp
    simp [execOp, resolve, ha.eval hfv, Deferred.ofValue, invoke, hf, h1]
  exact upon_call hr ((hc h w hw).mono fun e w' he => ⟨he.1, he.2, hC w w' hw he.2⟩)⟩

/-! ### ends -/
/-- how the ghost has grown since the call began -/
def Since (w0 : World) (M0 M : Ghost) : Prop := (∀ b o, M0 b o → M b o) ∧ (∀ b o, M b o → M0 b o ∨ w0.heap.size ≤ b)
theorem Since.refl : Since w0 M M := ⟨fun _ _ h => h, fun _ _ h => .inl h⟩
theorem Since.step {M0 M' : Ghost} (h : Since w0 M0 M) (h1 : ∀ b o, M b o → M' b o) (h2 : ∀ b o, M' b o → M b o ∨ w0.heap.size ≤ b) : Since w0 M0 M' :=
  ⟨fun b o hb => h1 b o (h.1 b o hb), fun b o hb => (h2 b o hb).elim (fun h3 => h.2 b o h3) .inr⟩
theorem retS_of {M0 : Ghost} {Hn : List (Nat × Obj)} {R : Ghost → List (Nat × Obj) → Value → Prop} {v : Value} {w : World} (hw : St w0 [] H M w) (hs : Since w0 M0 M) (hH : List.Sublist Hn H) (hR : R M Hn v) : RetS M0 w0 R (.returned v) w :=
  ⟨v, Hn, M, rfl, hs.1, hs.2, hw.drop hH, hR⟩
/-- the result is told by more than a value -/
theorem wr_S {M0 : Ghost} {fn : Func} {t : Nat} {v' : Value} {Hn : List (Nat × Obj)} {R : Ghost → List (Nat × Obj) → Value → Prop} (hr : fn.results = #[.tmp t]) (ht : look E t = some (true, v')) (hs : Since w0 M0 M) (hH : List.Sublist Hn H) (hR : R M Hn v') : WR n E (St w0 [] H M) (bodyPost P fn (RetS M0 w0 R)) := ⟨fun a w ha hw => by
  have := ha.reads t true v' ht
  refine bodyPost_ret (v := v') ?_ ha.defers (retS_of hw hs hH hR)
  rw [results_tmp hr]
  simp [this]⟩
theorem wr_S2 {M0 : Ghost} {fn : Func} {t u : Nat} {v' r' : Value} {Hn : List (Nat × Obj)} {R : Ghost → List (Nat × Obj) → Value → Prop} (hr : fn.results = #[.tmp t, .tmp u]) (ht : look E t = some (true, v')) (hu : look E u = some (true, r')) (hs : Since w0 M0 M) (hH : List.Sublist Hn H) (hR : R M Hn (.tuple #[v', r'])) : WR n E (St w0 [] H M) (bodyPost P fn (RetS M0 w0 R)) := ⟨fun a w ha hw => by
  have h1 := ha.reads t true v' ht
  have h2 := ha.reads u true r' hu
  refine bodyPost_ret (v := .tuple #[v', r']) ?_ ha.defers (retS_of hw hs hH hR)
  rw [results_tmp2 hr]
  simp [h1, h2]⟩
/-- laid for good from here on -/
theorem St.lay {H1 H2 : List (Nat × Obj)} {w : World} (h : St w0 bs (H1 ++ H2) M w) : St w0 bs H2 (With M H1) w := h.publish
theorem since_with {M0 : Ghost} {H1 : List (Nat × Obj)} {w : World} (h : Since w0 M0 M) (hn : ∀ p ∈ H1, w0.heap.size ≤ p.1) : Since w0 M0 (With M H1) := h.step (fun _ _ h => .inl h) (fun b o hb => hb.elim .inl fun hm => .inr (hn (b, o) hm))
/-- an owned result that is not written any more -/
theorem retS_lay {M0 : Ghost} {Hn H' : List (Nat × Obj)} {R : Ghost → List (Nat × Obj) → Value → Prop} {v : Value} {w : World} (hw : St w0 [] H M w) (hs : Since w0 M0 M) (hH : List.Sublist Hn H) (hR : R (With M Hn) [] v) : RetS M0 w0 R (.returned v) w := by
  have h1 : St w0 [] (Hn ++ []) M w := by simpa using hw.drop hH
  exact ⟨v, [], With M Hn, rfl, (since_with (w := w) hs (fun p hp => by have := h1.new p (by simpa using hp); simpa using this)).1, (since_with (w := w) hs (fun p hp => by have := h1.new p (by simpa using hp); simpa using this)).2, h1.publish, hR⟩
end
end Go.Eng
/-
  More rules of the engine: slices that are laid and read cell by cell, results that are kept in cells, a new block behind a drawn region. Nothing of the program stands here.
-/
namespace Go.Eng
open Go.RowKit

/-- A laid slice, opened: the row's place is known where there is an element. -/
theorem Sl.open {M : Ghost} {α : Type} {m : Nat} {R : α → List Value → Prop} {v : Value} {l : List α} (h : Sl M m R v l) :
    ∃ a cap b o cs T fz, v = .slice a l.length cap ∧ l.length ≤ cap ∧ l.length ≤ 9223372036854775807 ∧ (l ≠ [] → a = some ⟨b, o, none⟩ ∧ M b (.cells cs T fz)) ∧ ∀ i (h : i < l.length), ∃ vs, vs.length = m ∧ R l[i] vs ∧ ∀ j, j < m → cs[o + i * m + j]? = vs[j]? := by
  obtain ⟨a, cap, h1, h2, h3, h4⟩ := h
  by_cases hl : l = []
  · subst hl
    exact ⟨a, cap, 0, 0, #[], 0, (0, 0), h1, h2, h3, fun h => absurd rfl h, fun i hi => absurd hi (by simp)⟩
  · obtain ⟨b, o, cs, T, fz, h5, h6, h7⟩ := h4 hl
    exact ⟨a, cap, b, o, cs, T, fz, h1, h2, h3, fun _ => ⟨h5, h6⟩, h7⟩
/-- a slice of texts -/
def SlS (M : Ghost) (v : Value) (l : List (List UInt8)) : Prop := Sl M 1 (fun s vs => vs = [str s]) v l
theorem SlS.open {M : Ghost} {v : Value} {l : List (List UInt8)} (h : SlS M v l) :
    ∃ a cap b o cs T fz, v = .slice a l.length cap ∧ l.length ≤ cap ∧ l.length ≤ 9223372036854775807 ∧ (l ≠ [] → a = some ⟨b, o, none⟩ ∧ M b (.cells cs T fz)) ∧ ∀ i, i < l.length → cs[o + i * 1]? = some (str (l.getD i default)) := by
  obtain ⟨a, cap, b, o, cs, T, fz, h1, h2, h3, h4, h5⟩ := Sl.open h
  refine ⟨a, cap, b, o, cs, T, fz, h1, h2, h3, h4, fun i hi => ?_⟩
  obtain ⟨vs, _, rfl, h6⟩ := h5 i hi
  have := h6 0 (by omega)
  simpa [hi] using this
/-- a slice of pairs of texts -/
def SlP (M : Ghost) (v : Value) (l : List (List UInt8 × List UInt8)) : Prop := Sl M 2 (fun p vs => vs = [str p.1, str p.2]) v l
theorem SlP.open {M : Ghost} {v : Value} {l : List (List UInt8 × List UInt8)} (h : SlP M v l) :
    ∃ a cap b o cs T fz, v = .slice a l.length cap ∧ l.length ≤ cap ∧ l.length ≤ 9223372036854775807 ∧ (l ≠ [] → a = some ⟨b, o, none⟩ ∧ M b (.cells cs T fz)) ∧ ∀ i, i < l.length → cs[o + i * 2]? = some (str (l.getD i default).1) ∧ cs[o + i * 2 + 1]? = some (str (l.getD i default).2) := by
  obtain ⟨a, cap, b, o, cs, T, fz, h1, h2, h3, h4, h5⟩ := Sl.open h
  refine ⟨a, cap, b, o, cs, T, fz, h1, h2, h3, h4, fun i hi => ?_⟩
  obtain ⟨vs, _, rfl, h6⟩ := h5 i hi
  have h7 := h6 0 (by omega)
  have h8 := h6 1 (by omega)
  simp at h7 h8
  simp [hi, h7, h8]

section
variable {P : Program} {n : Nat} {E : Env} {k : Kont} {ops : Array Oper} {rest : List Oper} {l : List Oper} {C C' : World → Prop}
variable {w0 : World} {bs : List Nat} {H : List (Nat × Obj)} {M : Ghost}
/-- behind a drawn region: the new block has a place -/
theorem wl_fresh {d len : Nat} {o : Obj} (h : ∀ b, WL P ops l n ((d, true, .slice (some ⟨b, 0, none⟩) len len) :: E) (St w0 bs ((b, o) :: H) M) k) (v : Value) :
    WL P ops l n ((d, true, v) :: E) (fun w => St w0 bs H M w ∧ Fresh w0 bs H M len o v w) k := ⟨fun a w ha ⟨_, b, hv, hst⟩ => by
  subst hv
  exact (h b).run a w ha hst⟩
theorem wr_weak {Q : Exit → Act → World → Prop} (hC : ∀ w, C w → C' w) (h : WR n E C' Q) : WR n E C Q := ⟨fun a w ha hw => h.run a w ha (hC w hw)⟩
theorem Sub.refl (E : Env) : Sub E E := fun _ _ _ h => h
/-- an owned result that is not written any more: laid -/
theorem wr_lay {M0 : Ghost} {fn : Func} {t : Nat} {v' : Value} {Hn : List (Nat × Obj)} {R : Ghost → List (Nat × Obj) → Value → Prop} (hr : fn.results = #[.tmp t]) (ht : look E t = some (true, v')) (hs : Since w0 M0 M) (hH : List.Sublist Hn H) (hR : R (With M Hn) [] v') : WR n E (St w0 [] H M) (bodyPost P fn (RetS M0 w0 R)) := ⟨fun a w ha hw => by
  have := ha.reads t true v' ht
  refine bodyPost_ret (v := v') ?_ ha.defers (retS_lay (H' := []) hw hs hH hR)
  rw [results_tmp hr]
  simp [this]⟩
theorem wr_lay2 {M0 : Ghost} {fn : Func} {t u : Nat} {v' r' : Value} {Hn : List (Nat × Obj)} {R : Ghost → List (Nat × Obj) → Value → Prop} (hr : fn.results = #[.tmp t, .tmp u]) (ht : look E t = some (true, v')) (hu : look E u = some (true, r')) (hs : Since w0 M0 M) (hH : List.Sublist Hn H) (hR : R (With M Hn) [] (.tuple #[v', r'])) : WR n E (St w0 [] H M) (bodyPost P fn (RetS M0 w0 R)) := ⟨fun a w ha hw => by
  have h1 := ha.reads t true v' ht
  have h2 := ha.reads u true r' hu
  refine bodyPost_ret (v := .tuple #[v', r']) ?_ ha.defers (retS_lay (H' := []) hw hs hH hR)
  rw [results_tmp2 hr]
  simp [h1, h2]⟩
/-! owned rows of texts, of pairs -/
def cellsS (l : List (List UInt8)) : List Value := l.map str
def cellsP (l : List (List UInt8 × List UInt8)) : List Value := l.flatMap fun p => [str p.1, str p.2]
theorem cellsS_length (l : List (List UInt8)) : (cellsS l).length = l.length * 1 := by simp [cellsS]
theorem cellsP_length (l : List (List UInt8 × List UInt8)) : (cellsP l).length = l.length * 2 := by
  induction l with
  | nil => rfl
  | cons p l ih => simp only [cellsP, List.flatMap_cons, List.length_append, List.length_cons, List.length_nil] at *; omega
theorem cellsS_snoc (l : List (List UInt8)) (x : List UInt8) : cellsS (l ++ [x]) = cellsS l ++ [str x] := by simp [cellsS]
theorem cellsP_snoc (l : List (List UInt8 × List UInt8)) (p : List UInt8 × List UInt8) : cellsP (l ++ [p]) = cellsP l ++ [str p.1, str p.2] := by simp [cellsP]
theorem cellsP_append (l m : List (List UInt8 × List UInt8)) : cellsP (l ++ m) = cellsP l ++ cellsP m := by simp [cellsP]
theorem cellsP_at : ∀ (l : List (List UInt8 × List UInt8)) (i : Nat) (h : i < l.length), ((cellsP l).drop (i * 2)).take 2 = [str l[i].1, str l[i].2]
  | p :: l, 0, _ => rfl
  | p :: l, i + 1, h => by
    have := cellsP_at l i (by simpa using h)
    rw [show (i + 1) * 2 = i * 2 + 2 from by omega]
    simpa [cellsP] using this
theorem cellsP_plain (l : List (List UInt8 × List UInt8)) : (cellsP l).all plainV = true := by
  induction l with
  | nil => rfl
  | cons p l ih => simp [cellsP, plainV]
theorem OwnS.slice {e : TypeId} {m : Nat} {v : Value} {Hs : List (Nat × Obj)} {xs : List Value} {k : Nat} (h : OwnS e m v Hs xs) (hm : 0 < m) (hl : xs.length = k * m) : ∃ a cap, v = .slice a k cap := by
  rcases h with ⟨rfl, rfl, rfl⟩ | ⟨b, len, cap, cur, rfl, rfl, h1, _⟩
  · have : k * m = 0 := by simpa using hl.symm
    have : k = 0 := by rcases Nat.mul_eq_zero.1 this with h | h <;> omega
    subst this; exact ⟨_, _, rfl⟩
  · have : len = k := Nat.eq_of_mul_eq_mul_right hm (by omega)
    subst this; exact ⟨_, _, rfl⟩
theorem OwnS.slS {e : TypeId} {v : Value} {Hs : List (Nat × Obj)} {l : List (List UInt8)} (h : OwnS e 1 v Hs (cellsS l)) (hM : ∀ p ∈ Hs, M p.1 p.2) (hb : l.length ≤ 9223372036854775807) : SlS M v l :=
  h.sl (by decide) hM (cellsS_length l) hb (fun i hi => by
    simp only [cellsS, Nat.mul_one, ← List.map_drop, ← List.map_take]
    rw [List.drop_eq_getElem_cons hi]; rfl)
theorem OwnS.slP {e : TypeId} {v : Value} {Hs : List (Nat × Obj)} {l : List (List UInt8 × List UInt8)} (h : OwnS e 2 v Hs (cellsP l)) (hM : ∀ p ∈ Hs, M p.1 p.2) (hb : l.length ≤ 9223372036854775807) : SlP M v l :=
  h.sl (by decide) hM (cellsP_length l) hb (fun i hi => cellsP_at l i hi)
/-- results: a struct in a cell, a value -/
theorem wr_cellS {fn : Func} {t u b : Nat} {tid : TypeId} {fs : Array Field} {l : List Value} {T : TypeId} {fz : Nat × Nat} {r r' : Value} {v : Value} (hr : fn.results = #[.cell t tid, .tmp u]) (ht : look E t = some (true, .pointer (some ⟨b, 0, none⟩))) (hu : look E u = some (true, r'))
    (hty : P.underlying tid = some (.struct fs)) (hm : (b, Obj.cells l.toArray T fz) ∈ H) (hs : (P.info? tid).map (·.size) = some l.length) (hv : .agg l.toArray = v) (hv2 : r' = r) : WR n E (St w0 [] H M) (bodyPost P fn (RetE w0 (.tuple #[v, r]))) := ⟨fun a w ha hw => by
  refine bodyPost_ret (v := .tuple #[v, r]) ?_ ha.defers ⟨rfl, hw.keep⟩
  have h1 := ha.reads t true _ ht
  have h2 := ha.reads u true _ hu
  subst hv hv2
  simp [results, hr, h1, h2, asAddr, loadVar, isAgg_struct hty, run_sizeOf hs, run_loadCells (o := 0) (hw.get hm) l (by simp)]⟩
end
end Go.Eng
/-
  More rules of the engine: maps with keys of one cell, slices of slices, an append that has no room, results in cells, a drawn region that makes one row out of another. Nothing of the program stands here.
-/
namespace Go.Eng
open Go.RowKit
set_option linter.unusedVariables false
section
variable {P : Program} {n : Nat} {E : Env} {k : Kont} {ops : Array Oper} {rest : List Oper} {cg : Bool}
variable {dst : Option Tmp} {ty : TypeId} {pos : String} {af : Array Edge} {g : Option (Nat × Bool)}
variable {w0 : World} {bs : List Nat} {H : List (Nat × Obj)} {M : Ghost} {C : World → Prop}
variable {x y z : Operand} {cx cy : Bool} {tx tyy : TypeId}

/-- an operation that does not run: whatever it would yield -/
theorem ov_off {o : Oper} {v : Value} (h : cg = false) : OpV P n E C o cg v := ⟨fun h2 => by rw [h] at h2; cases h2⟩

/-- what is owned, in another order -/
theorem St.perm {H' : List (Nat × Obj)} {w : World} (h : St w0 bs H M w) (hp : H'.Perm H) : St w0 bs H' M w :=
  ⟨h.keep, fun p hm => h.own p (hp.subset hm), fun p hm => h.new p (hp.subset hm), (hp.map _).nodup_iff.2 h.nodup, h.laid, fun b o hm p hm' => h.apart b o hm p (hp.subset hm')⟩

/-! ### maps -/
theorem wl_makeMap {T : TypeId} {d : Nat} (hg : gd ops E g = some true) (hd : Nat.blt d n = true)
    (h : ∀ b, WL P ops rest n ((d, true, .map (some b)) :: E) (St w0 bs ((b, .map ([] : List MapEntry).toArray 0) :: H) M) k) :
    WL P ops (⟨some d, .makeMap T none, ty, pos, af, g⟩ :: rest) n E (St w0 bs H M) k := by
  have hd : d < n := by simpa [Nat.blt_eq] using hd
  refine wl_op hg fun a w ha hw => ?_
  unfold Oper.wp
  have : (execOp a.eval ⟨some d, .makeMap T none, ty, pos, af, g⟩).run P w = .ok (.value (.map (some w.heap.size))) { w with heap := w.heap.push (.map #[] 0) } := by
    simp only [execOp, Option.map_none, run_makeMap_plain, Sem.run_bind, Result.andThen_ok, Sem.run_pure]
    rfl
  rw [this, Oper.upon_value]
  exact (h _).run _ _ (ha.put hd rfl) (hw.alloc _)
theorem wl_insert {mt kt et : TypeId} {d : TypeDesc} {b clock : Nat} {es : List MapEntry} {key v : Value} {H' : List (Nat × Obj)} (hg : gd ops E g = some true) (hx : ev E x = some (true, .map (some b))) (hy : ev E y = some (true, key)) (hz : ev E z = some (true, v))
    (ht : P.underlying mt = some (.map kt et)) (hk : P.underlying kt = some d) (hkey : MapKept.IsKey d key) (hu : Upd H b (.map es.toArray clock) (.map (es ++ [MapEntry.mk key v clock]).toArray (clock + 1)) H') (hf : Instr.findNow d key es 0 = some none)
    (h : WL P ops rest n E (St w0 bs H' M) k) : WL P ops (⟨none, .insert mt x y z, ty, pos, af, g⟩ :: rest) n E (St w0 bs H M) k := by
  refine wl_op hg fun a w ha hw => ?_
  have hb := hw.get hu.mem
  have hlt := lt_of_get hb
  unfold Oper.wp
  have : (execOp a.eval ⟨none, .insert mt x y z, ty, pos, af, g⟩).run P w = .ok .skip { w with heap := w.heap.setIfInBounds b (.map (es ++ [MapEntry.mk key v clock]).toArray (clock + 1)) } := by
    have hf' : Instr.findNow d key es.toArray.toList 0 = some none := by simpa using hf
    simp [execOp, ha.eval hx, ha.eval hy, ha.eval hz, Instr.mapUpdate, run_underlying ht, MapKept.run_getObj_map hb, MapKept.run_checkKey hk hkey, MapKept.run_findKey hk hf', MapKept.run_setObj_map _ hb]
  rw [this, Oper.upon_skip]
  refine h.run _ _ (by simpa [Act.put] using ha) (hw.upd hu ⟨rfl, rfl, rfl, by simp, fun i _ hi => ?_⟩ (by simp [hlt]))
  have : b ≠ i := fun e => hi (by simp [e])
  simp [Array.getElem?_setIfInBounds_ne this]
/-- what a look at a map yields -/
def foundV (zv : Value) : Option (Nat × Value) → Value
  | some (_, u) => u
  | none => zv
theorem ov_lookup {mt kt et : TypeId} {d : TypeDesc} {b clock : Nat} {es : List MapEntry} {key v zv : Value} {r : Option (Nat × Value)} (hx : ev E x = some (cx, .map (some b))) (hy : ev E y = some (cy, key)) (h1 : Imp cg cx) (h2 : Imp cg cy)
    (ht : P.underlying mt = some (.map kt et)) (hk : P.underlying kt = some d) (hkey : MapKept.IsKey d key) (hm : (b, Obj.map es.toArray clock) ∈ H) (hz : ∀ w, (zeroValue et).run P w = .ok zv w) (hf : Instr.findNow d key es 0 = some r) (hv : foundV zv r = v) :
    OpV P n E (St w0 bs H M) ⟨dst, .lookup mt x y false, ty, pos, af, g⟩ cg v :=
  ov_run fun h a ha w hw => by
    have hf' : Instr.findNow d key es.toArray.toList 0 = some r := by simpa using hf
    subst hv
    cases r with
    | none => simp [foundV, execOp, ha.evalc hx (h1 h), ha.evalc hy (h2 h), Instr.lookup, run_underlying ht, MapKept.run_getObj_map (hw.get hm), MapKept.run_checkKey hk hkey, MapKept.run_findKey hk hf', hz]
    | some iv => obtain ⟨i, u⟩ := iv; simp [foundV, execOp, ha.evalc hx (h1 h), ha.evalc hy (h2 h), Instr.lookup, run_underlying ht, MapKept.run_getObj_map (hw.get hm), MapKept.run_checkKey hk hkey, MapKept.run_findKey hk hf']

theorem cells2 {cs : Array Value} {o : Nat} {u v : Value} (h : cs[o]? = some u ∧ cs[o + 1]? = some v) : ∀ j, j < [u, v].length → cs[o + j]? = [u, v][j]? := by
  intro j hj
  match j, hj with
  | 0, _ => exact h.1
  | 1, _ => exact h.2

/-! ### slices of slices -/
def slc (a : Option Addr) (m l h c : Nat) : Value := .slice (if c = l then a else a.map (·.add (l * m))) (h - l) (c - l)
theorem run_bound {k1 : IntKind} {i y : Nat} {code : BoundsCode} {w : World} (h : i ≤ y) : (Instr.sliceBound (.int k1 (i : Int)) y code).run P w = .ok i w := by
  have h3 : (0 : Int) ≤ (i : Int) ∧ (i : Int) ≤ (y : Int) := by omega
  simp only [Instr.sliceBound, asIntOf, Sem.run_bind, Sem.run_pure, Result.andThen_ok]
  rw [if_pos h3]; simp
theorem slc_zero (a : Option Addr) (m h c : Nat) : slc a m 0 h c = .slice a h c := by
  unfold slc
  cases a with
  | none => simp
  | some x => simp [Addr.add]
/-- x[:h:c] -/
theorem ov_slc3 {t e : TypeId} {hi mx : Operand} {ch cm : Bool} {k1 k2 : IntKind} {a0 : Option Addr} {len cap h c m : Nat} {u v : Int} (hx : ev E x = some (cx, .slice a0 len cap)) (hh : ev E hi = some (ch, .int k1 u)) (hm : ev E mx = some (cm, .int k2 v)) (e1 : u = (h : Int)) (e2 : v = (c : Int)) (h1 : Imp cg cx) (h2 : Imp cg ch) (h3 : Imp cg cm)
    (ht : P.underlying t = some (.slice e)) (hs : (P.info? e).map (·.size) = some m) (hf : cg = true → h ≤ c ∧ c ≤ cap) : OpV P n E C ⟨dst, .slice t x none (some hi) (some mx), ty, pos, af, g⟩ cg (.slice a0 h c) :=
  slc_zero a0 m h c ▸
  ov_run fun hc a ha w _ => by
    obtain ⟨hf1, hf2⟩ := hf hc
    subst e1; subst e2
    simp only [execOp, ha.evalc hx (h1 hc), Option.map, ha.evalc hh (h2 hc), ha.evalc hm (h3 hc), Sem.run_bind, Instr.slice, Instr.sliceAt, run_underlying ht, Result.andThen_ok, Instr.sliceBounds, run_bound hf2, run_bound hf1, Sem.run_pure, run_sizeOf hs]
    rfl
/-- x[:h] -/
theorem ov_slcTo {t e : TypeId} {hi : Operand} {ch : Bool} {k1 : IntKind} {a0 : Option Addr} {len cap h m : Nat} {u : Int} (hx : ev E x = some (cx, .slice a0 len cap)) (hh : ev E hi = some (ch, .int k1 u)) (e1 : u = (h : Int)) (h1 : Imp cg cx) (h2 : Imp cg ch)
    (ht : P.underlying t = some (.slice e)) (hs : (P.info? e).map (·.size) = some m) (hf : cg = true → h ≤ cap) : OpV P n E C ⟨dst, .slice t x none (some hi) none, ty, pos, af, g⟩ cg (.slice a0 h cap) :=
  slc_zero a0 m h cap ▸
  ov_run fun hc a ha w _ => by
    have hf1 := hf hc
    subst e1
    simp only [execOp, ha.evalc hx (h1 hc), Option.map, ha.evalc hh (h2 hc), Sem.run_bind, Instr.slice, Instr.sliceAt, run_underlying ht, Result.andThen_ok, Instr.sliceBounds, run_bound hf1, Sem.run_pure, run_sizeOf hs]
    rfl
/-- x[l:] -/
theorem ov_slcFrom {t e : TypeId} {lo : Operand} {cl : Bool} {k1 : IntKind} {a0 : Option Addr} {len cap l m : Nat} {u : Int} (hx : ev E x = some (cx, .slice a0 len cap)) (hh : ev E lo = some (cl, .int k1 u)) (e1 : u = (l : Int)) (h1 : Imp cg cx) (h2 : Imp cg cl)
    (ht : P.underlying t = some (.slice e)) (hs : (P.info? e).map (·.size) = some m) (hf : cg = true → l ≤ len) : OpV P n E C ⟨dst, .slice t x (some lo) none none, ty, pos, af, g⟩ cg (slc a0 m l len cap) :=
  ov_run fun hc a ha w _ => by
    have hf1 := hf hc
    subst e1
    simp only [execOp, ha.evalc hx (h1 hc), Option.map, ha.evalc hh (h2 hc), Sem.run_bind, Instr.slice, Instr.sliceAt, run_underlying ht, Result.andThen_ok, Instr.sliceBounds, run_bound hf1, Sem.run_pure, run_sizeOf hs]
    rfl
/-- x[l:h] -/
theorem ov_slcB {t e : TypeId} {lo hi : Operand} {cl ch : Bool} {k1 k2 : IntKind} {a0 : Option Addr} {len cap l h m : Nat} {u v : Int} (hx : ev E x = some (cx, .slice a0 len cap)) (hlo : ev E lo = some (cl, .int k1 u)) (hh : ev E hi = some (ch, .int k2 v)) (e1 : u = (l : Int)) (e2 : v = (h : Int)) (h1 : Imp cg cx) (h2 : Imp cg cl) (h3 : Imp cg ch)
    (ht : P.underlying t = some (.slice e)) (hs : (P.info? e).map (·.size) = some m) (hf : cg = true → l ≤ h ∧ h ≤ cap) : OpV P n E C ⟨dst, .slice t x (some lo) (some hi) none, ty, pos, af, g⟩ cg (slc a0 m l h cap) :=
  ov_run fun hc a ha w _ => by
    obtain ⟨hf1, hf2⟩ := hf hc
    subst e1; subst e2
    simp only [execOp, ha.evalc hx (h1 hc), Option.map, ha.evalc hlo (h2 hc), ha.evalc hh (h3 hc), Sem.run_bind, Instr.slice, Instr.sliceAt, run_underlying ht, Result.andThen_ok, Instr.sliceBounds, run_bound hf2, run_bound hf1, Sem.run_pure, run_sizeOf hs]
    rfl
/-- a slice's part holds the list's part -/
theorem Sl.slc {α : Type} {m : Nat} {R : α → List Value → Prop} {a : Option Addr} {l : List α} {len cap i j c : Nat} (h : Sl M m R (.slice a len cap) l) (hij : i ≤ j) (hj : j ≤ l.length) (hc : j ≤ c) (hc2 : c ≤ cap) : Sl M m R (Eng.slc a m i j c) ((l.drop i).take (j - i)) := by
  obtain ⟨a', cap', e, h2, h3, h4⟩ := h
  simp only [Value.slice.injEq] at e
  obtain ⟨rfl, rfl, rfl⟩ := e
  have hlen : ((l.drop i).take (j - i)).length = j - i := by simp; omega
  refine ⟨_, _, by rw [hlen]; rfl, by rw [hlen]; omega, by rw [hlen]; omega, fun hne => ?_⟩
  have hpos : i < j := by
    have : 0 < ((l.drop i).take (j - i)).length := List.length_pos_iff.2 hne
    omega
  obtain ⟨b, o, cs, T, fz, rfl, h5, h6⟩ := h4 (by intro e; subst e; simp at hj; omega)
  refine ⟨b, o + i * m, cs, T, fz, ?_, h5, fun q hq => ?_⟩
  · rw [if_neg (by omega)]; simp [add_addr]
  · rw [hlen] at hq
    obtain ⟨vs, e1, e2, e3⟩ := h6 (i + q) (by omega)
    refine ⟨vs, e1, ?_, fun r hr => ?_⟩
    · have : ((l.drop i).take (j - i))[q]'(by rw [hlen]; exact hq) = l[i + q]'(by omega) := by simp
      rw [this]; exact e2
    · rw [← e3 r hr]; congr 1; rw [Nat.add_mul]; omega
/-- the same with the value to come -/
theorem wl_sl {α : Type} {m : Nat} {R : α → List Value → Prop} {d : Nat} {v : Value} {o : Oper} {l : List α} (hg : gd ops E o.guard = some true) (ho : o.dst = some d) (hd : Nat.blt d n = true) (hv : OpV P n E C o true v) (hs : Sl M m R v l)
    (h : ∀ u, Sl M m R u l → WL P ops rest n ((d, true, u) :: E) C k) : WL P ops (o :: rest) n E C k := wl_v hg ho hd hv (h v hs)

/-! ### an append that has no room -/
/-- the row that a slice reads as, whatever its place -/
def RowAt (M : Ghost) (a : Option Addr) (xs : List Value) : Prop := xs = [] ∨ ∃ b o cs T fz, a = some ⟨b, o, none⟩ ∧ M b (.cells cs T fz) ∧ ∀ j u, xs[j]? = some u → cs[o + j]? = some u
theorem run_appendN {t e : TypeId} {m by' : Nat} {i : TypeInfo} {zv : Value} {H0 : List (Nat × Obj)} {a : Option Addr} {xs news : List Value} {len len2 c : Nat} {ad : Addr} {w : World} (ht : P.underlying t = some (.slice e)) (hi : P.info? e = some i) (hz : i.zero = some zv) (hsz : i.size = m) (hby : i.bytes = by') (hzs : zv.cells.size = m) (hm : 0 < m)
    (hrow : RowAt M a xs) (hxs : xs.length = len * m) (hw : St w0 bs H0 M w) (hl2 : news.length = len2 * m) (hpos : 0 < len2) (hnews : ∀ j u, news[j]? = some u → w.cell? (ad.add j) = some u) (hb1 : len + len2 ≤ 1000000000) (hb2 : by' ≤ 140000) :
    ∃ v' Hs' w', (Builtin.append_ #[t, t] ty #[.slice a len len, .slice (some ad) len2 c]).run P w = .ok v' w' ∧ OwnS e m v' Hs' (xs ++ news) ∧ St w0 bs (Hs' ++ H0) M w' ∧ Ext w w' := by
  subst hsz; subst hby
  have hh : ∀ old, old < len + len2 → OwnS e i.size (.slice (some ⟨w.heap.size, 0, none⟩) (len + len2) (grownCap w (len + len2) old e)) [(w.heap.size, .cells (xs.toArray ++ news.toArray ++ Builtin.zeroCells zv.cells (grownCap w (len + len2) old e - (len + len2))) e (0, 0))] (xs ++ news) ∧
      St w0 bs ([(w.heap.size, .cells (xs.toArray ++ news.toArray ++ Builtin.zeroCells zv.cells (grownCap w (len + len2) old e - (len + len2))) e (0, 0))] ++ H0) M (w.drew.alloc (.cells (xs.toArray ++ news.toArray ++ Builtin.zeroCells zv.cells (grownCap w (len + len2) old e - (len + len2))) e)) ∧
      Ext w (w.drew.alloc (.cells (xs.toArray ++ news.toArray ++ Builtin.zeroCells zv.cells (grownCap w (len + len2) old e - (len + len2))) e)) := by
    intro old ho
    have hge := grownCap_ge w (len + len2) old e
    have hcm : grownCap w (len + len2) old e ≤ maxLen := grownCap_le_maxLen w (len + len2) old e (by simp only [maxLen]; omega)
    have hxl : (xs ++ news).length = (len + len2) * i.size := by rw [List.length_append, hxs, hl2, Nat.add_mul]
    have h3 : St w0 bs H0 M w.drew := hw.ext (Ext.drew w 1)
    refine ⟨.inr ⟨_, _, _, _, rfl, rfl, hxl, hge, hcm, ?_, ?_⟩, h3.alloc _, ⟨rfl, rfl, rfl, by show _ ≤ (w.heap.push _).size; simp, fun b hb _ => ?_⟩⟩
    · simp only [Array.size_append, List.size_toArray, size_zeroCells, hzs, hxs, hl2, ← Nat.add_mul]
      congr 1
      omega
    · simp only [Array.toList_append, List.append_assoc]
      rw [← List.append_assoc, ← hxl]
      exact List.take_left
    · show (w.heap.push _)[b]? = w.heap[b]?
      simp only [Array.getElem?_push]; rw [if_neg (by omega)]
  cases a with
  | none =>
    have hx0 : xs = [] := by
      rcases hrow with h | ⟨_, _, _, _, _, h, _⟩
      · exact h
      · cases h
    subst hx0
    have hl0 : len = 0 := by
      have : len * i.size = 0 := by simpa using hxs.symm
      rcases Nat.mul_eq_zero.1 this with h | h
      · exact h
      · omega
    subst hl0
    have hr := run_append_nil (P := P) w t ty e i zv ht hi hz ad len2 c news hl2 hnews (by omega) (by omega) (by have := Nat.mul_le_mul hb1 hb2; rw [Nat.zero_add] at this; omega)
    have := hh 0 (by omega)
    simp only [Nat.zero_add, List.nil_append, Array.empty_append] at this hr
    exact ⟨_, _, _, hr, this.1, this.2⟩
  | some ad0 =>
    have holds : ∀ j u, xs[j]? = some u → w.cell? (ad0.add j) = some u := by
      intro j u hj
      rcases hrow with h | ⟨b, o, cs, T, fz, e1, e2, e3⟩
      · subst h; simp at hj
      · obtain rfl : ad0 = ⟨b, o, none⟩ := by simpa using e1
        rw [add_addr, cell_of (hw.laid _ _ e2)]; exact e3 j u hj
    have hr := run_append_grow (P := P) w t ty e i zv ht hi hz ad0 len len xs hxs holds ad len2 c news hl2 hnews (by omega) (by omega) (growslice_fits (by omega) (by have := Nat.mul_le_mul hb1 hb2; omega))
    have := hh len (by omega)
    exact ⟨_, _, _, hr, this.1, this.2⟩
/-- append(s, literal) where s is laid and full -/
theorem wl_appendN {s src : Operand} {t e : TypeId} {m by' d : Nat} {i : TypeInfo} {zv : Value} {a0 : Option Addr} {xs news : List Value} {b c len len2 : Nat} {T2 : TypeId} {fz : Nat × Nat} (hg : gd ops E g = some true) (hrow : RowAt M a0 xs) (hxs : xs.length = len * m) (hd : Nat.blt d n = true)
    (hx : ev E s = some (true, .slice a0 len len)) (hy : ev E src = some (true, .slice (some ⟨b, 0, none⟩) len2 c)) (ht : P.underlying t = some (.slice e)) (hi : P.info? e = some i) (hz : i.zero = some zv) (hsz : i.size = m) (hby : i.bytes = by') (hzs : zv.cells.size = m) (hm : Nat.blt 0 m = true)
    (hmem : (b, Obj.cells news.toArray T2 fz) ∈ H) (hl2 : news.length = len2 * m) (hpos : Nat.blt 0 len2 = true) (hb1 : len + len2 ≤ 1000000000) (hb2 : Nat.ble by' 140000 = true)
    (h : ∀ v' Hs', OwnS e m v' Hs' (xs ++ news) → WL P ops rest n ((d, true, v') :: E) (St w0 bs (Hs' ++ H) M) k) :
    WL P ops (⟨some d, .call ⟨.builtin .append, #[s, src], #[t, t]⟩, ty, pos, af, g⟩ :: rest) n E (St w0 bs H M) k := by
  have hd : d < n := by simpa [Nat.blt_eq] using hd
  refine wl_op hg fun a w ha hw => ?_
  obtain ⟨v', Hs', w', hr, h2, h3, _⟩ := run_appendN (ty := ty) (ad := ⟨b, 0, none⟩) (c := c) ht hi hz hsz hby hzs (by simpa [Nat.blt_eq] using hm) hrow hxs hw hl2 (by simpa [Nat.blt_eq] using hpos) (fun j u hj => by rw [add_addr, cell_of (hw.get hmem)]; simpa using hj) hb1 (Nat.le_of_ble_eq_true hb2)
  unfold Oper.wp
  rw [run_appendOp (ha.eval hx) (ha.eval hy) hr, Oper.upon_value]
  exact (h v' Hs' h2).run _ _ (ha.put hd rfl) h3

/-! ### a drawn region that makes a row out of another -/
theorem looks_of {o : Oper} {s : Nat} (h : (o.op.operands.toList.any fun x => match x with | .tmp t => Nat.beq t s | _ => false) = true) : s ∈ o.looksAt ops := by
  rw [List.any_eq_true] at h
  obtain ⟨x, hx, hb⟩ := h
  cases x with
  | tmp t =>
    have : t = s := Nat.eq_of_beq_eq_true hb
    subst this
    unfold Oper.looksAt
    exact List.mem_append_left _ (List.mem_filterMap.2 ⟨.tmp t, hx, rfl⟩)
  | _ => cases hb
/-- an owned row, told -/
def Grown (w0 : World) (bs : List Nat) (H : List (Nat × Obj)) (M : Ghost) (e : TypeId) (m : Nat) (xs : List Value) : Tell := fun v w => ∃ Hs, OwnS e m v Hs xs ∧ St w0 bs (Hs ++ H) M w
theorem steady_grown {e : TypeId} {m : Nat} {xs : List Value} : Steady (Grown w0 bs H M e m xs) := fun _ _ _ hx ⟨Hs, h1, h2⟩ => ⟨Hs, h1, h2.ext hx⟩
/-- an operation that looks at a told entry, and is told by more than a value -/
theorem wd_rel2 {d s : Nat} {U V : Tell} {o : Oper} {rest tail : List Oper} {F : REnv} (hg : o.guard = none) (ho : o.dst = some d) (hd : Nat.blt d n = true) (hs : Nat.blt s n = true) (hb : belowN n E = true) (hsel : noSel o = true) (hE : look E d = none) (hU : lookR F s = some U) (hst : Steady V)
    (hv : ∀ u, OpR P n ((s, true, u) :: E) C (U u) o V) (hlook : s ∈ o.looksAt ops) (h : WD P ops rest n E ((d, V) :: F) C tail k) : WD P ops (o :: rest) n E F C tail k := ⟨fun hdis G hG => by
  have hd : d < n := by simpa [Nat.blt_eq] using hd
  have hs : s < n := by simpa [Nat.blt_eq] using hs
  refine ⟨d, V, ho, hd, hst, ⟨fun a w hw had has hHR => ?_⟩, h.run ?_ _ ?_⟩
  · obtain ⟨u, hu, hUu⟩ := hHR s U (by rw [hG]; simp [hU]) hlook
    obtain ⟨b, hb1, hb2, hb3⟩ := turn (ops := ops) (E := (s, true, u) :: E) o had has (fun i c u' hi hm => by
      simp only [look] at hi
      by_cases e : s = i
      · subst e; simp at hi; obtain ⟨rfl, rfl⟩ := hi; exact hu
      · rw [beq_no e, cond_false] at hi
        have hFi : lookR F i = none := by
          cases hf : lookR F i with
          | none => rfl
          | some V => rw [hdis i (by simp [hf])] at hi; cases hi
        obtain ⟨u2, h1, h2⟩ := hHR i (exact1 c u') (by rw [hG]; simp [hFi, hi]) hm
        rw [h1, h2]) (noSel_spec hsel) (fun i c u' hi => by
          simp only [look] at hi
          by_cases e : s = i
          · subst e; exact hs
          · rw [beq_no e, cond_false] at hi; exact belowN_look hb i c u' hi)
    refine ⟨fun _ => ?_, fun hno => by simp [Region.wanted, hg] at hno⟩
    have := (hv u).run b hb1 w hw hUu
    have : Tells P o a w V C := by unfold Tells at *; rw [hb2] at this; exact this
    exact this.wp
  · intro q hq
    simp only [lookR] at hq
    by_cases e : d = q
    · subst e; exact hE
    · rw [beq_no e, cond_false] at hq; exact hdis q hq
  · intro q
    simp only [lookR]
    by_cases e : d = q
    · subst e; simp
    · rw [beq_no e, cond_false, cond_false]; exact hG q⟩
/-- append(s, fresh literal) where s is laid and full -/
theorem or_appendN {x : Operand} {s : Nat} {t e : TypeId} {m by' : Nat} {i : TypeInfo} {zv : Value} {a0 : Option Addr} {xs news : List Value} {len len2 : Nat} {T2 : TypeId} (hrow : RowAt M a0 xs) (hxs : xs.length = len * m)
    (hx : ∀ u, ev ((s, true, u) :: E) x = some (true, .slice a0 len len)) (ht : P.underlying t = some (.slice e)) (hi : P.info? e = some i) (hz : i.zero = some zv) (hsz : i.size = m) (hby : i.bytes = by') (hzs : zv.cells.size = m) (hm : Nat.blt 0 m = true)
    (hl2 : news.length = len2 * m) (hpos : Nat.blt 0 len2 = true) (hb1 : len + len2 ≤ 1000000000) (hb2 : Nat.ble by' 140000 = true) (u : Value) :
    OpR P n ((s, true, u) :: E) (St w0 bs H M) (Fresh w0 bs H M len2 (.cells news.toArray T2 (0, 0)) u) ⟨dst, .call ⟨.builtin .append, #[x, .tmp s], #[t, t]⟩, ty, pos, af, none⟩ (Grown w0 bs H M e m (xs ++ news)) := ⟨fun a ha w hw ⟨b, hu, hst⟩ => by
  subst hu
  have hy : a.eval (.tmp s) = .slice (some ⟨b, 0, none⟩) len2 len2 := ha.eval (by simp [ev, look])
  obtain ⟨v', Hs', w', hr, h2, h3, h4⟩ := run_appendN (ty := ty) (ad := ⟨b, 0, none⟩) (c := len2) ht hi hz hsz hby hzs (by simpa [Nat.blt_eq] using hm) hrow hxs hw hl2 (by simpa [Nat.blt_eq] using hpos) (fun j u hj => by rw [add_addr, cell_of (hst.get List.mem_cons_self)]; simpa using hj) hb1 (Nat.le_of_ble_eq_true hb2)
  unfold Tells
  rw [run_appendOp (ha.eval (hx _)) hy hr]
  exact ⟨⟨Hs', h2, h3⟩, h4, h3.drop (List.sublist_append_right _ _)⟩⟩
/-- its length -/
theorem or_lenG {s : Nat} {t e e' : TypeId} {m q : Nat} {xs : List Value} (ht : P.underlying t = some (.slice e')) (hm : Nat.blt 0 m = true) (hxs : xs.length = q * m) (u : Value) :
    OpR P n ((s, true, u) :: E) (St w0 bs H M) (Grown w0 bs H M e m xs u) ⟨dst, .call ⟨.builtin .len, #[.tmp s], #[t]⟩, ty, pos, af, none⟩ (exact1 true (i64 (q : Int))) := ⟨fun a ha w hw ⟨Hs, ho, _⟩ => by
  obtain ⟨a0, cap, rfl⟩ := ho.slice (by simpa [Nat.blt_eq] using hm) hxs
  have hy : a.eval (.tmp s) = .slice a0 q cap := ha.eval (by simp [ev, look])
  unfold Tells
  have : (execOp a.eval ⟨dst, .call ⟨.builtin .len, #[.tmp s], #[t]⟩, ty, pos, af, none⟩).run P w = .ok (.value (i64 (q : Int))) w := by
    simp [execOp, resolve, invoke, builtin, hy, Builtin.len_, run_underlying ht, goInt]
  rw [this]
  exact ⟨rfl, Keep.refl _ _, hw⟩⟩
/-- behind it: one told entry is kept -/
theorem wd_nilD {d : Nat} {V : Tell} {F : REnv} {tail : List Oper} (hF : lookR F d = some V) (h : ∀ v, WL P ops tail n ((d, true, v) :: E) (fun w => C w ∧ V v w) k) : WD P ops [] n E F C tail k := ⟨fun hdis G hG a w hw hA => by
  obtain ⟨u, hu, hU⟩ := hA.2.2 d V (by rw [hG]; simp [hF]) trivial
  refine (h u).run a w ⟨hA.1, hA.2.1, fun i c v hi => ?_⟩ ⟨hw, hU⟩
  simp only [look] at hi
  by_cases e : d = i
  · subst e; simp at hi; obtain ⟨rfl, rfl⟩ := hi; exact hu
  · rw [beq_no e, cond_false] at hi
    have hFi : lookR F i = none := by
      cases hf : lookR F i with
      | none => rfl
      | some V => rw [hdis i (by simp [hf])] at hi; cases hi
    obtain ⟨u', hu', hU'⟩ := hA.2.2 i (exact1 c v) (by rw [hG]; simp [hFi, hi]) trivial
    rw [hu', hU']⟩
theorem wl_grown {l : List Oper} {d : Nat} {e : TypeId} {m : Nat} {xs : List Value} {D : World → Prop} (h : ∀ v Hs, OwnS e m v Hs xs → WL P ops l n ((d, true, v) :: E) (St w0 bs (Hs ++ H) M) k) (v : Value) :
    WL P ops l n ((d, true, v) :: E) (fun w => D w ∧ Grown w0 bs H M e m xs v w) k := ⟨fun a w ha ⟨_, Hs, ho, hst⟩ => (h v Hs ho).run a w ha hst⟩

/-! ### calls that lay something, inside a drawn region -/
/-- what such a call leaves -/
def Got (w0 : World) (bs : List Nat) (H : List (Nat × Obj)) (M : Ghost) (R : Ghost → List (Nat × Obj) → Value → Prop) : Tell := fun v w => ∃ M', (∀ b o, M b o → M' b o) ∧ (∀ b o, M' b o → M b o ∨ w0.heap.size ≤ b) ∧ St w0 bs H M' w ∧ R M' [] v
theorem steady_got {R : Ghost → List (Nat × Obj) → Value → Prop} : Steady (Got w0 bs H M R) := fun _ _ _ hx ⟨M', h1, h2, h3, h4⟩ => ⟨M', h1, h2, h3.ext hx, h4⟩
theorem or_callS {f : FuncId} {l : List Operand} {ats : Array TypeId} {vs : List (Bool × Value)} {args : Array Value} {R : Ghost → List (Nat × Obj) → Value → Prop} (hf : ∀ args w, (callFunc f args).run P w = .ok (.enter f args) w) (hl : evg true E l = some vs) (hp : vs.all (·.1) = true) (hargs : vs.map (·.2) = args.toList)
    (h0 : ∀ M' H v, R M' H v → H = []) (hc : ∀ w, St w0 bs H M w → Calls P f args w (RetS M w R)) : OpR P n E (St w0 bs H M) (fun _ => True) ⟨dst, .call ⟨.value (.func f), l.toArray, ats⟩, ty, pos, af, g⟩ (Got w0 bs H M R) := ⟨fun a ha w hw _ => by
  unfold Tells
  rw [run_callf hf (args := args) (by rw [evg_eval ha hl (by simpa using hp), hargs])]
  refine ⟨rfl, (hc w hw).mono ?_⟩
  rintro e w' ⟨v, Hn, M', rfl, hm, hnew, hst, hR⟩
  obtain rfl := h0 _ _ _ hR
  have hx : Ext w w' := hst.keep
  have hold := hw.ext hx
  refine ⟨v, rfl, ⟨M', hm, fun b o h1 => (hnew b o h1).imp id (fun h2 => Nat.le_trans hw.keep.size h2), ⟨hold.keep, hold.own, hold.new, hold.nodup, hst.laid, fun b o hm' p hp => ?_⟩, hR⟩, hx, hold⟩
  rcases hnew b o hm' with h1 | h1
  · exact hold.apart b o h1 p hp
  · have := lt_of_get (hw.own p hp); omega⟩
/-- an operation told by more than a value, under a guard that is known to hold -/
theorem wd_newG {d : Nat} {V : Tell} {o : Oper} {rest tail : List Oper} {F : REnv} (hg : gd ops E o.guard = some cg) (hcg : cg = true) (ho : o.dst = some d) (hd : Nat.blt d n = true) (hb : belowN n E = true) (hsel : noSel o = true) (hE : look E d = none) (hst : Steady V)
    (hv : OpR P n E C (fun _ => True) o V) (h : WD P ops rest n E ((d, V) :: F) C tail k) : WD P ops (o :: rest) n E F C tail k := ⟨fun hdis G hG => by
  subst hcg
  have hd : d < n := by simpa [Nat.blt_eq] using hd
  refine ⟨d, V, ho, hd, hst, ⟨fun a w hw had has hHR => ?_⟩, h.run ?_ _ ?_⟩
  · obtain ⟨b, hb1, hb2, hb3⟩ := turn (ops := ops) (E := E) o had has (fun i c u hi hm => by
      have hFi : lookR F i = none := by
        cases hf : lookR F i with
        | none => rfl
        | some V => rw [hdis i (by simp [hf])] at hi; cases hi
      obtain ⟨u', h1, h2⟩ := hHR i (exact1 c u) (by rw [hG]; simp [hFi, hi]) hm
      rw [h1, h2]) (noSel_spec hsel) (belowN_look hb)
    have hwb := wanted_gd (ops := ops) hb1 hg
    rw [hb3] at hwb
    refine ⟨fun _ => ?_, fun hno => by rw [hwb] at hno; cases hno⟩
    have := hv.run b hb1 w hw trivial
    have : Tells P o a w V C := by unfold Tells at *; rw [hb2] at this; exact this
    exact this.wp
  · intro s hs
    simp only [lookR] at hs
    by_cases e : d = s
    · subst e; exact hE
    · rw [beq_no e, cond_false] at hs; exact hdis s hs
  · intro s
    simp only [lookR]
    by_cases e : d = s
    · subst e; simp
    · rw [beq_no e, cond_false, cond_false]; exact hG s⟩
/-- behind it: two told entries are kept -/
theorem wd_nil2 {d d' : Nat} {V V' : Tell} {F : REnv} {tail : List Oper} (hF : lookR F d = some V) (hF' : lookR F d' = some V') (h : ∀ v v', WL P ops tail n ((d, true, v) :: (d', true, v') :: E) (fun w => C w ∧ V v w ∧ V' v' w) k) : WD P ops [] n E F C tail k := ⟨fun hdis G hG a w hw hA => by
  obtain ⟨u, hu, hU⟩ := hA.2.2 d V (by rw [hG]; simp [hF]) trivial
  obtain ⟨u', hu', hU'⟩ := hA.2.2 d' V' (by rw [hG]; simp [hF']) trivial
  refine (h u u').run a w ⟨hA.1, hA.2.1, fun i c v hi => ?_⟩ ⟨hw, hU, hU'⟩
  simp only [look] at hi
  by_cases e : d = i
  · subst e; simp at hi; obtain ⟨rfl, rfl⟩ := hi; exact hu
  · rw [beq_no e, cond_false] at hi
    by_cases e' : d' = i
    · subst e'; simp at hi; obtain ⟨rfl, rfl⟩ := hi; exact hu'
    · rw [beq_no e', cond_false] at hi
      have hFi : lookR F i = none := by
        cases hf : lookR F i with
        | none => rfl
        | some V => rw [hdis i (by simp [hf])] at hi; cases hi
      obtain ⟨u2, hu2, hU2⟩ := hA.2.2 i (exact1 c v) (by rw [hG]; simp [hFi, hi]) trivial
      rw [hu2, hU2]⟩
/-- what two calls have laid -/
def Both (M1 M2 : Ghost) : Ghost := fun b o => M1 b o ∨ M2 b o
theorem St.both {M1 M2 : Ghost} {w : World} (h1 : St w0 bs H M1 w) (h2 : St w0 bs H M2 w) : St w0 bs H (Both M1 M2) w :=
  ⟨h1.keep, h1.own, h1.new, h1.nodup, fun b o h => h.elim (h1.laid b o) (h2.laid b o), fun b o h => h.elim (h1.apart b o) (h2.apart b o)⟩
theorem wl_got {l : List Oper} {d : Nat} {R : Ghost → List (Nat × Obj) → Value → Prop} {D : World → Prop} (h : ∀ v M1, (∀ b o, M b o → M1 b o) → (∀ b o, M1 b o → M b o ∨ w0.heap.size ≤ b) → R M1 [] v → WL P ops l n ((d, true, v) :: E) (St w0 bs H M1) k) (v : Value) :
    WL P ops l n ((d, true, v) :: E) (fun w => D w ∧ Got w0 bs H M R v w) k := ⟨fun a w ha ⟨_, M1, k1, k2, k3, k4⟩ => (h v M1 k1 k2 k4).run a w ha k3⟩
theorem wl_got2 {l : List Oper} {d d' : Nat} {R R' : Ghost → List (Nat × Obj) → Value → Prop} {D : World → Prop} (h : ∀ v v' M1 M2, (∀ b o, M b o → M1 b o) → (∀ b o, M b o → M2 b o) → (∀ b o, Both M1 M2 b o → M b o ∨ w0.heap.size ≤ b) → R M1 [] v → R' M2 [] v' → WL P ops l n ((d, true, v) :: (d', true, v') :: E) (St w0 bs H (Both M1 M2)) k) (v v' : Value) :
    WL P ops l n ((d, true, v) :: (d', true, v') :: E) (fun w => D w ∧ Got w0 bs H M R v w ∧ Got w0 bs H M R' v' w) k := ⟨fun a w ha ⟨_, ⟨M1, k1, k2, k3, k4⟩, ⟨M2, j1, j2, j3, j4⟩⟩ => (h v v' M1 M2 k1 j1 (fun b o hb => hb.elim (k2 b o) (j2 b o)) k4 j4).run a w ha (k3.both j3)⟩

/-! ### ends -/
theorem OwnS.block {e : TypeId} {m : Nat} {v : Value} {Hs : List (Nat × Obj)} {xs : List Value} {q : Nat} (h : OwnS e m v Hs xs) (hm : 0 < m) (hq : xs.length = q * m) (hne : 0 < q) : ∃ b cap cur, v = .slice (some ⟨b, 0, none⟩) q cap ∧ Hs = [(b, .cells cur e (0, 0))] ∧ q ≤ cap ∧ cap ≤ maxLen ∧ cur.size = cap * m ∧ cur.toList.take (q * m) = xs := by
  rcases h with ⟨rfl, rfl, rfl⟩ | ⟨b, len, cap, cur, rfl, rfl, h1, h2, h3, h4, h5⟩
  · have : q * m = 0 := by simpa using hq.symm
    rcases Nat.mul_eq_zero.1 this with h | h <;> omega
  · have : len = q := Nat.eq_of_mul_eq_mul_right hm (by omega)
    subst this
    exact ⟨b, cap, cur, rfl, rfl, h2, h3, h4, h5⟩
theorem Upd.app {H H' : List (Nat × Obj)} {b : Nat} {o o' : Obj} (Hs : List (Nat × Obj)) (h : Upd H b o o' H') : Upd (Hs ++ H) b o o' (Hs ++ H') := by
  induction Hs with
  | nil => exact h
  | cons p Hs ih => exact .there ih
/-- the cells of the result's struct -/
theorem run_cellRes {fn : Func} {t b : Nat} {tid : TypeId} {fs : Array Field} {l : List Value} {T : TypeId} {fz : Nat × Nat} {a : Act} {w : World} (hw : St w0 bs H M w) (ha : Holds n E a) (ht : look E t = some (true, .pointer (some ⟨b, 0, none⟩)))
    (hty : P.underlying tid = some (.struct fs)) (hm : (b, Obj.cells l.toArray T fz) ∈ H) (hs : (P.info? tid).map (·.size) = some l.length) (hr : fn.results = #[.cell t tid]) : (results fn a.tmps).run P w = .ok (.agg l.toArray) w := by
  have h1 := ha.reads t true _ ht
  simp [results, hr, h1, asAddr, loadVar, isAgg_struct hty, run_sizeOf hs, run_loadCells (o := 0) (hw.get hm) l (by simp)]
theorem run_cellRes2 {fn : Func} {t u b : Nat} {tid : TypeId} {fs : Array Field} {l : List Value} {T : TypeId} {fz : Nat × Nat} {r : Value} {a : Act} {w : World} (hw : St w0 bs H M w) (ha : Holds n E a) (ht : look E t = some (true, .pointer (some ⟨b, 0, none⟩))) (hu : look E u = some (true, r))
    (hty : P.underlying tid = some (.struct fs)) (hm : (b, Obj.cells l.toArray T fz) ∈ H) (hs : (P.info? tid).map (·.size) = some l.length) (hr : fn.results = #[.cell t tid, .tmp u]) : (results fn a.tmps).run P w = .ok (.tuple #[.agg l.toArray, r]) w := by
  have h1 := ha.reads t true _ ht
  have h2 := ha.reads u true _ hu
  simp [results, hr, h1, h2, asAddr, loadVar, isAgg_struct hty, run_sizeOf hs, run_loadCells (o := 0) (hw.get hm) l (by simp)]
/-- one result, a struct in a cell: exact -/
theorem wr_cell1 {fn : Func} {t b : Nat} {tid : TypeId} {fs : Array Field} {l : List Value} {T : TypeId} {fz : Nat × Nat} {v : Value} (hr : fn.results = #[.cell t tid]) (ht : look E t = some (true, .pointer (some ⟨b, 0, none⟩)))
    (hty : P.underlying tid = some (.struct fs)) (hm : (b, Obj.cells l.toArray T fz) ∈ H) (hs : (P.info? tid).map (·.size) = some l.length) (hv : .agg l.toArray = v) : WR n E (St w0 [] H M) (bodyPost P fn (RetE w0 v)) := ⟨fun a w ha hw => by
  subst hv
  exact bodyPost_ret (run_cellRes hw ha ht hty hm hs hr) ha.defers ⟨rfl, hw.keep⟩⟩
/-- one result, a struct in a cell; some of what is owned is laid for good -/
theorem wr_layC {M0 : Ghost} {fn : Func} {t b : Nat} {tid : TypeId} {fs : Array Field} {l : List Value} {T : TypeId} {fz : Nat × Nat} {Hn : List (Nat × Obj)} {R : Ghost → List (Nat × Obj) → Value → Prop} (hr : fn.results = #[.cell t tid]) (ht : look E t = some (true, .pointer (some ⟨b, 0, none⟩)))
    (hty : P.underlying tid = some (.struct fs)) (hm : (b, Obj.cells l.toArray T fz) ∈ H) (hs : (P.info? tid).map (·.size) = some l.length) (hsi : Since w0 M0 M) (hH : List.Sublist Hn H) (hR : R (With M Hn) [] (.agg l.toArray)) : WR n E (St w0 [] H M) (bodyPost P fn (RetS M0 w0 R)) := ⟨fun a w ha hw =>
  bodyPost_ret (run_cellRes hw ha ht hty hm hs hr) ha.defers (retS_lay (H' := []) hw hsi hH hR)⟩
/-- two results, the first a struct in a cell -/
theorem wr_layC2 {M0 : Ghost} {fn : Func} {t u b : Nat} {tid : TypeId} {fs : Array Field} {l : List Value} {T : TypeId} {fz : Nat × Nat} {r : Value} {Hn : List (Nat × Obj)} {R : Ghost → List (Nat × Obj) → Value → Prop} (hr : fn.results = #[.cell t tid, .tmp u]) (ht : look E t = some (true, .pointer (some ⟨b, 0, none⟩))) (hu : look E u = some (true, r))
    (hty : P.underlying tid = some (.struct fs)) (hm : (b, Obj.cells l.toArray T fz) ∈ H) (hs : (P.info? tid).map (·.size) = some l.length) (hsi : Since w0 M0 M) (hH : List.Sublist Hn H) (hR : R (With M Hn) [] (.tuple #[.agg l.toArray, r])) : WR n E (St w0 [] H M) (bodyPost P fn (RetS M0 w0 R)) := ⟨fun a w ha hw =>
  bodyPost_ret (run_cellRes2 hw ha ht hu hty hm hs hr) ha.defers (retS_lay (H' := []) hw hsi hH hR)⟩
end
end Go.Eng
