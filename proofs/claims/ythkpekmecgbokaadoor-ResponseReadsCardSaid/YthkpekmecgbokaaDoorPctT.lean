/-
  Forms, plainly: pairs of texts read and written. No program stands here.
-/
import Derived.Test.YthkpekmecgbokaaDoorPctS
import Derived.Test.YthkpekmecgbokaaDoorTxtS
namespace Go.Pct
open Go.Txt

abbrev Pr := List UInt8 × List UInt8
/-- a piece's pair -/
def pairOf (x : List UInt8) : Option Pr :=
  match decode true (x.take (idx 61 x)), decode true (x.drop (idx 61 x + 1)) with
  | some n, some v => some (n, v)
  | _, _ => none
/-- through the pieces: the pairs and the error's number -/
def formGo : List (List UInt8) → List Pr → List Pr × Nat
  | [], out => (out, 0)
  | x :: r, out => if x = [] then formGo r out else if 32 ≤ out.length then ([], 5) else match pairOf x with
    | none => ([], 11)
    | some p => formGo r (out ++ [p])
def form (s : List UInt8) : List Pr × Nat := formGo (pieces 38 s) []
theorem decode_length {plus : Bool} {s t : List UInt8} (h : decode plus s = some t) : t.length ≤ s.length := by
  unfold decode at h
  have : ∀ n (s t : List UInt8), s.length ≤ n → each (byDec plus) s = some t → t.length ≤ s.length := by
    intro n
    induction n with
    | zero => intro s t hs h; have : s = [] := List.eq_nil_of_length_eq_zero (by omega); subst this; simp [each] at h; subst h; simp
    | succ n ih =>
      intro s t hs h
      cases s with
      | nil => simp [each] at h; subst h; simp
      | cons c r =>
        rw [each_cons] at h
        split at h
        · cases ht : told r with
          | none => rw [ht] at h; cases h
          | some x =>
            obtain ⟨d, r'⟩ := x
            rw [ht] at h
            simp only at h
            have hr : r'.length ≤ r.length := by
              match r, ht with
              | a :: b :: r, ht => simp only [told, Option.map_eq_some_iff, Prod.mk.injEq] at ht; obtain ⟨_, _, _, rfl⟩ := ht; simp; omega
            obtain ⟨u, hu, rfl⟩ := Option.map_eq_some_iff.1 h
            have := ih r' u (by simp at hs; omega) hu
            have := byDec_length plus d true
            simp at *; omega
        · obtain ⟨u, hu, rfl⟩ := Option.map_eq_some_iff.1 h
          have := ih r u (by simp at hs; omega) hu
          have := byDec_length plus c false
          simp at *; omega
  exact this _ _ _ (Nat.le_refl _) h
theorem formGo_short : ∀ {l : List (List UInt8)} {out : List Pr}, out.length ≤ 32 → (formGo l out).1.length ≤ 32
  | [], out, h => h
  | x :: r, out, h => by
    simp only [formGo]
    split
    · exact formGo_short h
    · split
      · simp
      · split
        · simp
        · exact formGo_short (by simp; omega)
theorem form_short (s : List UInt8) : (form s).1.length ≤ 32 := formGo_short (by simp)

/-- .. as far as the pieces have been gone through -/
def FormAt (l : List (List UInt8)) (i : Nat) (out : List Pr) : Prop := i ≤ l.length ∧ formGo l [] = formGo (l.drop i) out ∧ out.length ≤ 32
theorem formAt_start (l : List (List UInt8)) : FormAt l 0 [] := ⟨Nat.zero_le _, rfl, by simp⟩
theorem drop_get {α : Type} [Inhabited α] {l : List α} {i : Nat} (h : i < l.length) : l.drop i = l.getD i default :: l.drop (i + 1) := by
  rw [List.drop_eq_getElem_cons h]; simp [h]
theorem formAt_skip {l : List (List UInt8)} {i : Nat} {out : List Pr} (h : FormAt l i out) (hi : i < l.length) (he : l.getD i default = []) : FormAt l (i + 1) out := by
  refine ⟨hi, ?_, h.2.2⟩
  rw [h.2.1, drop_get hi, formGo, if_pos he]
theorem formAt_full {l : List (List UInt8)} {i : Nat} {out : List Pr} (h : FormAt l i out) (hi : i < l.length) (he : l.getD i default ≠ []) (hf : 32 ≤ out.length) : formGo l [] = ([], 5) := by
  rw [h.2.1, drop_get hi, formGo, if_neg he, if_pos hf]
theorem formAt_bad {l : List (List UInt8)} {i : Nat} {out : List Pr} (h : FormAt l i out) (hi : i < l.length) (he : l.getD i default ≠ []) (hf : out.length < 32) (hp : pairOf (l.getD i default) = none) : formGo l [] = ([], 11) := by
  rw [h.2.1, drop_get hi, formGo, if_neg he, if_neg (by omega), hp]
theorem formAt_pair {l : List (List UInt8)} {i : Nat} {out : List Pr} {p : Pr} (h : FormAt l i out) (hi : i < l.length) (he : l.getD i default ≠ []) (hf : out.length < 32) (hp : pairOf (l.getD i default) = some p) : FormAt l (i + 1) (out ++ [p]) := by
  refine ⟨hi, ?_, by simp; omega⟩
  rw [h.2.1, drop_get hi, formGo, if_neg he, if_neg (by omega), hp]
theorem formAt_end {l : List (List UInt8)} {i : Nat} {out : List Pr} (h : FormAt l i out) (hi : l.length ≤ i) : formGo l [] = (out, 0) := by
  rw [h.2.1, List.drop_eq_nil_of_le hi]; rfl

/-! ### Get -/
def getP (name : List UInt8) : List Pr → List UInt8 × Nat
  | [] => ([], 0)
  | p :: r => if p.1 = name then (p.2, (getP name r).2 + 1) else getP name r
theorem getP_snoc (name : List UInt8) (l : List Pr) (p : Pr) : getP name (l ++ [p]) = if p.1 = name then (if (getP name l).2 = 0 then p.2 else (getP name l).1, (getP name l).2 + 1) else getP name l := by
  induction l with
  | nil => simp [getP]
  | cons q l ih =>
    simp only [List.cons_append, getP, ih]
    by_cases h : p.1 = name <;> by_cases h2 : q.1 = name <;> simp [h, h2]
theorem getP_le (name : List UInt8) (l : List Pr) : (getP name l).2 ≤ l.length := by
  induction l with
  | nil => simp [getP]
  | cons p l ih => simp only [getP]; split <;> simp <;> omega

/-! ### Write -/
def w1 (p : Pr) : List UInt8 := encode p.1 ++ 61 :: encode p.2
def writeP : List Pr → List UInt8
  | [] => []
  | p :: r => w1 p ++ r.flatMap (fun q => 38 :: w1 q)
theorem writeP_snoc (l : List Pr) (p : Pr) : writeP (l ++ [p]) = writeP l ++ (if l = [] then [] else [38]) ++ w1 p := by
  cases l with
  | nil => simp [writeP]
  | cons q l => simp [writeP, List.flatMap_append]
theorem writeP_take {l : List Pr} {i : Nat} (h : i < l.length) : writeP (l.take (i + 1)) = writeP (l.take i) ++ (if i = 0 then [] else [38]) ++ w1 (l.getD i default) := by
  rw [List.take_succ_eq_append_getElem h, writeP_snoc]
  have e : l.getD i default = l[i] := by simp [h]
  rw [e]
  have : l.take i = [] ↔ i = 0 := by
    constructor
    · intro h2
      have := congrArg List.length h2
      simp at this
      rcases this with h3 | h3
      · exact h3
      · subst h3; simp at h
    · rintro rfl; simp
  by_cases h0 : i = 0
  · simp [h0]
  · rw [if_neg (fun h => h0 (this.1 h)), if_neg h0]
theorem writeP_join (l : List Pr) : Lib.join (l.map w1) [38] = writeP l := by
  cases l with
  | nil => rfl
  | cons p l =>
    rw [List.map_cons, Lib.join_cons, writeP, Lib.joinTail, List.map_map, List.flatMap_def]
    rfl
/-- texts that are not too long -/
def Small (m : Nat) (l : List Pr) : Prop := ∀ p ∈ l, p.1.length ≤ m ∧ p.2.length ≤ m
theorem w1_length {m : Nat} {p : Pr} (h : p.1.length ≤ m ∧ p.2.length ≤ m) : (w1 p).length ≤ 6 * m + 1 := by
  have h1 := (encode_length p.1).2
  have h2 := (encode_length p.2).2
  simp [w1]; omega
theorem writeP_length {m : Nat} {l : List Pr} (h : Small m l) (i : Nat) (hi : i ≤ l.length) : (writeP (l.take i)).length ≤ i * (6 * m + 2) := by
  induction i with
  | zero => simp [writeP]
  | succ i ih =>
    have := ih (by omega)
    have hm : l.getD i default ∈ l := by
      have : l.getD i default = l[i] := by simp [show i < l.length by omega]
      rw [this]; exact List.getElem_mem _
    have := w1_length (h _ hm)
    rw [writeP_take (by omega), List.length_append, List.length_append, Nat.succ_mul]
    split <;> simp only [List.length_nil, List.length_cons] <;> omega
end Go.Pct
