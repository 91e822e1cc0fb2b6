/-
  Responses, plainly: which can be, their bytes; no two have the same. No program stands here.
-/
import Derived.Test.YthkpekmecgbokaaDoorRspS
import Derived.Test.YthkpekmecgbokaaDoorTxtS
import Derived.Test.YthkpekmecgbokaaDoorPctT
import Derived.Lib.ItoaNum
import Derived.Lib.ItoaMem
import Derived.Lib.TrimByte
namespace Go.Rsp
open Go.Pct Go.Txt

structure Resp where
  status : Int
  headers : List Pr
  body : List UInt8
  deriving DecidableEq

def sCL : List UInt8 := [67, 111, 110, 116, 101, 110, 116, 45, 76, 101, 110, 103, 116, 104]
def scl : List UInt8 := [99, 111, 110, 116, 101, 110, 116, 45, 108, 101, 110, 103, 116, 104]
def sHttp : List UInt8 := [72, 84, 84, 80, 47, 49, 46, 49, 32]
def sCT : List UInt8 := [67, 111, 110, 116, 101, 110, 116, 45, 84, 121, 112, 101]
def sLoc : List UInt8 := [76, 111, 99, 97, 116, 105, 111, 110]
def sSet : List UInt8 := [83, 101, 116, 45, 67, 111, 111, 107, 105, 101]
def reasonS (z : Int) : List UInt8 :=
  if z = 200 then [79, 75] else
  if z = 302 then [70, 111, 117, 110, 100] else
  if z = 400 then [66, 97, 100, 32, 82, 101, 113, 117, 101, 115, 116] else
  if z = 403 then [70, 111, 114, 98, 105, 100, 100, 101, 110] else
  if z = 404 then [78, 111, 116, 32, 70, 111, 117, 110, 100] else
  if z = 405 then [77, 101, 116, 104, 111, 100, 32, 78, 111, 116, 32, 65, 108, 108, 111, 119, 101, 100] else
  if z = 503 then [83, 101, 114, 118, 105, 99, 101, 32, 85, 110, 97, 118, 97, 105, 108, 97, 98, 108, 101] else
  []
def trim32 (s : List UInt8) : Bool := s.isEmpty || (!(s.getD 0 0 == 32) && !(s.getD (s.length - 1) 0 == 32))
def textB (s : List UInt8) : Bool := shownB 32 s && trim32 s
def hdrB (h : Pr) : Bool := tokenB h.1 && textB h.2 && !alikeB h.1 sCL
def rightR (r : Resp) : Bool := !(reasonS r.status).isEmpty && decide (r.headers.length ≤ 32) && decide (r.body.length ≤ 8192) && r.headers.all hdrB
def hline (h : Pr) : List UInt8 := h.1 ++ [58, 32] ++ h.2 ++ [13, 10]
def headS (z : Int) : List UInt8 := sHttp ++ Lib.itoa z ++ [32] ++ reasonS z ++ [13, 10]
def writeR (r : Resp) : List UInt8 := headS r.status ++ r.headers.flatMap hline ++ hline (sCL, Lib.itoa (r.body.length : Int)) ++ [13, 10] ++ r.body
def getR (name : List UInt8) (hs : List Pr) : List (List UInt8) := (hs.filter fun h => alikeB h.1 name).map (·.2)

theorem alike_scl (a : List UInt8) : alikeB a scl = alikeB a sCL := by
  have : scl.map lowC = sCL.map lowC := by decide +kernel
  unfold alikeB; rw [this]
theorem dropWhile_le {p : UInt8 → Bool} : ∀ (l : List UInt8), (l.dropWhile p).length ≤ l.length
  | [] => by simp
  | c :: l => by
    rw [List.dropWhile_cons]; split
    · have := dropWhile_le (p := p) l; simp; omega
    · simp
theorem trim_eq (s : List UInt8) : decide (Lib.trimB s 32 = s) = trim32 s := by
  unfold Lib.trimB Lib.trimLeftB Lib.trimRightB trim32
  cases hs : s with
  | nil => rfl
  | cons c r =>
    rw [← hs]
    have hne : s ≠ [] := by rw [hs]; simp
    have h0 : s.getD 0 0 = c := by rw [hs]; rfl
    have hlast : s.getD (s.length - 1) 0 = s.getLast hne := by
      rw [List.getLast_eq_getElem]; have := List.length_pos_iff.2 hne; rw [List.getD_eq_getElem?_getD, List.getElem?_eq_getElem (by omega)]; rfl
    have hrev : s.reverse = s.getLast hne :: s.dropLast.reverse := by
      conv => lhs; rw [← List.dropLast_concat_getLast hne]
      simp
    have hemp : s.isEmpty = false := by rw [hs]; rfl
    rw [hemp, hlast, h0, Bool.false_or]
    have hdr : s.length = s.dropLast.length + 1 := by rw [List.length_dropLast]; have := List.length_pos_iff.2 hne; omega
    by_cases hl : s.getLast hne = 32
    · rw [hl]
      have hf : Lib.trimLeftB (Lib.trimRightB s 32) 32 ≠ s := by
        intro e
        have h1 := congrArg List.length e
        unfold Lib.trimLeftB Lib.trimRightB at h1
        rw [hrev, List.dropWhile_cons, hl] at h1
        simp only [beq_self_eq_true, if_true] at h1
        have h2 := dropWhile_le (p := (· == 32)) (s.dropLast.reverse.dropWhile (· == 32)).reverse
        have h3 := dropWhile_le (p := (· == 32)) s.dropLast.reverse
        rw [List.length_reverse] at h2
        rw [List.length_reverse] at h3
        omega
      unfold Lib.trimLeftB Lib.trimRightB at hf
      simp [hf]
    · have h1 : (s.reverse.dropWhile (· == 32)).reverse = s := by
        rw [hrev, List.dropWhile_cons]
        have : (s.getLast hne == 32) = false := by simpa using hl
        rw [this, if_neg (by simp), ← hrev, List.reverse_reverse]
      rw [h1]
      by_cases hc : c = 32
      · subst hc
        have h2 : s.dropWhile (· == 32) ≠ s := by
          intro e
          have h3 := congrArg List.length e
          rw [hs, List.dropWhile_cons] at h3
          simp only [beq_self_eq_true, if_true] at h3
          have h4 := dropWhile_le (p := (· == 32)) r
          simp at h3; omega
        simp [h2]
      · have h2 : s.dropWhile (· == 32) = s := by
          rw [hs, List.dropWhile_cons]
          have : (c == 32) = false := by simpa using hc
          rw [this]; simp
        simp [h2, hl, hc]

/-! ### numbers -/
def valD (l : List UInt8) : Nat := l.foldl (fun a c => 10 * a + (c.toNat - 48)) 0
theorem valD_snoc (l : List UInt8) (c : UInt8) : valD (l ++ [c]) = 10 * valD l + (c.toNat - 48) := by simp [valD]
theorem valD_dec (u : Nat) : valD (Lib.decDigits u) = u := by
  induction u using Nat.strongRecOn with
  | ind u ih =>
    rw [Lib.decDigits]
    split
    · rename_i h
      have : (UInt8.ofNat (48 + u)).toNat = 48 + u := by simp; omega
      simp [valD]; omega
    · rename_i h
      rw [valD_snoc, ih _ (by omega)]
      have : (UInt8.ofNat (48 + u % 10)).toNat = 48 + u % 10 := by simp; omega
      rw [this]; omega
theorem dec_bytes (u : Nat) : ∀ c ∈ Lib.decDigits u, 48 ≤ c.toNat ∧ c.toNat ≤ 57 := by
  induction u using Nat.strongRecOn with
  | ind u ih =>
    rw [Lib.decDigits]
    split
    · rename_i h
      have : (UInt8.ofNat (48 + u)).toNat = 48 + u := by simp; omega
      intro c hc
      rw [List.mem_singleton] at hc
      subst hc; omega
    · rename_i h
      have : (UInt8.ofNat (48 + u % 10)).toNat = 48 + u % 10 := by simp; omega
      intro c hc
      rcases List.mem_append.1 hc with hc | hc
      · exact ih _ (by omega) c hc
      · rw [List.mem_singleton] at hc
        subst hc; omega
theorem itoa_nat (u : Nat) : Lib.itoa (u : Int) = Lib.decDigits u := Lib.itoa_nonneg u
theorem itoa_inj {u v : Nat} (h : Lib.itoa (u : Int) = Lib.itoa (v : Int)) : u = v := by
  rw [itoa_nat, itoa_nat] at h
  have := congrArg valD h
  rwa [valD_dec, valD_dec] at this
theorem not_mem_of {l : List UInt8} {c : UInt8} (h : ∀ x ∈ l, 32 ≤ x.toNat) (hc : c.toNat < 32) : c ∉ l := fun hm => by have := h c hm; omega
theorem itoa_no {c : UInt8} (hc : c.toNat < 48 ∨ 57 < c.toNat) (u : Nat) : c ∉ Lib.itoa (u : Int) := by
  rw [itoa_nat]; intro hm; have := dec_bytes u c hm; omega
theorem dec_length (u : Nat) : (Lib.decDigits u).length ≤ u + 1 := by
  induction u using Nat.strongRecOn with
  | ind u ih =>
    rw [Lib.decDigits]
    split
    · simp
    · have := ih (u / 10) (by omega)
      simp; omega

/-! ### lines -/
theorem cut_inj {c : UInt8} : ∀ {l l' x x' : List UInt8}, c ∉ l → c ∉ l' → l ++ c :: x = l' ++ c :: x' → l = l' ∧ x = x'
  | [], [], x, x', _, _, h => by simpa using h
  | [], d :: l', x, x', _, h2, h => by
    simp only [List.nil_append, List.cons_append, List.cons.injEq] at h
    exact absurd (by rw [h.1]; exact List.mem_cons_self) h2
  | d :: l, [], x, x', h1, _, h => by
    simp only [List.nil_append, List.cons_append, List.cons.injEq] at h
    exact absurd (by rw [← h.1]; exact List.mem_cons_self) h1
  | d :: l, d' :: l', x, x', h1, h2, h => by
    simp only [List.cons_append, List.cons.injEq] at h
    simp only [List.mem_cons, not_or] at h1 h2
    have := cut_inj h1.2 h2.2 h.2
    exact ⟨by rw [h.1, this.1], this.2⟩
theorem tok_ge {s : List UInt8} (h : tokenB s = true) : ∀ c ∈ s, 45 ≤ c.toNat ∧ c.toNat ≠ 58 := by
  unfold tokenB at h
  simp only [Bool.and_eq_true, List.all_eq_true] at h
  intro c hc
  have := h.1 c hc
  unfold tokC at this
  simp only [Bool.or_eq_true, Bool.and_eq_true, decide_eq_true_eq, beq_iff_eq] at this
  omega
theorem shown_ge {f : UInt8} {s : List UInt8} (h : shownB f s = true) : ∀ c ∈ s, f.toNat ≤ c.toNat ∧ c.toNat ≤ 126 := by
  unfold shownB at h
  simp only [List.all_eq_true, Bool.and_eq_true, decide_eq_true_eq] at h
  exact h
theorem hdr_parts {h : Pr} (hh : hdrB h = true) : (58 : UInt8) ∉ h.1 ∧ (13 : UInt8) ∉ h.1 ∧ (13 : UInt8) ∉ h.2 ∧ h.1 ≠ sCL := by
  unfold hdrB textB at hh
  simp only [Bool.and_eq_true, Bool.not_eq_true'] at hh
  obtain ⟨⟨h1, h2, _⟩, h3⟩ := hh
  refine ⟨fun hm => (tok_ge h1 _ hm).2 rfl, fun hm => ?_, fun hm => ?_, ?_⟩
  · have := (tok_ge h1 _ hm).1; revert this; decide
  · have := (shown_ge h2 _ hm).1; revert this; decide
  · intro e; rw [e] at h3; revert h3; decide +kernel
theorem name_inj {a a' b b' : List UInt8} (h1 : (58 : UInt8) ∉ a) (h2 : (58 : UInt8) ∉ a') (h : a ++ [58, 32] ++ b = a' ++ [58, 32] ++ b') : a = a' ∧ b = b' := by
  have h : a ++ 58 :: (32 :: b) = a' ++ 58 :: (32 :: b') := by simpa using h
  have := cut_inj h1 h2 h
  simpa using this
theorem line13 {a b : List UInt8} (h1 : (13 : UInt8) ∉ a) (h2 : (13 : UInt8) ∉ b) : (13 : UInt8) ∉ a ++ [58, 32] ++ b := by
  simp [h1, h2]
theorem hline_inj {h h' : Pr} {x y : List UInt8} (n1 : (58 : UInt8) ∉ h.1) (n2 : (58 : UInt8) ∉ h'.1) (a1 : (13 : UInt8) ∉ h.1) (a2 : (13 : UInt8) ∉ h.2) (b1 : (13 : UInt8) ∉ h'.1) (b2 : (13 : UInt8) ∉ h'.2) (e : hline h ++ x = hline h' ++ y) : h = h' ∧ x = y := by
  unfold hline at e
  have e : (h.1 ++ [58, 32] ++ h.2) ++ 13 :: (10 :: x) = (h'.1 ++ [58, 32] ++ h'.2) ++ 13 :: (10 :: y) := by simpa using e
  obtain ⟨e1, e2⟩ := cut_inj (line13 a1 a2) (line13 b1 b2) e
  obtain ⟨e3, e4⟩ := name_inj n1 n2 e1
  exact ⟨Prod.ext e3 e4, by simpa using e2⟩
theorem cl58 : (58 : UInt8) ∉ sCL := by decide +kernel
theorem cl13 : (13 : UInt8) ∉ sCL := by decide +kernel
theorem lines_inj {c c' x y : List UInt8} (hc : (13 : UInt8) ∉ c) (hc' : (13 : UInt8) ∉ c') : ∀ {l l' : List Pr}, l.all hdrB = true → l'.all hdrB = true → l.flatMap hline ++ (hline (sCL, c) ++ x) = l'.flatMap hline ++ (hline (sCL, c') ++ y) → l = l' ∧ c = c' ∧ x = y
  | [], [], _, _, h => by
    simp only [List.flatMap_nil, List.nil_append] at h
    obtain ⟨e1, e2⟩ := hline_inj (h := (sCL, c)) (h' := (sCL, c')) cl58 cl58 cl13 hc cl13 hc' h
    exact ⟨rfl, congrArg Prod.snd e1, e2⟩
  | [], k :: l', _, h2, h => by
    simp only [List.all_cons, Bool.and_eq_true] at h2
    obtain ⟨p1, p2, p3, p4⟩ := hdr_parts h2.1
    simp only [List.flatMap_nil, List.nil_append, List.flatMap_cons, List.append_assoc] at h
    obtain ⟨e1, _⟩ := hline_inj (h := (sCL, c)) cl58 p1 cl13 hc p2 p3 h
    exact absurd (congrArg Prod.fst e1).symm p4
  | k :: l, [], h1, _, h => by
    simp only [List.all_cons, Bool.and_eq_true] at h1
    obtain ⟨p1, p2, p3, p4⟩ := hdr_parts h1.1
    simp only [List.flatMap_nil, List.nil_append, List.flatMap_cons, List.append_assoc] at h
    obtain ⟨e1, _⟩ := hline_inj (h' := (sCL, c')) p1 cl58 p2 p3 cl13 hc' h
    exact absurd (congrArg Prod.fst e1) p4
  | k :: l, k' :: l', h1, h2, h => by
    simp only [List.all_cons, Bool.and_eq_true] at h1 h2
    obtain ⟨p1, p2, p3, p4⟩ := hdr_parts h1.1
    obtain ⟨q1, q2, q3, q4⟩ := hdr_parts h2.1
    simp only [List.flatMap_cons, List.append_assoc] at h
    obtain ⟨e1, e2⟩ := hline_inj p1 q1 p2 p3 q2 q3 h
    obtain ⟨e3, e4⟩ := lines_inj hc hc' h1.2 h2.2 e2
    exact ⟨by rw [e1, e3], e4⟩
/-- a status that has a reason -/
theorem status_in {z : Int} (h : (reasonS z).isEmpty = false) : z ∈ [200, 302, 400, 403, 404, 405, 503] := by
  unfold reasonS at h
  simp only [List.mem_cons, List.mem_nil_iff, or_false]
  repeat' (split at h)
  all_goals first | omega | simp at h
theorem itoa3 : Lib.itoa 200 = [50, 48, 48] ∧ Lib.itoa 302 = [51, 48, 50] ∧ Lib.itoa 400 = [52, 48, 48] ∧ Lib.itoa 403 = [52, 48, 51] ∧ Lib.itoa 404 = [52, 48, 52] ∧ Lib.itoa 405 = [52, 48, 53] ∧ Lib.itoa 503 = [53, 48, 51] := by
  refine ⟨?_, ?_, ?_, ?_, ?_, ?_, ?_⟩ <;> simp [Lib.itoa, Lib.decDigits]

def headTab : List (Int × List UInt8) := [(200, [72, 84, 84, 80, 47, 49, 46, 49, 32, 50, 48, 48, 32, 79, 75, 13, 10]), (302, [72, 84, 84, 80, 47, 49, 46, 49, 32, 51, 48, 50, 32, 70, 111, 117, 110, 100, 13, 10]), (400, [72, 84, 84, 80, 47, 49, 46, 49, 32, 52, 48, 48, 32, 66, 97, 100, 32, 82, 101, 113, 117, 101, 115, 116, 13, 10]), (403, [72, 84, 84, 80, 47, 49, 46, 49, 32, 52, 48, 51, 32, 70, 111, 114, 98, 105, 100, 100, 101, 110, 13, 10]), (404, [72, 84, 84, 80, 47, 49, 46, 49, 32, 52, 48, 52, 32, 78, 111, 116, 32, 70, 111, 117, 110, 100, 13, 10]), (405, [72, 84, 84, 80, 47, 49, 46, 49, 32, 52, 48, 53, 32, 77, 101, 116, 104, 111, 100, 32, 78, 111, 116, 32, 65, 108, 108, 111, 119, 101, 100, 13, 10]), (503, [72, 84, 84, 80, 47, 49, 46, 49, 32, 53, 48, 51, 32, 83, 101, 114, 118, 105, 99, 101, 32, 85, 110, 97, 118, 97, 105, 108, 97, 98, 108, 101, 13, 10])]
theorem head_tab {z : Int} (h : (reasonS z).isEmpty = false) : (z, headS z) ∈ headTab := by
  obtain ⟨i1, i2, i3, i4, i5, i6, i7⟩ := itoa3
  have := status_in h
  simp only [List.mem_cons, List.mem_nil_iff, or_false] at this
  rcases this with rfl | rfl | rfl | rfl | rfl | rfl | rfl
  · rw [headS, i1]; decide +kernel
  · rw [headS, i2]; decide +kernel
  · rw [headS, i3]; decide +kernel
  · rw [headS, i4]; decide +kernel
  · rw [headS, i5]; decide +kernel
  · rw [headS, i6]; decide +kernel
  · rw [headS, i7]; decide +kernel
theorem head_inj {z z' : Int} {x y : List UInt8} (h : (reasonS z).isEmpty = false) (h' : (reasonS z').isEmpty = false) (e : headS z ++ x = headS z' ++ y) : z = z' ∧ x = y := by
  have t1 := head_tab h
  have t2 := head_tab h'
  generalize headS z = a at *
  generalize headS z' = b at *
  have key : ∀ p ∈ headTab, ∀ q ∈ headTab, p.2.take 12 = q.2.take 12 → p = q := by decide +kernel
  have l12 : ∀ p ∈ headTab, 12 ≤ p.2.length := by decide +kernel
  have h1 := l12 _ t1
  have h2 := l12 _ t2
  have h3 : a.take 12 = b.take 12 := by
    have := congrArg (List.take 12) e
    rwa [List.take_append_of_le_length h1, List.take_append_of_le_length h2] at this
  have h4 := key _ t1 _ t2 h3
  simp only [Prod.mk.injEq] at h4
  obtain ⟨rfl, rfl⟩ := h4
  exact ⟨rfl, List.append_cancel_left e⟩
theorem right_parts {r : Resp} (h : rightR r = true) : (reasonS r.status).isEmpty = false ∧ r.headers.length ≤ 32 ∧ r.body.length ≤ 8192 ∧ r.headers.all hdrB = true := by
  unfold rightR at h
  simp only [Bool.and_eq_true, decide_eq_true_eq, Bool.not_eq_true'] at h
  exact ⟨h.1.1.1, h.1.1.2, h.1.2, h.2⟩
/-- NO TWO RESPONSES HAVE THE SAME BYTES, whatever stands behind them. -/
theorem write_inj {a b : Resp} {x y : List UInt8} (ha : rightR a = true) (hb : rightR b = true) (e : writeR a ++ x = writeR b ++ y) : a = b ∧ x = y := by
  obtain ⟨a1, a2, a3, a4⟩ := right_parts ha
  obtain ⟨b1, b2, b3, b4⟩ := right_parts hb
  unfold writeR at e
  simp only [List.append_assoc] at e
  obtain ⟨e1, e2⟩ := head_inj a1 b1 e
  obtain ⟨e3, e4, e5⟩ := lines_inj (itoa_no (by decide) _) (itoa_no (by decide) _) a4 b4 e2
  have e6 := itoa_inj e4
  have e5 : a.body ++ x = b.body ++ y := by simpa using e5
  obtain ⟨e7, e8⟩ := List.append_inj e5 e6
  obtain ⟨s1, h1, o1⟩ := a
  obtain ⟨s2, h2, o2⟩ := b
  simp only at e1 e3 e7
  subst e1 e3 e7
  exact ⟨rfl, e8⟩
/-- .. as the law asks it -/
theorem write_same {a b : Resp} (ha : rightR a = true) (hb : rightR b = true) : writeR a = writeR b ↔ a = b := by
  constructor
  · intro e; exact (write_inj (x := []) (y := []) ha hb (by rw [e])).1
  · rintro rfl; rfl
theorem write_begins {a b : Resp} (ha : rightR a = true) (hb : rightR b = true) : ((writeR a).length ≤ (writeR b).length ∧ (writeR b).take (writeR a).length = writeR a) ↔ a = b := by
  constructor
  · rintro ⟨_, e⟩
    have h := List.take_append_drop (writeR a).length (writeR b)
    rw [e] at h
    exact (write_inj (x := (writeR b).drop (writeR a).length) (y := []) ha hb (by rw [h, List.append_nil])).1
  · rintro rfl; exact ⟨Nat.le_refl _, List.take_length⟩
theorem reason_length (z : Int) : (reasonS z).length ≤ 19 := by
  unfold reasonS; repeat' split
  all_goals decide
theorem flat_succ {l : List Pr} {i : Nat} (h : i < l.length) : (l.take (i + 1)).flatMap hline = (l.take i).flatMap hline ++ hline (l.getD i default) := by
  rw [List.take_succ_eq_append_getElem h, List.flatMap_append]
  simp [h]
theorem hline_length (h : Pr) : (hline h).length = h.1.length + h.2.length + 4 := by simp [hline]; omega
theorem flat_length {l : List Pr} (hb : Small 140737488355328 l) : ∀ i, i ≤ l.length → ((l.take i).flatMap hline).length ≤ i * 281474976710660
  | 0, _ => by simp
  | i + 1, h => by
    have ih := flat_length hb i (by omega)
    have hm : l.getD i default ∈ l := by
      have : l.getD i default = l[i] := by simp [show i < l.length by omega]
      rw [this]; exact List.getElem_mem _
    have := hb _ hm
    rw [flat_succ (by omega), List.length_append, hline_length]
    omega
theorem status_nat {z : Int} (h : (reasonS z).isEmpty = false) : ∃ n : Nat, z = (n : Int) ∧ n ≤ 503 ∧ (Lib.decDigits n).length = 3 := by
  obtain ⟨i1, i2, i3, i4, i5, i6, i7⟩ := itoa3
  have := status_in h
  simp only [List.mem_cons, List.mem_nil_iff, or_false] at this
  rcases this with rfl | rfl | rfl | rfl | rfl | rfl | rfl
  · exact ⟨200, rfl, by decide, by rw [← itoa_nat]; exact congrArg List.length i1⟩
  · exact ⟨302, rfl, by decide, by rw [← itoa_nat]; exact congrArg List.length i2⟩
  · exact ⟨400, rfl, by decide, by rw [← itoa_nat]; exact congrArg List.length i3⟩
  · exact ⟨403, rfl, by decide, by rw [← itoa_nat]; exact congrArg List.length i4⟩
  · exact ⟨404, rfl, by decide, by rw [← itoa_nat]; exact congrArg List.length i5⟩
  · exact ⟨405, rfl, by decide, by rw [← itoa_nat]; exact congrArg List.length i6⟩
  · exact ⟨503, rfl, by decide, by rw [← itoa_nat]; exact congrArg List.length i7⟩
theorem headS_length {n : Nat} (h : (Lib.decDigits n).length = 3) : (headS (n : Int)).length ≤ 40 := by
  have := reason_length (n : Int)
  unfold headS
  rw [itoa_nat]
  simp only [List.length_append, h, sHttp, List.length_cons, List.length_nil]
  omega
/-! ### what is read of a name -/
theorem get_snoc (name : List UInt8) (l : List Pr) (h : Pr) : getR name (l ++ [h]) = getR name l ++ (if alikeB h.1 name = true then [h.2] else []) := by
  unfold getR; by_cases hh : alikeB h.1 name = true <;> simp [hh]
theorem get_length (name : List UInt8) (l : List Pr) : (getR name l).length ≤ l.length := by
  unfold getR; rw [List.length_map]; exact List.length_filter_le _ _
def foundH (to : List UInt8) (cookies : List (List UInt8)) : List Pr := (sLoc, to) :: cookies.map fun c => (sSet, c)
theorem get_cookies (to : List UInt8) (cookies : List (List UInt8)) : getR [115, 101, 116, 45, 99, 111, 111, 107, 105, 101] (foundH to cookies) = cookies := by
  have h1 : alikeB sLoc [115, 101, 116, 45, 99, 111, 111, 107, 105, 101] = false := by decide +kernel
  have h2 : alikeB sSet [115, 101, 116, 45, 99, 111, 111, 107, 105, 101] = true := by decide +kernel
  unfold getR foundH
  rw [List.filter_cons, h1]
  simp only [Bool.false_eq_true, if_false]
  rw [List.filter_eq_self.2 (by simp [h2])]
  simp [Function.comp_def]
theorem get_location (to : List UInt8) (cookies : List (List UInt8)) : getR [76, 79, 67, 65, 84, 73, 79, 78] (foundH to cookies) = [to] := by
  have h1 : alikeB sLoc [76, 79, 67, 65, 84, 73, 79, 78] = true := by decide +kernel
  have h2 : alikeB sSet [76, 79, 67, 65, 84, 73, 79, 78] = false := by decide +kernel
  unfold getR foundH
  rw [List.filter_cons, h1, List.filter_eq_nil_iff.2 (by simp [h2])]
  simp
end Go.Rsp
