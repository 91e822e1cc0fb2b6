/-
  Responses read, plainly: what the program's way and the document's way of reading find: just the responses whose bytes they are. No program stands here.
-/
import Derived.Test.YthkpekmecgbokaaDoorRspP
import Derived.Test.YthkpekmecgbokaaDoorTxtM
namespace Go.Rsp
open Go.Pct Go.Txt

def pairS (l : List UInt8) : Pr := match cutS [58, 32] l with
  | some p => p
  | none => (l, [])
/-- the program's first look -/
def headR (s : List UInt8) : Option Resp := match cutS [13, 10, 13, 10] s with
  | none => none
  | some (top, body) => if (Lib.splitN ((Lib.split top [13, 10]).getD 0 []) [32] 3).length < 3 ∨ (Lib.split top [13, 10]).length < 2 then none
    else some ⟨atoiV ((Lib.splitN ((Lib.split top [13, 10]).getD 0 []) [32] 3).getD 1 []), ((Lib.split top [13, 10]).drop 1).map pairS, body⟩
def lastOff (r : Resp) : Resp := ⟨r.status, r.headers.dropLast, r.body⟩
def readR (s : List UInt8) : Option Resp := match headR s with
  | none => none
  | some x => if rightR (lastOff x) = true ∧ writeR (lastOff x) = s then some (lastOff x) else none

def statL (z : Int) : List UInt8 := sHttp ++ Lib.itoa z ++ [32] ++ reasonS z
theorem headS_stat (z : Int) : headS z = statL z ++ [13, 10] := rfl
def hl0 (h : Pr) : List UInt8 := h.1 ++ [58, 32] ++ h.2
theorem hline_hl0 (h : Pr) : hline h = hl0 h ++ [13, 10] := rfl
theorem stat_no13 {z : Int} (h : (reasonS z).isEmpty = false) : (13 : UInt8) ∉ statL z ∧ statL z ≠ [] := by
  have key : ∀ p ∈ headTab, (13 : UInt8) ∉ p.2.dropLast.dropLast := by decide +kernel
  have h1 := key _ (head_tab h)
  have e : (headS z).dropLast.dropLast = statL z := by
    rw [headS_stat, List.dropLast_append_of_ne_nil (by simp)]
    show (statL z ++ [13]).dropLast = _
    rw [List.dropLast_append_of_ne_nil (by simp)]; simp
  rw [e] at h1
  exact ⟨h1, by unfold statL sHttp; simp⟩
theorem lines_flat (a : List UInt8) : ∀ (hs : List (List UInt8)), lines (a :: hs) ++ [13, 10] = a ++ [13, 10] ++ hs.flatMap (fun l => l ++ [13, 10])
  | [] => by simp [lines]
  | b :: r => by
    rw [lines_cons a (by simp), List.append_assoc, lines_flat b r]
    simp
theorem write_lines (r : Resp) : writeR r = lines (statL r.status :: (r.headers ++ [(sCL, Lib.itoa (r.body.length : Int))]).map hl0) ++ [13, 10, 13, 10] ++ r.body := by
  have h := lines_flat (statL r.status) ((r.headers ++ [(sCL, Lib.itoa (r.body.length : Int))]).map hl0)
  have e : lines (statL r.status :: (r.headers ++ [(sCL, Lib.itoa (r.body.length : Int))]).map hl0) ++ [13, 10, 13, 10] ++ r.body = (lines (statL r.status :: (r.headers ++ [(sCL, Lib.itoa (r.body.length : Int))]).map hl0) ++ [13, 10]) ++ ([13, 10] ++ r.body) := by simp
  rw [e, h]
  unfold writeR
  rw [headS_stat]
  have e2 : ((r.headers ++ [(sCL, Lib.itoa (r.body.length : Int))]).map hl0).flatMap (fun l => l ++ [13, 10]) = r.headers.flatMap hline ++ hline (sCL, Lib.itoa (r.body.length : Int)) := by
    rw [List.flatMap_map]
    show (r.headers ++ [(sCL, Lib.itoa (r.body.length : Int))]).flatMap hline = _
    simp
  rw [e2]; simp
theorem hl0_ok {h : Pr} (h1 : (13 : UInt8) ∉ h.1) (h2 : (13 : UInt8) ∉ h.2) : (13 : UInt8) ∉ hl0 h ∧ hl0 h ≠ [] := by
  unfold hl0; exact ⟨by simp [h1, h2], by simp⟩
theorem all_lines {r : Resp} (hr : rightR r = true) : ∀ l ∈ statL r.status :: (r.headers ++ [(sCL, Lib.itoa (r.body.length : Int))]).map hl0, (13 : UInt8) ∉ l ∧ l ≠ [] := by
  obtain ⟨p1, p2, p3, p4⟩ := right_parts hr
  intro l hl
  rcases List.mem_cons.1 hl with rfl | hl
  · exact stat_no13 p1
  · obtain ⟨h, hh, rfl⟩ := List.mem_map.1 hl
    rcases List.mem_append.1 hh with hh | hh
    · obtain ⟨q1, q2, q3, q4⟩ := hdr_parts (List.all_eq_true.1 p4 h hh)
      exact hl0_ok q2 q3
    · rw [List.mem_singleton] at hh
      subst hh
      exact hl0_ok cl13 (itoa_no (by decide) _)
theorem pair_hl0 {h : Pr} (hn : (58 : UInt8) ∉ h.1) : pairS (hl0 h) = h := by
  unfold pairS hl0
  rw [cutS_mid (c := 58) (t := [32]) h.2 hn]
theorem words_ok {z : Int} (h : (reasonS z).isEmpty = false) : (Lib.splitN (statL z) [32] 3).length = 3 ∧ atoiV ((Lib.splitN (statL z) [32] 3).getD 1 []) = z := by
  have key : ∀ p ∈ headTab, (Lib.splitN p.2.dropLast.dropLast [32] 3).length = 3 ∧ atoiV ((Lib.splitN p.2.dropLast.dropLast [32] 3).getD 1 []) = p.1 := by decide +kernel
  have h1 := key _ (head_tab h)
  have e : (headS z).dropLast.dropLast = statL z := by
    rw [headS_stat, List.dropLast_append_of_ne_nil (by simp)]
    show (statL z ++ [13]).dropLast = _
    rw [List.dropLast_append_of_ne_nil (by simp)]; simp
  rw [e] at h1
  exact h1
theorem head_write {r : Resp} (hr : rightR r = true) : headR (writeR r) = some ⟨r.status, r.headers ++ [(sCL, Lib.itoa (r.body.length : Int))], r.body⟩ := by
  obtain ⟨p1, p2, p3, p4⟩ := right_parts hr
  have ha := all_lines hr
  unfold headR
  rw [write_lines, cut_lines r.body (by simp) ha]
  simp only
  rw [split_lines (by simp) (fun l hl => (ha l hl).1)]
  have hw := words_ok p1
  simp only [List.getD_cons_zero, hw.1, hw.2, List.drop_succ_cons, List.drop_zero]
  rw [if_neg (by simp)]
  congr 2
  rw [List.map_map]
  conv => rhs; rw [← List.map_id (r.headers ++ [(sCL, Lib.itoa (r.body.length : Int))])]
  apply List.map_congr_left
  intro h hh
  rcases List.mem_append.1 hh with hh | hh
  · exact pair_hl0 (hdr_parts (List.all_eq_true.1 p4 h hh)).1
  · rw [List.mem_singleton] at hh
    subst hh
    exact pair_hl0 cl58
/-- what is read is what was written, and only that -/
theorem readR_iff {s : List UInt8} {r : Resp} : readR s = some r ↔ rightR r = true ∧ writeR r = s := by
  constructor
  · intro h
    unfold readR at h
    split at h
    · cases h
    · split at h
      · rename_i hc
        simp only [Option.some.injEq] at h
        subst h; exact hc
      · cases h
  · rintro ⟨hr, rfl⟩
    unfold readR
    rw [head_write hr]
    have e : lastOff ⟨r.status, r.headers ++ [(sCL, Lib.itoa (r.body.length : Int))], r.body⟩ = r := by simp [lastOff]
    simp only [e]
    rw [if_pos ⟨hr, trivial⟩]

/-! ### the document's way -/
/-- the headers' lines: how long the body is told to be, the headers, the body -/
def hdrsGo : Nat → List UInt8 → List UInt8 → List Pr → Option (List UInt8 × List Pr × List UInt8)
  | 0, _, _, _ => none
  | n + 1, rest, size, hs => match cutS [13, 10] rest with
    | none => none
    | some (l, more) => if l = [] then some (size, hs, more) else if size ≠ [] then none else match cutS [58, 32] l with
      | none => none
      | some (a, b) => if a = sCL then (if b = [] then none else hdrsGo n more b hs) else hdrsGo n more size (hs ++ [(a, b)])
def statOf (l : List UInt8) : Int := ([200, 302, 400, 403, 404, 405, 503] : List Int).foldl (fun st z => if l = statL z then z else st) 0
def rreadR (s : List UInt8) : Option Resp := match cutS [13, 10] s with
  | none => none
  | some (l, rest) => match hdrsGo (rest.length + 1) rest [] [] with
    | none => none
    | some (size, hs, body) => if rightR ⟨statOf l, hs, body⟩ = true ∧ size = Lib.itoa (body.length : Int) then some ⟨statOf l, hs, body⟩ else none
/-- what the lines were -/
theorem hdrs_sound : ∀ {n : Nat} {rest size hs size' hs' body}, hdrsGo n rest size hs = some (size', hs', body) →
    (size ≠ [] → rest = [13, 10] ++ body ∧ size' = size ∧ hs' = hs) ∧
    (size = [] → ∃ more, hs' = hs ++ more ∧ (size' = [] ∨ rest = more.flatMap hline ++ hline (sCL, size') ++ [13, 10] ++ body))
  | 0, _, _, _, _, _, _, h => by cases h
  | n + 1, rest, size, hs, size', hs', body, h => by
    rw [hdrsGo] at h
    split at h
    · cases h
    · rename_i l more hc
      have e := cutS_some hc
      split at h
      · rename_i hl
        subst hl
        simp only [Option.some.injEq, Prod.mk.injEq] at h
        obtain ⟨rfl, rfl, rfl⟩ := h
        exact ⟨fun _ => ⟨by simpa using e, rfl, rfl⟩, fun hs0 => ⟨[], by simp, .inl hs0⟩⟩
      · split at h
        · cases h
        · rename_i hsz
          have hsz : size = [] := by simpa using hsz
          subst hsz
          refine ⟨fun h => absurd rfl h, fun _ => ?_⟩
          split at h
          · cases h
          · rename_i a b hab
            have e2 := cutS_some hab
            split at h
            · rename_i ha
              subst ha
              split at h
              · cases h
              · rename_i hb
                have ih := (hdrs_sound h).1 hb
                obtain ⟨i1, i2, i3⟩ := ih
                refine ⟨[], by simp [i3], .inr ?_⟩
                rw [e, e2, i1, i2]; simp [hline]
            · obtain ⟨m, i1, i2⟩ := (hdrs_sound h).2 rfl
              refine ⟨(a, b) :: m, by rw [i1]; simp, i2.imp id (fun i2 => ?_)⟩
              rw [e, e2, i2]; simp [hline]
theorem hdrs_complete {size body : List UInt8} (hs1 : (13 : UInt8) ∉ size) (hs2 : size ≠ []) : ∀ {more : List Pr} {n : Nat} {hs : List Pr}, more.all hdrB = true → (more.flatMap hline ++ hline (sCL, size) ++ [13, 10] ++ body).length < n →
    hdrsGo n (more.flatMap hline ++ hline (sCL, size) ++ [13, 10] ++ body) [] hs = some (size, hs ++ more, body)
  | [], n, hs, _, hn => by
    match n, hn with
    | n + 1, hn =>
      have e : ([] : List Pr).flatMap hline ++ hline (sCL, size) ++ [13, 10] ++ body = hl0 (sCL, size) ++ [13, 10] ++ ([13, 10] ++ body) := by simp [hline_hl0]
      have ho := hl0_ok (h := (sCL, size)) cl13 hs1
      rw [e] at hn ⊢
      rw [hdrsGo, cutS_mid (c := 13) (t := [10]) _ ho.1]
      simp only
      rw [if_neg ho.2, if_neg (by simp)]
      unfold hl0
      rw [cutS_mid (c := 58) (t := [32]) _ cl58]
      simp only
      rw [if_pos trivial, if_neg hs2]
      match n, hn with
      | 0, hn => simp [hl0] at hn
      | n + 1, hn =>
        rw [hdrsGo, show [13, 10] ++ body = [] ++ (13 :: [10]) ++ body from rfl, cutS_mid (c := 13) (t := [10]) body (by simp)]
        simp
  | h :: more, n, hs, hall, hn => by
    simp only [List.all_cons, Bool.and_eq_true] at hall
    obtain ⟨q1, q2, q3, q4⟩ := hdr_parts hall.1
    have ho := hl0_ok q2 q3
    match n, hn with
    | n + 1, hn =>
      have e : (h :: more).flatMap hline ++ hline (sCL, size) ++ [13, 10] ++ body = hl0 h ++ [13, 10] ++ (more.flatMap hline ++ hline (sCL, size) ++ [13, 10] ++ body) := by simp [hline_hl0]
      rw [e] at hn ⊢
      rw [hdrsGo, cutS_mid (c := 13) (t := [10]) _ ho.1]
      simp only
      rw [if_neg ho.2, if_neg (by simp)]
      unfold hl0
      rw [cutS_mid (c := 58) (t := [32]) _ q1]
      simp only
      rw [if_neg q4, hdrs_complete hs1 hs2 hall.2 (by simp [hl0] at hn ⊢; omega)]
      simp
theorem stat_of {z : Int} (h : (reasonS z).isEmpty = false) : statOf (statL z) = z := by
  have key : ∀ p ∈ headTab, statOf p.2.dropLast.dropLast = p.1 := by
    obtain ⟨i1, i2, i3, i4, i5, i6, i7⟩ := itoa3
    unfold statOf statL
    simp only [List.foldl_cons, List.foldl_nil, i1, i2, i3, i4, i5, i6, i7]
    decide +kernel
  have h1 := key _ (head_tab h)
  have e : (headS z).dropLast.dropLast = statL z := by
    rw [headS_stat, List.dropLast_append_of_ne_nil (by simp)]
    show (statL z ++ [13]).dropLast = _
    rw [List.dropLast_append_of_ne_nil (by simp)]; simp
  rw [e] at h1
  exact h1
theorem stat_back {l : List UInt8} (h : (reasonS (statOf l)).isEmpty = false) : l = statL (statOf l) := by
  unfold statOf at h ⊢
  simp only [List.foldl_cons, List.foldl_nil] at h ⊢
  by_cases h7 : l = statL 503
  · rw [if_pos h7]; exact h7
  · rw [if_neg h7] at h ⊢
    by_cases h6 : l = statL 405
    · rw [if_pos h6]; exact h6
    · rw [if_neg h6] at h ⊢
      by_cases h5 : l = statL 404
      · rw [if_pos h5]; exact h5
      · rw [if_neg h5] at h ⊢
        by_cases h4 : l = statL 403
        · rw [if_pos h4]; exact h4
        · rw [if_neg h4] at h ⊢
          by_cases h3 : l = statL 400
          · rw [if_pos h3]; exact h3
          · rw [if_neg h3] at h ⊢
            by_cases h2 : l = statL 302
            · rw [if_pos h2]; exact h2
            · rw [if_neg h2] at h ⊢
              by_cases h1 : l = statL 200
              · rw [if_pos h1]; exact h1
              · rw [if_neg h1] at h; exact absurd h (by decide)
theorem itoa_ne (n : Nat) : Lib.itoa (n : Int) ≠ [] := by
  rw [itoa_nat]; intro h
  rw [Lib.decDigits] at h
  split at h <;> simp at h
theorem rreadR_iff {s : List UInt8} {r : Resp} : rreadR s = some r ↔ rightR r = true ∧ writeR r = s := by
  constructor
  · intro h
    unfold rreadR at h
    split at h
    · cases h
    · rename_i l rest hc
      split at h
      · cases h
      · rename_i size hs body hg
        split at h
        · rename_i hcond
          obtain ⟨hr, hz⟩ := hcond
          simp only [Option.some.injEq] at h
          subst h
          refine ⟨hr, ?_⟩
          obtain ⟨p1, _⟩ := right_parts hr
          obtain ⟨m, i1, i2⟩ := (hdrs_sound hg).2 rfl
          rw [List.nil_append] at i1
          subst i1
          have e := cutS_some hc
          rcases i2 with i2 | i2
          · rw [i2] at hz; exact absurd hz.symm (itoa_ne _)
          · rw [e, i2]
            have e2 := stat_back p1
            unfold writeR
            rw [headS_stat]
            dsimp only
            rw [← e2, ← hz]; simp
        · cases h
  · rintro ⟨hr, rfl⟩
    obtain ⟨p1, p2, p3, p4⟩ := right_parts hr
    have e : writeR r = statL r.status ++ [13, 10] ++ (r.headers.flatMap hline ++ hline (sCL, Lib.itoa (r.body.length : Int)) ++ [13, 10] ++ r.body) := by
      unfold writeR; rw [headS_stat]; simp
    unfold rreadR
    rw [e, cutS_mid (c := 13) (t := [10]) _ (stat_no13 p1).1]
    simp only
    rw [hdrs_complete (itoa_no (by decide) _) (itoa_ne _) p4 (Nat.lt_succ_self _)]
    simp only [List.nil_append]
    rw [stat_of p1, if_pos ⟨hr, trivial⟩]
theorem reads_same (s : List UInt8) : rreadR s = readR s := by
  cases h : readR s with
  | none =>
    cases h2 : rreadR s with
    | none => rfl
    | some r => rw [rreadR_iff, ← readR_iff, h] at h2; cases h2
  | some r => rw [rreadR_iff, ← readR_iff]; exact h
end Go.Rsp
