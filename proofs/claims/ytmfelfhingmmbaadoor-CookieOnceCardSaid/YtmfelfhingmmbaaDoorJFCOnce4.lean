/-
  The given statement CookieOnceCardSaid of layer texts: it holds of the given program, for every input that the row speaks of; no further condition.
-/
import Derived.Deep.Slices
import Derived.ChangeSame
import Derived.SizedLaws
import Derived.WideShapes
import Derived.DataReads
import Derived.Test.YtmfelfhingmmbaaDoorProg
import Derived.Test.YtmfelfhingmmbaaDoorCards
import Derived.Test.YtmfelfhingmmbaaDoorTie
import Derived.WalkKit
import Derived.ProofKit
import Derived.OpenShut
import Derived.ReadAgain
import Derived.MakeChecks
import Derived.LaidSub
import Derived.Deep.DeepHandedRow
import Derived.Carry
import Derived.SevenTiedAt
import Derived.Lib.LaidTab
import Derived.Lib.LaidU8
import Derived.Test.YtmfelfhingmmbaaDoorJFCOnce1
import Derived.Test.YtmfelfhingmmbaaDoorJFCOnce2
import Derived.Test.YtmfelfhingmmbaaDoorJFCOnce3
/-
  cookie.Read.
-/
namespace Go.Ck
open Go.Pct Go.Txt Go.Proofs.YtmfelfhingmmbaaDoor
open Go.Rsp (tokC tokenB)
open Go.Url (digC valD dec_all)
set_option linter.unusedSimpArgs false
theorem split_join : ∀ (l : List (List UInt8)) (a : List UInt8), 59 ∉ a → (∀ x ∈ l, 59 ∉ x) → Lib.split (a ++ l.flatMap fun x => 59 :: 32 :: x) [59, 32] = a :: l
  | [], a, ha, _ => by
    rw [List.flatMap_nil, List.append_nil]
    exact split_none (by decide) (cutS_no ha)
  | x :: l, a, ha, h => by
    have := cutS_mid (c := 59) (t := [32]) (a := a) (x ++ l.flatMap fun x => 59 :: 32 :: x) ha
    rw [List.flatMap_cons]
    have e : a ++ (59 :: 32 :: x ++ l.flatMap fun x => 59 :: 32 :: x) = a ++ [59, 32] ++ (x ++ l.flatMap fun x => 59 :: 32 :: x) := by simp
    rw [e, split_some (by decide) this, split_join l x (h x (List.mem_cons_self ..)) (fun y hy => h y (List.mem_cons_of_mem _ hy))]
theorem join_flat (a : List UInt8) (l : List (List UInt8)) : Lib.join (a :: l) [59, 32] = a ++ l.flatMap fun x => 59 :: 32 :: x := by
  rw [Lib.join_cons, Lib.joinTail, List.flatMap_def]
  rfl
theorem cut1_mid {a : List UInt8} (b : List UInt8) (h : 61 ∉ a) : cut1 (a ++ 61 :: b) = (a, b) := by
  have := cutS_mid (c := 61) (t := []) (a := a) b h
  rw [List.append_assoc] at this
  unfold cut1
  rw [show a ++ 61 :: b = a ++ ([61] ++ b) from rfl, this]
theorem decFrom_dig : ∀ (l : List UInt8) (acc : Nat), l.all digC = true → Lib.decFrom acc l = some (l.foldl (fun n c => 10 * n + (c.toNat - 48)) acc)
  | [], acc, _ => rfl
  | c :: l, acc, h => by
    rw [List.all_cons, Bool.and_eq_true] at h
    have hd : Lib.digitVal c = some (c.toNat - 48) := by
      have := h.1
      unfold digC at this
      simp only [Bool.and_eq_true, decide_eq_true_eq] at this
      unfold Lib.digitVal
      rw [if_pos this]
    rw [Lib.decFrom, hd, List.foldl_cons]
    simp only
    rw [decFrom_dig l _ h.2, Nat.mul_comm]
theorem atoi_dec {n : Nat} (h : n ≤ 99999999) : atoiV (Lib.decDigits n) = n := by
  obtain ⟨g1, g2, _, g4⟩ := dec_all n
  have hl := Url.dec_five 7 n (by omega)
  unfold atoiV
  rw [Lib.atoiAll_short _ (by omega)]
  have hs : Lib.atoi (Lib.decDigits n) = some (n : Int) := by
    cases hd : Lib.decDigits n with
    | nil => exact absurd hd g4
    | cons c r =>
      rw [hd] at g1 g2
      have hc : digC c = true := by rw [List.all_cons, Bool.and_eq_true] at g1; exact g1.1
      have h45 : ¬ c = 45 := by rintro rfl; revert hc; decide
      have h43 : ¬ c = 43 := by rintro rfl; revert hc; decide
      have e : Lib.decNat (c :: r) = some n := by
        unfold Lib.decNat
        rw [if_neg (by simp), decFrom_dig _ _ g1]
        exact congrArg some g2
      simp only [Lib.atoi, beq_iff_eq, h45, h43, if_false, e, Option.map_some]
  rw [hs]; rfl
theorem step_path (c : Ckie) (p : List UInt8) : stepC c ([80, 97, 116, 104, 61] ++ p) = { c with path := p } := by
  have := cut1_mid (a := [80, 97, 116, 104]) p (by decide)
  unfold stepC
  rw [show [80, 97, 116, 104, 61] ++ p = [80, 97, 116, 104] ++ 61 :: p from rfl, this, if_pos rfl]
theorem step_age (c : Ckie) {n : Nat} (h : n ≤ 99999999) : stepC c ([77, 97, 120, 45, 65, 103, 101, 61] ++ Lib.decDigits n) = { c with age := (n : Int) } := by
  have := cut1_mid (a := [77, 97, 120, 45, 65, 103, 101]) (Lib.decDigits n) (by decide)
  unfold stepC
  rw [show [77, 97, 120, 45, 65, 103, 101, 61] ++ Lib.decDigits n = [77, 97, 120, 45, 65, 103, 101] ++ 61 :: Lib.decDigits n from rfl, this, if_neg (fun e => absurd (show ([77, 97, 120, 45, 65, 103, 101] : List UInt8) = [80, 97, 116, 104] from e) (by decide)), if_pos rfl, atoi_dec h]
theorem step_path' (c : Ckie) (p : List UInt8) : stepC c (80 :: 97 :: 116 :: 104 :: 61 :: p) = { c with path := p } := step_path c p
theorem step_age' (c : Ckie) {n : Nat} (h : n ≤ 99999999) : stepC c (77 :: 97 :: 120 :: 45 :: 65 :: 103 :: 101 :: 61 :: Lib.decDigits n) = { c with age := (n : Int) } := step_age c h
theorem step_sec (c : Ckie) : stepC c [83, 101, 99, 117, 114, 101] = { c with secure := true } := rfl
theorem step_ho (c : Ckie) : stepC c [72, 116, 116, 112, 79, 110, 108, 121] = { c with http := true } := rfl
theorem pk_set {c : Ckie} (h : rightC c = true) : pkP (setC c) = c := by
  obtain ⟨p1, p2, p3, p4, p5, p6⟩ := right_parts h
  obtain ⟨n0, n1, n2, n3⟩ := token_no p1
  obtain ⟨w1, w2⟩ := value_no p4
  obtain ⟨e1, e2, e3, e4⟩ := eqP_no (p := (c.name, c.value)) p1 p2
  have hc1 : cut1 (eqP (c.name, c.value)) = (c.name, c.value) := cut1_mid c.value n1
  have hpth : (59 : UInt8) ∉ [80, 97, 116, 104, 61] ++ c.path := by
    simp only [List.mem_append, not_or]; exact ⟨by decide, w1⟩
  have hps : ps4 c = eqP (c.name, c.value) :: (ps4 c).drop 1 := by
    unfold ps4 ps3 ps2 ps1; simp
  have hno : ∀ x ∈ (ps4 c).drop 1, 59 ∉ x := by
    intro x hx
    unfold ps4 ps3 ps2 ps1 at hx
    simp only [List.cons_append, List.drop_succ_cons, List.drop_zero, List.nil_append, List.mem_cons, List.mem_append] at hx
    rcases hx with rfl | ((hx | hx) | hx)
    · exact hpth
    · split at hx
      · rw [List.mem_singleton] at hx; subst hx
        have : (59 : UInt8) ∉ [77, 97, 120, 45, 65, 103, 101, 61] ++ Lib.decDigits c.age.toNat := by
          simp only [List.mem_append, not_or]
          exact ⟨by decide, dec_no59 _⟩
        exact this
      · cases hx
    · split at hx
      · rw [List.mem_singleton] at hx; subst hx; decide
      · cases hx
    · split at hx
      · rw [List.mem_singleton] at hx; subst hx; decide
      · cases hx
  unfold pkP
  rw [← ps_join c, hps, join_flat, split_join _ _ e1 hno]
  have e5 : (eqP (c.name, c.value) :: (ps4 c).drop 1).getD 0 [] = eqP (c.name, c.value) := rfl
  rw [e5, hc1, List.drop_succ_cons, List.drop_zero]
  unfold ps4 ps3 ps2 ps1
  obtain ⟨n, v, p, z, a, b⟩ := c
  simp only [List.cons_append, List.drop_succ_cons, List.drop_zero, List.nil_append]
  simp only at p5 p6
  rw [List.foldl_cons, step_path']
  by_cases h0 : 0 ≤ z
  · obtain ⟨m, rfl⟩ : ∃ m : Nat, z = (m : Int) := ⟨z.toNat, by omega⟩
    rw [if_pos h0, Int.toNat_natCast, List.cons_append, List.cons_append, List.foldl_cons, step_age' _ (by omega)]
    cases a <;> cases b <;> rfl
  · have : z = -1 := by omega
    subst this
    cases a <;> cases b <;> rfl
theorem pk_read (s : List UInt8) : readP s = if rightC (pkP s) = true ∧ setC (pkP s) = s then some (pkP s) else none := by
  split
  · rename_i h; exact read_iff.2 h
  · rename_i h
    cases hr : readP s with
    | none => rfl
    | some c =>
      obtain ⟨h1, h2⟩ := read_iff.1 hr
      exfalso
      apply h
      rw [← h2, pk_set h1]
      exact ⟨h1, rfl⟩
theorem cut1_len (x : List UInt8) : (cut1 x).1.length ≤ x.length ∧ (cut1 x).2.length ≤ x.length := by
  unfold cut1
  cases h : cutS [61] x with
  | none => simp
  | some q =>
    obtain ⟨a, b⟩ := q
    have := cutS_length h
    simp only at *
    omega
end Go.Ck
namespace Go.Proofs.YtmfelfhingmmbaaDoor
open Go.Eng Go.Pct Go.Txt Go.Ck
open Go.Rsp (tokC tokenB)
set_option maxRecDepth 10000
set_option linter.unusedSimpArgs false
set_option linter.unusedVariables false
variable {M : Ghost} {w0 w : World} {bs : List Nat} {H : List (Nat × Obj)}
theorem cut1_ok (hG : Glob M) (hM : Laid M w) (x : List UInt8) (hx : x.length ≤ 1000000) : Calls Tryd.prog 36 #[str x, str [61]] w (RetE w (.tuple #[str (cut1 x).1, str (cut1 x).2, .bool (cutS [61] x).isSome])) := by
  unfold cut1
  cases h : cutS [61] x with
  | none => exact cut_no hG hM (by decide) (by omega) h
  | some q =>
    obtain ⟨a, b⟩ := q
    exact cut_yes hG hM (by decide) (by omega) h
/-- what Read yields -/
def resCk (o : Option Ckie) : Value := .tuple #[.agg (ckCells (o.getD ⟨[], [], [], 0, false, false⟩)).toArray, i64 (if o.isSome then 0 else 10)]
theorem step_sm {c : Ckie} {x : List UInt8} (h : SmW c) (hx : x.length ≤ 1000000) : SmW (stepC c x) := by
  obtain ⟨h1, h2, h3⟩ := h
  have := cut1_len x
  unfold stepC
  repeat' split
  · exact ⟨h1, h2, by show (cut1 x).2.length ≤ _; omega⟩
  all_goals exact ⟨h1, h2, h3⟩
theorem fold_sm : ∀ (l : List (List UInt8)) (c : Ckie), SmW c → (∀ x ∈ l, x.length ≤ 1000000) → SmW (l.foldl stepC c)
  | [], c, h, _ => h
  | x :: l, c, h, hl => by
    rw [List.foldl_cons]
    exact fold_sm l _ (step_sm h (hl x (List.mem_cons_self ..))) (fun y hy => hl y (List.mem_cons_of_mem _ hy))
theorem fold_take {l : List (List UInt8)} {i : Nat} (h : i < l.length) (c : Ckie) : (l.take (i + 1)).foldl stepC c = stepC ((l.take i).foldl stepC c) (l.getD i default) := by
  have e : l.getD i default = l[i] := by simp [h]
  rw [List.take_succ_eq_append_getElem h, List.foldl_append, e]; rfl
structure CR (w : World) (M : Ghost) (l : List (List UInt8)) where
  i : Nat
  M' : Ghost
  hi : i ≤ l.length
  hs : Since w M M'
set_option maxHeartbeats 2000000 in
theorem cread_ok (hE : GlobE M) (hM : Laid M w) (s : List UInt8) (hs : s.length ≤ 1000000) : Calls Tryd.prog 27 #[str s] w (RetS M w (fun M' H v => H = [] ∧ v = resCk (readP s))) := by
  have hG := hE.glob
  rw [pk_read]
  refine calls_st (l := [str s]) hM Tryd.func27 rfl rfl rfl (E0 := [(0, true, str s)]) (params_cons rfl (params_nil _)) ?_
  repeat' (first | refine wc_seq ?_ | refine wc_region ?_ | refine wl_nil ?_ | refine wn_seq ?_ | refine wn_blk ?_ | refine wc_skip ?_ | refine wc_block ?_ | refine wc_exit rfl ?_ | (show WL _ _ (_ :: _) _ _ _ _; first | refine yl_v rfl rfl rfl ?_ | refine wl_v rfl rfl rfl (by first  | fail) ?_ | refine xl_alloc (fun _ => ?_) | refine xl_store rfl rfl ?_) | refine wc_ret rfl ?_)
  rename_i b2
  refine wl_callS rfl Tryd.call34 rfl rfl rfl rfl (fun w hw => splitM_ok hG hw.laid s [59, 32] (by decide) (by omega)) ?_
  rintro v1 H1 M1 hm1 hn1 ⟨rfl, hS⟩
  have hE1 := hE.mono hm1
  have hne := split_ne (sep := [59, 32]) (by decide) s
  have hmem := fun x (hx : x ∈ Lib.split s [59, 32]) => split_mem (sep := [59, 32]) (by decide) hx
  have hspl := split_len_le (sep := [59, 32]) (by decide) _ s (Nat.le_refl _)
  unfold pkP
  generalize Lib.split s [59, 32] = parts at *
  obtain ⟨a, cap, b, o, cs, T, fz, rfl, h1, h2, h3, h4⟩ := hS.open
  obtain ⟨rfl, hMb⟩ := h3 (by rintro rfl; simp at hne)
  have hc0 := h4 0 hne
  have hx0 : (parts.getD 0 []).length ≤ s.length := hmem _ (getD_mem (l := parts) hne)
  have hx0' : parts.getD 0 default = parts.getD 0 [] := rfl
  rw [hx0'] at hc0
  generalize parts.getD 0 [] = x0 at *
  have hcu0 := fun {w : World} (hw : Laid M1 w) => cut1_ok hE1.glob hw x0 (by omega)
  have hcl0 := cut1_len x0
  repeat' (first | refine wc_seq ?_ | refine wc_region ?_ | refine wl_nil ?_ | refine wn_seq ?_ | refine wn_blk ?_ | refine wc_skip ?_ | refine wc_block ?_ | refine wc_exit rfl ?_ | (show WL _ _ (_ :: _) _ _ _ _; first | refine yl_v rfl rfl rfl ?_ | refine wl_v rfl rfl rfl (by first | (show OpV _ _ _ _ (Oper.mk _ (Op.indexAddr _ _ _) _ _ _ _) _ _; exact ov_indexAddr (i := 0) (b := b) (o := o) rfl rfl rfl (by first | with_reducible exact fun _ => rfl | with_reducible exact fun h => h | exact fun _ => rfl | exact fun h => h | (intro himp; simp_all; done)) (by first | with_reducible exact fun _ => rfl | with_reducible exact fun h => h | exact fun _ => rfl | exact fun h => h | (intro himp; simp_all; done)) rfl (by first | exact (rfl : _ = some 1) | exact (rfl : _ = some 2) | exact (rfl : _ = some 3) | exact (rfl : _ = some 4) | exact (rfl : _ = some 6) | exact rfl) (fun _ => rfl) (fun _ => hne)) | (show OpV _ _ _ _ (Oper.mk _ (Op.load _ _) _ _ _ _) _ _; exact ov_load1M rfl (by first | with_reducible exact fun _ => rfl | with_reducible exact fun h => h | exact fun _ => rfl | exact fun h => h | (intro himp; simp_all; done)) rfl rfl (fun _ => hMb) (fun _ => hc0)) | ((show OpV _ _ _ _ (Oper.mk _ (Op.call ⟨.value (.func 36), _, _⟩) _ _ _ _) _ _; exact ov_call Tryd.call36 rfl (by intro himp; first | rfl | (simp_all; done)) (by rfl) (fun _ _ h k => h.ext k) (fun hcg w hw => hcu0 hw.laid))) | fail) ?_ | refine xl_alloc (fun _ => ?_) | refine xl_store rfl rfl ?_) | refine wc_ret rfl ?_)
  rename_i b5
  have hll : (parts.drop 1).length = parts.length - 1 := List.length_drop
  have hgd : ∀ i, (parts.drop 1).getD i default = parts.getD (i + 1) default := fun i => by
    rw [List.getD_eq_getElem?_getD, List.getD_eq_getElem?_getD, List.getElem?_drop, Nat.add_comm]
  obtain ⟨a1, hslc, ha1⟩ : ∃ a1, slc (some ⟨b, o, none⟩) 1 1 parts.length cap = .slice a1 (parts.drop 1).length (cap - 1) ∧ (1 < parts.length → a1 = some ⟨b, o + 1, none⟩) := by
    refine ⟨_, by rw [hll]; rfl, fun h => ?_⟩
    rw [if_neg (by omega)]; rfl
  rw [hslc, ← hll]
  have hc4 : ∀ i, i < (parts.drop 1).length → cs[o + 1 + i * 1]? = some (str ((parts.drop 1).getD i default)) := fun i hi => by
    have := h4 (i + 1) (by omega)
    rw [hgd i, ← this]; congr 1; omega
  have hxl : ∀ i, i < (parts.drop 1).length → ((parts.drop 1).getD i default).length ≤ s.length := fun i hi => by
    rw [hgd i]; exact hmem _ (getD_mem (by omega))
  have hxm : ∀ x ∈ parts.drop 1, x.length ≤ 1000000 := fun x hx => by have := hmem x (List.mem_of_mem_drop hx); omega
  have ha2 : 0 < (parts.drop 1).length → a1 = some ⟨b, o + 1, none⟩ := fun h => ha1 (by omega)
  clear hgd ha1 hslc h4 hmem h3 hS hc0 hx0'
  generalize hl : parts.drop 1 = l at *
  have hsm0 : SmW ⟨(cut1 x0).1, (cut1 x0).2, [], -1, false, false⟩ := ⟨by show (cut1 x0).1.length ≤ _; omega, by show (cut1 x0).2.length ≤ _; omega, by simp⟩
  obtain ⟨c0, hc0⟩ : ∃ c0 : Ckie, c0 = ⟨(cut1 x0).1, (cut1 x0).2, [], -1, false, false⟩ := ⟨_, rfl⟩
  have hcells : [str (cut1 x0).1, str (cut1 x0).2, str [], i64 (-1), .bool false, .bool false] = [str c0.name, str c0.value, str c0.path, i64 c0.age, .bool c0.secure, .bool c0.http] := by rw [hc0]
  rw [← hc0] at hsm0 ⊢
  refine wc_loop (α := CR w M1 l) (fun x => [(0, true, str s), (2, true, .pointer (some ⟨b2, 0, none⟩)), (5, true, .pointer (some ⟨b5, 0, none⟩)), (27, true, .slice a1 l.length (cap - 1)), (28, true, i64 (l.length : Int)), (29, true, i64 (x.i : Int))]) (fun x => St w [] [(b5, .cells [str ((l.take x.i).foldl stepC c0).name, str ((l.take x.i).foldl stepC c0).value, str ((l.take x.i).foldl stepC c0).path, i64 ((l.take x.i).foldl stepC c0).age, .bool ((l.take x.i).foldl stepC c0).secure, .bool ((l.take x.i).foldl stepC c0).http].toArray 28 (0, 0)), (b2, .cells [str [], str [], str [], i64 0, .bool false, .bool false].toArray 28 (0, 0))] x.M') (fun x => l.length - x.i) ⟨0, M1, Nat.zero_le _, Since.refl⟩ (by first | exact Sub.nil _ | (repeat (first | exact Sub.nil _ | refine Sub.cons (by first | rfl | (simp [look]; done)) ?_))) (fun _ h => by rw [List.take_zero, List.foldl_nil, ← hcells]; exact h) ?_
  rintro ⟨i, M2, hi, hs2⟩
  dsimp only
  have hE2 := hE1.mono hs2.1
  by_cases hlt : i < l.length
  · have ha := ha2 (by omega)
    subst ha
    have hcell := hc4 i hlt
    have hnx := fold_take hlt c0
    have hx := hxl i hlt
    have hMb2 := hs2.1 _ _ hMb
    generalize l.getD i default = x at *
    generalize (l.take i).foldl stepC c0 = c at *
    have hcu := fun {w : World} (hw : Laid M2 w) => cut1_ok hE2.glob hw x (by omega)
    have hcl := cut1_len x
    have hst0 : stepC c x = stepC c x := rfl
    conv at hst0 => rhs; unfold stepC
    generalize (cut1 x).1 = n at *
    generalize (cut1 x).2 = v at *
    repeat' (first | refine wc_seq ?_ | refine wc_region ?_ | refine wl_nil ?_ | refine wn_seq ?_ | refine wn_blk ?_ | refine wc_skip ?_ | refine wc_block ?_ | refine wc_exit rfl ?_ | (show WL _ _ (_ :: _) _ _ _ _; first | refine yl_v rfl rfl rfl ?_ | refine wl_v rfl rfl rfl (by first  | fail) ?_ | refine xl_alloc (fun _ => ?_) | refine xl_store rfl rfl ?_) | refine wc_ret rfl ?_)
    refine wc_cond rfl (fun hc => ?_) (fun hc => by exfalso; simp at hc; omega)
    clear hc
    repeat' (first | refine wc_seq ?_ | refine wc_region ?_ | refine wl_nil ?_ | refine wn_seq ?_ | refine wn_blk ?_ | refine wc_skip ?_ | refine wc_block ?_ | refine wc_exit rfl ?_ | (show WL _ _ (_ :: _) _ _ _ _; first | refine yl_v rfl rfl rfl ?_ | refine wl_v rfl rfl rfl (by first | (show OpV _ _ _ _ (Oper.mk _ (Op.indexAddr _ _ _) _ _ _ _) _ _; exact ov_indexAddr (i := i) (b := b) (o := o + 1) rfl rfl rfl (by first | with_reducible exact fun _ => rfl | with_reducible exact fun h => h | exact fun _ => rfl | exact fun h => h | (intro himp; simp_all; done)) (by first | with_reducible exact fun _ => rfl | with_reducible exact fun h => h | exact fun _ => rfl | exact fun h => h | (intro himp; simp_all; done)) rfl (by first | exact (rfl : _ = some 1) | exact (rfl : _ = some 2) | exact (rfl : _ = some 3) | exact (rfl : _ = some 4) | exact (rfl : _ = some 6) | exact rfl) (fun _ => rfl) (by intro hcg; first | omega | (simp at hcg; omega))) | (show OpV _ _ _ _ (Oper.mk _ (Op.load _ _) _ _ _ _) _ _; exact ov_load1M rfl (by first | with_reducible exact fun _ => rfl | with_reducible exact fun h => h | exact fun _ => rfl | exact fun h => h | (intro himp; simp_all; done)) rfl rfl (fun _ => hMb2) (fun _ => hcell)) | ((show OpV _ _ _ _ (Oper.mk _ (Op.call ⟨.value (.func 36), _, _⟩) _ _ _ _) _ _; exact ov_call Tryd.call36 rfl (by intro himp; first | rfl | (simp_all; done)) (by rfl) (fun _ _ h k => h.ext k) (fun hcg w hw => hcu hw.laid))) | fail) ?_ | refine xl_alloc (fun _ => ?_) | refine xl_store rfl rfl ?_) | refine wc_ret rfl ?_)
    refine wc_cond rfl (fun hc => ?_) (fun hc => ?_)
    · have h0 : n = [80, 97, 116, 104] := by simpa using hc
      have hst : stepC c x = { c with path := v } := by rw [hst0, if_pos h0]
      repeat' (first | refine wc_seq ?_ | refine wc_region ?_ | refine wl_nil ?_ | refine wn_seq ?_ | refine wn_blk ?_ | refine wc_skip ?_ | refine wc_block ?_ | refine wc_exit rfl ?_ | (show WL _ _ (_ :: _) _ _ _ _; first | refine yl_v rfl rfl rfl ?_ | refine wl_v rfl rfl rfl (by first  | fail) ?_ | refine xl_alloc (fun _ => ?_) | refine xl_store rfl rfl ?_) | refine wc_ret rfl ?_)
      exact wn_cut ⟨i + 1, M2, by omega, hs2⟩ (by show l.length - (i + 1) < l.length - i; omega) (by first | exact Sub.nil _ | (repeat (first | exact Sub.nil _ | refine Sub.cons (by first | rfl | (simp [look]; done)) ?_))) (fun _ h => by rw [hnx, hst]; exact h)
    have h0 : ¬ n = [80, 97, 116, 104] := by simpa using hc
    clear hc
    rw [if_neg h0] at hst0
    repeat' (first | refine wc_seq ?_ | refine wc_region ?_ | refine wl_nil ?_ | refine wn_seq ?_ | refine wn_blk ?_ | refine wc_skip ?_ | refine wc_block ?_ | refine wc_exit rfl ?_ | (show WL _ _ (_ :: _) _ _ _ _; first | refine yl_v rfl rfl rfl ?_ | refine wl_v rfl rfl rfl (by first  | fail) ?_ | refine xl_alloc (fun _ => ?_) | refine xl_store rfl rfl ?_) | refine wc_ret rfl ?_)
    refine wc_cond rfl (fun hc => ?_) (fun hc => ?_)
    · have h1 : n = [77, 97, 120, 45, 65, 103, 101] := by simpa using hc
      have hst : stepC c x = { c with age := atoiV v } := by rw [hst0, if_pos h1]
      repeat' (first | refine wc_seq ?_ | refine wc_region ?_ | refine wl_nil ?_ | refine wn_seq ?_ | refine wn_blk ?_ | refine wc_skip ?_ | refine wc_block ?_ | refine wc_exit rfl ?_ | (show WL _ _ (_ :: _) _ _ _ _; first | refine yl_v rfl rfl rfl ?_ | refine wl_v rfl rfl rfl (by first  | fail) ?_ | refine xl_alloc (fun _ => ?_) | refine xl_store rfl rfl ?_) | refine wc_ret rfl ?_)
      refine wl_callS rfl Tryd.call44 rfl rfl rfl rfl (fun w hw => atoi_ok hE2 hw.laid v (by omega)) ?_
      rintro _ H3 M3 hm3 hn3 ⟨rfl, er, rfl⟩
      repeat' (first | refine wc_seq ?_ | refine wc_region ?_ | refine wl_nil ?_ | refine wn_seq ?_ | refine wn_blk ?_ | refine wc_skip ?_ | refine wc_block ?_ | refine wc_exit rfl ?_ | (show WL _ _ (_ :: _) _ _ _ _; first | refine yl_v rfl rfl rfl ?_ | refine wl_v rfl rfl rfl (by first  | fail) ?_ | refine xl_alloc (fun _ => ?_) | refine xl_store rfl rfl ?_) | refine wc_ret rfl ?_)
      exact wn_cut ⟨i + 1, M3, by omega, hs2.step hm3 hn3⟩ (by show l.length - (i + 1) < l.length - i; omega) (by first | exact Sub.nil _ | (repeat (first | exact Sub.nil _ | refine Sub.cons (by first | rfl | (simp [look]; done)) ?_))) (fun _ h => by rw [hnx, hst]; exact h)
    have h1 : ¬ n = [77, 97, 120, 45, 65, 103, 101] := by simpa using hc
    clear hc
    rw [if_neg h1] at hst0
    repeat' (first | refine wc_seq ?_ | refine wc_region ?_ | refine wl_nil ?_ | refine wn_seq ?_ | refine wn_blk ?_ | refine wc_skip ?_ | refine wc_block ?_ | refine wc_exit rfl ?_ | (show WL _ _ (_ :: _) _ _ _ _; first | refine yl_v rfl rfl rfl ?_ | refine wl_v rfl rfl rfl (by first  | fail) ?_ | refine xl_alloc (fun _ => ?_) | refine xl_store rfl rfl ?_) | refine wc_ret rfl ?_)
    refine wc_cond rfl (fun hc => ?_) (fun hc => ?_)
    · have h2 : n = [83, 101, 99, 117, 114, 101] := by simpa using hc
      have hst : stepC c x = { c with secure := true } := by rw [hst0, if_pos h2]
      repeat' (first | refine wc_seq ?_ | refine wc_region ?_ | refine wl_nil ?_ | refine wn_seq ?_ | refine wn_blk ?_ | refine wc_skip ?_ | refine wc_block ?_ | refine wc_exit rfl ?_ | (show WL _ _ (_ :: _) _ _ _ _; first | refine yl_v rfl rfl rfl ?_ | refine wl_v rfl rfl rfl (by first  | fail) ?_ | refine xl_alloc (fun _ => ?_) | refine xl_store rfl rfl ?_) | refine wc_ret rfl ?_)
      exact wn_cut ⟨i + 1, M2, by omega, hs2⟩ (by show l.length - (i + 1) < l.length - i; omega) (by first | exact Sub.nil _ | (repeat (first | exact Sub.nil _ | refine Sub.cons (by first | rfl | (simp [look]; done)) ?_))) (fun _ h => by rw [hnx, hst]; exact h)
    have h2 : ¬ n = [83, 101, 99, 117, 114, 101] := by simpa using hc
    clear hc
    rw [if_neg h2] at hst0
    repeat' (first | refine wc_seq ?_ | refine wc_region ?_ | refine wl_nil ?_ | refine wn_seq ?_ | refine wn_blk ?_ | refine wc_skip ?_ | refine wc_block ?_ | refine wc_exit rfl ?_ | (show WL _ _ (_ :: _) _ _ _ _; first | refine yl_v rfl rfl rfl ?_ | refine wl_v rfl rfl rfl (by first  | fail) ?_ | refine xl_alloc (fun _ => ?_) | refine xl_store rfl rfl ?_) | refine wc_ret rfl ?_)
    refine wc_cond rfl (fun hc => ?_) (fun hc => ?_)
    · have h3 : n = [72, 116, 116, 112, 79, 110, 108, 121] := by simpa using hc
      have hst : stepC c x = { c with http := true } := by rw [hst0, if_pos h3]
      repeat' (first | refine wc_seq ?_ | refine wc_region ?_ | refine wl_nil ?_ | refine wn_seq ?_ | refine wn_blk ?_ | refine wc_skip ?_ | refine wc_block ?_ | refine wc_exit rfl ?_ | (show WL _ _ (_ :: _) _ _ _ _; first | refine yl_v rfl rfl rfl ?_ | refine wl_v rfl rfl rfl (by first  | fail) ?_ | refine xl_alloc (fun _ => ?_) | refine xl_store rfl rfl ?_) | refine wc_ret rfl ?_)
      exact wn_cut ⟨i + 1, M2, by omega, hs2⟩ (by show l.length - (i + 1) < l.length - i; omega) (by first | exact Sub.nil _ | (repeat (first | exact Sub.nil _ | refine Sub.cons (by first | rfl | (simp [look]; done)) ?_))) (fun _ h => by rw [hnx, hst]; exact h)
    · have h3 : ¬ n = [72, 116, 116, 112, 79, 110, 108, 121] := by simpa using hc
      have hst : stepC c x = c := by rw [hst0, if_neg h3]
      repeat' (first | refine wc_seq ?_ | refine wc_region ?_ | refine wl_nil ?_ | refine wn_seq ?_ | refine wn_blk ?_ | refine wc_skip ?_ | refine wc_block ?_ | refine wc_exit rfl ?_ | (show WL _ _ (_ :: _) _ _ _ _; first | refine yl_v rfl rfl rfl ?_ | refine wl_v rfl rfl rfl (by first  | fail) ?_ | refine xl_alloc (fun _ => ?_) | refine xl_store rfl rfl ?_) | refine wc_ret rfl ?_)
      exact wn_cut ⟨i + 1, M2, by omega, hs2⟩ (by show l.length - (i + 1) < l.length - i; omega) (by first | exact Sub.nil _ | (repeat (first | exact Sub.nil _ | refine Sub.cons (by first | rfl | (simp [look]; done)) ?_))) (fun _ h => by rw [hnx, hst]; exact h)
  obtain rfl : i = l.length := by omega
  have hsm := fold_sm l c0 hsm0 hxm
  rw [List.take_length]
  generalize l.foldl stepC c0 = c at *
  have hse := fun {w : World} (hw : Laid M2 w) => cset_ok hE2.glob hw c hsm
  have hck : ckCells c = [str c.name, str c.value, str c.path, i64 c.age, .bool c.secure, .bool c.http] := rfl
  rw [hck] at hse
  have hs3 : Since w M M2 := (Since.refl.step hm1 hn1).step hs2.1 hs2.2
  unfold setP at hse
  repeat' (first | refine wc_seq ?_ | refine wc_region ?_ | refine wl_nil ?_ | refine wn_seq ?_ | refine wn_blk ?_ | refine wc_skip ?_ | refine wc_block ?_ | refine wc_exit rfl ?_ | (show WL _ _ (_ :: _) _ _ _ _; first | refine yl_v rfl rfl rfl ?_ | refine wl_v rfl rfl rfl (by first  | fail) ?_ | refine xl_alloc (fun _ => ?_) | refine xl_store rfl rfl ?_) | refine wc_ret rfl ?_)
  refine wc_cond rfl (fun hc => by exfalso; simp at hc) (fun hc => ?_)
  clear hc
  by_cases hr : rightC c = true
  · rw [if_pos hr] at hse
    repeat' (first | refine wc_seq ?_ | refine wc_region ?_ | refine wl_nil ?_ | refine wn_seq ?_ | refine wn_blk ?_ | refine wc_skip ?_ | refine wc_block ?_ | refine wc_exit rfl ?_ | (show WL _ _ (_ :: _) _ _ _ _; first | refine yl_v rfl rfl rfl ?_ | refine wl_v rfl rfl rfl (by first | ((show OpV _ _ _ _ (Oper.mk _ (Op.call ⟨.value (.func 26), _, _⟩) _ _ _ _) _ _; exact ov_call Tryd.call26 rfl (by intro himp; first | rfl | (simp_all; done)) (by rfl) (fun _ _ h k => h.ext k) (fun hcg w hw => hse hw.laid))) | fail) ?_ | refine xl_alloc (fun _ => ?_) | refine xl_store rfl rfl ?_) | refine wc_ret rfl ?_)
    refine wc_cond rfl (fun hc => ?_) (fun hc => ?_)
    · have hne2 : ¬ (rightC c = true ∧ setC c = s) := by rintro ⟨_, e⟩; simp [e] at hc
      rw [if_neg hne2]
      repeat' (first | refine wc_seq ?_ | refine wc_region ?_ | refine wl_nil ?_ | refine wn_seq ?_ | refine wn_blk ?_ | refine wc_skip ?_ | refine wc_block ?_ | refine wc_exit rfl ?_ | (show WL _ _ (_ :: _) _ _ _ _; first | refine yl_v rfl rfl rfl ?_ | refine wl_v rfl rfl rfl (by first  | fail) ?_ | refine xl_alloc (fun _ => ?_) | refine xl_store rfl rfl ?_) | refine wc_ret rfl ?_)
      exact wr_layC2 (Hn := []) rfl rfl rfl rfl (List.Mem.tail _ (List.Mem.head _)) rfl hs3 (List.nil_sublist _) ⟨rfl, rfl⟩
    · have heq : rightC c = true ∧ setC c = s := ⟨hr, by simp at hc; exact hc⟩
      rw [if_pos heq]
      repeat' (first | refine wc_seq ?_ | refine wc_region ?_ | refine wl_nil ?_ | refine wn_seq ?_ | refine wn_blk ?_ | refine wc_skip ?_ | refine wc_block ?_ | refine wc_exit rfl ?_ | (show WL _ _ (_ :: _) _ _ _ _; first | refine yl_v rfl rfl rfl ?_ | refine wl_v rfl rfl rfl (by first  | fail) ?_ | refine xl_alloc (fun _ => ?_) | refine xl_store rfl rfl ?_) | refine wc_ret rfl ?_)
      exact wr_layC2 (Hn := []) rfl rfl rfl rfl (List.Mem.tail _ (List.Mem.head _)) rfl hs3 (List.nil_sublist _) ⟨rfl, rfl⟩
  · rw [if_neg hr] at hse
    rw [if_neg (fun h => hr h.1)]
    repeat' (first | refine wc_seq ?_ | refine wc_region ?_ | refine wl_nil ?_ | refine wn_seq ?_ | refine wn_blk ?_ | refine wc_skip ?_ | refine wc_block ?_ | refine wc_exit rfl ?_ | (show WL _ _ (_ :: _) _ _ _ _; first | refine yl_v rfl rfl rfl ?_ | refine wl_v rfl rfl rfl (by first | ((show OpV _ _ _ _ (Oper.mk _ (Op.call ⟨.value (.func 26), _, _⟩) _ _ _ _) _ _; exact ov_call Tryd.call26 rfl (by intro himp; first | rfl | (simp_all; done)) (by rfl) (fun _ _ h k => h.ext k) (fun hcg w hw => hse hw.laid))) | fail) ?_ | refine xl_alloc (fun _ => ?_) | refine xl_store rfl rfl ?_) | refine wc_ret rfl ?_)
    refine wc_cond rfl (fun hc => ?_) (fun hc => by exfalso; simp at hc)
    repeat' (first | refine wc_seq ?_ | refine wc_region ?_ | refine wl_nil ?_ | refine wn_seq ?_ | refine wn_blk ?_ | refine wc_skip ?_ | refine wc_block ?_ | refine wc_exit rfl ?_ | (show WL _ _ (_ :: _) _ _ _ _; first | refine yl_v rfl rfl rfl ?_ | refine wl_v rfl rfl rfl (by first  | fail) ?_ | refine xl_alloc (fun _ => ?_) | refine xl_store rfl rfl ?_) | refine wc_ret rfl ?_)
    exact wr_layC2 (Hn := []) rfl rfl rfl rfl (List.Mem.tail _ (List.Mem.head _)) rfl hs3 (List.nil_sublist _) ⟨rfl, rfl⟩
end Go.Proofs.YtmfelfhingmmbaaDoor
/-
  The chapter's examples; the statements CookieSent, CookieLines, CookieBack.
-/
namespace Go.Eng
set_option linter.unusedSimpArgs false
section
variable {P : Program} {n : Nat} {E : Env} {cg cx cy : Bool} {x y : Operand} {tx tyy : TypeId}
variable {dst : Option Tmp} {ty : TypeId} {pos : String} {af : Array Edge} {g : Option (Nat × Bool)} {C : World → Prop}
theorem run_eqPtr {e : TypeId} {a0 : Addr} {w : World} (ht : P.underlying tx = some (.pointer e)) : (binOp .eql tx (.pointer (some a0)) (.pointer none)).run P w = .ok (.bool false) w ∧ (binOp .neq tx (.pointer (some a0)) (.pointer none)).run P w = .ok (.bool true) w := by
  have h : ∀ d : Nat, (Op.equalIn (d + 1) tx (.pointer (some a0)) (.pointer none)).run P w = .ok false w := fun d => by simp [Op.equalIn, run_underlying ht]
  constructor
  · simp only [binOp]
    simp [Op.equal, Op.maxDepth, h 9999]
  · simp only [binOp]
    simp [Op.equal, Op.maxDepth, h 9999]
/-- a pointer against nil -/
theorem ov_eqPtr {e : TypeId} {a0 : Addr} (hx : ev E x = some (cx, .pointer (some a0))) (hy : ev E y = some (cy, .pointer none)) (h1 : Imp cg cx) (h2 : Imp cg cy) (ht : P.underlying tx = some (.pointer e)) :
    OpV P n E C ⟨dst, .binOp .eql tx x y tyy, ty, pos, af, g⟩ cg (.bool false) :=
  ov_run fun h _ ha w _ => run_bin (ha.evalc hx (h1 h)) (ha.evalc hy (h2 h)) (by simp [eqGuard]) (run_eqPtr ht).1
theorem ov_neqPtr {e : TypeId} {a0 : Addr} (hx : ev E x = some (cx, .pointer (some a0))) (hy : ev E y = some (cy, .pointer none)) (h1 : Imp cg cx) (h2 : Imp cg cy) (ht : P.underlying tx = some (.pointer e)) :
    OpV P n E C ⟨dst, .binOp .neq tx x y tyy, ty, pos, af, g⟩ cg (.bool true) :=
  ov_run fun h _ ha w _ => run_bin (ha.evalc hx (h1 h)) (ha.evalc hy (h2 h)) (by simp [eqGuard]) (run_eqPtr ht).2
end
end Go.Eng
namespace Go.Proofs.YtmfelfhingmmbaaDoor
open Go.Eng Go.Pct Go.Txt Go.Ck
open Go.Rsp (tokC tokenB)
set_option maxRecDepth 10000
set_option linter.unusedSimpArgs false
set_option linter.unusedVariables false
variable {M : Ghost} {w0 w : World} {bs : List Nat} {H : List (Nat × Obj)}
theorem slP_lit {e b : Nat} {l : List Pr} (h : M b (.cells (cellsP l).toArray e (0, 0))) (hl : l.length ≤ 1000) : SlP M (.slice (some ⟨b, 0, none⟩) l.length l.length) l :=
  (OwnS.lit (e := e) (b := b) (cellsP_length l) (Nat.le_trans hl (by decide))).slP (fun p hp => by
    rw [List.mem_singleton] at hp; subst hp; exact h) (by omega)
def exA : Ckie := ⟨[67, 65, 83, 84, 71, 67], [84, 71, 84, 45, 49], [47, 99, 97, 115], -1, true, true⟩
def exB : Ckie := ⟨[97], [49], [47, 99, 97, 115], -1, false, false⟩
theorem aw1 : setP exA = ([67, 65, 83, 84, 71, 67, 61, 84, 71, 84, 45, 49, 59, 32, 80, 97, 116, 104, 61, 47, 99, 97, 115, 59, 32, 83, 101, 99, 117, 114, 101, 59, 32, 72, 116, 116, 112, 79, 110, 108, 121], 0) := by decide +kernel
theorem aw2 : sentP [97, 61, 49, 59, 32, 98, 61, 59, 32, 59, 99, 61, 120, 61, 121] = ([([97], [49]), ([98], []), ([99], [120, 61, 121])], 0) := by decide +kernel
theorem aw3 : putP [] exB = ([exB], 0) := by decide +kernel
theorem aw4 : pairsP [exB] [47, 99, 97, 115, 47, 108, 111, 103, 105, 110] false = [([97], [49])] := by decide +kernel
theorem aw5 : pairsP [exB] [47, 99, 97, 115, 116, 108, 101] false = [] := by decide +kernel
set_option maxHeartbeats 1000000 in
theorem awake_ok (hG : Glob M) (hM : Laid M w) : Calls Tryd.prog 8 #[] w (RetE w (.bool true)) := by
  have h1 := fun {w : World} (hw : Laid M w) => cset_ok hG hw exA ⟨by decide, by decide, by decide⟩
  rw [aw1] at h1
  have hsB : ∀ c ∈ [exB], SmC c := fun c hc => by rw [List.mem_singleton] at hc; subst hc; exact ⟨by decide, by decide, by decide⟩
  refine calls_st (l := []) hM Tryd.func8 rfl rfl rfl (E0 := []) (params_nil _) ?_
  repeat' (first | refine wc_seq ?_ | refine wc_region ?_ | refine wl_nil ?_ | refine wn_seq ?_ | refine wn_blk ?_ | refine wc_skip ?_ | refine wc_block ?_ | refine wc_exit rfl ?_ | (show WL _ _ (_ :: _) _ _ _ _; first | refine yl_v rfl rfl rfl ?_ | refine wl_v rfl rfl rfl (by first | ((show OpV _ _ _ _ (Oper.mk _ (Op.call ⟨.value (.func 26), _, _⟩) _ _ _ _) _ _; exact ov_call Tryd.call26 rfl (by intro himp; first | rfl | (simp_all; done)) (by rfl) (fun _ _ h k => h.ext k) (fun hcg w hw => h1 hw.laid))) | fail) ?_ | refine xl_buildSlice rfl (fun _ => ?_)) | refine wc_ret rfl ?_)
  refine wl_callS rfl Tryd.call19 rfl rfl rfl rfl (fun w hw => csent_ok hG hw.laid [97, 61, 49, 59, 32, 98, 61, 59, 32, 59, 99, 61, 120, 61, 121] (by decide)) ?_
  rintro _ H1 M1 hm1 hn1 ⟨rfl, sv, rfl, hS⟩
  rw [aw2] at hS ⊢
  repeat' (first | refine wc_seq ?_ | refine wc_region ?_ | refine wl_nil ?_ | refine wn_seq ?_ | refine wn_blk ?_ | refine wc_skip ?_ | refine wc_block ?_ | refine wc_exit rfl ?_ | (show WL _ _ (_ :: _) _ _ _ _; first | refine yl_v rfl rfl rfl ?_ | refine wl_v rfl rfl rfl (by first  | fail) ?_ | refine xl_buildSlice rfl (fun _ => ?_)) | refine wc_ret rfl ?_)
  refine wl_callS rfl Tryd.call9 rfl rfl rfl rfl (fun w hw => new_ok hw.laid) ?_
  rintro _ H2 M2 hm2 hn2 ⟨bj, rfl, rfl⟩
  repeat' (first | refine wc_seq ?_ | refine wc_region ?_ | refine wl_nil ?_ | refine wn_seq ?_ | refine wn_blk ?_ | refine wc_skip ?_ | refine wc_block ?_ | refine wc_exit rfl ?_ | (show WL _ _ (_ :: _) _ _ _ _; first | refine yl_v rfl rfl rfl ?_ | refine wl_v rfl rfl rfl (by first | (show OpV _ _ _ _ (Oper.mk _ (Op.binOp BinOp.eql _ _ _ _) _ _ _ _) _ _; exact ov_eqPtr rfl rfl (by first | with_reducible exact fun _ => rfl | with_reducible exact fun h => h | exact fun _ => rfl | exact fun h => h | (intro himp; simp_all; done)) (by first | with_reducible exact fun _ => rfl | with_reducible exact fun h => h | exact fun _ => rfl | exact fun h => h | (intro himp; simp_all; done)) rfl) | fail) ?_ | refine xl_buildSlice rfl (fun _ => ?_)) | refine wc_ret rfl ?_)
  refine wc_cond rfl (fun hc => by exfalso; cases hc) (fun hc => ?_)
  clear hc
  repeat' (first | refine wc_seq ?_ | refine wc_region ?_ | refine wl_nil ?_ | refine wn_seq ?_ | refine wn_blk ?_ | refine wc_skip ?_ | refine wc_block ?_ | refine wc_exit rfl ?_ | (show WL _ _ (_ :: _) _ _ _ _; first | refine yl_v rfl rfl rfl ?_ | refine wl_v rfl rfl rfl (by first  | fail) ?_ | refine xl_buildSlice rfl (fun _ => ?_)) | refine wc_ret rfl ?_)
  refine wl_callY (b := bj) (H := []) rfl Tryd.call11 rfl rfl rfl rfl (fun w hw => put_ok (J := []) sl_nil (by decide) exB ⟨by decide, by decide, by decide⟩ hw) ?_
  rintro _ M3 _ hm3 hn3 ⟨rfl, jv, rfl, hJ⟩
  rw [aw3] at hJ ⊢
  repeat' (first | refine wc_seq ?_ | refine wc_region ?_ | refine wl_nil ?_ | refine wn_seq ?_ | refine wn_blk ?_ | refine wc_skip ?_ | refine wc_block ?_ | refine wc_exit rfl ?_ | (show WL _ _ (_ :: _) _ _ _ _; first | refine yl_v rfl rfl rfl ?_ | refine wl_v rfl rfl rfl (by first  | fail) ?_ | refine xl_buildSlice rfl (fun _ => ?_)) | refine wc_ret rfl ?_)
  refine wl_callY (b := bj) (H := []) rfl Tryd.call16 rfl rfl rfl rfl (fun w hw => jpairs_ok hJ (by decide) hsB [47, 99, 97, 115, 47, 108, 111, 103, 105, 110] false (by decide) hw) ?_
  rintro v4 M4 _ hm4 hn4 ⟨rfl, hP⟩
  rw [aw4] at hP
  have hJ4 := hJ.mono hm4 (fun _ _ _ h => h)
  obtain ⟨a4, c4, _, _, _, _, _, rfl, _⟩ := hP.open
  repeat' (first | refine wc_seq ?_ | refine wc_region ?_ | refine wl_nil ?_ | refine wn_seq ?_ | refine wn_blk ?_ | refine wc_skip ?_ | refine wc_block ?_ | refine wc_exit rfl ?_ | (show WL _ _ (_ :: _) _ _ _ _; first | refine yl_v rfl rfl rfl ?_ | refine wl_v rfl rfl rfl (by first  | fail) ?_ | refine xl_buildSlice rfl (fun _ => ?_)) | refine wc_ret rfl ?_)
  refine wl_callY (b := bj) (H := []) rfl Tryd.call16 rfl rfl rfl rfl (fun w hw => jpairs_ok hJ4 (by decide) hsB [47, 99, 97, 115, 116, 108, 101] false (by decide) hw) ?_
  rintro v5 M5 _ hm5 hn5 ⟨rfl, hP5⟩
  rw [aw5] at hP5
  obtain ⟨a5, c5, _, _, _, _, _, rfl, _⟩ := hP5.open
  have hS5 := ((hS.mono hm2 (fun _ _ _ h => h)).mono hm3 (fun _ _ _ h => h)).mono hm4 (fun _ _ _ h => h)
  have hS5 := hS5.mono hm5 (fun _ _ _ h => h)
  repeat' (first | refine wc_seq ?_ | refine wc_region ?_ | refine wl_nil ?_ | refine wn_seq ?_ | refine wn_blk ?_ | refine wc_skip ?_ | refine wc_block ?_ | refine wc_exit rfl ?_ | (show WL _ _ (_ :: _) _ _ _ _; first | refine yl_v rfl rfl rfl ?_ | refine wl_v rfl rfl rfl (by first  | fail) ?_ | refine xl_buildSlice rfl (fun _ => ?_)) | refine wc_ret rfl ?_)
  rename_i b43
  refine wl_weak (C' := St w [] ([(b43, .cells (cellsP [([97], [49]), ([98], []), ([99], [120, 61, 121])]).toArray 41 (0, 0))] ++ [(bj, jarO jv)]) M5) (Eng.Sub.refl _) (fun _ h => h) ?_
  refine wl_publish fun hnew => ?_
  have hL := slP_lit (M := With M5 [(b43, .cells (cellsP [([97], [49]), ([98], []), ([99], [120, 61, 121])]).toArray 41 (0, 0))]) (e := 41) (b := b43) (l := [([97], [49]), ([98], []), ([99], [120, 61, 121])]) (.inr (List.mem_singleton.2 rfl)) (by decide)
  have hS6 := hS5.mono (M' := With M5 [(b43, .cells (cellsP [([97], [49]), ([98], []), ([99], [120, 61, 121])]).toArray 41 (0, 0))]) (fun _ _ => .inl) (fun _ _ _ h => h)
  have hpr := fun {w : World} (hw : Laid (With M5 [(b43, .cells (cellsP [([97], [49]), ([98], []), ([99], [120, 61, 121])]).toArray 41 (0, 0))]) w) => pairs_ok hw hS6 hL
  rw [decide_eq_true rfl] at hpr
  repeat' (first | refine wc_seq ?_ | refine wc_region ?_ | refine wl_nil ?_ | refine wn_seq ?_ | refine wn_blk ?_ | refine wc_skip ?_ | refine wc_block ?_ | refine wc_exit rfl ?_ | (show WL _ _ (_ :: _) _ _ _ _; first | refine yl_v rfl rfl rfl ?_ | refine wl_v rfl rfl rfl (by first | ((show OpV _ _ _ _ (Oper.mk _ (Op.call ⟨.value (.func 15), _, _⟩) _ _ _ _) _ _; exact ov_call Tryd.call15 rfl (by intro himp; first | rfl | (simp_all; done)) (by rfl) (fun _ _ h k => h.ext k) (fun hcg w hw => hpr hw.laid))) | fail) ?_ | refine xl_buildSlice rfl (fun _ => ?_)) | refine wc_ret rfl ?_)
  exact wr_weak (fun _ h => h.drop (List.nil_sublist _)) (wr_tmp rfl rfl rfl)
theorem cookieSent_ok (hG : Glob M) (hM : Laid M w) (s : List UInt8) {v : Value} {l : List Pr} (hv : SlP M v l) (hs : s.length ≤ 9223372036854775807) : Calls Tryd.prog 5 #[str s, v] w (RetE w (.bool true)) := by
  have hf := fun {w : World} (hw : Laid M w) => few_ok hw hv
  refine calls_st (l := [str s, v]) hM Tryd.func5 rfl rfl rfl (E0 := [(0, true, str s), (1, true, v)]) (params_cons rfl (params_cons rfl (params_nil _))) ?_
  repeat' (first | refine wc_seq ?_ | refine wc_region ?_ | refine wl_nil ?_ | refine wn_seq ?_ | refine wn_blk ?_ | refine wc_skip ?_ | refine wc_block ?_ | refine wc_exit rfl ?_ | (show WL _ _ (_ :: _) _ _ _ _; first | refine yl_v rfl rfl rfl ?_ | refine wl_v rfl rfl rfl (by first | ((show OpV _ _ _ _ (Oper.mk _ (Op.call ⟨.value (.func 8), _, _⟩) _ _ _ _) _ _; exact ov_call Tryd.call8 rfl (by intro himp; first | rfl | (simp_all; done)) (by rfl) (fun _ _ h k => h.ext k) (fun hcg w hw => awake_ok hG hw.laid))) | ((show OpV _ _ _ _ (Oper.mk _ (Op.call ⟨.value (.func 18), _, _⟩) _ _ _ _) _ _; exact ov_call Tryd.call18 rfl (by intro himp; first | rfl | (simp_all; done)) (by rfl) (fun _ _ h k => h.ext k) (fun hcg w hw => hf hw.laid))) | fail) ?_) | refine wc_ret rfl ?_)
  refine wc_cond rfl (fun hc => ?_) (fun hc => ?_)
  · repeat' (first | refine wc_seq ?_ | refine wc_region ?_ | refine wl_nil ?_ | refine wn_seq ?_ | refine wn_blk ?_ | refine wc_skip ?_ | refine wc_block ?_ | refine wc_exit rfl ?_ | (show WL _ _ (_ :: _) _ _ _ _; first | refine yl_v rfl rfl rfl ?_ | refine wl_v rfl rfl rfl (by first  | fail) ?_) | refine wc_ret rfl ?_)
    exact wr_tmp rfl rfl rfl
  have hfew : fewB l = true := by simp at hc; exact hc.1
  have hsl : s.length ≤ 400 := by simp at hc; omega
  clear hc
  obtain ⟨f1, f2⟩ := fewB_small hfew
  have f3 : Small 1000000 l := fun p hp => ⟨Nat.le_trans (f1 p hp).1 (by decide), Nat.le_trans (f1 p hp).2 (by decide)⟩
  repeat' (first | refine wc_seq ?_ | refine wc_region ?_ | refine wl_nil ?_ | refine wn_seq ?_ | refine wn_blk ?_ | refine wc_skip ?_ | refine wc_block ?_ | refine wc_exit rfl ?_ | (show WL _ _ (_ :: _) _ _ _ _; first | refine yl_v rfl rfl rfl ?_ | refine wl_v rfl rfl rfl (by first  | fail) ?_) | refine wc_ret rfl ?_)
  refine wl_callS rfl Tryd.call19 rfl rfl rfl rfl (fun w hw => csent_ok hG hw.laid s (by omega)) ?_
  rintro _ H1 M1 hm1 hn1 ⟨rfl, sv1, rfl, hS1⟩
  repeat' (first | refine wc_seq ?_ | refine wc_region ?_ | refine wl_nil ?_ | refine wn_seq ?_ | refine wn_blk ?_ | refine wc_skip ?_ | refine wc_block ?_ | refine wc_exit rfl ?_ | (show WL _ _ (_ :: _) _ _ _ _; first | refine yl_v rfl rfl rfl ?_ | refine wl_v rfl rfl rfl (by first  | fail) ?_) | refine wc_ret rfl ?_)
  refine wl_callS rfl Tryd.call20 rfl rfl rfl rfl (fun w hw => rsent_ok hw.laid s (by omega)) ?_
  rintro _ H2 M2 hm2 hn2 ⟨rfl, sv2, rfl, hS2⟩
  have hv2 := (hv.mono hm1 (fun _ _ _ h => h)).mono hm2 (fun _ _ _ h => h)
  have hS1 := hS1.mono hm2 (fun _ _ _ h => h)
  have hpr := fun {w : World} (hw : Laid M2 w) => pairs_ok hw hS1 hS2
  rw [decide_eq_true rfl] at hpr
  have hl1 := fun {w : World} (hw : Laid M2 w) => cline_ok hw hv2 f3 f2
  have hl2 := fun {w : World} (hw : Laid M2 w) => rline_ok hw hv2 f3 f2
  generalize lineP l = ln at *
  repeat' (first | refine wc_seq ?_ | refine wc_region ?_ | refine wl_nil ?_ | refine wn_seq ?_ | refine wn_blk ?_ | refine wc_skip ?_ | refine wc_block ?_ | refine wc_exit rfl ?_ | (show WL _ _ (_ :: _) _ _ _ _; first | refine yl_v rfl rfl rfl ?_ | refine wl_v rfl rfl rfl (by first | ((show OpV _ _ _ _ (Oper.mk _ (Op.call ⟨.value (.func 15), _, _⟩) _ _ _ _) _ _; exact ov_call Tryd.call15 rfl (by intro himp; first | rfl | (simp_all; done)) (by rfl) (fun _ _ h k => h.ext k) (fun hcg w hw => hpr hw.laid))) | ((show OpV _ _ _ _ (Oper.mk _ (Op.call ⟨.value (.func 21), _, _⟩) _ _ _ _) _ _; exact ov_call Tryd.call21 rfl (by intro himp; first | rfl | (simp_all; done)) (by rfl) (fun _ _ h k => h.ext k) (fun hcg w hw => hl1 hw.laid))) | ((show OpV _ _ _ _ (Oper.mk _ (Op.call ⟨.value (.func 22), _, _⟩) _ _ _ _) _ _; exact ov_call Tryd.call22 rfl (by intro himp; first | rfl | (simp_all; done)) (by rfl) (fun _ _ h k => h.ext k) (fun hcg w hw => hl2 hw.laid))) | fail) ?_) | refine wc_ret rfl ?_)
  exact wr_tmp rfl rfl (congrArg Value.bool (by simp))
set_option maxHeartbeats 1000000 in
theorem cookieLines_ok (hG : Glob M) (hM : Laid M w) {v : Value} {l : List Pr} (hv : SlP M v l) : Calls Tryd.prog 6 #[v] w (RetE w (.bool true)) := by
  have hv0 := hv
  obtain ⟨a, cap, b, o, cs, T, fz, rfl, h1, h2, h3, h4⟩ := hv.open
  have hf := fun {w : World} (hw : Laid M w) => few_ok hw hv0
  refine calls_st (l := [.slice a l.length cap]) hM Tryd.func6 rfl rfl rfl (E0 := [(0, true, .slice a l.length cap)]) (params_cons rfl (params_nil _)) ?_
  repeat' (first | refine wc_seq ?_ | refine wc_region ?_ | refine wl_nil ?_ | refine wn_seq ?_ | refine wn_blk ?_ | refine wc_skip ?_ | refine wc_block ?_ | refine wc_exit rfl ?_ | (show WL _ _ (_ :: _) _ _ _ _; first | refine yl_v rfl rfl rfl ?_ | refine wl_v rfl rfl rfl (by first | ((show OpV _ _ _ _ (Oper.mk _ (Op.call ⟨.value (.func 8), _, _⟩) _ _ _ _) _ _; exact ov_call Tryd.call8 rfl (by intro himp; first | rfl | (simp_all; done)) (by rfl) (fun _ _ h k => h.ext k) (fun hcg w hw => awake_ok hG hw.laid))) | ((show OpV _ _ _ _ (Oper.mk _ (Op.call ⟨.value (.func 18), _, _⟩) _ _ _ _) _ _; exact ov_call Tryd.call18 rfl (by intro himp; first | rfl | (simp_all; done)) (by rfl) (fun _ _ h k => h.ext k) (fun hcg w hw => hf hw.laid))) | fail) ?_) | refine wc_ret rfl ?_)
  refine wc_cond rfl (fun hc => ?_) (fun hc => ?_)
  · repeat' (first | refine wc_seq ?_ | refine wc_region ?_ | refine wl_nil ?_ | refine wn_seq ?_ | refine wn_blk ?_ | refine wc_skip ?_ | refine wc_block ?_ | refine wc_exit rfl ?_ | (show WL _ _ (_ :: _) _ _ _ _; first | refine yl_v rfl rfl rfl ?_ | refine wl_v rfl rfl rfl (by first  | fail) ?_) | refine wc_ret rfl ?_)
    exact wr_tmp rfl rfl rfl
  have hfew : fewB l = true := by simpa using hc
  clear hc
  obtain ⟨f1, f2⟩ := fewB_small hfew
  have f3 : Small 1000000 l := fun p hp => ⟨Nat.le_trans (f1 p hp).1 (by decide), Nat.le_trans (f1 p hp).2 (by decide)⟩
  repeat' (first | refine wc_seq ?_ | refine wc_region ?_ | refine wl_nil ?_ | refine wn_seq ?_ | refine wn_blk ?_ | refine wc_skip ?_ | refine wc_block ?_ | refine wc_exit rfl ?_ | (show WL _ _ (_ :: _) _ _ _ _; first | refine yl_v rfl rfl rfl ?_ | refine wl_v rfl rfl rfl (by first  | fail) ?_) | refine wc_ret rfl ?_)
  refine wc_loop (α := { i : Nat // i ≤ l.length ∧ ∀ j, j < i → tokenB (l.getD j default).1 = true ∧ valueB (l.getD j default).2 = true }) (fun x => [(0, true, .slice a l.length cap), (3, true, .bool true), (5, true, i64 (x.1 : Int))]) (fun _ => St w [] [] M) (fun x => l.length - x.1) ⟨0, Nat.zero_le _, fun j hj => absurd hj (by omega)⟩ (by first | exact Sub.nil _ | (repeat (first | exact Sub.nil _ | refine Sub.cons (by first | rfl | (simp [look]; done)) ?_))) (fun _ h => h) ?_
  rintro ⟨i, hi, hall⟩
  dsimp only
  by_cases hlt : i < l.length
  · have hne : l ≠ [] := by rintro rfl; simp at hlt
    obtain ⟨rfl, hMb⟩ := h3 hne
    obtain ⟨c0, c1⟩ := h4 i hlt
    have e : l.getD i default = l[i] := by simp [hlt]
    have hml : (l.getD i default).1.length ≤ 60 ∧ (l.getD i default).2.length ≤ 60 := by rw [e]; exact f1 _ (List.getElem_mem _)
    have hnx : tokenB (l.getD i default).1 = true ∧ valueB (l.getD i default).2 = true → ∀ j, j < i + 1 → tokenB (l.getD j default).1 = true ∧ valueB (l.getD j default).2 = true := fun h j hj => by
      by_cases e : j = i
      · rw [e]; exact h
      · exact hall j (by omega)
    generalize l.getD i default = x at *
    have hto := fun {w : World} (hw : Laid M w) => rtoken_ok hw x.1 (by omega)
    have hva := fun {w : World} (hw : Laid M w) => rvalue_ok hw x.2 (by omega)
    repeat' (first | refine wc_seq ?_ | refine wc_region ?_ | refine wl_nil ?_ | refine wn_seq ?_ | refine wn_blk ?_ | refine wc_skip ?_ | refine wc_block ?_ | refine wc_exit rfl ?_ | (show WL _ _ (_ :: _) _ _ _ _; first | refine yl_v rfl rfl rfl ?_ | refine wl_v rfl rfl rfl (by first  | fail) ?_) | refine wc_ret rfl ?_)
    refine wc_cond rfl (fun hc => ?_) (fun hc => by exfalso; simp at hc; omega)
    clear hc
    repeat' (first | refine wc_seq ?_ | refine wc_region ?_ | refine wl_nil ?_ | refine wn_seq ?_ | refine wn_blk ?_ | refine wc_skip ?_ | refine wc_block ?_ | refine wc_exit rfl ?_ | (show WL _ _ (_ :: _) _ _ _ _; first | refine yl_v rfl rfl rfl ?_ | refine wl_v rfl rfl rfl (by first | (show OpV _ _ _ _ (Oper.mk _ (Op.indexAddr _ _ _) _ _ _ _) _ _; exact ov_indexAddr (i := i) (b := b) (o := o) rfl rfl rfl (by first | with_reducible exact fun _ => rfl | with_reducible exact fun h => h | exact fun _ => rfl | exact fun h => h | (intro himp; simp_all; done)) (by first | with_reducible exact fun _ => rfl | with_reducible exact fun h => h | exact fun _ => rfl | exact fun h => h | (intro himp; simp_all; done)) rfl (by first | exact (rfl : _ = some 1) | exact (rfl : _ = some 2) | exact (rfl : _ = some 3) | exact (rfl : _ = some 4) | exact (rfl : _ = some 6) | exact rfl) (fun _ => rfl) (by intro hcg; first | omega | (simp at hcg; omega))) | (show OpV _ _ _ _ (Oper.mk _ (Op.load _ _) _ _ _ _) _ _; first | exact ov_load1M rfl (by first | with_reducible exact fun _ => rfl | with_reducible exact fun h => h | exact fun _ => rfl | exact fun h => h | (intro himp; simp_all; done)) rfl rfl (fun _ => hMb) (fun _ => c0) | exact ov_load1M rfl (by first | with_reducible exact fun _ => rfl | with_reducible exact fun h => h | exact fun _ => rfl | exact fun h => h | (intro himp; simp_all; done)) rfl rfl (fun _ => hMb) (fun _ => c1)) | ((show OpV _ _ _ _ (Oper.mk _ (Op.call ⟨.value (.func 23), _, _⟩) _ _ _ _) _ _; exact ov_call Tryd.call23 rfl (by intro himp; first | rfl | (simp_all; done)) (by rfl) (fun _ _ h k => h.ext k) (fun hcg w hw => hto hw.laid))) | ((show OpV _ _ _ _ (Oper.mk _ (Op.call ⟨.value (.func 24), _, _⟩) _ _ _ _) _ _; exact ov_call Tryd.call24 rfl (by intro himp; first | rfl | (simp_all; done)) (by rfl) (fun _ _ h k => h.ext k) (fun hcg w hw => hva hw.laid))) | fail) ?_) | refine wc_ret rfl ?_)
    refine wc_cond rfl (fun hc => ?_) (fun hc => ?_)
    · repeat' (first | refine wc_seq ?_ | refine wc_region ?_ | refine wl_nil ?_ | refine wn_seq ?_ | refine wn_blk ?_ | refine wc_skip ?_ | refine wc_block ?_ | refine wc_exit rfl ?_ | (show WL _ _ (_ :: _) _ _ _ _; first | refine yl_v rfl rfl rfl ?_ | refine wl_v rfl rfl rfl (by first  | fail) ?_) | refine wc_ret rfl ?_)
      exact wr_tmp rfl rfl rfl
    · have hyes : tokenB x.1 = true ∧ valueB x.2 = true := by simp at hc; exact hc
      repeat' (first | refine wc_seq ?_ | refine wc_region ?_ | refine wl_nil ?_ | refine wn_seq ?_ | refine wn_blk ?_ | refine wc_skip ?_ | refine wc_block ?_ | refine wc_exit rfl ?_ | (show WL _ _ (_ :: _) _ _ _ _; first | refine yl_v rfl rfl rfl ?_ | refine wl_v rfl rfl rfl (by first  | fail) ?_) | refine wc_ret rfl ?_)
      exact wn_cut ⟨i + 1, by omega, hnx hyes⟩ (by show l.length - (i + 1) < l.length - i; omega) (by first | exact Sub.nil _ | (repeat (first | exact Sub.nil _ | refine Sub.cons (by first | rfl | (simp [look]; done)) ?_))) (fun _ h => h)
  have hgood : ∀ p ∈ l, tokenB p.1 = true ∧ valueB p.2 = true := fun p hp => by
    obtain ⟨j, hj, rfl⟩ := List.getElem_of_mem hp
    have := hall j (by omega)
    rwa [show l.getD j default = l[j] by simp [hj]] at this
  have hsent := sent_line hgood
  have hll := line_len f1
  have hmul : l.length * (2 * 60 + 3) ≤ 50 * 123 := Nat.mul_le_mul f2 (by decide)
  have hli := fun {w : World} (hw : Laid M w) => cline_ok hw hv0 f3 f2
  repeat' (first | refine wc_seq ?_ | refine wc_region ?_ | refine wl_nil ?_ | refine wn_seq ?_ | refine wn_blk ?_ | refine wc_skip ?_ | refine wc_block ?_ | refine wc_exit rfl ?_ | (show WL _ _ (_ :: _) _ _ _ _; first | refine yl_v rfl rfl rfl ?_ | refine wl_v rfl rfl rfl (by first  | fail) ?_) | refine wc_ret rfl ?_)
  refine wc_cond rfl (fun hc => by exfalso; simp at hc; omega) (fun hc => ?_)
  clear hc
  repeat' (first | refine wc_seq ?_ | refine wc_region ?_ | refine wl_nil ?_ | refine wn_seq ?_ | refine wn_blk ?_ | refine wc_skip ?_ | refine wc_block ?_ | refine wc_exit rfl ?_ | (show WL _ _ (_ :: _) _ _ _ _; first | refine yl_v rfl rfl rfl ?_ | refine wl_v rfl rfl rfl (by first | ((show OpV _ _ _ _ (Oper.mk _ (Op.call ⟨.value (.func 21), _, _⟩) _ _ _ _) _ _; exact ov_call Tryd.call21 rfl (by intro himp; first | rfl | (simp_all; done)) (by rfl) (fun _ _ h k => h.ext k) (fun hcg w hw => hli hw.laid))) | fail) ?_) | refine wc_ret rfl ?_)
  refine wl_callS rfl Tryd.call19 rfl rfl rfl rfl (fun w hw => csent_ok hG hw.laid (lineP l) (by omega)) ?_
  rintro _ H1 M1 hm1 hn1 ⟨rfl, sv1, rfl, hS1⟩
  have hv1 := hv0.mono hm1 (fun _ _ _ h => h)
  rw [hsent] at hS1 ⊢
  by_cases h20 : l.length ≤ 20
  · rw [if_pos h20] at hS1 ⊢
    have hpr := fun {w : World} (hw : Laid M1 w) => pairs_ok hw hv1 hS1
    rw [decide_eq_true rfl] at hpr
    repeat' (first | refine wc_seq ?_ | refine wc_region ?_ | refine wl_nil ?_ | refine wn_seq ?_ | refine wn_blk ?_ | refine wc_skip ?_ | refine wc_block ?_ | refine wc_exit rfl ?_ | (show WL _ _ (_ :: _) _ _ _ _; first | refine yl_v rfl rfl rfl ?_ | refine wl_v rfl rfl rfl (by first  | fail) ?_) | refine wc_ret rfl ?_)
    refine wc_cond rfl (fun hc => by exfalso; simp at hc; omega) (fun hc => ?_)
    repeat' (first | refine wc_seq ?_ | refine wc_region ?_ | refine wl_nil ?_ | refine wn_seq ?_ | refine wn_blk ?_ | refine wc_skip ?_ | refine wc_block ?_ | refine wc_exit rfl ?_ | (show WL _ _ (_ :: _) _ _ _ _; first | refine yl_v rfl rfl rfl ?_ | refine wl_v rfl rfl rfl (by first | ((show OpV _ _ _ _ (Oper.mk _ (Op.call ⟨.value (.func 15), _, _⟩) _ _ _ _) _ _; exact ov_call Tryd.call15 rfl (by intro himp; first | rfl | (simp_all; done)) (by rfl) (fun _ _ h k => h.ext k) (fun hcg w hw => hpr hw.laid))) | fail) ?_) | refine wc_ret rfl ?_)
    exact wr_tmp rfl rfl rfl
  · rw [if_neg h20] at hS1 ⊢
    obtain ⟨a1, c1, _, _, _, _, _, rfl, _⟩ := hS1.open
    repeat' (first | refine wc_seq ?_ | refine wc_region ?_ | refine wl_nil ?_ | refine wn_seq ?_ | refine wn_blk ?_ | refine wc_skip ?_ | refine wc_block ?_ | refine wc_exit rfl ?_ | (show WL _ _ (_ :: _) _ _ _ _; first | refine yl_v rfl rfl rfl ?_ | refine wl_v rfl rfl rfl (by first  | fail) ?_) | refine wc_ret rfl ?_)
    refine wc_cond rfl (fun hc => ?_) (fun hc => by exfalso; simp at hc; omega)
    repeat' (first | refine wc_seq ?_ | refine wc_region ?_ | refine wl_nil ?_ | refine wn_seq ?_ | refine wn_blk ?_ | refine wc_skip ?_ | refine wc_block ?_ | refine wc_exit rfl ?_ | (show WL _ _ (_ :: _) _ _ _ _; first | refine yl_v rfl rfl rfl ?_ | refine wl_v rfl rfl rfl (by first  | fail) ?_) | refine wc_ret rfl ?_)
    exact wr_tmp rfl rfl rfl
end Go.Proofs.YtmfelfhingmmbaaDoor
/-
  The statements CookieBack, CookieJars.
-/
namespace Go.Ck
open Go.Pct Go.Txt Go.Proofs.YtmfelfhingmmbaaDoor
theorem putP_len {J : List Ckie} (c : Ckie) (h : J.length ≤ 20) : (putP J c).1.length ≤ 20 := by
  unfold putP
  split
  · split
    · exact h
    · show (laidC J c).length ≤ 20; omega
  · exact h
theorem putP_mem {J : List Ckie} {c x : Ckie} (h : x ∈ (putP J c).1) : x ∈ J ∨ x = c := by
  unfold putP at h
  split at h
  · split at h
    · exact .inl h
    · have h : x ∈ laidC J c := h
      unfold laidC at h
      rcases List.mem_append.1 h with h | h
      · exact .inl (List.mem_filter.1 h).1
      · split at h
        · cases h
        · rw [List.mem_singleton] at h; exact .inr h
  · exact .inl h
end Go.Ck
namespace Go.Proofs.YtmfelfhingmmbaaDoor
open Go.Eng Go.Pct Go.Txt Go.Ck
open Go.Rsp (tokC tokenB)
set_option maxRecDepth 10000
set_option linter.unusedSimpArgs false
set_option linter.unusedVariables false
variable {M : Ghost} {w0 w : World} {bs : List Nat} {H : List (Nat × Obj)}
theorem set_len60 {c : Ckie} (h : fewC c = true) (hr : rightC c = true) : (setC c).length ≤ 400 := by
  obtain ⟨h1, h2, h3⟩ := fewC_sm h
  have h4 := ageT_len c.age (right_parts hr).2.2.2.2.2
  have h5 : (secT c.secure).length ≤ 8 := by cases c.secure <;> decide
  have h6 : (hoT c.http).length ≤ 10 := by cases c.http <;> decide
  have e : sPath.length = 7 := rfl
  unfold setC
  simp only [List.length_append, List.length_cons]
  omega
theorem set_big (c : Ckie) : c.name.length ≤ (setC c).length ∧ c.value.length ≤ (setC c).length ∧ c.path.length ≤ (setC c).length := by
  unfold setC
  simp only [List.length_append, List.length_cons]
  omega
def zC : Ckie := ⟨[], [], [], 0, false, false⟩
theorem resCk_some (c : Ckie) : resCk (some c) = .tuple #[.agg [str c.name, str c.value, str c.path, i64 c.age, .bool c.secure, .bool c.http].toArray, i64 0] := rfl
theorem resCk_none : resCk none = .tuple #[.agg [str [], str [], str [], i64 0, .bool false, .bool false].toArray, i64 10] := rfl
theorem read_nil : readP [] = none := by decide +kernel
theorem zC_set : setP zC = ([], 1) := by decide +kernel
set_option maxHeartbeats 2000000 in
theorem cookieBack_ok (hE : GlobE M) (hM : Laid M w) (c : Ckie) (s : List UInt8) (hc : SmC c) (hs : s.length ≤ 9223372036854775807) : Calls Tryd.prog 7 #[.agg (ckCells c).toArray, str s] w (RetE w (.bool true)) := by
  have hG := hE.glob
  have hck : ckCells c = [str c.name, str c.value, str c.path, i64 c.age, .bool c.secure, .bool c.http] := rfl
  have hf := fun {w : World} (hw : Laid M w) => fewC_ok hw c
  have hri := fun {w : World} (hw : Laid M w) => cright_ok hw c hc
  rw [hck] at hf hri ⊢
  refine calls_st (l := [.agg [str c.name, str c.value, str c.path, i64 c.age, .bool c.secure, .bool c.http].toArray, str s]) hM Tryd.func7 rfl rfl rfl (E0 := [(0, true, .agg [str c.name, str c.value, str c.path, i64 c.age, .bool c.secure, .bool c.http].toArray), (1, true, str s)]) (params_cons rfl (params_cons rfl (params_nil _))) ?_
  repeat' (first | refine wc_seq ?_ | refine wc_region ?_ | refine wl_nil ?_ | refine wn_seq ?_ | refine wn_blk ?_ | refine wc_skip ?_ | refine wc_block ?_ | refine wc_exit rfl ?_ | (show WL _ _ (_ :: _) _ _ _ _; first | refine yl_v rfl rfl rfl ?_ | refine wl_v rfl rfl rfl (by first | ((show OpV _ _ _ _ (Oper.mk _ (Op.call ⟨.value (.func 8), _, _⟩) _ _ _ _) _ _; exact ov_call Tryd.call8 rfl (by intro himp; first | rfl | (simp_all; done)) (by rfl) (fun _ _ h k => h.ext k) (fun hcg w hw => awake_ok hG hw.laid))) | ((show OpV _ _ _ _ (Oper.mk _ (Op.call ⟨.value (.func 10), _, _⟩) _ _ _ _) _ _; exact ov_call Tryd.call10 rfl (by intro himp; first | rfl | (simp_all; done)) (by rfl) (fun _ _ h k => h.ext k) (fun hcg w hw => hf hw.laid))) | fail) ?_ | refine xl_alloc (fun _ => ?_) | refine xl_box rfl (fun _ => ?_) | refine xl_store rfl rfl ?_) | refine wc_ret rfl ?_)
  rename_i b2
  refine wc_cond rfl (fun hc => ?_) (fun hc => ?_)
  · repeat' (first | refine wc_seq ?_ | refine wc_region ?_ | refine wl_nil ?_ | refine wn_seq ?_ | refine wn_blk ?_ | refine wc_skip ?_ | refine wc_block ?_ | refine wc_exit rfl ?_ | (show WL _ _ (_ :: _) _ _ _ _; first | refine yl_v rfl rfl rfl ?_ | refine wl_v rfl rfl rfl (by first  | fail) ?_ | refine xl_alloc (fun _ => ?_) | refine xl_box rfl (fun _ => ?_) | refine xl_store rfl rfl ?_) | refine wc_ret rfl ?_)
    exact wr_weak (fun _ h => h.drop (List.nil_sublist _)) (wr_tmp rfl rfl rfl)
  have hfew : fewC c = true := by simp at hc; exact hc.1
  have hsl : s.length ≤ 400 := by simp at hc; omega
  clear hc
  obtain ⟨g1, g2, g3⟩ := fewC_sm hfew
  have hset := fun {w : World} (hw : Laid M w) => cset_ok hG hw c ⟨by omega, by omega, by omega⟩
  rw [hck] at hset
  -- what a text's reading comes to, from there on
  have hend : ∀ (M1 : Ghost) (E : Env) (n : Nat), True := fun _ _ _ => trivial
  cases hr : rightC c with
  | true =>
    rw [hr] at hri
    have hst : setP c = (setC c, 0) := by unfold setP; rw [if_pos hr]
    rw [hst] at hset
    repeat' (first | refine wc_seq ?_ | refine wc_region ?_ | refine wl_nil ?_ | refine wn_seq ?_ | refine wn_blk ?_ | refine wc_skip ?_ | refine wc_block ?_ | refine wc_exit rfl ?_ | (show WL _ _ (_ :: _) _ _ _ _; first | refine yl_v rfl rfl rfl ?_ | refine wl_v rfl rfl rfl (by first | ((show OpV _ _ _ _ (Oper.mk _ (Op.call ⟨.value (.func 25), _, _⟩) _ _ _ _) _ _; exact ov_call Tryd.call25 rfl (by intro himp; first | rfl | (simp_all; done)) (by rfl) (fun _ _ h k => h.ext k) (fun hcg w hw => hri hw.laid))) | ((show OpV _ _ _ _ (Oper.mk _ (Op.call ⟨.value (.func 26), _, _⟩) _ _ _ _) _ _; exact ov_call Tryd.call26 rfl (by intro himp; first | rfl | (simp_all; done)) (by rfl) (fun _ _ h k => h.ext k) (fun hcg w hw => hset hw.laid))) | fail) ?_ | refine xl_alloc (fun _ => ?_) | refine xl_box rfl (fun _ => ?_) | refine xl_store rfl rfl ?_) | refine wc_ret rfl ?_)
    refine wl_callS rfl Tryd.call27 rfl rfl rfl rfl (fun w hw => cread_ok hE hw.laid (setC c) (by have := set_len60 hfew hr; omega)) ?_
    rintro _ H1 M1 hm1 hn1 ⟨rfl, rfl⟩
    have hE1 := hE.mono hm1
    rw [set_read hr, resCk_some]
    repeat' (first | refine wc_seq ?_ | refine wc_region ?_ | refine wl_nil ?_ | refine wn_seq ?_ | refine wn_blk ?_ | refine wc_skip ?_ | refine wc_block ?_ | refine wc_exit rfl ?_ | (show WL _ _ (_ :: _) _ _ _ _; first | refine yl_v rfl rfl rfl ?_ | refine wl_v rfl rfl rfl (by first  | fail) ?_ | refine xl_alloc (fun _ => ?_) | refine xl_box rfl (fun _ => ?_) | refine xl_store rfl rfl ?_) | refine wc_ret rfl ?_)
    refine wc_cond rfl (fun hc => by exfalso; simp at hc) (fun hc => ?_)
    clear hc
    repeat' (first | refine wc_seq ?_ | refine wc_region ?_ | refine wl_nil ?_ | refine wn_seq ?_ | refine wn_blk ?_ | refine wc_skip ?_ | refine wc_block ?_ | refine wc_exit rfl ?_ | (show WL _ _ (_ :: _) _ _ _ _; first | refine yl_v rfl rfl rfl ?_ | refine wl_v rfl rfl rfl (by first  | fail) ?_ | refine xl_alloc (fun _ => ?_) | refine xl_box rfl (fun _ => ?_) | refine xl_store rfl rfl ?_) | refine wc_ret rfl ?_)
    refine wl_callS rfl Tryd.call27 rfl rfl rfl rfl (fun w hw => cread_ok hE1 hw.laid s (by omega)) ?_
    rintro _ H2 M2 hm2 hn2 ⟨rfl, rfl⟩
    have hE2 := hE1.mono hm2
    cases ho : readP s with
    | none =>
      have hz := fun {w : World} (hw : Laid M2 w) => cset_ok hE2.glob hw zC ⟨by decide, by decide, by decide⟩
      rw [zC_set] at hz
      rw [resCk_none]
      repeat' (first | refine wc_seq ?_ | refine wc_region ?_ | refine wl_nil ?_ | refine wn_seq ?_ | refine wn_blk ?_ | refine wc_skip ?_ | refine wc_block ?_ | refine wc_exit rfl ?_ | (show WL _ _ (_ :: _) _ _ _ _; first | refine yl_v rfl rfl rfl ?_ | refine wl_v rfl rfl rfl (by first | ((show OpV _ _ _ _ (Oper.mk _ (Op.call ⟨.value (.func 26), _, _⟩) _ _ _ _) _ _; exact ov_call Tryd.call26 rfl (by intro himp; first | rfl | (simp_all; done)) (by rfl) (fun _ _ h k => h.ext k) (fun hcg w hw => hz hw.laid))) | fail) ?_ | refine xl_alloc (fun _ => ?_) | refine xl_box rfl (fun _ => ?_) | refine xl_store rfl rfl ?_) | refine wc_ret rfl ?_)
      exact wr_weak (fun _ h => h.drop (List.nil_sublist _)) (wr_tmp rfl rfl (congrArg Value.bool (by simp)))
    | some x =>
      obtain ⟨q1, q2⟩ := read_set ho
      have hb := set_big x
      rw [q2] at hb
      have hz := fun {w : World} (hw : Laid M2 w) => cset_ok hE2.glob hw x ⟨by omega, by omega, by omega⟩
      have hst2 : setP x = (s, 0) := by unfold setP; rw [if_pos q1, q2]
      rw [hst2, show ckCells x = [str x.name, str x.value, str x.path, i64 x.age, .bool x.secure, .bool x.http] from rfl] at hz
      rw [resCk_some]
      repeat' (first | refine wc_seq ?_ | refine wc_region ?_ | refine wl_nil ?_ | refine wn_seq ?_ | refine wn_blk ?_ | refine wc_skip ?_ | refine wc_block ?_ | refine wc_exit rfl ?_ | (show WL _ _ (_ :: _) _ _ _ _; first | refine yl_v rfl rfl rfl ?_ | refine wl_v rfl rfl rfl (by first | ((show OpV _ _ _ _ (Oper.mk _ (Op.call ⟨.value (.func 26), _, _⟩) _ _ _ _) _ _; exact ov_call Tryd.call26 rfl (by intro himp; first | rfl | (simp_all; done)) (by rfl) (fun _ _ h k => h.ext k) (fun hcg w hw => hz hw.laid))) | fail) ?_ | refine xl_alloc (fun _ => ?_) | refine xl_box rfl (fun _ => ?_) | refine xl_store rfl rfl ?_) | refine wc_ret rfl ?_)
      exact wr_weak (fun _ h => h.drop (List.nil_sublist _)) (wr_tmp rfl rfl (congrArg Value.bool (by simp)))
  | false =>
    rw [hr] at hri
    have hst : setP c = ([], 1) := by unfold setP; rw [if_neg (by rw [hr]; decide)]
    rw [hst] at hset
    repeat' (first | refine wc_seq ?_ | refine wc_region ?_ | refine wl_nil ?_ | refine wn_seq ?_ | refine wn_blk ?_ | refine wc_skip ?_ | refine wc_block ?_ | refine wc_exit rfl ?_ | (show WL _ _ (_ :: _) _ _ _ _; first | refine yl_v rfl rfl rfl ?_ | refine wl_v rfl rfl rfl (by first | ((show OpV _ _ _ _ (Oper.mk _ (Op.call ⟨.value (.func 25), _, _⟩) _ _ _ _) _ _; exact ov_call Tryd.call25 rfl (by intro himp; first | rfl | (simp_all; done)) (by rfl) (fun _ _ h k => h.ext k) (fun hcg w hw => hri hw.laid))) | ((show OpV _ _ _ _ (Oper.mk _ (Op.call ⟨.value (.func 26), _, _⟩) _ _ _ _) _ _; exact ov_call Tryd.call26 rfl (by intro himp; first | rfl | (simp_all; done)) (by rfl) (fun _ _ h k => h.ext k) (fun hcg w hw => hset hw.laid))) | fail) ?_ | refine xl_alloc (fun _ => ?_) | refine xl_box rfl (fun _ => ?_) | refine xl_store rfl rfl ?_) | refine wc_ret rfl ?_)
    refine wl_callS rfl Tryd.call27 rfl rfl rfl rfl (fun w hw => cread_ok hE hw.laid [] (by decide)) ?_
    rintro _ H1 M1 hm1 hn1 ⟨rfl, rfl⟩
    have hE1 := hE.mono hm1
    rw [read_nil, resCk_none]
    repeat' (first | refine wc_seq ?_ | refine wc_region ?_ | refine wl_nil ?_ | refine wn_seq ?_ | refine wn_blk ?_ | refine wc_skip ?_ | refine wc_block ?_ | refine wc_exit rfl ?_ | (show WL _ _ (_ :: _) _ _ _ _; first | refine yl_v rfl rfl rfl ?_ | refine wl_v rfl rfl rfl (by first  | fail) ?_ | refine xl_alloc (fun _ => ?_) | refine xl_box rfl (fun _ => ?_) | refine xl_store rfl rfl ?_) | refine wc_ret rfl ?_)
    refine wc_cond rfl (fun hc => by exfalso; simp at hc) (fun hc => ?_)
    clear hc
    repeat' (first | refine wc_seq ?_ | refine wc_region ?_ | refine wl_nil ?_ | refine wn_seq ?_ | refine wn_blk ?_ | refine wc_skip ?_ | refine wc_block ?_ | refine wc_exit rfl ?_ | (show WL _ _ (_ :: _) _ _ _ _; first | refine yl_v rfl rfl rfl ?_ | refine wl_v rfl rfl rfl (by first  | fail) ?_ | refine xl_alloc (fun _ => ?_) | refine xl_box rfl (fun _ => ?_) | refine xl_store rfl rfl ?_) | refine wc_ret rfl ?_)
    refine wl_callS rfl Tryd.call27 rfl rfl rfl rfl (fun w hw => cread_ok hE1 hw.laid s (by omega)) ?_
    rintro _ H2 M2 hm2 hn2 ⟨rfl, rfl⟩
    have hE2 := hE1.mono hm2
    cases ho : readP s with
    | none =>
      have hz := fun {w : World} (hw : Laid M2 w) => cset_ok hE2.glob hw zC ⟨by decide, by decide, by decide⟩
      rw [zC_set] at hz
      rw [resCk_none]
      repeat' (first | refine wc_seq ?_ | refine wc_region ?_ | refine wl_nil ?_ | refine wn_seq ?_ | refine wn_blk ?_ | refine wc_skip ?_ | refine wc_block ?_ | refine wc_exit rfl ?_ | (show WL _ _ (_ :: _) _ _ _ _; first | refine yl_v rfl rfl rfl ?_ | refine wl_v rfl rfl rfl (by first | ((show OpV _ _ _ _ (Oper.mk _ (Op.call ⟨.value (.func 26), _, _⟩) _ _ _ _) _ _; exact ov_call Tryd.call26 rfl (by intro himp; first | rfl | (simp_all; done)) (by rfl) (fun _ _ h k => h.ext k) (fun hcg w hw => hz hw.laid))) | fail) ?_ | refine xl_alloc (fun _ => ?_) | refine xl_box rfl (fun _ => ?_) | refine xl_store rfl rfl ?_) | refine wc_ret rfl ?_)
      exact wr_weak (fun _ h => h.drop (List.nil_sublist _)) (wr_tmp rfl rfl (congrArg Value.bool (by simp)))
    | some x =>
      obtain ⟨q1, q2⟩ := read_set ho
      have hb := set_big x
      rw [q2] at hb
      have hz := fun {w : World} (hw : Laid M2 w) => cset_ok hE2.glob hw x ⟨by omega, by omega, by omega⟩
      have hst2 : setP x = (s, 0) := by unfold setP; rw [if_pos q1, q2]
      rw [hst2, show ckCells x = [str x.name, str x.value, str x.path, i64 x.age, .bool x.secure, .bool x.http] from rfl] at hz
      rw [resCk_some]
      repeat' (first | refine wc_seq ?_ | refine wc_region ?_ | refine wl_nil ?_ | refine wn_seq ?_ | refine wn_blk ?_ | refine wc_skip ?_ | refine wc_block ?_ | refine wc_exit rfl ?_ | (show WL _ _ (_ :: _) _ _ _ _; first | refine yl_v rfl rfl rfl ?_ | refine wl_v rfl rfl rfl (by first | ((show OpV _ _ _ _ (Oper.mk _ (Op.call ⟨.value (.func 26), _, _⟩) _ _ _ _) _ _; exact ov_call Tryd.call26 rfl (by intro himp; first | rfl | (simp_all; done)) (by rfl) (fun _ _ h k => h.ext k) (fun hcg w hw => hz hw.laid))) | fail) ?_ | refine xl_alloc (fun _ => ?_) | refine xl_box rfl (fun _ => ?_) | refine xl_store rfl rfl ?_) | refine wc_ret rfl ?_)
      exact wr_weak (fun _ h => h.drop (List.nil_sublist _)) (wr_tmp rfl rfl (congrArg Value.bool (by simp)))
structure JS (w : World) (M : Ghost) (n : Nat) where
  i : Nat
  J : List Ckie
  jv : Value
  wv : Value
  M' : Ghost
  hi : i ≤ n
  hs : Since w M M'
  hJ : SlC M' jv J
  hW : SlC M' wv J
  hl : J.length ≤ 20
  hm : ∀ c ∈ J, SmC c
set_option maxHeartbeats 2000000 in
theorem cookieJars_ok (hG : Glob M) (hM : Laid M w) {v : Value} {l : List Ckie} (hv : SlC M v l) (path : List UInt8) (secure : Bool) (hp : path.length ≤ 9223372036854775807) : Calls Tryd.prog 3 #[v, str path, .bool secure] w (RetE w (.bool true)) := by
  obtain ⟨a, cap, b, o, cs, T, fz, rfl, h1, h2, h3, h4⟩ := hv.open
  refine calls_st (l := [.slice a l.length cap, str path, .bool secure]) hM Tryd.func3 rfl rfl rfl (E0 := [(0, true, .slice a l.length cap), (1, true, str path), (2, true, .bool secure)]) (params_cons rfl (params_cons rfl (params_cons rfl (params_nil _)))) ?_
  repeat' (first | refine wc_seq ?_ | refine wc_region ?_ | refine wl_nil ?_ | refine wn_seq ?_ | refine wn_blk ?_ | refine wc_skip ?_ | refine wc_block ?_ | refine wc_exit rfl ?_ | (show WL _ _ (_ :: _) _ _ _ _; first | refine yl_v rfl rfl rfl ?_ | refine wl_v rfl rfl rfl (by first | ((show OpV _ _ _ _ (Oper.mk _ (Op.call ⟨.value (.func 8), _, _⟩) _ _ _ _) _ _; exact ov_call Tryd.call8 rfl (by intro himp; first | rfl | (simp_all; done)) (by rfl) (fun _ _ h k => h.ext k) (fun hcg w hw => awake_ok hG hw.laid))) | fail) ?_) | refine wc_ret rfl ?_)
  refine wl_callS rfl Tryd.call9 rfl rfl rfl rfl (fun w hw => new_ok hw.laid) ?_
  rintro _ H2 M2 hm2 hn2 ⟨bj, rfl, rfl⟩
  repeat' (first | refine wc_seq ?_ | refine wc_region ?_ | refine wl_nil ?_ | refine wn_seq ?_ | refine wn_blk ?_ | refine wc_skip ?_ | refine wc_block ?_ | refine wc_exit rfl ?_ | (show WL _ _ (_ :: _) _ _ _ _; first | refine yl_v rfl rfl rfl ?_ | refine wl_v rfl rfl rfl (by first | (show OpV _ _ _ _ (Oper.mk _ (Op.binOp BinOp.eql _ _ _ _) _ _ _ _) _ _; exact ov_eqPtr rfl rfl (by first | with_reducible exact fun _ => rfl | with_reducible exact fun h => h | exact fun _ => rfl | exact fun h => h | (intro himp; simp_all; done)) (by first | with_reducible exact fun _ => rfl | with_reducible exact fun h => h | exact fun _ => rfl | exact fun h => h | (intro himp; simp_all; done)) rfl) | fail) ?_) | refine wc_ret rfl ?_)
  refine wc_cond rfl (fun hc => ?_) (fun hc => ?_)
  · repeat' (first | refine wc_seq ?_ | refine wc_region ?_ | refine wl_nil ?_ | refine wn_seq ?_ | refine wn_blk ?_ | refine wc_skip ?_ | refine wc_block ?_ | refine wc_exit rfl ?_ | (show WL _ _ (_ :: _) _ _ _ _; first | refine yl_v rfl rfl rfl ?_ | refine wl_v rfl rfl rfl (by first | (show OpV _ _ _ _ (Oper.mk _ (Op.binOp BinOp.neq _ _ _ _) _ _ _ _) _ _; exact ov_neqPtr rfl rfl (by first | with_reducible exact fun _ => rfl | with_reducible exact fun h => h | exact fun _ => rfl | exact fun h => h | (intro himp; simp_all; done)) (by first | with_reducible exact fun _ => rfl | with_reducible exact fun h => h | exact fun _ => rfl | exact fun h => h | (intro himp; simp_all; done)) rfl) | fail) ?_) | refine wc_ret rfl ?_)
    exact wr_weak (fun _ h => h.drop (List.nil_sublist _)) (wr_tmp rfl rfl rfl)
  have hll : l.length ≤ 50 := by simp at hc; omega
  clear hc
  repeat' (first | refine wc_seq ?_ | refine wc_region ?_ | refine wl_nil ?_ | refine wn_seq ?_ | refine wn_blk ?_ | refine wc_skip ?_ | refine wc_block ?_ | refine wc_exit rfl ?_ | (show WL _ _ (_ :: _) _ _ _ _; first | refine yl_v rfl rfl rfl ?_ | refine wl_v rfl rfl rfl (by first  | fail) ?_) | refine wc_ret rfl ?_)
  refine wc_loop (α := JS w M2 l.length) (fun x => [(0, true, .slice a l.length cap), (1, true, str path), (2, true, .bool secure), (7, true, .bool true), (8, true, .pointer (some ⟨bj, 0, none⟩)), (9, true, x.wv), (10, true, i64 (x.i : Int))]) (fun x => St w [] [(bj, jarO x.jv)] x.M') (fun x => l.length - x.i) ⟨0, [], .slice none 0 0, .slice none 0 0, M2, Nat.zero_le _, Since.refl, sl_nil, sl_nil, by simp, by simp⟩ (by first | exact Sub.nil _ | (repeat (first | exact Sub.nil _ | refine Sub.cons (by first | rfl | (simp [look]; done)) ?_))) (fun _ h => h) ?_
  rintro ⟨i, J, jv, wv, M3, hi, hs3, hJ, hW, hJl, hJm⟩
  dsimp only
  by_cases hlt : i < l.length
  · have hne : l ≠ [] := by rintro rfl; simp at hlt
    obtain ⟨rfl, hMb⟩ := h3 hne
    have hMb3 := hs3.1 _ _ (hm2 _ _ hMb)
    have hcell := h4 i hlt
    generalize l.getD i default = c at *
    have hcell2 : ∀ k, k < [str c.name, str c.value, str c.path, i64 c.age, .bool c.secure, .bool c.http].length → cs[o + i * 6 + k]? = [str c.name, str c.value, str c.path, i64 c.age, .bool c.secure, .bool c.http][k]? := hcell
    clear hcell
    have hf := fun {w : World} (hw : Laid M3 w) => fewC_ok hw c
    rw [show ckCells c = [str c.name, str c.value, str c.path, i64 c.age, .bool c.secure, .bool c.http] from rfl] at hf
    repeat' (first | refine wc_seq ?_ | refine wc_region ?_ | refine wl_nil ?_ | refine wn_seq ?_ | refine wn_blk ?_ | refine wc_skip ?_ | refine wc_block ?_ | refine wc_exit rfl ?_ | (show WL _ _ (_ :: _) _ _ _ _; first | refine yl_v rfl rfl rfl ?_ | refine wl_v rfl rfl rfl (by first  | fail) ?_) | refine wc_ret rfl ?_)
    refine wc_cond rfl (fun hc => ?_) (fun hc => by exfalso; simp at hc; omega)
    clear hc
    repeat' (first | refine wc_seq ?_ | refine wc_region ?_ | refine wl_nil ?_ | refine wn_seq ?_ | refine wn_blk ?_ | refine wc_skip ?_ | refine wc_block ?_ | refine wc_exit rfl ?_ | (show WL _ _ (_ :: _) _ _ _ _; first | refine yl_v rfl rfl rfl ?_ | refine wl_v rfl rfl rfl (by first | (show OpV _ _ _ _ (Oper.mk _ (Op.indexAddr _ _ _) _ _ _ _) _ _; exact ov_indexAddr (i := i) (b := b) (o := o) rfl rfl rfl (by first | with_reducible exact fun _ => rfl | with_reducible exact fun h => h | exact fun _ => rfl | exact fun h => h | (intro himp; simp_all; done)) (by first | with_reducible exact fun _ => rfl | with_reducible exact fun h => h | exact fun _ => rfl | exact fun h => h | (intro himp; simp_all; done)) rfl (by first | exact (rfl : _ = some 1) | exact (rfl : _ = some 2) | exact (rfl : _ = some 3) | exact (rfl : _ = some 4) | exact (rfl : _ = some 6) | exact rfl) (fun _ => rfl) (by intro hcg; first | omega | (simp at hcg; omega))) | (show OpV _ _ _ _ (Oper.mk _ (Op.load _ _) _ _ _ _) _ _; exact ov_loadSM rfl (by first | with_reducible exact fun _ => rfl | with_reducible exact fun h => h | exact fun _ => rfl | exact fun h => h | (intro himp; simp_all; done)) rfl (by rfl) (fun _ => hMb3) (fun _ => hcell2)) | ((show OpV _ _ _ _ (Oper.mk _ (Op.call ⟨.value (.func 10), _, _⟩) _ _ _ _) _ _; exact ov_call Tryd.call10 rfl (by intro himp; first | rfl | (simp_all; done)) (by rfl) (fun _ _ h k => h.ext k) (fun hcg w hw => hf hw.laid))) | fail) ?_) | refine wc_ret rfl ?_)
    refine wc_cond rfl (fun hc => ?_) (fun hc => ?_)
    · repeat' (first | refine wc_seq ?_ | refine wc_region ?_ | refine wl_nil ?_ | refine wn_seq ?_ | refine wn_blk ?_ | refine wc_skip ?_ | refine wc_block ?_ | refine wc_exit rfl ?_ | (show WL _ _ (_ :: _) _ _ _ _; first | refine yl_v rfl rfl rfl ?_ | refine wl_v rfl rfl rfl (by first  | fail) ?_) | refine wc_ret rfl ?_)
      exact wr_weak (fun _ h => h.drop (List.nil_sublist _)) (wr_tmp rfl rfl rfl)
    have hfew : fewC c = true := by simpa using hc
    clear hc
    obtain ⟨g1, g2, g3⟩ := fewC_sm hfew
    have hsm : SmC c := ⟨by omega, by omega, by omega⟩
    repeat' (first | refine wc_seq ?_ | refine wc_region ?_ | refine wl_nil ?_ | refine wn_seq ?_ | refine wn_blk ?_ | refine wc_skip ?_ | refine wc_block ?_ | refine wc_exit rfl ?_ | (show WL _ _ (_ :: _) _ _ _ _; first | refine yl_v rfl rfl rfl ?_ | refine wl_v rfl rfl rfl (by first | (show OpV _ _ _ _ (Oper.mk _ (Op.indexAddr _ _ _) _ _ _ _) _ _; exact ov_indexAddr (i := i) (b := b) (o := o) rfl rfl rfl (by first | with_reducible exact fun _ => rfl | with_reducible exact fun h => h | exact fun _ => rfl | exact fun h => h | (intro himp; simp_all; done)) (by first | with_reducible exact fun _ => rfl | with_reducible exact fun h => h | exact fun _ => rfl | exact fun h => h | (intro himp; simp_all; done)) rfl (by first | exact (rfl : _ = some 1) | exact (rfl : _ = some 2) | exact (rfl : _ = some 3) | exact (rfl : _ = some 4) | exact (rfl : _ = some 6) | exact rfl) (fun _ => rfl) (by intro hcg; first | omega | (simp at hcg; omega))) | (show OpV _ _ _ _ (Oper.mk _ (Op.load _ _) _ _ _ _) _ _; exact ov_loadSM rfl (by first | with_reducible exact fun _ => rfl | with_reducible exact fun h => h | exact fun _ => rfl | exact fun h => h | (intro himp; simp_all; done)) rfl (by rfl) (fun _ => hMb3) (fun _ => hcell2)) | fail) ?_) | refine wc_ret rfl ?_)
    refine wl_callY (b := bj) (H := []) rfl Tryd.call11 rfl rfl rfl rfl (fun w hw => put_ok hJ (by omega) c hsm hw) ?_
    rintro _ M4 _ hm4 hn4 ⟨rfl, jv4, rfl, hJ4⟩
    have hMb4 := hm4 _ _ hMb3
    repeat' (first | refine wc_seq ?_ | refine wc_region ?_ | refine wl_nil ?_ | refine wn_seq ?_ | refine wn_blk ?_ | refine wc_skip ?_ | refine wc_block ?_ | refine wc_exit rfl ?_ | (show WL _ _ (_ :: _) _ _ _ _; first | refine yl_v rfl rfl rfl ?_ | refine wl_v rfl rfl rfl (by first | (show OpV _ _ _ _ (Oper.mk _ (Op.indexAddr _ _ _) _ _ _ _) _ _; exact ov_indexAddr (i := i) (b := b) (o := o) rfl rfl rfl (by first | with_reducible exact fun _ => rfl | with_reducible exact fun h => h | exact fun _ => rfl | exact fun h => h | (intro himp; simp_all; done)) (by first | with_reducible exact fun _ => rfl | with_reducible exact fun h => h | exact fun _ => rfl | exact fun h => h | (intro himp; simp_all; done)) rfl (by first | exact (rfl : _ = some 1) | exact (rfl : _ = some 2) | exact (rfl : _ = some 3) | exact (rfl : _ = some 4) | exact (rfl : _ = some 6) | exact rfl) (fun _ => rfl) (by intro hcg; first | omega | (simp at hcg; omega))) | (show OpV _ _ _ _ (Oper.mk _ (Op.load _ _) _ _ _ _) _ _; exact ov_loadSM rfl (by first | with_reducible exact fun _ => rfl | with_reducible exact fun h => h | exact fun _ => rfl | exact fun h => h | (intro himp; simp_all; done)) rfl (by rfl) (fun _ => hMb4) (fun _ => hcell2)) | fail) ?_) | refine wc_ret rfl ?_)
    refine wl_callS rfl Tryd.call12 rfl rfl rfl rfl (fun w hw => rput_ok hw.laid (hW.mono hm4 (fun _ _ _ h => h)) (by omega) c hsm) ?_
    rintro _ H5 M5 hm5 hn5 ⟨rfl, wv5, rfl, hW5⟩
    have hJ5 := hJ4.mono hm5 (fun _ _ _ h => h)
    have hl5 := putP_len c hJl
    have hm5' : ∀ x ∈ (putP J c).1, SmC x := fun x hx => by
      rcases putP_mem hx with h | rfl
      · exact hJm x h
      · exact hsm
    have hs5 := (hs3.step hm4 hn4).step hm5 hn5
    generalize (putP J c).1 = J5 at *
    generalize (putP J c).2 = e at *
    repeat' (first | ((show WL _ _ (Oper.mk _ (Op.binOp BinOp.neq _ _ _ _) _ _ _ _ :: _) _ _ _ _; refine wl_v rfl rfl rfl (opv_eq (ov_neq rfl rfl (by first | with_reducible exact fun _ => rfl | with_reducible exact fun h => h | exact fun _ => rfl | exact fun h => h | (intro himp; simp_all; done)) (by first | with_reducible exact fun _ => rfl | with_reducible exact fun h => h | exact fun _ => rfl | exact fun h => h | (intro himp; simp_all; done))) (show _ = Value.bool false by simp)) ?_)) | (first | refine wc_seq ?_ | refine wc_region ?_ | refine wl_nil ?_ | refine wn_seq ?_ | refine wn_blk ?_ | refine wc_skip ?_ | refine wc_block ?_ | refine wc_exit rfl ?_ | (show WL _ _ (_ :: _) _ _ _ _; first | refine yl_v rfl rfl rfl ?_ | refine wl_v rfl rfl rfl (by first  | fail) ?_) | refine wc_ret rfl ?_) | (show WC _ (Code.cond _ _ _) _ _ _ _; (refine wc_cond rfl (fun hc => ?_) (fun hc => ?_) <;> (try (simp only [decide_eq_true_eq, decide_eq_false_iff_not, Bool.and_eq_true, Bool.or_eq_true, Bool.and_eq_false_iff, Bool.or_eq_false_iff, Bool.not_eq_true', Bool.not_eq_false', Int.not_lt, Int.not_le] at hc)) <;> (try (exfalso; first | omega | contradiction)))))
    refine wl_callY (b := bj) (H := []) rfl Tryd.call14 rfl rfl rfl rfl (fun w hw => all_ok hJ5 (by omega) hw) ?_
    rintro av M6 _ hm6 hn6 ⟨rfl, hA⟩
    have hW6 := hW5.mono hm6 (fun _ _ _ h => h)
    have hJ6 := hJ5.mono hm6 (fun _ _ _ h => h)
    have hco := fun {w : World} (hw : Laid M6 w) => cookies_ok hw hA hW6
    rw [decide_eq_true rfl] at hco
    repeat' (first | refine wc_seq ?_ | refine wc_region ?_ | refine wl_nil ?_ | refine wn_seq ?_ | refine wn_blk ?_ | refine wc_skip ?_ | refine wc_block ?_ | refine wc_exit rfl ?_ | (show WL _ _ (_ :: _) _ _ _ _; first | refine yl_v rfl rfl rfl ?_ | refine wl_v rfl rfl rfl (by first | ((show OpV _ _ _ _ (Oper.mk _ (Op.call ⟨.value (.func 13), _, _⟩) _ _ _ _) _ _; exact ov_call Tryd.call13 rfl (by intro himp; first | rfl | (simp_all; done)) (by rfl) (fun _ _ h k => h.ext k) (fun hcg w hw => hco hw.laid))) | fail) ?_) | refine wc_ret rfl ?_)
    refine wc_cond rfl (fun hc => by exfalso; simp at hc) (fun hc => ?_)
    repeat' (first | refine wc_seq ?_ | refine wc_region ?_ | refine wl_nil ?_ | refine wn_seq ?_ | refine wn_blk ?_ | refine wc_skip ?_ | refine wc_block ?_ | refine wc_exit rfl ?_ | (show WL _ _ (_ :: _) _ _ _ _; first | refine yl_v rfl rfl rfl ?_ | refine wl_v rfl rfl rfl (by first  | fail) ?_) | refine wc_ret rfl ?_)
    exact wn_cut ⟨i + 1, J5, jv4, wv5, M6, by omega, hs5.step hm6 hn6, hJ6, hW6, hl5, hm5'⟩ (by show l.length - (i + 1) < l.length - i; omega) (by first | exact Sub.nil _ | (repeat (first | exact Sub.nil _ | refine Sub.cons (by first | rfl | (simp [look]; done)) ?_))) (fun _ h => h)
  repeat' (first | refine wc_seq ?_ | refine wc_region ?_ | refine wl_nil ?_ | refine wn_seq ?_ | refine wn_blk ?_ | refine wc_skip ?_ | refine wc_block ?_ | refine wc_exit rfl ?_ | (show WL _ _ (_ :: _) _ _ _ _; first | refine yl_v rfl rfl rfl ?_ | refine wl_v rfl rfl rfl (by first  | fail) ?_) | refine wc_ret rfl ?_)
  refine wc_cond rfl (fun hc => by exfalso; simp at hc; omega) (fun hc => ?_)
  clear hc
  repeat' (first | refine wc_seq ?_ | refine wc_region ?_ | refine wl_nil ?_ | refine wn_seq ?_ | refine wn_blk ?_ | refine wc_skip ?_ | refine wc_block ?_ | refine wc_exit rfl ?_ | (show WL _ _ (_ :: _) _ _ _ _; first | refine yl_v rfl rfl rfl ?_ | refine wl_v rfl rfl rfl (by first  | fail) ?_) | refine wc_ret rfl ?_)
  refine wl_callY (b := bj) (H := []) rfl Tryd.call16 rfl rfl rfl rfl (fun w hw => jpairs_ok hJ (by omega) hJm path secure hp hw) ?_
  rintro pv M4 _ hm4 hn4 ⟨rfl, hP⟩
  repeat' (first | refine wc_seq ?_ | refine wc_region ?_ | refine wl_nil ?_ | refine wn_seq ?_ | refine wn_blk ?_ | refine wc_skip ?_ | refine wc_block ?_ | refine wc_exit rfl ?_ | (show WL _ _ (_ :: _) _ _ _ _; first | refine yl_v rfl rfl rfl ?_ | refine wl_v rfl rfl rfl (by first  | fail) ?_) | refine wc_ret rfl ?_)
  refine wl_callS rfl Tryd.call17 rfl rfl rfl rfl (fun w hw => rpairsJ_ok hw.laid (hW.mono hm4 (fun _ _ _ h => h)) (by omega) hJm path secure hp) ?_
  rintro qv H5 M5 hm5 hn5 ⟨rfl, hQ⟩
  have hP5 := hP.mono hm5 (fun _ _ _ h => h)
  have hpr := fun {w : World} (hw : Laid M5 w) => pairs_ok hw hP5 hQ
  rw [decide_eq_true rfl] at hpr
  repeat' (first | refine wc_seq ?_ | refine wc_region ?_ | refine wl_nil ?_ | refine wn_seq ?_ | refine wn_blk ?_ | refine wc_skip ?_ | refine wc_block ?_ | refine wc_exit rfl ?_ | (show WL _ _ (_ :: _) _ _ _ _; first | refine yl_v rfl rfl rfl ?_ | refine wl_v rfl rfl rfl (by first | ((show OpV _ _ _ _ (Oper.mk _ (Op.call ⟨.value (.func 15), _, _⟩) _ _ _ _) _ _; exact ov_call Tryd.call15 rfl (by intro himp; first | rfl | (simp_all; done)) (by rfl) (fun _ _ h k => h.ext k) (fun hcg w hw => hpr hw.laid))) | fail) ?_) | refine wc_ret rfl ?_)
  exact wr_weak (fun _ h => h.drop (List.nil_sublist _)) (wr_tmp rfl rfl rfl)
end Go.Proofs.YtmfelfhingmmbaaDoor
/-
  The statement CookieOnce.
-/
namespace Go.Ck
open Go.Pct Go.Txt Go.Proofs.YtmfelfhingmmbaaDoor
def Uq (l : List Ckie) : Prop := l.Pairwise fun a b => sameC a b = false
theorem same_iff (a b : Ckie) : sameC a b = true ↔ (a.name = b.name ∧ a.path = b.path) := by unfold sameC; rw [Bool.and_eq_true, decide_eq_true_eq, decide_eq_true_eq]
theorem uq_laid {J : List Ckie} (c : Ckie) (h : Uq J) : Uq (laidC J c) := by
  unfold laidC Uq
  rw [List.pairwise_append]
  refine ⟨List.Pairwise.sublist List.filter_sublist h, by split <;> simp, fun a ha b hb => ?_⟩
  split at hb
  · cases hb
  · rw [List.mem_singleton] at hb
    subst hb
    simpa using (List.mem_filter.1 ha).2
theorem uq_put {J : List Ckie} (c : Ckie) (h : Uq J) : Uq (putP J c).1 := by
  unfold putP
  split
  · split
    · exact h
    · exact uq_laid c h
  · exact h
theorem uq_at {l : List Ckie} (h : Uq l) {i k : Nat} (hi : i < l.length) (hk : k < i) : ¬ ((l.getD i default).name = (l.getD k default).name ∧ (l.getD i default).path = (l.getD k default).path) := by
  have e1 : l.getD i default = l[i] := by simp [hi]
  have e2 : l.getD k default = l[k]'(by omega) := by simp [show k < l.length by omega]
  rw [e1, e2]
  have := List.pairwise_iff_getElem.1 h k i (by omega) hi hk
  rintro ⟨g1, g2⟩
  rw [(same_iff _ _).2 ⟨g1.symm, g2.symm⟩] at this
  cases this
theorem put_cases (J : List Ckie) (c : Ckie) : ((putP J c).2 ≠ 0 ∧ (putP J c).1 = J) ∨ ((putP J c).2 = 0 ∧ (putP J c).1 = laidC J c) := by
  unfold putP
  split
  · split
    · exact .inl ⟨(by decide : (5 : Int) ≠ 0), rfl⟩
    · exact .inr ⟨rfl, rfl⟩
  · exact .inl ⟨(by decide : (1 : Int) ≠ 0), rfl⟩
theorem under_self (p : List UInt8) : underP p p = true := by
  unfold underP
  rw [List.isPrefixOf_iff_prefix.2 (List.prefix_refl p), decide_eq_true rfl]; rfl
theorem pairs_last (K : List Ckie) (c : Ckie) : pairsP (K ++ [c]) c.path true = pairsP K c.path true ++ [(c.name, c.value)] := by
  unfold pairsP
  rw [List.filter_append, List.map_append]
  congr 1
  simp [under_self]
end Go.Ck
namespace Go.Proofs.YtmfelfhingmmbaaDoor
open Go.Eng Go.Pct Go.Txt Go.Ck
open Go.Rsp (tokC tokenB)
set_option maxRecDepth 10000
set_option linter.unusedSimpArgs false
set_option linter.unusedVariables false
variable {M : Ghost} {w0 w : World} {bs : List Nat} {H : List (Nat × Obj)}
structure OS (w : World) (M : Ghost) (n : Nat) where
  i : Nat
  J : List Ckie
  jv : Value
  M' : Ghost
  hi : i ≤ n
  hs : Since w M M'
  hJ : SlC M' jv J
  hl : J.length ≤ 20
  hm : ∀ c ∈ J, SmC c
  uq : Uq J
set_option maxHeartbeats 4000000 in
theorem cookieOnce_ok (hG : Glob M) (hM : Laid M w) {v : Value} {l : List Ckie} (hv : SlC M v l) (c : Ckie) (hcs : SmC c) : Calls Tryd.prog 4 #[v, .agg (ckCells c).toArray] w (RetE w (.bool true)) := by
  obtain ⟨a, cap, b, o, cs, T, fz, rfl, h1, h2, h3, h4⟩ := hv.open
  have hck : ckCells c = [str c.name, str c.value, str c.path, i64 c.age, .bool c.secure, .bool c.http] := rfl
  have hf0 := fun {M : Ghost} {w : World} (hw : Laid M w) => fewC_ok hw c
  rw [hck] at hf0 ⊢
  refine calls_st (l := [.slice a l.length cap, .agg [str c.name, str c.value, str c.path, i64 c.age, .bool c.secure, .bool c.http].toArray]) hM Tryd.func4 rfl rfl rfl (E0 := [(0, true, .slice a l.length cap), (1, true, .agg [str c.name, str c.value, str c.path, i64 c.age, .bool c.secure, .bool c.http].toArray)]) (params_cons rfl (params_cons rfl (params_nil _))) ?_
  repeat' (first | refine wc_seq ?_ | refine wc_region ?_ | refine wl_nil ?_ | refine wn_seq ?_ | refine wn_blk ?_ | refine wc_skip ?_ | refine wc_block ?_ | refine wc_exit rfl ?_ | (show WL _ _ (_ :: _) _ _ _ _; first | refine yl_v rfl rfl rfl ?_ | refine wl_v rfl rfl rfl (by first | ((show OpV _ _ _ _ (Oper.mk _ (Op.call ⟨.value (.func 8), _, _⟩) _ _ _ _) _ _; exact ov_call Tryd.call8 rfl (by intro himp; first | rfl | (simp_all; done)) (by rfl) (fun _ _ h k => h.ext k) (fun hcg w hw => awake_ok hG hw.laid))) | fail) ?_ | refine xl_box rfl (fun _ => ?_)) | refine wc_ret rfl ?_)
  rename_i b3
  refine wl_callS rfl Tryd.call9 rfl rfl rfl rfl (fun w hw => new_ok hw.laid) ?_
  rintro _ H2 M2 hm2 hn2 ⟨bj, rfl, rfl⟩
  repeat' (first | refine wc_seq ?_ | refine wc_region ?_ | refine wl_nil ?_ | refine wn_seq ?_ | refine wn_blk ?_ | refine wc_skip ?_ | refine wc_block ?_ | refine wc_exit rfl ?_ | (show WL _ _ (_ :: _) _ _ _ _; first | refine yl_v rfl rfl rfl ?_ | refine wl_v rfl rfl rfl (by first | ((show OpV _ _ _ _ (Oper.mk _ (Op.call ⟨.value (.func 10), _, _⟩) _ _ _ _) _ _; exact ov_call Tryd.call10 rfl (by intro himp; first | rfl | (simp_all; done)) (by rfl) (fun _ _ h k => h.ext k) (fun hcg w hw => hf0 hw.laid))) | (show OpV _ _ _ _ (Oper.mk _ (Op.binOp BinOp.eql _ _ _ _) _ _ _ _) _ _; exact ov_eqPtr rfl rfl (by first | with_reducible exact fun _ => rfl | with_reducible exact fun h => h | exact fun _ => rfl | exact fun h => h | (intro himp; simp_all; done)) (by first | with_reducible exact fun _ => rfl | with_reducible exact fun h => h | exact fun _ => rfl | exact fun h => h | (intro himp; simp_all; done)) rfl) | fail) ?_ | refine xl_box rfl (fun _ => ?_)) | refine wc_ret rfl ?_)
  refine wc_cond rfl (fun hc => ?_) (fun hc => ?_)
  · repeat' (first | refine wc_seq ?_ | refine wc_region ?_ | refine wl_nil ?_ | refine wn_seq ?_ | refine wn_blk ?_ | refine wc_skip ?_ | refine wc_block ?_ | refine wc_exit rfl ?_ | (show WL _ _ (_ :: _) _ _ _ _; first | refine yl_v rfl rfl rfl ?_ | refine wl_v rfl rfl rfl (by first | (show OpV _ _ _ _ (Oper.mk _ (Op.binOp BinOp.neq _ _ _ _) _ _ _ _) _ _; exact ov_neqPtr rfl rfl (by first | with_reducible exact fun _ => rfl | with_reducible exact fun h => h | exact fun _ => rfl | exact fun h => h | (intro himp; simp_all; done)) (by first | with_reducible exact fun _ => rfl | with_reducible exact fun h => h | exact fun _ => rfl | exact fun h => h | (intro himp; simp_all; done)) rfl) | fail) ?_ | refine xl_box rfl (fun _ => ?_)) | refine wc_ret rfl ?_)
    exact wr_weak (fun _ h => h.drop (List.nil_sublist _)) (wr_tmp rfl rfl rfl)
  have hll : l.length ≤ 50 := by simp at hc; omega
  have hfew0 : fewC c = true := by simp at hc; exact hc.2
  obtain ⟨q1, q2, q3⟩ := fewC_sm hfew0
  clear hc
  repeat' (first | refine wc_seq ?_ | refine wc_region ?_ | refine wl_nil ?_ | refine wn_seq ?_ | refine wn_blk ?_ | refine wc_skip ?_ | refine wc_block ?_ | refine wc_exit rfl ?_ | (show WL _ _ (_ :: _) _ _ _ _; first | refine yl_v rfl rfl rfl ?_ | refine wl_v rfl rfl rfl (by first  | fail) ?_ | refine xl_box rfl (fun _ => ?_)) | refine wc_ret rfl ?_)
  refine wc_loop (α := OS w M2 l.length) (fun x => [(0, true, .slice a l.length cap), (3, true, .pointer (some ⟨b3, 0, none⟩)), (5, true, .bool true), (6, true, .pointer (some ⟨bj, 0, none⟩)), (8, true, i64 (x.i : Int))]) (fun x => St w [] [(bj, jarO x.jv), (b3, .cells [str c.name, str c.value, str c.path, i64 c.age, .bool c.secure, .bool c.http].toArray 28 (0, 0))] x.M') (fun x => l.length - x.i) ⟨0, [], .slice none 0 0, M2, Nat.zero_le _, Since.refl, sl_nil, by simp, by simp, List.Pairwise.nil⟩ (by first | exact Sub.nil _ | (repeat (first | exact Sub.nil _ | refine Sub.cons (by first | rfl | (simp [look]; done)) ?_))) (fun _ h => h) ?_
  rintro ⟨i, J, jv, M3, hi, hs3, hJ, hJl, hJm, hJu⟩
  dsimp only
  by_cases hlt : i < l.length
  · have hne : l ≠ [] := by rintro rfl; simp at hlt
    obtain ⟨rfl, hMb⟩ := h3 hne
    have hMb3 := hs3.1 _ _ (hm2 _ _ hMb)
    have hcell := h4 i hlt
    generalize l.getD i default = x at *
    have hcell2 : ∀ k, k < [str x.name, str x.value, str x.path, i64 x.age, .bool x.secure, .bool x.http].length → cs[o + i * 6 + k]? = [str x.name, str x.value, str x.path, i64 x.age, .bool x.secure, .bool x.http][k]? := hcell
    clear hcell
    have hf := fun {w : World} (hw : Laid M3 w) => fewC_ok hw x
    rw [show ckCells x = [str x.name, str x.value, str x.path, i64 x.age, .bool x.secure, .bool x.http] from rfl] at hf
    repeat' (first | refine wc_seq ?_ | refine wc_region ?_ | refine wl_nil ?_ | refine wn_seq ?_ | refine wn_blk ?_ | refine wc_skip ?_ | refine wc_block ?_ | refine wc_exit rfl ?_ | (show WL _ _ (_ :: _) _ _ _ _; first | refine yl_v rfl rfl rfl ?_ | refine wl_v rfl rfl rfl (by first  | fail) ?_ | refine xl_box rfl (fun _ => ?_)) | refine wc_ret rfl ?_)
    refine wc_cond rfl (fun hc => ?_) (fun hc => by exfalso; simp at hc; omega)
    clear hc
    repeat' (first | refine wc_seq ?_ | refine wc_region ?_ | refine wl_nil ?_ | refine wn_seq ?_ | refine wn_blk ?_ | refine wc_skip ?_ | refine wc_block ?_ | refine wc_exit rfl ?_ | (show WL _ _ (_ :: _) _ _ _ _; first | refine yl_v rfl rfl rfl ?_ | refine wl_v rfl rfl rfl (by first | (show OpV _ _ _ _ (Oper.mk _ (Op.indexAddr _ _ _) _ _ _ _) _ _; exact ov_indexAddr (i := i) (b := b) (o := o) rfl rfl rfl (by first | with_reducible exact fun _ => rfl | with_reducible exact fun h => h | exact fun _ => rfl | exact fun h => h | (intro himp; simp_all; done)) (by first | with_reducible exact fun _ => rfl | with_reducible exact fun h => h | exact fun _ => rfl | exact fun h => h | (intro himp; simp_all; done)) rfl (by first | exact (rfl : _ = some 1) | exact (rfl : _ = some 2) | exact (rfl : _ = some 3) | exact (rfl : _ = some 4) | exact (rfl : _ = some 6) | exact rfl) (fun _ => rfl) (by intro hcg; first | omega | (simp at hcg; omega))) | (show OpV _ _ _ _ (Oper.mk _ (Op.load _ _) _ _ _ _) _ _; exact ov_loadSM rfl (by first | with_reducible exact fun _ => rfl | with_reducible exact fun h => h | exact fun _ => rfl | exact fun h => h | (intro himp; simp_all; done)) rfl (by rfl) (fun _ => hMb3) (fun _ => hcell2)) | ((show OpV _ _ _ _ (Oper.mk _ (Op.call ⟨.value (.func 10), _, _⟩) _ _ _ _) _ _; exact ov_call Tryd.call10 rfl (by intro himp; first | rfl | (simp_all; done)) (by rfl) (fun _ _ h k => h.ext k) (fun hcg w hw => hf hw.laid))) | fail) ?_ | refine xl_box rfl (fun _ => ?_)) | refine wc_ret rfl ?_)
    refine wc_cond rfl (fun hc => ?_) (fun hc => ?_)
    · repeat' (first | refine wc_seq ?_ | refine wc_region ?_ | refine wl_nil ?_ | refine wn_seq ?_ | refine wn_blk ?_ | refine wc_skip ?_ | refine wc_block ?_ | refine wc_exit rfl ?_ | (show WL _ _ (_ :: _) _ _ _ _; first | refine yl_v rfl rfl rfl ?_ | refine wl_v rfl rfl rfl (by first  | fail) ?_ | refine xl_box rfl (fun _ => ?_)) | refine wc_ret rfl ?_)
      exact wr_weak (fun _ h => h.drop (List.nil_sublist _)) (wr_tmp rfl rfl rfl)
    have hfew : fewC x = true := by simpa using hc
    clear hc
    obtain ⟨g1, g2, g3⟩ := fewC_sm hfew
    have hsm : SmC x := ⟨by omega, by omega, by omega⟩
    repeat' (first | refine wc_seq ?_ | refine wc_region ?_ | refine wl_nil ?_ | refine wn_seq ?_ | refine wn_blk ?_ | refine wc_skip ?_ | refine wc_block ?_ | refine wc_exit rfl ?_ | (show WL _ _ (_ :: _) _ _ _ _; first | refine yl_v rfl rfl rfl ?_ | refine wl_v rfl rfl rfl (by first | (show OpV _ _ _ _ (Oper.mk _ (Op.indexAddr _ _ _) _ _ _ _) _ _; exact ov_indexAddr (i := i) (b := b) (o := o) rfl rfl rfl (by first | with_reducible exact fun _ => rfl | with_reducible exact fun h => h | exact fun _ => rfl | exact fun h => h | (intro himp; simp_all; done)) (by first | with_reducible exact fun _ => rfl | with_reducible exact fun h => h | exact fun _ => rfl | exact fun h => h | (intro himp; simp_all; done)) rfl (by first | exact (rfl : _ = some 1) | exact (rfl : _ = some 2) | exact (rfl : _ = some 3) | exact (rfl : _ = some 4) | exact (rfl : _ = some 6) | exact rfl) (fun _ => rfl) (by intro hcg; first | omega | (simp at hcg; omega))) | (show OpV _ _ _ _ (Oper.mk _ (Op.load _ _) _ _ _ _) _ _; exact ov_loadSM rfl (by first | with_reducible exact fun _ => rfl | with_reducible exact fun h => h | exact fun _ => rfl | exact fun h => h | (intro himp; simp_all; done)) rfl (by rfl) (fun _ => hMb3) (fun _ => hcell2)) | fail) ?_ | refine xl_box rfl (fun _ => ?_)) | refine wc_ret rfl ?_)
    refine wl_callY (b := bj) (H := [(b3, .cells [str c.name, str c.value, str c.path, i64 c.age, .bool c.secure, .bool c.http].toArray 28 (0, 0))]) rfl Tryd.call11 rfl rfl rfl rfl (fun w hw => put_ok hJ (by omega) x hsm hw) ?_
    rintro _ M4 _ hm4 hn4 ⟨rfl, jv4, rfl, hJ4⟩
    repeat' (first | refine wc_seq ?_ | refine wc_region ?_ | refine wl_nil ?_ | refine wn_seq ?_ | refine wn_blk ?_ | refine wc_skip ?_ | refine wc_block ?_ | refine wc_exit rfl ?_ | (show WL _ _ (_ :: _) _ _ _ _; first | refine yl_v rfl rfl rfl ?_ | refine wl_v rfl rfl rfl (by first  | fail) ?_ | refine xl_box rfl (fun _ => ?_)) | refine wc_ret rfl ?_)
    refine wn_cut ⟨i + 1, (putP J x).1, jv4, M4, by omega, hs3.step hm4 hn4, hJ4, putP_len x hJl, fun y hy => ?_, uq_put x hJu⟩ (by show l.length - (i + 1) < l.length - i; omega) (by first | exact Sub.nil _ | (repeat (first | exact Sub.nil _ | refine Sub.cons (by first | rfl | (simp [look]; done)) ?_))) (fun _ h => h)
    rcases putP_mem hy with h | rfl
    · exact hJm y h
    · exact hsm
  repeat' (first | refine wc_seq ?_ | refine wc_region ?_ | refine wl_nil ?_ | refine wn_seq ?_ | refine wn_blk ?_ | refine wc_skip ?_ | refine wc_block ?_ | refine wc_exit rfl ?_ | (show WL _ _ (_ :: _) _ _ _ _; first | refine yl_v rfl rfl rfl ?_ | refine wl_v rfl rfl rfl (by first  | fail) ?_ | refine xl_box rfl (fun _ => ?_)) | refine wc_ret rfl ?_)
  refine wc_cond rfl (fun hc => by exfalso; simp at hc; omega) (fun hc => ?_)
  clear hc
  repeat' (first | refine wc_seq ?_ | refine wc_region ?_ | refine wl_nil ?_ | refine wn_seq ?_ | refine wn_blk ?_ | refine wc_skip ?_ | refine wc_block ?_ | refine wc_exit rfl ?_ | (show WL _ _ (_ :: _) _ _ _ _; first | refine yl_v rfl rfl rfl ?_ | refine wl_v rfl rfl rfl (by first  | fail) ?_ | refine xl_box rfl (fun _ => ?_)) | refine wc_ret rfl ?_)
  refine wl_callY (b := bj) (H := [(b3, .cells [str c.name, str c.value, str c.path, i64 c.age, .bool c.secure, .bool c.http].toArray 28 (0, 0))]) rfl Tryd.call14 rfl rfl rfl rfl (fun w hw => all_ok hJ (by omega) hw) ?_
  rintro av M4 _ hm4 hn4 ⟨rfl, hA⟩
  have hJ4 := hJ.mono hm4 (fun _ _ _ h => h)
  repeat' (first | refine wc_seq ?_ | refine wc_region ?_ | refine wl_nil ?_ | refine wn_seq ?_ | refine wn_blk ?_ | refine wc_skip ?_ | refine wc_block ?_ | refine wc_exit rfl ?_ | (show WL _ _ (_ :: _) _ _ _ _; first | refine yl_v rfl rfl rfl ?_ | refine wl_v rfl rfl rfl (by first  | fail) ?_ | refine xl_box rfl (fun _ => ?_)) | refine wc_ret rfl ?_)
  refine wl_callY (b := bj) (H := [(b3, .cells [str c.name, str c.value, str c.path, i64 c.age, .bool c.secure, .bool c.http].toArray 28 (0, 0))]) rfl Tryd.call11 rfl rfl rfl rfl (fun w hw => put_ok hJ4 (by omega) c hcs hw) ?_
  rintro _ M5 _ hm5 hn5 ⟨rfl, jv5, rfl, hJ5⟩
  have hA5 := hA.mono hm5 (fun _ _ _ h => h)
  have hNl := putP_len c hJl
  have hNu := uq_put c hJu
  have hNm : ∀ x ∈ (putP J c).1, SmC x := fun x hx => by
    rcases putP_mem hx with h | rfl
    · exact hJm x h
    · exact hcs
  have hcase := put_cases J c
  generalize (putP J c).1 = N at *
  generalize (putP J c).2 = e at *
  repeat' (first | refine wc_seq ?_ | refine wc_region ?_ | refine wl_nil ?_ | refine wn_seq ?_ | refine wn_blk ?_ | refine wc_skip ?_ | refine wc_block ?_ | refine wc_exit rfl ?_ | (show WL _ _ (_ :: _) _ _ _ _; first | refine yl_v rfl rfl rfl ?_ | refine wl_v rfl rfl rfl (by first  | fail) ?_ | refine xl_box rfl (fun _ => ?_)) | refine wc_ret rfl ?_)
  refine wl_callY (b := bj) (H := [(b3, .cells [str c.name, str c.value, str c.path, i64 c.age, .bool c.secure, .bool c.http].toArray 28 (0, 0))]) rfl Tryd.call14 rfl rfl rfl rfl (fun w hw => all_ok hJ5 (by omega) hw) ?_
  rintro nv M6 _ hm6 hn6 ⟨rfl, hN⟩
  have hA6 := hA5.mono hm6 (fun _ _ _ h => h)
  have hJ6 := hJ5.mono hm6 (fun _ _ _ h => h)
  have hN0 : SlC M6 nv N := hN
  have hA60 : SlC M6 av J := hA6
  have hJ60 : SlC M6 jv5 N := hJ6
  clear hA hA5 hA6 hJ hJ4 hJ5 hJ6 h3 h4 hJm hJu
  obtain ⟨na, ncap, nb, no, ncs, nT, nfz, rfl, n1, n2, n3, n4⟩ := hN0.open
  obtain ⟨aa, acap, _, _, _, _, _, rfl, _⟩ := hA60.open
  repeat' (first | refine wc_seq ?_ | refine wc_region ?_ | refine wl_nil ?_ | refine wn_seq ?_ | refine wn_blk ?_ | refine wc_skip ?_ | refine wc_block ?_ | refine wc_exit rfl ?_ | (show WL _ _ (_ :: _) _ _ _ _; first | refine yl_v rfl rfl rfl ?_ | refine wl_v rfl rfl rfl (by first  | fail) ?_ | refine xl_box rfl (fun _ => ?_)) | refine wc_ret rfl ?_)
  refine wc_loop (α := { i : Nat // i ≤ N.length }) (fun x => [(3, true, .pointer (some ⟨b3, 0, none⟩)), (5, true, .bool true), (6, true, .pointer (some ⟨bj, 0, none⟩)), (10, true, .slice aa J.length acap), (11, true, i64 e), (12, true, .slice na N.length ncap), (13, true, i64 (x.1 : Int))]) (fun _ => St w [] [(bj, jarO jv5), (b3, .cells [str c.name, str c.value, str c.path, i64 c.age, .bool c.secure, .bool c.http].toArray 28 (0, 0))] M6) (fun x => N.length - x.1) ⟨0, Nat.zero_le _⟩ (by first | exact Sub.nil _ | (repeat (first | exact Sub.nil _ | refine Sub.cons (by first | rfl | (simp [look]; done)) ?_))) (fun _ h => h) ?_
  rintro ⟨i2, hi2⟩
  dsimp only
  by_cases hlt2 : i2 < N.length
  · have hne : N ≠ [] := by rintro rfl; simp at hlt2
    obtain ⟨rfl, hMb⟩ := n3 hne
    repeat' (first | refine wc_seq ?_ | refine wc_region ?_ | refine wl_nil ?_ | refine wn_seq ?_ | refine wn_blk ?_ | refine wc_skip ?_ | refine wc_block ?_ | refine wc_exit rfl ?_ | (show WL _ _ (_ :: _) _ _ _ _; first | refine yl_v rfl rfl rfl ?_ | refine wl_v rfl rfl rfl (by first  | fail) ?_ | refine xl_box rfl (fun _ => ?_)) | refine wc_ret rfl ?_)
    refine wc_cond rfl (fun hc => ?_) (fun hc => by exfalso; simp at hc; omega)
    clear hc
    repeat' (first | refine wc_seq ?_ | refine wc_region ?_ | refine wl_nil ?_ | refine wn_seq ?_ | refine wn_blk ?_ | refine wc_skip ?_ | refine wc_block ?_ | refine wc_exit rfl ?_ | (show WL _ _ (_ :: _) _ _ _ _; first | refine yl_v rfl rfl rfl ?_ | refine wl_v rfl rfl rfl (by first  | fail) ?_ | refine xl_box rfl (fun _ => ?_)) | refine wc_ret rfl ?_)
    refine wc_loop (α := { k : Nat // k ≤ i2 }) (fun x => [(3, true, .pointer (some ⟨b3, 0, none⟩)), (5, true, .bool true), (6, true, .pointer (some ⟨bj, 0, none⟩)), (10, true, .slice aa J.length acap), (11, true, i64 e), (12, true, .slice (some ⟨nb, no, none⟩) N.length ncap), (13, true, i64 (i2 : Int)), (14, true, i64 (x.1 : Int))]) (fun _ => St w [] [(bj, jarO jv5), (b3, .cells [str c.name, str c.value, str c.path, i64 c.age, .bool c.secure, .bool c.http].toArray 28 (0, 0))] M6) (fun x => i2 - x.1) ⟨0, Nat.zero_le _⟩ (by first | exact Sub.nil _ | (repeat (first | exact Sub.nil _ | refine Sub.cons (by first | rfl | (simp [look]; done)) ?_))) (fun _ h => h) ?_
    rintro ⟨k, hk⟩
    dsimp only
    by_cases hkl : k < i2
    · have hun := uq_at hNu hlt2 hkl
      have e0 : ncs[no + i2 * 6 + 0]? = some (str (N.getD i2 default).name) := n4 i2 hlt2 0 (by rw [ckCells_length]; decide)
      have e2 : ncs[no + i2 * 6 + 2]? = some (str (N.getD i2 default).path) := n4 i2 hlt2 2 (by rw [ckCells_length]; decide)
      have k0 : ncs[no + k * 6 + 0]? = some (str (N.getD k default).name) := n4 k (by omega) 0 (by rw [ckCells_length]; decide)
      have k2 : ncs[no + k * 6 + 2]? = some (str (N.getD k default).path) := n4 k (by omega) 2 (by rw [ckCells_length]; decide)
      generalize N.getD i2 default = x at *
      generalize N.getD k default = y at *
      repeat' (first | refine wc_seq ?_ | refine wc_region ?_ | refine wl_nil ?_ | refine wn_seq ?_ | refine wn_blk ?_ | refine wc_skip ?_ | refine wc_block ?_ | refine wc_exit rfl ?_ | (show WL _ _ (_ :: _) _ _ _ _; first | refine yl_v rfl rfl rfl ?_ | refine wl_v rfl rfl rfl (by first  | fail) ?_ | refine xl_box rfl (fun _ => ?_)) | refine wc_ret rfl ?_)
      refine wc_cond rfl (fun hc => ?_) (fun hc => by exfalso; simp at hc; omega)
      clear hc
      repeat' (first | refine wc_seq ?_ | refine wc_region ?_ | refine wl_nil ?_ | refine wn_seq ?_ | refine wn_blk ?_ | refine wc_skip ?_ | refine wc_block ?_ | refine wc_exit rfl ?_ | (show WL _ _ (_ :: _) _ _ _ _; first | refine yl_v rfl rfl rfl ?_ | refine wl_v rfl rfl rfl (by first  | fail) ?_ | refine xl_box rfl (fun _ => ?_)) | refine wc_ret rfl ?_)
      refine wc_draw 24 (by kernel_rfl) rfl (by kernel_rfl) (fun _ _ h k => h.ext k) ?_
      repeat' (first | (show WD _ _ (_ :: _) _ _ _ _ _ _; first | refine yd_v rfl rfl rfl rfl rfl rfl ?_ | refine wd_v rfl rfl rfl rfl rfl rfl (by first | (show OpV _ _ _ _ (Oper.mk _ (Op.indexAddr _ _ _) _ _ _ _) _ _; first | exact ov_indexAddr (i := i2) (b := nb) (o := no) rfl rfl rfl (by first | with_reducible exact fun _ => rfl | with_reducible exact fun h => h | exact fun _ => rfl | exact fun h => h | (intro himp; simp_all; done)) (by first | with_reducible exact fun _ => rfl | with_reducible exact fun h => h | exact fun _ => rfl | exact fun h => h | (intro himp; simp_all; done)) rfl (by first | exact (rfl : _ = some 1) | exact (rfl : _ = some 2) | exact (rfl : _ = some 3) | exact (rfl : _ = some 4) | exact (rfl : _ = some 6) | exact rfl) (fun _ => rfl) (fun _ => hlt2) | exact ov_indexAddr (i := k) (b := nb) (o := no) rfl rfl rfl (by first | with_reducible exact fun _ => rfl | with_reducible exact fun h => h | exact fun _ => rfl | exact fun h => h | (intro himp; simp_all; done)) (by first | with_reducible exact fun _ => rfl | with_reducible exact fun h => h | exact fun _ => rfl | exact fun h => h | (intro himp; simp_all; done)) rfl (by first | exact (rfl : _ = some 1) | exact (rfl : _ = some 2) | exact (rfl : _ = some 3) | exact (rfl : _ = some 4) | exact (rfl : _ = some 6) | exact rfl) (fun _ => rfl) (fun _ => by omega)) | (show OpV _ _ _ _ (Oper.mk _ (Op.load _ _) _ _ _ _) _ _; first | exact ov_load1M rfl (by first | with_reducible exact fun _ => rfl | with_reducible exact fun h => h | exact fun _ => rfl | exact fun h => h | (intro himp; simp_all; done)) rfl rfl (fun _ => hMb) (fun _ => e0) | exact ov_load1M rfl (by first | with_reducible exact fun _ => rfl | with_reducible exact fun h => h | exact fun _ => rfl | exact fun h => h | (intro himp; simp_all; done)) rfl rfl (fun _ => hMb) (fun _ => e2) | exact ov_load1M rfl (by first | with_reducible exact fun _ => rfl | with_reducible exact fun h => h | exact fun _ => rfl | exact fun h => h | (intro himp; simp_all; done)) rfl rfl (fun _ => hMb) (fun _ => k0) | exact ov_load1M rfl (by first | with_reducible exact fun _ => rfl | with_reducible exact fun h => h | exact fun _ => rfl | exact fun h => h | (intro himp; simp_all; done)) rfl rfl (fun _ => hMb) (fun _ => k2)) | fail) ?_ | refine yd_new rfl rfl rfl rfl rfl rfl ?_ | refine wd_conv rfl rfl rfl rfl rfl rfl rfl rfl rfl rfl ?_) | (show WD _ _ _ _ _ _ _ _ _; first | refine wd_nil ?_ | refine wd_nil1 (wl_fresh (fun _ => ?_))) | (first | refine wc_seq ?_ | refine wc_region ?_ | refine wl_nil ?_ | refine wn_seq ?_ | refine wn_blk ?_ | refine wc_skip ?_ | refine wc_block ?_ | refine wc_exit rfl ?_ | (show WL _ _ (_ :: _) _ _ _ _; first | refine yl_v rfl rfl rfl ?_ | refine wl_v rfl rfl rfl (by first | (show OpV _ _ _ _ (Oper.mk _ (Op.indexAddr _ _ _) _ _ _ _) _ _; first | exact ov_indexAddr (i := i2) (b := nb) (o := no) rfl rfl rfl (by first | with_reducible exact fun _ => rfl | with_reducible exact fun h => h | exact fun _ => rfl | exact fun h => h | (intro himp; simp_all; done)) (by first | with_reducible exact fun _ => rfl | with_reducible exact fun h => h | exact fun _ => rfl | exact fun h => h | (intro himp; simp_all; done)) rfl (by first | exact (rfl : _ = some 1) | exact (rfl : _ = some 2) | exact (rfl : _ = some 3) | exact (rfl : _ = some 4) | exact (rfl : _ = some 6) | exact rfl) (fun _ => rfl) (fun _ => hlt2) | exact ov_indexAddr (i := k) (b := nb) (o := no) rfl rfl rfl (by first | with_reducible exact fun _ => rfl | with_reducible exact fun h => h | exact fun _ => rfl | exact fun h => h | (intro himp; simp_all; done)) (by first | with_reducible exact fun _ => rfl | with_reducible exact fun h => h | exact fun _ => rfl | exact fun h => h | (intro himp; simp_all; done)) rfl (by first | exact (rfl : _ = some 1) | exact (rfl : _ = some 2) | exact (rfl : _ = some 3) | exact (rfl : _ = some 4) | exact (rfl : _ = some 6) | exact rfl) (fun _ => rfl) (fun _ => by omega)) | (show OpV _ _ _ _ (Oper.mk _ (Op.load _ _) _ _ _ _) _ _; first | exact ov_load1M rfl (by first | with_reducible exact fun _ => rfl | with_reducible exact fun h => h | exact fun _ => rfl | exact fun h => h | (intro himp; simp_all; done)) rfl rfl (fun _ => hMb) (fun _ => e0) | exact ov_load1M rfl (by first | with_reducible exact fun _ => rfl | with_reducible exact fun h => h | exact fun _ => rfl | exact fun h => h | (intro himp; simp_all; done)) rfl rfl (fun _ => hMb) (fun _ => e2) | exact ov_load1M rfl (by first | with_reducible exact fun _ => rfl | with_reducible exact fun h => h | exact fun _ => rfl | exact fun h => h | (intro himp; simp_all; done)) rfl rfl (fun _ => hMb) (fun _ => k0) | exact ov_load1M rfl (by first | with_reducible exact fun _ => rfl | with_reducible exact fun h => h | exact fun _ => rfl | exact fun h => h | (intro himp; simp_all; done)) rfl rfl (fun _ => hMb) (fun _ => k2)) | fail) ?_ | refine xl_box rfl (fun _ => ?_)) | refine wc_ret rfl ?_))
      repeat' (first | refine wc_seq ?_ | refine wc_region ?_ | refine wl_nil ?_ | refine wn_seq ?_ | refine wn_blk ?_ | refine wc_skip ?_ | refine wc_block ?_ | refine wc_exit rfl ?_ | (show WL _ _ (_ :: _) _ _ _ _; first | refine yl_v rfl rfl rfl ?_ | refine wl_v rfl rfl rfl (by first  | fail) ?_ | refine xl_box rfl (fun _ => ?_)) | refine wc_ret rfl ?_)
      refine wc_cond rfl (fun hc => by exfalso; simp at hc; exact hun hc) (fun hc => ?_)
      repeat' (first | refine wc_seq ?_ | refine wc_region ?_ | refine wl_nil ?_ | refine wn_seq ?_ | refine wn_blk ?_ | refine wc_skip ?_ | refine wc_block ?_ | refine wc_exit rfl ?_ | (show WL _ _ (_ :: _) _ _ _ _; first | refine yl_v rfl rfl rfl ?_ | refine wl_v rfl rfl rfl (by first  | fail) ?_ | refine xl_box rfl (fun _ => ?_)) | refine wc_ret rfl ?_)
      exact wn_cut ⟨k + 1, by omega⟩ (by show i2 - (k + 1) < i2 - k; omega) (by first | exact Sub.nil _ | (repeat (first | exact Sub.nil _ | refine Sub.cons (by first | rfl | (simp [look]; done)) ?_))) (fun _ h => h)
    repeat' (first | refine wc_seq ?_ | refine wc_region ?_ | refine wl_nil ?_ | refine wn_seq ?_ | refine wn_blk ?_ | refine wc_skip ?_ | refine wc_block ?_ | refine wc_exit rfl ?_ | (show WL _ _ (_ :: _) _ _ _ _; first | refine yl_v rfl rfl rfl ?_ | refine wl_v rfl rfl rfl (by first  | fail) ?_ | refine xl_box rfl (fun _ => ?_)) | refine wc_ret rfl ?_)
    refine wc_cond rfl (fun hc => by exfalso; simp at hc; omega) (fun hc => ?_)
    repeat' (first | refine wc_seq ?_ | refine wc_region ?_ | refine wl_nil ?_ | refine wn_seq ?_ | refine wn_blk ?_ | refine wc_skip ?_ | refine wc_block ?_ | refine wc_exit rfl ?_ | (show WL _ _ (_ :: _) _ _ _ _; first | refine yl_v rfl rfl rfl ?_ | refine wl_v rfl rfl rfl (by first  | fail) ?_ | refine xl_box rfl (fun _ => ?_)) | refine wc_ret rfl ?_)
    exact wn_cut ⟨i2 + 1, by omega⟩ (by show N.length - (i2 + 1) < N.length - i2; omega) (by first | exact Sub.nil _ | (repeat (first | exact Sub.nil _ | refine Sub.cons (by first | rfl | (simp [look]; done)) ?_))) (fun _ h => h)
  repeat' (first | refine wc_seq ?_ | refine wc_region ?_ | refine wl_nil ?_ | refine wn_seq ?_ | refine wn_blk ?_ | refine wc_skip ?_ | refine wc_block ?_ | refine wc_exit rfl ?_ | (show WL _ _ (_ :: _) _ _ _ _; first | refine yl_v rfl rfl rfl ?_ | refine wl_v rfl rfl rfl (by first  | fail) ?_ | refine xl_box rfl (fun _ => ?_)) | refine wc_ret rfl ?_)
  refine wc_cond rfl (fun hc => by exfalso; simp at hc; omega) (fun hc => ?_)
  clear hc
  repeat' (first | refine wc_seq ?_ | refine wc_region ?_ | refine wl_nil ?_ | refine wn_seq ?_ | refine wn_blk ?_ | refine wc_skip ?_ | refine wc_block ?_ | refine wc_exit rfl ?_ | (show WL _ _ (_ :: _) _ _ _ _; first | refine yl_v rfl rfl rfl ?_ | refine wl_v rfl rfl rfl (by first  | fail) ?_ | refine xl_box rfl (fun _ => ?_)) | refine wc_ret rfl ?_)
  rcases hcase with ⟨he, rfl⟩ | ⟨rfl, hNe⟩
  · have hco := fun {w : World} (hw : Laid M6 w) => cookies_ok hw hA60 hN0
    rw [decide_eq_true rfl] at hco
    refine wc_cond rfl (fun hc => ?_) (fun hc => by exfalso; simp at hc; exact he hc)
    repeat' (first | refine wc_seq ?_ | refine wc_region ?_ | refine wl_nil ?_ | refine wn_seq ?_ | refine wn_blk ?_ | refine wc_skip ?_ | refine wc_block ?_ | refine wc_exit rfl ?_ | (show WL _ _ (_ :: _) _ _ _ _; first | refine yl_v rfl rfl rfl ?_ | refine wl_v rfl rfl rfl (by first | ((show OpV _ _ _ _ (Oper.mk _ (Op.call ⟨.value (.func 13), _, _⟩) _ _ _ _) _ _; exact ov_call Tryd.call13 rfl (by intro himp; first | rfl | (simp_all; done)) (by rfl) (fun _ _ h k => h.ext k) (fun hcg w hw => hco hw.laid))) | fail) ?_ | refine xl_box rfl (fun _ => ?_)) | refine wc_ret rfl ?_)
    exact wr_weak (fun _ h => h.drop (List.nil_sublist _)) (wr_tmp rfl rfl rfl)
  refine wc_cond rfl (fun hc => by exfalso; simp at hc) (fun hc => ?_)
  clear hc
  repeat' (first | refine wc_seq ?_ | refine wc_region ?_ | refine wl_nil ?_ | refine wn_seq ?_ | refine wn_blk ?_ | refine wc_skip ?_ | refine wc_block ?_ | refine wc_exit rfl ?_ | (show WL _ _ (_ :: _) _ _ _ _; first | refine yl_v rfl rfl rfl ?_ | refine wl_v rfl rfl rfl (by first  | fail) ?_ | refine xl_box rfl (fun _ => ?_)) | refine wc_ret rfl ?_)
  by_cases hz : c.age = 0
  · have hNf : N = J.filter (fun x => !sameC x c) := by rw [hNe]; unfold laidC; rw [if_pos hz, List.append_nil]
    have hNJ : N.length ≤ J.length := by rw [hNf]; exact List.length_filter_le _ _
    have hno : ∀ x ∈ N, ¬ (x.name = c.name ∧ x.path = c.path) := fun x hx h => by
      rw [hNf] at hx
      have := (List.mem_filter.1 hx).2
      rw [(same_iff x c).2 h] at this
      cases this
    refine wc_cond rfl (fun hc => ?_) (fun hc => by exfalso; simp at hc; exact hc hz)
    clear hc
    repeat' (first | refine wc_seq ?_ | refine wc_region ?_ | refine wl_nil ?_ | refine wn_seq ?_ | refine wn_blk ?_ | refine wc_skip ?_ | refine wc_block ?_ | refine wc_exit rfl ?_ | (show WL _ _ (_ :: _) _ _ _ _; first | refine yl_v rfl rfl rfl ?_ | refine wl_v rfl rfl rfl (by first  | fail) ?_ | refine xl_box rfl (fun _ => ?_)) | refine wc_ret rfl ?_)
    refine wc_loop (α := { i : Nat // i ≤ N.length }) (fun x => [(3, true, .pointer (some ⟨b3, 0, none⟩)), (5, true, .bool true), (10, true, .slice aa J.length acap), (12, true, .slice na N.length ncap), (15, true, i64 (x.1 : Int))]) (fun _ => St w [] [(bj, jarO jv5), (b3, .cells [str c.name, str c.value, str c.path, i64 c.age, .bool c.secure, .bool c.http].toArray 28 (0, 0))] M6) (fun x => N.length - x.1) ⟨0, Nat.zero_le _⟩ (by first | exact Sub.nil _ | (repeat (first | exact Sub.nil _ | refine Sub.cons (by first | rfl | (simp [look]; done)) ?_))) (fun _ h => h) ?_
    rintro ⟨i3, hi3⟩
    dsimp only
    by_cases hlt3 : i3 < N.length
    · have hne : N ≠ [] := by rintro rfl; simp at hlt3
      obtain ⟨rfl, hMb⟩ := n3 hne
      have hnx := hno (N.getD i3 default) (by have e : N.getD i3 default = N[i3] := by simp [hlt3]
                                              rw [e]; exact List.getElem_mem _)
      have e0 : ncs[no + i3 * 6 + 0]? = some (str (N.getD i3 default).name) := n4 i3 hlt3 0 (by rw [ckCells_length]; decide)
      have e2 : ncs[no + i3 * 6 + 2]? = some (str (N.getD i3 default).path) := n4 i3 hlt3 2 (by rw [ckCells_length]; decide)
      generalize N.getD i3 default = x at *
      repeat' (first | refine wc_seq ?_ | refine wc_region ?_ | refine wl_nil ?_ | refine wn_seq ?_ | refine wn_blk ?_ | refine wc_skip ?_ | refine wc_block ?_ | refine wc_exit rfl ?_ | (show WL _ _ (_ :: _) _ _ _ _; first | refine yl_v rfl rfl rfl ?_ | refine wl_v rfl rfl rfl (by first  | fail) ?_ | refine xl_box rfl (fun _ => ?_)) | refine wc_ret rfl ?_)
      refine wc_cond rfl (fun hc => ?_) (fun hc => by exfalso; simp at hc; omega)
      clear hc
      repeat' (first | refine wc_seq ?_ | refine wc_region ?_ | refine wl_nil ?_ | refine wn_seq ?_ | refine wn_blk ?_ | refine wc_skip ?_ | refine wc_block ?_ | refine wc_exit rfl ?_ | (show WL _ _ (_ :: _) _ _ _ _; first | refine yl_v rfl rfl rfl ?_ | refine wl_v rfl rfl rfl (by first  | fail) ?_ | refine xl_box rfl (fun _ => ?_)) | refine wc_ret rfl ?_)
      refine wc_draw 18 (by kernel_rfl) rfl (by kernel_rfl) (fun _ _ h k => h.ext k) ?_
      repeat' (first | (show WD _ _ (_ :: _) _ _ _ _ _ _; first | refine yd_v rfl rfl rfl rfl rfl rfl ?_ | refine wd_v rfl rfl rfl rfl rfl rfl (by first | (show OpV _ _ _ _ (Oper.mk _ (Op.indexAddr _ _ _) _ _ _ _) _ _; exact ov_indexAddr (i := i3) (b := nb) (o := no) rfl rfl rfl (by first | with_reducible exact fun _ => rfl | with_reducible exact fun h => h | exact fun _ => rfl | exact fun h => h | (intro himp; simp_all; done)) (by first | with_reducible exact fun _ => rfl | with_reducible exact fun h => h | exact fun _ => rfl | exact fun h => h | (intro himp; simp_all; done)) rfl (by first | exact (rfl : _ = some 1) | exact (rfl : _ = some 2) | exact (rfl : _ = some 3) | exact (rfl : _ = some 4) | exact (rfl : _ = some 6) | exact rfl) (fun _ => rfl) (fun _ => hlt3)) | (show OpV _ _ _ _ (Oper.mk _ (Op.load _ _) _ _ _ _) _ _; first | exact ov_load1M rfl (by first | with_reducible exact fun _ => rfl | with_reducible exact fun h => h | exact fun _ => rfl | exact fun h => h | (intro himp; simp_all; done)) rfl rfl (fun _ => hMb) (fun _ => e0) | exact ov_load1M rfl (by first | with_reducible exact fun _ => rfl | with_reducible exact fun h => h | exact fun _ => rfl | exact fun h => h | (intro himp; simp_all; done)) rfl rfl (fun _ => hMb) (fun _ => e2) | exact ov_load1 rfl (by first | with_reducible exact fun _ => rfl | with_reducible exact fun h => h | exact fun _ => rfl | exact fun h => h | (intro himp; simp_all; done)) rfl rfl (List.Mem.tail _ (List.Mem.head _)) rfl) | fail) ?_ | refine yd_new rfl rfl rfl rfl rfl rfl ?_ | refine wd_conv rfl rfl rfl rfl rfl rfl rfl rfl rfl rfl ?_) | (show WD _ _ _ _ _ _ _ _ _; first | refine wd_nil ?_ | refine wd_nil1 (wl_fresh (fun _ => ?_))) | (first | refine wc_seq ?_ | refine wc_region ?_ | refine wl_nil ?_ | refine wn_seq ?_ | refine wn_blk ?_ | refine wc_skip ?_ | refine wc_block ?_ | refine wc_exit rfl ?_ | (show WL _ _ (_ :: _) _ _ _ _; first | refine yl_v rfl rfl rfl ?_ | refine wl_v rfl rfl rfl (by first | (show OpV _ _ _ _ (Oper.mk _ (Op.indexAddr _ _ _) _ _ _ _) _ _; exact ov_indexAddr (i := i3) (b := nb) (o := no) rfl rfl rfl (by first | with_reducible exact fun _ => rfl | with_reducible exact fun h => h | exact fun _ => rfl | exact fun h => h | (intro himp; simp_all; done)) (by first | with_reducible exact fun _ => rfl | with_reducible exact fun h => h | exact fun _ => rfl | exact fun h => h | (intro himp; simp_all; done)) rfl (by first | exact (rfl : _ = some 1) | exact (rfl : _ = some 2) | exact (rfl : _ = some 3) | exact (rfl : _ = some 4) | exact (rfl : _ = some 6) | exact rfl) (fun _ => rfl) (fun _ => hlt3)) | (show OpV _ _ _ _ (Oper.mk _ (Op.load _ _) _ _ _ _) _ _; first | exact ov_load1M rfl (by first | with_reducible exact fun _ => rfl | with_reducible exact fun h => h | exact fun _ => rfl | exact fun h => h | (intro himp; simp_all; done)) rfl rfl (fun _ => hMb) (fun _ => e0) | exact ov_load1M rfl (by first | with_reducible exact fun _ => rfl | with_reducible exact fun h => h | exact fun _ => rfl | exact fun h => h | (intro himp; simp_all; done)) rfl rfl (fun _ => hMb) (fun _ => e2) | exact ov_load1 rfl (by first | with_reducible exact fun _ => rfl | with_reducible exact fun h => h | exact fun _ => rfl | exact fun h => h | (intro himp; simp_all; done)) rfl rfl (List.Mem.tail _ (List.Mem.head _)) rfl) | fail) ?_ | refine xl_box rfl (fun _ => ?_)) | refine wc_ret rfl ?_))
      repeat' (first | refine wc_seq ?_ | refine wc_region ?_ | refine wl_nil ?_ | refine wn_seq ?_ | refine wn_blk ?_ | refine wc_skip ?_ | refine wc_block ?_ | refine wc_exit rfl ?_ | (show WL _ _ (_ :: _) _ _ _ _; first | refine yl_v rfl rfl rfl ?_ | refine wl_v rfl rfl rfl (by first  | fail) ?_ | refine xl_box rfl (fun _ => ?_)) | refine wc_ret rfl ?_)
      refine wc_cond rfl (fun hc => by exfalso; simp at hc; exact hnx hc) (fun hc => ?_)
      repeat' (first | refine wc_seq ?_ | refine wc_region ?_ | refine wl_nil ?_ | refine wn_seq ?_ | refine wn_blk ?_ | refine wc_skip ?_ | refine wc_block ?_ | refine wc_exit rfl ?_ | (show WL _ _ (_ :: _) _ _ _ _; first | refine yl_v rfl rfl rfl ?_ | refine wl_v rfl rfl rfl (by first  | fail) ?_ | refine xl_box rfl (fun _ => ?_)) | refine wc_ret rfl ?_)
      exact wn_cut ⟨i3 + 1, by omega⟩ (by show N.length - (i3 + 1) < N.length - i3; omega) (by first | exact Sub.nil _ | (repeat (first | exact Sub.nil _ | refine Sub.cons (by first | rfl | (simp [look]; done)) ?_))) (fun _ h => h)
    repeat' (first | refine wc_seq ?_ | refine wc_region ?_ | refine wl_nil ?_ | refine wn_seq ?_ | refine wn_blk ?_ | refine wc_skip ?_ | refine wc_block ?_ | refine wc_exit rfl ?_ | (show WL _ _ (_ :: _) _ _ _ _; first | refine yl_v rfl rfl rfl ?_ | refine wl_v rfl rfl rfl (by first  | fail) ?_ | refine xl_box rfl (fun _ => ?_)) | refine wc_ret rfl ?_)
    refine wc_cond rfl (fun hc => by exfalso; simp at hc; omega) (fun hc => ?_)
    repeat' (first | refine wc_seq ?_ | refine wc_region ?_ | refine wl_nil ?_ | refine wn_seq ?_ | refine wn_blk ?_ | refine wc_skip ?_ | refine wc_block ?_ | refine wc_exit rfl ?_ | (show WL _ _ (_ :: _) _ _ _ _; first | refine yl_v rfl rfl rfl ?_ | refine wl_v rfl rfl rfl (by first  | fail) ?_ | refine xl_box rfl (fun _ => ?_)) | refine wc_ret rfl ?_)
    exact wr_weak (fun _ h => h.drop (List.nil_sublist _)) (wr_tmp rfl rfl (congrArg Value.bool (by simp; omega)))
  · obtain ⟨K, hK⟩ : ∃ K, N = K ++ [c] := ⟨_, by rw [hNe]; unfold laidC; rw [if_neg hz]⟩
    have hNp : 0 < N.length := by rw [hK]; simp
    have hlast : N.getD (N.length - 1) default = c := by rw [hK]; simp
    obtain ⟨rfl, hMb⟩ := n3 (by rw [hK]; simp)
    have hcl := n4 (N.length - 1) (by omega)
    rw [hlast] at hcl
    have hcl2 : ∀ k, k < [str c.name, str c.value, str c.path, i64 c.age, .bool c.secure, .bool c.http].length → ncs[no + (N.length - 1) * 6 + k]? = [str c.name, str c.value, str c.path, i64 c.age, .bool c.secure, .bool c.http][k]? := hcl
    refine wc_cond rfl (fun hc => by exfalso; simp at hc; exact hz hc) (fun hc => ?_)
    clear hc
    repeat' (first | refine wc_seq ?_ | refine wc_region ?_ | refine wl_nil ?_ | refine wn_seq ?_ | refine wn_blk ?_ | refine wc_skip ?_ | refine wc_block ?_ | refine wc_exit rfl ?_ | (show WL _ _ (_ :: _) _ _ _ _; first | refine yl_v rfl rfl rfl ?_ | refine wl_v rfl rfl rfl (by first  | fail) ?_ | refine xl_box rfl (fun _ => ?_)) | refine wc_ret rfl ?_)
    refine wc_draw 13 (by kernel_rfl) rfl (by kernel_rfl) (fun _ _ h k => h.ext k) ?_
    repeat' (first | (show WD _ _ (_ :: _) _ _ _ _ _ _; first | refine yd_v rfl rfl rfl rfl rfl rfl ?_ | refine wd_v rfl rfl rfl rfl rfl rfl (by first | (show OpV _ _ _ _ (Oper.mk _ (Op.indexAddr _ _ _) _ _ _ _) _ _; exact ov_indexAddr (i := N.length - 1) (b := nb) (o := no) rfl rfl (by omega) (by first | with_reducible exact fun _ => rfl | with_reducible exact fun h => h | exact fun _ => rfl | exact fun h => h | (intro himp; simp_all; done)) (by first | with_reducible exact fun _ => rfl | with_reducible exact fun h => h | exact fun _ => rfl | exact fun h => h | (intro himp; simp_all; done)) rfl (by first | exact (rfl : _ = some 1) | exact (rfl : _ = some 2) | exact (rfl : _ = some 3) | exact (rfl : _ = some 4) | exact (rfl : _ = some 6) | exact rfl) (fun _ => rfl) (fun _ => by omega)) | (show OpV _ _ _ _ (Oper.mk _ (Op.load _ _) _ _ _ _) _ _; first | exact ov_loadSM rfl (by first | with_reducible exact fun _ => rfl | with_reducible exact fun h => h | exact fun _ => rfl | exact fun h => h | (intro himp; simp_all; done)) rfl (by rfl) (fun _ => hMb) (fun _ => hcl2) | exact ov_loadS rfl (by first | with_reducible exact fun _ => rfl | with_reducible exact fun h => h | exact fun _ => rfl | exact fun h => h | (intro himp; simp_all; done)) rfl rfl (List.Mem.tail _ (List.Mem.head _))) | fail) ?_ | refine yd_new rfl rfl rfl rfl rfl rfl ?_ | refine wd_conv rfl rfl rfl rfl rfl rfl rfl rfl rfl rfl ?_) | (show WD _ _ _ _ _ _ _ _ _; first | refine wd_nil ?_ | refine wd_nil1 (wl_fresh (fun _ => ?_))) | (first | refine wc_seq ?_ | refine wc_region ?_ | refine wl_nil ?_ | refine wn_seq ?_ | refine wn_blk ?_ | refine wc_skip ?_ | refine wc_block ?_ | refine wc_exit rfl ?_ | (show WL _ _ (_ :: _) _ _ _ _; first | refine yl_v rfl rfl rfl ?_ | refine wl_v rfl rfl rfl (by first | (show OpV _ _ _ _ (Oper.mk _ (Op.indexAddr _ _ _) _ _ _ _) _ _; exact ov_indexAddr (i := N.length - 1) (b := nb) (o := no) rfl rfl (by omega) (by first | with_reducible exact fun _ => rfl | with_reducible exact fun h => h | exact fun _ => rfl | exact fun h => h | (intro himp; simp_all; done)) (by first | with_reducible exact fun _ => rfl | with_reducible exact fun h => h | exact fun _ => rfl | exact fun h => h | (intro himp; simp_all; done)) rfl (by first | exact (rfl : _ = some 1) | exact (rfl : _ = some 2) | exact (rfl : _ = some 3) | exact (rfl : _ = some 4) | exact (rfl : _ = some 6) | exact rfl) (fun _ => rfl) (fun _ => by omega)) | (show OpV _ _ _ _ (Oper.mk _ (Op.load _ _) _ _ _ _) _ _; first | exact ov_loadSM rfl (by first | with_reducible exact fun _ => rfl | with_reducible exact fun h => h | exact fun _ => rfl | exact fun h => h | (intro himp; simp_all; done)) rfl (by rfl) (fun _ => hMb) (fun _ => hcl2) | exact ov_loadS rfl (by first | with_reducible exact fun _ => rfl | with_reducible exact fun h => h | exact fun _ => rfl | exact fun h => h | (intro himp; simp_all; done)) rfl rfl (List.Mem.tail _ (List.Mem.head _))) | fail) ?_ | refine xl_box rfl (fun _ => ?_)) | refine wc_ret rfl ?_))
    repeat' (first | refine wc_seq ?_ | refine wc_region ?_ | refine wl_nil ?_ | refine wn_seq ?_ | refine wn_blk ?_ | refine wc_skip ?_ | refine wc_block ?_ | refine wc_exit rfl ?_ | (show WL _ _ (_ :: _) _ _ _ _; first | refine yl_v rfl rfl rfl ?_ | refine wl_v rfl rfl rfl (by first  | fail) ?_ | refine xl_box rfl (fun _ => ?_)) | refine wc_ret rfl ?_)
    refine wc_cond rfl (fun hc => by exfalso; simp at hc; rw [hc] at hNp; simp at hNp) (fun hc => ?_)
    clear hc
    repeat' (first | refine wc_seq ?_ | refine wc_region ?_ | refine wl_nil ?_ | refine wn_seq ?_ | refine wn_blk ?_ | refine wc_skip ?_ | refine wc_block ?_ | refine wc_exit rfl ?_ | (show WL _ _ (_ :: _) _ _ _ _; first | refine yl_v rfl rfl rfl ?_ | refine wl_v rfl rfl rfl (by first  | fail) ?_ | refine xl_box rfl (fun _ => ?_)) | refine wc_ret rfl ?_)
    refine wl_callY (b := bj) (H := [(b3, .cells [str c.name, str c.value, str c.path, i64 c.age, .bool c.secure, .bool c.http].toArray 28 (0, 0))]) rfl Tryd.call16 rfl rfl rfl rfl (fun w hw => jpairs_ok hJ60 (by omega) hNm c.path true (by omega) hw) ?_
    rintro pv M7 _ hm7 hn7 ⟨rfl, hP⟩
    rw [hK, pairs_last] at hP
    have hQp : 0 < (pairsP K c.path true ++ [(c.name, c.value)]).length := by simp
    have hQl : (pairsP K c.path true ++ [(c.name, c.value)]).getD ((pairsP K c.path true ++ [(c.name, c.value)]).length - 1) default = (c.name, c.value) := by simp
    have hP : SlP M7 pv (pairsP K c.path true ++ [(c.name, c.value)]) := hP
    generalize pairsP K c.path true ++ [(c.name, c.value)] = Q at *
    obtain ⟨pa, pcap, pb, po, pcs, pT, pfz, rfl, p1, p2, p3, p4⟩ := hP.open
    obtain ⟨rfl, hMp⟩ := p3 (by rintro rfl; simp at hQp)
    have hpc : ∀ k, k < [str (Q.getD (Q.length - 1) default).1, str (Q.getD (Q.length - 1) default).2].length → pcs[po + (Q.length - 1) * 2 + k]? = [str (Q.getD (Q.length - 1) default).1, str (Q.getD (Q.length - 1) default).2][k]? := pcell (p4 (Q.length - 1) (by omega))
    rw [hQl] at hpc
    repeat' (first | refine wc_seq ?_ | refine wc_region ?_ | refine wl_nil ?_ | refine wn_seq ?_ | refine wn_blk ?_ | refine wc_skip ?_ | refine wc_block ?_ | refine wc_exit rfl ?_ | (show WL _ _ (_ :: _) _ _ _ _; first | refine yl_v rfl rfl rfl ?_ | refine wl_v rfl rfl rfl (by first  | fail) ?_ | refine xl_box rfl (fun _ => ?_)) | refine wc_ret rfl ?_)
    refine wc_draw 20 (by kernel_rfl) rfl (by kernel_rfl) (fun _ _ h k => h.ext k) ?_
    repeat' (first | ((show WD _ _ (Oper.mk _ (Op.binOp BinOp.gtr _ _ _ _) _ _ _ _ :: _) _ _ _ _ _ _; refine wd_v rfl rfl rfl rfl rfl rfl (opv_eq (ov_gtr rfl rfl (by first | with_reducible exact fun _ => rfl | with_reducible exact fun h => h | exact fun _ => rfl | exact fun h => h | (intro himp; simp_all; done)) (by first | with_reducible exact fun _ => rfl | with_reducible exact fun h => h | exact fun _ => rfl | exact fun h => h | (intro himp; simp_all; done))) (decide_eq_true (by omega))) ?_)) | (show WD _ _ (_ :: _) _ _ _ _ _ _; first | refine yd_v rfl rfl rfl rfl rfl rfl ?_ | refine wd_v rfl rfl rfl rfl rfl rfl (by first | (show OpV _ _ _ _ (Oper.mk _ (Op.indexAddr _ _ _) _ _ _ _) _ _; exact ov_indexAddr (i := Q.length - 1) (b := pb) (o := po) rfl rfl (by omega) (by first | with_reducible exact fun _ => rfl | with_reducible exact fun h => h | exact fun _ => rfl | exact fun h => h | (intro himp; simp_all; done)) (by first | with_reducible exact fun _ => rfl | with_reducible exact fun h => h | exact fun _ => rfl | exact fun h => h | (intro himp; simp_all; done)) rfl (by first | exact (rfl : _ = some 1) | exact (rfl : _ = some 2) | exact (rfl : _ = some 3) | exact (rfl : _ = some 4) | exact (rfl : _ = some 6) | exact rfl) (fun _ => rfl) (fun _ => by omega)) | (show OpV _ _ _ _ (Oper.mk _ (Op.load _ _) _ _ _ _) _ _; first | exact ov_loadSM rfl (by first | with_reducible exact fun _ => rfl | with_reducible exact fun h => h | exact fun _ => rfl | exact fun h => h | (intro himp; simp_all; done)) rfl (by rfl) (fun _ => hMp) (fun _ => hpc) | exact ov_load1 rfl (by first | with_reducible exact fun _ => rfl | with_reducible exact fun h => h | exact fun _ => rfl | exact fun h => h | (intro himp; simp_all; done)) rfl rfl (List.Mem.tail _ (List.Mem.head _)) rfl) | fail) ?_ | refine yd_new rfl rfl rfl rfl rfl rfl ?_ | refine wd_conv rfl rfl rfl rfl rfl rfl rfl rfl rfl rfl ?_) | (show WD _ _ _ _ _ _ _ _ _; first | refine wd_nil ?_ | refine wd_nil1 (wl_fresh (fun _ => ?_))) | (first | refine wc_seq ?_ | refine wc_region ?_ | refine wl_nil ?_ | refine wn_seq ?_ | refine wn_blk ?_ | refine wc_skip ?_ | refine wc_block ?_ | refine wc_exit rfl ?_ | (show WL _ _ (_ :: _) _ _ _ _; first | refine yl_v rfl rfl rfl ?_ | refine wl_v rfl rfl rfl (by first | (show OpV _ _ _ _ (Oper.mk _ (Op.indexAddr _ _ _) _ _ _ _) _ _; exact ov_indexAddr (i := Q.length - 1) (b := pb) (o := po) rfl rfl (by omega) (by first | with_reducible exact fun _ => rfl | with_reducible exact fun h => h | exact fun _ => rfl | exact fun h => h | (intro himp; simp_all; done)) (by first | with_reducible exact fun _ => rfl | with_reducible exact fun h => h | exact fun _ => rfl | exact fun h => h | (intro himp; simp_all; done)) rfl (by first | exact (rfl : _ = some 1) | exact (rfl : _ = some 2) | exact (rfl : _ = some 3) | exact (rfl : _ = some 4) | exact (rfl : _ = some 6) | exact rfl) (fun _ => rfl) (fun _ => by omega)) | (show OpV _ _ _ _ (Oper.mk _ (Op.load _ _) _ _ _ _) _ _; first | exact ov_loadSM rfl (by first | with_reducible exact fun _ => rfl | with_reducible exact fun h => h | exact fun _ => rfl | exact fun h => h | (intro himp; simp_all; done)) rfl (by rfl) (fun _ => hMp) (fun _ => hpc) | exact ov_load1 rfl (by first | with_reducible exact fun _ => rfl | with_reducible exact fun h => h | exact fun _ => rfl | exact fun h => h | (intro himp; simp_all; done)) rfl rfl (List.Mem.tail _ (List.Mem.head _)) rfl) | fail) ?_ | refine xl_box rfl (fun _ => ?_)) | refine wc_ret rfl ?_))
    repeat' (first | refine wc_seq ?_ | refine wc_region ?_ | refine wl_nil ?_ | refine wn_seq ?_ | refine wn_blk ?_ | refine wc_skip ?_ | refine wc_block ?_ | refine wc_exit rfl ?_ | (show WL _ _ (_ :: _) _ _ _ _; first | refine yl_v rfl rfl rfl ?_ | refine wl_v rfl rfl rfl (by first  | fail) ?_ | refine xl_box rfl (fun _ => ?_)) | refine wc_ret rfl ?_)
    exact wr_weak (fun _ h => h.drop (List.nil_sublist _)) (wr_tmp rfl rfl (congrArg Value.bool (by simp)))
end Go.Proofs.YtmfelfhingmmbaaDoor
/-
  Arguments opened: what the reading of an argument says of memory, with the sizes that a row allows. Nothing of the program stands here.
-/
namespace Go.Eng
open Go.RowKit Go.ChangeShapes Go.WideShapes

/-- all that stands in a world -/
def All (W : World) : Ghost := fun b o => W.heap[b]? = some o
theorem all_laid (W : World) : Laid (All W) W := fun _ _ h => h
theorem cell_inv {W : World} {g i : Nat} {v : Value} (h : W.cell? ⟨g, i, none⟩ = some v) : ∃ cs T fz, W.heap[g]? = some (.cells cs T fz) ∧ cs[i]? = some v := by
  unfold World.cell? at h
  split at h
  · rename_i cs T fz e; exact ⟨cs, T, fz, e, by simpa using h⟩
  · cases h
/-- a datum's sizes -/
def Wt {H : Type} (P : Program) (t : TypeId) (d : DataW H) : Prop := ∀ n ∈ d.weights P t, n ≤ reachBytes
/-- how the cells of a type open -/
structure Opens (P : Program) (w : World) (t : TypeId) {α : Type} (R : α → List Value → Prop) : Prop where
  go : ∀ {H : Type} (enc : TypeId × Value → H) (fuel : Nat) (cs : List Value) (d : DataW H) (ps : List MemPlace), DataW.trod enc P w 0 (fun _ => true) true fuel t cs = some (d, ps) → Wt P t d → ∃ x, R x cs
section
variable {P : Program} {w : World} {t : TypeId}
theorem str_of (s : ByteArray) : Value.string s = str s.data.toList := by cases s; simp
theorem opens_str (ht : P.underlying t = some .string) : Opens P w t (fun s vs => vs = [str s] ∧ s.length ≤ reachBytes) := ⟨fun enc fuel cs d ps h hw => by
  obtain ⟨s, e1, e2, _⟩ := DataW.trod_string ht h
  simp only [Prod.mk.injEq] at e2
  refine ⟨s.data.toList, by rw [e1, str_of], ?_⟩
  exact hw _ (by rw [e2.1]; simp [DataW.weights])⟩
theorem opens_bool (ht : P.underlying t = some .bool) : Opens P w t (fun b vs => vs = [.bool b]) := ⟨fun enc fuel cs d ps h hw => by
  cases fuel with
  | zero => simp [DataW.trod] at h
  | succ n =>
    unfold DataW.trod at h
    rw [ht] at h
    split at h <;> simp_all⟩
theorem opens_int {k : IntKind} (ht : P.underlying t = some (.int k)) : Opens P w t (fun z vs => vs = [.int k z] ∧ k.min ≤ z ∧ z ≤ k.max) := ⟨fun enc fuel cs d ps h hw => by
  obtain ⟨z, e1, _, hwf⟩ := DataW.trod_int ht h
  refine ⟨z, e1, ?_⟩
  simpa [Lit.wf] using hwf⟩
theorem wt_all {H : Type} {e : TypeId} {d : DataW H} : ∀ {ds : List (DataW H)}, d ∈ ds → ∀ n ∈ d.weights P e, n ∈ DataW.weightsAll P e ds
  | x :: ds, hd, n, hn => by
    simp only [DataW.weightsAll, List.mem_append]
    rcases List.mem_cons.1 hd with rfl | hd
    · exact .inl hn
    · exact .inr (wt_all hd n hn)
theorem opens_slice {e : TypeId} {m : Nat} {α : Type} {R : α → List Value → Prop} (ht : P.underlying t = some (.slice e)) (hc : P.cellsOf e = m) (hm : 0 < m) (he : Opens P w e R) :
    Opens P w t (fun (l : List α) vs => ∃ v, vs = [v] ∧ Sl (All w) m R v l ∧ l.length * P.bytesOf e ≤ reachBytes) := ⟨fun enc fuel cs d ps h hw => by
  rcases Go.Deep.open_slice ht h with ⟨rfl, _⟩ | ⟨a, len, cap, q, n, D, Pl, rfl, _, hl, hcm, hq, hx, hel⟩
  · exact ⟨[], _, rfl, sl_nil, by simp⟩
  · simp only [if_true] at hq
    subst hq
    simp only [Prod.mk.injEq] at hx
    have hwt : ∀ i, i < len → Wt P e (D i) := by
      intro i hi k hk
      refine hw k ?_
      rw [hx.1]
      simp only [DataW.weights, ht, List.mem_cons, List.mem_append]
      exact .inr (.inl (wt_all (List.mem_map.2 ⟨i, by simpa using hi, rfl⟩) k hk))
    have hbytes : len * P.bytesOf e ≤ reachBytes := by
      refine Nat.le_trans (Nat.mul_le_mul_right _ (Nat.le_add_right len (q - len))) (hw ((len + (q - len)) * P.bytesOf e) ?_)
      rw [hx.1]
      simp [DataW.weights, ht]
    have each : ∀ i, i < len → ∃ y : α, ∃ cs' : List Value, cs'.length = m ∧ R y cs' ∧ ∀ j, j < m → w.cell? (a.add (i * m + j)) = cs'[j]? := by
      intro i hi
      obtain ⟨cs', h1, h2⟩ := hel i (by omega)
      rw [hc] at h1
      obtain ⟨_, hlen, hcell⟩ := World.cells?_some h1
      obtain ⟨y, hy⟩ := he.go enc n cs' (D i) (Pl i) h2 (hwt i hi)
      exact ⟨y, cs', hlen, hy, fun j hj => by rw [← hcell j hj, Go.Deep.add_add]⟩
    have hmax : len ≤ 9223372036854775807 := by unfold maxLen at hcm; omega
    by_cases h0 : len = 0
    · subst h0
      exact ⟨[], _, rfl, ⟨some a, q, rfl, Nat.zero_le _, by simp, fun h => absurd rfl h⟩, by simp⟩
    · obtain ⟨y0, cs0, hl0, _, hc0⟩ := each 0 (by omega)
      have hc00 := hc0 0 hm
      have hsome : ∃ v, cs0[0]? = some v := ⟨cs0[0]'(by omega), by simp [show 0 < cs0.length by omega]⟩
      obtain ⟨v0, hv0⟩ := hsome
      rw [hv0] at hc00
      simp only [Nat.zero_mul, Nat.add_zero, Addr.add, if_true] at hc00
      obtain ⟨b, o, spot⟩ := a
      cases spot with
      | some x =>
        simp only [World.cell?] at hc00
        split at hc00
        · simp at hc00
        · cases hc00
      | none =>
        obtain ⟨cells, T, fz, hh, _⟩ := cell_inv hc00
        have : ∀ n, n ≤ len → ∃ l : List α, l.length = n ∧ ∀ i (hi : i < l.length), ∃ vs, vs.length = m ∧ R l[i] vs ∧ ∀ j, j < m → cells[o + i * m + j]? = vs[j]? := by
          intro n
          induction n with
          | zero => intro _; exact ⟨[], rfl, fun i hi => absurd hi (by simp)⟩
          | succ n ih =>
            intro hn
            obtain ⟨l, hl', hall⟩ := ih (by omega)
            obtain ⟨y, cs', h1, h2, h3⟩ := each n (by omega)
            refine ⟨l ++ [y], by simp [hl'], fun i hi => ?_⟩
            by_cases hin : i < l.length
            · obtain ⟨vs, g1, g2, g3⟩ := hall i hin
              exact ⟨vs, g1, by rw [List.getElem_append_left hin]; exact g2, g3⟩
            · have : i = n := by simp at hi; omega
              subst this
              refine ⟨cs', h1, ?_, fun j hj => ?_⟩
              · rw [List.getElem_append_right (by omega)]; simpa using h2
              · rw [← h3 j hj]
                have hadd : ∀ k, (⟨b, o, none⟩ : Addr).add k = ⟨b, o + k, none⟩ := by
                  intro k; unfold Addr.add; split
                  · simp_all
                  · rfl
                rw [hadd, cell_of hh, Nat.add_assoc]
        obtain ⟨l, hl', hall⟩ := this len (Nat.le_refl _)
        subst hl'
        exact ⟨l, _, rfl, ⟨some ⟨b, o, none⟩, q, rfl, hl, hmax, fun _ => ⟨b, o, cells, T, fz, rfl, hh, hall⟩⟩, hbytes⟩⟩
theorem wt_each {H : Type} : ∀ {ts : List TypeId} {ds : List (DataW H)} {j : Nat} {t : TypeId} {d : DataW H}, ts[j]? = some t → ds[j]? = some d → (∀ n ∈ DataW.weightsEach P ts ds, n ≤ reachBytes) → Wt P t d :=
  fun ht hd h n hn => h n (DataW.weights_mem_each ht hd n hn)
/-- a struct whose fields are of one cell each -/
theorem open_fields {fs : Array Field} (ht : P.underlying t = some (.struct fs)) (hone : (fs.toList.zipIdx.all fun x => Nat.beq x.1.offset x.2 && Nat.beq (P.cellsOf x.1.type) 1) = true) (hct : P.cellsOf t = fs.size)
    {H : Type} (enc : TypeId × Value → H) (fuel : Nat) (cs : List Value) (d : DataW H) (ps : List MemPlace) (h : DataW.trod enc P w 0 (fun _ => true) true fuel t cs = some (d, ps)) (hw : Wt P t d) :
    cs.length = fs.size ∧ ∀ (i : Nat) (f : Field), fs[i]? = some f → ∃ v, cs[i]? = some v ∧ ∀ {α : Type} {R : α → List Value → Prop}, Opens P w f.type R → ∃ x, R x [v] := by
  obtain ⟨xs, n, rfl, e, hl, hxl, hf⟩ := DataW.trod_struct ht h
  simp only [Prod.mk.injEq] at e
  rw [hct] at hl
  refine ⟨hl, fun i f hfi => ?_⟩
  have hi : i < fs.size := by
    rcases Nat.lt_or_ge i fs.size with h' | h'
    · exact h'
    · simp [Array.getElem?_eq_none h'] at hfi
  have h1 := List.all_eq_true.1 hone (f, i) (by
    rw [List.mem_zipIdx_iff_getElem?]
    simpa using hfi)
  simp only [Bool.and_eq_true] at h1
  have ho : f.offset = i := Nat.eq_of_beq_eq_true h1.1
  have hc1 : P.cellsOf f.type = 1 := Nat.eq_of_beq_eq_true h1.2
  have hg := hf i f hfi
  have hcs : i < cs.length := by omega
  rw [ho, hc1, List.drop_eq_getElem_cons hcs, List.take_succ_cons, List.take_zero] at hg
  refine ⟨cs[i], by simp [hcs], fun {α R} hR => ?_⟩
  have hxi : i < xs.length := by omega
  rw [List.getElem?_eq_getElem hxi] at hg
  refine hR.go enc n [cs[i]] (xs[i]).1 (xs[i]).2 hg ?_
  intro k hk
  refine hw k ?_
  rw [e.1]
  simp only [DataW.weights, ht]
  exact DataW.weights_mem_each (j := i) (t := f.type) (d := (xs[i]).1) (by simp [hfi]) (by simp [hxi]) k hk
/-- a pair of texts -/
def IsPr (p : List UInt8 × List UInt8) (vs : List Value) : Prop := vs = [str p.1, str p.2] ∧ p.1.length ≤ reachBytes ∧ p.2.length ≤ reachBytes
theorem two_cells {cs : List Value} {v0 v1 : Value} (hl : cs.length = 2) (h0 : cs[0]? = some v0) (h1 : cs[1]? = some v1) : cs = [v0, v1] := by
  match cs, hl with
  | [a, b], _ => simp at h0 h1; rw [h0, h1]
theorem opens_pr {f0 f1 : Field} (ht : P.underlying t = some (.struct #[f0, f1])) (hone : ((#[f0, f1] : Array Field).toList.zipIdx.all fun x => Nat.beq x.1.offset x.2 && Nat.beq (P.cellsOf x.1.type) 1) = true) (hct : P.cellsOf t = 2)
    (t0 : P.underlying f0.type = some .string) (t1 : P.underlying f1.type = some .string) : Opens P w t IsPr := ⟨fun enc fuel cs d ps h hw => by
  obtain ⟨hl, hf⟩ := open_fields ht hone hct enc fuel cs d ps h hw
  obtain ⟨v0, e0, g0⟩ := hf 0 f0 rfl
  obtain ⟨v1, e1, g1⟩ := hf 1 f1 rfl
  obtain ⟨s0, k0, b0⟩ := g0 (opens_str t0)
  obtain ⟨s1, k1, b1⟩ := g1 (opens_str t1)
  simp only [List.cons.injEq, and_true] at k0 k1
  refine ⟨(s0, s1), ?_, b0, b1⟩
  rw [two_cells hl e0 e1, k0, k1]⟩
/-- an argument -/
theorem open_arg {α : Type} {R : α → List Value → Prop} (hR : Opens P w t R) {H : Type} {enc : TypeId × Value → H} {v : Value} {d : DataW H} {ps : List MemPlace} (h : DataW.Trod enc P w 0 (fun _ => true) true t v d ps) (hw : Wt P t d) : ∃ x, R x v.cells.toList := by
  obtain ⟨fuel, hf⟩ := h
  exact hR.go enc fuel _ d ps hf hw
theorem sl_slS {M : Ghost} {v : Value} {l : List (List UInt8)} (h : Sl M 1 (fun s vs => vs = [str s] ∧ s.length ≤ reachBytes) v l) : SlS M v l ∧ ∀ s ∈ l, s.length ≤ reachBytes := by
  refine ⟨h.mono (fun _ _ h => h) (fun _ _ _ h => h.1), fun s hs => ?_⟩
  obtain ⟨_, _, _, _, _, h4⟩ := h
  obtain ⟨b, o, cs, T, fz, _, _, h7⟩ := h4 (by rintro rfl; cases hs)
  obtain ⟨i, hi, rfl⟩ := List.mem_iff_getElem.1 hs
  obtain ⟨vs, _, hR, _⟩ := h7 i hi
  exact hR.2
theorem sl_slP {M : Ghost} {v : Value} {l : List (List UInt8 × List UInt8)} (h : Sl M 2 IsPr v l) : SlP M v l ∧ ∀ p ∈ l, p.1.length ≤ reachBytes ∧ p.2.length ≤ reachBytes := by
  refine ⟨h.mono (fun _ _ h => h) (fun _ _ _ h => h.1), fun s hs => ?_⟩
  obtain ⟨_, _, _, _, _, h4⟩ := h
  obtain ⟨b, o, cs, T, fz, _, _, h7⟩ := h4 (by rintro rfl; cases hs)
  obtain ⟨i, hi, rfl⟩ := List.mem_iff_getElem.1 hs
  obtain ⟨vs, _, hR, _⟩ := h7 i hi
  exact hR.2
end
end Go.Eng
/-
  The arguments of this program's laws, opened, with the sizes that a row allows.
-/
namespace Go.Proofs.YtmfelfhingmmbaaDoor
open Go.ChangeShapes Go.WideShapes Go.RowKit Go.Eng Go.Pct
set_option maxRecDepth 100000
set_option linter.unusedVariables false
set_option linter.unusedSimpArgs false

variable {H : Type} {enc : TypeId × Value → H} {W : World} {base : Nat} {v : Value} {d : DataW H} {ps : List MemPlace}
theorem reach_le {n : Nat} (h : n ≤ reachBytes) : n ≤ 140737488355328 := Nat.le_trans h (by decide)
theorem small_of {l : List Pr} (h : ∀ p ∈ l, p.1.length ≤ reachBytes ∧ p.2.length ≤ reachBytes) : Small 140737488355328 l := fun p hp => ⟨reach_le (h p hp).1, reach_le (h p hp).2⟩
theorem opn_str : Opens Tryd.prog W 9 (fun s vs => vs = [str s] ∧ s.length ≤ reachBytes) := opens_str Tryd.underlying9
theorem opn_pr : Opens Tryd.prog W 41 IsPr := opens_pr Tryd.underlying41 (by kernel_rfl) (by kernel_rfl) Tryd.underlying9 Tryd.underlying9
theorem opn_prs : Opens Tryd.prog W 36 (fun (l : List Pr) vs => ∃ v, vs = [v] ∧ Sl (All W) 2 IsPr v l ∧ l.length * Tryd.prog.bytesOf 41 ≤ reachBytes) := opens_slice Tryd.underlying36 (by kernel_rfl) (by decide) opn_pr
theorem opn_strs : Opens Tryd.prog W 59 (fun (l : List (List UInt8)) vs => ∃ v, vs = [v] ∧ Sl (All W) 1 (fun s vs => vs = [str s] ∧ s.length ≤ reachBytes) v l ∧ l.length * Tryd.prog.bytesOf 9 ≤ reachBytes) := opens_slice Tryd.underlying59 (by kernel_rfl) (by decide) opn_str

theorem arg_str (hval : Value.okWide Tryd.prog W .any base 9 v) (hd : DataW.Trod enc Tryd.prog W 0 (fun _ => true) true 9 v d ps) (hw : Wt Tryd.prog 9 d) : ∃ s, v = str s ∧ s.length ≤ reachBytes := by
  obtain ⟨s0, rfl⟩ := okWide_string Tryd.underlying9 hval
  obtain ⟨s, hs, hl⟩ := open_arg opn_str hd hw
  simp only [Value.cells, List.cons.injEq, and_true] at hs
  exact ⟨s, hs, hl⟩
theorem arg_bool (hval : Value.okWide Tryd.prog W .any base 4 v) : ∃ b, v = .bool b := okWide_bool Tryd.underlying4 hval
theorem arg_int (hval : Value.okWide Tryd.prog W .any base 3 v) (hd : DataW.Trod enc Tryd.prog W 0 (fun _ => true) true 3 v d ps) (hw : Wt Tryd.prog 3 d) : ∃ z : Int, v = i64 z ∧ -9223372036854775808 ≤ z ∧ z ≤ 9223372036854775807 := by
  obtain ⟨z0, rfl⟩ := okWide_int Tryd.underlying3 hval
  obtain ⟨z, hz, h1, h2⟩ := open_arg (opens_int Tryd.underlying3) hd hw
  simp only [Value.cells, List.cons.injEq, and_true] at hz
  exact ⟨z, hz, h1, h2⟩
theorem arg_u8 (hval : Value.okWide Tryd.prog W .any base 5 v) (hd : DataW.Trod enc Tryd.prog W 0 (fun _ => true) true 5 v d ps) (hw : Wt Tryd.prog 5 d) : ∃ c : UInt8, v = byt c := by
  obtain ⟨z0, rfl⟩ := okWide_int Tryd.underlying5 hval
  obtain ⟨z, hz, h1, h2⟩ := open_arg (opens_int Tryd.underlying5) hd hw
  simp only [Value.cells, List.cons.injEq, and_true] at hz
  rw [hz]
  have h1 : (0 : Int) ≤ z := h1
  have h2 : z ≤ 255 := h2
  refine ⟨UInt8.ofNat z.toNat, ?_⟩
  have h3 : ((UInt8.ofNat z.toNat).toNat : Int) = z := by
    have : z.toNat < 256 := by omega
    simp [Nat.mod_eq_of_lt this]; omega
  rw [byt, h3]
theorem arg_prs (hval : Value.okWide Tryd.prog W .any base 36 v) (hd : DataW.Trod enc Tryd.prog W 0 (fun _ => true) true 36 v d ps) (hw : Wt Tryd.prog 36 d) : ∃ l : List Pr, SlP (All W) v l ∧ Small 140737488355328 l := by
  obtain ⟨a0, len, cap, rfl⟩ := okWide_slice Tryd.underlying36 hval
  obtain ⟨l, u, hu, hl, _⟩ := open_arg opn_prs hd hw
  simp only [Value.cells, List.cons.injEq, and_true] at hu
  subst hu
  exact ⟨l, (sl_slP hl).1, small_of (sl_slP hl).2⟩
theorem arg_strs (hval : Value.okWide Tryd.prog W .any base 59 v) (hd : DataW.Trod enc Tryd.prog W 0 (fun _ => true) true 59 v d ps) (hw : Wt Tryd.prog 59 d) : ∃ l : List (List UInt8), SlS (All W) v l ∧ ∀ s ∈ l, s.length ≤ 140737488355328 := by
  obtain ⟨a0, len, cap, rfl⟩ := okWide_slice Tryd.underlying59 hval
  obtain ⟨l, u, hu, hl, _⟩ := open_arg opn_strs hd hw
  simp only [Value.cells, List.cons.injEq, and_true] at hu
  subst hu
  exact ⟨l, (sl_slS hl).1, fun s hs => reach_le ((sl_slS hl).2 s hs)⟩
theorem arg_agg {t : TypeId} {fs : Array Field} (ht : Tryd.prog.underlying t = some (.struct fs)) (hval : Value.okWide Tryd.prog W .any base t v) : ∃ cs, v = .agg cs := by
  simp only [Value.okWide, ht] at hval
  obtain ⟨cs, h, _⟩ := hval
  exact ⟨cs, h⟩
theorem three_cells {cs : List Value} {v0 v1 v2 : Value} (hl : cs.length = 3) (h0 : cs[0]? = some v0) (h1 : cs[1]? = some v1) (h2 : cs[2]? = some v2) : cs = [v0, v1, v2] := by
  match cs, hl with
  | [a, b, c], _ => simp at h0 h1 h2; rw [h0, h1, h2]
theorem four_cells {cs : List Value} {v0 v1 v2 v3 : Value} (hl : cs.length = 4) (h0 : cs[0]? = some v0) (h1 : cs[1]? = some v1) (h2 : cs[2]? = some v2) (h3 : cs[3]? = some v3) : cs = [v0, v1, v2, v3] := by
  match cs, hl with
  | [a, b, c, d], _ => simp at h0 h1 h2 h3; rw [h0, h1, h2, h3]
end Go.Proofs.YtmfelfhingmmbaaDoor
/-
  Arguments: cookies, slices of cookies.
-/
namespace Go.Proofs.YtmfelfhingmmbaaDoor
open Go.ChangeShapes Go.WideShapes Go.RowKit Go.Eng Go.Pct Go.Ck
set_option maxRecDepth 100000
set_option linter.unusedSimpArgs false
set_option linter.unusedVariables false
variable {H : Type} {enc : TypeId × Value → H} {W : World} {base : Nat} {v : Value} {d : DataW H} {ps : List MemPlace}
theorem six_cells {cs : List Value} {v0 v1 v2 v3 v4 v5 : Value} (hl : cs.length = 6) (h0 : cs[0]? = some v0) (h1 : cs[1]? = some v1) (h2 : cs[2]? = some v2) (h3 : cs[3]? = some v3) (h4 : cs[4]? = some v4) (h5 : cs[5]? = some v5) : cs = [v0, v1, v2, v3, v4, v5] := by
  match cs, hl with
  | [a, b, c, d, e, f], _ => simp at h0 h1 h2 h3 h4 h5; rw [h0, h1, h2, h3, h4, h5]
theorem sm_reach {c : Ckie} (h : c.name.length ≤ reachBytes ∧ c.value.length ≤ reachBytes ∧ c.path.length ≤ reachBytes) : SmC c := ⟨Nat.le_trans h.1 (by decide), Nat.le_trans h.2.1 (by decide), Nat.le_trans h.2.2 (by decide)⟩
theorem opn_ck : Opens Tryd.prog W 28 (fun (c : Ckie) vs => vs = ckCells c ∧ SmC c) := ⟨fun enc fuel cs d ps h hw => by
  obtain ⟨hlen, hfs⟩ := open_fields Tryd.underlying28 (by kernel_rfl) (by kernel_rfl) enc fuel cs d ps h hw
  obtain ⟨v0, e0, g0⟩ := hfs 0 _ rfl
  obtain ⟨v1, e1, g1⟩ := hfs 1 _ rfl
  obtain ⟨v2, e2, g2⟩ := hfs 2 _ rfl
  obtain ⟨v3, e3, g3⟩ := hfs 3 _ rfl
  obtain ⟨v4, e4, g4⟩ := hfs 4 _ rfl
  obtain ⟨v5, e5, g5⟩ := hfs 5 _ rfl
  obtain ⟨a, ha, ha2⟩ := g0 opn_str
  obtain ⟨b, hb, hb2⟩ := g1 opn_str
  obtain ⟨c, hc, hc2⟩ := g2 opn_str
  obtain ⟨z, hz, _⟩ := g3 (opens_int Tryd.underlying3)
  obtain ⟨k, hk⟩ := g4 (opens_bool Tryd.underlying4)
  obtain ⟨m, hm⟩ := g5 (opens_bool Tryd.underlying4)
  simp only [List.cons.injEq, and_true] at ha hb hc hz hk hm
  have h6 := six_cells hlen e0 e1 e2 e3 e4 e5
  refine ⟨⟨a, b, c, z, k, m⟩, ?_, sm_reach ⟨ha2, hb2, hc2⟩⟩
  rw [h6, ha, hb, hc, hz, hk, hm]; rfl⟩
theorem arg_ck (hval : Value.okWide Tryd.prog W .any base 28 v) (hd : DataW.Trod enc Tryd.prog W 0 (fun _ => true) true 28 v d ps) (hw : Wt Tryd.prog 28 d) : ∃ c : Ckie, v = .agg (ckCells c).toArray ∧ SmC c := by
  obtain ⟨cs, rfl⟩ := arg_agg Tryd.underlying28 hval
  obtain ⟨c, hc, hs⟩ := open_arg opn_ck hd hw
  have hc : cs.toList = ckCells c := hc
  exact ⟨c, by rw [← hc, Array.toArray_toList], hs⟩
theorem arg_cks (hval : Value.okWide Tryd.prog W .any base 22 v) (hd : DataW.Trod enc Tryd.prog W 0 (fun _ => true) true 22 v d ps) (hw : Wt Tryd.prog 22 d) : ∃ l : List Ckie, SlC (All W) v l := by
  obtain ⟨a0, len, cap, rfl⟩ := okWide_slice Tryd.underlying22 hval
  obtain ⟨l, u, hu, hl, _⟩ := open_arg (opens_slice (m := 6) Tryd.underlying22 (by kernel_rfl) (by decide) opn_ck) hd hw
  simp only [Value.cells, List.cons.injEq, and_true] at hu
  subst hu
  exact ⟨l, hl.mono (fun _ _ h => h) (fun _ _ _ h => h.1)⟩
end Go.Proofs.YtmfelfhingmmbaaDoor
/-
  The frames' common part: what a row's world holds; a world for the witness.
-/
namespace Go.Proofs.YtmfelfhingmmbaaDoor
open Go.ChangeShapes Go.WideShapes Go.ChangeAt Go.RowKit Go.Eng Go.Pct
set_option maxRecDepth 100000

theorem own : ownKnob Tryd.prog.godebug = none := by kernel_rfl
theorem gPowT : (Tryd.prog.globals[5]?).map (·.type) = some 132 := by kernel_rfl
theorem cellsPow : Tryd.prog.cellsOf 132 = 20 := by kernel_rfl
theorem cellsU64 : Tryd.prog.cellsOf 113 = 1 := by kernel_rfl
/-- what is asked of a row's list -/
structure Lists (l : List (String × DataW Unit)) : Prop where
  pow : l.filter (fun x => x.1 == "internal/strconv.uint64pow10") = [("internal/strconv.uint64pow10", Lib.tabData .u64 Lib.pow10Tab)]
theorem glob_of {W : World} {l : List (String × DataW Unit)} (hl : Lists l) (h : laidMetH Tryd.prog l W) (hsh : W.ShapedOpen Tryd.prog) : Glob (All W) := by
  constructor
  · obtain ⟨m, hm⟩ := (Tryd.laysM219).s1_3 W hsh
    obtain ⟨cs, T, fz, hh, h2⟩ := cell_inv hm
    exact ⟨cs, T, fz, m, hh, h2⟩
  · have h1 := h.filter (fun x => x.1 == "internal/strconv.uint64pow10")
    rw [hl.pow, Go.MakeChecks.laidMetH_plain _ _ _ (by rfl)] at h1
    have ht := Lib.tabIs_of_head (rest := []) gPow gPowT Tryd.underlying132 Tryd.underlying113 cellsU64 cellsPow h1
    unfold Lib.TabIs World.var? at ht
    rw [gPow, Option.bind_some] at ht
    split at ht
    · rename_i cs T fz hh
      simp only [Option.some.injEq] at ht
      exact ⟨T, fz, by rw [← ht]; exact hh⟩
    · cases ht

theorem laidOut : laidOutB Tryd.prog = true := by kernel_rfl
theorem trodAll_below {H : Type} {enc : TypeId × Value → H} {P : Program} (hl : laidOutB P = true) {W W' : World} (hb : Below W.heap.size W W') : ∀ {ts : List TypeId} {vs : List Value} {ds : List (DataW H)} {ps : List MemPlace},
    (ts.all fun t => P.readableRec t && decide (t < P.types.size)) = true → DataW.TrodAll enc P W 0 (fun _ => true) true ts vs ds ps → (∀ x ∈ ps, x.block < W.heap.size) → DataW.TrodAll enc P W' 0 (fun b => decide (b < W.heap.size)) true ts vs ds ps
  | [], [], [], _, _, h, _ => h
  | _ :: _, _ :: _, _ :: _, _, hT, ⟨p, q, h1, h2, e⟩, hs => by
    simp only [List.all_cons, Bool.and_eq_true, decide_eq_true_eq] at hT
    exact ⟨p, q, Below.trod hl hT.1.1 hT.1.2 h1 hb (fun x hx => hs x (by rw [e]; exact List.mem_append_left _ hx)), trodAll_below hl hb hT.2 h2 (fun x hx => hs x (by rw [e]; exact List.mem_append_right _ hx)), e⟩
/-- what a table's datum lays -/
def cellsD : Nat → DataW Unit → List Value
  | 0, _ => []
  | n + 1, .agg l => l.flatMap (cellsD n)
  | _ + 1, .lit (.int k z) => [.int k z]
  | _ + 1, .lit (.string s) => [.string ⟨s.toArray⟩]
  | _, _ => []
def layAt (d : DataW Unit) : Obj → Obj
  | .cells _ t fz => .cells (cellsD 5 d).toArray t fz
  | o => o
/-- A world for the witness: the settled one, the tables holding what their initialisers lay. -/
noncomputable def laidWorld (os : Os) (l : List (String × DataW Unit)) : World :=
  { World.holding Tryd.prog os ⟨#[], #[], []⟩ with heap := l.foldl (fun h x => match Tryd.prog.globalNamed x.1 with | some g => h.modify g (layAt x.2) | none => h) (World.holding Tryd.prog os ⟨#[], #[], []⟩).heap }
theorem noStand (t : TypeId) (ts : Array TypeId) (h : ts.all (fun t => !Tryd.prog.wantsStandIn t) = true) (j : Nat) (ht : ts[j]? = some t) : Tryd.prog.wantsStandIn t = false := by
  have := (Array.all_eq_true'.1 h) t (Array.mem_of_getElem? ht)
  simpa using this
theorem sizes_of {H : Type} {ts us : List TypeId} {ds gs : List (DataW H)} (h : (DataW.weightsEach Tryd.prog (ts ++ us) (ds ++ gs)).all (· ≤ reachBytes) = true) {j : Nat} {t : TypeId} {d : DataW H} (ht : (ts ++ us)[j]? = some t) (hd : (ds ++ gs)[j]? = some d) : Wt Tryd.prog t d :=
  wt_each ht hd (fun n hn => by simpa using List.all_eq_true.1 h n hn)
end Go.Proofs.YtmfelfhingmmbaaDoor
/-
  The given statement of CookieOnce: from the walk of CookieOnce to the card.
-/
namespace Go.Proofs.YtmfelfhingmmbaaDoor
open Go.ChangeShapes Go.WideShapes Go.ChangeAt Go.RowKit Go.Eng Go.Pct
set_option maxRecDepth 100000
set_option linter.unusedSimpArgs false

theorem cookieOnce_lists : Lists Rows.cookieOnceRow.laid := by constructor <;> kernel_rfl
theorem cookieOnce_contract (H : Type) (enc : TypeId × Value → H) (W : World) (base : Nat) (args : Array Value) (ds gs : List (DataW H)) (before : List MemPlace)
    (hval : ∀ (j : Nat) t v, Tryd.f4.params[j]? = some t → args[j]? = some v → Value.okWide Tryd.prog W .any base t v)
    (hW : DataW.Whole enc Tryd.prog Tryd.f4.params.toList Rows.cookieOnceSpec.vars false W args.toList ds gs before)
    (hz : (DataW.weightsEach Tryd.prog (Tryd.f4.params.toList ++ (OpenSpec.ofChange Rows.cookieOnceSpec).bare.plain.varTypes Tryd.prog) (ds ++ gs)).all (· ≤ reachBytes) = true) (hL : laidMetH Tryd.prog Rows.cookieOnceRow.laid W) (hsh : W.ShapedOpen Tryd.prog) :
    Calls Tryd.prog 4 args W fun e W' => ∃ v, e = .returned v ∧ Rows.cookieOnceSpec.post enc Tryd.prog Tryd.f4 false true false false W args v W' := by
  have hW' := hW
  obtain ⟨p, q, hA0, hV, rfl, hfz, hnd⟩ := hW
  have hAk : DataW.TrodAll enc Tryd.prog W 0 (fun _ => true) true Tryd.f4.params.toList args.toList ds p := hA0
  have hA := hAk
  rw [Tryd.params4] at hA hval hz
  obtain ⟨rfl, rfl⟩ := trodVars_none hV
  obtain ⟨v0, vs0, d0, ds0, p0, q0, hargs, rfl, hq0, h0, r0⟩ := trodAll_cons hA
  obtain ⟨v1, vs1, d1, ds1, p1, q1, rfl, rfl, hq1, h1, r1⟩ := trodAll_cons r0
  obtain ⟨rfl, rfl, hqn⟩ := trodAll_nil r1
  obtain rfl : args = #[v0, v1] := by cases args; simp_all
  obtain ⟨l0, h0⟩ := arg_cks (hval 0 22 v0 rfl rfl) h0 (sizes_of (j := 0) hz rfl rfl)
  obtain ⟨c1, rfl, k1⟩ := arg_ck (hval 1 28 v1 rfl rfl) h1 (sizes_of (j := 1) hz rfl rfl)
  have hG := glob_of (W := W) cookieOnce_lists hL hsh
  have walk := cookieOnce_ok hG (all_laid W) h0 c1 k1
  refine walk.mono fun e W' ⟨he, hg⟩ => ?_
  subst he
  have hb := hg.below
  refine ⟨_, rfl, ⟨_, _, _, [], _, [], hW', trodAll_mk1 (shut_bool Tryd.underlying4 _), trodAll_below laidOut hb (by kernel_rfl) hAk (fun x hx => ?_), rfl, hb.frame _, fun h => by cases h⟩⟩
  have := hW'.lt x (by simpa using hx)
  simpa using this

theorem cookieOnce_laid (os : Os) : laidMet Tryd.prog Rows.cookieOnceRow.laid ((laidWorld os Rows.cookieOnceRow.laid).forCall (fun _ _ => 0) ⟨#[], #[.slice none 0 0, .agg #[.string ⟨#[]⟩, .string ⟨#[]⟩, .string ⟨#[]⟩, .int .i64 0, .bool false, .bool false]], []⟩).memory :=
  laidMet_of_run' 8 (by kernel_rfl) (by kernel_rfl)
theorem cookieOnce_reads (os : Os) {H : Type} (enc : TypeId × Value → H) : ∃ places, DataW.whole enc Tryd.prog ((laidWorld os Rows.cookieOnceRow.laid).forCall (fun _ _ => 0) ⟨#[], #[.slice none 0 0, .agg #[.string ⟨#[]⟩, .string ⟨#[]⟩, .string ⟨#[]⟩, .int .i64 0, .bool false, .bool false]], []⟩).memory Tryd.f4.params.toList Rows.cookieOnceSpec.vars false (#[Value.slice none 0 0, Value.agg #[.string ⟨#[]⟩, .string ⟨#[]⟩, .string ⟨#[]⟩, .int .i64 0, .bool false, .bool false]] : Array Value).toList 8 = some ([.nil, .agg [.lit (.string []), .lit (.string []), .lit (.string []), .lit (.int .i64 0), .lit (.bool false), .lit (.bool false)]], [], places) :=
  ⟨[], by kernel_rfl⟩
theorem cookieOnce_lifted (os : Os) (started : os.Started) (H : Type) (enc : TypeId × Value → H) (F : Stop.Interp) :
    ReturnsInHanded {} Tryd.checked os 4 .any ((OpenSpec.ofChange Rows.cookieOnceSpec).preRow enc Tryd.prog Tryd.f4 Rows.cookieOnceRow.domain false Rows.cookieOnceRow.laid) (((OpenSpec.ofChange Rows.cookieOnceSpec).at F).post enc Tryd.prog Tryd.f4 false true false false) := by
  obtain ⟨places, hx⟩ := cookieOnce_reads os enc
  refine returnsInHanded_of_row (C := Tryd.checked) (s := OpenSpec.ofChange Rows.cookieOnceSpec) own started (by kernel_rfl) Tryd.func4
    (witness_row_at (enc := enc) (C := Tryd.checked) false (laidWorld os Rows.cookieOnceRow.laid) #[.slice none 0 0, .agg #[.string ⟨#[]⟩, .string ⟨#[]⟩, .string ⟨#[]⟩, .int .i64 0, .bool false, .bool false]] rfl (by kernel_rfl) (by kernel_rfl) (by kernel_rfl)
      (OpenSpec.preRow_of_cond 8 hx (by kernel_rfl) (fun k hk => by cases hk) (by kernel_rfl) (cookieOnce_laid os))) ?_
  intro W base args ds gs before hval hW _ _ hz hL hsh _
  exact cookieOnce_contract H enc W base args ds gs before hval hW hz hL hsh
theorem cookieOnce_said : Rows.CookieOnceSaid :=
  OpenClaim.holds_of_cond 4 Tryd.f4 rfl rfl rfl rfl rfl rfl rfl ⟨rfl, rfl, rfl, rfl, rfl⟩ rfl rfl rfl rfl rfl (by kernel_rfl) Tryd.func4 (by kernel_rfl)
    (of_decide_eq_true (by kernel_rfl)) (by unfold Func.isWrapper; first | (rw [if_pos (by decide +kernel)]; kernel_rfl) | (rw [if_neg (by decide +kernel)]; exact ⟨rfl, rfl⟩))
    (fun os started H enc _ F => by rw [OpenClaim.pre_eq_preRow]; exact cookieOnce_lifted os started H enc F)
theorem cookieOnce_plain (f : FuncId) (fn : Func) (hf : Tryd.pinned.checked.prog.funcNamed "matricula/matriculalaw04.CookieOnce" = some f) (hfn : Tryd.pinned.checked.prog.funcs[f]? = some fn) :
    true = Tryd.pinned.checked.prog.looks [] ∧ ∀ (j : Nat) t, fn.params[j]? = some t → Tryd.pinned.checked.prog.wantsStandIn t = false := by
  obtain rfl : f = 4 := Option.some.inj ((show Tryd.prog.funcNamed "matricula/matriculalaw04.CookieOnce" = some 4 by kernel_rfl).symm.trans hf) |>.symm
  obtain rfl : fn = Tryd.f4 := (Option.some.inj (Tryd.func4.symm.trans hfn)).symm
  refine ⟨by kernel_rfl, fun j t ht => ?_⟩
  rw [Tryd.params4] at ht
  exact noStand t _ (by kernel_rfl) j ht
/-- The given statement. -/
theorem cookieOnce_card : Rows.CookieOnceCardSaid :=
  Claim7.holds_tied_plain_at .later [] _ _ _ _ cookieOnce_said (fun _ h => by cases h) (by kernel_rfl) (fun _ h => by cases h) cookieOnce_row_tie rfl ⟨rfl, rfl⟩ (by kernel_rfl) rfl cookieOnce_plain (by kernel_rfl)
end Go.Proofs.YtmfelfhingmmbaaDoor
