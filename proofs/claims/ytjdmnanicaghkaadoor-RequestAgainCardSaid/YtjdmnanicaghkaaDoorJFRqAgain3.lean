/-
  Texts of a proof, joined: ReqP, ReqF, ReqG, QctA, QctB, QctC, Bld, QctD, QctE, QctF, EngI, EngK, QctG.
-/
import Derived.Shelf.Strings.BuilderK
import Derived.Test.YtjdmnanicaghkaaDoorProg
import Derived.Test.YtjdmnanicaghkaaDoorJFRqAgain1
import Derived.Test.YtjdmnanicaghkaaDoorJFRqAgain2
/-
  A request, plainly: its headers line by line, how long its body must be, what its bytes tell. No program stands here.
-/
namespace Go.Proofs.YtjdmnanicaghkaaDoor
open Go.Pct Go.Txt Go.Rsp

/-- the headers from here on: the pairs, what is wrong, what is left -/
def hdrsQ : Nat → List UInt8 → List Pr → List Pr × Int × List UInt8
  | 0, t, acc => (acc, 3, t)
  | n + 1, t, acc => match cutS [13, 10] t with
    | none => (acc, 3, t)
    | some (l, r) => if l = [] then (acc, 0, r) else if 32 ≤ acc.length then (acc, 5, r) else if (hdrP l).2 ≠ 0 then (acc, (hdrP l).2, r) else hdrsQ n r (acc ++ [(hdrP l).1])
theorem hdrP_small (l : List UInt8) : (hdrP l).1.1.length ≤ l.length ∧ (hdrP l).1.2.length ≤ l.length := by
  unfold hdrP
  cases h : cutS [58] l with
  | none => simp
  | some p =>
    obtain ⟨a, b⟩ := p
    have h1 := cutS_length h
    have h2 := trimB_length b
    simp only
    split
    · exact ⟨by show a.length ≤ _; omega, by show (trimB b).length ≤ _; omega⟩
    · simp
theorem hdrsQ_small {N : Nat} : ∀ (n : Nat) (t : List UInt8) (acc : List Pr), t.length ≤ N → Small N acc → Small N (hdrsQ n t acc).1
  | 0, t, acc, _, h => h
  | n + 1, t, acc, ht, h => by
    rw [hdrsQ]
    cases hc : cutS [13, 10] t with
    | none => exact h
    | some p =>
      obtain ⟨l, r⟩ := p
      have hl := cutS_length hc
      simp only
      split
      · exact h
      split
      · exact h
      split
      · exact h
      refine hdrsQ_small n r _ (by omega) ?_
      intro q hq
      rcases List.mem_append.1 hq with hq | hq
      · exact h q hq
      · rw [List.mem_singleton] at hq
        subst hq
        have := hdrP_small l
        omega
theorem hdrsQ_few : ∀ (n : Nat) (t : List UInt8) (acc : List Pr), (hdrsQ n t acc).1.length ≤ n + acc.length
  | 0, t, acc => by simp [hdrsQ]
  | n + 1, t, acc => by
    rw [hdrsQ]
    cases hc : cutS [13, 10] t with
    | none => simp only; omega
    | some p =>
      obtain ⟨l, r⟩ := p
      simp only
      split
      · simp only; omega
      split
      · simp only; omega
      split
      · simp only; omega
      have := hdrsQ_few n r (acc ++ [(hdrP l).1])
      simp only [List.length_append, List.length_cons, List.length_nil] at this
      omega
theorem hdrsQ_rest : ∀ (n : Nat) (t : List UInt8) (acc : List Pr), (hdrsQ n t acc).2.2.length ≤ t.length
  | 0, t, acc => Nat.le_refl _
  | n + 1, t, acc => by
    rw [hdrsQ]
    cases hc : cutS [13, 10] t with
    | none => exact Nat.le_refl _
    | some p =>
      obtain ⟨l, r⟩ := p
      have hl := cutS_length hc
      simp only
      split
      · simp only; omega
      split
      · simp only; omega
      split
      · simp only; omega
      have := hdrsQ_rest n r (acc ++ [(hdrP l).1])
      omega
def sTE : List UInt8 := [116, 114, 97, 110, 115, 102, 101, 114, 45, 101, 110, 99, 111, 100, 105, 110, 103]
def sCLen : List UInt8 := [99, 111, 110, 116, 101, 110, 116, 45, 108, 101, 110, 103, 116, 104]
/-- how long the body must be, what is wrong -/
def lenX (n1 n2 : Nat) (x : List UInt8) : Int × Int :=
  if 0 < n1 then (0, 18)
  else if n2 = 0 then (0, 0)
  else if 1 < n2 ∨ numOk x = false then (0, 18)
  else (digV x, 0)
def lenP (l : List Pr) : Int × Int := lenX (hdrF sTE l).2 (hdrF sCLen l).2 (hdrF sCLen l).1
structure Req where
  meth : List UInt8
  targ : List UInt8
  headers : List Pr
  body : List UInt8
def Req.none : Req := ⟨[], [], [], []⟩
/-- the end of the reading -/
def pfin (m t : List UInt8) (q : List Pr × Int × List UInt8) : Req × Int :=
  if q.2.1 ≠ 0 then (.none, q.2.1)
  else if (lenP q.1).2 ≠ 0 then (.none, (lenP q.1).2)
  else if fitsE (q.2.2.length : Int) (lenP q.1).1 ≠ 0 then (.none, fitsE (q.2.2.length : Int) (lenP q.1).1)
  else (⟨m, t, q.1, q.2.2⟩, 0)
/-- what bytes tell: the request, what is wrong -/
def parseQ (s : List UInt8) : Req × Int :=
  if 4096 < s.length then (.none, 2) else match cutS [13, 10] s with
  | none => (.none, 3)
  | some (l, r) => if (firstP l).2.2 ≠ 0 then (.none, (firstP l).2.2) else pfin (firstP l).1 (firstP l).2.1 (hdrsQ 33 r [])
end Go.Proofs.YtjdmnanicaghkaaDoor
/-
  All headers of a text that is lent, and how long a request's body must be: text.headers, request.length.
-/
namespace Go.Proofs.YtjdmnanicaghkaaDoor
open Go.Eng Go.Pct Go.Rsp Go.Txt
set_option maxRecDepth 10000
set_option linter.unusedSimpArgs false
set_option linter.unusedVariables false

variable {M : Ghost} {w0 w : World} {bs : List Nat} {H : List (Nat × Obj)}

theorem qline_yes (hG : Glob M) {t l r : List UInt8} {b : Nat} (hs : t.length ≤ 1000000000) (hc : cutS [13, 10] t = some (l, r)) (hw : St w0 bs ((b, txtO t) :: H) M w) : Calls Tryd.prog 31 #[.pointer (some ⟨b, 0, none⟩)] w (RetC (St w0 bs ((b, txtO r) :: H) M) (.tuple #[str l, i64 0])) := by
  have := qline_ok hG hs hw
  unfold lineT at this
  rw [hc] at this; exact this
theorem qline_no (hG : Glob M) {t : List UInt8} {b : Nat} (hs : t.length ≤ 1000000000) (hc : cutS [13, 10] t = none) (hw : St w0 bs ((b, txtO t) :: H) M w) : Calls Tryd.prog 31 #[.pointer (some ⟨b, 0, none⟩)] w (RetC (St w0 bs ((b, txtO t) :: H) M) (.tuple #[str [], i64 3])) := by
  have := qline_ok hG hs hw
  unfold lineT at this
  rw [hc] at this; exact this
/-- as far as the headers have been read -/
structure HQ (t : List UInt8) where
  n : Nat
  cur : List UInt8
  acc : List Pr
  v : Value
  Hs : List (Nat × Obj)
  fuel : n + acc.length = 32
  inv : hdrsQ (n + 1) cur acc = hdrsQ 33 t []
  len : cur.length ≤ t.length
  own : OwnS 50 2 v Hs (cellsP acc)
/-- what the headers yield -/
def HdrsIs (t : List UInt8) (M' : Ghost) (v : Value) : Prop := ∃ hv, v = .tuple #[hv, i64 (hdrsQ 33 t []).2.1] ∧ SlP M' hv (hdrsQ 33 t []).1
theorem qheaders_ok (hG : Glob M) {t : List UInt8} {b : Nat} (hs : t.length ≤ 1000000000) (hw : St w0 [] ((b, txtO t) :: H) M w) : Calls Tryd.prog 33 #[.pointer (some ⟨b, 0, none⟩)] w (RetCS w0 [] ((b, txtO (hdrsQ 33 t []).2.2) :: H) M (HdrsIs t)) := by
  refine calls_lent (C := St w0 [] ((b, txtO t) :: H) M) (l := [.pointer (some ⟨b, 0, none⟩)]) hw Tryd.func33 rfl rfl rfl (E0 := [(0, true, .pointer (some ⟨b, 0, none⟩))]) (params_cons rfl (params_nil _)) ?_
  clear hw
  repeat' (first | (first | refine wc_seq ?_ | refine wc_region ?_ | refine wl_nil ?_ | refine wn_seq ?_ | refine wn_blk ?_ | refine wc_skip ?_ | refine wc_scope ?_ | refine wc_label ?_ | refine wn_noGoto ?_ | refine wc_block ?_ | refine wc_exit rfl ?_ | (show WL _ _ (_ :: _) _ _ _ _; first | refine wl_v rfl rfl rfl (by first | (show OpV _ _ _ _ (Oper.mk _ (Op.move _) _ _ _ _) _ _; exact xo_move rfl) | (show OpV _ _ _ _ (Oper.mk _ (Op.assign _) _ _ _ _) _ _; exact xo_assign rfl) | (show OpV _ _ _ _ (Oper.mk _ (Op.pick _ _ _) _ _ _ _) _ _; first | exact xo_and rfl rfl | exact xo_or rfl rfl) | (show OpV _ _ _ _ (Oper.mk _ (Op.extract _ _) _ _ _ _) _ _; exact xo_extract rfl) | (show OpV _ _ _ _ (Oper.mk _ (Op.call ⟨.builtin .len, _, _⟩) _ _ _ _) _ _; first | exact xo_slen rfl | exact xo_len rfl) | (show OpV _ _ _ _ (Oper.mk _ (Op.unOp _ _ _) _ _ _ _) _ _; exact xo_not rfl) | (show OpV _ _ _ _ (Oper.mk _ (Op.binOp BinOp.eql _ _ _ _) _ _ _ _) _ _; first | exact xo_eql rfl rfl | exact xo_seql rfl rfl | exact xo_beql rfl rfl | exact xo_aeql rfl rfl) | (show OpV _ _ _ _ (Oper.mk _ (Op.binOp BinOp.neq _ _ _ _) _ _ _ _) _ _; first | exact xo_neq rfl rfl | exact xo_sneq rfl rfl | exact xo_bneq rfl rfl | exact xo_aneq rfl rfl) | (show OpV _ _ _ _ (Oper.mk _ (Op.binOp BinOp.lss _ _ _ _) _ _ _ _) _ _; exact xo_lss rfl rfl) | (show OpV _ _ _ _ (Oper.mk _ (Op.binOp BinOp.leq _ _ _ _) _ _ _ _) _ _; exact xo_leq rfl rfl) | (show OpV _ _ _ _ (Oper.mk _ (Op.binOp BinOp.gtr _ _ _ _) _ _ _ _) _ _; exact xo_gtr rfl rfl) | (show OpV _ _ _ _ (Oper.mk _ (Op.binOp BinOp.geq _ _ _ _) _ _ _ _) _ _; exact xo_geq rfl rfl) | (show OpV _ _ _ _ (Oper.mk _ (Op.binOp BinOp.add _ _ _ _) _ _ _ _) _ _; first | exact xo_add rfl rfl | exact ov_sadd rfl rfl (by first | with_reducible exact fun _ => rfl | with_reducible exact fun h => h | exact fun _ => rfl | exact fun h => h | (intro himp; simp_all; done)) (by first | with_reducible exact fun _ => rfl | with_reducible exact fun h => h | exact fun _ => rfl | exact fun h => h | (intro himp; simp_all; done)) (by intro hcg; first | omega | (simp only [List.length_append, List.length_take, List.length_drop, List.length_cons, List.length_nil, List.length_nil]; omega))) | (show OpV _ _ _ _ (Oper.mk _ (Op.binOp BinOp.sub _ _ _ _) _ _ _ _) _ _; exact xo_sub rfl rfl) | (show OpV _ _ _ _ (Oper.mk _ (Op.binOp BinOp.mul _ _ _ _) _ _ _ _) _ _; exact xo_mul rfl rfl) | (show OpV _ _ _ _ (Oper.mk _ (Op.binOp BinOp.quo _ _ _ _) _ _ _ _) _ _; exact xo_quo rfl rfl) | (show OpV _ _ _ _ (Oper.mk _ (Op.binOp BinOp.rem _ _ _ _) _ _ _ _) _ _; exact xo_rem rfl rfl) | (show OpV _ _ _ _ (Oper.mk _ (Op.index _ _ _) _ _ _ _) _ _; exact xo_sindex rfl rfl) | (show OpV _ _ _ _ (Oper.mk _ (Op.slice _ _ (some _) (some _) none) _ _ _ _) _ _; first | exact xo_slice rfl rfl rfl | exact xo_slcB rfl rfl rfl) | (show OpV _ _ _ _ (Oper.mk _ (Op.slice _ _ (some _) none none) _ _ _ _) _ _; first | exact xo_from rfl rfl | exact xo_slcFrom rfl rfl) | (show OpV _ _ _ _ (Oper.mk _ (Op.slice _ _ none (some _) none) _ _ _ _) _ _; first | exact xo_to rfl rfl | exact xo_slcTo rfl rfl) | (show OpV _ _ _ _ (Oper.mk _ (Op.slice _ _ none (some _) (some _)) _ _ _ _) _ _; exact xo_slc3 rfl rfl rfl) | (show OpV _ _ _ _ (Oper.mk _ (Op.convert _ _ _) _ _ _ _) _ _; first | exact xo_conv rfl | exact xo_convBytes rfl) | (show OpV _ _ _ _ (Oper.mk _ (Op.fieldAddr _ _ _) _ _ _ _) _ _; exact xo_fieldAddr rfl) | (show OpV _ _ _ _ (Oper.mk _ (Op.load _ _) _ _ _ _) _ _; first | exact xo_load1 rfl | exact xo_loadS rfl) | (show OpV _ _ _ _ (Oper.mk _ (Op.field _ _ _) _ _ _ _) _ _; exact xo_field rfl) | (show OpV _ _ _ _ (Oper.mk _ (Op.build _ _) _ _ _ _) _ _; exact xo_build rfl) | (show OpV _ _ _ _ (Oper.mk _ (Op.makeFunc _ _ _) _ _ _ _) _ _; exact ov_makeFunc rfl rfl) | (show OpV _ _ _ _ (Oper.mk _ (Op.nilCheck _) _ _ _ _) _ _; exact xo_nilCheck rfl)) ?_ | refine wl_v rfl rfl rfl (by first  | fail) ?_ | refine xl_alloc (fun _ => ?_) | refine xl_box rfl (fun _ => ?_) | refine xl_store rfl rfl ?_ | refine xl_buildSlice rfl (fun _ => ?_) | refine wl_makeMap rfl rfl (fun _ => ?_) | refine wl_insert rfl rfl rfl rfl rfl rfl (by first | exact rfl | exact trivial) (by first | exact Upd.here | exact Upd.there Upd.here | exact Upd.there (Upd.there Upd.here) | exact Upd.there (Upd.there (Upd.there Upd.here)) | exact Upd.there (Upd.there (Upd.there (Upd.there Upd.here))) | exact Upd.app _ (Upd.here) | exact Upd.app _ (Upd.there Upd.here) | exact Upd.app _ (Upd.there (Upd.there Upd.here)) | exact Upd.app _ (Upd.there (Upd.there (Upd.there Upd.here))) | exact Upd.there (Upd.app _ (Upd.here)) | exact Upd.there (Upd.app _ (Upd.there Upd.here)) | exact Upd.there (Upd.app _ (Upd.there (Upd.there Upd.here))) | exact Upd.there (Upd.app _ (Upd.there (Upd.there (Upd.there Upd.here)))) | exact Upd.there (Upd.there (Upd.app _ (Upd.here))) | exact Upd.there (Upd.there (Upd.app _ (Upd.there Upd.here))) | exact Upd.there (Upd.there (Upd.app _ (Upd.there (Upd.there Upd.here))))) (by rfl) ?_) | refine wc_ret rfl ?_) | (show WC _ (Code.cond _ _ _) _ _ _ _; (refine wc_cond rfl (fun hc => ?_) (fun hc => ?_) <;> (try (simp only [decide_eq_true_eq, decide_eq_false_iff_not, Bool.and_eq_true, Bool.or_eq_true, Bool.and_eq_false_iff, Bool.or_eq_false_iff, Bool.not_eq_true', Bool.not_eq_false', Int.not_lt, Int.not_le] at hc)) <;> (try (exfalso; first | omega | contradiction)))))
  refine wc_loop (α := HQ t) (fun x => [(0, true, .pointer (some ⟨b, 0, none⟩)), (4, true, x.v), (5, true, i64 0)]) (fun x => St w0 [] ((b, txtO x.cur) :: (x.Hs ++ H)) M) (fun x => x.n) ⟨32, t, [], .slice none 0 0, [], rfl, rfl, Nat.le_refl _, OwnS.nil⟩ (by first | exact Sub.nil _ | (repeat (first | exact Sub.nil _ | refine Sub.cons (by first | rfl | (simp [look]; done)) ?_))) (fun _ h => h) ?_
  rintro ⟨n, cur, acc, v, Hs, fuel, inv, hlen, own⟩
  dsimp only
  obtain ⟨va, vcap, rfl⟩ := own.slice (k := acc.length) (by decide) (cellsP_length _)
  rw [hdrsQ] at inv
  have back : ∀ {r : List UInt8}, ∀ w', St w0 [] ((b, txtO r) :: (Hs ++ H)) M w' → St w0 [] (Hs ++ ((b, txtO r) :: H)) M w' := fun w' h => h.perm List.perm_middle
  have fin : ∀ {M' : Ghost}, (∀ p ∈ Hs, M' p.1 p.2) → SlP M' (.slice va acc.length vcap) acc := fun h => own.slP h (by omega)
  cases hc0 : cutS [13, 10] cur with
  | none =>
    rw [hc0] at inv
    simp only at inv
    repeat' (first | (first | refine wc_seq ?_ | refine wc_region ?_ | refine wl_nil ?_ | refine wn_seq ?_ | refine wn_blk ?_ | refine wc_skip ?_ | refine wc_scope ?_ | refine wc_label ?_ | refine wn_noGoto ?_ | refine wc_block ?_ | refine wc_exit rfl ?_ | (show WL _ _ (_ :: _) _ _ _ _; first | refine wl_v rfl rfl rfl (by first | (show OpV _ _ _ _ (Oper.mk _ (Op.move _) _ _ _ _) _ _; exact xo_move rfl) | (show OpV _ _ _ _ (Oper.mk _ (Op.assign _) _ _ _ _) _ _; exact xo_assign rfl) | (show OpV _ _ _ _ (Oper.mk _ (Op.pick _ _ _) _ _ _ _) _ _; first | exact xo_and rfl rfl | exact xo_or rfl rfl) | (show OpV _ _ _ _ (Oper.mk _ (Op.extract _ _) _ _ _ _) _ _; exact xo_extract rfl) | (show OpV _ _ _ _ (Oper.mk _ (Op.call ⟨.builtin .len, _, _⟩) _ _ _ _) _ _; first | exact xo_slen rfl | exact xo_len rfl) | (show OpV _ _ _ _ (Oper.mk _ (Op.unOp _ _ _) _ _ _ _) _ _; exact xo_not rfl) | (show OpV _ _ _ _ (Oper.mk _ (Op.binOp BinOp.eql _ _ _ _) _ _ _ _) _ _; first | exact xo_eql rfl rfl | exact xo_seql rfl rfl | exact xo_beql rfl rfl | exact xo_aeql rfl rfl) | (show OpV _ _ _ _ (Oper.mk _ (Op.binOp BinOp.neq _ _ _ _) _ _ _ _) _ _; first | exact xo_neq rfl rfl | exact xo_sneq rfl rfl | exact xo_bneq rfl rfl | exact xo_aneq rfl rfl) | (show OpV _ _ _ _ (Oper.mk _ (Op.binOp BinOp.lss _ _ _ _) _ _ _ _) _ _; exact xo_lss rfl rfl) | (show OpV _ _ _ _ (Oper.mk _ (Op.binOp BinOp.leq _ _ _ _) _ _ _ _) _ _; exact xo_leq rfl rfl) | (show OpV _ _ _ _ (Oper.mk _ (Op.binOp BinOp.gtr _ _ _ _) _ _ _ _) _ _; exact xo_gtr rfl rfl) | (show OpV _ _ _ _ (Oper.mk _ (Op.binOp BinOp.geq _ _ _ _) _ _ _ _) _ _; exact xo_geq rfl rfl) | (show OpV _ _ _ _ (Oper.mk _ (Op.binOp BinOp.add _ _ _ _) _ _ _ _) _ _; first | exact xo_add rfl rfl | exact ov_sadd rfl rfl (by first | with_reducible exact fun _ => rfl | with_reducible exact fun h => h | exact fun _ => rfl | exact fun h => h | (intro himp; simp_all; done)) (by first | with_reducible exact fun _ => rfl | with_reducible exact fun h => h | exact fun _ => rfl | exact fun h => h | (intro himp; simp_all; done)) (by intro hcg; first | omega | (simp only [List.length_append, List.length_take, List.length_drop, List.length_cons, List.length_nil, List.length_nil]; omega))) | (show OpV _ _ _ _ (Oper.mk _ (Op.binOp BinOp.sub _ _ _ _) _ _ _ _) _ _; exact xo_sub rfl rfl) | (show OpV _ _ _ _ (Oper.mk _ (Op.binOp BinOp.mul _ _ _ _) _ _ _ _) _ _; exact xo_mul rfl rfl) | (show OpV _ _ _ _ (Oper.mk _ (Op.binOp BinOp.quo _ _ _ _) _ _ _ _) _ _; exact xo_quo rfl rfl) | (show OpV _ _ _ _ (Oper.mk _ (Op.binOp BinOp.rem _ _ _ _) _ _ _ _) _ _; exact xo_rem rfl rfl) | (show OpV _ _ _ _ (Oper.mk _ (Op.index _ _ _) _ _ _ _) _ _; exact xo_sindex rfl rfl) | (show OpV _ _ _ _ (Oper.mk _ (Op.slice _ _ (some _) (some _) none) _ _ _ _) _ _; first | exact xo_slice rfl rfl rfl | exact xo_slcB rfl rfl rfl) | (show OpV _ _ _ _ (Oper.mk _ (Op.slice _ _ (some _) none none) _ _ _ _) _ _; first | exact xo_from rfl rfl | exact xo_slcFrom rfl rfl) | (show OpV _ _ _ _ (Oper.mk _ (Op.slice _ _ none (some _) none) _ _ _ _) _ _; first | exact xo_to rfl rfl | exact xo_slcTo rfl rfl) | (show OpV _ _ _ _ (Oper.mk _ (Op.slice _ _ none (some _) (some _)) _ _ _ _) _ _; exact xo_slc3 rfl rfl rfl) | (show OpV _ _ _ _ (Oper.mk _ (Op.convert _ _ _) _ _ _ _) _ _; first | exact xo_conv rfl | exact xo_convBytes rfl) | (show OpV _ _ _ _ (Oper.mk _ (Op.fieldAddr _ _ _) _ _ _ _) _ _; exact xo_fieldAddr rfl) | (show OpV _ _ _ _ (Oper.mk _ (Op.load _ _) _ _ _ _) _ _; first | exact xo_load1 rfl | exact xo_loadS rfl) | (show OpV _ _ _ _ (Oper.mk _ (Op.field _ _ _) _ _ _ _) _ _; exact xo_field rfl) | (show OpV _ _ _ _ (Oper.mk _ (Op.build _ _) _ _ _ _) _ _; exact xo_build rfl) | (show OpV _ _ _ _ (Oper.mk _ (Op.makeFunc _ _ _) _ _ _ _) _ _; exact ov_makeFunc rfl rfl) | (show OpV _ _ _ _ (Oper.mk _ (Op.nilCheck _) _ _ _ _) _ _; exact xo_nilCheck rfl)) ?_ | refine wl_v rfl rfl rfl (by first  | fail) ?_ | refine xl_alloc (fun _ => ?_) | refine xl_box rfl (fun _ => ?_) | refine xl_store rfl rfl ?_ | refine xl_buildSlice rfl (fun _ => ?_) | refine wl_makeMap rfl rfl (fun _ => ?_) | refine wl_insert rfl rfl rfl rfl rfl rfl (by first | exact rfl | exact trivial) (by first | exact Upd.here | exact Upd.there Upd.here | exact Upd.there (Upd.there Upd.here) | exact Upd.there (Upd.there (Upd.there Upd.here)) | exact Upd.there (Upd.there (Upd.there (Upd.there Upd.here))) | exact Upd.app _ (Upd.here) | exact Upd.app _ (Upd.there Upd.here) | exact Upd.app _ (Upd.there (Upd.there Upd.here)) | exact Upd.app _ (Upd.there (Upd.there (Upd.there Upd.here))) | exact Upd.there (Upd.app _ (Upd.here)) | exact Upd.there (Upd.app _ (Upd.there Upd.here)) | exact Upd.there (Upd.app _ (Upd.there (Upd.there Upd.here))) | exact Upd.there (Upd.app _ (Upd.there (Upd.there (Upd.there Upd.here)))) | exact Upd.there (Upd.there (Upd.app _ (Upd.here))) | exact Upd.there (Upd.there (Upd.app _ (Upd.there Upd.here))) | exact Upd.there (Upd.there (Upd.app _ (Upd.there (Upd.there Upd.here))))) (by rfl) ?_) | refine wc_ret rfl ?_) | (show WC _ (Code.cond _ _ _) _ _ _ _; (refine wc_cond rfl (fun hc => ?_) (fun hc => ?_) <;> (try (simp only [decide_eq_true_eq, decide_eq_false_iff_not, Bool.and_eq_true, Bool.or_eq_true, Bool.and_eq_false_iff, Bool.or_eq_false_iff, Bool.not_eq_true', Bool.not_eq_false', Int.not_lt, Int.not_le] at hc)) <;> (try (exfalso; first | omega | contradiction)))))
    refine wl_callL rfl Tryd.call31 rfl rfl rfl rfl (fun w hw => qline_no hG (by omega) hc0 hw) ?_
    repeat' (first | (first | refine wc_seq ?_ | refine wc_region ?_ | refine wl_nil ?_ | refine wn_seq ?_ | refine wn_blk ?_ | refine wc_skip ?_ | refine wc_scope ?_ | refine wc_label ?_ | refine wn_noGoto ?_ | refine wc_block ?_ | refine wc_exit rfl ?_ | (show WL _ _ (_ :: _) _ _ _ _; first | refine wl_v rfl rfl rfl (by first | (show OpV _ _ _ _ (Oper.mk _ (Op.move _) _ _ _ _) _ _; exact xo_move rfl) | (show OpV _ _ _ _ (Oper.mk _ (Op.assign _) _ _ _ _) _ _; exact xo_assign rfl) | (show OpV _ _ _ _ (Oper.mk _ (Op.pick _ _ _) _ _ _ _) _ _; first | exact xo_and rfl rfl | exact xo_or rfl rfl) | (show OpV _ _ _ _ (Oper.mk _ (Op.extract _ _) _ _ _ _) _ _; exact xo_extract rfl) | (show OpV _ _ _ _ (Oper.mk _ (Op.call ⟨.builtin .len, _, _⟩) _ _ _ _) _ _; first | exact xo_slen rfl | exact xo_len rfl) | (show OpV _ _ _ _ (Oper.mk _ (Op.unOp _ _ _) _ _ _ _) _ _; exact xo_not rfl) | (show OpV _ _ _ _ (Oper.mk _ (Op.binOp BinOp.eql _ _ _ _) _ _ _ _) _ _; first | exact xo_eql rfl rfl | exact xo_seql rfl rfl | exact xo_beql rfl rfl | exact xo_aeql rfl rfl) | (show OpV _ _ _ _ (Oper.mk _ (Op.binOp BinOp.neq _ _ _ _) _ _ _ _) _ _; first | exact xo_neq rfl rfl | exact xo_sneq rfl rfl | exact xo_bneq rfl rfl | exact xo_aneq rfl rfl) | (show OpV _ _ _ _ (Oper.mk _ (Op.binOp BinOp.lss _ _ _ _) _ _ _ _) _ _; exact xo_lss rfl rfl) | (show OpV _ _ _ _ (Oper.mk _ (Op.binOp BinOp.leq _ _ _ _) _ _ _ _) _ _; exact xo_leq rfl rfl) | (show OpV _ _ _ _ (Oper.mk _ (Op.binOp BinOp.gtr _ _ _ _) _ _ _ _) _ _; exact xo_gtr rfl rfl) | (show OpV _ _ _ _ (Oper.mk _ (Op.binOp BinOp.geq _ _ _ _) _ _ _ _) _ _; exact xo_geq rfl rfl) | (show OpV _ _ _ _ (Oper.mk _ (Op.binOp BinOp.add _ _ _ _) _ _ _ _) _ _; first | exact xo_add rfl rfl | exact ov_sadd rfl rfl (by first | with_reducible exact fun _ => rfl | with_reducible exact fun h => h | exact fun _ => rfl | exact fun h => h | (intro himp; simp_all; done)) (by first | with_reducible exact fun _ => rfl | with_reducible exact fun h => h | exact fun _ => rfl | exact fun h => h | (intro himp; simp_all; done)) (by intro hcg; first | omega | (simp only [List.length_append, List.length_take, List.length_drop, List.length_cons, List.length_nil, List.length_nil]; omega))) | (show OpV _ _ _ _ (Oper.mk _ (Op.binOp BinOp.sub _ _ _ _) _ _ _ _) _ _; exact xo_sub rfl rfl) | (show OpV _ _ _ _ (Oper.mk _ (Op.binOp BinOp.mul _ _ _ _) _ _ _ _) _ _; exact xo_mul rfl rfl) | (show OpV _ _ _ _ (Oper.mk _ (Op.binOp BinOp.quo _ _ _ _) _ _ _ _) _ _; exact xo_quo rfl rfl) | (show OpV _ _ _ _ (Oper.mk _ (Op.binOp BinOp.rem _ _ _ _) _ _ _ _) _ _; exact xo_rem rfl rfl) | (show OpV _ _ _ _ (Oper.mk _ (Op.index _ _ _) _ _ _ _) _ _; exact xo_sindex rfl rfl) | (show OpV _ _ _ _ (Oper.mk _ (Op.slice _ _ (some _) (some _) none) _ _ _ _) _ _; first | exact xo_slice rfl rfl rfl | exact xo_slcB rfl rfl rfl) | (show OpV _ _ _ _ (Oper.mk _ (Op.slice _ _ (some _) none none) _ _ _ _) _ _; first | exact xo_from rfl rfl | exact xo_slcFrom rfl rfl) | (show OpV _ _ _ _ (Oper.mk _ (Op.slice _ _ none (some _) none) _ _ _ _) _ _; first | exact xo_to rfl rfl | exact xo_slcTo rfl rfl) | (show OpV _ _ _ _ (Oper.mk _ (Op.slice _ _ none (some _) (some _)) _ _ _ _) _ _; exact xo_slc3 rfl rfl rfl) | (show OpV _ _ _ _ (Oper.mk _ (Op.convert _ _ _) _ _ _ _) _ _; first | exact xo_conv rfl | exact xo_convBytes rfl) | (show OpV _ _ _ _ (Oper.mk _ (Op.fieldAddr _ _ _) _ _ _ _) _ _; exact xo_fieldAddr rfl) | (show OpV _ _ _ _ (Oper.mk _ (Op.load _ _) _ _ _ _) _ _; first | exact xo_load1 rfl | exact xo_loadS rfl) | (show OpV _ _ _ _ (Oper.mk _ (Op.field _ _ _) _ _ _ _) _ _; exact xo_field rfl) | (show OpV _ _ _ _ (Oper.mk _ (Op.build _ _) _ _ _ _) _ _; exact xo_build rfl) | (show OpV _ _ _ _ (Oper.mk _ (Op.makeFunc _ _ _) _ _ _ _) _ _; exact ov_makeFunc rfl rfl) | (show OpV _ _ _ _ (Oper.mk _ (Op.nilCheck _) _ _ _ _) _ _; exact xo_nilCheck rfl)) ?_ | refine wl_v rfl rfl rfl (by first  | fail) ?_ | refine xl_alloc (fun _ => ?_) | refine xl_box rfl (fun _ => ?_) | refine xl_store rfl rfl ?_ | refine xl_buildSlice rfl (fun _ => ?_) | refine wl_makeMap rfl rfl (fun _ => ?_) | refine wl_insert rfl rfl rfl rfl rfl rfl (by first | exact rfl | exact trivial) (by first | exact Upd.here | exact Upd.there Upd.here | exact Upd.there (Upd.there Upd.here) | exact Upd.there (Upd.there (Upd.there Upd.here)) | exact Upd.there (Upd.there (Upd.there (Upd.there Upd.here))) | exact Upd.app _ (Upd.here) | exact Upd.app _ (Upd.there Upd.here) | exact Upd.app _ (Upd.there (Upd.there Upd.here)) | exact Upd.app _ (Upd.there (Upd.there (Upd.there Upd.here))) | exact Upd.there (Upd.app _ (Upd.here)) | exact Upd.there (Upd.app _ (Upd.there Upd.here)) | exact Upd.there (Upd.app _ (Upd.there (Upd.there Upd.here))) | exact Upd.there (Upd.app _ (Upd.there (Upd.there (Upd.there Upd.here)))) | exact Upd.there (Upd.there (Upd.app _ (Upd.here))) | exact Upd.there (Upd.there (Upd.app _ (Upd.there Upd.here))) | exact Upd.there (Upd.there (Upd.app _ (Upd.there (Upd.there Upd.here))))) (by rfl) ?_) | refine wc_ret rfl ?_) | (show WC _ (Code.cond _ _ _) _ _ _ _; (refine wc_cond rfl (fun hc => ?_) (fun hc => ?_) <;> (try (simp only [decide_eq_true_eq, decide_eq_false_iff_not, Bool.and_eq_true, Bool.or_eq_true, Bool.and_eq_false_iff, Bool.or_eq_false_iff, Bool.not_eq_true', Bool.not_eq_false', Int.not_lt, Int.not_le] at hc)) <;> (try (exfalso; first | omega | contradiction)))))
    unfold HdrsIs
    rw [← inv]
    refine wr_weak (fun w' h => back w' (h.drop (List.Sublist.cons _ (List.Sublist.refl _)))) ?_
    exact wrl_lay2 (Hn := Hs) rfl rfl rfl Since.refl (List.Sublist.refl _) ⟨_, rfl, fin (fun p hp => .inr hp)⟩
  | some p =>
    obtain ⟨l, r⟩ := p
    rw [hc0] at inv
    simp only at inv
    have hlr := cutS_length hc0
    by_cases hl : l = []
    · rw [if_pos hl] at inv
      subst hl
      repeat' (first | (first | refine wc_seq ?_ | refine wc_region ?_ | refine wl_nil ?_ | refine wn_seq ?_ | refine wn_blk ?_ | refine wc_skip ?_ | refine wc_scope ?_ | refine wc_label ?_ | refine wn_noGoto ?_ | refine wc_block ?_ | refine wc_exit rfl ?_ | (show WL _ _ (_ :: _) _ _ _ _; first | refine wl_v rfl rfl rfl (by first | (show OpV _ _ _ _ (Oper.mk _ (Op.move _) _ _ _ _) _ _; exact xo_move rfl) | (show OpV _ _ _ _ (Oper.mk _ (Op.assign _) _ _ _ _) _ _; exact xo_assign rfl) | (show OpV _ _ _ _ (Oper.mk _ (Op.pick _ _ _) _ _ _ _) _ _; first | exact xo_and rfl rfl | exact xo_or rfl rfl) | (show OpV _ _ _ _ (Oper.mk _ (Op.extract _ _) _ _ _ _) _ _; exact xo_extract rfl) | (show OpV _ _ _ _ (Oper.mk _ (Op.call ⟨.builtin .len, _, _⟩) _ _ _ _) _ _; first | exact xo_slen rfl | exact xo_len rfl) | (show OpV _ _ _ _ (Oper.mk _ (Op.unOp _ _ _) _ _ _ _) _ _; exact xo_not rfl) | (show OpV _ _ _ _ (Oper.mk _ (Op.binOp BinOp.eql _ _ _ _) _ _ _ _) _ _; first | exact xo_eql rfl rfl | exact xo_seql rfl rfl | exact xo_beql rfl rfl | exact xo_aeql rfl rfl) | (show OpV _ _ _ _ (Oper.mk _ (Op.binOp BinOp.neq _ _ _ _) _ _ _ _) _ _; first | exact xo_neq rfl rfl | exact xo_sneq rfl rfl | exact xo_bneq rfl rfl | exact xo_aneq rfl rfl) | (show OpV _ _ _ _ (Oper.mk _ (Op.binOp BinOp.lss _ _ _ _) _ _ _ _) _ _; exact xo_lss rfl rfl) | (show OpV _ _ _ _ (Oper.mk _ (Op.binOp BinOp.leq _ _ _ _) _ _ _ _) _ _; exact xo_leq rfl rfl) | (show OpV _ _ _ _ (Oper.mk _ (Op.binOp BinOp.gtr _ _ _ _) _ _ _ _) _ _; exact xo_gtr rfl rfl) | (show OpV _ _ _ _ (Oper.mk _ (Op.binOp BinOp.geq _ _ _ _) _ _ _ _) _ _; exact xo_geq rfl rfl) | (show OpV _ _ _ _ (Oper.mk _ (Op.binOp BinOp.add _ _ _ _) _ _ _ _) _ _; first | exact xo_add rfl rfl | exact ov_sadd rfl rfl (by first | with_reducible exact fun _ => rfl | with_reducible exact fun h => h | exact fun _ => rfl | exact fun h => h | (intro himp; simp_all; done)) (by first | with_reducible exact fun _ => rfl | with_reducible exact fun h => h | exact fun _ => rfl | exact fun h => h | (intro himp; simp_all; done)) (by intro hcg; first | omega | (simp only [List.length_append, List.length_take, List.length_drop, List.length_cons, List.length_nil, List.length_nil]; omega))) | (show OpV _ _ _ _ (Oper.mk _ (Op.binOp BinOp.sub _ _ _ _) _ _ _ _) _ _; exact xo_sub rfl rfl) | (show OpV _ _ _ _ (Oper.mk _ (Op.binOp BinOp.mul _ _ _ _) _ _ _ _) _ _; exact xo_mul rfl rfl) | (show OpV _ _ _ _ (Oper.mk _ (Op.binOp BinOp.quo _ _ _ _) _ _ _ _) _ _; exact xo_quo rfl rfl) | (show OpV _ _ _ _ (Oper.mk _ (Op.binOp BinOp.rem _ _ _ _) _ _ _ _) _ _; exact xo_rem rfl rfl) | (show OpV _ _ _ _ (Oper.mk _ (Op.index _ _ _) _ _ _ _) _ _; exact xo_sindex rfl rfl) | (show OpV _ _ _ _ (Oper.mk _ (Op.slice _ _ (some _) (some _) none) _ _ _ _) _ _; first | exact xo_slice rfl rfl rfl | exact xo_slcB rfl rfl rfl) | (show OpV _ _ _ _ (Oper.mk _ (Op.slice _ _ (some _) none none) _ _ _ _) _ _; first | exact xo_from rfl rfl | exact xo_slcFrom rfl rfl) | (show OpV _ _ _ _ (Oper.mk _ (Op.slice _ _ none (some _) none) _ _ _ _) _ _; first | exact xo_to rfl rfl | exact xo_slcTo rfl rfl) | (show OpV _ _ _ _ (Oper.mk _ (Op.slice _ _ none (some _) (some _)) _ _ _ _) _ _; exact xo_slc3 rfl rfl rfl) | (show OpV _ _ _ _ (Oper.mk _ (Op.convert _ _ _) _ _ _ _) _ _; first | exact xo_conv rfl | exact xo_convBytes rfl) | (show OpV _ _ _ _ (Oper.mk _ (Op.fieldAddr _ _ _) _ _ _ _) _ _; exact xo_fieldAddr rfl) | (show OpV _ _ _ _ (Oper.mk _ (Op.load _ _) _ _ _ _) _ _; first | exact xo_load1 rfl | exact xo_loadS rfl) | (show OpV _ _ _ _ (Oper.mk _ (Op.field _ _ _) _ _ _ _) _ _; exact xo_field rfl) | (show OpV _ _ _ _ (Oper.mk _ (Op.build _ _) _ _ _ _) _ _; exact xo_build rfl) | (show OpV _ _ _ _ (Oper.mk _ (Op.makeFunc _ _ _) _ _ _ _) _ _; exact ov_makeFunc rfl rfl) | (show OpV _ _ _ _ (Oper.mk _ (Op.nilCheck _) _ _ _ _) _ _; exact xo_nilCheck rfl)) ?_ | refine wl_v rfl rfl rfl (by first  | fail) ?_ | refine xl_alloc (fun _ => ?_) | refine xl_box rfl (fun _ => ?_) | refine xl_store rfl rfl ?_ | refine xl_buildSlice rfl (fun _ => ?_) | refine wl_makeMap rfl rfl (fun _ => ?_) | refine wl_insert rfl rfl rfl rfl rfl rfl (by first | exact rfl | exact trivial) (by first | exact Upd.here | exact Upd.there Upd.here | exact Upd.there (Upd.there Upd.here) | exact Upd.there (Upd.there (Upd.there Upd.here)) | exact Upd.there (Upd.there (Upd.there (Upd.there Upd.here))) | exact Upd.app _ (Upd.here) | exact Upd.app _ (Upd.there Upd.here) | exact Upd.app _ (Upd.there (Upd.there Upd.here)) | exact Upd.app _ (Upd.there (Upd.there (Upd.there Upd.here))) | exact Upd.there (Upd.app _ (Upd.here)) | exact Upd.there (Upd.app _ (Upd.there Upd.here)) | exact Upd.there (Upd.app _ (Upd.there (Upd.there Upd.here))) | exact Upd.there (Upd.app _ (Upd.there (Upd.there (Upd.there Upd.here)))) | exact Upd.there (Upd.there (Upd.app _ (Upd.here))) | exact Upd.there (Upd.there (Upd.app _ (Upd.there Upd.here))) | exact Upd.there (Upd.there (Upd.app _ (Upd.there (Upd.there Upd.here))))) (by rfl) ?_) | refine wc_ret rfl ?_) | (show WC _ (Code.cond _ _ _) _ _ _ _; (refine wc_cond rfl (fun hc => ?_) (fun hc => ?_) <;> (try (simp only [decide_eq_true_eq, decide_eq_false_iff_not, Bool.and_eq_true, Bool.or_eq_true, Bool.and_eq_false_iff, Bool.or_eq_false_iff, Bool.not_eq_true', Bool.not_eq_false', Int.not_lt, Int.not_le] at hc)) <;> (try (exfalso; first | omega | contradiction)))))
      refine wl_callL rfl Tryd.call31 rfl rfl rfl rfl (fun w hw => qline_yes hG (by omega) hc0 hw) ?_
      repeat' (first | (first | refine wc_seq ?_ | refine wc_region ?_ | refine wl_nil ?_ | refine wn_seq ?_ | refine wn_blk ?_ | refine wc_skip ?_ | refine wc_scope ?_ | refine wc_label ?_ | refine wn_noGoto ?_ | refine wc_block ?_ | refine wc_exit rfl ?_ | (show WL _ _ (_ :: _) _ _ _ _; first | refine wl_v rfl rfl rfl (by first | (show OpV _ _ _ _ (Oper.mk _ (Op.move _) _ _ _ _) _ _; exact xo_move rfl) | (show OpV _ _ _ _ (Oper.mk _ (Op.assign _) _ _ _ _) _ _; exact xo_assign rfl) | (show OpV _ _ _ _ (Oper.mk _ (Op.pick _ _ _) _ _ _ _) _ _; first | exact xo_and rfl rfl | exact xo_or rfl rfl) | (show OpV _ _ _ _ (Oper.mk _ (Op.extract _ _) _ _ _ _) _ _; exact xo_extract rfl) | (show OpV _ _ _ _ (Oper.mk _ (Op.call ⟨.builtin .len, _, _⟩) _ _ _ _) _ _; first | exact xo_slen rfl | exact xo_len rfl) | (show OpV _ _ _ _ (Oper.mk _ (Op.unOp _ _ _) _ _ _ _) _ _; exact xo_not rfl) | (show OpV _ _ _ _ (Oper.mk _ (Op.binOp BinOp.eql _ _ _ _) _ _ _ _) _ _; first | exact xo_eql rfl rfl | exact xo_seql rfl rfl | exact xo_beql rfl rfl | exact xo_aeql rfl rfl) | (show OpV _ _ _ _ (Oper.mk _ (Op.binOp BinOp.neq _ _ _ _) _ _ _ _) _ _; first | exact xo_neq rfl rfl | exact xo_sneq rfl rfl | exact xo_bneq rfl rfl | exact xo_aneq rfl rfl) | (show OpV _ _ _ _ (Oper.mk _ (Op.binOp BinOp.lss _ _ _ _) _ _ _ _) _ _; exact xo_lss rfl rfl) | (show OpV _ _ _ _ (Oper.mk _ (Op.binOp BinOp.leq _ _ _ _) _ _ _ _) _ _; exact xo_leq rfl rfl) | (show OpV _ _ _ _ (Oper.mk _ (Op.binOp BinOp.gtr _ _ _ _) _ _ _ _) _ _; exact xo_gtr rfl rfl) | (show OpV _ _ _ _ (Oper.mk _ (Op.binOp BinOp.geq _ _ _ _) _ _ _ _) _ _; exact xo_geq rfl rfl) | (show OpV _ _ _ _ (Oper.mk _ (Op.binOp BinOp.add _ _ _ _) _ _ _ _) _ _; first | exact xo_add rfl rfl | exact ov_sadd rfl rfl (by first | with_reducible exact fun _ => rfl | with_reducible exact fun h => h | exact fun _ => rfl | exact fun h => h | (intro himp; simp_all; done)) (by first | with_reducible exact fun _ => rfl | with_reducible exact fun h => h | exact fun _ => rfl | exact fun h => h | (intro himp; simp_all; done)) (by intro hcg; first | omega | (simp only [List.length_append, List.length_take, List.length_drop, List.length_cons, List.length_nil, List.length_nil]; omega))) | (show OpV _ _ _ _ (Oper.mk _ (Op.binOp BinOp.sub _ _ _ _) _ _ _ _) _ _; exact xo_sub rfl rfl) | (show OpV _ _ _ _ (Oper.mk _ (Op.binOp BinOp.mul _ _ _ _) _ _ _ _) _ _; exact xo_mul rfl rfl) | (show OpV _ _ _ _ (Oper.mk _ (Op.binOp BinOp.quo _ _ _ _) _ _ _ _) _ _; exact xo_quo rfl rfl) | (show OpV _ _ _ _ (Oper.mk _ (Op.binOp BinOp.rem _ _ _ _) _ _ _ _) _ _; exact xo_rem rfl rfl) | (show OpV _ _ _ _ (Oper.mk _ (Op.index _ _ _) _ _ _ _) _ _; exact xo_sindex rfl rfl) | (show OpV _ _ _ _ (Oper.mk _ (Op.slice _ _ (some _) (some _) none) _ _ _ _) _ _; first | exact xo_slice rfl rfl rfl | exact xo_slcB rfl rfl rfl) | (show OpV _ _ _ _ (Oper.mk _ (Op.slice _ _ (some _) none none) _ _ _ _) _ _; first | exact xo_from rfl rfl | exact xo_slcFrom rfl rfl) | (show OpV _ _ _ _ (Oper.mk _ (Op.slice _ _ none (some _) none) _ _ _ _) _ _; first | exact xo_to rfl rfl | exact xo_slcTo rfl rfl) | (show OpV _ _ _ _ (Oper.mk _ (Op.slice _ _ none (some _) (some _)) _ _ _ _) _ _; exact xo_slc3 rfl rfl rfl) | (show OpV _ _ _ _ (Oper.mk _ (Op.convert _ _ _) _ _ _ _) _ _; first | exact xo_conv rfl | exact xo_convBytes rfl) | (show OpV _ _ _ _ (Oper.mk _ (Op.fieldAddr _ _ _) _ _ _ _) _ _; exact xo_fieldAddr rfl) | (show OpV _ _ _ _ (Oper.mk _ (Op.load _ _) _ _ _ _) _ _; first | exact xo_load1 rfl | exact xo_loadS rfl) | (show OpV _ _ _ _ (Oper.mk _ (Op.field _ _ _) _ _ _ _) _ _; exact xo_field rfl) | (show OpV _ _ _ _ (Oper.mk _ (Op.build _ _) _ _ _ _) _ _; exact xo_build rfl) | (show OpV _ _ _ _ (Oper.mk _ (Op.makeFunc _ _ _) _ _ _ _) _ _; exact ov_makeFunc rfl rfl) | (show OpV _ _ _ _ (Oper.mk _ (Op.nilCheck _) _ _ _ _) _ _; exact xo_nilCheck rfl)) ?_ | refine wl_v rfl rfl rfl (by first  | fail) ?_ | refine xl_alloc (fun _ => ?_) | refine xl_box rfl (fun _ => ?_) | refine xl_store rfl rfl ?_ | refine xl_buildSlice rfl (fun _ => ?_) | refine wl_makeMap rfl rfl (fun _ => ?_) | refine wl_insert rfl rfl rfl rfl rfl rfl (by first | exact rfl | exact trivial) (by first | exact Upd.here | exact Upd.there Upd.here | exact Upd.there (Upd.there Upd.here) | exact Upd.there (Upd.there (Upd.there Upd.here)) | exact Upd.there (Upd.there (Upd.there (Upd.there Upd.here))) | exact Upd.app _ (Upd.here) | exact Upd.app _ (Upd.there Upd.here) | exact Upd.app _ (Upd.there (Upd.there Upd.here)) | exact Upd.app _ (Upd.there (Upd.there (Upd.there Upd.here))) | exact Upd.there (Upd.app _ (Upd.here)) | exact Upd.there (Upd.app _ (Upd.there Upd.here)) | exact Upd.there (Upd.app _ (Upd.there (Upd.there Upd.here))) | exact Upd.there (Upd.app _ (Upd.there (Upd.there (Upd.there Upd.here)))) | exact Upd.there (Upd.there (Upd.app _ (Upd.here))) | exact Upd.there (Upd.there (Upd.app _ (Upd.there Upd.here))) | exact Upd.there (Upd.there (Upd.app _ (Upd.there (Upd.there Upd.here))))) (by rfl) ?_) | refine wc_ret rfl ?_) | (show WC _ (Code.cond _ _ _) _ _ _ _; (refine wc_cond rfl (fun hc => ?_) (fun hc => ?_) <;> (try (simp only [decide_eq_true_eq, decide_eq_false_iff_not, Bool.and_eq_true, Bool.or_eq_true, Bool.and_eq_false_iff, Bool.or_eq_false_iff, Bool.not_eq_true', Bool.not_eq_false', Int.not_lt, Int.not_le] at hc)) <;> (try (exfalso; first | omega | contradiction)))))
      unfold HdrsIs
      rw [← inv]
      refine wr_weak (fun w' h => back w' h) ?_
      exact wrl_lay2 (Hn := Hs) rfl rfl rfl Since.refl (List.Sublist.refl _) ⟨_, rfl, fin (fun p hp => .inr hp)⟩
    rw [if_neg hl] at inv
    by_cases hf : 32 ≤ acc.length
    · rw [if_pos hf] at inv
      repeat' (first | (first | refine wc_seq ?_ | refine wc_region ?_ | refine wl_nil ?_ | refine wn_seq ?_ | refine wn_blk ?_ | refine wc_skip ?_ | refine wc_scope ?_ | refine wc_label ?_ | refine wn_noGoto ?_ | refine wc_block ?_ | refine wc_exit rfl ?_ | (show WL _ _ (_ :: _) _ _ _ _; first | refine wl_v rfl rfl rfl (by first | (show OpV _ _ _ _ (Oper.mk _ (Op.move _) _ _ _ _) _ _; exact xo_move rfl) | (show OpV _ _ _ _ (Oper.mk _ (Op.assign _) _ _ _ _) _ _; exact xo_assign rfl) | (show OpV _ _ _ _ (Oper.mk _ (Op.pick _ _ _) _ _ _ _) _ _; first | exact xo_and rfl rfl | exact xo_or rfl rfl) | (show OpV _ _ _ _ (Oper.mk _ (Op.extract _ _) _ _ _ _) _ _; exact xo_extract rfl) | (show OpV _ _ _ _ (Oper.mk _ (Op.call ⟨.builtin .len, _, _⟩) _ _ _ _) _ _; first | exact xo_slen rfl | exact xo_len rfl) | (show OpV _ _ _ _ (Oper.mk _ (Op.unOp _ _ _) _ _ _ _) _ _; exact xo_not rfl) | (show OpV _ _ _ _ (Oper.mk _ (Op.binOp BinOp.eql _ _ _ _) _ _ _ _) _ _; first | exact xo_eql rfl rfl | exact xo_seql rfl rfl | exact xo_beql rfl rfl | exact xo_aeql rfl rfl) | (show OpV _ _ _ _ (Oper.mk _ (Op.binOp BinOp.neq _ _ _ _) _ _ _ _) _ _; first | exact xo_neq rfl rfl | exact xo_sneq rfl rfl | exact xo_bneq rfl rfl | exact xo_aneq rfl rfl) | (show OpV _ _ _ _ (Oper.mk _ (Op.binOp BinOp.lss _ _ _ _) _ _ _ _) _ _; exact xo_lss rfl rfl) | (show OpV _ _ _ _ (Oper.mk _ (Op.binOp BinOp.leq _ _ _ _) _ _ _ _) _ _; exact xo_leq rfl rfl) | (show OpV _ _ _ _ (Oper.mk _ (Op.binOp BinOp.gtr _ _ _ _) _ _ _ _) _ _; exact xo_gtr rfl rfl) | (show OpV _ _ _ _ (Oper.mk _ (Op.binOp BinOp.geq _ _ _ _) _ _ _ _) _ _; exact xo_geq rfl rfl) | (show OpV _ _ _ _ (Oper.mk _ (Op.binOp BinOp.add _ _ _ _) _ _ _ _) _ _; first | exact xo_add rfl rfl | exact ov_sadd rfl rfl (by first | with_reducible exact fun _ => rfl | with_reducible exact fun h => h | exact fun _ => rfl | exact fun h => h | (intro himp; simp_all; done)) (by first | with_reducible exact fun _ => rfl | with_reducible exact fun h => h | exact fun _ => rfl | exact fun h => h | (intro himp; simp_all; done)) (by intro hcg; first | omega | (simp only [List.length_append, List.length_take, List.length_drop, List.length_cons, List.length_nil, List.length_nil]; omega))) | (show OpV _ _ _ _ (Oper.mk _ (Op.binOp BinOp.sub _ _ _ _) _ _ _ _) _ _; exact xo_sub rfl rfl) | (show OpV _ _ _ _ (Oper.mk _ (Op.binOp BinOp.mul _ _ _ _) _ _ _ _) _ _; exact xo_mul rfl rfl) | (show OpV _ _ _ _ (Oper.mk _ (Op.binOp BinOp.quo _ _ _ _) _ _ _ _) _ _; exact xo_quo rfl rfl) | (show OpV _ _ _ _ (Oper.mk _ (Op.binOp BinOp.rem _ _ _ _) _ _ _ _) _ _; exact xo_rem rfl rfl) | (show OpV _ _ _ _ (Oper.mk _ (Op.index _ _ _) _ _ _ _) _ _; exact xo_sindex rfl rfl) | (show OpV _ _ _ _ (Oper.mk _ (Op.slice _ _ (some _) (some _) none) _ _ _ _) _ _; first | exact xo_slice rfl rfl rfl | exact xo_slcB rfl rfl rfl) | (show OpV _ _ _ _ (Oper.mk _ (Op.slice _ _ (some _) none none) _ _ _ _) _ _; first | exact xo_from rfl rfl | exact xo_slcFrom rfl rfl) | (show OpV _ _ _ _ (Oper.mk _ (Op.slice _ _ none (some _) none) _ _ _ _) _ _; first | exact xo_to rfl rfl | exact xo_slcTo rfl rfl) | (show OpV _ _ _ _ (Oper.mk _ (Op.slice _ _ none (some _) (some _)) _ _ _ _) _ _; exact xo_slc3 rfl rfl rfl) | (show OpV _ _ _ _ (Oper.mk _ (Op.convert _ _ _) _ _ _ _) _ _; first | exact xo_conv rfl | exact xo_convBytes rfl) | (show OpV _ _ _ _ (Oper.mk _ (Op.fieldAddr _ _ _) _ _ _ _) _ _; exact xo_fieldAddr rfl) | (show OpV _ _ _ _ (Oper.mk _ (Op.load _ _) _ _ _ _) _ _; first | exact xo_load1 rfl | exact xo_loadS rfl) | (show OpV _ _ _ _ (Oper.mk _ (Op.field _ _ _) _ _ _ _) _ _; exact xo_field rfl) | (show OpV _ _ _ _ (Oper.mk _ (Op.build _ _) _ _ _ _) _ _; exact xo_build rfl) | (show OpV _ _ _ _ (Oper.mk _ (Op.makeFunc _ _ _) _ _ _ _) _ _; exact ov_makeFunc rfl rfl) | (show OpV _ _ _ _ (Oper.mk _ (Op.nilCheck _) _ _ _ _) _ _; exact xo_nilCheck rfl)) ?_ | refine wl_v rfl rfl rfl (by first  | fail) ?_ | refine xl_alloc (fun _ => ?_) | refine xl_box rfl (fun _ => ?_) | refine xl_store rfl rfl ?_ | refine xl_buildSlice rfl (fun _ => ?_) | refine wl_makeMap rfl rfl (fun _ => ?_) | refine wl_insert rfl rfl rfl rfl rfl rfl (by first | exact rfl | exact trivial) (by first | exact Upd.here | exact Upd.there Upd.here | exact Upd.there (Upd.there Upd.here) | exact Upd.there (Upd.there (Upd.there Upd.here)) | exact Upd.there (Upd.there (Upd.there (Upd.there Upd.here))) | exact Upd.app _ (Upd.here) | exact Upd.app _ (Upd.there Upd.here) | exact Upd.app _ (Upd.there (Upd.there Upd.here)) | exact Upd.app _ (Upd.there (Upd.there (Upd.there Upd.here))) | exact Upd.there (Upd.app _ (Upd.here)) | exact Upd.there (Upd.app _ (Upd.there Upd.here)) | exact Upd.there (Upd.app _ (Upd.there (Upd.there Upd.here))) | exact Upd.there (Upd.app _ (Upd.there (Upd.there (Upd.there Upd.here)))) | exact Upd.there (Upd.there (Upd.app _ (Upd.here))) | exact Upd.there (Upd.there (Upd.app _ (Upd.there Upd.here))) | exact Upd.there (Upd.there (Upd.app _ (Upd.there (Upd.there Upd.here))))) (by rfl) ?_) | refine wc_ret rfl ?_) | (show WC _ (Code.cond _ _ _) _ _ _ _; (refine wc_cond rfl (fun hc => ?_) (fun hc => ?_) <;> (try (simp only [decide_eq_true_eq, decide_eq_false_iff_not, Bool.and_eq_true, Bool.or_eq_true, Bool.and_eq_false_iff, Bool.or_eq_false_iff, Bool.not_eq_true', Bool.not_eq_false', Int.not_lt, Int.not_le] at hc)) <;> (try (exfalso; first | omega | contradiction)))))
      refine wl_callL rfl Tryd.call31 rfl rfl rfl rfl (fun w hw => qline_yes hG (by omega) hc0 hw) ?_
      repeat' (first | (first | refine wc_seq ?_ | refine wc_region ?_ | refine wl_nil ?_ | refine wn_seq ?_ | refine wn_blk ?_ | refine wc_skip ?_ | refine wc_scope ?_ | refine wc_label ?_ | refine wn_noGoto ?_ | refine wc_block ?_ | refine wc_exit rfl ?_ | (show WL _ _ (_ :: _) _ _ _ _; first | refine wl_v rfl rfl rfl (by first | (show OpV _ _ _ _ (Oper.mk _ (Op.move _) _ _ _ _) _ _; exact xo_move rfl) | (show OpV _ _ _ _ (Oper.mk _ (Op.assign _) _ _ _ _) _ _; exact xo_assign rfl) | (show OpV _ _ _ _ (Oper.mk _ (Op.pick _ _ _) _ _ _ _) _ _; first | exact xo_and rfl rfl | exact xo_or rfl rfl) | (show OpV _ _ _ _ (Oper.mk _ (Op.extract _ _) _ _ _ _) _ _; exact xo_extract rfl) | (show OpV _ _ _ _ (Oper.mk _ (Op.call ⟨.builtin .len, _, _⟩) _ _ _ _) _ _; first | exact xo_slen rfl | exact xo_len rfl) | (show OpV _ _ _ _ (Oper.mk _ (Op.unOp _ _ _) _ _ _ _) _ _; exact xo_not rfl) | (show OpV _ _ _ _ (Oper.mk _ (Op.binOp BinOp.eql _ _ _ _) _ _ _ _) _ _; first | exact xo_eql rfl rfl | exact xo_seql rfl rfl | exact xo_beql rfl rfl | exact xo_aeql rfl rfl) | (show OpV _ _ _ _ (Oper.mk _ (Op.binOp BinOp.neq _ _ _ _) _ _ _ _) _ _; first | exact xo_neq rfl rfl | exact xo_sneq rfl rfl | exact xo_bneq rfl rfl | exact xo_aneq rfl rfl) | (show OpV _ _ _ _ (Oper.mk _ (Op.binOp BinOp.lss _ _ _ _) _ _ _ _) _ _; exact xo_lss rfl rfl) | (show OpV _ _ _ _ (Oper.mk _ (Op.binOp BinOp.leq _ _ _ _) _ _ _ _) _ _; exact xo_leq rfl rfl) | (show OpV _ _ _ _ (Oper.mk _ (Op.binOp BinOp.gtr _ _ _ _) _ _ _ _) _ _; exact xo_gtr rfl rfl) | (show OpV _ _ _ _ (Oper.mk _ (Op.binOp BinOp.geq _ _ _ _) _ _ _ _) _ _; exact xo_geq rfl rfl) | (show OpV _ _ _ _ (Oper.mk _ (Op.binOp BinOp.add _ _ _ _) _ _ _ _) _ _; first | exact xo_add rfl rfl | exact ov_sadd rfl rfl (by first | with_reducible exact fun _ => rfl | with_reducible exact fun h => h | exact fun _ => rfl | exact fun h => h | (intro himp; simp_all; done)) (by first | with_reducible exact fun _ => rfl | with_reducible exact fun h => h | exact fun _ => rfl | exact fun h => h | (intro himp; simp_all; done)) (by intro hcg; first | omega | (simp only [List.length_append, List.length_take, List.length_drop, List.length_cons, List.length_nil, List.length_nil]; omega))) | (show OpV _ _ _ _ (Oper.mk _ (Op.binOp BinOp.sub _ _ _ _) _ _ _ _) _ _; exact xo_sub rfl rfl) | (show OpV _ _ _ _ (Oper.mk _ (Op.binOp BinOp.mul _ _ _ _) _ _ _ _) _ _; exact xo_mul rfl rfl) | (show OpV _ _ _ _ (Oper.mk _ (Op.binOp BinOp.quo _ _ _ _) _ _ _ _) _ _; exact xo_quo rfl rfl) | (show OpV _ _ _ _ (Oper.mk _ (Op.binOp BinOp.rem _ _ _ _) _ _ _ _) _ _; exact xo_rem rfl rfl) | (show OpV _ _ _ _ (Oper.mk _ (Op.index _ _ _) _ _ _ _) _ _; exact xo_sindex rfl rfl) | (show OpV _ _ _ _ (Oper.mk _ (Op.slice _ _ (some _) (some _) none) _ _ _ _) _ _; first | exact xo_slice rfl rfl rfl | exact xo_slcB rfl rfl rfl) | (show OpV _ _ _ _ (Oper.mk _ (Op.slice _ _ (some _) none none) _ _ _ _) _ _; first | exact xo_from rfl rfl | exact xo_slcFrom rfl rfl) | (show OpV _ _ _ _ (Oper.mk _ (Op.slice _ _ none (some _) none) _ _ _ _) _ _; first | exact xo_to rfl rfl | exact xo_slcTo rfl rfl) | (show OpV _ _ _ _ (Oper.mk _ (Op.slice _ _ none (some _) (some _)) _ _ _ _) _ _; exact xo_slc3 rfl rfl rfl) | (show OpV _ _ _ _ (Oper.mk _ (Op.convert _ _ _) _ _ _ _) _ _; first | exact xo_conv rfl | exact xo_convBytes rfl) | (show OpV _ _ _ _ (Oper.mk _ (Op.fieldAddr _ _ _) _ _ _ _) _ _; exact xo_fieldAddr rfl) | (show OpV _ _ _ _ (Oper.mk _ (Op.load _ _) _ _ _ _) _ _; first | exact xo_load1 rfl | exact xo_loadS rfl) | (show OpV _ _ _ _ (Oper.mk _ (Op.field _ _ _) _ _ _ _) _ _; exact xo_field rfl) | (show OpV _ _ _ _ (Oper.mk _ (Op.build _ _) _ _ _ _) _ _; exact xo_build rfl) | (show OpV _ _ _ _ (Oper.mk _ (Op.makeFunc _ _ _) _ _ _ _) _ _; exact ov_makeFunc rfl rfl) | (show OpV _ _ _ _ (Oper.mk _ (Op.nilCheck _) _ _ _ _) _ _; exact xo_nilCheck rfl)) ?_ | refine wl_v rfl rfl rfl (by first  | fail) ?_ | refine xl_alloc (fun _ => ?_) | refine xl_box rfl (fun _ => ?_) | refine xl_store rfl rfl ?_ | refine xl_buildSlice rfl (fun _ => ?_) | refine wl_makeMap rfl rfl (fun _ => ?_) | refine wl_insert rfl rfl rfl rfl rfl rfl (by first | exact rfl | exact trivial) (by first | exact Upd.here | exact Upd.there Upd.here | exact Upd.there (Upd.there Upd.here) | exact Upd.there (Upd.there (Upd.there Upd.here)) | exact Upd.there (Upd.there (Upd.there (Upd.there Upd.here))) | exact Upd.app _ (Upd.here) | exact Upd.app _ (Upd.there Upd.here) | exact Upd.app _ (Upd.there (Upd.there Upd.here)) | exact Upd.app _ (Upd.there (Upd.there (Upd.there Upd.here))) | exact Upd.there (Upd.app _ (Upd.here)) | exact Upd.there (Upd.app _ (Upd.there Upd.here)) | exact Upd.there (Upd.app _ (Upd.there (Upd.there Upd.here))) | exact Upd.there (Upd.app _ (Upd.there (Upd.there (Upd.there Upd.here)))) | exact Upd.there (Upd.there (Upd.app _ (Upd.here))) | exact Upd.there (Upd.there (Upd.app _ (Upd.there Upd.here))) | exact Upd.there (Upd.there (Upd.app _ (Upd.there (Upd.there Upd.here))))) (by rfl) ?_) | refine wc_ret rfl ?_) | (show WC _ (Code.cond _ _ _) _ _ _ _; (refine wc_cond rfl (fun hc => ?_) (fun hc => ?_) <;> (try (simp only [decide_eq_true_eq, decide_eq_false_iff_not, Bool.and_eq_true, Bool.or_eq_true, Bool.and_eq_false_iff, Bool.or_eq_false_iff, Bool.not_eq_true', Bool.not_eq_false', Int.not_lt, Int.not_le] at hc)) <;> (try (exfalso; first | omega | contradiction)))))
      unfold HdrsIs
      rw [← inv]
      refine wr_weak (fun w' h => back w' (h.drop (List.Sublist.cons _ (List.Sublist.refl _)))) ?_
      exact wrl_lay2 (Hn := Hs) rfl rfl rfl Since.refl (List.Sublist.refl _) ⟨_, rfl, fin (fun p hp => .inr hp)⟩
    rw [if_neg hf] at inv
    have hh : ∀ {w : World}, Laid M w → Calls Tryd.prog 51 #[str l] w (RetE w (.tuple #[.agg #[str (hdrP l).1.1, str (hdrP l).1.2], i64 (hdrP l).2])) := fun h => header_ok hG h l (by omega)
    generalize hdrP l = hp at *
    obtain ⟨⟨hn, hv⟩, he⟩ := hp
    dsimp only at hh inv
    repeat' (first | (first | refine wc_seq ?_ | refine wc_region ?_ | refine wl_nil ?_ | refine wn_seq ?_ | refine wn_blk ?_ | refine wc_skip ?_ | refine wc_scope ?_ | refine wc_label ?_ | refine wn_noGoto ?_ | refine wc_block ?_ | refine wc_exit rfl ?_ | (show WL _ _ (_ :: _) _ _ _ _; first | refine wl_v rfl rfl rfl (by first | (show OpV _ _ _ _ (Oper.mk _ (Op.move _) _ _ _ _) _ _; exact xo_move rfl) | (show OpV _ _ _ _ (Oper.mk _ (Op.assign _) _ _ _ _) _ _; exact xo_assign rfl) | (show OpV _ _ _ _ (Oper.mk _ (Op.pick _ _ _) _ _ _ _) _ _; first | exact xo_and rfl rfl | exact xo_or rfl rfl) | (show OpV _ _ _ _ (Oper.mk _ (Op.extract _ _) _ _ _ _) _ _; exact xo_extract rfl) | (show OpV _ _ _ _ (Oper.mk _ (Op.call ⟨.builtin .len, _, _⟩) _ _ _ _) _ _; first | exact xo_slen rfl | exact xo_len rfl) | (show OpV _ _ _ _ (Oper.mk _ (Op.unOp _ _ _) _ _ _ _) _ _; exact xo_not rfl) | (show OpV _ _ _ _ (Oper.mk _ (Op.binOp BinOp.eql _ _ _ _) _ _ _ _) _ _; first | exact xo_eql rfl rfl | exact xo_seql rfl rfl | exact xo_beql rfl rfl | exact xo_aeql rfl rfl) | (show OpV _ _ _ _ (Oper.mk _ (Op.binOp BinOp.neq _ _ _ _) _ _ _ _) _ _; first | exact xo_neq rfl rfl | exact xo_sneq rfl rfl | exact xo_bneq rfl rfl | exact xo_aneq rfl rfl) | (show OpV _ _ _ _ (Oper.mk _ (Op.binOp BinOp.lss _ _ _ _) _ _ _ _) _ _; exact xo_lss rfl rfl) | (show OpV _ _ _ _ (Oper.mk _ (Op.binOp BinOp.leq _ _ _ _) _ _ _ _) _ _; exact xo_leq rfl rfl) | (show OpV _ _ _ _ (Oper.mk _ (Op.binOp BinOp.gtr _ _ _ _) _ _ _ _) _ _; exact xo_gtr rfl rfl) | (show OpV _ _ _ _ (Oper.mk _ (Op.binOp BinOp.geq _ _ _ _) _ _ _ _) _ _; exact xo_geq rfl rfl) | (show OpV _ _ _ _ (Oper.mk _ (Op.binOp BinOp.add _ _ _ _) _ _ _ _) _ _; first | exact xo_add rfl rfl | exact ov_sadd rfl rfl (by first | with_reducible exact fun _ => rfl | with_reducible exact fun h => h | exact fun _ => rfl | exact fun h => h | (intro himp; simp_all; done)) (by first | with_reducible exact fun _ => rfl | with_reducible exact fun h => h | exact fun _ => rfl | exact fun h => h | (intro himp; simp_all; done)) (by intro hcg; first | omega | (simp only [List.length_append, List.length_take, List.length_drop, List.length_cons, List.length_nil, List.length_nil]; omega))) | (show OpV _ _ _ _ (Oper.mk _ (Op.binOp BinOp.sub _ _ _ _) _ _ _ _) _ _; exact xo_sub rfl rfl) | (show OpV _ _ _ _ (Oper.mk _ (Op.binOp BinOp.mul _ _ _ _) _ _ _ _) _ _; exact xo_mul rfl rfl) | (show OpV _ _ _ _ (Oper.mk _ (Op.binOp BinOp.quo _ _ _ _) _ _ _ _) _ _; exact xo_quo rfl rfl) | (show OpV _ _ _ _ (Oper.mk _ (Op.binOp BinOp.rem _ _ _ _) _ _ _ _) _ _; exact xo_rem rfl rfl) | (show OpV _ _ _ _ (Oper.mk _ (Op.index _ _ _) _ _ _ _) _ _; exact xo_sindex rfl rfl) | (show OpV _ _ _ _ (Oper.mk _ (Op.slice _ _ (some _) (some _) none) _ _ _ _) _ _; first | exact xo_slice rfl rfl rfl | exact xo_slcB rfl rfl rfl) | (show OpV _ _ _ _ (Oper.mk _ (Op.slice _ _ (some _) none none) _ _ _ _) _ _; first | exact xo_from rfl rfl | exact xo_slcFrom rfl rfl) | (show OpV _ _ _ _ (Oper.mk _ (Op.slice _ _ none (some _) none) _ _ _ _) _ _; first | exact xo_to rfl rfl | exact xo_slcTo rfl rfl) | (show OpV _ _ _ _ (Oper.mk _ (Op.slice _ _ none (some _) (some _)) _ _ _ _) _ _; exact xo_slc3 rfl rfl rfl) | (show OpV _ _ _ _ (Oper.mk _ (Op.convert _ _ _) _ _ _ _) _ _; first | exact xo_conv rfl | exact xo_convBytes rfl) | (show OpV _ _ _ _ (Oper.mk _ (Op.fieldAddr _ _ _) _ _ _ _) _ _; exact xo_fieldAddr rfl) | (show OpV _ _ _ _ (Oper.mk _ (Op.load _ _) _ _ _ _) _ _; first | exact xo_load1 rfl | exact xo_loadS rfl) | (show OpV _ _ _ _ (Oper.mk _ (Op.field _ _ _) _ _ _ _) _ _; exact xo_field rfl) | (show OpV _ _ _ _ (Oper.mk _ (Op.build _ _) _ _ _ _) _ _; exact xo_build rfl) | (show OpV _ _ _ _ (Oper.mk _ (Op.makeFunc _ _ _) _ _ _ _) _ _; exact ov_makeFunc rfl rfl) | (show OpV _ _ _ _ (Oper.mk _ (Op.nilCheck _) _ _ _ _) _ _; exact xo_nilCheck rfl)) ?_ | refine wl_v rfl rfl rfl (by first  | fail) ?_ | refine xl_alloc (fun _ => ?_) | refine xl_box rfl (fun _ => ?_) | refine xl_store rfl rfl ?_ | refine xl_buildSlice rfl (fun _ => ?_) | refine wl_makeMap rfl rfl (fun _ => ?_) | refine wl_insert rfl rfl rfl rfl rfl rfl (by first | exact rfl | exact trivial) (by first | exact Upd.here | exact Upd.there Upd.here | exact Upd.there (Upd.there Upd.here) | exact Upd.there (Upd.there (Upd.there Upd.here)) | exact Upd.there (Upd.there (Upd.there (Upd.there Upd.here))) | exact Upd.app _ (Upd.here) | exact Upd.app _ (Upd.there Upd.here) | exact Upd.app _ (Upd.there (Upd.there Upd.here)) | exact Upd.app _ (Upd.there (Upd.there (Upd.there Upd.here))) | exact Upd.there (Upd.app _ (Upd.here)) | exact Upd.there (Upd.app _ (Upd.there Upd.here)) | exact Upd.there (Upd.app _ (Upd.there (Upd.there Upd.here))) | exact Upd.there (Upd.app _ (Upd.there (Upd.there (Upd.there Upd.here)))) | exact Upd.there (Upd.there (Upd.app _ (Upd.here))) | exact Upd.there (Upd.there (Upd.app _ (Upd.there Upd.here))) | exact Upd.there (Upd.there (Upd.app _ (Upd.there (Upd.there Upd.here))))) (by rfl) ?_) | refine wc_ret rfl ?_) | (show WC _ (Code.cond _ _ _) _ _ _ _; (refine wc_cond rfl (fun hc => ?_) (fun hc => ?_) <;> (try (simp only [decide_eq_true_eq, decide_eq_false_iff_not, Bool.and_eq_true, Bool.or_eq_true, Bool.and_eq_false_iff, Bool.or_eq_false_iff, Bool.not_eq_true', Bool.not_eq_false', Int.not_lt, Int.not_le] at hc)) <;> (try (exfalso; first | omega | contradiction)))))
    refine wl_callL rfl Tryd.call31 rfl rfl rfl rfl (fun w hw => qline_yes hG (by omega) hc0 hw) ?_
    repeat' (first | (first | refine wc_seq ?_ | refine wc_region ?_ | refine wl_nil ?_ | refine wn_seq ?_ | refine wn_blk ?_ | refine wc_skip ?_ | refine wc_scope ?_ | refine wc_label ?_ | refine wn_noGoto ?_ | refine wc_block ?_ | refine wc_exit rfl ?_ | (show WL _ _ (_ :: _) _ _ _ _; first | refine wl_v rfl rfl rfl (by first | (show OpV _ _ _ _ (Oper.mk _ (Op.move _) _ _ _ _) _ _; exact xo_move rfl) | (show OpV _ _ _ _ (Oper.mk _ (Op.assign _) _ _ _ _) _ _; exact xo_assign rfl) | (show OpV _ _ _ _ (Oper.mk _ (Op.pick _ _ _) _ _ _ _) _ _; first | exact xo_and rfl rfl | exact xo_or rfl rfl) | (show OpV _ _ _ _ (Oper.mk _ (Op.extract _ _) _ _ _ _) _ _; exact xo_extract rfl) | (show OpV _ _ _ _ (Oper.mk _ (Op.call ⟨.builtin .len, _, _⟩) _ _ _ _) _ _; first | exact xo_slen rfl | exact xo_len rfl) | (show OpV _ _ _ _ (Oper.mk _ (Op.unOp _ _ _) _ _ _ _) _ _; exact xo_not rfl) | (show OpV _ _ _ _ (Oper.mk _ (Op.binOp BinOp.eql _ _ _ _) _ _ _ _) _ _; first | exact xo_eql rfl rfl | exact xo_seql rfl rfl | exact xo_beql rfl rfl | exact xo_aeql rfl rfl) | (show OpV _ _ _ _ (Oper.mk _ (Op.binOp BinOp.neq _ _ _ _) _ _ _ _) _ _; first | exact xo_neq rfl rfl | exact xo_sneq rfl rfl | exact xo_bneq rfl rfl | exact xo_aneq rfl rfl) | (show OpV _ _ _ _ (Oper.mk _ (Op.binOp BinOp.lss _ _ _ _) _ _ _ _) _ _; exact xo_lss rfl rfl) | (show OpV _ _ _ _ (Oper.mk _ (Op.binOp BinOp.leq _ _ _ _) _ _ _ _) _ _; exact xo_leq rfl rfl) | (show OpV _ _ _ _ (Oper.mk _ (Op.binOp BinOp.gtr _ _ _ _) _ _ _ _) _ _; exact xo_gtr rfl rfl) | (show OpV _ _ _ _ (Oper.mk _ (Op.binOp BinOp.geq _ _ _ _) _ _ _ _) _ _; exact xo_geq rfl rfl) | (show OpV _ _ _ _ (Oper.mk _ (Op.binOp BinOp.add _ _ _ _) _ _ _ _) _ _; first | exact xo_add rfl rfl | exact ov_sadd rfl rfl (by first | with_reducible exact fun _ => rfl | with_reducible exact fun h => h | exact fun _ => rfl | exact fun h => h | (intro himp; simp_all; done)) (by first | with_reducible exact fun _ => rfl | with_reducible exact fun h => h | exact fun _ => rfl | exact fun h => h | (intro himp; simp_all; done)) (by intro hcg; first | omega | (simp only [List.length_append, List.length_take, List.length_drop, List.length_cons, List.length_nil, List.length_nil]; omega))) | (show OpV _ _ _ _ (Oper.mk _ (Op.binOp BinOp.sub _ _ _ _) _ _ _ _) _ _; exact xo_sub rfl rfl) | (show OpV _ _ _ _ (Oper.mk _ (Op.binOp BinOp.mul _ _ _ _) _ _ _ _) _ _; exact xo_mul rfl rfl) | (show OpV _ _ _ _ (Oper.mk _ (Op.binOp BinOp.quo _ _ _ _) _ _ _ _) _ _; exact xo_quo rfl rfl) | (show OpV _ _ _ _ (Oper.mk _ (Op.binOp BinOp.rem _ _ _ _) _ _ _ _) _ _; exact xo_rem rfl rfl) | (show OpV _ _ _ _ (Oper.mk _ (Op.index _ _ _) _ _ _ _) _ _; exact xo_sindex rfl rfl) | (show OpV _ _ _ _ (Oper.mk _ (Op.slice _ _ (some _) (some _) none) _ _ _ _) _ _; first | exact xo_slice rfl rfl rfl | exact xo_slcB rfl rfl rfl) | (show OpV _ _ _ _ (Oper.mk _ (Op.slice _ _ (some _) none none) _ _ _ _) _ _; first | exact xo_from rfl rfl | exact xo_slcFrom rfl rfl) | (show OpV _ _ _ _ (Oper.mk _ (Op.slice _ _ none (some _) none) _ _ _ _) _ _; first | exact xo_to rfl rfl | exact xo_slcTo rfl rfl) | (show OpV _ _ _ _ (Oper.mk _ (Op.slice _ _ none (some _) (some _)) _ _ _ _) _ _; exact xo_slc3 rfl rfl rfl) | (show OpV _ _ _ _ (Oper.mk _ (Op.convert _ _ _) _ _ _ _) _ _; first | exact xo_conv rfl | exact xo_convBytes rfl) | (show OpV _ _ _ _ (Oper.mk _ (Op.fieldAddr _ _ _) _ _ _ _) _ _; exact xo_fieldAddr rfl) | (show OpV _ _ _ _ (Oper.mk _ (Op.load _ _) _ _ _ _) _ _; first | exact xo_load1 rfl | exact xo_loadS rfl) | (show OpV _ _ _ _ (Oper.mk _ (Op.field _ _ _) _ _ _ _) _ _; exact xo_field rfl) | (show OpV _ _ _ _ (Oper.mk _ (Op.build _ _) _ _ _ _) _ _; exact xo_build rfl) | (show OpV _ _ _ _ (Oper.mk _ (Op.makeFunc _ _ _) _ _ _ _) _ _; exact ov_makeFunc rfl rfl) | (show OpV _ _ _ _ (Oper.mk _ (Op.nilCheck _) _ _ _ _) _ _; exact xo_nilCheck rfl)) ?_ | refine wl_v rfl rfl rfl (by first | ((show OpV _ _ _ _ (Oper.mk _ (Op.call ⟨.value (.func 51), _, _⟩) _ _ _ _) _ _; exact ov_call Tryd.call51 rfl (by intro himp; first | rfl | (simp_all; done)) (by rfl) (fun _ _ h k => h.ext k) (fun hcg w hw => hh hw.laid))) | fail) ?_ | refine xl_alloc (fun _ => ?_) | refine xl_box rfl (fun _ => ?_) | refine xl_store rfl rfl ?_ | refine xl_buildSlice rfl (fun _ => ?_) | refine wl_makeMap rfl rfl (fun _ => ?_) | refine wl_insert rfl rfl rfl rfl rfl rfl (by first | exact rfl | exact trivial) (by first | exact Upd.here | exact Upd.there Upd.here | exact Upd.there (Upd.there Upd.here) | exact Upd.there (Upd.there (Upd.there Upd.here)) | exact Upd.there (Upd.there (Upd.there (Upd.there Upd.here))) | exact Upd.app _ (Upd.here) | exact Upd.app _ (Upd.there Upd.here) | exact Upd.app _ (Upd.there (Upd.there Upd.here)) | exact Upd.app _ (Upd.there (Upd.there (Upd.there Upd.here))) | exact Upd.there (Upd.app _ (Upd.here)) | exact Upd.there (Upd.app _ (Upd.there Upd.here)) | exact Upd.there (Upd.app _ (Upd.there (Upd.there Upd.here))) | exact Upd.there (Upd.app _ (Upd.there (Upd.there (Upd.there Upd.here)))) | exact Upd.there (Upd.there (Upd.app _ (Upd.here))) | exact Upd.there (Upd.there (Upd.app _ (Upd.there Upd.here))) | exact Upd.there (Upd.there (Upd.app _ (Upd.there (Upd.there Upd.here))))) (by rfl) ?_) | refine wc_ret rfl ?_) | (show WC _ (Code.cond _ _ _) _ _ _ _; (refine wc_cond rfl (fun hc => ?_) (fun hc => ?_) <;> (try (simp only [decide_eq_true_eq, decide_eq_false_iff_not, Bool.and_eq_true, Bool.or_eq_true, Bool.and_eq_false_iff, Bool.or_eq_false_iff, Bool.not_eq_true', Bool.not_eq_false', Int.not_lt, Int.not_le] at hc)) <;> (try (exfalso; first | omega | contradiction)))))
    · rw [if_pos (by assumption)] at inv
      unfold HdrsIs
      rw [← inv]
      refine wr_weak (fun w' h => back w' (h.drop (List.Sublist.cons _ (List.Sublist.refl _)))) ?_
      exact wrl_lay2 (Hn := Hs) rfl rfl rfl Since.refl (List.Sublist.refl _) ⟨_, rfl, fin (fun p hp => .inr hp)⟩
    · rw [if_neg (by omega)] at inv
      rename_i _ b8 _ b9
      match n, fuel, inv with
      | 0, fuel, _ => exfalso; omega
      | n + 1, fuel, inv =>
        refine wl_weak (C' := St w0 [] ((b9, .cells [str hn, str hv].toArray 50 (0, 0)) :: (Hs ++ ((b8, .cells [str hn, str hv].toArray 50 (0, 0)) :: (b, txtO r) :: H))) M) (Eng.Sub.refl _) (fun w' h => h.perm (List.Perm.cons _ (List.perm_middle.trans (List.Perm.cons _ List.perm_middle)))) ?_
        refine wl_append (news := [str hn, str hv]) (H0 := (b8, .cells [str hn, str hv].toArray 50 (0, 0)) :: (b, txtO r) :: H) rfl own rfl rfl rfl rfl rfl rfl rfl rfl rfl rfl (by first | exact List.Mem.head _ | exact List.Mem.tail _ (List.Mem.head _) | exact List.Mem.tail _ (List.Mem.tail _ (List.Mem.head _)) | exact List.Mem.tail _ (List.Mem.tail _ (List.Mem.tail _ (List.Mem.head _))) | exact List.Mem.tail _ (List.Mem.tail _ (List.Mem.tail _ (List.Mem.tail _ (List.Mem.head _)))) | exact List.mem_append_right _ (List.Mem.head _) | exact List.mem_append_right _ (List.Mem.tail _ (List.Mem.head _)) | exact List.mem_append_right _ (List.Mem.tail _ (List.Mem.tail _ (List.Mem.head _))) | exact List.mem_append_right _ (List.Mem.tail _ (List.Mem.tail _ (List.Mem.tail _ (List.Mem.head _)))) | exact List.Mem.tail _ (List.mem_append_right _ (List.Mem.head _)) | exact List.Mem.tail _ (List.mem_append_right _ (List.Mem.tail _ (List.Mem.head _))) | exact List.Mem.tail _ (List.mem_append_right _ (List.Mem.tail _ (List.Mem.tail _ (List.Mem.head _)))) | exact List.Mem.tail _ (List.mem_append_right _ (List.Mem.tail _ (List.Mem.tail _ (List.Mem.tail _ (List.Mem.head _))))) | exact List.Mem.tail _ (List.Mem.tail _ (List.mem_append_right _ (List.Mem.head _))) | exact List.Mem.tail _ (List.Mem.tail _ (List.mem_append_right _ (List.Mem.tail _ (List.Mem.head _)))) | exact List.Mem.tail _ (List.Mem.tail _ (List.mem_append_right _ (List.Mem.tail _ (List.Mem.tail _ (List.Mem.head _)))))) rfl rfl (by repeat (first | exact List.Sublist.refl _ | apply List.Sublist.cons)) (by rw [cellsP_length]; omega) rfl ?_
        intro v' Hs' ho'
        rw [← cellsP_snoc acc (hn, hv)] at ho'
        repeat' (first | (first | refine wc_seq ?_ | refine wc_region ?_ | refine wl_nil ?_ | refine wn_seq ?_ | refine wn_blk ?_ | refine wc_skip ?_ | refine wc_scope ?_ | refine wc_label ?_ | refine wn_noGoto ?_ | refine wc_block ?_ | refine wc_exit rfl ?_ | (show WL _ _ (_ :: _) _ _ _ _; first | refine wl_v rfl rfl rfl (by first | (show OpV _ _ _ _ (Oper.mk _ (Op.move _) _ _ _ _) _ _; exact xo_move rfl) | (show OpV _ _ _ _ (Oper.mk _ (Op.assign _) _ _ _ _) _ _; exact xo_assign rfl) | (show OpV _ _ _ _ (Oper.mk _ (Op.pick _ _ _) _ _ _ _) _ _; first | exact xo_and rfl rfl | exact xo_or rfl rfl) | (show OpV _ _ _ _ (Oper.mk _ (Op.extract _ _) _ _ _ _) _ _; exact xo_extract rfl) | (show OpV _ _ _ _ (Oper.mk _ (Op.call ⟨.builtin .len, _, _⟩) _ _ _ _) _ _; first | exact xo_slen rfl | exact xo_len rfl) | (show OpV _ _ _ _ (Oper.mk _ (Op.unOp _ _ _) _ _ _ _) _ _; exact xo_not rfl) | (show OpV _ _ _ _ (Oper.mk _ (Op.binOp BinOp.eql _ _ _ _) _ _ _ _) _ _; first | exact xo_eql rfl rfl | exact xo_seql rfl rfl | exact xo_beql rfl rfl | exact xo_aeql rfl rfl) | (show OpV _ _ _ _ (Oper.mk _ (Op.binOp BinOp.neq _ _ _ _) _ _ _ _) _ _; first | exact xo_neq rfl rfl | exact xo_sneq rfl rfl | exact xo_bneq rfl rfl | exact xo_aneq rfl rfl) | (show OpV _ _ _ _ (Oper.mk _ (Op.binOp BinOp.lss _ _ _ _) _ _ _ _) _ _; exact xo_lss rfl rfl) | (show OpV _ _ _ _ (Oper.mk _ (Op.binOp BinOp.leq _ _ _ _) _ _ _ _) _ _; exact xo_leq rfl rfl) | (show OpV _ _ _ _ (Oper.mk _ (Op.binOp BinOp.gtr _ _ _ _) _ _ _ _) _ _; exact xo_gtr rfl rfl) | (show OpV _ _ _ _ (Oper.mk _ (Op.binOp BinOp.geq _ _ _ _) _ _ _ _) _ _; exact xo_geq rfl rfl) | (show OpV _ _ _ _ (Oper.mk _ (Op.binOp BinOp.add _ _ _ _) _ _ _ _) _ _; first | exact xo_add rfl rfl | exact ov_sadd rfl rfl (by first | with_reducible exact fun _ => rfl | with_reducible exact fun h => h | exact fun _ => rfl | exact fun h => h | (intro himp; simp_all; done)) (by first | with_reducible exact fun _ => rfl | with_reducible exact fun h => h | exact fun _ => rfl | exact fun h => h | (intro himp; simp_all; done)) (by intro hcg; first | omega | (simp only [List.length_append, List.length_take, List.length_drop, List.length_cons, List.length_nil, List.length_nil]; omega))) | (show OpV _ _ _ _ (Oper.mk _ (Op.binOp BinOp.sub _ _ _ _) _ _ _ _) _ _; exact xo_sub rfl rfl) | (show OpV _ _ _ _ (Oper.mk _ (Op.binOp BinOp.mul _ _ _ _) _ _ _ _) _ _; exact xo_mul rfl rfl) | (show OpV _ _ _ _ (Oper.mk _ (Op.binOp BinOp.quo _ _ _ _) _ _ _ _) _ _; exact xo_quo rfl rfl) | (show OpV _ _ _ _ (Oper.mk _ (Op.binOp BinOp.rem _ _ _ _) _ _ _ _) _ _; exact xo_rem rfl rfl) | (show OpV _ _ _ _ (Oper.mk _ (Op.index _ _ _) _ _ _ _) _ _; exact xo_sindex rfl rfl) | (show OpV _ _ _ _ (Oper.mk _ (Op.slice _ _ (some _) (some _) none) _ _ _ _) _ _; first | exact xo_slice rfl rfl rfl | exact xo_slcB rfl rfl rfl) | (show OpV _ _ _ _ (Oper.mk _ (Op.slice _ _ (some _) none none) _ _ _ _) _ _; first | exact xo_from rfl rfl | exact xo_slcFrom rfl rfl) | (show OpV _ _ _ _ (Oper.mk _ (Op.slice _ _ none (some _) none) _ _ _ _) _ _; first | exact xo_to rfl rfl | exact xo_slcTo rfl rfl) | (show OpV _ _ _ _ (Oper.mk _ (Op.slice _ _ none (some _) (some _)) _ _ _ _) _ _; exact xo_slc3 rfl rfl rfl) | (show OpV _ _ _ _ (Oper.mk _ (Op.convert _ _ _) _ _ _ _) _ _; first | exact xo_conv rfl | exact xo_convBytes rfl) | (show OpV _ _ _ _ (Oper.mk _ (Op.fieldAddr _ _ _) _ _ _ _) _ _; exact xo_fieldAddr rfl) | (show OpV _ _ _ _ (Oper.mk _ (Op.load _ _) _ _ _ _) _ _; first | exact xo_load1 rfl | exact xo_loadS rfl) | (show OpV _ _ _ _ (Oper.mk _ (Op.field _ _ _) _ _ _ _) _ _; exact xo_field rfl) | (show OpV _ _ _ _ (Oper.mk _ (Op.build _ _) _ _ _ _) _ _; exact xo_build rfl) | (show OpV _ _ _ _ (Oper.mk _ (Op.makeFunc _ _ _) _ _ _ _) _ _; exact ov_makeFunc rfl rfl) | (show OpV _ _ _ _ (Oper.mk _ (Op.nilCheck _) _ _ _ _) _ _; exact xo_nilCheck rfl)) ?_ | refine wl_v rfl rfl rfl (by first  | fail) ?_ | refine xl_alloc (fun _ => ?_) | refine xl_box rfl (fun _ => ?_) | refine xl_store rfl rfl ?_ | refine xl_buildSlice rfl (fun _ => ?_) | refine wl_makeMap rfl rfl (fun _ => ?_) | refine wl_insert rfl rfl rfl rfl rfl rfl (by first | exact rfl | exact trivial) (by first | exact Upd.here | exact Upd.there Upd.here | exact Upd.there (Upd.there Upd.here) | exact Upd.there (Upd.there (Upd.there Upd.here)) | exact Upd.there (Upd.there (Upd.there (Upd.there Upd.here))) | exact Upd.app _ (Upd.here) | exact Upd.app _ (Upd.there Upd.here) | exact Upd.app _ (Upd.there (Upd.there Upd.here)) | exact Upd.app _ (Upd.there (Upd.there (Upd.there Upd.here))) | exact Upd.there (Upd.app _ (Upd.here)) | exact Upd.there (Upd.app _ (Upd.there Upd.here)) | exact Upd.there (Upd.app _ (Upd.there (Upd.there Upd.here))) | exact Upd.there (Upd.app _ (Upd.there (Upd.there (Upd.there Upd.here)))) | exact Upd.there (Upd.there (Upd.app _ (Upd.here))) | exact Upd.there (Upd.there (Upd.app _ (Upd.there Upd.here))) | exact Upd.there (Upd.there (Upd.app _ (Upd.there (Upd.there Upd.here))))) (by rfl) ?_) | refine wc_ret rfl ?_) | (show WC _ (Code.cond _ _ _) _ _ _ _; (refine wc_cond rfl (fun hc => ?_) (fun hc => ?_) <;> (try (simp only [decide_eq_true_eq, decide_eq_false_iff_not, Bool.and_eq_true, Bool.or_eq_true, Bool.and_eq_false_iff, Bool.or_eq_false_iff, Bool.not_eq_true', Bool.not_eq_false', Int.not_lt, Int.not_le] at hc)) <;> (try (exfalso; first | omega | contradiction)))))
        refine wn_cut ⟨n, r, acc ++ [(hn, hv)], v', Hs', by rw [List.length_append, List.length_singleton]; omega, inv, by omega, ho'⟩ (by show n < n + 1; omega) (by first | exact Sub.nil _ | (repeat (first | exact Sub.nil _ | refine Sub.cons (by first | rfl | (simp [look]; done)) ?_))) (fun w' h => ?_)
        exact (h.perm (H' := (b8, .cells [str hn, str hv].toArray 50 (0, 0)) :: (b, txtO r) :: (Hs' ++ H)) ((List.Perm.cons _ List.perm_middle.symm).trans List.perm_middle.symm)).drop (List.Sublist.cons _ (List.Sublist.refl _))
theorem hdrF_small {N : Nat} {name : List UInt8} {l : List Pr} (h : Small N l) : (hdrF name l).1.length ≤ N := by
  suffices g : ∀ (l : List Pr) (s : List UInt8 × Nat), Small N l → s.1.length ≤ N → (l.foldl (fun s p => if alikeB p.1 name then (if s.2 = 0 then p.2 else s.1, s.2 + 1) else s) s).1.length ≤ N from g l _ h (Nat.zero_le _)
  intro l
  induction l with
  | nil => intro s _ hs; exact hs
  | cons p r ih =>
    intro s hl hs
    rw [List.foldl_cons]
    refine ih _ (fun q hq => hl q (List.mem_cons_of_mem _ hq)) ?_
    split
    · show (if s.2 = 0 then p.2 else s.1).length ≤ N
      split
      · exact (hl p (List.mem_cons_self ..)).2
      · exact hs
    · exact hs
/-- the length of a request's body -/
theorem qlength_ok (hM : Laid M w) {hv : Value} {l : List Pr} (hh : SlP M hv l) (m t bd : List UInt8) (hn : l.length ≤ 1000000000) (hb : Small 140737488355328 l) : Calls Tryd.prog 34 #[.agg #[str m, str t, hv, str bd]] w (RetE w (.tuple #[i64 (lenP l).1, i64 (lenP l).2])) := by
  have h1 := fun {w : World} (h : Laid M w) => qheader_ok h hh m t bd sTE hn hb
  have h2 := fun {w : World} (h : Laid M w) => qheader_ok h hh m t bd sCLen hn hb
  obtain ⟨a, cap, b, o, cs, T, fz, rfl, _⟩ := hh.open
  have hle : (hdrF sCLen l).1.length ≤ 140737488355328 := hdrF_small hb
  unfold lenP lenX
  generalize hdrF sTE l = x1 at *
  generalize hdrF sCLen l = x2 at *
  obtain ⟨v1, n1⟩ := x1
  obtain ⟨v2, n2⟩ := x2
  dsimp only at *
  refine calls_st (l := [.agg #[str m, str t, .slice a l.length cap, str bd]]) hM Tryd.func34 rfl rfl rfl (E0 := [(0, true, .agg #[str m, str t, .slice a l.length cap, str bd])]) (params_cons rfl (params_nil _)) ?_
  repeat' (first | (first | refine wc_seq ?_ | refine wc_region ?_ | refine wl_nil ?_ | refine wn_seq ?_ | refine wn_blk ?_ | refine wc_skip ?_ | refine wc_block ?_ | refine wc_exit rfl ?_ | (show WL _ _ (_ :: _) _ _ _ _; first | refine wl_v rfl rfl rfl (by first | (show OpV _ _ _ _ (Oper.mk _ (Op.move _) _ _ _ _) _ _; exact xo_move rfl) | (show OpV _ _ _ _ (Oper.mk _ (Op.assign _) _ _ _ _) _ _; exact xo_assign rfl) | (show OpV _ _ _ _ (Oper.mk _ (Op.pick _ _ _) _ _ _ _) _ _; first | exact xo_and rfl rfl | exact xo_or rfl rfl) | (show OpV _ _ _ _ (Oper.mk _ (Op.extract _ _) _ _ _ _) _ _; exact xo_extract rfl) | (show OpV _ _ _ _ (Oper.mk _ (Op.unOp _ _ _) _ _ _ _) _ _; exact xo_not rfl) | (show OpV _ _ _ _ (Oper.mk _ (Op.binOp BinOp.eql _ _ _ _) _ _ _ _) _ _; first | exact xo_eql rfl rfl | exact xo_seql rfl rfl | exact xo_beql rfl rfl | exact xo_aeql rfl rfl) | (show OpV _ _ _ _ (Oper.mk _ (Op.binOp BinOp.gtr _ _ _ _) _ _ _ _) _ _; exact xo_gtr rfl rfl) | (show OpV _ _ _ _ (Oper.mk _ (Op.load _ _) _ _ _ _) _ _; first | exact xo_load1 rfl | exact xo_loadS rfl)) ?_ | refine wl_v rfl rfl rfl (by first | ((show OpV _ _ _ _ (Oper.mk _ (Op.call ⟨.value (.func 22), _, _⟩) _ _ _ _) _ _; exact ov_call Tryd.call22 rfl (by intro himp; first | rfl | (simp_all; done)) (by rfl) (fun _ _ h k => h.ext k) (fun hcg w hw => h1 hw.laid))) | ((show OpV _ _ _ _ (Oper.mk _ (Op.call ⟨.value (.func 22), _, _⟩) _ _ _ _) _ _; exact ov_call Tryd.call22 rfl (by intro himp; first | rfl | (simp_all; done)) (by rfl) (fun _ _ h k => h.ext k) (fun hcg w hw => h2 hw.laid))) | ((show OpV _ _ _ _ (Oper.mk _ (Op.call ⟨.value (.func 52), _, _⟩) _ _ _ _) _ _; exact ov_call Tryd.call52 rfl (by intro himp; first | rfl | (simp_all; done)) (by rfl) (fun _ _ h k => h.ext k) (fun hcg w hw => digits_ok hw.laid _ (by omega)))) | fail) ?_ | refine xl_box rfl (fun _ => ?_)) | refine wc_ret rfl ?_) | (show WC _ (Code.cond _ _ _) _ _ _ _; (refine wc_cond rfl (fun hc => ?_) (fun hc => ?_) <;> (try (simp only [decide_eq_true_eq, decide_eq_false_iff_not, Bool.and_eq_true, Bool.or_eq_true, Bool.and_eq_false_iff, Bool.or_eq_false_iff, Bool.not_eq_true', Bool.not_eq_false', Int.not_lt, Int.not_le] at hc)) <;> (try (exfalso; first | omega | contradiction)))))
  · rw [if_pos (by omega)]
    exact wr_tmp2 rfl rfl rfl rfl rfl
  · rw [if_neg (by omega), if_pos (by omega)]
    exact wr_tmp2 rfl rfl rfl rfl rfl
  · rw [if_neg (by omega), if_neg (by omega), if_pos (by rcases hc with h | h; exact .inl (by omega); exact .inr h)]
    exact wr_tmp2 rfl rfl rfl rfl rfl
  · have hk : numOk v2 = true := hc.2
    have hl4 : v2.length ≤ 4 := by
      unfold numOk at hk
      simp only [Bool.and_eq_true, decide_eq_true_eq] at hk
      have := hk.1.2
      omega
    rw [if_neg (by omega), if_neg (by omega), if_neg (by rintro (h | h); · omega
                                                         · rw [hk] at h; cases h)]
    exact wr_tmp2 rfl rfl rfl (by rw [digW_short hl4]) rfl
end Go.Proofs.YtjdmnanicaghkaaDoor
/-
  What bytes tell as a request: request.Parse.
-/
namespace Go.Proofs.YtjdmnanicaghkaaDoor
open Go.Eng Go.Pct Go.Rsp Go.Txt
set_option maxRecDepth 10000
set_option linter.unusedSimpArgs false
set_option linter.unusedVariables false

variable {M : Ghost} {w0 w : World} {bs : List Nat} {H : List (Nat × Obj)}

/-- a request, and what is wrong, as a value -/
def ReqV (r : Req × Int) (M' : Ghost) (v : Value) : Prop := ∃ hv, v = .tuple #[.agg #[str r.1.meth, str r.1.targ, hv, str r.1.body], i64 r.2] ∧ SlP M' hv r.1.headers
theorem reqV_err {M' : Ghost} {r : Req × Int} {e : Int} (h : r = (.none, e)) : ReqV r M' (.tuple #[.agg #[str [], str [], .slice none 0 0, str []], i64 e]) := by
  subst h; exact ⟨_, rfl, sl_nil⟩
theorem qparse_ok (hG : Glob M) (hM : Laid M w) (s : List UInt8) (hs : s.length ≤ 9223372036854775807) : Calls Tryd.prog 10 #[str s] w (RetS M w (fun M' H v => H = [] ∧ ReqV (parseQ s) M' v)) := by
  refine calls_st (l := [str s]) hM Tryd.func10 rfl rfl rfl (E0 := [(0, true, str s)]) (params_cons rfl (params_nil _)) ?_
  unfold parseQ
  by_cases h4 : 4096 < s.length
  · rw [if_pos h4]
    repeat' (first | (first | refine wc_seq ?_ | refine wc_region ?_ | refine wl_nil ?_ | refine wn_seq ?_ | refine wn_blk ?_ | refine wc_skip ?_ | refine wc_block ?_ | refine wc_exit rfl ?_ | (show WL _ _ (_ :: _) _ _ _ _; first | refine wl_v rfl rfl rfl (by first | (show OpV _ _ _ _ (Oper.mk _ (Op.move _) _ _ _ _) _ _; exact xo_move rfl) | (show OpV _ _ _ _ (Oper.mk _ (Op.assign _) _ _ _ _) _ _; exact xo_assign rfl) | (show OpV _ _ _ _ (Oper.mk _ (Op.extract _ _) _ _ _ _) _ _; exact xo_extract rfl) | (show OpV _ _ _ _ (Oper.mk _ (Op.call ⟨.builtin .len, _, _⟩) _ _ _ _) _ _; first | exact xo_slen rfl | exact xo_len rfl) | (show OpV _ _ _ _ (Oper.mk _ (Op.binOp BinOp.eql _ _ _ _) _ _ _ _) _ _; first | exact xo_eql rfl rfl | exact xo_seql rfl rfl | exact xo_beql rfl rfl | exact xo_aeql rfl rfl) | (show OpV _ _ _ _ (Oper.mk _ (Op.binOp BinOp.neq _ _ _ _) _ _ _ _) _ _; first | exact xo_neq rfl rfl | exact xo_sneq rfl rfl | exact xo_bneq rfl rfl | exact xo_aneq rfl rfl) | (show OpV _ _ _ _ (Oper.mk _ (Op.binOp BinOp.gtr _ _ _ _) _ _ _ _) _ _; exact xo_gtr rfl rfl) | (show OpV _ _ _ _ (Oper.mk _ (Op.fieldAddr _ _ _) _ _ _ _) _ _; exact xo_fieldAddr rfl) | (show OpV _ _ _ _ (Oper.mk _ (Op.load _ _) _ _ _ _) _ _; first | exact xo_load1 rfl | exact xo_loadS rfl) | (show OpV _ _ _ _ (Oper.mk _ (Op.build _ _) _ _ _ _) _ _; exact xo_build rfl) | (show OpV _ _ _ _ (Oper.mk _ (Op.nilCheck _) _ _ _ _) _ _; exact xo_nilCheck rfl)) ?_ | refine wl_v rfl rfl rfl (by first  | fail) ?_ | refine xl_alloc (fun _ => ?_) | refine xl_box rfl (fun _ => ?_) | refine xl_store rfl rfl ?_) | refine wc_ret rfl ?_) | (show WC _ (Code.cond _ _ _) _ _ _ _; (refine wc_cond rfl (fun hc => ?_) (fun hc => ?_) <;> (try (simp only [decide_eq_true_eq, decide_eq_false_iff_not, Bool.and_eq_true, Bool.or_eq_true, Bool.and_eq_false_iff, Bool.or_eq_false_iff, Bool.not_eq_true', Bool.not_eq_false', Int.not_lt, Int.not_le] at hc)) <;> (try (exfalso; first | omega | contradiction)))))
    exact wr_layC2 (Hn := []) rfl rfl rfl rfl (by first | exact List.Mem.head _ | exact List.Mem.tail _ (List.Mem.head _) | exact List.Mem.tail _ (List.Mem.tail _ (List.Mem.head _)) | exact List.Mem.tail _ (List.Mem.tail _ (List.Mem.tail _ (List.Mem.head _))) | exact List.Mem.tail _ (List.Mem.tail _ (List.Mem.tail _ (List.Mem.tail _ (List.Mem.head _)))) | exact List.mem_append_right _ (List.Mem.head _) | exact List.mem_append_right _ (List.Mem.tail _ (List.Mem.head _)) | exact List.mem_append_right _ (List.Mem.tail _ (List.Mem.tail _ (List.Mem.head _))) | exact List.mem_append_right _ (List.Mem.tail _ (List.Mem.tail _ (List.Mem.tail _ (List.Mem.head _)))) | exact List.Mem.tail _ (List.mem_append_right _ (List.Mem.head _)) | exact List.Mem.tail _ (List.mem_append_right _ (List.Mem.tail _ (List.Mem.head _))) | exact List.Mem.tail _ (List.mem_append_right _ (List.Mem.tail _ (List.Mem.tail _ (List.Mem.head _)))) | exact List.Mem.tail _ (List.mem_append_right _ (List.Mem.tail _ (List.Mem.tail _ (List.Mem.tail _ (List.Mem.head _))))) | exact List.Mem.tail _ (List.Mem.tail _ (List.mem_append_right _ (List.Mem.head _))) | exact List.Mem.tail _ (List.Mem.tail _ (List.mem_append_right _ (List.Mem.tail _ (List.Mem.head _)))) | exact List.Mem.tail _ (List.Mem.tail _ (List.mem_append_right _ (List.Mem.tail _ (List.Mem.tail _ (List.Mem.head _)))))) rfl Since.refl (List.nil_sublist _) ⟨rfl, reqV_err rfl⟩
  rw [if_neg h4]
  cases hc0 : cutS [13, 10] s with
  | none =>
    repeat' (first | (first | refine wc_seq ?_ | refine wc_region ?_ | refine wl_nil ?_ | refine wn_seq ?_ | refine wn_blk ?_ | refine wc_skip ?_ | refine wc_block ?_ | refine wc_exit rfl ?_ | (show WL _ _ (_ :: _) _ _ _ _; first | refine wl_v rfl rfl rfl (by first | (show OpV _ _ _ _ (Oper.mk _ (Op.move _) _ _ _ _) _ _; exact xo_move rfl) | (show OpV _ _ _ _ (Oper.mk _ (Op.assign _) _ _ _ _) _ _; exact xo_assign rfl) | (show OpV _ _ _ _ (Oper.mk _ (Op.extract _ _) _ _ _ _) _ _; exact xo_extract rfl) | (show OpV _ _ _ _ (Oper.mk _ (Op.call ⟨.builtin .len, _, _⟩) _ _ _ _) _ _; first | exact xo_slen rfl | exact xo_len rfl) | (show OpV _ _ _ _ (Oper.mk _ (Op.binOp BinOp.eql _ _ _ _) _ _ _ _) _ _; first | exact xo_eql rfl rfl | exact xo_seql rfl rfl | exact xo_beql rfl rfl | exact xo_aeql rfl rfl) | (show OpV _ _ _ _ (Oper.mk _ (Op.binOp BinOp.neq _ _ _ _) _ _ _ _) _ _; first | exact xo_neq rfl rfl | exact xo_sneq rfl rfl | exact xo_bneq rfl rfl | exact xo_aneq rfl rfl) | (show OpV _ _ _ _ (Oper.mk _ (Op.binOp BinOp.gtr _ _ _ _) _ _ _ _) _ _; exact xo_gtr rfl rfl) | (show OpV _ _ _ _ (Oper.mk _ (Op.fieldAddr _ _ _) _ _ _ _) _ _; exact xo_fieldAddr rfl) | (show OpV _ _ _ _ (Oper.mk _ (Op.load _ _) _ _ _ _) _ _; first | exact xo_load1 rfl | exact xo_loadS rfl) | (show OpV _ _ _ _ (Oper.mk _ (Op.build _ _) _ _ _ _) _ _; exact xo_build rfl) | (show OpV _ _ _ _ (Oper.mk _ (Op.nilCheck _) _ _ _ _) _ _; exact xo_nilCheck rfl)) ?_ | refine wl_v rfl rfl rfl (by first  | fail) ?_ | refine xl_alloc (fun _ => ?_) | refine xl_box rfl (fun _ => ?_) | refine xl_store rfl rfl ?_) | refine wc_ret rfl ?_) | (show WC _ (Code.cond _ _ _) _ _ _ _; (refine wc_cond rfl (fun hc => ?_) (fun hc => ?_) <;> (try (simp only [decide_eq_true_eq, decide_eq_false_iff_not, Bool.and_eq_true, Bool.or_eq_true, Bool.and_eq_false_iff, Bool.or_eq_false_iff, Bool.not_eq_true', Bool.not_eq_false', Int.not_lt, Int.not_le] at hc)) <;> (try (exfalso; first | omega | contradiction)))))
    refine wl_callL rfl Tryd.call31 rfl rfl rfl rfl (fun w hw => qline_no hG (by omega) hc0 hw) ?_
    repeat' (first | (first | refine wc_seq ?_ | refine wc_region ?_ | refine wl_nil ?_ | refine wn_seq ?_ | refine wn_blk ?_ | refine wc_skip ?_ | refine wc_block ?_ | refine wc_exit rfl ?_ | (show WL _ _ (_ :: _) _ _ _ _; first | refine wl_v rfl rfl rfl (by first | (show OpV _ _ _ _ (Oper.mk _ (Op.move _) _ _ _ _) _ _; exact xo_move rfl) | (show OpV _ _ _ _ (Oper.mk _ (Op.assign _) _ _ _ _) _ _; exact xo_assign rfl) | (show OpV _ _ _ _ (Oper.mk _ (Op.extract _ _) _ _ _ _) _ _; exact xo_extract rfl) | (show OpV _ _ _ _ (Oper.mk _ (Op.call ⟨.builtin .len, _, _⟩) _ _ _ _) _ _; first | exact xo_slen rfl | exact xo_len rfl) | (show OpV _ _ _ _ (Oper.mk _ (Op.binOp BinOp.eql _ _ _ _) _ _ _ _) _ _; first | exact xo_eql rfl rfl | exact xo_seql rfl rfl | exact xo_beql rfl rfl | exact xo_aeql rfl rfl) | (show OpV _ _ _ _ (Oper.mk _ (Op.binOp BinOp.neq _ _ _ _) _ _ _ _) _ _; first | exact xo_neq rfl rfl | exact xo_sneq rfl rfl | exact xo_bneq rfl rfl | exact xo_aneq rfl rfl) | (show OpV _ _ _ _ (Oper.mk _ (Op.binOp BinOp.gtr _ _ _ _) _ _ _ _) _ _; exact xo_gtr rfl rfl) | (show OpV _ _ _ _ (Oper.mk _ (Op.fieldAddr _ _ _) _ _ _ _) _ _; exact xo_fieldAddr rfl) | (show OpV _ _ _ _ (Oper.mk _ (Op.load _ _) _ _ _ _) _ _; first | exact xo_load1 rfl | exact xo_loadS rfl) | (show OpV _ _ _ _ (Oper.mk _ (Op.build _ _) _ _ _ _) _ _; exact xo_build rfl) | (show OpV _ _ _ _ (Oper.mk _ (Op.nilCheck _) _ _ _ _) _ _; exact xo_nilCheck rfl)) ?_ | refine wl_v rfl rfl rfl (by first  | fail) ?_ | refine xl_alloc (fun _ => ?_) | refine xl_box rfl (fun _ => ?_) | refine xl_store rfl rfl ?_) | refine wc_ret rfl ?_) | (show WC _ (Code.cond _ _ _) _ _ _ _; (refine wc_cond rfl (fun hc => ?_) (fun hc => ?_) <;> (try (simp only [decide_eq_true_eq, decide_eq_false_iff_not, Bool.and_eq_true, Bool.or_eq_true, Bool.and_eq_false_iff, Bool.or_eq_false_iff, Bool.not_eq_true', Bool.not_eq_false', Int.not_lt, Int.not_le] at hc)) <;> (try (exfalso; first | omega | contradiction)))))
    exact wr_layC2 (Hn := []) rfl rfl rfl rfl (by first | exact List.Mem.head _ | exact List.Mem.tail _ (List.Mem.head _) | exact List.Mem.tail _ (List.Mem.tail _ (List.Mem.head _)) | exact List.Mem.tail _ (List.Mem.tail _ (List.Mem.tail _ (List.Mem.head _))) | exact List.Mem.tail _ (List.Mem.tail _ (List.Mem.tail _ (List.Mem.tail _ (List.Mem.head _)))) | exact List.mem_append_right _ (List.Mem.head _) | exact List.mem_append_right _ (List.Mem.tail _ (List.Mem.head _)) | exact List.mem_append_right _ (List.Mem.tail _ (List.Mem.tail _ (List.Mem.head _))) | exact List.mem_append_right _ (List.Mem.tail _ (List.Mem.tail _ (List.Mem.tail _ (List.Mem.head _)))) | exact List.Mem.tail _ (List.mem_append_right _ (List.Mem.head _)) | exact List.Mem.tail _ (List.mem_append_right _ (List.Mem.tail _ (List.Mem.head _))) | exact List.Mem.tail _ (List.mem_append_right _ (List.Mem.tail _ (List.Mem.tail _ (List.Mem.head _)))) | exact List.Mem.tail _ (List.mem_append_right _ (List.Mem.tail _ (List.Mem.tail _ (List.Mem.tail _ (List.Mem.head _))))) | exact List.Mem.tail _ (List.Mem.tail _ (List.mem_append_right _ (List.Mem.head _))) | exact List.Mem.tail _ (List.Mem.tail _ (List.mem_append_right _ (List.Mem.tail _ (List.Mem.head _)))) | exact List.Mem.tail _ (List.Mem.tail _ (List.mem_append_right _ (List.Mem.tail _ (List.Mem.tail _ (List.Mem.head _)))))) rfl Since.refl (List.nil_sublist _) ⟨rfl, reqV_err rfl⟩
  | some p =>
    obtain ⟨l, r⟩ := p
    simp only
    have hlr := cutS_length hc0
    have hf : ∀ {w : World}, Laid M w → Calls Tryd.prog 32 #[str l] w (RetE w (.tuple #[.agg #[str (firstP l).1, str (firstP l).2.1, .slice none 0 0, str []], i64 (firstP l).2.2])) := fun h => first_ok hG h l (by omega)
    generalize firstP l = fp at *
    obtain ⟨m, t, e⟩ := fp
    dsimp only at *
    repeat' (first | (first | refine wc_seq ?_ | refine wc_region ?_ | refine wl_nil ?_ | refine wn_seq ?_ | refine wn_blk ?_ | refine wc_skip ?_ | refine wc_block ?_ | refine wc_exit rfl ?_ | (show WL _ _ (_ :: _) _ _ _ _; first | refine wl_v rfl rfl rfl (by first | (show OpV _ _ _ _ (Oper.mk _ (Op.move _) _ _ _ _) _ _; exact xo_move rfl) | (show OpV _ _ _ _ (Oper.mk _ (Op.assign _) _ _ _ _) _ _; exact xo_assign rfl) | (show OpV _ _ _ _ (Oper.mk _ (Op.extract _ _) _ _ _ _) _ _; exact xo_extract rfl) | (show OpV _ _ _ _ (Oper.mk _ (Op.call ⟨.builtin .len, _, _⟩) _ _ _ _) _ _; first | exact xo_slen rfl | exact xo_len rfl) | (show OpV _ _ _ _ (Oper.mk _ (Op.binOp BinOp.eql _ _ _ _) _ _ _ _) _ _; first | exact xo_eql rfl rfl | exact xo_seql rfl rfl | exact xo_beql rfl rfl | exact xo_aeql rfl rfl) | (show OpV _ _ _ _ (Oper.mk _ (Op.binOp BinOp.neq _ _ _ _) _ _ _ _) _ _; first | exact xo_neq rfl rfl | exact xo_sneq rfl rfl | exact xo_bneq rfl rfl | exact xo_aneq rfl rfl) | (show OpV _ _ _ _ (Oper.mk _ (Op.binOp BinOp.gtr _ _ _ _) _ _ _ _) _ _; exact xo_gtr rfl rfl) | (show OpV _ _ _ _ (Oper.mk _ (Op.fieldAddr _ _ _) _ _ _ _) _ _; exact xo_fieldAddr rfl) | (show OpV _ _ _ _ (Oper.mk _ (Op.load _ _) _ _ _ _) _ _; first | exact xo_load1 rfl | exact xo_loadS rfl) | (show OpV _ _ _ _ (Oper.mk _ (Op.build _ _) _ _ _ _) _ _; exact xo_build rfl) | (show OpV _ _ _ _ (Oper.mk _ (Op.nilCheck _) _ _ _ _) _ _; exact xo_nilCheck rfl)) ?_ | refine wl_v rfl rfl rfl (by first  | fail) ?_ | refine xl_alloc (fun _ => ?_) | refine xl_box rfl (fun _ => ?_) | refine xl_store rfl rfl ?_) | refine wc_ret rfl ?_) | (show WC _ (Code.cond _ _ _) _ _ _ _; (refine wc_cond rfl (fun hc => ?_) (fun hc => ?_) <;> (try (simp only [decide_eq_true_eq, decide_eq_false_iff_not, Bool.and_eq_true, Bool.or_eq_true, Bool.and_eq_false_iff, Bool.or_eq_false_iff, Bool.not_eq_true', Bool.not_eq_false', Int.not_lt, Int.not_le] at hc)) <;> (try (exfalso; first | omega | contradiction)))))
    refine wl_callL rfl Tryd.call31 rfl rfl rfl rfl (fun w hw => qline_yes hG (by omega) hc0 hw) ?_
    by_cases he : e ≠ 0
    · rw [if_pos he]
      repeat' (first | (first | refine wc_seq ?_ | refine wc_region ?_ | refine wl_nil ?_ | refine wn_seq ?_ | refine wn_blk ?_ | refine wc_skip ?_ | refine wc_block ?_ | refine wc_exit rfl ?_ | (show WL _ _ (_ :: _) _ _ _ _; first | refine wl_v rfl rfl rfl (by first | (show OpV _ _ _ _ (Oper.mk _ (Op.move _) _ _ _ _) _ _; exact xo_move rfl) | (show OpV _ _ _ _ (Oper.mk _ (Op.assign _) _ _ _ _) _ _; exact xo_assign rfl) | (show OpV _ _ _ _ (Oper.mk _ (Op.extract _ _) _ _ _ _) _ _; exact xo_extract rfl) | (show OpV _ _ _ _ (Oper.mk _ (Op.call ⟨.builtin .len, _, _⟩) _ _ _ _) _ _; first | exact xo_slen rfl | exact xo_len rfl) | (show OpV _ _ _ _ (Oper.mk _ (Op.binOp BinOp.eql _ _ _ _) _ _ _ _) _ _; first | exact xo_eql rfl rfl | exact xo_seql rfl rfl | exact xo_beql rfl rfl | exact xo_aeql rfl rfl) | (show OpV _ _ _ _ (Oper.mk _ (Op.binOp BinOp.neq _ _ _ _) _ _ _ _) _ _; first | exact xo_neq rfl rfl | exact xo_sneq rfl rfl | exact xo_bneq rfl rfl | exact xo_aneq rfl rfl) | (show OpV _ _ _ _ (Oper.mk _ (Op.binOp BinOp.gtr _ _ _ _) _ _ _ _) _ _; exact xo_gtr rfl rfl) | (show OpV _ _ _ _ (Oper.mk _ (Op.fieldAddr _ _ _) _ _ _ _) _ _; exact xo_fieldAddr rfl) | (show OpV _ _ _ _ (Oper.mk _ (Op.load _ _) _ _ _ _) _ _; first | exact xo_load1 rfl | exact xo_loadS rfl) | (show OpV _ _ _ _ (Oper.mk _ (Op.build _ _) _ _ _ _) _ _; exact xo_build rfl) | (show OpV _ _ _ _ (Oper.mk _ (Op.nilCheck _) _ _ _ _) _ _; exact xo_nilCheck rfl)) ?_ | refine wl_v rfl rfl rfl (by first | ((show OpV _ _ _ _ (Oper.mk _ (Op.call ⟨.value (.func 32), _, _⟩) _ _ _ _) _ _; exact ov_call Tryd.call32 rfl (by intro himp; first | rfl | (simp_all; done)) (by rfl) (fun _ _ h k => h.ext k) (fun hcg w hw => hf hw.laid))) | fail) ?_ | refine xl_alloc (fun _ => ?_) | refine xl_box rfl (fun _ => ?_) | refine xl_store rfl rfl ?_) | refine wc_ret rfl ?_) | (show WC _ (Code.cond _ _ _) _ _ _ _; (refine wc_cond rfl (fun hc => ?_) (fun hc => ?_) <;> (try (simp only [decide_eq_true_eq, decide_eq_false_iff_not, Bool.and_eq_true, Bool.or_eq_true, Bool.and_eq_false_iff, Bool.or_eq_false_iff, Bool.not_eq_true', Bool.not_eq_false', Int.not_lt, Int.not_le] at hc)) <;> (try (exfalso; first | omega | contradiction)))))
      exact wr_layC2 (Hn := []) rfl rfl rfl rfl (by first | exact List.Mem.head _ | exact List.Mem.tail _ (List.Mem.head _) | exact List.Mem.tail _ (List.Mem.tail _ (List.Mem.head _)) | exact List.Mem.tail _ (List.Mem.tail _ (List.Mem.tail _ (List.Mem.head _))) | exact List.Mem.tail _ (List.Mem.tail _ (List.Mem.tail _ (List.Mem.tail _ (List.Mem.head _)))) | exact List.mem_append_right _ (List.Mem.head _) | exact List.mem_append_right _ (List.Mem.tail _ (List.Mem.head _)) | exact List.mem_append_right _ (List.Mem.tail _ (List.Mem.tail _ (List.Mem.head _))) | exact List.mem_append_right _ (List.Mem.tail _ (List.Mem.tail _ (List.Mem.tail _ (List.Mem.head _)))) | exact List.Mem.tail _ (List.mem_append_right _ (List.Mem.head _)) | exact List.Mem.tail _ (List.mem_append_right _ (List.Mem.tail _ (List.Mem.head _))) | exact List.Mem.tail _ (List.mem_append_right _ (List.Mem.tail _ (List.Mem.tail _ (List.Mem.head _)))) | exact List.Mem.tail _ (List.mem_append_right _ (List.Mem.tail _ (List.Mem.tail _ (List.Mem.tail _ (List.Mem.head _))))) | exact List.Mem.tail _ (List.Mem.tail _ (List.mem_append_right _ (List.Mem.head _))) | exact List.Mem.tail _ (List.Mem.tail _ (List.mem_append_right _ (List.Mem.tail _ (List.Mem.head _)))) | exact List.Mem.tail _ (List.Mem.tail _ (List.mem_append_right _ (List.Mem.tail _ (List.Mem.tail _ (List.Mem.head _)))))) rfl Since.refl (List.nil_sublist _) ⟨rfl, reqV_err rfl⟩
    obtain rfl : e = 0 := by omega
    rw [if_neg (by decide)]
    unfold pfin
    rename_i b2 b15
    repeat' (first | (first | refine wc_seq ?_ | refine wc_region ?_ | refine wl_nil ?_ | refine wn_seq ?_ | refine wn_blk ?_ | refine wc_skip ?_ | refine wc_block ?_ | refine wc_exit rfl ?_ | (show WL _ _ (_ :: _) _ _ _ _; first | refine wl_v rfl rfl rfl (by first | (show OpV _ _ _ _ (Oper.mk _ (Op.move _) _ _ _ _) _ _; exact xo_move rfl) | (show OpV _ _ _ _ (Oper.mk _ (Op.assign _) _ _ _ _) _ _; exact xo_assign rfl) | (show OpV _ _ _ _ (Oper.mk _ (Op.extract _ _) _ _ _ _) _ _; exact xo_extract rfl) | (show OpV _ _ _ _ (Oper.mk _ (Op.call ⟨.builtin .len, _, _⟩) _ _ _ _) _ _; first | exact xo_slen rfl | exact xo_len rfl) | (show OpV _ _ _ _ (Oper.mk _ (Op.binOp BinOp.eql _ _ _ _) _ _ _ _) _ _; first | exact xo_eql rfl rfl | exact xo_seql rfl rfl | exact xo_beql rfl rfl | exact xo_aeql rfl rfl) | (show OpV _ _ _ _ (Oper.mk _ (Op.binOp BinOp.neq _ _ _ _) _ _ _ _) _ _; first | exact xo_neq rfl rfl | exact xo_sneq rfl rfl | exact xo_bneq rfl rfl | exact xo_aneq rfl rfl) | (show OpV _ _ _ _ (Oper.mk _ (Op.binOp BinOp.gtr _ _ _ _) _ _ _ _) _ _; exact xo_gtr rfl rfl) | (show OpV _ _ _ _ (Oper.mk _ (Op.fieldAddr _ _ _) _ _ _ _) _ _; exact xo_fieldAddr rfl) | (show OpV _ _ _ _ (Oper.mk _ (Op.load _ _) _ _ _ _) _ _; first | exact xo_load1 rfl | exact xo_loadS rfl) | (show OpV _ _ _ _ (Oper.mk _ (Op.build _ _) _ _ _ _) _ _; exact xo_build rfl) | (show OpV _ _ _ _ (Oper.mk _ (Op.nilCheck _) _ _ _ _) _ _; exact xo_nilCheck rfl)) ?_ | refine wl_v rfl rfl rfl (by first | ((show OpV _ _ _ _ (Oper.mk _ (Op.call ⟨.value (.func 32), _, _⟩) _ _ _ _) _ _; exact ov_call Tryd.call32 rfl (by intro himp; first | rfl | (simp_all; done)) (by rfl) (fun _ _ h k => h.ext k) (fun hcg w hw => hf hw.laid))) | fail) ?_ | refine xl_alloc (fun _ => ?_) | refine xl_box rfl (fun _ => ?_) | refine xl_store rfl rfl ?_) | refine wc_ret rfl ?_) | (show WC _ (Code.cond _ _ _) _ _ _ _; (refine wc_cond rfl (fun hc => ?_) (fun hc => ?_) <;> (try (simp only [decide_eq_true_eq, decide_eq_false_iff_not, Bool.and_eq_true, Bool.or_eq_true, Bool.and_eq_false_iff, Bool.or_eq_false_iff, Bool.not_eq_true', Bool.not_eq_false', Int.not_lt, Int.not_le] at hc)) <;> (try (exfalso; first | omega | contradiction)))))
    rename_i b7
    have hrest := hdrsQ_rest 33 r []
    have hfew := hdrsQ_few 33 r []
    have hsml := hdrsQ_small (N := s.length) 33 r [] (by omega) (fun p hp => by cases hp)
    refine wl_weak (C' := St w [] ((b15, txtO r) :: [(b7, .cells [str m, str t, .slice none 0 0, str []].toArray 25 (0, 0)), (b2, .cells [str [], str [], .slice none 0 0, str []].toArray 25 (0, 0))]) M) (Eng.Sub.refl _) (fun w' h => h.perm (List.Perm.swap _ _ _)) ?_
    refine wl_callLS rfl Tryd.call33 rfl rfl rfl rfl (fun w hw => qheaders_ok hG (by omega) hw) ?_
    rintro v1 M1 hm1 hnew1 ⟨hv, rfl, hsl⟩
    have hG1 := hG.mono hm1
    have hsin : Since w M M1 := Since.refl.step hm1 hnew1
    generalize hdrsQ 33 r [] = q at *
    obtain ⟨hs1, e1, rest⟩ := q
    dsimp only at *
    have hlen := fun {w : World} (h : Laid M1 w) => qlength_ok h hsl m t [] (by simp at hfew; omega) (fun p hp => by have := hsml p hp; omega)
    obtain ⟨a, cap, b, o, cs, T, fz, rfl, _⟩ := hsl.open
    by_cases he1 : e1 ≠ 0
    · rw [if_pos he1]
      repeat' (first | (first | refine wc_seq ?_ | refine wc_region ?_ | refine wl_nil ?_ | refine wn_seq ?_ | refine wn_blk ?_ | refine wc_skip ?_ | refine wc_block ?_ | refine wc_exit rfl ?_ | (show WL _ _ (_ :: _) _ _ _ _; first | refine wl_v rfl rfl rfl (by first | (show OpV _ _ _ _ (Oper.mk _ (Op.move _) _ _ _ _) _ _; exact xo_move rfl) | (show OpV _ _ _ _ (Oper.mk _ (Op.assign _) _ _ _ _) _ _; exact xo_assign rfl) | (show OpV _ _ _ _ (Oper.mk _ (Op.extract _ _) _ _ _ _) _ _; exact xo_extract rfl) | (show OpV _ _ _ _ (Oper.mk _ (Op.call ⟨.builtin .len, _, _⟩) _ _ _ _) _ _; first | exact xo_slen rfl | exact xo_len rfl) | (show OpV _ _ _ _ (Oper.mk _ (Op.binOp BinOp.eql _ _ _ _) _ _ _ _) _ _; first | exact xo_eql rfl rfl | exact xo_seql rfl rfl | exact xo_beql rfl rfl | exact xo_aeql rfl rfl) | (show OpV _ _ _ _ (Oper.mk _ (Op.binOp BinOp.neq _ _ _ _) _ _ _ _) _ _; first | exact xo_neq rfl rfl | exact xo_sneq rfl rfl | exact xo_bneq rfl rfl | exact xo_aneq rfl rfl) | (show OpV _ _ _ _ (Oper.mk _ (Op.binOp BinOp.gtr _ _ _ _) _ _ _ _) _ _; exact xo_gtr rfl rfl) | (show OpV _ _ _ _ (Oper.mk _ (Op.fieldAddr _ _ _) _ _ _ _) _ _; exact xo_fieldAddr rfl) | (show OpV _ _ _ _ (Oper.mk _ (Op.load _ _) _ _ _ _) _ _; first | exact xo_load1 rfl | exact xo_loadS rfl) | (show OpV _ _ _ _ (Oper.mk _ (Op.build _ _) _ _ _ _) _ _; exact xo_build rfl) | (show OpV _ _ _ _ (Oper.mk _ (Op.nilCheck _) _ _ _ _) _ _; exact xo_nilCheck rfl)) ?_ | refine wl_v rfl rfl rfl (by first  | fail) ?_ | refine xl_alloc (fun _ => ?_) | refine xl_box rfl (fun _ => ?_) | refine xl_store rfl rfl ?_) | refine wc_ret rfl ?_) | (show WC _ (Code.cond _ _ _) _ _ _ _; (refine wc_cond rfl (fun hc => ?_) (fun hc => ?_) <;> (try (simp only [decide_eq_true_eq, decide_eq_false_iff_not, Bool.and_eq_true, Bool.or_eq_true, Bool.and_eq_false_iff, Bool.or_eq_false_iff, Bool.not_eq_true', Bool.not_eq_false', Int.not_lt, Int.not_le] at hc)) <;> (try (exfalso; first | omega | contradiction)))))
      exact wr_layC2 (Hn := []) rfl rfl rfl rfl (by first | exact List.Mem.head _ | exact List.Mem.tail _ (List.Mem.head _) | exact List.Mem.tail _ (List.Mem.tail _ (List.Mem.head _)) | exact List.Mem.tail _ (List.Mem.tail _ (List.Mem.tail _ (List.Mem.head _))) | exact List.Mem.tail _ (List.Mem.tail _ (List.Mem.tail _ (List.Mem.tail _ (List.Mem.head _)))) | exact List.mem_append_right _ (List.Mem.head _) | exact List.mem_append_right _ (List.Mem.tail _ (List.Mem.head _)) | exact List.mem_append_right _ (List.Mem.tail _ (List.Mem.tail _ (List.Mem.head _))) | exact List.mem_append_right _ (List.Mem.tail _ (List.Mem.tail _ (List.Mem.tail _ (List.Mem.head _)))) | exact List.Mem.tail _ (List.mem_append_right _ (List.Mem.head _)) | exact List.Mem.tail _ (List.mem_append_right _ (List.Mem.tail _ (List.Mem.head _))) | exact List.Mem.tail _ (List.mem_append_right _ (List.Mem.tail _ (List.Mem.tail _ (List.Mem.head _)))) | exact List.Mem.tail _ (List.mem_append_right _ (List.Mem.tail _ (List.Mem.tail _ (List.Mem.tail _ (List.Mem.head _))))) | exact List.Mem.tail _ (List.Mem.tail _ (List.mem_append_right _ (List.Mem.head _))) | exact List.Mem.tail _ (List.Mem.tail _ (List.mem_append_right _ (List.Mem.tail _ (List.Mem.head _)))) | exact List.Mem.tail _ (List.Mem.tail _ (List.mem_append_right _ (List.Mem.tail _ (List.Mem.tail _ (List.Mem.head _)))))) rfl hsin (List.nil_sublist _) ⟨rfl, reqV_err rfl⟩
    obtain rfl : e1 = 0 := by omega
    rw [if_neg (by decide)]
    generalize lenP hs1 = lp at *
    obtain ⟨want, e2⟩ := lp
    dsimp only at *
    by_cases he2 : e2 ≠ 0
    · rw [if_pos he2]
      repeat' (first | (first | refine wc_seq ?_ | refine wc_region ?_ | refine wl_nil ?_ | refine wn_seq ?_ | refine wn_blk ?_ | refine wc_skip ?_ | refine wc_block ?_ | refine wc_exit rfl ?_ | (show WL _ _ (_ :: _) _ _ _ _; first | refine wl_v rfl rfl rfl (by first | (show OpV _ _ _ _ (Oper.mk _ (Op.move _) _ _ _ _) _ _; exact xo_move rfl) | (show OpV _ _ _ _ (Oper.mk _ (Op.assign _) _ _ _ _) _ _; exact xo_assign rfl) | (show OpV _ _ _ _ (Oper.mk _ (Op.extract _ _) _ _ _ _) _ _; exact xo_extract rfl) | (show OpV _ _ _ _ (Oper.mk _ (Op.call ⟨.builtin .len, _, _⟩) _ _ _ _) _ _; first | exact xo_slen rfl | exact xo_len rfl) | (show OpV _ _ _ _ (Oper.mk _ (Op.binOp BinOp.eql _ _ _ _) _ _ _ _) _ _; first | exact xo_eql rfl rfl | exact xo_seql rfl rfl | exact xo_beql rfl rfl | exact xo_aeql rfl rfl) | (show OpV _ _ _ _ (Oper.mk _ (Op.binOp BinOp.neq _ _ _ _) _ _ _ _) _ _; first | exact xo_neq rfl rfl | exact xo_sneq rfl rfl | exact xo_bneq rfl rfl | exact xo_aneq rfl rfl) | (show OpV _ _ _ _ (Oper.mk _ (Op.binOp BinOp.gtr _ _ _ _) _ _ _ _) _ _; exact xo_gtr rfl rfl) | (show OpV _ _ _ _ (Oper.mk _ (Op.fieldAddr _ _ _) _ _ _ _) _ _; exact xo_fieldAddr rfl) | (show OpV _ _ _ _ (Oper.mk _ (Op.load _ _) _ _ _ _) _ _; first | exact xo_load1 rfl | exact xo_loadS rfl) | (show OpV _ _ _ _ (Oper.mk _ (Op.build _ _) _ _ _ _) _ _; exact xo_build rfl) | (show OpV _ _ _ _ (Oper.mk _ (Op.nilCheck _) _ _ _ _) _ _; exact xo_nilCheck rfl)) ?_ | refine wl_v rfl rfl rfl (by first | ((show OpV _ _ _ _ (Oper.mk _ (Op.call ⟨.value (.func 34), _, _⟩) _ _ _ _) _ _; exact ov_call Tryd.call34 rfl (by intro himp; first | rfl | (simp_all; done)) (by rfl) (fun _ _ h k => h.ext k) (fun hcg w hw => hlen hw.laid))) | fail) ?_ | refine xl_alloc (fun _ => ?_) | refine xl_box rfl (fun _ => ?_) | refine xl_store rfl rfl ?_) | refine wc_ret rfl ?_) | (show WC _ (Code.cond _ _ _) _ _ _ _; (refine wc_cond rfl (fun hc => ?_) (fun hc => ?_) <;> (try (simp only [decide_eq_true_eq, decide_eq_false_iff_not, Bool.and_eq_true, Bool.or_eq_true, Bool.and_eq_false_iff, Bool.or_eq_false_iff, Bool.not_eq_true', Bool.not_eq_false', Int.not_lt, Int.not_le] at hc)) <;> (try (exfalso; first | omega | contradiction)))))
      exact wr_layC2 (Hn := []) rfl rfl rfl rfl (by first | exact List.Mem.head _ | exact List.Mem.tail _ (List.Mem.head _) | exact List.Mem.tail _ (List.Mem.tail _ (List.Mem.head _)) | exact List.Mem.tail _ (List.Mem.tail _ (List.Mem.tail _ (List.Mem.head _))) | exact List.Mem.tail _ (List.Mem.tail _ (List.Mem.tail _ (List.Mem.tail _ (List.Mem.head _)))) | exact List.mem_append_right _ (List.Mem.head _) | exact List.mem_append_right _ (List.Mem.tail _ (List.Mem.head _)) | exact List.mem_append_right _ (List.Mem.tail _ (List.Mem.tail _ (List.Mem.head _))) | exact List.mem_append_right _ (List.Mem.tail _ (List.Mem.tail _ (List.Mem.tail _ (List.Mem.head _)))) | exact List.Mem.tail _ (List.mem_append_right _ (List.Mem.head _)) | exact List.Mem.tail _ (List.mem_append_right _ (List.Mem.tail _ (List.Mem.head _))) | exact List.Mem.tail _ (List.mem_append_right _ (List.Mem.tail _ (List.Mem.tail _ (List.Mem.head _)))) | exact List.Mem.tail _ (List.mem_append_right _ (List.Mem.tail _ (List.Mem.tail _ (List.Mem.tail _ (List.Mem.head _))))) | exact List.Mem.tail _ (List.Mem.tail _ (List.mem_append_right _ (List.Mem.head _))) | exact List.Mem.tail _ (List.Mem.tail _ (List.mem_append_right _ (List.Mem.tail _ (List.Mem.head _)))) | exact List.Mem.tail _ (List.Mem.tail _ (List.mem_append_right _ (List.Mem.tail _ (List.Mem.tail _ (List.Mem.head _)))))) rfl hsin (List.nil_sublist _) ⟨rfl, reqV_err rfl⟩
    obtain rfl : e2 = 0 := by omega
    rw [if_neg (by decide)]
    have hfit := fun {w : World} (h : Laid M1 w) => fits_ok h rest want
    generalize fitsE (rest.length : Int) want = e3 at *
    unfold txtO
    by_cases he3 : e3 ≠ 0
    · rw [if_pos he3]
      repeat' (first | (first | refine wc_seq ?_ | refine wc_region ?_ | refine wl_nil ?_ | refine wn_seq ?_ | refine wn_blk ?_ | refine wc_skip ?_ | refine wc_block ?_ | refine wc_exit rfl ?_ | (show WL _ _ (_ :: _) _ _ _ _; first | refine wl_v rfl rfl rfl (by first | (show OpV _ _ _ _ (Oper.mk _ (Op.move _) _ _ _ _) _ _; exact xo_move rfl) | (show OpV _ _ _ _ (Oper.mk _ (Op.assign _) _ _ _ _) _ _; exact xo_assign rfl) | (show OpV _ _ _ _ (Oper.mk _ (Op.extract _ _) _ _ _ _) _ _; exact xo_extract rfl) | (show OpV _ _ _ _ (Oper.mk _ (Op.call ⟨.builtin .len, _, _⟩) _ _ _ _) _ _; first | exact xo_slen rfl | exact xo_len rfl) | (show OpV _ _ _ _ (Oper.mk _ (Op.binOp BinOp.eql _ _ _ _) _ _ _ _) _ _; first | exact xo_eql rfl rfl | exact xo_seql rfl rfl | exact xo_beql rfl rfl | exact xo_aeql rfl rfl) | (show OpV _ _ _ _ (Oper.mk _ (Op.binOp BinOp.neq _ _ _ _) _ _ _ _) _ _; first | exact xo_neq rfl rfl | exact xo_sneq rfl rfl | exact xo_bneq rfl rfl | exact xo_aneq rfl rfl) | (show OpV _ _ _ _ (Oper.mk _ (Op.binOp BinOp.gtr _ _ _ _) _ _ _ _) _ _; exact xo_gtr rfl rfl) | (show OpV _ _ _ _ (Oper.mk _ (Op.fieldAddr _ _ _) _ _ _ _) _ _; exact xo_fieldAddr rfl) | (show OpV _ _ _ _ (Oper.mk _ (Op.load _ _) _ _ _ _) _ _; first | exact xo_load1 rfl | exact xo_loadS rfl) | (show OpV _ _ _ _ (Oper.mk _ (Op.build _ _) _ _ _ _) _ _; exact xo_build rfl) | (show OpV _ _ _ _ (Oper.mk _ (Op.nilCheck _) _ _ _ _) _ _; exact xo_nilCheck rfl)) ?_ | refine wl_v rfl rfl rfl (by first | ((show OpV _ _ _ _ (Oper.mk _ (Op.call ⟨.value (.func 34), _, _⟩) _ _ _ _) _ _; exact ov_call Tryd.call34 rfl (by intro himp; first | rfl | (simp_all; done)) (by rfl) (fun _ _ h k => h.ext k) (fun hcg w hw => hlen hw.laid))) | ((show OpV _ _ _ _ (Oper.mk _ (Op.call ⟨.value (.func 35), _, _⟩) _ _ _ _) _ _; exact ov_call Tryd.call35 rfl (by intro himp; first | rfl | (simp_all; done)) (by rfl) (fun _ _ h k => h.ext k) (fun hcg w hw => hfit hw.laid))) | fail) ?_ | refine xl_alloc (fun _ => ?_) | refine xl_box rfl (fun _ => ?_) | refine xl_store rfl rfl ?_) | refine wc_ret rfl ?_) | (show WC _ (Code.cond _ _ _) _ _ _ _; (refine wc_cond rfl (fun hc => ?_) (fun hc => ?_) <;> (try (simp only [decide_eq_true_eq, decide_eq_false_iff_not, Bool.and_eq_true, Bool.or_eq_true, Bool.and_eq_false_iff, Bool.or_eq_false_iff, Bool.not_eq_true', Bool.not_eq_false', Int.not_lt, Int.not_le] at hc)) <;> (try (exfalso; first | omega | contradiction)))))
      exact wr_layC2 (Hn := []) rfl rfl rfl rfl (by first | exact List.Mem.head _ | exact List.Mem.tail _ (List.Mem.head _) | exact List.Mem.tail _ (List.Mem.tail _ (List.Mem.head _)) | exact List.Mem.tail _ (List.Mem.tail _ (List.Mem.tail _ (List.Mem.head _))) | exact List.Mem.tail _ (List.Mem.tail _ (List.Mem.tail _ (List.Mem.tail _ (List.Mem.head _)))) | exact List.mem_append_right _ (List.Mem.head _) | exact List.mem_append_right _ (List.Mem.tail _ (List.Mem.head _)) | exact List.mem_append_right _ (List.Mem.tail _ (List.Mem.tail _ (List.Mem.head _))) | exact List.mem_append_right _ (List.Mem.tail _ (List.Mem.tail _ (List.Mem.tail _ (List.Mem.head _)))) | exact List.Mem.tail _ (List.mem_append_right _ (List.Mem.head _)) | exact List.Mem.tail _ (List.mem_append_right _ (List.Mem.tail _ (List.Mem.head _))) | exact List.Mem.tail _ (List.mem_append_right _ (List.Mem.tail _ (List.Mem.tail _ (List.Mem.head _)))) | exact List.Mem.tail _ (List.mem_append_right _ (List.Mem.tail _ (List.Mem.tail _ (List.Mem.tail _ (List.Mem.head _))))) | exact List.Mem.tail _ (List.Mem.tail _ (List.mem_append_right _ (List.Mem.head _))) | exact List.Mem.tail _ (List.Mem.tail _ (List.mem_append_right _ (List.Mem.tail _ (List.Mem.head _)))) | exact List.Mem.tail _ (List.Mem.tail _ (List.mem_append_right _ (List.Mem.tail _ (List.Mem.tail _ (List.Mem.head _)))))) rfl hsin (List.nil_sublist _) ⟨rfl, reqV_err rfl⟩
    obtain rfl : e3 = 0 := by omega
    rw [if_neg (by decide)]
    repeat' (first | (first | refine wc_seq ?_ | refine wc_region ?_ | refine wl_nil ?_ | refine wn_seq ?_ | refine wn_blk ?_ | refine wc_skip ?_ | refine wc_block ?_ | refine wc_exit rfl ?_ | (show WL _ _ (_ :: _) _ _ _ _; first | refine wl_v rfl rfl rfl (by first | (show OpV _ _ _ _ (Oper.mk _ (Op.move _) _ _ _ _) _ _; exact xo_move rfl) | (show OpV _ _ _ _ (Oper.mk _ (Op.assign _) _ _ _ _) _ _; exact xo_assign rfl) | (show OpV _ _ _ _ (Oper.mk _ (Op.extract _ _) _ _ _ _) _ _; exact xo_extract rfl) | (show OpV _ _ _ _ (Oper.mk _ (Op.call ⟨.builtin .len, _, _⟩) _ _ _ _) _ _; first | exact xo_slen rfl | exact xo_len rfl) | (show OpV _ _ _ _ (Oper.mk _ (Op.binOp BinOp.eql _ _ _ _) _ _ _ _) _ _; first | exact xo_eql rfl rfl | exact xo_seql rfl rfl | exact xo_beql rfl rfl | exact xo_aeql rfl rfl) | (show OpV _ _ _ _ (Oper.mk _ (Op.binOp BinOp.neq _ _ _ _) _ _ _ _) _ _; first | exact xo_neq rfl rfl | exact xo_sneq rfl rfl | exact xo_bneq rfl rfl | exact xo_aneq rfl rfl) | (show OpV _ _ _ _ (Oper.mk _ (Op.binOp BinOp.gtr _ _ _ _) _ _ _ _) _ _; exact xo_gtr rfl rfl) | (show OpV _ _ _ _ (Oper.mk _ (Op.fieldAddr _ _ _) _ _ _ _) _ _; exact xo_fieldAddr rfl) | (show OpV _ _ _ _ (Oper.mk _ (Op.load _ _) _ _ _ _) _ _; first | exact xo_load1 rfl | exact xo_loadS rfl) | (show OpV _ _ _ _ (Oper.mk _ (Op.build _ _) _ _ _ _) _ _; exact xo_build rfl) | (show OpV _ _ _ _ (Oper.mk _ (Op.nilCheck _) _ _ _ _) _ _; exact xo_nilCheck rfl)) ?_ | refine wl_v rfl rfl rfl (by first | ((show OpV _ _ _ _ (Oper.mk _ (Op.call ⟨.value (.func 34), _, _⟩) _ _ _ _) _ _; exact ov_call Tryd.call34 rfl (by intro himp; first | rfl | (simp_all; done)) (by rfl) (fun _ _ h k => h.ext k) (fun hcg w hw => hlen hw.laid))) | ((show OpV _ _ _ _ (Oper.mk _ (Op.call ⟨.value (.func 35), _, _⟩) _ _ _ _) _ _; exact ov_call Tryd.call35 rfl (by intro himp; first | rfl | (simp_all; done)) (by rfl) (fun _ _ h k => h.ext k) (fun hcg w hw => hfit hw.laid))) | fail) ?_ | refine xl_alloc (fun _ => ?_) | refine xl_box rfl (fun _ => ?_) | refine xl_store rfl rfl ?_) | refine wc_ret rfl ?_) | (show WC _ (Code.cond _ _ _) _ _ _ _; (refine wc_cond rfl (fun hc => ?_) (fun hc => ?_) <;> (try (simp only [decide_eq_true_eq, decide_eq_false_iff_not, Bool.and_eq_true, Bool.or_eq_true, Bool.and_eq_false_iff, Bool.or_eq_false_iff, Bool.not_eq_true', Bool.not_eq_false', Int.not_lt, Int.not_le] at hc)) <;> (try (exfalso; first | omega | contradiction)))))
    exact wr_layC2 (Hn := []) rfl rfl rfl rfl (by first | exact List.Mem.head _ | exact List.Mem.tail _ (List.Mem.head _) | exact List.Mem.tail _ (List.Mem.tail _ (List.Mem.head _)) | exact List.Mem.tail _ (List.Mem.tail _ (List.Mem.tail _ (List.Mem.head _))) | exact List.Mem.tail _ (List.Mem.tail _ (List.Mem.tail _ (List.Mem.tail _ (List.Mem.head _)))) | exact List.mem_append_right _ (List.Mem.head _) | exact List.mem_append_right _ (List.Mem.tail _ (List.Mem.head _)) | exact List.mem_append_right _ (List.Mem.tail _ (List.Mem.tail _ (List.Mem.head _))) | exact List.mem_append_right _ (List.Mem.tail _ (List.Mem.tail _ (List.Mem.tail _ (List.Mem.head _)))) | exact List.Mem.tail _ (List.mem_append_right _ (List.Mem.head _)) | exact List.Mem.tail _ (List.mem_append_right _ (List.Mem.tail _ (List.Mem.head _))) | exact List.Mem.tail _ (List.mem_append_right _ (List.Mem.tail _ (List.Mem.tail _ (List.Mem.head _)))) | exact List.Mem.tail _ (List.mem_append_right _ (List.Mem.tail _ (List.Mem.tail _ (List.Mem.tail _ (List.Mem.head _))))) | exact List.Mem.tail _ (List.Mem.tail _ (List.mem_append_right _ (List.Mem.head _))) | exact List.Mem.tail _ (List.Mem.tail _ (List.mem_append_right _ (List.Mem.tail _ (List.Mem.head _)))) | exact List.Mem.tail _ (List.Mem.tail _ (List.mem_append_right _ (List.Mem.tail _ (List.Mem.tail _ (List.Mem.head _)))))) rfl hsin (List.nil_sublist _) ⟨rfl, _, rfl, hsl.mono (fun _ _ => .inl) (fun _ _ _ h => h)⟩
end Go.Proofs.YtjdmnanicaghkaaDoor
/-
  The contracts of package matricularef01's functions on bytes.
-/
namespace Go.Proofs.YtjdmnanicaghkaaDoor
open Go.Eng Go.Pct
set_option maxRecDepth 10000
set_option linter.unusedSimpArgs false
set_option linter.unusedVariables false

/-- what comes back of a reading that may fail -/
def resP (r : Option (List UInt8)) : Value := .tuple #[str (r.getD []), i64 (if r.isSome then 0 else 11)]

variable {M : Ghost} {w : World}

theorem rdigit_ok (hM : Laid M w) (c : UInt8) : Calls Tryd.prog 84 #[byt c] w (RetE w (i64 (digv c))) := by
  refine calls_st (l := [byt c]) hM Tryd.func84 rfl rfl rfl (E0 := [(0, true, byt c)]) (params_cons rfl (params_nil _)) ?_
  repeat' (first | (first | refine wc_seq ?_ | refine wc_region ?_ | refine wl_nil ?_ | refine wn_seq ?_ | refine wn_blk ?_ | refine wc_skip ?_ | refine wc_block ?_ | refine wc_exit rfl ?_ | (show WL _ _ (_ :: _) _ _ _ _; first | refine wl_v rfl rfl rfl (by first | (show OpV _ _ _ _ (Oper.mk _ (Op.move _) _ _ _ _) _ _; exact xo_move rfl) | (show OpV _ _ _ _ (Oper.mk _ (Op.assign _) _ _ _ _) _ _; exact xo_assign rfl) | (show OpV _ _ _ _ (Oper.mk _ (Op.pick _ _ _) _ _ _ _) _ _; first | exact xo_and rfl rfl | exact xo_or rfl rfl) | (show OpV _ _ _ _ (Oper.mk _ (Op.binOp BinOp.eql _ _ _ _) _ _ _ _) _ _; first | exact xo_eql rfl rfl | exact xo_seql rfl rfl | exact xo_beql rfl rfl | exact xo_aeql rfl rfl) | (show OpV _ _ _ _ (Oper.mk _ (Op.binOp BinOp.lss _ _ _ _) _ _ _ _) _ _; exact xo_lss rfl rfl) | (show OpV _ _ _ _ (Oper.mk _ (Op.binOp BinOp.add _ _ _ _) _ _ _ _) _ _; first | exact xo_add rfl rfl | exact ov_sadd rfl rfl (by first | with_reducible exact fun _ => rfl | with_reducible exact fun h => h | exact fun _ => rfl | exact fun h => h | (intro himp; simp_all; done)) (by first | with_reducible exact fun _ => rfl | with_reducible exact fun h => h | exact fun _ => rfl | exact fun h => h | (intro himp; simp_all; done)) (by intro hcg; first | omega | (simp only [List.length_append, List.length_take, List.length_drop, List.length_cons, List.length_nil, pctOf_length]; omega))) | (show OpV _ _ _ _ (Oper.mk _ (Op.index _ _ _) _ _ _ _) _ _; exact xo_sindex rfl rfl)) ?_ | refine wl_v rfl rfl rfl (by first  | fail) ?_) | refine wc_ret rfl ?_) | (show WC _ (Code.cond _ _ _) _ _ _ _; (refine wc_cond rfl (fun hc => ?_) (fun hc => ?_) <;> (try (simp only [decide_eq_true_eq, decide_eq_false_iff_not, Bool.and_eq_true, Bool.or_eq_true, Bool.and_eq_false_iff, Bool.or_eq_false_iff, Bool.not_eq_true', Bool.not_eq_false', Int.not_lt, Int.not_le] at hc)) <;> (try (exfalso; first | omega | contradiction)))))
  refine wc_loop (α := { i : Nat // i ≤ 16 ∧ ∀ j, j < i → ¬ (lowS.getD j 0 = c ∨ highS.getD j 0 = c) }) (fun x => [(0, true, byt c), (3, true, str lowS), (4, true, str highS), (5, true, i64 (x.1 : Int))]) (fun _ => St w [] [] M) (fun x => 16 - x.1) ⟨0, by omega, by intro j hj; omega⟩ (by first | exact Sub.nil _ | (repeat (first | exact Sub.nil _ | refine Sub.cons (by first | rfl | (simp [look]; done)) ?_))) (fun _ h => h) ?_
  rintro ⟨i, hi, hno⟩
  dsimp only
  have hl1 : lowS.length = 16 := rfl
  have hl2 : highS.length = 16 := rfl
  repeat' (first | (first | refine wc_seq ?_ | refine wc_region ?_ | refine wl_nil ?_ | refine wn_seq ?_ | refine wn_blk ?_ | refine wc_skip ?_ | refine wc_block ?_ | refine wc_exit rfl ?_ | (show WL _ _ (_ :: _) _ _ _ _; first | refine wl_v rfl rfl rfl (by first | (show OpV _ _ _ _ (Oper.mk _ (Op.move _) _ _ _ _) _ _; exact xo_move rfl) | (show OpV _ _ _ _ (Oper.mk _ (Op.assign _) _ _ _ _) _ _; exact xo_assign rfl) | (show OpV _ _ _ _ (Oper.mk _ (Op.pick _ _ _) _ _ _ _) _ _; first | exact xo_and rfl rfl | exact xo_or rfl rfl) | (show OpV _ _ _ _ (Oper.mk _ (Op.binOp BinOp.eql _ _ _ _) _ _ _ _) _ _; first | exact xo_eql rfl rfl | exact xo_seql rfl rfl | exact xo_beql rfl rfl | exact xo_aeql rfl rfl) | (show OpV _ _ _ _ (Oper.mk _ (Op.binOp BinOp.lss _ _ _ _) _ _ _ _) _ _; exact xo_lss rfl rfl) | (show OpV _ _ _ _ (Oper.mk _ (Op.binOp BinOp.add _ _ _ _) _ _ _ _) _ _; first | exact xo_add rfl rfl | exact ov_sadd rfl rfl (by first | with_reducible exact fun _ => rfl | with_reducible exact fun h => h | exact fun _ => rfl | exact fun h => h | (intro himp; simp_all; done)) (by first | with_reducible exact fun _ => rfl | with_reducible exact fun h => h | exact fun _ => rfl | exact fun h => h | (intro himp; simp_all; done)) (by intro hcg; first | omega | (simp only [List.length_append, List.length_take, List.length_drop, List.length_cons, List.length_nil, pctOf_length]; omega))) | (show OpV _ _ _ _ (Oper.mk _ (Op.index _ _ _) _ _ _ _) _ _; exact xo_sindex rfl rfl)) ?_ | refine wl_v rfl rfl rfl (by first  | fail) ?_) | refine wc_ret rfl ?_) | (show WC _ (Code.cond _ _ _) _ _ _ _; (refine wc_cond rfl (fun hc => ?_) (fun hc => ?_) <;> (try (simp only [decide_eq_true_eq, decide_eq_false_iff_not, Bool.and_eq_true, Bool.or_eq_true, Bool.and_eq_false_iff, Bool.or_eq_false_iff, Bool.not_eq_true', Bool.not_eq_false', Int.not_lt, Int.not_le] at hc)) <;> (try (exfalso; first | omega | contradiction)))))
  · refine wr_tmp rfl rfl ?_
    rw [(digv_find c).1 i (by omega) (hc.imp (fun h => (getD_cast _ _).1 h) (fun h => (getD_cast _ _).1 h))]
  · refine wn_cut ⟨i + 1, by omega, ?_⟩ (by show 16 - (i + 1) < 16 - i; omega) (by first | exact Sub.nil _ | (repeat (first | exact Sub.nil _ | refine Sub.cons (by first | rfl | (simp [look]; done)) ?_))) (fun _ h => h)
    intro j hj
    by_cases e : j = i
    · subst e; intro h; exact absurd (h.imp (fun h => (getD_cast _ _).2 h) (fun h => (getD_cast _ _).2 h)) (by rw [not_or]; exact hc)
    · exact hno j (by omega)
  · refine wr_tmp rfl rfl ?_
    rw [(digv_find c).2 (fun j hj => hno j (by omega))]
theorem rplain_ok (hM : Laid M w) (c : UInt8) : Calls Tryd.prog 54 #[byt c] w (RetE w (.bool (plainB c))) := by
  refine calls_st (l := [byt c]) hM Tryd.func54 rfl rfl rfl (E0 := [(0, true, byt c)]) (params_cons rfl (params_nil _)) ?_
  repeat' (first | (first | refine wc_seq ?_ | refine wc_region ?_ | refine wl_nil ?_ | refine wn_seq ?_ | refine wn_blk ?_ | refine wc_skip ?_ | refine wc_block ?_ | refine wc_exit rfl ?_ | (show WL _ _ (_ :: _) _ _ _ _; first | refine wl_v rfl rfl rfl (by first | (show OpV _ _ _ _ (Oper.mk _ (Op.move _) _ _ _ _) _ _; exact xo_move rfl) | (show OpV _ _ _ _ (Oper.mk _ (Op.assign _) _ _ _ _) _ _; exact xo_assign rfl) | (show OpV _ _ _ _ (Oper.mk _ (Op.call ⟨.builtin .len, _, _⟩) _ _ _ _) _ _; first | exact xo_slen rfl | exact xo_len rfl) | (show OpV _ _ _ _ (Oper.mk _ (Op.binOp BinOp.eql _ _ _ _) _ _ _ _) _ _; first | exact xo_eql rfl rfl | exact xo_seql rfl rfl | exact xo_beql rfl rfl | exact xo_aeql rfl rfl) | (show OpV _ _ _ _ (Oper.mk _ (Op.binOp BinOp.lss _ _ _ _) _ _ _ _) _ _; exact xo_lss rfl rfl) | (show OpV _ _ _ _ (Oper.mk _ (Op.binOp BinOp.add _ _ _ _) _ _ _ _) _ _; first | exact xo_add rfl rfl | exact ov_sadd rfl rfl (by first | with_reducible exact fun _ => rfl | with_reducible exact fun h => h | exact fun _ => rfl | exact fun h => h | (intro himp; simp_all; done)) (by first | with_reducible exact fun _ => rfl | with_reducible exact fun h => h | exact fun _ => rfl | exact fun h => h | (intro himp; simp_all; done)) (by intro hcg; first | omega | (simp only [List.length_append, List.length_take, List.length_drop, List.length_cons, List.length_nil, pctOf_length]; omega))) | (show OpV _ _ _ _ (Oper.mk _ (Op.index _ _ _) _ _ _ _) _ _; exact xo_sindex rfl rfl)) ?_ | refine wl_v rfl rfl rfl (by first  | fail) ?_) | refine wc_ret rfl ?_) | (show WC _ (Code.cond _ _ _) _ _ _ _; (refine wc_cond rfl (fun hc => ?_) (fun hc => ?_) <;> (try (simp only [decide_eq_true_eq, decide_eq_false_iff_not, Bool.and_eq_true, Bool.or_eq_true, Bool.and_eq_false_iff, Bool.or_eq_false_iff, Bool.not_eq_true', Bool.not_eq_false', Int.not_lt, Int.not_le] at hc)) <;> (try (exfalso; first | omega | contradiction)))))
  refine wc_loop (α := { i : Nat // i ≤ 66 ∧ ∀ j, j < i → ¬ allS.getD j 0 = c }) (fun x => [(0, true, byt c), (3, true, str allS), (4, true, i64 (x.1 : Int))]) (fun _ => St w [] [] M) (fun x => 66 - x.1) ⟨0, by omega, by intro j hj; omega⟩ (by first | exact Sub.nil _ | (repeat (first | exact Sub.nil _ | refine Sub.cons (by first | rfl | (simp [look]; done)) ?_))) (fun _ h => h) ?_
  rintro ⟨i, hi, hno⟩
  dsimp only
  have hl1 : allS.length = 66 := allS_length
  repeat' (first | (first | refine wc_seq ?_ | refine wc_region ?_ | refine wl_nil ?_ | refine wn_seq ?_ | refine wn_blk ?_ | refine wc_skip ?_ | refine wc_block ?_ | refine wc_exit rfl ?_ | (show WL _ _ (_ :: _) _ _ _ _; first | refine wl_v rfl rfl rfl (by first | (show OpV _ _ _ _ (Oper.mk _ (Op.move _) _ _ _ _) _ _; exact xo_move rfl) | (show OpV _ _ _ _ (Oper.mk _ (Op.assign _) _ _ _ _) _ _; exact xo_assign rfl) | (show OpV _ _ _ _ (Oper.mk _ (Op.call ⟨.builtin .len, _, _⟩) _ _ _ _) _ _; first | exact xo_slen rfl | exact xo_len rfl) | (show OpV _ _ _ _ (Oper.mk _ (Op.binOp BinOp.eql _ _ _ _) _ _ _ _) _ _; first | exact xo_eql rfl rfl | exact xo_seql rfl rfl | exact xo_beql rfl rfl | exact xo_aeql rfl rfl) | (show OpV _ _ _ _ (Oper.mk _ (Op.binOp BinOp.lss _ _ _ _) _ _ _ _) _ _; exact xo_lss rfl rfl) | (show OpV _ _ _ _ (Oper.mk _ (Op.binOp BinOp.add _ _ _ _) _ _ _ _) _ _; first | exact xo_add rfl rfl | exact ov_sadd rfl rfl (by first | with_reducible exact fun _ => rfl | with_reducible exact fun h => h | exact fun _ => rfl | exact fun h => h | (intro himp; simp_all; done)) (by first | with_reducible exact fun _ => rfl | with_reducible exact fun h => h | exact fun _ => rfl | exact fun h => h | (intro himp; simp_all; done)) (by intro hcg; first | omega | (simp only [List.length_append, List.length_take, List.length_drop, List.length_cons, List.length_nil, pctOf_length]; omega))) | (show OpV _ _ _ _ (Oper.mk _ (Op.index _ _ _) _ _ _ _) _ _; exact xo_sindex rfl rfl)) ?_ | refine wl_v rfl rfl rfl (by first  | fail) ?_) | refine wc_ret rfl ?_) | (show WC _ (Code.cond _ _ _) _ _ _ _; (refine wc_cond rfl (fun hc => ?_) (fun hc => ?_) <;> (try (simp only [decide_eq_true_eq, decide_eq_false_iff_not, Bool.and_eq_true, Bool.or_eq_true, Bool.and_eq_false_iff, Bool.or_eq_false_iff, Bool.not_eq_true', Bool.not_eq_false', Int.not_lt, Int.not_le] at hc)) <;> (try (exfalso; first | omega | contradiction)))))
  · refine wr_tmp rfl rfl ?_
    rw [(plain_find c).1 i (by omega) ((getD_cast _ _).1 hc)]
  · refine wn_cut ⟨i + 1, by omega, ?_⟩ (by show 66 - (i + 1) < 66 - i; omega) (by first | exact Sub.nil _ | (repeat (first | exact Sub.nil _ | refine Sub.cons (by first | rfl | (simp [look]; done)) ?_))) (fun _ h => h)
    intro j hj
    by_cases e : j = i
    · subst e; exact fun h => hc ((getD_cast _ _).2 h)
    · exact hno j (by omega)
  · refine wr_tmp rfl rfl ?_
    rw [(plain_find c).2 (fun j hj => hno j (by omega))]
theorem rtold_ok (hM : Laid M w) (s : List UInt8) (i : Nat) (hs : s.length ≤ 1000000000) (hi : i ≤ s.length) : Calls Tryd.prog 65 #[str s, i64 (i : Int)] w (RetE w (i64 (toldI s i))) := by
  refine calls_st (l := [str s, i64 (i : Int)]) hM Tryd.func65 rfl rfl rfl (E0 := [(0, true, str s), (1, true, i64 (i : Int))]) (params_cons rfl (params_cons rfl (params_nil _))) ?_
  have hb1 := digv_bound (s.getD (i + 1) 0)
  have hb2 := digv_bound (s.getD (i + 2) 0)
  repeat' (first | (first | refine wc_seq ?_ | refine wc_region ?_ | refine wl_nil ?_ | refine wn_seq ?_ | refine wn_blk ?_ | refine wc_skip ?_ | refine wc_block ?_ | refine wc_exit rfl ?_ | (show WL _ _ (_ :: _) _ _ _ _; first | refine wl_v rfl rfl rfl (by first | (show OpV _ _ _ _ (Oper.mk _ (Op.move _) _ _ _ _) _ _; exact xo_move rfl) | (show OpV _ _ _ _ (Oper.mk _ (Op.assign _) _ _ _ _) _ _; exact xo_assign rfl) | (show OpV _ _ _ _ (Oper.mk _ (Op.pick _ _ _) _ _ _ _) _ _; first | exact xo_and rfl rfl | exact xo_or rfl rfl) | (show OpV _ _ _ _ (Oper.mk _ (Op.call ⟨.builtin .len, _, _⟩) _ _ _ _) _ _; first | exact xo_slen rfl | exact xo_len rfl) | (show OpV _ _ _ _ (Oper.mk _ (Op.binOp BinOp.lss _ _ _ _) _ _ _ _) _ _; exact xo_lss rfl rfl) | (show OpV _ _ _ _ (Oper.mk _ (Op.binOp BinOp.geq _ _ _ _) _ _ _ _) _ _; exact xo_geq rfl rfl) | (show OpV _ _ _ _ (Oper.mk _ (Op.binOp BinOp.add _ _ _ _) _ _ _ _) _ _; first | exact xo_add rfl rfl | exact ov_sadd rfl rfl (by first | with_reducible exact fun _ => rfl | with_reducible exact fun h => h | exact fun _ => rfl | exact fun h => h | (intro himp; simp_all; done)) (by first | with_reducible exact fun _ => rfl | with_reducible exact fun h => h | exact fun _ => rfl | exact fun h => h | (intro himp; simp_all; done)) (by intro hcg; first | omega | (simp only [List.length_append, List.length_take, List.length_drop, List.length_cons, List.length_nil, pctOf_length]; omega))) | (show OpV _ _ _ _ (Oper.mk _ (Op.binOp BinOp.mul _ _ _ _) _ _ _ _) _ _; exact xo_mul rfl rfl) | (show OpV _ _ _ _ (Oper.mk _ (Op.index _ _ _) _ _ _ _) _ _; exact xo_sindex rfl rfl)) ?_ | refine wl_v rfl rfl rfl (by first | ((show OpV _ _ _ _ (Oper.mk _ (Op.call ⟨.value (.func 84), _, _⟩) _ _ _ _) _ _; exact ov_call Tryd.call84 rfl (by intro himp; first | rfl | (simp_all; done)) (by rfl) (fun _ _ h k => h.ext k) (fun hcg w hw => rdigit_ok hw.laid _))) | fail) ?_) | refine wc_ret rfl ?_) | (show WC _ (Code.cond _ _ _) _ _ _ _; (refine wc_cond rfl (fun hc => ?_) (fun hc => ?_) <;> (try (simp only [decide_eq_true_eq, decide_eq_false_iff_not, Bool.and_eq_true, Bool.or_eq_true, Bool.and_eq_false_iff, Bool.or_eq_false_iff, Bool.not_eq_true', Bool.not_eq_false', Int.not_lt, Int.not_le] at hc)) <;> (try (exfalso; first | omega | contradiction)))))
  · refine wr_tmp rfl rfl ?_
    rw [toldI_short (by omega)]
  · refine wr_tmp rfl rfl ?_
    rw [toldI_no (by omega) hc]
  · refine wr_tmp rfl rfl ?_
    rw [toldI_yes (by omega) hc]
theorem pctOf_length (c : UInt8) : (pctOf c).length = 3 := rfl
theorem rpercent_all (c : UInt8) : [37] ++ (highS.drop (c.toNat / 16)).take (c.toNat / 16 + 1 - c.toNat / 16) ++ (highS.drop (c.toNat % 16)).take (c.toNat % 16 + 1 - c.toNat % 16) = pctOf c := by
  revert c; apply all_bytes; decide +kernel
theorem rpercent_ok (hM : Laid M w) (c : UInt8) : Calls Tryd.prog 55 #[byt c] w (RetE w (str (pctOf c))) := by
  refine calls_st (l := [byt c]) hM Tryd.func55 rfl rfl rfl (E0 := [(0, true, byt c)]) (params_cons rfl (params_nil _)) ?_
  have hc := u8_lt c
  have hl2 : highS.length = 16 := rfl
  repeat' (first | (first | refine wc_seq ?_ | refine wc_region ?_ | refine wl_nil ?_ | refine wn_seq ?_ | refine wn_blk ?_ | refine wc_skip ?_ | refine wc_block ?_ | refine wc_exit rfl ?_ | (show WL _ _ (_ :: _) _ _ _ _; first | refine wl_v rfl rfl rfl (by first | (show OpV _ _ _ _ (Oper.mk _ (Op.move _) _ _ _ _) _ _; exact xo_move rfl) | (show OpV _ _ _ _ (Oper.mk _ (Op.assign _) _ _ _ _) _ _; exact xo_assign rfl) | (show OpV _ _ _ _ (Oper.mk _ (Op.binOp BinOp.add _ _ _ _) _ _ _ _) _ _; first | exact xo_add rfl rfl | exact ov_sadd rfl rfl (by first | with_reducible exact fun _ => rfl | with_reducible exact fun h => h | exact fun _ => rfl | exact fun h => h | (intro himp; simp_all; done)) (by first | with_reducible exact fun _ => rfl | with_reducible exact fun h => h | exact fun _ => rfl | exact fun h => h | (intro himp; simp_all; done)) (by intro hcg; first | omega | (simp only [List.length_append, List.length_take, List.length_drop, List.length_cons, List.length_nil, pctOf_length]; omega))) | (show OpV _ _ _ _ (Oper.mk _ (Op.binOp BinOp.quo _ _ _ _) _ _ _ _) _ _; exact xo_quo rfl rfl) | (show OpV _ _ _ _ (Oper.mk _ (Op.binOp BinOp.rem _ _ _ _) _ _ _ _) _ _; exact xo_rem rfl rfl) | (show OpV _ _ _ _ (Oper.mk _ (Op.slice _ _ (some _) (some _) none) _ _ _ _) _ _; first | exact xo_slice rfl rfl rfl | exact xo_slcB rfl rfl rfl) | (show OpV _ _ _ _ (Oper.mk _ (Op.slice _ _ (some _) none none) _ _ _ _) _ _; first | exact xo_from rfl rfl | exact xo_slcFrom rfl rfl) | (show OpV _ _ _ _ (Oper.mk _ (Op.slice _ _ none (some _) none) _ _ _ _) _ _; first | exact xo_to rfl rfl | exact xo_slcTo rfl rfl) | (show OpV _ _ _ _ (Oper.mk _ (Op.slice _ _ none (some _) (some _)) _ _ _ _) _ _; exact xo_slc3 rfl rfl rfl)) ?_ | refine wl_v rfl rfl rfl (by first  | fail) ?_) | refine wc_ret rfl ?_) | (show WC _ (Code.cond _ _ _) _ _ _ _; (refine wc_cond rfl (fun hc => ?_) (fun hc => ?_) <;> (try (simp only [decide_eq_true_eq, decide_eq_false_iff_not, Bool.and_eq_true, Bool.or_eq_true, Bool.and_eq_false_iff, Bool.or_eq_false_iff, Bool.not_eq_true', Bool.not_eq_false', Int.not_lt, Int.not_le] at hc)) <;> (try (exfalso; first | omega | contradiction)))))
  refine wc_weak (E' := [(0, true, byt c), (3, true, str highS)]) (by first | exact Sub.nil _ | (repeat (first | exact Sub.nil _ | refine Sub.cons (by first | rfl | (simp [look]; done)) ?_))) (fun _ h => h) ?_
  refine wc_draw 17 (by kernel_rfl) rfl (by kernel_rfl) (fun _ _ h k => h.ext k) ?_
  repeat' (first | (show WD _ _ (_ :: _) _ _ _ _ _ _; first | refine wd_v rfl rfl rfl rfl rfl rfl (by first | (show OpV _ _ _ _ (Oper.mk _ (Op.move _) _ _ _ _) _ _; exact xo_move rfl) | (show OpV _ _ _ _ (Oper.mk _ (Op.assign _) _ _ _ _) _ _; exact xo_assign rfl) | (show OpV _ _ _ _ (Oper.mk _ (Op.binOp BinOp.add _ _ _ _) _ _ _ _) _ _; first | exact xo_add rfl rfl | exact ov_sadd rfl rfl (by first | with_reducible exact fun _ => rfl | with_reducible exact fun h => h | exact fun _ => rfl | exact fun h => h | (intro himp; simp_all; done)) (by first | with_reducible exact fun _ => rfl | with_reducible exact fun h => h | exact fun _ => rfl | exact fun h => h | (intro himp; simp_all; done)) (by intro hcg; first | omega | (simp only [List.length_append, List.length_take, List.length_drop, List.length_cons, List.length_nil, pctOf_length]; omega))) | (show OpV _ _ _ _ (Oper.mk _ (Op.binOp BinOp.quo _ _ _ _) _ _ _ _) _ _; exact xo_quo rfl rfl) | (show OpV _ _ _ _ (Oper.mk _ (Op.binOp BinOp.rem _ _ _ _) _ _ _ _) _ _; exact xo_rem rfl rfl) | (show OpV _ _ _ _ (Oper.mk _ (Op.slice _ _ (some _) (some _) none) _ _ _ _) _ _; first | exact xo_slice rfl rfl rfl | exact xo_slcB rfl rfl rfl) | (show OpV _ _ _ _ (Oper.mk _ (Op.slice _ _ (some _) none none) _ _ _ _) _ _; first | exact xo_from rfl rfl | exact xo_slcFrom rfl rfl) | (show OpV _ _ _ _ (Oper.mk _ (Op.slice _ _ none (some _) none) _ _ _ _) _ _; first | exact xo_to rfl rfl | exact xo_slcTo rfl rfl) | (show OpV _ _ _ _ (Oper.mk _ (Op.slice _ _ none (some _) (some _)) _ _ _ _) _ _; exact xo_slc3 rfl rfl rfl)) ?_ | refine wd_v rfl rfl rfl rfl rfl rfl (by first  | fail) ?_ | refine wd_new rfl rfl rfl rfl rfl rfl steady_fresh (or_buildSlice rfl rfl (by first | exact (rfl : _ = some 1) | exact (rfl : _ = some 2) | exact (rfl : _ = some 3) | exact (rfl : _ = some 4) | exact (rfl : _ = some 6) | exact rfl) (fun _ => rfl) rfl rfl rfl (by simp only [cellsAll, Value.cells, List.size_toArray, List.length_cons, List.length_nil, Nat.zero_add, Nat.reduceAdd, and_self, if_true, true_and, Option.map_some, List.cons_append, List.nil_append]; first | done | rfl)) ?_ | refine wd_conv rfl rfl rfl rfl rfl rfl rfl rfl rfl rfl ?_) | (show WD _ _ _ _ _ _ _ _ _; first | refine wd_nil ?_ | refine wd_nilF ?_) | (first | refine wc_seq ?_ | refine wc_region ?_ | refine wl_nil ?_ | refine wn_seq ?_ | refine wn_blk ?_ | refine wc_skip ?_ | refine wc_block ?_ | refine wc_exit rfl ?_ | (show WL _ _ (_ :: _) _ _ _ _; first | refine wl_v rfl rfl rfl (by first | (show OpV _ _ _ _ (Oper.mk _ (Op.move _) _ _ _ _) _ _; exact xo_move rfl) | (show OpV _ _ _ _ (Oper.mk _ (Op.assign _) _ _ _ _) _ _; exact xo_assign rfl) | (show OpV _ _ _ _ (Oper.mk _ (Op.binOp BinOp.add _ _ _ _) _ _ _ _) _ _; first | exact xo_add rfl rfl | exact ov_sadd rfl rfl (by first | with_reducible exact fun _ => rfl | with_reducible exact fun h => h | exact fun _ => rfl | exact fun h => h | (intro himp; simp_all; done)) (by first | with_reducible exact fun _ => rfl | with_reducible exact fun h => h | exact fun _ => rfl | exact fun h => h | (intro himp; simp_all; done)) (by intro hcg; first | omega | (simp only [List.length_append, List.length_take, List.length_drop, List.length_cons, List.length_nil, pctOf_length]; omega))) | (show OpV _ _ _ _ (Oper.mk _ (Op.binOp BinOp.quo _ _ _ _) _ _ _ _) _ _; exact xo_quo rfl rfl) | (show OpV _ _ _ _ (Oper.mk _ (Op.binOp BinOp.rem _ _ _ _) _ _ _ _) _ _; exact xo_rem rfl rfl) | (show OpV _ _ _ _ (Oper.mk _ (Op.slice _ _ (some _) (some _) none) _ _ _ _) _ _; first | exact xo_slice rfl rfl rfl | exact xo_slcB rfl rfl rfl) | (show OpV _ _ _ _ (Oper.mk _ (Op.slice _ _ (some _) none none) _ _ _ _) _ _; first | exact xo_from rfl rfl | exact xo_slcFrom rfl rfl) | (show OpV _ _ _ _ (Oper.mk _ (Op.slice _ _ none (some _) none) _ _ _ _) _ _; first | exact xo_to rfl rfl | exact xo_slcTo rfl rfl) | (show OpV _ _ _ _ (Oper.mk _ (Op.slice _ _ none (some _) (some _)) _ _ _ _) _ _; exact xo_slc3 rfl rfl rfl)) ?_ | refine wl_v rfl rfl rfl (by first  | fail) ?_) | refine wc_ret rfl ?_))
  refine wr_tmp rfl rfl ?_
  exact congrArg _ (rpercent_all c)
theorem rencode_ok (hM : Laid M w) (s : List UInt8) (hs : s.length ≤ 1000000000) : Calls Tryd.prog 40 #[str s] w (RetE w (str (encode s))) := by
  refine calls_st (l := [str s]) hM Tryd.func40 rfl rfl rfl (E0 := [(0, true, str s)]) (params_cons rfl (params_nil _)) ?_
  repeat' (first | (first | refine wc_seq ?_ | refine wc_region ?_ | refine wl_nil ?_ | refine wn_seq ?_ | refine wn_blk ?_ | refine wc_skip ?_ | refine wc_block ?_ | refine wc_exit rfl ?_ | (show WL _ _ (_ :: _) _ _ _ _; first | refine wl_v rfl rfl rfl (by first | (show OpV _ _ _ _ (Oper.mk _ (Op.move _) _ _ _ _) _ _; exact xo_move rfl) | (show OpV _ _ _ _ (Oper.mk _ (Op.assign _) _ _ _ _) _ _; exact xo_assign rfl) | (show OpV _ _ _ _ (Oper.mk _ (Op.call ⟨.builtin .len, _, _⟩) _ _ _ _) _ _; first | exact xo_slen rfl | exact xo_len rfl) | (show OpV _ _ _ _ (Oper.mk _ (Op.binOp BinOp.lss _ _ _ _) _ _ _ _) _ _; exact xo_lss rfl rfl) | (show OpV _ _ _ _ (Oper.mk _ (Op.binOp BinOp.add _ _ _ _) _ _ _ _) _ _; first | exact xo_add rfl rfl | exact ov_sadd rfl rfl (by first | with_reducible exact fun _ => rfl | with_reducible exact fun h => h | exact fun _ => rfl | exact fun h => h | (intro himp; simp_all; done)) (by first | with_reducible exact fun _ => rfl | with_reducible exact fun h => h | exact fun _ => rfl | exact fun h => h | (intro himp; simp_all; done)) (by intro hcg; first | omega | (simp only [List.length_append, List.length_take, List.length_drop, List.length_cons, List.length_nil, pctOf_length]; omega))) | (show OpV _ _ _ _ (Oper.mk _ (Op.index _ _ _) _ _ _ _) _ _; exact xo_sindex rfl rfl) | (show OpV _ _ _ _ (Oper.mk _ (Op.slice _ _ (some _) (some _) none) _ _ _ _) _ _; first | exact xo_slice rfl rfl rfl | exact xo_slcB rfl rfl rfl) | (show OpV _ _ _ _ (Oper.mk _ (Op.slice _ _ (some _) none none) _ _ _ _) _ _; first | exact xo_from rfl rfl | exact xo_slcFrom rfl rfl) | (show OpV _ _ _ _ (Oper.mk _ (Op.slice _ _ none (some _) none) _ _ _ _) _ _; first | exact xo_to rfl rfl | exact xo_slcTo rfl rfl) | (show OpV _ _ _ _ (Oper.mk _ (Op.slice _ _ none (some _) (some _)) _ _ _ _) _ _; exact xo_slc3 rfl rfl rfl)) ?_ | refine wl_v rfl rfl rfl (by first  | fail) ?_) | refine wc_ret rfl ?_) | (show WC _ (Code.cond _ _ _) _ _ _ _; (refine wc_cond rfl (fun hc => ?_) (fun hc => ?_) <;> (try (simp only [decide_eq_true_eq, decide_eq_false_iff_not, Bool.and_eq_true, Bool.or_eq_true, Bool.and_eq_false_iff, Bool.or_eq_false_iff, Bool.not_eq_true', Bool.not_eq_false', Int.not_lt, Int.not_le] at hc)) <;> (try (exfalso; first | omega | contradiction)))))
  refine wc_loop (α := { i : Nat // i ≤ s.length }) (fun x => [(0, true, str s), (3, true, str (encode (s.take x.1))), (4, true, i64 (x.1 : Int))]) (fun _ => St w [] [] M) (fun x => s.length - x.1) ⟨0, by omega⟩ (by first | exact Sub.nil _ | (repeat (first | exact Sub.nil _ | refine Sub.cons (by first | rfl | (simp [look]; done)) ?_))) (fun _ h => h) ?_
  rintro ⟨i, hi⟩
  dsimp only
  have hle := (encode_length (s.take i)).2
  have hlt : (s.take i).length ≤ i := List.length_take_le _ _
  repeat' (first | (first | refine wc_seq ?_ | refine wc_region ?_ | refine wl_nil ?_ | refine wn_seq ?_ | refine wn_blk ?_ | refine wc_skip ?_ | refine wc_block ?_ | refine wc_exit rfl ?_ | (show WL _ _ (_ :: _) _ _ _ _; first | refine wl_v rfl rfl rfl (by first | (show OpV _ _ _ _ (Oper.mk _ (Op.move _) _ _ _ _) _ _; exact xo_move rfl) | (show OpV _ _ _ _ (Oper.mk _ (Op.assign _) _ _ _ _) _ _; exact xo_assign rfl) | (show OpV _ _ _ _ (Oper.mk _ (Op.call ⟨.builtin .len, _, _⟩) _ _ _ _) _ _; first | exact xo_slen rfl | exact xo_len rfl) | (show OpV _ _ _ _ (Oper.mk _ (Op.binOp BinOp.lss _ _ _ _) _ _ _ _) _ _; exact xo_lss rfl rfl) | (show OpV _ _ _ _ (Oper.mk _ (Op.binOp BinOp.add _ _ _ _) _ _ _ _) _ _; first | exact xo_add rfl rfl | exact ov_sadd rfl rfl (by first | with_reducible exact fun _ => rfl | with_reducible exact fun h => h | exact fun _ => rfl | exact fun h => h | (intro himp; simp_all; done)) (by first | with_reducible exact fun _ => rfl | with_reducible exact fun h => h | exact fun _ => rfl | exact fun h => h | (intro himp; simp_all; done)) (by intro hcg; first | omega | (simp only [List.length_append, List.length_take, List.length_drop, List.length_cons, List.length_nil, pctOf_length]; omega))) | (show OpV _ _ _ _ (Oper.mk _ (Op.index _ _ _) _ _ _ _) _ _; exact xo_sindex rfl rfl) | (show OpV _ _ _ _ (Oper.mk _ (Op.slice _ _ (some _) (some _) none) _ _ _ _) _ _; first | exact xo_slice rfl rfl rfl | exact xo_slcB rfl rfl rfl) | (show OpV _ _ _ _ (Oper.mk _ (Op.slice _ _ (some _) none none) _ _ _ _) _ _; first | exact xo_from rfl rfl | exact xo_slcFrom rfl rfl) | (show OpV _ _ _ _ (Oper.mk _ (Op.slice _ _ none (some _) none) _ _ _ _) _ _; first | exact xo_to rfl rfl | exact xo_slcTo rfl rfl) | (show OpV _ _ _ _ (Oper.mk _ (Op.slice _ _ none (some _) (some _)) _ _ _ _) _ _; exact xo_slc3 rfl rfl rfl)) ?_ | refine wl_v rfl rfl rfl (by first | ((show OpV _ _ _ _ (Oper.mk _ (Op.call ⟨.value (.func 54), _, _⟩) _ _ _ _) _ _; exact ov_call Tryd.call54 rfl (by intro himp; first | rfl | (simp_all; done)) (by rfl) (fun _ _ h k => h.ext k) (fun hcg w hw => rplain_ok hw.laid _))) | ((show OpV _ _ _ _ (Oper.mk _ (Op.call ⟨.value (.func 55), _, _⟩) _ _ _ _) _ _; exact ov_call Tryd.call55 rfl (by intro himp; first | rfl | (simp_all; done)) (by rfl) (fun _ _ h k => h.ext k) (fun hcg w hw => rpercent_ok hw.laid _))) | fail) ?_) | refine wc_ret rfl ?_) | (show WC _ (Code.cond _ _ _) _ _ _ _; (refine wc_cond rfl (fun hc => ?_) (fun hc => ?_) <;> (try (simp only [decide_eq_true_eq, decide_eq_false_iff_not, Bool.and_eq_true, Bool.or_eq_true, Bool.and_eq_false_iff, Bool.or_eq_false_iff, Bool.not_eq_true', Bool.not_eq_false', Int.not_lt, Int.not_le] at hc)) <;> (try (exfalso; first | omega | contradiction)))))
  · refine wn_cut ⟨i + 1, by omega⟩ (by show s.length - (i + 1) < s.length - i; omega) (Sub.cons rfl (Sub.cons ?_ (Sub.cons rfl (Sub.nil _)))) (fun _ h => h)
    simp only [look]
    rw [encode_succ (by omega), slice_one (by omega), enc1, if_pos hc]; rfl
  · refine wn_cut ⟨i + 1, by omega⟩ (by show s.length - (i + 1) < s.length - i; omega) (Sub.cons rfl (Sub.cons ?_ (Sub.cons rfl (Sub.nil _)))) (fun _ h => h)
    simp only [look]
    rw [encode_succ (by omega), enc1, if_neg (by rw [hc]; exact Bool.false_ne_true)]; rfl
  · refine wr_tmp rfl rfl ?_
    rw [List.take_of_length_le (by omega)]
theorem c37 {c : UInt8} : ((c.toNat : Int) = 37) ↔ c = 37 := u8_eq c 37 (by decide)
theorem c43 {c : UInt8} : ((c.toNat : Int) = 43) ↔ c = 43 := u8_eq c 43 (by decide)

theorem rdecode_ok (hM : Laid M w) (s : List UInt8) (plus : Bool) (hs : s.length ≤ 1000000000) : Calls Tryd.prog 58 #[str s, .bool plus] w (RetE w (resP (Pct.decode plus s))) := by
  refine calls_st (l := [str s, .bool plus]) hM Tryd.func58 rfl rfl rfl (E0 := [(0, true, str s), (1, true, .bool plus)]) (params_cons rfl (params_cons rfl (params_nil _))) ?_
  repeat' (first | (first | refine wc_seq ?_ | refine wc_region ?_ | refine wl_nil ?_ | refine wn_seq ?_ | refine wn_blk ?_ | refine wc_skip ?_ | refine wc_block ?_ | refine wc_exit rfl ?_ | (show WL _ _ (_ :: _) _ _ _ _; first | refine wl_v rfl rfl rfl (by first | (show OpV _ _ _ _ (Oper.mk _ (Op.move _) _ _ _ _) _ _; exact xo_move rfl) | (show OpV _ _ _ _ (Oper.mk _ (Op.assign _) _ _ _ _) _ _; exact xo_assign rfl) | (show OpV _ _ _ _ (Oper.mk _ (Op.pick _ _ _) _ _ _ _) _ _; first | exact xo_and rfl rfl | exact xo_or rfl rfl) | (show OpV _ _ _ _ (Oper.mk _ (Op.call ⟨.builtin .len, _, _⟩) _ _ _ _) _ _; first | exact xo_slen rfl | exact xo_len rfl) | (show OpV _ _ _ _ (Oper.mk _ (Op.binOp BinOp.eql _ _ _ _) _ _ _ _) _ _; first | exact xo_eql rfl rfl | exact xo_seql rfl rfl | exact xo_beql rfl rfl | exact xo_aeql rfl rfl) | (show OpV _ _ _ _ (Oper.mk _ (Op.binOp BinOp.lss _ _ _ _) _ _ _ _) _ _; exact xo_lss rfl rfl) | (show OpV _ _ _ _ (Oper.mk _ (Op.binOp BinOp.add _ _ _ _) _ _ _ _) _ _; first | exact xo_add rfl rfl | exact ov_sadd rfl rfl (by first | with_reducible exact fun _ => rfl | with_reducible exact fun h => h | exact fun _ => rfl | exact fun h => h | (intro himp; simp_all; done)) (by first | with_reducible exact fun _ => rfl | with_reducible exact fun h => h | exact fun _ => rfl | exact fun h => h | (intro himp; simp_all; done)) (by intro hcg; first | omega | (simp only [List.length_append, List.length_take, List.length_drop, List.length_cons, List.length_nil, pctOf_length]; omega))) | (show OpV _ _ _ _ (Oper.mk _ (Op.index _ _ _) _ _ _ _) _ _; exact xo_sindex rfl rfl) | (show OpV _ _ _ _ (Oper.mk _ (Op.slice _ _ (some _) (some _) none) _ _ _ _) _ _; first | exact xo_slice rfl rfl rfl | exact xo_slcB rfl rfl rfl) | (show OpV _ _ _ _ (Oper.mk _ (Op.slice _ _ (some _) none none) _ _ _ _) _ _; first | exact xo_from rfl rfl | exact xo_slcFrom rfl rfl) | (show OpV _ _ _ _ (Oper.mk _ (Op.slice _ _ none (some _) none) _ _ _ _) _ _; first | exact xo_to rfl rfl | exact xo_slcTo rfl rfl) | (show OpV _ _ _ _ (Oper.mk _ (Op.slice _ _ none (some _) (some _)) _ _ _ _) _ _; exact xo_slc3 rfl rfl rfl) | (show OpV _ _ _ _ (Oper.mk _ (Op.convert _ _ _) _ _ _ _) _ _; first | exact xo_conv rfl | exact xo_convBytes rfl)) ?_ | refine wl_v rfl rfl rfl (by first  | fail) ?_ | refine xl_buildSlice rfl (fun _ => ?_)) | refine wc_ret rfl ?_) | (show WC _ (Code.cond _ _ _) _ _ _ _; (refine wc_cond rfl (fun hc => ?_) (fun hc => ?_) <;> (try (simp only [decide_eq_true_eq, decide_eq_false_iff_not, Bool.and_eq_true, Bool.or_eq_true, Bool.and_eq_false_iff, Bool.or_eq_false_iff, Bool.not_eq_true', Bool.not_eq_false', Int.not_lt, Int.not_le] at hc)) <;> (try (exfalso; first | omega | contradiction)))))
  refine wc_loop (α := { x : Nat × List UInt8 // EachAt (byDec plus) s x.1 x.2 }) (fun x => [(0, true, str s), (1, true, .bool plus), (6, true, str x.1.2), (7, true, i64 (x.1.1 : Int))]) (fun _ => St w [] [] M) (fun x => s.length - x.1.1) ⟨(0, []), eachAt_start _ _⟩ (by first | exact Sub.nil _ | (repeat (first | exact Sub.nil _ | refine Sub.cons (by first | rfl | (simp [look]; done)) ?_))) (fun _ h => h) ?_
  rintro ⟨⟨i, out⟩, hx⟩
  dsimp only at hx ⊢
  have hi := hx.1
  have ho := hx.2.2
  have hb := toldI_bound s i
  repeat' (first | (first | refine wc_seq ?_ | refine wc_region ?_ | refine wl_nil ?_ | refine wn_seq ?_ | refine wn_blk ?_ | refine wc_skip ?_ | refine wc_block ?_ | refine wc_exit rfl ?_ | (show WL _ _ (_ :: _) _ _ _ _; first | refine wl_v rfl rfl rfl (by first | (show OpV _ _ _ _ (Oper.mk _ (Op.move _) _ _ _ _) _ _; exact xo_move rfl) | (show OpV _ _ _ _ (Oper.mk _ (Op.assign _) _ _ _ _) _ _; exact xo_assign rfl) | (show OpV _ _ _ _ (Oper.mk _ (Op.pick _ _ _) _ _ _ _) _ _; first | exact xo_and rfl rfl | exact xo_or rfl rfl) | (show OpV _ _ _ _ (Oper.mk _ (Op.call ⟨.builtin .len, _, _⟩) _ _ _ _) _ _; first | exact xo_slen rfl | exact xo_len rfl) | (show OpV _ _ _ _ (Oper.mk _ (Op.binOp BinOp.eql _ _ _ _) _ _ _ _) _ _; first | exact xo_eql rfl rfl | exact xo_seql rfl rfl | exact xo_beql rfl rfl | exact xo_aeql rfl rfl) | (show OpV _ _ _ _ (Oper.mk _ (Op.binOp BinOp.lss _ _ _ _) _ _ _ _) _ _; exact xo_lss rfl rfl) | (show OpV _ _ _ _ (Oper.mk _ (Op.binOp BinOp.add _ _ _ _) _ _ _ _) _ _; first | exact xo_add rfl rfl | exact ov_sadd rfl rfl (by first | with_reducible exact fun _ => rfl | with_reducible exact fun h => h | exact fun _ => rfl | exact fun h => h | (intro himp; simp_all; done)) (by first | with_reducible exact fun _ => rfl | with_reducible exact fun h => h | exact fun _ => rfl | exact fun h => h | (intro himp; simp_all; done)) (by intro hcg; first | omega | (simp only [List.length_append, List.length_take, List.length_drop, List.length_cons, List.length_nil, pctOf_length]; omega))) | (show OpV _ _ _ _ (Oper.mk _ (Op.index _ _ _) _ _ _ _) _ _; exact xo_sindex rfl rfl) | (show OpV _ _ _ _ (Oper.mk _ (Op.slice _ _ (some _) (some _) none) _ _ _ _) _ _; first | exact xo_slice rfl rfl rfl | exact xo_slcB rfl rfl rfl) | (show OpV _ _ _ _ (Oper.mk _ (Op.slice _ _ (some _) none none) _ _ _ _) _ _; first | exact xo_from rfl rfl | exact xo_slcFrom rfl rfl) | (show OpV _ _ _ _ (Oper.mk _ (Op.slice _ _ none (some _) none) _ _ _ _) _ _; first | exact xo_to rfl rfl | exact xo_slcTo rfl rfl) | (show OpV _ _ _ _ (Oper.mk _ (Op.slice _ _ none (some _) (some _)) _ _ _ _) _ _; exact xo_slc3 rfl rfl rfl) | (show OpV _ _ _ _ (Oper.mk _ (Op.convert _ _ _) _ _ _ _) _ _; first | exact xo_conv rfl | exact xo_convBytes rfl)) ?_ | refine wl_v rfl rfl rfl (by first | ((show OpV _ _ _ _ (Oper.mk _ (Op.call ⟨.value (.func 65), _, _⟩) _ _ _ _) _ _; exact ov_call Tryd.call65 rfl (by intro himp; first | rfl | (simp_all; done)) (by rfl) (fun _ _ h k => h.ext k) (fun hcg w hw => rtold_ok hw.laid _ _ hs (by omega)))) | fail) ?_ | refine xl_buildSlice rfl (fun _ => ?_)) | refine wc_ret rfl ?_) | (show WC _ (Code.cond _ _ _) _ _ _ _; (refine wc_cond rfl (fun hc => ?_) (fun hc => ?_) <;> (try (simp only [decide_eq_true_eq, decide_eq_false_iff_not, Bool.and_eq_true, Bool.or_eq_true, Bool.and_eq_false_iff, Bool.or_eq_false_iff, Bool.not_eq_true', Bool.not_eq_false', Int.not_lt, Int.not_le] at hc)) <;> (try (exfalso; first | omega | contradiction)))))
  · refine wr_tmp2 rfl rfl rfl ?_ ?_ <;> rw [Pct.decode, eachAt_bad hx (by omega) (c37.1 ‹_›) hc] <;> rfl
  · have h2 := eachAt_told hx (by omega) (c37.1 ‹_›) hc (fun d => by have := byDec_length plus d true; omega)
    have e : byDec plus (UInt8.ofNat (toldI s i).toNat) true = [UInt8.ofNat (toldI s i).toNat] := by unfold byDec; simp
    rw [e] at h2
    refine wn_cut ⟨(i + 3, _), h2⟩ (by show s.length - (i + 3) < s.length - i; omega) (by first | exact Sub.nil _ | (repeat (first | exact Sub.nil _ | refine Sub.cons (by first | rfl | (simp [look]; done)) ?_))) (fun _ h => h.drop (by repeat (first | exact List.Sublist.refl _ | apply List.Sublist.cons)))
  · have h2 := eachAt_plain hx (by omega) (fun h => absurd (c37.2 h) ‹_›) (byDec_length plus _ _)
    have e : byDec plus (s.getD i 0) false = [32] := by unfold byDec; rw [c43.1 hc.1, hc.2]; rfl
    rw [e] at h2
    refine wn_cut ⟨(i + 1, _), h2⟩ (by show s.length - (i + 1) < s.length - i; omega) (by first | exact Sub.nil _ | (repeat (first | exact Sub.nil _ | refine Sub.cons (by first | rfl | (simp [look]; done)) ?_))) (fun _ h => h.drop (by repeat (first | exact List.Sublist.refl _ | apply List.Sublist.cons)))
  · have h2 := eachAt_plain hx (by omega) (fun h => absurd (c37.2 h) ‹_›) (byDec_length plus _ _)
    have e : byDec plus (s.getD i 0) false = (s.drop i).take (i + 1 - i) := by
      rw [slice_one (by omega)]
      unfold byDec
      rcases hc with hc | hc
      · have : s.getD i 0 ≠ 43 := fun h => hc (c43.2 h)
        rw [if_neg (by rw [decide_eq_false this]; simp)]
      · rw [hc]; rfl
    rw [e] at h2
    refine wn_cut ⟨(i + 1, _), h2⟩ (by show s.length - (i + 1) < s.length - i; omega) (by first | exact Sub.nil _ | (repeat (first | exact Sub.nil _ | refine Sub.cons (by first | rfl | (simp [look]; done)) ?_))) (fun _ h => h.drop (by repeat (first | exact List.Sublist.refl _ | apply List.Sublist.cons)))
  · refine wr_tmp2 rfl rfl rfl ?_ ?_ <;> rw [Pct.decode, eachAt_end hx (by omega)] <;> rfl
theorem rplain_z (hM : Laid M w) (z : Int) (h0 : 0 ≤ z) (h1 : z ≤ 255) : Calls Tryd.prog 54 #[.int .u8 z] w (RetE w (.bool (plainB (UInt8.ofNat z.toNat)))) := by
  rw [u8_byt h0 h1]; exact rplain_ok hM _
theorem rpercent_z (hM : Laid M w) (z : Int) (h0 : 0 ≤ z) (h1 : z ≤ 255) : Calls Tryd.prog 55 #[.int .u8 z] w (RetE w (str (pctOf (UInt8.ofNat z.toNat)))) := by
  rw [u8_byt h0 h1]; exact rpercent_ok hM _
end Go.Proofs.YtjdmnanicaghkaaDoor
/-
  The contracts of package pct's functions on single bytes.
-/
namespace Go.Proofs.YtjdmnanicaghkaaDoor
open Go.Eng Go.Pct
set_option maxRecDepth 10000
set_option linter.unusedSimpArgs false
set_option linter.unusedVariables false

variable {M : Ghost} {w : World}

theorem percent_all (c : UInt8) : (highS.getD (c.toNat / 16) 0 = hexd (c.toNat / 16)) ∧ (bitI .and .u8 (c.toNat : Int) 15 = ((c.toNat % 16 : Nat) : Int)) := by
  revert c; apply all_bytes; decide +kernel
theorem digits_at {i : Nat} (h : i < 16) : (highS.map byt).toArray[0 + i * 1]? = some (byt (highS.getD i 0)) := by
  have hl : highS.length = 16 := rfl
  have : i < highS.length := by omega
  simp [this, List.getD_eq_getElem?_getD]
theorem ov_and15 {P : Program} {n : Nat} {E : Env} {C : World → Prop} {cg cx : Bool} {dst : Option Tmp} {ty tx tyy : TypeId} {pos : String} {af : Array Edge} {g : Option (Nat × Bool)} {x : Operand} {c : UInt8} (hx : ev E x = some (cx, byt c)) (h1 : Imp cg cx) :
    OpV P n E C ⟨dst, .binOp .and tx x (.const (.int .u8 15)) tyy, ty, pos, af, g⟩ cg (.int .u8 ((c.toNat % 16 : Nat) : Int)) := by
  rw [← (percent_all c).2]; exact ov_bits hx rfl h1 (fun _ => rfl) rfl
theorem highS_get (j : Nat) (hj : j < 16) : highS[j]? = some (highS.getD j 0) := by
  have : j < highS.length := hj
  simp [this]
theorem hdd_at {dcs : Array Value} (hdd : ∀ i, i < 16 → dcs[i]? = some (byt (highS.getD i 0))) (j : Nat) (hj : j < (highS.map byt).length) : dcs[0 + j]? = (highS.map byt)[j]? := by
  have h : j < 16 := hj
  rw [Nat.zero_add, hdd j h, List.getElem?_map, highS_get j h]; rfl
theorem pdigit_find (c : UInt8) : (∀ i, i < 16 → (if 97 ≤ c.toNat ∧ c.toNat ≤ 102 then UInt8.ofNat (c.toNat - 32) else c) = highS.getD i 0 → digv c = i) ∧ ((∀ i, i < 16 → ¬ (if 97 ≤ c.toNat ∧ c.toNat ≤ 102 then UInt8.ofNat (c.toNat - 32) else c) = highS.getD i 0) → digv c = -1) := by
  revert c; apply all_bytes; decide +kernel
theorem digits_get {i : Nat} (h : i < 16) : (highS.map byt).toArray[i]? = some (byt (highS.getD i 0)) := by
  have := digits_at h; simpa using this
theorem pdigit_ok (hG : Glob M) (hM : Laid M w) (c : UInt8) : Calls Tryd.prog 100 #[byt c] w (RetE w (i64 (digv c))) := by
  obtain ⟨dcs, T, fz, hdig, hdd⟩ := hG.digits
  refine calls_st (l := [byt c]) hM Tryd.func100 rfl rfl rfl (E0 := [(0, true, byt c)]) (params_cons rfl (params_nil _)) ?_
  have hc := u8_lt c
  repeat' (first | refine wc_seq ?_ | refine wc_region ?_ | refine wl_nil ?_ | refine wn_seq ?_ | refine wn_blk ?_ | refine wc_skip ?_ | refine wc_block ?_ | refine wc_exit rfl ?_ | (show WL _ _ (_ :: _) _ _ _ _; first | refine wl_v rfl rfl rfl (by first | (show OpV _ _ _ _ (Oper.mk _ (Op.move _) _ _ _ _) _ _; exact xo_move rfl) | (show OpV _ _ _ _ (Oper.mk _ (Op.assign _) _ _ _ _) _ _; exact xo_assign rfl) | (show OpV _ _ _ _ (Oper.mk _ (Op.pick _ _ _) _ _ _ _) _ _; first | exact xo_and rfl rfl | exact xo_or rfl rfl) | (show OpV _ _ _ _ (Oper.mk _ (Op.binOp BinOp.eql _ _ _ _) _ _ _ _) _ _; first | exact xo_eql rfl rfl | exact xo_seql rfl rfl | exact xo_beql rfl rfl | exact xo_aeql rfl rfl) | (show OpV _ _ _ _ (Oper.mk _ (Op.binOp BinOp.lss _ _ _ _) _ _ _ _) _ _; exact xo_lss rfl rfl) | (show OpV _ _ _ _ (Oper.mk _ (Op.binOp BinOp.leq _ _ _ _) _ _ _ _) _ _; exact xo_leq rfl rfl) | (show OpV _ _ _ _ (Oper.mk _ (Op.binOp BinOp.geq _ _ _ _) _ _ _ _) _ _; exact xo_geq rfl rfl) | (show OpV _ _ _ _ (Oper.mk _ (Op.binOp BinOp.add _ _ _ _) _ _ _ _) _ _; first | exact xo_add rfl rfl | exact ov_sadd rfl rfl (by first | with_reducible exact fun _ => rfl | with_reducible exact fun h => h | exact fun _ => rfl | exact fun h => h | (intro himp; simp_all; done)) (by first | with_reducible exact fun _ => rfl | with_reducible exact fun h => h | exact fun _ => rfl | exact fun h => h | (intro himp; simp_all; done)) (by intro hcg; first | omega | (simp only [List.length_append, List.length_take, List.length_drop, List.length_cons, List.length_nil, pctOf_length]; omega))) | (show OpV _ _ _ _ (Oper.mk _ (Op.binOp BinOp.sub _ _ _ _) _ _ _ _) _ _; exact xo_sub rfl rfl) | (show OpV _ _ _ _ (Oper.mk _ (Op.index _ _ _) _ _ _ _) _ _; exact xo_sindex rfl rfl) | (show OpV _ _ _ _ (Oper.mk _ (Op.load _ _) _ _ _ _) _ _; first | exact xo_load1 rfl | exact xo_loadS rfl)) ?_ | refine wl_v rfl rfl rfl (by first  | fail) ?_) | refine wc_ret rfl ?_)
  refine wc_split (α := Unit) (fun _ => [(0, true, byt (if 97 ≤ c.toNat ∧ c.toNat ≤ 102 then UInt8.ofNat (c.toNat - 32) else c))]) (fun _ => St w [] [] M) ?_ (fun _ => ?_)
  · repeat' (first | (first | refine wc_seq ?_ | refine wc_region ?_ | refine wl_nil ?_ | refine wn_seq ?_ | refine wn_blk ?_ | refine wc_skip ?_ | refine wc_block ?_ | refine wc_exit rfl ?_ | (show WL _ _ (_ :: _) _ _ _ _; first | refine wl_v rfl rfl rfl (by first | (show OpV _ _ _ _ (Oper.mk _ (Op.move _) _ _ _ _) _ _; exact xo_move rfl) | (show OpV _ _ _ _ (Oper.mk _ (Op.assign _) _ _ _ _) _ _; exact xo_assign rfl) | (show OpV _ _ _ _ (Oper.mk _ (Op.pick _ _ _) _ _ _ _) _ _; first | exact xo_and rfl rfl | exact xo_or rfl rfl) | (show OpV _ _ _ _ (Oper.mk _ (Op.binOp BinOp.eql _ _ _ _) _ _ _ _) _ _; first | exact xo_eql rfl rfl | exact xo_seql rfl rfl | exact xo_beql rfl rfl | exact xo_aeql rfl rfl) | (show OpV _ _ _ _ (Oper.mk _ (Op.binOp BinOp.lss _ _ _ _) _ _ _ _) _ _; exact xo_lss rfl rfl) | (show OpV _ _ _ _ (Oper.mk _ (Op.binOp BinOp.leq _ _ _ _) _ _ _ _) _ _; exact xo_leq rfl rfl) | (show OpV _ _ _ _ (Oper.mk _ (Op.binOp BinOp.geq _ _ _ _) _ _ _ _) _ _; exact xo_geq rfl rfl) | (show OpV _ _ _ _ (Oper.mk _ (Op.binOp BinOp.add _ _ _ _) _ _ _ _) _ _; first | exact xo_add rfl rfl | exact ov_sadd rfl rfl (by first | with_reducible exact fun _ => rfl | with_reducible exact fun h => h | exact fun _ => rfl | exact fun h => h | (intro himp; simp_all; done)) (by first | with_reducible exact fun _ => rfl | with_reducible exact fun h => h | exact fun _ => rfl | exact fun h => h | (intro himp; simp_all; done)) (by intro hcg; first | omega | (simp only [List.length_append, List.length_take, List.length_drop, List.length_cons, List.length_nil, pctOf_length]; omega))) | (show OpV _ _ _ _ (Oper.mk _ (Op.binOp BinOp.sub _ _ _ _) _ _ _ _) _ _; exact xo_sub rfl rfl) | (show OpV _ _ _ _ (Oper.mk _ (Op.index _ _ _) _ _ _ _) _ _; exact xo_sindex rfl rfl) | (show OpV _ _ _ _ (Oper.mk _ (Op.load _ _) _ _ _ _) _ _; first | exact xo_load1 rfl | exact xo_loadS rfl)) ?_ | refine wl_v rfl rfl rfl (by first  | fail) ?_) | refine wc_ret rfl ?_) | (show WC _ (Code.cond _ _ _) _ _ _ _; (refine wc_cond rfl (fun hc => ?_) (fun hc => ?_) <;> (try (simp only [decide_eq_true_eq, decide_eq_false_iff_not, Bool.and_eq_true, Bool.or_eq_true, Bool.and_eq_false_iff, Bool.or_eq_false_iff, Bool.not_eq_true', Bool.not_eq_false', Int.not_lt, Int.not_le] at hc)) <;> (try (exfalso; first | omega | contradiction)))))
    · refine wn_cut () trivial (Sub.cons ?_ (Sub.nil _)) (fun _ h => h.drop (by repeat (first | exact List.Sublist.refl _ | apply List.Sublist.cons)))
      rw [if_pos (by omega)]
      have : ((UInt8.ofNat (c.toNat - 32)).toNat : Int) = (c.toNat : Int) - 32 := by
        have := c.toNat_lt
        simp; omega
      exact congrArg (fun x : Int => some (true, Value.int .u8 x)) this.symm
    · refine wn_cut () trivial (Sub.cons ?_ (Sub.nil _)) (fun _ h => h.drop (by repeat (first | exact List.Sublist.refl _ | apply List.Sublist.cons)))
      rw [if_neg (by omega)]; rfl
  · generalize hd : (if 97 ≤ c.toNat ∧ c.toNat ≤ 102 then UInt8.ofNat (c.toNat - 32) else c) = d
    have hfind := pdigit_find c
    rw [hd] at hfind
    repeat' (first | (first | refine wc_seq ?_ | refine wc_region ?_ | refine wl_nil ?_ | refine wn_seq ?_ | refine wn_blk ?_ | refine wc_skip ?_ | refine wc_block ?_ | refine wc_exit rfl ?_ | (show WL _ _ (_ :: _) _ _ _ _; first | refine wl_v rfl rfl rfl (by first | (show OpV _ _ _ _ (Oper.mk _ (Op.move _) _ _ _ _) _ _; exact xo_move rfl) | (show OpV _ _ _ _ (Oper.mk _ (Op.assign _) _ _ _ _) _ _; exact xo_assign rfl) | (show OpV _ _ _ _ (Oper.mk _ (Op.pick _ _ _) _ _ _ _) _ _; first | exact xo_and rfl rfl | exact xo_or rfl rfl) | (show OpV _ _ _ _ (Oper.mk _ (Op.binOp BinOp.eql _ _ _ _) _ _ _ _) _ _; first | exact xo_eql rfl rfl | exact xo_seql rfl rfl | exact xo_beql rfl rfl | exact xo_aeql rfl rfl) | (show OpV _ _ _ _ (Oper.mk _ (Op.binOp BinOp.lss _ _ _ _) _ _ _ _) _ _; exact xo_lss rfl rfl) | (show OpV _ _ _ _ (Oper.mk _ (Op.binOp BinOp.leq _ _ _ _) _ _ _ _) _ _; exact xo_leq rfl rfl) | (show OpV _ _ _ _ (Oper.mk _ (Op.binOp BinOp.geq _ _ _ _) _ _ _ _) _ _; exact xo_geq rfl rfl) | (show OpV _ _ _ _ (Oper.mk _ (Op.binOp BinOp.add _ _ _ _) _ _ _ _) _ _; first | exact xo_add rfl rfl | exact ov_sadd rfl rfl (by first | with_reducible exact fun _ => rfl | with_reducible exact fun h => h | exact fun _ => rfl | exact fun h => h | (intro himp; simp_all; done)) (by first | with_reducible exact fun _ => rfl | with_reducible exact fun h => h | exact fun _ => rfl | exact fun h => h | (intro himp; simp_all; done)) (by intro hcg; first | omega | (simp only [List.length_append, List.length_take, List.length_drop, List.length_cons, List.length_nil, pctOf_length]; omega))) | (show OpV _ _ _ _ (Oper.mk _ (Op.binOp BinOp.sub _ _ _ _) _ _ _ _) _ _; exact xo_sub rfl rfl) | (show OpV _ _ _ _ (Oper.mk _ (Op.index _ _ _) _ _ _ _) _ _; exact xo_sindex rfl rfl) | (show OpV _ _ _ _ (Oper.mk _ (Op.load _ _) _ _ _ _) _ _; first | exact xo_load1 rfl | exact xo_loadS rfl)) ?_ | refine wl_v rfl rfl rfl (by first | (show OpV _ _ _ _ (Oper.mk _ (Op.load _ _) _ _ _ _) _ _; exact ov_loadAM (l := highS.map byt) rfl (by first | with_reducible exact fun _ => rfl | with_reducible exact fun h => h | exact fun _ => rfl | exact fun h => h | (intro himp; simp_all; done)) rfl rfl (fun _ => hdig) (fun _ j hj => hdd_at hdd j hj)) | fail) ?_) | refine wc_ret rfl ?_) | (show WC _ (Code.cond _ _ _) _ _ _ _; (refine wc_cond rfl (fun hc => ?_) (fun hc => ?_) <;> (try (simp only [decide_eq_true_eq, decide_eq_false_iff_not, Bool.and_eq_true, Bool.or_eq_true, Bool.and_eq_false_iff, Bool.or_eq_false_iff, Bool.not_eq_true', Bool.not_eq_false', Int.not_lt, Int.not_le] at hc)) <;> (try (exfalso; first | omega | contradiction)))))
    refine wc_loop (α := { i : Nat // i ≤ 16 ∧ ∀ j, j < i → ¬ d = highS.getD j 0 }) (fun x => [(0, true, byt d), (13, true, .agg (highS.map byt).toArray), (14, true, i64 (x.1 : Int))]) (fun _ => St w [] [] M) (fun x => 16 - x.1) ⟨0, by omega, by intro j hj; omega⟩ (by first | exact Sub.nil _ | (repeat (first | exact Sub.nil _ | refine Sub.cons (by first | rfl | (simp [look]; done)) ?_))) (fun _ h => h) ?_
    rintro ⟨i, hi, hno⟩
    dsimp only
    repeat' (first | (first | refine wc_seq ?_ | refine wc_region ?_ | refine wl_nil ?_ | refine wn_seq ?_ | refine wn_blk ?_ | refine wc_skip ?_ | refine wc_block ?_ | refine wc_exit rfl ?_ | (show WL _ _ (_ :: _) _ _ _ _; first | refine wl_v rfl rfl rfl (by first | (show OpV _ _ _ _ (Oper.mk _ (Op.move _) _ _ _ _) _ _; exact xo_move rfl) | (show OpV _ _ _ _ (Oper.mk _ (Op.assign _) _ _ _ _) _ _; exact xo_assign rfl) | (show OpV _ _ _ _ (Oper.mk _ (Op.pick _ _ _) _ _ _ _) _ _; first | exact xo_and rfl rfl | exact xo_or rfl rfl) | (show OpV _ _ _ _ (Oper.mk _ (Op.binOp BinOp.eql _ _ _ _) _ _ _ _) _ _; first | exact xo_eql rfl rfl | exact xo_seql rfl rfl | exact xo_beql rfl rfl | exact xo_aeql rfl rfl) | (show OpV _ _ _ _ (Oper.mk _ (Op.binOp BinOp.lss _ _ _ _) _ _ _ _) _ _; exact xo_lss rfl rfl) | (show OpV _ _ _ _ (Oper.mk _ (Op.binOp BinOp.leq _ _ _ _) _ _ _ _) _ _; exact xo_leq rfl rfl) | (show OpV _ _ _ _ (Oper.mk _ (Op.binOp BinOp.geq _ _ _ _) _ _ _ _) _ _; exact xo_geq rfl rfl) | (show OpV _ _ _ _ (Oper.mk _ (Op.binOp BinOp.add _ _ _ _) _ _ _ _) _ _; first | exact xo_add rfl rfl | exact ov_sadd rfl rfl (by first | with_reducible exact fun _ => rfl | with_reducible exact fun h => h | exact fun _ => rfl | exact fun h => h | (intro himp; simp_all; done)) (by first | with_reducible exact fun _ => rfl | with_reducible exact fun h => h | exact fun _ => rfl | exact fun h => h | (intro himp; simp_all; done)) (by intro hcg; first | omega | (simp only [List.length_append, List.length_take, List.length_drop, List.length_cons, List.length_nil, pctOf_length]; omega))) | (show OpV _ _ _ _ (Oper.mk _ (Op.binOp BinOp.sub _ _ _ _) _ _ _ _) _ _; exact xo_sub rfl rfl) | (show OpV _ _ _ _ (Oper.mk _ (Op.index _ _ _) _ _ _ _) _ _; exact xo_sindex rfl rfl) | (show OpV _ _ _ _ (Oper.mk _ (Op.load _ _) _ _ _ _) _ _; first | exact xo_load1 rfl | exact xo_loadS rfl)) ?_ | refine wl_v rfl rfl rfl (by first | (show OpV _ _ _ _ (Oper.mk _ (Op.index _ _ _) _ _ _ _) _ _; exact ov_aindex (v := byt (highS.getD i 0)) rfl rfl (by (fail_if_success (with_reducible show (987654321 : Int) = _)); repeat' (first | with_reducible exact nc_cast | with_reducible exact nc_lit | apply nc_add | apply nc_div | apply nc_mod | apply nc_mul | refine nc_sub (m := _) (n := _) nc_cast nc_lit (by omega) | refine nc_sub (m := _) (n := _) nc_cast nc_cast (by omega))) (by first | with_reducible exact fun _ => rfl | with_reducible exact fun h => h | exact fun _ => rfl | exact fun h => h | (intro himp; simp_all; done)) (by first | with_reducible exact fun _ => rfl | with_reducible exact fun h => h | exact fun _ => rfl | exact fun h => h | (intro himp; simp_all; done)) rfl (by first | exact (rfl : _ = some 1) | exact (rfl : _ = some 2) | exact (rfl : _ = some 3) | exact (rfl : _ = some 4) | exact (rfl : _ = some 6) | exact rfl) rfl rfl (by intro hcg; first | omega | (simp at hcg; omega)) (fun _ => digits_get (by omega))) | fail) ?_) | refine wc_ret rfl ?_) | (show WC _ (Code.cond _ _ _) _ _ _ _; (refine wc_cond rfl (fun hc => ?_) (fun hc => ?_) <;> (try (simp only [decide_eq_true_eq, decide_eq_false_iff_not, Bool.and_eq_true, Bool.or_eq_true, Bool.and_eq_false_iff, Bool.or_eq_false_iff, Bool.not_eq_true', Bool.not_eq_false', Int.not_lt, Int.not_le] at hc)) <;> (try (exfalso; first | omega | contradiction)))))
    · refine wr_tmp rfl rfl ?_
      rw [hfind.1 i (by omega) (UInt8.toNat_inj.mp (by omega))]
    · refine wn_cut ⟨i + 1, by omega, ?_⟩ (by show 16 - (i+1) < 16 - i; omega) (by first | exact Sub.nil _ | (repeat (first | exact Sub.nil _ | refine Sub.cons (by first | rfl | (simp [look]; done)) ?_))) (fun _ h => h.drop (by repeat (first | exact List.Sublist.refl _ | apply List.Sublist.cons)))
      intro j hj e
      by_cases h : j = i
      · subst h; exact hc (by rw [e])
      · exact hno j (by omega) e
    · refine wr_tmp rfl rfl ?_
      rw [hfind.2 (fun j hj => hno j (by omega))]
end Go.Proofs.YtjdmnanicaghkaaDoor
/-
  The contracts of package pct's function told and of its two function values, on bytes.
-/
namespace Go.Proofs.YtjdmnanicaghkaaDoor
open Go.Eng Go.Pct
set_option maxRecDepth 10000
set_option linter.unusedSimpArgs false
set_option linter.unusedVariables false

variable {M : Ghost} {w : World}

/-- the byte that two digits make -/
def tbZ (x y : Int) : Int := IntKind.u8.wrap (bitI .or .i64 (x * 2 ^ 4) (bitI .and .i64 y 15))
theorem tbZ_all : ∀ i j : Fin 17, 0 ≤ tbZ ((i.val : Int) - 1) ((j.val : Int) - 1) ∧ tbZ ((i.val : Int) - 1) ((j.val : Int) - 1) ≤ 255 ∧ (1 ≤ i.val → 1 ≤ j.val → tbZ ((i.val : Int) - 1) ((j.val : Int) - 1) = 16 * ((i.val : Int) - 1) + ((j.val : Int) - 1)) := by decide +kernel
theorem tbZ_spec {x y : Int} (hx : -1 ≤ x) (hx' : x ≤ 15) (hy : -1 ≤ y) (hy' : y ≤ 15) : 0 ≤ tbZ x y ∧ tbZ x y ≤ 255 ∧ (0 ≤ x → 0 ≤ y → tbZ x y = 16 * x + y) := by
  have h := tbZ_all ⟨(x + 1).toNat, by omega⟩ ⟨(y + 1).toNat, by omega⟩
  have e1 : (((x + 1).toNat : Nat) : Int) - 1 = x := by omega
  have e2 : (((y + 1).toNat : Nat) : Int) - 1 = y := by omega
  simp only [e1, e2] at h
  exact ⟨h.1, h.2.1, fun h1 h2 => h.2.2 (by omega) (by omega)⟩
/-- the byte that comes back of told -/
def toldB (s : List UInt8) (i : Nat) : UInt8 := if i + 2 < s.length then UInt8.ofNat (tbZ (digv (s.getD (i + 1) 0)) (digv (s.getD (i + 2) 0))).toNat else 0
theorem toldB_pos {s : List UInt8} {i : Nat} (h : 0 ≤ toldI s i) : toldB s i = UInt8.ofNat (toldI s i).toNat := by
  have hl := (told_pos h).1
  have h1 := digv_bound (s.getD (i + 1) 0)
  have h2 := digv_bound (s.getD (i + 2) 0)
  have h3 := tbZ_spec h1.1 h1.2 h2.1 h2.2
  have hd : 0 ≤ digv (s.getD (i + 1) 0) ∧ 0 ≤ digv (s.getD (i + 2) 0) := by
    rcases Decidable.em (digv (s.getD (i + 1) 0) < 0 ∨ digv (s.getD (i + 2) 0) < 0) with hn | hn
    · rw [toldI_no hl hn] at h; omega
    · omega
  rw [toldB, if_pos hl, h3.2.2 hd.1 hd.2, toldI_yes hl hd]
theorem toldI_dec {s : List UInt8} {i : Nat} (hl : i + 2 < s.length) : decide (0 ≤ toldI s i) = (decide (0 ≤ digv (s.getD (i + 1) 0)) && decide (0 ≤ digv (s.getD (i + 2) 0))) := by
  by_cases hd : 0 ≤ digv (s.getD (i + 1) 0) ∧ 0 ≤ digv (s.getD (i + 2) 0)
  · rw [toldI_yes hl hd, decide_eq_true hd.1, decide_eq_true hd.2, decide_eq_true (by omega)]; rfl
  · rw [toldI_no hl (by omega)]
    by_cases h1 : 0 ≤ digv (s.getD (i + 1) 0)
    · rw [decide_eq_false (p := 0 ≤ digv (s.getD (i + 2) 0)) (by omega), Bool.and_false]; rfl
    · rw [decide_eq_false h1, Bool.false_and]; rfl

theorem told_ok (hG : Glob M) (hM : Laid M w) (s : List UInt8) (i : Nat) (hs : s.length ≤ 1000000000) (hi : i ≤ s.length) : Calls Tryd.prog 94 #[str s, i64 (i : Int)] w (RetE w (.tuple #[byt (toldB s i), .bool (decide (0 ≤ toldI s i))])) := by
  refine calls_st (l := [str s, i64 (i : Int)]) hM Tryd.func94 rfl rfl rfl (E0 := [(0, true, str s), (1, true, i64 (i : Int))]) (params_cons rfl (params_cons rfl (params_nil _))) ?_
  have hb1 := digv_bound (s.getD (i + 1) 0)
  have hb2 := digv_bound (s.getD (i + 2) 0)
  repeat' (first | (first | refine wc_seq ?_ | refine wc_region ?_ | refine wl_nil ?_ | refine wn_seq ?_ | refine wn_blk ?_ | refine wc_skip ?_ | refine wc_block ?_ | refine wc_exit rfl ?_ | (show WL _ _ (_ :: _) _ _ _ _; first | refine wl_v rfl rfl rfl (by first | (show OpV _ _ _ _ (Oper.mk _ (Op.move _) _ _ _ _) _ _; exact xo_move rfl) | (show OpV _ _ _ _ (Oper.mk _ (Op.assign _) _ _ _ _) _ _; exact xo_assign rfl) | (show OpV _ _ _ _ (Oper.mk _ (Op.pick _ _ _) _ _ _ _) _ _; first | exact xo_and rfl rfl | exact xo_or rfl rfl) | (show OpV _ _ _ _ (Oper.mk _ (Op.call ⟨.builtin .len, _, _⟩) _ _ _ _) _ _; first | exact xo_slen rfl | exact xo_len rfl) | (show OpV _ _ _ _ (Oper.mk _ (Op.binOp BinOp.geq _ _ _ _) _ _ _ _) _ _; exact xo_geq rfl rfl) | (show OpV _ _ _ _ (Oper.mk _ (Op.binOp BinOp.add _ _ _ _) _ _ _ _) _ _; first | exact xo_add rfl rfl | exact ov_sadd rfl rfl (by first | with_reducible exact fun _ => rfl | with_reducible exact fun h => h | exact fun _ => rfl | exact fun h => h | (intro himp; simp_all; done)) (by first | with_reducible exact fun _ => rfl | with_reducible exact fun h => h | exact fun _ => rfl | exact fun h => h | (intro himp; simp_all; done)) (by intro hcg; first | omega | (simp only [List.length_append, List.length_take, List.length_drop, List.length_cons, List.length_nil, pctOf_length]; omega))) | (show OpV _ _ _ _ (Oper.mk _ (Op.index _ _ _) _ _ _ _) _ _; exact xo_sindex rfl rfl) | (show OpV _ _ _ _ (Oper.mk _ (Op.convert _ _ _) _ _ _ _) _ _; first | exact xo_conv rfl | exact xo_convBytes rfl)) ?_ | refine wl_v rfl rfl rfl (by first  | fail) ?_) | refine wc_ret rfl ?_) | (show WC _ (Code.cond _ _ _) _ _ _ _; (refine wc_cond rfl (fun hc => ?_) (fun hc => ?_) <;> (try (simp only [decide_eq_true_eq, decide_eq_false_iff_not, Bool.and_eq_true, Bool.or_eq_true, Bool.and_eq_false_iff, Bool.or_eq_false_iff, Bool.not_eq_true', Bool.not_eq_false', Int.not_lt, Int.not_le] at hc)) <;> (try (exfalso; first | omega | contradiction)))))
  · refine wr_tmp2 rfl rfl rfl ?_ ?_
    · rw [toldB, if_neg (by omega)]; rfl
    · rw [toldI_short (by omega)]; rfl
  · refine wc_weak (E' := [(0, true, str s), (1, true, i64 (i : Int))]) (by first | exact Sub.nil _ | (repeat (first | exact Sub.nil _ | refine Sub.cons (by first | rfl | (simp [look]; done)) ?_))) (fun _ h => h) ?_
    refine wc_draw 10 (by kernel_rfl) rfl (by kernel_rfl) (fun _ _ h k => h.ext k) ?_
    repeat' (first | (show WD _ _ (_ :: _) _ _ _ _ _ _; first | refine wd_v rfl rfl rfl rfl rfl rfl (by first | (show OpV _ _ _ _ (Oper.mk _ (Op.move _) _ _ _ _) _ _; exact xo_move rfl) | (show OpV _ _ _ _ (Oper.mk _ (Op.assign _) _ _ _ _) _ _; exact xo_assign rfl) | (show OpV _ _ _ _ (Oper.mk _ (Op.pick _ _ _) _ _ _ _) _ _; first | exact xo_and rfl rfl | exact xo_or rfl rfl) | (show OpV _ _ _ _ (Oper.mk _ (Op.call ⟨.builtin .len, _, _⟩) _ _ _ _) _ _; first | exact xo_slen rfl | exact xo_len rfl) | (show OpV _ _ _ _ (Oper.mk _ (Op.binOp BinOp.geq _ _ _ _) _ _ _ _) _ _; exact xo_geq rfl rfl) | (show OpV _ _ _ _ (Oper.mk _ (Op.binOp BinOp.add _ _ _ _) _ _ _ _) _ _; first | exact xo_add rfl rfl | exact ov_sadd rfl rfl (by first | with_reducible exact fun _ => rfl | with_reducible exact fun h => h | exact fun _ => rfl | exact fun h => h | (intro himp; simp_all; done)) (by first | with_reducible exact fun _ => rfl | with_reducible exact fun h => h | exact fun _ => rfl | exact fun h => h | (intro himp; simp_all; done)) (by intro hcg; first | omega | (simp only [List.length_append, List.length_take, List.length_drop, List.length_cons, List.length_nil, pctOf_length]; omega))) | (show OpV _ _ _ _ (Oper.mk _ (Op.index _ _ _) _ _ _ _) _ _; exact xo_sindex rfl rfl) | (show OpV _ _ _ _ (Oper.mk _ (Op.convert _ _ _) _ _ _ _) _ _; first | exact xo_conv rfl | exact xo_convBytes rfl)) ?_ | refine wd_v rfl rfl rfl rfl rfl rfl (by first | ((show OpV _ _ _ _ (Oper.mk _ (Op.call ⟨.value (.func 100), _, _⟩) _ _ _ _) _ _; exact ov_call Tryd.call100 rfl (by intro himp; first | rfl | (simp_all; done)) (by rfl) (fun _ _ h k => h.ext k) (fun hcg w hw => pdigit_ok hG hw.laid _))) | fail) ?_ | refine wd_new rfl rfl rfl rfl rfl rfl steady_fresh (or_buildSlice rfl rfl (by first | exact (rfl : _ = some 1) | exact (rfl : _ = some 2) | exact (rfl : _ = some 3) | exact (rfl : _ = some 4) | exact (rfl : _ = some 6) | exact rfl) (fun _ => rfl) rfl rfl rfl (by simp only [cellsAll, Value.cells, List.size_toArray, List.length_cons, List.length_nil, Nat.zero_add, Nat.reduceAdd, and_self, if_true, true_and, Option.map_some, List.cons_append, List.nil_append]; first | done | rfl)) ?_ | refine wd_conv rfl rfl rfl rfl rfl rfl rfl rfl rfl rfl ?_) | (show WD _ _ _ _ _ _ _ _ _; first | refine wd_nil ?_ | refine wd_nilF ?_) | (first | refine wc_seq ?_ | refine wc_region ?_ | refine wl_nil ?_ | refine wn_seq ?_ | refine wn_blk ?_ | refine wc_skip ?_ | refine wc_block ?_ | refine wc_exit rfl ?_ | (show WL _ _ (_ :: _) _ _ _ _; first | refine wl_v rfl rfl rfl (by first | (show OpV _ _ _ _ (Oper.mk _ (Op.move _) _ _ _ _) _ _; exact xo_move rfl) | (show OpV _ _ _ _ (Oper.mk _ (Op.assign _) _ _ _ _) _ _; exact xo_assign rfl) | (show OpV _ _ _ _ (Oper.mk _ (Op.pick _ _ _) _ _ _ _) _ _; first | exact xo_and rfl rfl | exact xo_or rfl rfl) | (show OpV _ _ _ _ (Oper.mk _ (Op.call ⟨.builtin .len, _, _⟩) _ _ _ _) _ _; first | exact xo_slen rfl | exact xo_len rfl) | (show OpV _ _ _ _ (Oper.mk _ (Op.binOp BinOp.geq _ _ _ _) _ _ _ _) _ _; exact xo_geq rfl rfl) | (show OpV _ _ _ _ (Oper.mk _ (Op.binOp BinOp.add _ _ _ _) _ _ _ _) _ _; first | exact xo_add rfl rfl | exact ov_sadd rfl rfl (by first | with_reducible exact fun _ => rfl | with_reducible exact fun h => h | exact fun _ => rfl | exact fun h => h | (intro himp; simp_all; done)) (by first | with_reducible exact fun _ => rfl | with_reducible exact fun h => h | exact fun _ => rfl | exact fun h => h | (intro himp; simp_all; done)) (by intro hcg; first | omega | (simp only [List.length_append, List.length_take, List.length_drop, List.length_cons, List.length_nil, pctOf_length]; omega))) | (show OpV _ _ _ _ (Oper.mk _ (Op.index _ _ _) _ _ _ _) _ _; exact xo_sindex rfl rfl) | (show OpV _ _ _ _ (Oper.mk _ (Op.convert _ _ _) _ _ _ _) _ _; first | exact xo_conv rfl | exact xo_convBytes rfl)) ?_ | refine wl_v rfl rfl rfl (by first | ((show OpV _ _ _ _ (Oper.mk _ (Op.call ⟨.value (.func 100), _, _⟩) _ _ _ _) _ _; exact ov_call Tryd.call100 rfl (by intro himp; first | rfl | (simp_all; done)) (by rfl) (fun _ _ h k => h.ext k) (fun hcg w hw => pdigit_ok hG hw.laid _))) | fail) ?_) | refine wc_ret rfl ?_))
    repeat' (first | refine wc_seq ?_ | refine wc_region ?_ | refine wl_nil ?_ | refine wn_seq ?_ | refine wn_blk ?_ | refine wc_skip ?_ | refine wc_block ?_ | refine wc_exit rfl ?_ | (show WL _ _ (_ :: _) _ _ _ _; first | refine wl_v rfl rfl rfl (by first | (show OpV _ _ _ _ (Oper.mk _ (Op.move _) _ _ _ _) _ _; exact xo_move rfl) | (show OpV _ _ _ _ (Oper.mk _ (Op.assign _) _ _ _ _) _ _; exact xo_assign rfl) | (show OpV _ _ _ _ (Oper.mk _ (Op.pick _ _ _) _ _ _ _) _ _; first | exact xo_and rfl rfl | exact xo_or rfl rfl) | (show OpV _ _ _ _ (Oper.mk _ (Op.call ⟨.builtin .len, _, _⟩) _ _ _ _) _ _; first | exact xo_slen rfl | exact xo_len rfl) | (show OpV _ _ _ _ (Oper.mk _ (Op.binOp BinOp.geq _ _ _ _) _ _ _ _) _ _; exact xo_geq rfl rfl) | (show OpV _ _ _ _ (Oper.mk _ (Op.binOp BinOp.add _ _ _ _) _ _ _ _) _ _; first | exact xo_add rfl rfl | exact ov_sadd rfl rfl (by first | with_reducible exact fun _ => rfl | with_reducible exact fun h => h | exact fun _ => rfl | exact fun h => h | (intro himp; simp_all; done)) (by first | with_reducible exact fun _ => rfl | with_reducible exact fun h => h | exact fun _ => rfl | exact fun h => h | (intro himp; simp_all; done)) (by intro hcg; first | omega | (simp only [List.length_append, List.length_take, List.length_drop, List.length_cons, List.length_nil, pctOf_length]; omega))) | (show OpV _ _ _ _ (Oper.mk _ (Op.index _ _ _) _ _ _ _) _ _; exact xo_sindex rfl rfl) | (show OpV _ _ _ _ (Oper.mk _ (Op.convert _ _ _) _ _ _ _) _ _; first | exact xo_conv rfl | exact xo_convBytes rfl)) ?_ | refine wl_v rfl rfl rfl (by first | (show OpV _ _ _ _ (Oper.mk _ (Op.binOp BinOp.shl _ _ _ _) _ _ _ _) _ _; exact ov_shl rfl rfl nc_lit (by first | with_reducible exact fun _ => rfl | with_reducible exact fun h => h | exact fun _ => rfl | exact fun h => h | (intro himp; simp_all; done)) (by first | with_reducible exact fun _ => rfl | with_reducible exact fun h => h | exact fun _ => rfl | exact fun h => h | (intro himp; simp_all; done)) rfl (by intro _; exact fits_i64 (by omega) (by omega))) | (show OpV _ _ _ _ (Oper.mk _ (Op.binOp BinOp.and _ _ _ _) _ _ _ _) _ _; exact ov_bits rfl rfl (by first | with_reducible exact fun _ => rfl | with_reducible exact fun h => h | exact fun _ => rfl | exact fun h => h | (intro himp; simp_all; done)) (by first | with_reducible exact fun _ => rfl | with_reducible exact fun h => h | exact fun _ => rfl | exact fun h => h | (intro himp; simp_all; done)) rfl) | (show OpV _ _ _ _ (Oper.mk _ (Op.binOp BinOp.or _ _ _ _) _ _ _ _) _ _; exact ov_bits rfl rfl (by first | with_reducible exact fun _ => rfl | with_reducible exact fun h => h | exact fun _ => rfl | exact fun h => h | (intro himp; simp_all; done)) (by first | with_reducible exact fun _ => rfl | with_reducible exact fun h => h | exact fun _ => rfl | exact fun h => h | (intro himp; simp_all; done)) rfl) | (show OpV _ _ _ _ (Oper.mk _ (Op.convert _ _ _) _ _ _ _) _ _; exact ov_convW rfl (by first | with_reducible exact fun _ => rfl | with_reducible exact fun h => h | exact fun _ => rfl | exact fun h => h | (intro himp; simp_all; done)) rfl rfl) | fail) ?_) | refine wc_ret rfl ?_)
    have h3 := tbZ_spec hb1.1 hb1.2 hb2.1 hb2.2
    refine wr_tmp2 rfl rfl rfl ?_ ?_
    · rw [toldB, if_pos (by omega)]
      exact u8_byt h3.1 h3.2.1
    · rw [toldI_dec (by omega)]
theorem ofNat_toNat (c : UInt8) : UInt8.ofNat ((c.toNat : Int)).toNat = c := by simp
/-- Decode's function value -/
theorem decFn_ok (hM : Laid M w) (plus : Bool) {b : Nat} {T : TypeId} {fz : Nat × Nat} (hb : M b (.cells #[.bool plus] T fz)) (c : UInt8) (pc : Bool) : Calls Tryd.prog 83 #[byt c, .bool pc, .pointer (some ⟨b, 0, none⟩)] w (RetE w (str (byDec plus c pc))) := by
  refine calls_st (l := [byt c, .bool pc, .pointer (some ⟨b, 0, none⟩)]) hM Tryd.func83 rfl rfl rfl (E0 := [(0, true, byt c), (1, true, .bool pc), (2, true, .pointer (some ⟨b, 0, none⟩))]) (params_cons rfl (params_cons rfl (params_cons rfl (params_nil _)))) ?_
  repeat' (first | (first | refine wc_seq ?_ | refine wc_region ?_ | refine wl_nil ?_ | refine wn_seq ?_ | refine wn_blk ?_ | refine wc_skip ?_ | refine wc_block ?_ | refine wc_exit rfl ?_ | (show WL _ _ (_ :: _) _ _ _ _; first | refine wl_v rfl rfl rfl (by first | (show OpV _ _ _ _ (Oper.mk _ (Op.move _) _ _ _ _) _ _; exact xo_move rfl) | (show OpV _ _ _ _ (Oper.mk _ (Op.assign _) _ _ _ _) _ _; exact xo_assign rfl) | (show OpV _ _ _ _ (Oper.mk _ (Op.pick _ _ _) _ _ _ _) _ _; first | exact xo_and rfl rfl | exact xo_or rfl rfl) | (show OpV _ _ _ _ (Oper.mk _ (Op.unOp _ _ _) _ _ _ _) _ _; exact xo_not rfl) | (show OpV _ _ _ _ (Oper.mk _ (Op.binOp BinOp.eql _ _ _ _) _ _ _ _) _ _; first | exact xo_eql rfl rfl | exact xo_seql rfl rfl | exact xo_beql rfl rfl | exact xo_aeql rfl rfl) | (show OpV _ _ _ _ (Oper.mk _ (Op.convert _ _ _) _ _ _ _) _ _; first | exact xo_conv rfl | exact xo_convBytes rfl) | (show OpV _ _ _ _ (Oper.mk _ (Op.load _ _) _ _ _ _) _ _; first | exact xo_load1 rfl | exact xo_loadS rfl)) ?_ | refine wl_v rfl rfl rfl (by first | (show OpV _ _ _ _ (Oper.mk _ (Op.load _ _) _ _ _ _) _ _; exact ov_load1M rfl (by first | with_reducible exact fun _ => rfl | with_reducible exact fun h => h | exact fun _ => rfl | exact fun h => h | (intro himp; simp_all; done)) rfl rfl (fun _ => hb) (fun _ => rfl)) | fail) ?_ | refine xl_buildSlice rfl (fun _ => ?_)) | refine wc_ret rfl ?_) | (show WC _ (Code.cond _ _ _) _ _ _ _; (refine wc_cond rfl (fun hc => ?_) (fun hc => ?_) <;> (try (simp only [decide_eq_true_eq, decide_eq_false_iff_not, Bool.and_eq_true, Bool.or_eq_true, Bool.and_eq_false_iff, Bool.or_eq_false_iff, Bool.not_eq_true', Bool.not_eq_false', Int.not_lt, Int.not_le] at hc)) <;> (try (exfalso; first | omega | contradiction)))))
  · refine wr_tmp rfl rfl ?_
    have : c = 43 := c43.1 hc.2
    subst this
    rw [byDec, hc.1.1, hc.1.2]; rfl
  · refine wr_tmp rfl rfl ?_
    rw [byDec, if_neg]
    · rw [ofNat_toNat]
    · intro h; simp at h; exact absurd (c43.2 h.2) (by simp_all)
end Go.Proofs.YtjdmnanicaghkaaDoor
/-
  The library's contracts of strings.Builder at this program, and a class of worlds in which the call has a builder.
-/
namespace Go.Proofs.YtjdmnanicaghkaaDoor
open Go.Eng Go.Shelf Go.RowKit
set_option maxRecDepth 10000

def bren166 : Go.Shelf.Ren := ⟨fun | 166 => 93 | 240 => 99 | 276 => 103 | n => n, fun | 0 => 0 | 3 => 3 | 4 => 4 | 9 => 9 | 20 => 20 | 37 => 82 | 70 => 104 | 72 => 106 | 75 => 108 | 164 => 121 | 5 => 5 | 80 => 113 | n => n, fun n => n⟩
theorem blays166 : Go.Proofs.Lays.n166 Tryd.prog bren166 := {
  mixed := by kernel_rfl
  f166 := Tryd.func93.trans (congrArg some (by kernel_rfl))
  f240 := Tryd.func99.trans (congrArg some (by kernel_rfl))
  f276 := Tryd.func103.trans (congrArg some (by kernel_rfl))
  t0 := Tryd.underlying0
  a0 := Tryd.isAgg0
  z0 := Tryd.sizeOf0
  v0 := Tryd.zeroValue0
  t3 := Tryd.underlying3
  a3 := Tryd.isAgg3
  z3 := Tryd.sizeOf3
  v3 := Tryd.zeroValue3
  t4 := Tryd.underlying4
  a4 := Tryd.isAgg4
  z4 := Tryd.sizeOf4
  v4 := Tryd.zeroValue4
  t9 := Tryd.underlying9
  a9 := Tryd.isAgg9
  z9 := Tryd.sizeOf9
  v9 := Tryd.zeroValue9
  t20 := Tryd.underlying20
  a20 := Tryd.isAgg20
  z20 := Tryd.sizeOf20
  v20 := Tryd.zeroValue20
  t37 := Tryd.underlying82
  a37 := Tryd.isAgg82
  z37 := Tryd.sizeOf82
  v37 := Tryd.zeroValue82
  t70 := Tryd.underlying104
  a70 := Tryd.isAgg104
  z70 := Tryd.sizeOf104
  v70 := Tryd.zeroValue104
  t72 := Tryd.underlying106
  a72 := Tryd.isAgg106
  z72 := Tryd.sizeOf106
  v72 := Tryd.zeroValue106
  t75 := Tryd.underlying108
  a75 := Tryd.isAgg108
  z75 := Tryd.sizeOf108
  v75 := Tryd.zeroValue108
  t164 := Tryd.underlying121
  a164 := Tryd.isAgg121
  z164 := Tryd.sizeOf121
  v164 := Tryd.zeroValue121 }
theorem bext166 : Builder.Extra Tryd.prog bren166 := {
  sizeBuilder := by kernel_rfl
  liesBuilder := by kernel_rfl
  t5 := Tryd.underlying5
  a5 := Tryd.isAgg5
  z5 := Tryd.sizeOf5
  v5 := Tryd.zeroValue5
  infoByte := by kernel_rfl
  cellsByte := by kernel_rfl
  sizeByte := by kernel_rfl
  neB5 := by decide }
def bren169 : Go.Shelf.Ren := ⟨fun | 169 => 95 | n => n, fun | 0 => 0 | 3 => 3 | 9 => 9 | 37 => 82 | 70 => 104 | 72 => 106 | 127 => 115 | 5 => 5 | n => n, fun n => n⟩
theorem blays169 : Go.Proofs.Lays.n169 Tryd.prog bren169 := {
  mixed := by kernel_rfl
  f169 := Tryd.func95.trans (congrArg some (by kernel_rfl))
  t0 := Tryd.underlying0
  a0 := Tryd.isAgg0
  z0 := Tryd.sizeOf0
  v0 := Tryd.zeroValue0
  t3 := Tryd.underlying3
  a3 := Tryd.isAgg3
  z3 := Tryd.sizeOf3
  v3 := Tryd.zeroValue3
  t9 := Tryd.underlying9
  a9 := Tryd.isAgg9
  z9 := Tryd.sizeOf9
  v9 := Tryd.zeroValue9
  t37 := Tryd.underlying82
  a37 := Tryd.isAgg82
  z37 := Tryd.sizeOf82
  v37 := Tryd.zeroValue82
  t70 := Tryd.underlying104
  a70 := Tryd.isAgg104
  z70 := Tryd.sizeOf104
  v70 := Tryd.zeroValue104
  t72 := Tryd.underlying106
  a72 := Tryd.isAgg106
  z72 := Tryd.sizeOf106
  v72 := Tryd.zeroValue106
  t127 := Tryd.underlying115
  a127 := Tryd.isAgg115
  z127 := Tryd.sizeOf115
  v127 := Tryd.zeroValue115 }
theorem bext169 : Builder.Extra Tryd.prog bren169 := {
  sizeBuilder := by kernel_rfl
  liesBuilder := by kernel_rfl
  t5 := Tryd.underlying5
  a5 := Tryd.isAgg5
  z5 := Tryd.sizeOf5
  v5 := Tryd.zeroValue5
  infoByte := by kernel_rfl
  cellsByte := by kernel_rfl
  sizeByte := by kernel_rfl
  neB5 := by decide }
abbrev tB : TypeId := 106
abbrev tY : TypeId := 5

/-- The state of a call that has a builder at block b, of these bytes. -/
structure SB (w0 : World) (H : List (Nat × Obj)) (M : Ghost) (b : Nat) (l : List UInt8) (w : World) : Prop where
  st : St w0 [] H M w
  bd : Lib.IsBuilderF tB tY w0.heap.size b (Lib.byteCells l) w
  ne : ∀ p ∈ H, p.1 ≠ b ∧ ∀ c fz, p.2 ≠ .cells c tY fz
  nm : ∀ k o, M k o → k < w0.heap.size ∨ (k ≠ b ∧ ∀ c fz, o ≠ .cells c tY fz)

section
variable {w0 w w' : World} {H : List (Nat × Obj)} {M : Ghost} {b : Nat} {l : List UInt8}
theorem SB.start {hw : ∀ k o, M k o → k < w0.heap.size} (h : St w0 [] ((b, .cells [.pointer none, .slice none 0 0].toArray tB (0, 0)) :: H) M w) (hH : ∀ p ∈ H, ∀ c fz, p.2 ≠ .cells c tY fz) : SB w0 H M b [] w := by
  have h0 := h.own (b, _) (List.Mem.head _)
  have hb := h.new (b, .cells [.pointer none, .slice none 0 0].toArray tB (0, 0)) (List.Mem.head _)
  have hn := h.nodup
  refine ⟨h.drop (List.Sublist.cons _ (List.Sublist.refl _)), .inl ⟨by simpa using hb, .slice none 0 0, h0, World.ownsRowF_nil _ _ _ _, by simp [Value.ownBlock]⟩, fun p hp => ⟨?_, hH p hp⟩, fun k o hm => .inl (hw k o hm)⟩
  intro e
  simp only [List.map_cons, List.nodup_cons] at hn
  exact hn.1 (List.mem_map.2 ⟨p, hp, e⟩)
theorem SB.ext (h : SB w0 H M b l w) (k : Ext w w') : SB w0 H M b l w' := by
  have hat : ∀ p, Lib.BuilderAtF tB tY w0.heap.size b p (Lib.byteCells l) w → Lib.BuilderAtF tB tY w0.heap.size b p (Lib.byteCells l) w' := by
    intro p hp
    have hlt := hp.lt
    obtain ⟨hB, v, hb, hown, hne⟩ := hp
    exact ⟨hB, v, by rw [k.block b hlt (by simp)]; exact hb, hown.kept (row := none) ⟨k.os, k.tape, k.output, k.size, fun j hj _ => k.block j hj (by simp)⟩ (by cases hv : v.ownBlock <;> simp), hne⟩
  exact ⟨h.st.ext k, h.bd.imp (hat _) (hat _), h.ne, h.nm⟩
theorem SB.step (h : SB w0 H M b l w) {l' : List UInt8} (hb : Below w0.heap.size w w') (ho : Lib.OthersKept tY (some b) w w') (hd : Lib.IsBuilderF tB tY w0.heap.size b (Lib.byteCells l') w') : SB w0 H M b l' w' := by
  refine ⟨⟨⟨hb.os.trans h.st.keep.os, hb.tape.trans h.st.keep.tape, hb.output.trans h.st.keep.output, Nat.le_trans h.st.keep.size hb.size, fun k hk hn => (hb.block k hk).trans (h.st.keep.block k hk hn)⟩, ?_, h.st.new, h.st.nodup, ?_, h.st.apart⟩, hd, h.ne, h.nm⟩
  · intro p hp
    have := h.ne p hp
    exact ho p.1 p.2 (h.st.own p hp) (by intro e; injection e with e; exact this.1 e) this.2
  · intro k o hm
    rcases h.nm k o hm with hk | hk
    · rw [hb.block k hk]; exact h.st.laid k o hm
    · exact ho k o (h.st.laid k o hm) (by intro e; injection e with e; exact hk.1 e) hk.2
theorem SB.size (h : SB w0 H M b l w) : w0.heap.size ≤ w.heap.size := h.st.keep.size
theorem byteCells_append (l m : List UInt8) : Lib.byteCells (l ++ m) = Lib.byteCells l ++ Lib.byteCells m := by simp [Lib.byteCells]
theorem strCells_byte (m : List UInt8) : Lib.strCells ⟨m.toArray⟩ = Lib.byteCells m := by simp [Lib.strCells, Lib.byteCells]
theorem bwString (h : SB w0 H M b l w) (s : List UInt8) (hl : l.length ≤ 100000000000000) (hs : s.length ≤ 10000000000000) : Calls Tryd.prog 93 #[.pointer (some ⟨b, 0, none⟩), str s] w (fun e w' => e = .returned (.tuple #[i64 (s.length : Int), .nilIface]) ∧ SB w0 H M b (l ++ s) w') := by
  refine (Any.Builder_WriteString_k blays166 bext166 w0.heap.size b (Lib.byteCells l) ⟨s.toArray⟩ w h.bd (by rw [Lib.byteCells_length]; simp [ByteArray.size]; omega) h.size).mono ?_
  rintro e w' ⟨rfl, h1, h2, h3⟩
  refine ⟨by simp [ByteArray.size, i64], h.step h2 h3 (.inr ?_)⟩
  rw [byteCells_append, ← strCells_byte s]; exact h1
theorem bsString (h : SB w0 H M b l w) : Calls Tryd.prog 95 #[.pointer (some ⟨b, 0, none⟩)] w (fun e w' => e = .returned (str l) ∧ SB w0 H M b l w') := by
  refine (Any.Builder_String_any_k blays169 bext169 w0.heap.size b l w h.bd h.size).mono ?_
  rintro e w' ⟨rfl, h1, h2, h3⟩
  exact ⟨rfl, h.step h2 h3 h1⟩
end

section
variable {P : Program} {n : Nat} {E : Env} {k : Kont} {ops : Array Oper} {rest : List Oper} {C C' : World → Prop}
variable {dst : Option Tmp} {ty : TypeId} {pos : String} {af : Array Edge} {g : Option (Nat × Bool)}
/-- A call that leads from one class of worlds to another. -/
theorem wl_callC {f : FuncId} {l : List Operand} {ats : Array TypeId} {vs : List (Bool × Value)} {args : Array Value} {d : Nat} {v : Value}
    (hg : gd ops E g = some true) (hf : ∀ args w, (callFunc f args).run P w = .ok (.enter f args) w) (hl : evg true E l = some vs) (hp : vs.all (·.1) = true) (hargs : vs.map (·.2) = args.toList) (hd : Nat.blt d n = true)
    (hc : ∀ w, C w → Calls P f args w (fun e w' => e = .returned v ∧ C' w'))
    (h : WL P ops rest n ((d, true, v) :: E) C' k) :
    WL P ops (⟨some d, .call ⟨.value (.func f), l.toArray, ats⟩, ty, pos, af, g⟩ :: rest) n E C k := by
  have hd : d < n := by simpa [Nat.blt_eq] using hd
  refine wl_op hg fun a w ha hw => ?_
  unfold Oper.wp
  rw [run_callf hf (args := args) (by rw [evg_eval ha hl (by simpa using hp), hargs]), Oper.upon_enter]
  refine (hc w hw).mono ?_
  rintro e w' ⟨rfl, hC⟩
  exact h.run _ w' (ha.put hd rfl) hC
end
end Go.Proofs.YtjdmnanicaghkaaDoor
/-
  The contracts of package pct's Encode, each, Decode and Normal.
-/
namespace Go.Proofs.YtjdmnanicaghkaaDoor
open Go.Eng Go.Pct
set_option maxRecDepth 10000
set_option linter.unusedSimpArgs false
set_option linter.unusedVariables false

variable {M : Ghost} {w : World}

theorem laid_lt (hM : Laid M w) : ∀ k o, M k o → k < w.heap.size := fun k o h => lt_of_get (hM k o h)

theorem each_ok (hG : Glob M) (hM : Laid M w) (s : List UInt8) (hs : s.length ≤ 1000000000) (by1 : UInt8 → Bool → List UInt8) (h1 : ∀ c, (by1 c false).length ≤ 1) (h2 : ∀ c, (by1 c true).length ≤ 3) (f : FuncId) (first captured : List Value) (hf : ∀ args w, (callFunc f args).run Tryd.prog w = .ok (.enter f args) w)
    (hby : ∀ c pc w, Laid M w → Calls Tryd.prog f (first ++ [byt c, .bool pc] ++ captured).toArray w (RetE w (str (by1 c pc)))) : Calls Tryd.prog 82 #[str s, .func (.func f) first.toArray captured.toArray] w (RetE w (resP (each by1 s))) := by
  refine calls_st (l := [str s, .func (.func f) first.toArray captured.toArray]) hM Tryd.func82 rfl rfl rfl (E0 := [(0, true, str s), (1, true, .func (.func f) first.toArray captured.toArray)]) (params_cons rfl (params_cons rfl (params_nil _))) ?_
  repeat' (first | (first | refine wc_seq ?_ | refine wc_region ?_ | refine wl_nil ?_ | refine wn_seq ?_ | refine wn_blk ?_ | refine wc_skip ?_ | refine wc_block ?_ | refine wc_exit rfl ?_ | (show WL _ _ (_ :: _) _ _ _ _; first | refine wl_v rfl rfl rfl (by first | (show OpV _ _ _ _ (Oper.mk _ (Op.move _) _ _ _ _) _ _; exact xo_move rfl) | (show OpV _ _ _ _ (Oper.mk _ (Op.assign _) _ _ _ _) _ _; exact xo_assign rfl) | (show OpV _ _ _ _ (Oper.mk _ (Op.extract _ _) _ _ _ _) _ _; exact xo_extract rfl) | (show OpV _ _ _ _ (Oper.mk _ (Op.call ⟨.builtin .len, _, _⟩) _ _ _ _) _ _; first | exact xo_slen rfl | exact xo_len rfl) | (show OpV _ _ _ _ (Oper.mk _ (Op.unOp _ _ _) _ _ _ _) _ _; exact xo_not rfl) | (show OpV _ _ _ _ (Oper.mk _ (Op.binOp BinOp.neq _ _ _ _) _ _ _ _) _ _; first | exact xo_neq rfl rfl | exact xo_sneq rfl rfl | exact xo_bneq rfl rfl | exact xo_aneq rfl rfl) | (show OpV _ _ _ _ (Oper.mk _ (Op.binOp BinOp.lss _ _ _ _) _ _ _ _) _ _; exact xo_lss rfl rfl) | (show OpV _ _ _ _ (Oper.mk _ (Op.binOp BinOp.add _ _ _ _) _ _ _ _) _ _; first | exact xo_add rfl rfl | exact ov_sadd rfl rfl (by first | with_reducible exact fun _ => rfl | with_reducible exact fun h => h | exact fun _ => rfl | exact fun h => h | (intro himp; simp_all; done)) (by first | with_reducible exact fun _ => rfl | with_reducible exact fun h => h | exact fun _ => rfl | exact fun h => h | (intro himp; simp_all; done)) (by intro hcg; first | omega | (simp only [List.length_append, List.length_take, List.length_drop, List.length_cons, List.length_nil, pctOf_length]; omega))) | (show OpV _ _ _ _ (Oper.mk _ (Op.index _ _ _) _ _ _ _) _ _; exact xo_sindex rfl rfl)) ?_ | refine wl_v rfl rfl rfl (by first  | fail) ?_ | refine xl_alloc (fun _ => ?_)) | refine wc_ret rfl ?_) | (show WC _ (Code.cond _ _ _) _ _ _ _; (refine wc_cond rfl (fun hc => ?_) (fun hc => ?_) <;> (try (simp only [decide_eq_true_eq, decide_eq_false_iff_not, Bool.and_eq_true, Bool.or_eq_true, Bool.and_eq_false_iff, Bool.or_eq_false_iff, Bool.not_eq_true', Bool.not_eq_false', Int.not_lt, Int.not_le] at hc)) <;> (try (exfalso; first | omega | contradiction)))))
  rename_i b
  refine wc_loop (α := { x : Nat × List UInt8 // EachAt by1 s x.1 x.2 }) (fun x => [(0, true, str s), (1, true, .func (.func f) first.toArray captured.toArray), (6, true, .pointer (some ⟨b, 0, none⟩)), (7, true, i64 (x.1.1 : Int))]) (fun x => SB w [] M b x.1.2) (fun x => s.length - x.1.1) ⟨(0, []), eachAt_start _ _⟩ (by first | exact Sub.nil _ | (repeat (first | exact Sub.nil _ | refine Sub.cons (by first | rfl | (simp [look]; done)) ?_))) (fun _ h => SB.start (hw := laid_lt hM) h (by simp)) ?_
  rintro ⟨⟨i, out⟩, hx⟩
  dsimp only at hx ⊢
  have hi := hx.1
  have ho := hx.2.2
  have hb := toldI_bound s i
  have g1 := h1 (s.getD i 0)
  have g2 := h2 (toldB s i)
  repeat' (first | (first | (show WL _ _ (Oper.mk _ (Op.call ⟨.value (.func 93), _, _⟩) _ _ _ _ :: _) _ _ _ _; refine wl_callC rfl Tryd.call93 rfl rfl rfl rfl (fun w hw => bwString hw _ (by first | omega | (simp only [List.length_append, List.length_take, List.length_drop, List.length_cons, List.length_nil, pctOf_length]; omega)) (by first | omega | (simp only [List.length_append, List.length_take, List.length_drop, List.length_cons, List.length_nil, pctOf_length]; omega))) ?_) | (show WL _ _ (Oper.mk _ (Op.call ⟨.value (.func 95), _, _⟩) _ _ _ _ :: _) _ _ _ _; refine wl_callC rfl Tryd.call95 rfl rfl rfl rfl (fun w hw => bsString hw) ?_) ) | (first | refine wc_seq ?_ | refine wc_region ?_ | refine wl_nil ?_ | refine wn_seq ?_ | refine wn_blk ?_ | refine wc_skip ?_ | refine wc_block ?_ | refine wc_exit rfl ?_ | (show WL _ _ (_ :: _) _ _ _ _; first | refine wl_v rfl rfl rfl (by first | (show OpV _ _ _ _ (Oper.mk _ (Op.move _) _ _ _ _) _ _; exact xo_move rfl) | (show OpV _ _ _ _ (Oper.mk _ (Op.assign _) _ _ _ _) _ _; exact xo_assign rfl) | (show OpV _ _ _ _ (Oper.mk _ (Op.extract _ _) _ _ _ _) _ _; exact xo_extract rfl) | (show OpV _ _ _ _ (Oper.mk _ (Op.call ⟨.builtin .len, _, _⟩) _ _ _ _) _ _; first | exact xo_slen rfl | exact xo_len rfl) | (show OpV _ _ _ _ (Oper.mk _ (Op.unOp _ _ _) _ _ _ _) _ _; exact xo_not rfl) | (show OpV _ _ _ _ (Oper.mk _ (Op.binOp BinOp.neq _ _ _ _) _ _ _ _) _ _; first | exact xo_neq rfl rfl | exact xo_sneq rfl rfl | exact xo_bneq rfl rfl | exact xo_aneq rfl rfl) | (show OpV _ _ _ _ (Oper.mk _ (Op.binOp BinOp.lss _ _ _ _) _ _ _ _) _ _; exact xo_lss rfl rfl) | (show OpV _ _ _ _ (Oper.mk _ (Op.binOp BinOp.add _ _ _ _) _ _ _ _) _ _; first | exact xo_add rfl rfl | exact ov_sadd rfl rfl (by first | with_reducible exact fun _ => rfl | with_reducible exact fun h => h | exact fun _ => rfl | exact fun h => h | (intro himp; simp_all; done)) (by first | with_reducible exact fun _ => rfl | with_reducible exact fun h => h | exact fun _ => rfl | exact fun h => h | (intro himp; simp_all; done)) (by intro hcg; first | omega | (simp only [List.length_append, List.length_take, List.length_drop, List.length_cons, List.length_nil, pctOf_length]; omega))) | (show OpV _ _ _ _ (Oper.mk _ (Op.index _ _ _) _ _ _ _) _ _; exact xo_sindex rfl rfl)) ?_ | refine wl_v rfl rfl rfl (by first | ((show OpV _ _ _ _ (Oper.mk _ (Op.call ⟨.value (.func 94), _, _⟩) _ _ _ _) _ _; exact ov_call Tryd.call94 rfl (by intro himp; first | rfl | (simp_all; done)) (by rfl) (fun _ _ h k => h.ext k) (fun hcg w hw => told_ok hG hw.st.laid _ _ hs (by omega)))) | (show OpV _ _ _ _ (Oper.mk _ (Op.call ⟨.value (.tmp _), _, _⟩) _ _ _ _) _ _; exact ov_callV (first := first) (captured := captured) rfl hf rfl (by intro himp; first | rfl | (simp_all; done)) (by rfl) (fun _ _ h k => h.ext k) (fun hcg w hw => hby _ _ w hw.st.laid)) | fail) ?_ | refine xl_alloc (fun _ => ?_)) | refine wc_ret rfl ?_) | (show WC _ (Code.cond _ _ _) _ _ _ _; (refine wc_cond rfl (fun hc => ?_) (fun hc => ?_) <;> (try (simp only [decide_eq_true_eq, decide_eq_false_iff_not, Bool.and_eq_true, Bool.or_eq_true, Bool.and_eq_false_iff, Bool.or_eq_false_iff, Bool.not_eq_true', Bool.not_eq_false', Int.not_lt, Int.not_le] at hc)) <;> (try (exfalso; first | omega | contradiction)))))
  · have h3 := eachAt_plain hx (by omega) (fun h => absurd (c37.2 h) ‹_›) (h1 _)
    refine wn_cut ⟨(i + 1, _), h3⟩ (by show s.length - (i + 1) < s.length - i; omega) (by first | exact Sub.nil _ | (repeat (first | exact Sub.nil _ | refine Sub.cons (by first | rfl | (simp [look]; done)) ?_))) (fun _ h => h)
  · refine wr_weak (fun _ h => h.st) (wr_tmp2 rfl rfl rfl ?_ ?_) <;> rw [eachAt_bad hx (by omega) (c37.1 ‹_›) hc] <;> rfl
  · have h3 := eachAt_told hx (by omega) (c37.1 ‹_›) hc h2
    rw [← toldB_pos hc] at h3
    refine wn_cut ⟨(i + 3, _), h3⟩ (by show s.length - (i + 3) < s.length - i; omega) (by first | exact Sub.nil _ | (repeat (first | exact Sub.nil _ | refine Sub.cons (by first | rfl | (simp [look]; done)) ?_))) (fun _ h => h)
  · refine wr_weak (fun _ h => h.st) (wr_tmp2 rfl rfl rfl ?_ ?_) <;> rw [eachAt_end hx (by omega)] <;> rfl
end Go.Proofs.YtjdmnanicaghkaaDoor
/-
  The contracts of package pct's Decode and Normal.
-/
namespace Go.Proofs.YtjdmnanicaghkaaDoor
open Go.Eng Go.Pct
set_option maxRecDepth 10000
set_option linter.unusedSimpArgs false
set_option linter.unusedVariables false

variable {M : Ghost} {w : World}

theorem decode_ok (hG : Glob M) (hM : Laid M w) (s : List UInt8) (plus : Bool) (hs : s.length ≤ 1000000000) : Calls Tryd.prog 64 #[str s, .bool plus] w (RetE w (resP (Pct.decode plus s))) := by
  refine calls_st (l := [str s, .bool plus]) hM Tryd.func64 rfl rfl rfl (E0 := [(0, true, str s), (1, true, .bool plus)]) (params_cons rfl (params_cons rfl (params_nil _))) ?_
  repeat' (first | refine wc_seq ?_ | refine wc_region ?_ | refine wl_nil ?_ | refine wn_seq ?_ | refine wn_blk ?_ | refine wc_skip ?_ | refine wc_block ?_ | refine wc_exit rfl ?_ | (show WL _ _ (_ :: _) _ _ _ _; first | refine wl_v rfl rfl rfl (by first | (show OpV _ _ _ _ (Oper.mk _ (Op.move _) _ _ _ _) _ _; exact xo_move rfl) | (show OpV _ _ _ _ (Oper.mk _ (Op.assign _) _ _ _ _) _ _; exact xo_assign rfl) | (show OpV _ _ _ _ (Oper.mk _ (Op.extract _ _) _ _ _ _) _ _; exact xo_extract rfl) | (show OpV _ _ _ _ (Oper.mk _ (Op.makeFunc _ _ _) _ _ _ _) _ _; exact ov_makeFunc rfl rfl)) ?_ | refine wl_v rfl rfl rfl (by first  | fail) ?_ | refine xl_box rfl (fun _ => ?_)) | refine wc_ret rfl ?_)
  rename_i b
  refine wl_weak (Eng.Sub.refl _) (fun _ h => St.publish (H1 := [(b, _)]) (H2 := []) h) ?_
  have hG' := hG.mono (M' := With M [(b, .cells [.bool plus].toArray 4 (0, 0))]) (fun _ _ => .inl)
  repeat' (first | refine wc_seq ?_ | refine wc_region ?_ | refine wl_nil ?_ | refine wn_seq ?_ | refine wn_blk ?_ | refine wc_skip ?_ | refine wc_block ?_ | refine wc_exit rfl ?_ | (show WL _ _ (_ :: _) _ _ _ _; first | refine wl_v rfl rfl rfl (by first | (show OpV _ _ _ _ (Oper.mk _ (Op.move _) _ _ _ _) _ _; exact xo_move rfl) | (show OpV _ _ _ _ (Oper.mk _ (Op.assign _) _ _ _ _) _ _; exact xo_assign rfl) | (show OpV _ _ _ _ (Oper.mk _ (Op.extract _ _) _ _ _ _) _ _; exact xo_extract rfl) | (show OpV _ _ _ _ (Oper.mk _ (Op.makeFunc _ _ _) _ _ _ _) _ _; exact ov_makeFunc rfl rfl)) ?_ | refine wl_v rfl rfl rfl (by first | ((show OpV _ _ _ _ (Oper.mk _ (Op.call ⟨.value (.func 82), _, _⟩) _ _ _ _) _ _; exact ov_call Tryd.call82 rfl (by intro himp; first | rfl | (simp_all; done)) (by rfl) (fun _ _ h k => h.ext k) (fun hcg w hw => each_ok hG' hw.laid s hs (byDec plus) (fun c => byDec_length plus c _) (fun c => by have := byDec_length plus c true; omega) 83 [] [.pointer (some ⟨b, 0, none⟩)] Tryd.call83 (fun c pc w hL => decFn_ok hL plus (.inr (List.Mem.head _)) c pc)))) | fail) ?_ | refine xl_box rfl (fun _ => ?_)) | refine wc_ret rfl ?_)
  exact wr_tmp2 rfl rfl rfl rfl rfl
end Go.Proofs.YtjdmnanicaghkaaDoor
/-
  What the library's Split, Cut and Join do, and the contract of package matricularef01's Cut.
-/
namespace Go.Proofs.YtjdmnanicaghkaaDoor
open Go.Eng Go.Pct Go.Txt
set_option maxRecDepth 10000
set_option linter.unusedSimpArgs false
set_option linter.unusedVariables false

variable {M : Ghost} {w : World}

theorem split_ok (hG : Glob M) (hM : Laid M w) (s : List UInt8) (c : UInt8) (hs : s.length ≤ 1000000000) : Calls Tryd.prog 48 #[str s, str [c]] w (RetS M w (fun M' H v => H = [] ∧ SlS M' v (pieces c s))) := by
  obtain ⟨m, hm⟩ := maxLen_at hG hM
  refine (Tryd.strings_Split ⟨s.toArray⟩ ⟨#[c]⟩ m w (by rw [baSize]; omega) hm (Nat.le_refl 1)).mono ?_
  rintro e w' ⟨rfl, rfl⟩
  rw [split_cells, split_count]
  have hst := (St.start hM).alloc (.cells ((pieces c s).map fun p => Value.string ⟨p.toArray⟩).toArray 9 (0, 0))
  refine ⟨_, [], With M [(w.heap.size, _)], rfl, fun _ _ => .inl, fun b o h => h.imp id (fun h => ?_), St.publish (H1 := [(w.heap.size, _)]) (H2 := []) hst, rfl, ?_⟩
  · simp only [List.mem_singleton, Prod.mk.injEq] at h; omega
  · refine ⟨_, _, rfl, Nat.le_refl _, by have := pieces_length c s; omega, fun _ => ⟨_, 0, _, _, _, rfl, .inr (List.Mem.head _), fun i hi => ⟨[str ((pieces c s)[i])], rfl, rfl, fun j hj => ?_⟩⟩⟩
    obtain rfl : j = 0 := by omega
    simp [hi]
theorem cut_ok (hG : Glob M) (hM : Laid M w) (s : List UInt8) (c : UInt8) (hs : s.length ≤ 1000000000) : Calls Tryd.prog 41 #[str s, str [c]] w (RetE w (.tuple #[str (s.take (idx c s)), str (s.drop (idx c s + 1)), .bool (decide (idx c s < s.length))])) := by
  obtain ⟨m, hm⟩ := maxLen_at hG hM
  refine (Tryd.strings_Cut ⟨s.toArray⟩ ⟨#[c]⟩ m w (by rw [baSize]; omega) hm).mono ?_
  rintro e w' ⟨rfl, n, rfl⟩
  refine ⟨?_, Ext.drew w n⟩
  have h := cut_idx s c
  have e1 : (⟨s.toArray⟩ : ByteArray).data.toList = s := rfl
  have e2 : (⟨#[c]⟩ : ByteArray).data.toList = [c] := rfl
  rw [e1, e2, h]
end Go.Proofs.YtjdmnanicaghkaaDoor
/-
  The engine at a region that draws its order and in which one operation turns a block that the others do not look at: told as in EngD, the worlds before and behind related by whatever relation serves. Nothing of the program stands here.
-/
namespace Go.Eng
open Go.RowKit
set_option linter.unusedVariables false

def SteadyX (X : World → World → Prop) (V : Tell) : Prop := ∀ u w w', X w w' → V u w → V u w'
theorem steadyX_exact (X : World → World → Prop) (c : Bool) (v : Value) : SteadyX X (exact1 c v) := fun _ _ _ _ h => h
section
variable {P : Program} {n : Nat} {E : Env} {C : World → Prop} {k : Kont} {ops : Array Oper} {X : World → World → Prop}
structure ObX (P : Program) (ops : Array Oper) (n : Nat) (C : World → Prop) (X : World → World → Prop) (o : Oper) (G : REnv) (V : Tell) : Prop where
  run : ∀ a w, C w → a.defers = [] → a.tmps.size = n → HR G (· ∈ o.looksAt ops) a w →
    (Region.wanted o (yielded ops a.tmps) = true → o.wp P a w (fun a' w' => ∃ v, a' = a.put o.dst v ∧ (o.dst = none → v = undef) ∧ V v w' ∧ X w w' ∧ C w') (fun _ _ _ => False)) ∧
    (Region.wanted o (yielded ops a.tmps) = false → V undef w)
def putG (o : Oper) (V : Tell) (G : REnv) : REnv := match o.dst with
  | some d => (d, V) :: G
  | none => G
def putQ (o : Oper) (V : Tell) (Q : World → Prop) : World → Prop := match o.dst with
  | some _ => Q
  | none => fun w => Q w ∧ V undef w
def WDsX (P : Program) (ops : Array Oper) (n : Nat) (C : World → Prop) (X : World → World → Prop) : List Oper → REnv → (World → Prop) → (REnv → (World → Prop) → Prop) → Prop
  | [], G, Q, fin => fin G Q
  | o :: rest, G, Q, fin => ∃ V, (∀ d, o.dst = some d → d < n) ∧ SteadyX X V ∧ ObX P ops n C X o G V ∧ WDsX P ops n C X rest (putG o V G) (putQ o V Q) fin

theorem wds_outX : ∀ (l : List Oper) (i : Nat) (G : REnv) (Q : World → Prop) (fin : REnv → (World → Prop) → Prop), (∀ j, j < l.length → ops[i + j]? = l[j]?) → WDsX P ops n C X l G Q fin →
    ∃ (Vs : Nat → Tell) (Q' : World → Prop), (∀ j, j < l.length → ∃ o, ops[i + j]? = some o ∧ (∀ d, o.dst = some d → d < n) ∧ SteadyX X (Vs j) ∧ ObX P ops n C X o (Gam (ops.extract i ops.size) Vs G j) (Vs j)) ∧ fin (Gam (ops.extract i ops.size) Vs G l.length) Q' ∧
      ∀ w, Q w → (∀ j o, j < l.length → ops[i + j]? = some o → o.dst = none → Vs j undef w) → Q' w
  | [], i, G, Q, fin, _, h => ⟨fun _ => fun _ _ => True, Q, by simp, h, fun _ hq _ => hq⟩
  | o :: rest, i, G, Q, fin, hl, h => by
    obtain ⟨V, hdn, hst, hob, hr⟩ := h
    have hoi : ops[i]? = some o := by simpa using hl 0 (by simp)
    obtain ⟨Vs, Q', h1, h2, h3⟩ := wds_outX rest (i + 1) (putG o V G) (putQ o V Q) fin (fun j hj => by have := hl (j + 1) (by simp; omega); simpa [Nat.add_assoc, Nat.add_comm 1 j] using this) hr
    have hilt : i < ops.size := by
      rcases Nat.lt_or_ge i ops.size with h' | h'
      · exact h'
      · simp [Array.getElem?_eq_none h'] at hoi
    have key : ∀ j, Gam (ops.extract i ops.size) (fun | 0 => V | q + 1 => Vs q) G (j + 1) = Gam (ops.extract (i + 1) ops.size) Vs (putG o V G) j := by
      intro j
      induction j with
      | zero =>
        have : (ops.extract i ops.size)[0]? = some o := by rw [Array.getElem?_extract, if_pos (by omega)]; simpa using hoi
        cases hd : o.dst <;> simp [Gam, this, putG, hd]
      | succ j ih =>
        have e : (ops.extract i ops.size)[j + 1]? = (ops.extract (i + 1) ops.size)[j]? := by
          simp only [Array.getElem?_extract]
          have : i + (j + 1) = i + 1 + j := by omega
          rw [this]
          by_cases h' : j < min ops.size ops.size - (i + 1)
          · rw [if_pos (by omega), if_pos h']
          · rw [if_neg (by omega), if_neg h']
        have hS : ∀ (q : Nat) (A : Array Oper) (W : Nat → Tell) (G : REnv), Gam A W G (q + 1) = match (A[q]?).bind (·.dst) with | some d => (d, W q) :: Gam A W G q | none => Gam A W G q := fun _ _ _ _ => rfl
        rw [hS (j + 1) (ops.extract i ops.size) _ G, hS j (ops.extract (i + 1) ops.size) Vs, e, ih]
    refine ⟨fun | 0 => V | q + 1 => Vs q, Q', ?_, ?_, ?_⟩
    · intro j hj
      cases j with
      | zero => exact ⟨o, by simpa using hoi, hdn, hst, hob⟩
      | succ j =>
        obtain ⟨o', ho', hdn', hst', hob'⟩ := h1 j (by simpa using hj)
        exact ⟨o', by rw [← ho']; congr 1; omega, hdn', hst', by rw [key]; exact hob'⟩
    · rw [List.length_cons, key]; exact h2
    · intro w hq hall
      refine h3 w ?_ (fun j p hj hp hd => ?_)
      · unfold putQ
        cases hd : o.dst with
        | some d => exact hq
        | none => exact ⟨hq, hall 0 o (by simp) (by simpa using hoi) hd⟩
      · exact hall (j + 1) p (by simpa using hj) (by rw [← hp]; congr 1; omega) hd

/-- The state in the midst of the first part. -/
structure MidX (ops : Array Oper) (n m : Nat) (C : World → Prop) (Vs : Nat → Tell) (G0 : REnv) (listed : Array Bool) (a : Act) (w : World) : Prop where
  closed : Closed ops listed
  inC : C w
  defers : a.defers = []
  size : a.tmps.size = n
  few : ∀ j, On listed j → j < m
  vals : ∀ j o d, On listed j → ops[j]? = some o → o.dst = some d → ∃ u, a.tmps[d]? = some u ∧ Vs j u w
  facts : ∀ j o, On listed j → ops[j]? = some o → o.dst = none → Vs j undef w
  base : ∀ s U, lookR G0 s = some U → (∀ j o, On listed j → ops[j]? = some o → o.dst ≠ some s) → ∃ u, a.tmps[s]? = some u ∧ U u w

theorem mid_allX {Q : Exit → Act → World → Prop} {m : Nat} {Vs : Nat → Tell} {G0 : REnv} (hord : orderly ops m = true) (hm : m ≤ ops.size) (hst0 : ∀ s U, lookR G0 s = some U → SteadyX X U) (hrefl : ∀ w, X w w)
    (hV : ∀ j, j < m → ∃ o, ops[j]? = some o ∧ (∀ d, o.dst = some d → d < n) ∧ SteadyX X (Vs j) ∧ ObX P ops n C X o (Gam ops Vs G0 j) (Vs j))
    (hfin : ∀ a w, C w → HA n (Gam ops Vs G0 m) a w → (∀ j o, j < m → ops[j]? = some o → o.dst = none → Vs j undef w) → wpList P ops Q (ops.toList.drop m) a w) :
    ∀ (fuel : Nat) (listed : Array Bool) (a : Act) (w : World), left listed = fuel → MidX ops n m C Vs G0 listed a w → wpAny P .any ops Q fuel listed a w := by
  -- all of the prefix is done
  have done : ∀ (fuel : Nat) (listed : Array Bool) (a : Act) (w : World), left listed = fuel → MidX ops n m C Vs G0 listed a w → (∀ j, j < m → On listed j) → wpAny P .any ops Q fuel listed a w := by
    intro fuel listed a w hf hmid hall
    have hon : ∀ j, On listed j ↔ j < m := fun j => ⟨hmid.few j, hall j⟩
    have hlen : left listed = (ops.toList.drop m).length := by
      have : listed = Array.ofFn (n := ops.size) (fun i => decide (i.val < m)) := by
        apply Array.ext
        · simp [hmid.closed.size]
        · intro i h1 h2
          have := hon i
          simp [On, h1] at this
          simp
          cases hb : listed[i] with
          | true => simp [← this, hb]
          | false => simp [hb] at this; simp; omega
      have hc : ∀ (q : Nat), (List.ofFn (n := q) (fun i => decide (i.val < m))).countP (fun b => !b) = q - m := by
        intro q
        induction q with
        | zero => simp
        | succ q ih =>
          rw [List.ofFn_succ_last]
          simp only [List.countP_append, Fin.val_castSucc] 
          rw [ih]
          by_cases h' : q < m
          · simp [h']; omega
          · simp [h']; omega
      unfold left
      rw [this, Array.toList_ofFn, hc]
      simp
    rw [← hf, hlen]
    refine tail_any hord (ops.toList.drop m) m listed a w (Nat.le_refl _) (by simp; omega) (fun j hj => by simp) hmid.closed.size hon (hfin a w hmid.inC ⟨hmid.defers, hmid.size, ?_⟩ (fun j o hj ho hd => hmid.facts j o (hall j hj) ho hd))
    intro s U hs _
    rcases look_gam hs with ⟨j, o, hj, ho, hd, rfl⟩ | ⟨h0, hn⟩
    · exact hmid.vals j o s (hall j hj) ho hd
    · exact hmid.base s U h0 (fun j o hj ho => hn j o ((hon j).1 hj) ho)
  intro fuel
  induction fuel with
  | zero =>
    intro listed a w hf hmid
    exact done 0 listed a w hf hmid (fun j hj => left_zero hf (by rw [hmid.closed.size]; omega))
  | succ fuel ih =>
    intro listed a w hf hmid
    by_cases hall : ∀ j, j < m → On listed j
    · exact done _ listed a w hf hmid hall
    have hready : ∃ i o, i < m ∧ ops[i]? = some o ∧ ¬ On listed i ∧ ∀ l ∈ edges o, On listed l := by
      have : ∃ i, i < m ∧ ¬ On listed i := by
        rcases Classical.em (∃ i, i < m ∧ ¬ On listed i) with h' | h'
        · exact h'
        · exact absurd (fun j hj => Classical.byContradiction fun hn => h' ⟨j, hj, hn⟩) hall
      obtain ⟨i, ⟨hi, hni⟩, hleast⟩ := exists_least this
      have hilt : i < ops.size := by omega
      refine ⟨i, ops[i], hi, by simp [hilt], hni, fun l hl => ?_⟩
      have hli := (orderly_at hord (i := i) (o := ops[i]) (by simp [hilt])).1 l hl
      exact Classical.byContradiction fun hn => by have := hleast l ⟨by omega, hn⟩; omega
    refine ⟨fun h0 => ?_, fun i hi => ?_⟩
    · obtain ⟨i, o, him, ho, hno, hr⟩ := hready
      have : i ∈ Region.ready .any ops listed := (ready_iff hmid.closed.size).2 ⟨o, ho, hno, hr⟩
      rw [h0] at this; cases this
    · obtain ⟨o, ho, hno, hr⟩ := (ready_iff hmid.closed.size).1 hi
      have hord1 := orderly_at hord ho
      have him : i < m := by
        rcases Nat.lt_or_ge i m with h' | h'
        · exact h'
        · obtain ⟨q, p, hqm, hp, hnq, _⟩ := hready
          exact absurd (anc_on hmid.closed (i + 1) i o ho hr q (hord1.2.2.2 h' q (by omega))) hnq
      obtain ⟨o', ho', hdn, hst, hob⟩ := hV i him
      obtain rfl : o = o' := by rw [ho] at ho'; simpa using ho'
      have hilt : i < listed.size := by rw [hmid.closed.size]; omega
      have hHR : HR (Gam ops Vs G0 i) (· ∈ o.looksAt ops) a w := by
        intro s U hs hlook
        rcases look_gam hs with ⟨j, p, hj, hp, hd', rfl⟩ | ⟨h0, hn⟩
        · have := ((hord1.2.2.1 j p s hp (by omega) hd').2 hlook)
          rw [if_pos hj] at this
          exact hmid.vals j p s (hr j this) hp hd'
        · refine hmid.base s U h0 (fun j p hj hp hs' => ?_)
          by_cases hji : j < i
          · exact hn j p hji hp hs'
          · have hne : j ≠ i := fun e => hno (e ▸ hj)
            have := ((hord1.2.2.1 j p s hp hne hs').2 hlook)
            rw [if_neg hji] at this
            exact hno (hmid.closed.back j p hp hj i this)
      have hnext : ∀ v w', (o.dst = none → v = undef) → Vs i v w' → X w w' → C w' → wpAny P .any ops Q fuel (listed.setIfInBounds i true) (a.put o.dst v) w' := by
        intro v w' hun hv hx hC'
        have hsz : (a.put o.dst v).tmps.size = n := by
          cases hd : o.dst <;> simp [Act.put, hmid.size]
        have hdf : (a.put o.dst v).defers = [] := by
          cases hd : o.dst <;> simp [Act.put, hmid.defers]
        have hoth : ∀ s, o.dst ≠ some s → (a.put o.dst v).tmps[s]? = a.tmps[s]? := by
          intro s hs
          cases hd : o.dst with
          | none => simp [Act.put]
          | some d =>
            have hne : d ≠ s := fun e => hs (by rw [hd, e])
            simp only [Act.put]; rw [Array.getElem?_setIfInBounds_ne hne]
        refine ih _ _ _ (by have := left_set hilt hno; omega) ⟨⟨by simpa using hmid.closed.size, ?_⟩, hC', hdf, hsz, ?_, ?_, ?_, ?_⟩
        · intro q p hp hq j hj
          rw [on_set hilt] at hq ⊢
          rcases hq with rfl | hq
          · rw [ho] at hp; obtain rfl : o = p := by simpa using hp
            exact .inr (hr j hj)
          · exact .inr (hmid.closed.back q p hp hq j hj)
        · intro j hj
          rw [on_set hilt] at hj
          rcases hj with rfl | hj
          · exact him
          · exact hmid.few j hj
        · intro j p d' hj hp hd'
          rw [on_set hilt] at hj
          by_cases e : j = i
          · subst e; rw [ho] at hp; obtain rfl : o = p := by simpa using hp
            have hdn' := hdn d' hd'
            exact ⟨v, by rw [hd']; simp [Act.put, hmid.size, hdn'], hv⟩
          · have hj : On listed j := hj.resolve_left e
            obtain ⟨u, hu, hVu⟩ := hmid.vals j p d' hj hp hd'
            have hne := (hord1.2.2.1 j p d' hp e hd').1
            obtain ⟨o2, ho2, _, hst2, _⟩ := hV j (hmid.few j hj)
            exact ⟨u, by rw [hoth d' hne]; exact hu, hst2 _ _ _ hx hVu⟩
        · intro j p hj hp hd'
          rw [on_set hilt] at hj
          by_cases e : j = i
          · subst e; rw [ho] at hp; obtain rfl : o = p := by simpa using hp
            rw [← hun hd']; exact hv
          · have hj : On listed j := hj.resolve_left e
            obtain ⟨o2, ho2, _, hst2, _⟩ := hV j (hmid.few j hj)
            exact hst2 _ _ _ hx (hmid.facts j p hj hp hd')
        · intro s U hs hn
          have hne : o.dst ≠ some s := hn i o (by rw [on_set hilt]; exact .inl rfl) ho
          obtain ⟨u, hu, hU⟩ := hmid.base s U hs (fun j p hj hp => hn j p (by rw [on_set hilt]; exact .inr hj) hp)
          exact ⟨u, by rw [hoth s hne]; exact hu, hst0 s U hs _ _ _ hx hU⟩
      obtain ⟨h1, h2⟩ := hob.run a w hmid.inC hmid.defers hmid.size hHR
      unfold wpOp
      simp only [ho]
      split
      · rename_i hw
        refine .inl ?_
        have := h1 hw
        unfold Oper.wp at this ⊢
        generalize (execOp a.eval o).run P w = r at *
        cases r with
        | ok nx w1 =>
          cases nx <;> simp only [Oper.upon] at this ⊢
          case value u => obtain ⟨v, e, hun, h3, h4, h5⟩ := this; rw [e]; exact hnext v _ hun h3 h4 h5
          case skip => obtain ⟨v, e, hun, h3, h4, h5⟩ := this; rw [e]; exact hnext v _ hun h3 h4 h5
          case defer => obtain ⟨v, e, hun, h3, h4, h5⟩ := this; rw [e]; exact hnext v _ hun h3 h4 h5
          case enter f args =>
            refine this.mono fun e w2 he => ?_
            cases e with
            | returned u => obtain ⟨v, e, hun, h3, h4, h5⟩ := he; show wpAny P .any ops Q fuel _ (a.put o.dst u) w2; rw [e]; exact hnext v _ hun h3 h4 h5
            | panicked c => exact he.elim
            | outgrown => obtain ⟨_, _, h⟩ := he; exact h.elim
          case row row args => refine this.mono fun u w2 he => ?_; obtain ⟨v, e, hun, h3, h4, h5⟩ := he; rw [e]; exact hnext v _ hun h3 h4 h5
        | halt x w1 => cases x <;> simp only [Oper.upon] at this
      · rename_i hw
        have hw' : Region.wanted o (yielded ops a.tmps) = false := by simpa using hw
        exact hnext undef w (fun _ => rfl) (h2 hw') (hrefl _) hmid.inC


/-- The told part (exact entries only), the facts that its writers leave; what is left is walked in the order of the text. -/
structure WX (P : Program) (ops : Array Oper) (l : List Oper) (n : Nat) (E : Env) (C : World → Prop) (X : World → World → Prop) (Q : World → Prop) (tail : List Oper) (k : Kont) : Prop where
  run : ∀ G, (∀ s, lookR G s = (look E s).map fun cv => exact1 cv.1 cv.2) → WDsX P ops n C X l G Q (fun G' Q' => ∀ a w, C w → Q' w → HA n G' a w → wpList P ops (k.post P) tail a w)
theorem wc_drawX {id : Nat} {l : List Oper} (m : Nat) (X : World → World → Prop) (C' : World → Prop) (hm : P.follows .mixedOrders = true) (hml : Nat.ble m l.length = true) (hord : orderly l.toArray m = true) (hrefl : ∀ w, X w w) (hC : ∀ w, C w → C' w.drew)
    (h : WX P l.toArray (l.take m) n E C' X (fun _ => True) (l.drop m) k) : WC P (.region id l.toArray true) n E C k := by
  have hml : m ≤ l.length := Nat.le_of_ble_eq_true hml
  refine ⟨fun a w ha hw => wp_region_any hm ?_⟩
  have h := h.run (ofEnv E) (by intro s; rw [lookR_ofEnv])
  obtain ⟨Vs, Q', hV, hfin, hQ⟩ := wds_outX (ops := l.toArray) (l.take m) 0 _ _ _ (by intro j hj; simp at hj; simp [hj]) h
  have hex : l.toArray.extract 0 l.toArray.size = l.toArray := by simp
  rw [hex] at hV hfin
  have hlen : (l.take m).length = m := by simp; omega
  rw [hlen] at hV hfin hQ
  refine mid_allX (m := m) (C := C') (X := X) (G0 := ofEnv E) hord (by simpa using hml) ?_ hrefl (fun j hj => ?_) (fun a w hCw hA hf => by simpa using hfin a w hCw (hQ w trivial (fun j o hj ho hd => hf j o hj (by simpa using ho) hd)) hA) _ _ a _ (start_left _) ?_
  · intro s U hs
    rw [lookR_ofEnv] at hs
    obtain ⟨cv, _, rfl⟩ := Option.map_eq_some_iff.1 hs
    exact steadyX_exact _ _ _
  · obtain ⟨o, h1, h2⟩ := hV j hj
    exact ⟨o, by simpa using h1, h2⟩
  · refine ⟨⟨by simp, fun i o _ hi => absurd hi (start_on _ _)⟩, hC w hw, ha.defers, ha.size, fun j hj => absurd hj (start_on _ _), fun j o d hj => absurd hj (start_on _ _), fun j o hj => absurd hj (start_on _ _), ?_⟩
    intro s U hs _
    rw [lookR_ofEnv] at hs
    obtain ⟨cv, hcv, rfl⟩ := Option.map_eq_some_iff.1 hs
    exact ⟨_, ha.reads s cv.1 cv.2 hcv, rfl⟩
theorem wx_nil {Q : World → Prop} {tail : List Oper} (h : WL P ops tail n E (fun w => C w ∧ Q w) k) : WX P ops [] n E C X Q tail k := ⟨fun G hG a w hw hq hA => h.run a w ⟨hA.1, hA.2.1, fun i c v hi => by
  obtain ⟨u, hu, hU⟩ := hA.2.2 i (exact1 c v) (by rw [hG]; simp [hi]) trivial
  rw [hu, hU]⟩ ⟨hw, hq⟩⟩
theorem wx_v {d : Nat} {cg : Bool} {v : Value} {o : Oper} {rest tail : List Oper} {Q : World → Prop} (hX : ∀ w w', Ext w w' → X w w') (hg : gd ops E o.guard = some cg) (ho : o.dst = some d) (hd : Nat.blt d n = true) (hb : belowN n E = true) (hsel : noSel o = true)
    (hv : OpV P n E C o cg v) (h : WX P ops rest n ((d, cg, v) :: E) C X Q tail k) : WX P ops (o :: rest) n E C X Q tail k := ⟨fun G hG => by
  have hd : d < n := by simpa [Nat.blt_eq] using hd
  refine ⟨exact1 cg v, (fun d' hd' => by rw [ho] at hd'; cases hd'; exact hd), steadyX_exact _ _ _, ⟨fun a w hw had has hHR => ?_⟩, ?_⟩
  · obtain ⟨b, hb1, hb2, hb3⟩ := turn (ops := ops) (E := E) o had has (fun i c u hi hm => by
      obtain ⟨u', h1, h2⟩ := hHR i (exact1 c u) (by rw [hG]; simp [hi]) hm
      rw [h1, h2]) (noSel_spec hsel) (belowN_look hb)
    have hwb := wanted_gd (ops := ops) hb1 hg
    rw [hb3] at hwb
    refine ⟨fun hwant => ?_, fun hno => ?_⟩
    · have hcg : cg = true := by rw [← hwb]; exact hwant
      have := hv.run hcg b hb1 w hw
      have : YAt P o a C w v := by unfold YAt at *; rw [hb2] at this; exact this
      exact this.wp hw fun w' hw' hx => ⟨v, rfl, (fun h => by rw [ho] at h; cases h), by simp [exact1, hcg], hX _ _ hx, hw'⟩
    · have hcg : cg = false := by rw [← hwb]; exact hno
      simp [exact1, hcg]
  · unfold putG putQ
    rw [ho]
    refine h.run _ ?_
    intro s
    simp only [lookR, look]
    by_cases e : d = s
    · subst e; simp
    · rw [beq_no e, cond_false, cond_false]; exact hG s⟩
/-- a writer: what it leaves is a fact -/
theorem wx_w {o : Oper} {rest tail : List Oper} {Q F : World → Prop} (hg : o.guard = none) (ho : o.dst = none) (hb : belowN n E = true) (hsel : noSel o = true) (hF : ∀ w w', X w w' → F w → F w')
    (hv : ∀ a w, Holds n E a → C w → ∃ w', (execOp a.eval o).run P w = .ok .skip w' ∧ X w w' ∧ C w' ∧ F w') (h : WX P ops rest n E C X (fun w => Q w ∧ F w) tail k) : WX P ops (o :: rest) n E C X Q tail k := ⟨fun G hG => by
  refine ⟨fun _ w => F w, (fun d' hd' => by rw [ho] at hd'; cases hd'), fun _ _ _ hx hf => hF _ _ hx hf, ⟨fun a w hw had has hHR => ?_⟩, ?_⟩
  · obtain ⟨b, hb1, hb2, hb3⟩ := turn (ops := ops) (E := E) o had has (fun i c u hi hm => by
      obtain ⟨u', h1, h2⟩ := hHR i (exact1 c u) (by rw [hG]; simp [hi]) hm
      rw [h1, h2]) (noSel_spec hsel) (belowN_look hb)
    refine ⟨fun _ => ?_, fun hno => by simp [Region.wanted, hg] at hno⟩
    obtain ⟨w', h1, h2, h3, h4⟩ := hv b w hb1 hw
    unfold Oper.wp
    rw [← hb2, h1, Oper.upon_skip, ho]
    exact ⟨undef, by simp [Act.put], fun _ => rfl, h4, h2, h3⟩
  · have e1 : putG o (fun _ w => F w) G = G := by unfold putG; rw [ho]
    have e2 : putQ o (fun _ w => F w) Q = fun w => Q w ∧ F w := by unfold putQ; rw [ho]
    rw [e1, e2]
    exact h.run G hG⟩
/-- laid for good from here on; that it is new is known -/
theorem wl_publish {w0 : World} {H1 H2 : List (Nat × Obj)} {M : Ghost} {l : List Oper} (h : (∀ p ∈ H1, w0.heap.size ≤ p.1) → WL P ops l n E (St w0 [] H2 (With M H1)) k) : WL P ops l n E (St w0 [] (H1 ++ H2) M) k :=
  ⟨fun a w ha hw => (h (fun p hp => by have := hw.new p (List.mem_append_left _ hp); simpa using this)).run a w ha hw.publish⟩
theorem wc_publish {w0 : World} {H1 H2 : List (Nat × Obj)} {M : Ghost} {c : Code} (h : (∀ p ∈ H1, w0.heap.size ≤ p.1) → WC P c n E (St w0 [] H2 (With M H1)) k) : WC P c n E (St w0 [] (H1 ++ H2) M) k :=
  ⟨fun a w ha hw => (h (fun p hp => by have := hw.new p (List.mem_append_left _ hp); simpa using this)).run a w ha hw.publish⟩
theorem since_new {w0 : World} {M0 M : Ghost} {H1 : List (Nat × Obj)} (h : Since w0 M0 M) (hn : ∀ p ∈ H1, w0.heap.size ≤ p.1) : Since w0 M0 (With M H1) := h.step (fun _ _ h => .inl h) (fun b o hb => hb.elim .inl fun hm => .inr (hn (b, o) hm))
/-- a class of worlds that leaves open what one block holds -/
theorem ov_ex {α : Type} {D : α → World → Prop} {o : Oper} {cg : Bool} {v : Value} (h : ∀ x, OpV P n E (D x) o cg v) : OpV P n E (fun w => ∃ x, D x w) o cg v := ⟨fun hc a ha w ⟨x, hw⟩ => by
  have := (h x).run hc a ha w hw
  unfold YAt at *
  generalize (execOp a.eval o).run P w = r at *
  cases r with
  | ok nx w1 =>
    cases nx <;> simp only [] at this ⊢
    case value u => exact this
    case enter f args => exact ⟨this.1, this.2.mono fun e w2 ⟨h1, h2, h3⟩ => ⟨h1, h2, x, h3⟩⟩
  | halt x w1 => simp only [] at this⟩
/-- a store of a whole block of one's own, run -/
theorem exec_store {w0 : World} {bs : List Nat} {H : List (Nat × Obj)} {M : Ghost} {x y : Operand} {ty t : TypeId} {pos : String} {af : Array Edge} {g : Option (Nat × Bool)} {b : Nat} {c l : List Value} {T : TypeId} {v : Value} {a : Act} {w : World} (hw : St w0 bs ((b, .cells c.toArray T (0, 0)) :: H) M w)
    (hx : a.eval x = .pointer (some ⟨b, 0, none⟩)) (hy : a.eval y = v) (hs : (P.info? t).map (·.size) = some v.cells.size) (hv : v.cells.toList = l) (hl : l.length = c.length) (hp : l.all plainV = true) :
    ∃ w', (execOp a.eval ⟨none, .store t x y, ty, pos, af, g⟩).run P w = .ok .skip w' ∧ Keep [b] w w' ∧ St w0 bs ((b, .cells l.toArray T (0, 0)) :: H) M w' ∧ w'.heap[b]? = some (.cells l.toArray T (0, 0)) := by
  have hsz : v.cells.size = l.length := by rw [← hv]; simp
  obtain ⟨w', h1, h2, h3⟩ := run_storeCells (P := P) (b := b) (o := 0) (T := T) v.cells.toList 0 c w (hw.get List.mem_cons_self) (by rw [hv]; omega) (by rw [hv]; exact hp)
  have e : setCells c (0 + 0) v.cells.toList = l := by
    rw [hv]
    have := set_past ([] : List Value) l c (by omega)
    simp only [List.nil_append, List.length_nil] at this
    rw [this, List.drop_eq_nil_of_le (by omega), List.append_nil]
  rw [e] at h3
  refine ⟨w', ?_, h2, hw.upd (o := .cells c.toArray T (0, 0)) Upd.here h2 h3, h3⟩
  simp [execOp, hx, hy, Instr.storeAt, Instr.sureAddr, storeVar, run_sizeOf hs, h1]
/-- what is known of a block said of it -/
theorem St.known {w0 : World} {bs : List Nat} {H : List (Nat × Obj)} {M : Ghost} {b : Nat} {o o' : Obj} {w : World} (h : St w0 bs ((b, o) :: H) M w) (hb : w.heap[b]? = some o') : St w0 bs ((b, o') :: H) M w := by
  refine ⟨h.keep, fun p hp => ?_, fun p hp => ?_, by simpa using h.nodup, h.laid, fun q r hm p hp => ?_⟩
  · rcases List.mem_cons.1 hp with rfl | hp
    · exact hb
    · exact h.own p (List.mem_cons_of_mem _ hp)
  · rcases List.mem_cons.1 hp with rfl | hp
    · exact h.new (b, o) List.mem_cons_self
    · exact h.new p (List.mem_cons_of_mem _ hp)
  · rcases List.mem_cons.1 hp with rfl | hp
    · exact h.apart q r hm (b, o) List.mem_cons_self
    · exact h.apart q r hm p (List.mem_cons_of_mem _ hp)
/-- one block may turn, once, to what is said -/
def TurnsTo (b : Nat) (o : Obj) (w w' : World) : Prop := Keep [b] w w' ∧ (w.heap[b]? = some o → w'.heap[b]? = some o)
theorem TurnsTo.refl (b : Nat) (o : Obj) (w : World) : TurnsTo b o w w := ⟨Keep.refl _ _, id⟩
theorem TurnsTo.ext {b : Nat} {o : Obj} {w w' : World} (h : Ext w w') : TurnsTo b o w w' := ⟨h.to, fun hb => by rw [h.block b (lt_of_get hb) (by simp)]; exact hb⟩
end
end Go.Eng
/-
  The engine: results that the caller owns. Nothing of the program stands here.
-/
namespace Go.Eng
open Go.RowKit
set_option linter.unusedVariables false

section
variable {P : Program} {n : Nat} {E : Env} {k : Kont} {ops : Array Oper} {rest : List Oper} {C C' : World → Prop}
variable {w0 : World} {bs : List Nat} {H : List (Nat × Obj)} {M : Ghost}
theorem wr_own {M0 : Ghost} {fn : Func} {t : Nat} {v' : Value} {Hn : List (Nat × Obj)} {R : Ghost → List (Nat × Obj) → Value → Prop} (hr : fn.results = #[.tmp t]) (ht : look E t = some (true, v')) (hs : Since w0 M0 M) (hH : List.Sublist Hn H) (hR : R M Hn v') : WR n E (St w0 [] H M) (bodyPost P fn (RetS M0 w0 R)) := ⟨fun a w ha hw => by
  have h1 := ha.reads t true v' ht
  refine bodyPost_ret (v := v') ?_ ha.defers ⟨_, Hn, M, rfl, hs.1, hs.2, hw.drop hH, hR⟩
  rw [results_tmp hr]
  simp [h1]⟩
theorem wr_own2 {M0 : Ghost} {fn : Func} {t u : Nat} {v' r' : Value} {Hn : List (Nat × Obj)} {R : Ghost → List (Nat × Obj) → Value → Prop} (hr : fn.results = #[.tmp t, .tmp u]) (ht : look E t = some (true, v')) (hu : look E u = some (true, r')) (hs : Since w0 M0 M) (hH : List.Sublist Hn H) (hR : R M Hn (.tuple #[v', r'])) : WR n E (St w0 [] H M) (bodyPost P fn (RetS M0 w0 R)) := ⟨fun a w ha hw => by
  have h1 := ha.reads t true v' ht
  have h2 := ha.reads u true r' hu
  refine bodyPost_ret (v := .tuple #[v', r']) ?_ ha.defers ⟨_, Hn, M, rfl, hs.1, hs.2, hw.drop hH, hR⟩
  rw [results_tmp2 hr]
  simp [h1, h2]⟩
/-- what a call's caller owns may be laid for good -/
theorem RetS.lay {M : Ghost} {w : World} {R R' : Ghost → List (Nat × Obj) → Value → Prop} (h : ∀ M' H v, R M' H v → R' (With M' H) [] v) {e : Ending} {w' : World} (hr : RetS M w R e w') : RetS M w R' e w' := by
  obtain ⟨v, H, M', h0, h1, h2, hst, hR⟩ := hr
  have hst2 : St w [] (H ++ []) M' w' := by rw [List.append_nil]; exact hst
  refine ⟨v, [], With M' H, h0, fun b o hb => .inl (h1 b o hb), fun b o hb => hb.elim (h2 b o) (fun hm => ?_), hst2.publish, h M' H v hR⟩
  rcases hst.new (b, o) hm with h3 | h3
  · exact .inr h3
  · cases h3
end
end Go.Eng
/-
  The contracts of package pct's pair and Form.
-/
namespace Go.Proofs.YtjdmnanicaghkaaDoor
open Go.Eng Go.Pct Go.Txt
set_option maxRecDepth 10000
set_option linter.unusedSimpArgs false
set_option linter.unusedVariables false

variable {M : Ghost} {w : World}
abbrev tPr : TypeId := 50
abbrev tSt : TypeId := 9

/-- what comes back of a piece -/
def nmOf (x : List UInt8) : Option (List UInt8) := Pct.decode true (x.take (idx 61 x))
def vlOf (x : List UInt8) : Option (List UInt8) := Pct.decode true (x.drop (idx 61 x + 1))
def pairA (x : List UInt8) : Pr := if (nmOf x).isSome then ((nmOf x).getD [], (vlOf x).getD []) else ([], [])
abbrev pairV (x : List UInt8) : Value := .agg #[str (pairA x).1, str (pairA x).2]
def pairN (x : List UInt8) : Int := if (nmOf x).isSome then (if (vlOf x).isSome then 0 else 11) else 11
theorem pair_some {x : List UInt8} {p : Pr} (h : pairOf x = some p) : pairA x = p ∧ pairN x = 0 := by
  unfold pairOf at h
  unfold pairA pairN nmOf vlOf
  split at h
  · rename_i n v e1 e2; cases h; simp [e1, e2]
  · cases h
theorem pair_none {x : List UInt8} (h : pairOf x = none) : pairN x = 11 := by
  unfold pairOf at h
  unfold pairN nmOf vlOf
  cases h1 : Pct.decode true (x.take (idx 61 x)) with
  | none => simp
  | some n =>
    cases h2 : Pct.decode true (x.drop (idx 61 x + 1)) with
    | none => simp
    | some v => rw [h1, h2] at h; cases h

theorem pair_ok (hG : Glob M) (hM : Laid M w) (x : List UInt8) (hs : x.length ≤ 1000000000) : Calls Tryd.prog 57 #[str x] w (RetE w (.tuple #[pairV x, i64 (pairN x)])) := by
  refine calls_st (l := [str x]) hM Tryd.func57 rfl rfl rfl (E0 := [(0, true, str x)]) (params_cons rfl (params_nil _)) ?_
  repeat' (first | (first | refine wc_seq ?_ | refine wc_region ?_ | refine wl_nil ?_ | refine wn_seq ?_ | refine wn_blk ?_ | refine wc_skip ?_ | refine wc_block ?_ | refine wc_exit rfl ?_ | (show WL _ _ (_ :: _) _ _ _ _; first | refine wl_v rfl rfl rfl (by first | (show OpV _ _ _ _ (Oper.mk _ (Op.move _) _ _ _ _) _ _; exact xo_move rfl) | (show OpV _ _ _ _ (Oper.mk _ (Op.assign _) _ _ _ _) _ _; exact xo_assign rfl) | (show OpV _ _ _ _ (Oper.mk _ (Op.extract _ _) _ _ _ _) _ _; exact xo_extract rfl) | (show OpV _ _ _ _ (Oper.mk _ (Op.binOp BinOp.neq _ _ _ _) _ _ _ _) _ _; first | exact xo_neq rfl rfl | exact xo_sneq rfl rfl | exact xo_bneq rfl rfl | exact xo_aneq rfl rfl) | (show OpV _ _ _ _ (Oper.mk _ (Op.build _ _) _ _ _ _) _ _; exact xo_build rfl)) ?_ | refine wl_v rfl rfl rfl (by first | ((show OpV _ _ _ _ (Oper.mk _ (Op.call ⟨.value (.func 41), _, _⟩) _ _ _ _) _ _; exact ov_call Tryd.call41 rfl (by intro himp; first | rfl | (simp_all; done)) (by rfl) (fun _ _ h k => h.ext k) (fun hcg w hw => cut_ok hG hw.laid x 61 hs))) | ((show OpV _ _ _ _ (Oper.mk _ (Op.call ⟨.value (.func 64), _, _⟩) _ _ _ _) _ _; exact ov_call Tryd.call64 rfl (by intro himp; first | rfl | (simp_all; done)) (by rfl) (fun _ _ h k => h.ext k) (fun hcg w hw => decode_ok hG hw.laid _ true (by simp only [List.length_take, List.length_drop]; omega)))) | fail) ?_ | refine xl_alloc (fun _ => ?_) | refine xl_store rfl rfl ?_) | refine wc_ret rfl ?_) | (show WC _ (Code.cond _ _ _) _ _ _ _; (refine wc_cond rfl (fun hc => ?_) (fun hc => ?_) <;> (try (simp only [decide_eq_true_eq, decide_eq_false_iff_not, Bool.and_eq_true, Bool.or_eq_true, Bool.and_eq_false_iff, Bool.or_eq_false_iff, Bool.not_eq_true', Bool.not_eq_false', Int.not_lt, Int.not_le] at hc)) <;> (try (exfalso; first | omega | contradiction)))))
  · have hn : ¬ (nmOf x).isSome = true := by intro h; unfold nmOf at h; rw [if_pos h] at hc; exact hc rfl
    refine wr_cellS rfl rfl rfl rfl (by first | exact List.Mem.head _ | exact List.Mem.tail _ (List.Mem.head _) | exact List.Mem.tail _ (List.Mem.tail _ (List.Mem.head _)) | exact List.Mem.tail _ (List.Mem.tail _ (List.Mem.tail _ (List.Mem.head _))) | exact List.Mem.tail _ (List.Mem.tail _ (List.Mem.tail _ (List.Mem.tail _ (List.Mem.head _)))) | exact List.mem_append_right _ (List.Mem.head _) | exact List.mem_append_right _ (List.Mem.tail _ (List.Mem.head _)) | exact List.mem_append_right _ (List.Mem.tail _ (List.Mem.tail _ (List.Mem.head _))) | exact List.mem_append_right _ (List.Mem.tail _ (List.Mem.tail _ (List.Mem.tail _ (List.Mem.head _)))) | exact List.Mem.tail _ (List.mem_append_right _ (List.Mem.head _)) | exact List.Mem.tail _ (List.mem_append_right _ (List.Mem.tail _ (List.Mem.head _))) | exact List.Mem.tail _ (List.mem_append_right _ (List.Mem.tail _ (List.Mem.tail _ (List.Mem.head _)))) | exact List.Mem.tail _ (List.mem_append_right _ (List.Mem.tail _ (List.Mem.tail _ (List.Mem.tail _ (List.Mem.head _))))) | exact List.Mem.tail _ (List.Mem.tail _ (List.mem_append_right _ (List.Mem.head _))) | exact List.Mem.tail _ (List.Mem.tail _ (List.mem_append_right _ (List.Mem.tail _ (List.Mem.head _)))) | exact List.Mem.tail _ (List.Mem.tail _ (List.mem_append_right _ (List.Mem.tail _ (List.Mem.tail _ (List.Mem.head _)))))) (by first | exact (rfl : _ = some 1) | exact (rfl : _ = some 2) | exact (rfl : _ = some 3) | exact (rfl : _ = some 4) | exact (rfl : _ = some 6) | exact rfl) ?_ ?_
    · rw [pairV, pairA, if_neg hn]
    · rw [pairN, if_neg hn]; unfold nmOf at hn; rw [if_neg hn]
  · have hn : (nmOf x).isSome = true := by
      apply Classical.byContradiction; intro h; unfold nmOf at h; rw [if_neg h] at hc; exact absurd hc (by decide)
    refine wr_cellS rfl rfl rfl rfl (by first | exact List.Mem.head _ | exact List.Mem.tail _ (List.Mem.head _) | exact List.Mem.tail _ (List.Mem.tail _ (List.Mem.head _)) | exact List.Mem.tail _ (List.Mem.tail _ (List.Mem.tail _ (List.Mem.head _))) | exact List.Mem.tail _ (List.Mem.tail _ (List.Mem.tail _ (List.Mem.tail _ (List.Mem.head _)))) | exact List.mem_append_right _ (List.Mem.head _) | exact List.mem_append_right _ (List.Mem.tail _ (List.Mem.head _)) | exact List.mem_append_right _ (List.Mem.tail _ (List.Mem.tail _ (List.Mem.head _))) | exact List.mem_append_right _ (List.Mem.tail _ (List.Mem.tail _ (List.Mem.tail _ (List.Mem.head _)))) | exact List.Mem.tail _ (List.mem_append_right _ (List.Mem.head _)) | exact List.Mem.tail _ (List.mem_append_right _ (List.Mem.tail _ (List.Mem.head _))) | exact List.Mem.tail _ (List.mem_append_right _ (List.Mem.tail _ (List.Mem.tail _ (List.Mem.head _)))) | exact List.Mem.tail _ (List.mem_append_right _ (List.Mem.tail _ (List.Mem.tail _ (List.Mem.tail _ (List.Mem.head _))))) | exact List.Mem.tail _ (List.Mem.tail _ (List.mem_append_right _ (List.Mem.head _))) | exact List.Mem.tail _ (List.Mem.tail _ (List.mem_append_right _ (List.Mem.tail _ (List.Mem.head _)))) | exact List.Mem.tail _ (List.Mem.tail _ (List.mem_append_right _ (List.Mem.tail _ (List.Mem.tail _ (List.Mem.head _)))))) (by first | exact (rfl : _ = some 1) | exact (rfl : _ = some 2) | exact (rfl : _ = some 3) | exact (rfl : _ = some 4) | exact (rfl : _ = some 6) | exact rfl) ?_ ?_
    · rw [pairV, pairA, if_pos hn]; rfl
    · rw [pairN, if_pos hn]; rfl
structure FS (l : List (List UInt8)) where
  i : Nat
  out : List Pr
  a : Option Addr
  cap : Nat
  Hs : List (Nat × Obj)
  inv : FormAt l i out
  own : OwnS tPr 2 (.slice a out.length cap) Hs (cellsP out)
theorem pieces_small {c : UInt8} {s : List UInt8} {i : Nat} (h : i < (pieces c s).length) : ((pieces c s).getD i default).length ≤ s.length := by
  have e : (pieces c s).getD i default = (pieces c s)[i] := by simp [h]
  rw [e]; exact pieces_total c s _ (List.getElem_mem h)
theorem str_nil {x : List UInt8} : str x = str [] ↔ x = [] := by
  constructor
  · intro h; injection h with h; injection h with h; simpa using h
  · rintro rfl; rfl

theorem form_own_ok (hG : Glob M) (hM : Laid M w) (s : List UInt8) (hs : s.length ≤ 1000000000) : Calls Tryd.prog 42 #[str s] w (RetS M w (fun M' H v => ∃ sv, v = .tuple #[sv, i64 ((form s).2 : Int)] ∧ OwnS tPr 2 sv H (cellsP (form s).1))) := by
  refine calls_st (l := [str s]) hM Tryd.func42 rfl rfl rfl (E0 := [(0, true, str s)]) (params_cons rfl (params_nil _)) ?_
  repeat' (first | (first | refine wc_seq ?_ | refine wc_region ?_ | refine wl_nil ?_ | refine wn_seq ?_ | refine wn_blk ?_ | refine wc_skip ?_ | refine wc_scope ?_ | refine wc_label ?_ | refine wn_noGoto ?_ | refine wc_block ?_ | refine wc_exit rfl ?_ | (show WL _ _ (_ :: _) _ _ _ _; first | refine wl_v rfl rfl rfl (by first | (show OpV _ _ _ _ (Oper.mk _ (Op.move _) _ _ _ _) _ _; exact xo_move rfl) | (show OpV _ _ _ _ (Oper.mk _ (Op.assign _) _ _ _ _) _ _; exact xo_assign rfl) | (show OpV _ _ _ _ (Oper.mk _ (Op.extract _ _) _ _ _ _) _ _; exact xo_extract rfl) | (show OpV _ _ _ _ (Oper.mk _ (Op.call ⟨.builtin .len, _, _⟩) _ _ _ _) _ _; first | exact xo_slen rfl | exact xo_len rfl) | (show OpV _ _ _ _ (Oper.mk _ (Op.binOp BinOp.eql _ _ _ _) _ _ _ _) _ _; first | exact xo_eql rfl rfl | exact xo_seql rfl rfl | exact xo_beql rfl rfl | exact xo_aeql rfl rfl) | (show OpV _ _ _ _ (Oper.mk _ (Op.binOp BinOp.neq _ _ _ _) _ _ _ _) _ _; first | exact xo_neq rfl rfl | exact xo_sneq rfl rfl | exact xo_bneq rfl rfl | exact xo_aneq rfl rfl) | (show OpV _ _ _ _ (Oper.mk _ (Op.binOp BinOp.lss _ _ _ _) _ _ _ _) _ _; exact xo_lss rfl rfl) | (show OpV _ _ _ _ (Oper.mk _ (Op.binOp BinOp.geq _ _ _ _) _ _ _ _) _ _; exact xo_geq rfl rfl) | (show OpV _ _ _ _ (Oper.mk _ (Op.binOp BinOp.add _ _ _ _) _ _ _ _) _ _; first | exact xo_add rfl rfl | exact ov_sadd rfl rfl (by first | with_reducible exact fun _ => rfl | with_reducible exact fun h => h | exact fun _ => rfl | exact fun h => h | (intro himp; simp_all; done)) (by first | with_reducible exact fun _ => rfl | with_reducible exact fun h => h | exact fun _ => rfl | exact fun h => h | (intro himp; simp_all; done)) (by intro hcg; first | omega | (simp only [List.length_append, List.length_take, List.length_drop, List.length_cons, List.length_nil, pctOf_length]; omega))) | (show OpV _ _ _ _ (Oper.mk _ (Op.load _ _) _ _ _ _) _ _; first | exact xo_load1 rfl | exact xo_loadS rfl)) ?_ | refine wl_v rfl rfl rfl (by first  | fail) ?_ | refine xl_alloc (fun _ => ?_) | refine xl_store rfl rfl ?_ | refine xl_buildSlice rfl (fun _ => ?_)) | refine wc_ret rfl ?_) | (show WC _ (Code.cond _ _ _) _ _ _ _; (refine wc_cond rfl (fun hc => ?_) (fun hc => ?_) <;> (try (simp only [decide_eq_true_eq, decide_eq_false_iff_not, Bool.and_eq_true, Bool.or_eq_true, Bool.and_eq_false_iff, Bool.or_eq_false_iff, Bool.not_eq_true', Bool.not_eq_false', Int.not_lt, Int.not_le] at hc)) <;> (try (exfalso; first | omega | contradiction)))))
  refine wl_callS rfl Tryd.call48 rfl rfl rfl rfl (fun w hw => split_ok hG hw.laid s 38 hs) ?_
  rintro v Hn M' hm hnew ⟨rfl, hv⟩
  obtain ⟨a, cap, b, o, cs, T, fz, rfl, h1, h2, h3, h4⟩ := hv.open
  have hG' := hG.mono hm
  repeat' (first | (first | refine wc_seq ?_ | refine wc_region ?_ | refine wl_nil ?_ | refine wn_seq ?_ | refine wn_blk ?_ | refine wc_skip ?_ | refine wc_scope ?_ | refine wc_label ?_ | refine wn_noGoto ?_ | refine wc_block ?_ | refine wc_exit rfl ?_ | (show WL _ _ (_ :: _) _ _ _ _; first | refine wl_v rfl rfl rfl (by first | (show OpV _ _ _ _ (Oper.mk _ (Op.move _) _ _ _ _) _ _; exact xo_move rfl) | (show OpV _ _ _ _ (Oper.mk _ (Op.assign _) _ _ _ _) _ _; exact xo_assign rfl) | (show OpV _ _ _ _ (Oper.mk _ (Op.extract _ _) _ _ _ _) _ _; exact xo_extract rfl) | (show OpV _ _ _ _ (Oper.mk _ (Op.call ⟨.builtin .len, _, _⟩) _ _ _ _) _ _; first | exact xo_slen rfl | exact xo_len rfl) | (show OpV _ _ _ _ (Oper.mk _ (Op.binOp BinOp.eql _ _ _ _) _ _ _ _) _ _; first | exact xo_eql rfl rfl | exact xo_seql rfl rfl | exact xo_beql rfl rfl | exact xo_aeql rfl rfl) | (show OpV _ _ _ _ (Oper.mk _ (Op.binOp BinOp.neq _ _ _ _) _ _ _ _) _ _; first | exact xo_neq rfl rfl | exact xo_sneq rfl rfl | exact xo_bneq rfl rfl | exact xo_aneq rfl rfl) | (show OpV _ _ _ _ (Oper.mk _ (Op.binOp BinOp.lss _ _ _ _) _ _ _ _) _ _; exact xo_lss rfl rfl) | (show OpV _ _ _ _ (Oper.mk _ (Op.binOp BinOp.geq _ _ _ _) _ _ _ _) _ _; exact xo_geq rfl rfl) | (show OpV _ _ _ _ (Oper.mk _ (Op.binOp BinOp.add _ _ _ _) _ _ _ _) _ _; first | exact xo_add rfl rfl | exact ov_sadd rfl rfl (by first | with_reducible exact fun _ => rfl | with_reducible exact fun h => h | exact fun _ => rfl | exact fun h => h | (intro himp; simp_all; done)) (by first | with_reducible exact fun _ => rfl | with_reducible exact fun h => h | exact fun _ => rfl | exact fun h => h | (intro himp; simp_all; done)) (by intro hcg; first | omega | (simp only [List.length_append, List.length_take, List.length_drop, List.length_cons, List.length_nil, pctOf_length]; omega))) | (show OpV _ _ _ _ (Oper.mk _ (Op.load _ _) _ _ _ _) _ _; first | exact xo_load1 rfl | exact xo_loadS rfl)) ?_ | refine wl_v rfl rfl rfl (by first  | fail) ?_ | refine xl_alloc (fun _ => ?_) | refine xl_store rfl rfl ?_ | refine xl_buildSlice rfl (fun _ => ?_)) | refine wc_ret rfl ?_) | (show WC _ (Code.cond _ _ _) _ _ _ _; (refine wc_cond rfl (fun hc => ?_) (fun hc => ?_) <;> (try (simp only [decide_eq_true_eq, decide_eq_false_iff_not, Bool.and_eq_true, Bool.or_eq_true, Bool.and_eq_false_iff, Bool.or_eq_false_iff, Bool.not_eq_true', Bool.not_eq_false', Int.not_lt, Int.not_le] at hc)) <;> (try (exfalso; first | omega | contradiction)))))
  refine wc_loop (α := FS (pieces 38 s)) (fun x => [(0, true, str s), (4, true, .slice x.a x.out.length x.cap), (5, true, i64 0), (11, true, .slice a (pieces 38 s).length cap), (12, true, i64 ((pieces 38 s).length : Int)), (13, true, i64 (x.i : Int))]) (fun x => St w [] x.Hs M') (fun x => (pieces 38 s).length - x.i) ⟨0, [], none, 0, [], formAt_start _, OwnS.nil⟩ (by first | exact Sub.nil _ | (repeat (first | exact Sub.nil _ | refine Sub.cons (by first | rfl | (simp [look]; done)) ?_))) (fun _ h => h) ?_
  rintro ⟨i, out, a1, cap1, Hs, inv, own⟩
  dsimp only
  have hil := inv.1
  have hol := inv.2.2
  repeat' (first | (first | refine wc_seq ?_ | refine wc_region ?_ | refine wl_nil ?_ | refine wn_seq ?_ | refine wn_blk ?_ | refine wc_skip ?_ | refine wc_scope ?_ | refine wc_label ?_ | refine wn_noGoto ?_ | refine wc_block ?_ | refine wc_exit rfl ?_ | (show WL _ _ (_ :: _) _ _ _ _; first | refine wl_v rfl rfl rfl (by first | (show OpV _ _ _ _ (Oper.mk _ (Op.move _) _ _ _ _) _ _; exact xo_move rfl) | (show OpV _ _ _ _ (Oper.mk _ (Op.assign _) _ _ _ _) _ _; exact xo_assign rfl) | (show OpV _ _ _ _ (Oper.mk _ (Op.extract _ _) _ _ _ _) _ _; exact xo_extract rfl) | (show OpV _ _ _ _ (Oper.mk _ (Op.call ⟨.builtin .len, _, _⟩) _ _ _ _) _ _; first | exact xo_slen rfl | exact xo_len rfl) | (show OpV _ _ _ _ (Oper.mk _ (Op.binOp BinOp.eql _ _ _ _) _ _ _ _) _ _; first | exact xo_eql rfl rfl | exact xo_seql rfl rfl | exact xo_beql rfl rfl | exact xo_aeql rfl rfl) | (show OpV _ _ _ _ (Oper.mk _ (Op.binOp BinOp.neq _ _ _ _) _ _ _ _) _ _; first | exact xo_neq rfl rfl | exact xo_sneq rfl rfl | exact xo_bneq rfl rfl | exact xo_aneq rfl rfl) | (show OpV _ _ _ _ (Oper.mk _ (Op.binOp BinOp.lss _ _ _ _) _ _ _ _) _ _; exact xo_lss rfl rfl) | (show OpV _ _ _ _ (Oper.mk _ (Op.binOp BinOp.geq _ _ _ _) _ _ _ _) _ _; exact xo_geq rfl rfl) | (show OpV _ _ _ _ (Oper.mk _ (Op.binOp BinOp.add _ _ _ _) _ _ _ _) _ _; first | exact xo_add rfl rfl | exact ov_sadd rfl rfl (by first | with_reducible exact fun _ => rfl | with_reducible exact fun h => h | exact fun _ => rfl | exact fun h => h | (intro himp; simp_all; done)) (by first | with_reducible exact fun _ => rfl | with_reducible exact fun h => h | exact fun _ => rfl | exact fun h => h | (intro himp; simp_all; done)) (by intro hcg; first | omega | (simp only [List.length_append, List.length_take, List.length_drop, List.length_cons, List.length_nil, pctOf_length]; omega))) | (show OpV _ _ _ _ (Oper.mk _ (Op.load _ _) _ _ _ _) _ _; first | exact xo_load1 rfl | exact xo_loadS rfl)) ?_ | refine wl_v rfl rfl rfl (by first | (show OpV _ _ _ _ (Oper.mk _ (Op.indexAddr _ _ _) _ _ _ _) _ _; exact ov_indexAddr rfl rfl (by (fail_if_success (with_reducible show (987654321 : Int) = _)); repeat' (first | with_reducible exact nc_cast | with_reducible exact nc_lit | apply nc_add | apply nc_div | apply nc_mod | apply nc_mul | refine nc_sub (m := _) (n := _) nc_cast nc_lit (by omega) | refine nc_sub (m := _) (n := _) nc_cast nc_cast (by omega))) (by first | with_reducible exact fun _ => rfl | with_reducible exact fun h => h | exact fun _ => rfl | exact fun h => h | (intro himp; simp_all; done)) (by first | with_reducible exact fun _ => rfl | with_reducible exact fun h => h | exact fun _ => rfl | exact fun h => h | (intro himp; simp_all; done)) rfl (by first | exact (rfl : _ = some 1) | exact (rfl : _ = some 2) | exact (rfl : _ = some 3) | exact (rfl : _ = some 4) | exact (rfl : _ = some 6) | exact rfl) (fun _ => (h3 (by intro h; rw [h] at hc; simp at hc; omega)).1) (by intro hcg; first | omega | (simp at hcg; omega))) | (show OpV _ _ _ _ (Oper.mk _ (Op.load _ _) _ _ _ _) _ _; exact ov_load1M rfl (by first | with_reducible exact fun _ => rfl | with_reducible exact fun h => h | exact fun _ => rfl | exact fun h => h | (intro himp; simp_all; done)) rfl rfl (fun _ => (h3 (by intro h; rw [h] at hc; simp at hc; omega)).2) (fun _ => h4 i (by omega))) | ((show OpV _ _ _ _ (Oper.mk _ (Op.call ⟨.value (.func 57), _, _⟩) _ _ _ _) _ _; exact ov_call Tryd.call57 rfl (by intro himp; first | rfl | (simp_all; done)) (by rfl) (fun _ _ h k => h.ext k) (fun hcg w hw => pair_ok hG' hw.laid _ (by have := pieces_small (c := 38) (s := s) (i := i) (by omega); omega)))) | fail) ?_ | refine xl_alloc (fun _ => ?_) | refine xl_store rfl rfl ?_ | refine xl_buildSlice rfl (fun _ => ?_)) | refine wc_ret rfl ?_) | (show WC _ (Code.cond _ _ _) _ _ _ _; (refine wc_cond rfl (fun hc => ?_) (fun hc => ?_) <;> (try (simp only [decide_eq_true_eq, decide_eq_false_iff_not, Bool.and_eq_true, Bool.or_eq_true, Bool.and_eq_false_iff, Bool.or_eq_false_iff, Bool.not_eq_true', Bool.not_eq_false', Int.not_lt, Int.not_le] at hc)) <;> (try (exfalso; first | omega | contradiction)))))
  · refine wn_cut ⟨i + 1, out, a1, cap1, Hs, formAt_skip inv (by omega) hc, own⟩ (by show (pieces 38 s).length - (i + 1) < (pieces 38 s).length - i; omega) (by first | exact Sub.nil _ | (repeat (first | exact Sub.nil _ | refine Sub.cons (by first | rfl | (simp [look]; done)) ?_))) (fun _ h => h.drop (by repeat (first | exact List.Sublist.refl _ | apply List.Sublist.cons)))
  · have hf : form s = ([], 5) := formAt_full inv (by omega) ‹_› (by omega)
    refine wr_own2 (Hn := []) rfl rfl rfl ⟨hm, hnew⟩ (List.nil_sublist _) ?_
    rw [hf]; exact ⟨_, rfl, OwnS.nil⟩
  · have hp : pairOf ((pieces 38 s).getD i default) = none := by
      cases h : pairOf ((pieces 38 s).getD i default) with
      | none => rfl
      | some p => exact absurd (pair_some h).2 hc
    have hf : form s = ([], 11) := formAt_bad inv (by omega) ‹_› (by omega) hp
    refine wr_own2 (Hn := []) rfl rfl rfl ⟨hm, hnew⟩ (List.nil_sublist _) ?_
    rw [hf, pair_none hp]; exact ⟨_, rfl, OwnS.nil⟩
  · refine wl_append (H0 := []) rfl own rfl rfl rfl rfl rfl rfl rfl rfl rfl rfl (by first | exact List.Mem.head _ | exact List.Mem.tail _ (List.Mem.head _) | exact List.Mem.tail _ (List.Mem.tail _ (List.Mem.head _)) | exact List.Mem.tail _ (List.Mem.tail _ (List.Mem.tail _ (List.Mem.head _))) | exact List.Mem.tail _ (List.Mem.tail _ (List.Mem.tail _ (List.Mem.tail _ (List.Mem.head _)))) | exact List.mem_append_right _ (List.Mem.head _) | exact List.mem_append_right _ (List.Mem.tail _ (List.Mem.head _)) | exact List.mem_append_right _ (List.Mem.tail _ (List.Mem.tail _ (List.Mem.head _))) | exact List.mem_append_right _ (List.Mem.tail _ (List.Mem.tail _ (List.Mem.tail _ (List.Mem.head _)))) | exact List.Mem.tail _ (List.mem_append_right _ (List.Mem.head _)) | exact List.Mem.tail _ (List.mem_append_right _ (List.Mem.tail _ (List.Mem.head _))) | exact List.Mem.tail _ (List.mem_append_right _ (List.Mem.tail _ (List.Mem.tail _ (List.Mem.head _)))) | exact List.Mem.tail _ (List.mem_append_right _ (List.Mem.tail _ (List.Mem.tail _ (List.Mem.tail _ (List.Mem.head _))))) | exact List.Mem.tail _ (List.Mem.tail _ (List.mem_append_right _ (List.Mem.head _))) | exact List.Mem.tail _ (List.Mem.tail _ (List.mem_append_right _ (List.Mem.tail _ (List.Mem.head _)))) | exact List.Mem.tail _ (List.Mem.tail _ (List.mem_append_right _ (List.Mem.tail _ (List.Mem.tail _ (List.Mem.head _)))))) rfl rfl (by simp only [List.append_nil]; exact (by repeat (first | exact List.Sublist.refl _ | apply List.Sublist.cons))) (by rw [cellsP_length]; omega) rfl ?_
    intro v' Hs' ho'
    have ho2 : OwnS tPr 2 v' Hs' (cellsP (out ++ [pairA ((pieces 38 s).getD i default)])) := by rw [cellsP_snoc]; exact ho'
    obtain ⟨a2, cap2, rfl⟩ := ho2.slice (k := (out ++ [pairA ((pieces 38 s).getD i default)]).length) (by decide) (cellsP_length _)
    repeat' (first | (first | refine wc_seq ?_ | refine wc_region ?_ | refine wl_nil ?_ | refine wn_seq ?_ | refine wn_blk ?_ | refine wc_skip ?_ | refine wc_scope ?_ | refine wc_label ?_ | refine wn_noGoto ?_ | refine wc_block ?_ | refine wc_exit rfl ?_ | (show WL _ _ (_ :: _) _ _ _ _; first | refine wl_v rfl rfl rfl (by first | (show OpV _ _ _ _ (Oper.mk _ (Op.move _) _ _ _ _) _ _; exact xo_move rfl) | (show OpV _ _ _ _ (Oper.mk _ (Op.assign _) _ _ _ _) _ _; exact xo_assign rfl) | (show OpV _ _ _ _ (Oper.mk _ (Op.extract _ _) _ _ _ _) _ _; exact xo_extract rfl) | (show OpV _ _ _ _ (Oper.mk _ (Op.call ⟨.builtin .len, _, _⟩) _ _ _ _) _ _; first | exact xo_slen rfl | exact xo_len rfl) | (show OpV _ _ _ _ (Oper.mk _ (Op.binOp BinOp.eql _ _ _ _) _ _ _ _) _ _; first | exact xo_eql rfl rfl | exact xo_seql rfl rfl | exact xo_beql rfl rfl | exact xo_aeql rfl rfl) | (show OpV _ _ _ _ (Oper.mk _ (Op.binOp BinOp.neq _ _ _ _) _ _ _ _) _ _; first | exact xo_neq rfl rfl | exact xo_sneq rfl rfl | exact xo_bneq rfl rfl | exact xo_aneq rfl rfl) | (show OpV _ _ _ _ (Oper.mk _ (Op.binOp BinOp.lss _ _ _ _) _ _ _ _) _ _; exact xo_lss rfl rfl) | (show OpV _ _ _ _ (Oper.mk _ (Op.binOp BinOp.geq _ _ _ _) _ _ _ _) _ _; exact xo_geq rfl rfl) | (show OpV _ _ _ _ (Oper.mk _ (Op.binOp BinOp.add _ _ _ _) _ _ _ _) _ _; first | exact xo_add rfl rfl | exact ov_sadd rfl rfl (by first | with_reducible exact fun _ => rfl | with_reducible exact fun h => h | exact fun _ => rfl | exact fun h => h | (intro himp; simp_all; done)) (by first | with_reducible exact fun _ => rfl | with_reducible exact fun h => h | exact fun _ => rfl | exact fun h => h | (intro himp; simp_all; done)) (by intro hcg; first | omega | (simp only [List.length_append, List.length_take, List.length_drop, List.length_cons, List.length_nil, pctOf_length]; omega))) | (show OpV _ _ _ _ (Oper.mk _ (Op.load _ _) _ _ _ _) _ _; first | exact xo_load1 rfl | exact xo_loadS rfl)) ?_ | refine wl_v rfl rfl rfl (by first  | fail) ?_ | refine xl_alloc (fun _ => ?_) | refine xl_store rfl rfl ?_ | refine xl_buildSlice rfl (fun _ => ?_)) | refine wc_ret rfl ?_) | (show WC _ (Code.cond _ _ _) _ _ _ _; (refine wc_cond rfl (fun hc => ?_) (fun hc => ?_) <;> (try (simp only [decide_eq_true_eq, decide_eq_false_iff_not, Bool.and_eq_true, Bool.or_eq_true, Bool.and_eq_false_iff, Bool.or_eq_false_iff, Bool.not_eq_true', Bool.not_eq_false', Int.not_lt, Int.not_le] at hc)) <;> (try (exfalso; first | omega | contradiction)))))
    have hp : pairOf ((pieces 38 s).getD i default) = some (pairA ((pieces 38 s).getD i default)) := by
      cases h : pairOf ((pieces 38 s).getD i default) with
      | none => rw [pair_none h] at hc; cases hc
      | some p => rw [(pair_some h).1]
    refine wn_cut ⟨i + 1, _, a2, cap2, Hs', formAt_pair inv (by omega) ‹_› (by omega) hp, ho2⟩ (by show (pieces 38 s).length - (i + 1) < (pieces 38 s).length - i; omega) (by first | exact Sub.nil _ | (repeat (first | exact Sub.nil _ | refine Sub.cons (by first | rfl | (simp [look]; done)) ?_))) (fun _ h => by simpa using h)
  · have hf : form s = (out, 0) := formAt_end inv (by omega)
    refine wr_own2 (Hn := Hs) rfl rfl rfl ⟨hm, hnew⟩ (List.Sublist.refl _) ?_
    rw [hf]
    exact ⟨_, rfl, own⟩
theorem form_ok (hG : Glob M) (hM : Laid M w) (s : List UInt8) (hs : s.length ≤ 1000000000) : Calls Tryd.prog 42 #[str s] w (RetS M w (fun M' H v => H = [] ∧ ∃ sv, v = .tuple #[sv, i64 ((form s).2 : Int)] ∧ SlP M' sv (form s).1)) := (form_own_ok hG hM s hs).mono fun _ _ => RetS.lay fun M' H v h => by
  obtain ⟨sv, rfl, own⟩ := h
  have := form_short s
  exact ⟨rfl, sv, rfl, own.slP (fun p hp => .inr hp) (by omega)⟩
end Go.Proofs.YtjdmnanicaghkaaDoor
