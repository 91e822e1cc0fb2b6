/-
  Texts of a proof, joined: RndT, RndU, RndV.
-/
import Derived.Test.YtgfbieplidpebaaGreatDoorJFRndReads1
import Derived.Test.YtgfbieplidpebaaGreatDoorJFRndReads2
import Derived.Test.YtgfbieplidpebaaGreatDoorJFRndReads3
import Derived.Test.YtgfbieplidpebaaGreatDoorJFRndReads4
import Derived.Test.YtgfbieplidpebaaGreatDoorJFRndReads5
/-
  matricularef24.leaf, codes, head, top.
-/
namespace Go.Proofs.YtgfbieplidpebaaGreatDoor
open Go.Eng Go.Pct Go.Xml Go.Cas
set_option maxRecDepth 10000
set_option linter.unusedSimpArgs false
set_option linter.unusedVariables false

variable {M : Ghost} {w0 w : World} {bs : List Nat} {H : List (Nat × Obj)}
theorem ndT {p : Prop} [Decidable p] (h : ¬ p) : (!decide p) = true := by simp [h]
theorem ndF {p : Prop} [Decidable p] (h : p) : (!decide p) = false := by simp [h]
theorem leaf_ok (hM : Laid M w) {D : Nat} {x : Nd} {un a1 l1 c1 ut a2 l2 c2} (hx : NodeC M (D + 1) x [str un, .slice a1 l1 c1, str ut, .slice a2 l2 c2]) (name : List UInt8) : Calls Tryz.prog 57 #[.agg [str un, .slice a1 l1 c1, str ut, .slice a2 l2 c2].toArray, str name] w (RetE w (.bool (decide (leafOk x name)))) := by
  have h1 := node_nm hx
  have h2 := node_at hx
  have h3 := node_kd hx
  have hfin : decide (leafOk x name) = (decide (un = name) && decide (((atN x).length : Int) = 0) && decide (((kdN x).length : Int) = 0)) := by
    rw [Bool.eq_iff_iff]
    simp only [Bool.and_eq_true, decide_eq_true_eq]
    unfold leafOk
    rw [h1]
    constructor
    · rintro ⟨g1, g2, g3⟩; exact ⟨⟨g1, by rw [g2]; rfl⟩, by rw [g3]; rfl⟩
    · rintro ⟨⟨g1, g2⟩, g3⟩; exact ⟨g1, List.eq_nil_of_length_eq_zero (by omega), List.eq_nil_of_length_eq_zero (by omega)⟩
  rw [hfin]
  obtain ⟨aa, acap, ab, ao, acs, aT, afz, e1, _⟩ := SlP.open h2
  obtain ⟨ka, kcap, kb, ko, kcs, kT, kfz, e2, _⟩ := Sl.open h3
  cases e1; cases e2
  clear hfin h1 h2 h3
  refine fn2 hM Tryz.func57 ?_
  repeat' (first | refine sk ?_ | (refine gL ?_; first | refine xl_box rfl (fun _ => ?_)) | fail)
  exact wr_weak (fun _ h => h.drop (List.nil_sublist _)) (wr_tmp rfl rfl rfl)
theorem codesB_T (c : List UInt8) : codesB c = (knownT c).2 := by
  unfold codesB knownT
  cases knownE c <;> rfl
theorem codes24_ok (hM : Laid M w) (c : List UInt8) : Calls Tryz.prog 71 #[str c] w (RetE w (.bool (codesB c))) := by
  rw [codesB_T]
  refine fn1 hM Tryz.func71 ?_
  repeat' (first | refine sk ?_ | fail)
  refine wc_loop (α := { i : Nat // i ≤ 39 ∧ ∀ j, j < i → ¬ codeE ((j + 1 : Nat) : Int) = c }) (fun x => [(0, true, str c), (3, true, i64 ((x.1 + 1 : Nat) : Int))]) (fun _ => St w [] [] M) (fun x => 39 - x.1) ⟨0, by omega, by intro j hj; omega⟩ pE (fun _ h => h) ?_
  rintro ⟨i, hi, hall⟩
  dsimp only
  rcases Nat.lt_or_ge i 39 with hlt | hge
  · repeat' (first | refine sk ?_ | fail)
    refine wc_cond rfl (fun hc => ?_) (fun hc => by exfalso; simp at hc; omega)
    clear hc
    repeat' (first | refine sk ?_ | (refine gL ?_; first | refine wl_v rfl rfl rfl (by first | (exact oc 38 Tryz.call38 (h := fun hcg w hw => rcode_ok hw.laid _))) ?_) | fail)
    refine wc_cond rfl (fun hc => ?_) (fun hc => ?_)
    · rw [known_hit hlt hall (of_decide_eq_true hc)]
      repeat' (first | refine sk ?_ | fail)
      exact wr_tmp rfl rfl rfl
    · repeat' (first | refine sk ?_ | fail)
      refine wn_cut ⟨i + 1, by omega, ?_⟩ (by show 39 - (i + 1) < 39 - i; omega) pE (fun _ h => h)
      intro j hj
      by_cases h : j = i
      · subst h; exact of_decide_eq_false hc
      · exact hall j (by omega)
  · rw [known_none (fun j hj => hall j (by omega))]
    repeat' (first | refine sk ?_ | fail)
    refine wc_cond rfl (fun hc => by exfalso; simp at hc; omega) (fun hc => ?_)
    repeat' (first | refine sk ?_ | fail)
    exact wr_tmp rfl rfl rfl
theorem open_rd {bd : List UInt8} {M' : Ghost} {v : Value} (h : ReadN bd M' v) : ∃ n a1 l1 c1 t a2 l2 c2, v = .tuple #[.agg [str n, .slice a1 l1 c1, str t, .slice a2 l2 c2].toArray, i64 (if (readP bd).isSome then 0 else 10)] ∧ NodeC M' 8 ((readP bd).getD nodeZ) [str n, .slice a1 l1 c1, str t, .slice a2 l2 c2] := by
  obtain ⟨n, a1, l1, c1, t, a2, l2, c2, e, h1, h2, rfl⟩ := read_open h
  exact ⟨_, _, _, _, _, _, _, _, h1, h2⟩
theorem head_ok (hM : Laid M w) {r : Rs} {st : Int} {a l c bd} (hr : RsC M r st a l c bd) (hbd : bd.length ≤ 90000) : Calls Tryz.prog 56 #[.agg [i64 st, .slice a l c, str bd].toArray] w (RetE w (.bool (headB r))) := by
  have hb := hr.2.1
  unfold headB
  rw [hb]
  clear hb hr
  refine fn1 hM Tryz.func56 ?_
  repeat' (first | refine sk ?_ | (refine gL ?_; first | refine xl_alloc (fun _ => ?_) | refine xl_box rfl (fun _ => ?_) | refine xl_store rfl rfl ?_) | fail)
  refine wl_callS rfl Tryz.call72 rfl rfl rfl rfl (fun w hw => rread_ok hw.laid bd (by omega)) ?_
  rintro _ H1 M1 hm1 hn1 ⟨rfl, hR⟩
  obtain ⟨n, a1, l1, c1, t, a2, l2, c2, rfl, hx⟩ := open_rd hR
  clear hR
  cases hrp : readP bd with
  | none =>
    repeat' (first | refine sk ?_ | (refine gL ?_; first | refine wl_v rfl rfl rfl (by first | (exact ov_off (v := .bool false) rfl)) ?_ | refine xl_alloc (fun _ => ?_) | refine xl_box rfl (fun _ => ?_) | refine xl_store rfl rfl ?_) | fail)
    exact wr_weak (fun _ h => h.drop (List.nil_sublist _)) (wr_tmp rfl rfl rfl)
  | some x =>
    rw [hrp] at hx
    have hat := node_at hx
    rw [show (some x).getD nodeZ = x from rfl] at hat
    obtain ⟨aa, acap, ab, ao, acs, aT, afz, e1, k1, k2, k3, k4⟩ := SlP.open hat
    cases e1
    simp only
    by_cases hl : (atN x).length = 1
    · obtain ⟨rfl, hMb⟩ := k3 (by intro e; rw [e] at hl; simp at hl)
      have gi := pcell2 (k4 0 (by omega))
      obtain ⟨p, hp⟩ := List.length_eq_one_iff.1 hl
      have hp0 : (atN x).getD 0 default = p := by rw [hp]; rfl
      rw [hp0] at gi
      have hfin : decide (atN x = [(sNs, sSpace)]) = (decide (p.1 = sNs) && (decide (p.2 = sSpace) && true)) := by
        rw [hp, Bool.eq_iff_iff]
        simp only [Bool.and_eq_true, decide_eq_true_eq, and_true]
        constructor
        · intro h; simp only [List.cons.injEq, and_true] at h; rw [h]; exact ⟨rfl, rfl⟩
        · rintro ⟨h1, h2⟩; rw [← h1, ← h2]
      rw [hfin, hl]
      rw [hl] at k1
      repeat' (first | refine sk ?_ | (refine gL ?_; first | refine wl_v rfl rfl rfl (by first | (show OpV _ _ _ _ (Oper.mk _ (Op.indexAddr _ _ _) _ _ _ _) _ _; exact ov_indexAddr (i := 0) (b := ab) (o := ao) rfl rfl rfl pI pI rfl pZ (fun _ => rfl) (fun _ => by omega)) | (show OpV _ _ _ _ (Oper.mk _ (Op.load _ _) _ _ _ _) _ _; exact ov_loadSM (l := [str p.1, str p.2]) rfl pI rfl pZ (fun _ => hMb) (fun _ => gi))) ?_ | refine xl_alloc (fun _ => ?_) | refine xl_box rfl (fun _ => ?_) | refine xl_store rfl rfl ?_) | fail)
      exact wr_weak (fun _ h => h.drop (List.nil_sublist _)) (wr_tmp rfl rfl rfl)
    · have hfin : decide (atN x = [(sNs, sSpace)]) = false := by
        rw [decide_eq_false_iff_not]
        intro h; rw [h] at hl; exact hl rfl
      have hne : ((atN x).length : Int) ≠ 1 := by omega
      rw [hfin]
      repeat' (first | ((show WL _ _ (Oper.mk _ (Op.binOp BinOp.eql _ _ (.const (.int .i64 1)) _) _ _ _ _ :: _) _ _ _ _; refine wl_v rfl rfl rfl (opv_eq (ov_eql rfl rfl pI pI) (decide_eq_false hne)) ?_)) | (first | refine sk1 ?_ | (refine gL ?_; first | refine wl_v rfl rfl rfl (by first | (exact ov_off (v := .bool false) rfl)) ?_ | refine xl_alloc (fun _ => ?_) | refine xl_box rfl (fun _ => ?_) | refine xl_store rfl rfl ?_) | fail) | (refine wc_cond rfl (fun hc => ?_) (fun hc => ?_) <;> (try (simp only [bls] at hc)) <;> (try (exfalso; first | omega | contradiction))))
      exact wr_weak (fun _ h => h.drop (List.nil_sublist _)) (wr_tmp rfl rfl rfl)
end Go.Proofs.YtgfbieplidpebaaGreatDoor
/-
  matricularef24.top, failed, body.
-/
namespace Go.Proofs.YtgfbieplidpebaaGreatDoor
open Go.Eng Go.Pct Go.Xml Go.Cas
set_option maxRecDepth 10000
set_option linter.unusedSimpArgs false
set_option linter.unusedVariables false

variable {M : Ghost} {w0 w : World} {bs : List Nat} {H : List (Nat × Obj)}
/-- where the look has come to -/
def Way (x : Nd) (names : List (List UInt8)) (i : Nat) (y : Nd) : Prop := if i < names.length then topN x names = topN y (names.drop i) else topN x names = some y
theorem way_zero (x : Nd) (names : List (List UInt8)) : Way x names 0 x := by
  unfold Way
  split
  · rfl
  · rename_i h
    have : names = [] := List.eq_nil_of_length_eq_zero (by omega)
    rw [this]; rfl
structure WQ (M : Ghost) (D : Nat) (x : Nd) (names : List (List UInt8)) where
  i : Nat
  hi : i ≤ names.length
  y : Nd
  n : List UInt8
  a1 : Option Addr
  l1 : Nat
  c1 : Nat
  t : List UInt8
  a2 : Option Addr
  l2 : Nat
  c2 : Nat
  node : NodeC M (D + 1) y [str n, .slice a1 l1 c1, str t, .slice a2 l2 c2]
  way : Way x names i y
/-- what top yields -/
def TopIs (M' : Ghost) (D : Nat) (o : Option Nd) (v : Value) : Prop := ∃ n a1 l1 c1 t a2 l2 c2, v = .tuple #[.agg [str n, .slice a1 l1 c1, str t, .slice a2 l2 c2].toArray, .bool o.isSome] ∧ NodeC M' (D + 1) (o.getD nodeZ) [str n, .slice a1 l1 c1, str t, .slice a2 l2 c2]
set_option maxHeartbeats 1000000 in
theorem top_ok (hM : Laid M w) {r : Rs} {st : Int} {a l c bd} (hr : RsC M r st a l c bd) (hbd : bd.length ≤ 90000) (kind : List UInt8) {vp : Value} {names : List (List UInt8)} (hp : SlS M vp names) : Calls Tryz.prog 55 #[.agg [i64 st, .slice a l c, str bd].toArray, str kind, vp] w (RetS M w (fun M' H v => H = [] ∧ TopIs M' 8 (topR r kind names) v)) := by
  obtain ⟨na, ncap, nb, no, ncs, nT, nfz, rfl, g1, g2, g3, g4⟩ := hp.open
  have htn : ¬ (st = 200 ∧ r.headers = [(sCT, kind)]) → topR r kind names = none := fun h => by
    unfold topR; rw [if_neg (by unfold hdrOk; rw [hr.1]; exact h)]
  have hty : st = 200 → r.headers = [(sCT, kind)] → topR r kind names = (match readP bd with | some x => topN x names | none => none) := fun h1 h2 => by
    unfold topR; rw [if_pos (by unfold hdrOk; rw [hr.1]; exact ⟨h1, h2⟩), hr.2.1]
    cases readP bd <;> rfl
  have hhd := hr.2.2
  generalize topR r kind names = out at *
  generalize r.headers = hs at *
  clear hr
  obtain ⟨ha, hcap, hbk, ho, hcs, hT, hfz, e1, k1, k2, k3, k4⟩ := SlP.open hhd
  cases e1
  refine fn3 hM Tryz.func55 ?_
  by_cases h1 : st = 200 ∧ hs.length = 1
  · obtain ⟨rfl, hl⟩ := h1
    obtain ⟨rfl, hMb⟩ := k3 (by intro e; rw [e] at hl; simp at hl)
    have gi := pcell2 (k4 0 (by omega))
    obtain ⟨p, rfl⟩ := List.length_eq_one_iff.1 hl
    have hp0 : ([p] : List Go.Pct.Pr).getD 0 default = p := rfl
    rw [hp0] at gi
    repeat' (first | (first | (show WL _ _ (Oper.mk _ (Op.binOp BinOp.neq _ _ _ _) _ _ _ _ :: _) _ _ _ _; refine wl_v rfl rfl rfl (opv_eq (ov_neq rfl rfl pI pI) (ndF (by omega))) ?_) | (show WL _ _ (Oper.mk _ (Op.binOp BinOp.neq _ _ _ _) _ _ _ _ :: _) _ _ _ _; refine wl_v rfl rfl rfl (opv_eq (ov_neq rfl rfl pI pI) (ndT (by omega))) ?_)) | (first | refine sk1 ?_ | (refine gL ?_; first | refine wl_v rfl rfl rfl (by first | (show OpV _ _ _ _ (Oper.mk _ (Op.indexAddr _ _ _) _ _ _ _) _ _; exact ov_indexAddr (i := 0) (b := hbk) (o := ho) rfl rfl rfl pI pI rfl pZ (fun _ => rfl) (fun _ => by simp)) | (show OpV _ _ _ _ (Oper.mk _ (Op.load _ _) _ _ _ _) _ _; exact ov_loadSM (l := [str p.1, str p.2]) rfl pI rfl pZ (fun _ => hMb) (fun _ => gi))) ?_ | refine xl_alloc (fun _ => ?_) | refine xl_box rfl (fun _ => ?_) | refine xl_store rfl rfl ?_) | fail) | (refine wc_cond rfl (fun hc => ?_) (fun hc => ?_) <;> (try (simp only [bls] at hc)) <;> (try (exfalso; first | omega | contradiction))))
    · have hno : ¬ (200 = (200 : Int) ∧ [p] = [(sCT, kind)]) := by
        rintro ⟨_, h⟩
        have h : p = (sCT, kind) := by simpa using h
        rw [h] at hc
        revert hc
        show ¬ (¬ sCT = sCT ∨ ¬ kind = kind ∨ true = false)
        simp
      rw [htn hno]
      exact yr_layC2 (Hn := []) rfl rfl rfl rfl rfl Since.refl (List.nil_sublist _) ⟨rfl, _, _, _, _, _, _, _, _, rfl, nodeZ_ok⟩
    have hpe : [p] = [(sCT, kind)] := by
      obtain ⟨h1, h2, _⟩ := hc
      rw [show p = (sCT, kind) from Prod.ext h1 h2]
    rw [hty rfl hpe]
    clear htn hty hhd k1 k2 k3 k4 hpe
    rename_i b3 b6
    refine wl_callS rfl Tryz.call72 rfl rfl rfl rfl (fun w hw => rread_ok hw.laid bd (by omega)) ?_
    rintro _ H1 M1 hm1 hn1 ⟨rfl, hR⟩
    obtain ⟨n1, p1, q1, r1, t1, p1', q1', r1', rfl, hx⟩ := open_rd hR
    have si1 := Since.refl.step hm1 hn1
    clear hR hc gi
    cases hrp : readP bd with
    | none =>
      simp only
      repeat' (first | refine sk ?_ | (refine gL ?_; first | refine xl_alloc (fun _ => ?_) | refine xl_box rfl (fun _ => ?_) | refine xl_store rfl rfl ?_) | fail)
      refine wc_cond rfl (fun hc => ?_) (fun hc => by exfalso; simp at hc)
      repeat' (first | refine sk ?_ | (refine gL ?_; first | refine xl_alloc (fun _ => ?_) | refine xl_box rfl (fun _ => ?_) | refine xl_store rfl rfl ?_) | fail)
      exact yr_layC2 (Hn := []) rfl rfl rfl rfl rfl si1 (List.nil_sublist _) ⟨rfl, _, _, _, _, _, _, _, _, rfl, nodeZ_ok⟩
    | some x =>
      rw [hrp] at hx
      simp only
      repeat' (first | refine sk ?_ | (refine gL ?_; first | refine xl_alloc (fun _ => ?_) | refine xl_box rfl (fun _ => ?_) | refine xl_store rfl rfl ?_) | fail)
      refine wc_cond rfl (fun hc => by exfalso; simp at hc) (fun hc => ?_)
      clear hc
      repeat' (first | refine sk ?_ | (refine gL ?_; first | refine xl_alloc (fun _ => ?_) | refine xl_box rfl (fun _ => ?_) | refine xl_store rfl rfl ?_) | fail)
      rename_i b8
      refine wc_loop (α := WQ M1 7 x names) (fun z => [(2, true, .slice na names.length ncap), (6, true, .pointer (some ⟨b6, 0, none⟩)), (8, true, .pointer (some ⟨b8, 0, none⟩)), (10, true, i64 (z.i : Int))]) (fun z => St w [] [(b8, .cells [str z.n, .slice z.a1 z.l1 z.c1, str z.t, .slice z.a2 z.l2 z.c2].toArray tNd (0, 0)), (b6, .cells [str [], .slice none 0 0, str [], .slice none 0 0].toArray tNd (0, 0))] M1) (fun z => names.length - z.i) ⟨0, Nat.zero_le _, x, n1, p1, q1, r1, t1, p1', q1', r1', hx, way_zero x names⟩ pE (fun _ h => h.drop (List.Sublist.cons_cons _ (List.Sublist.cons_cons _ (List.nil_sublist _)))) ?_
      rintro ⟨i, hi, y, yn, y1, m1, d1, yt, y2, m2, d2, node, way⟩
      dsimp only
      rcases Nat.lt_or_ge i names.length with hlt | hge
      · have hne : names ≠ [] := by intro e; rw [e] at hlt; simp at hlt
        obtain ⟨rfl, hMb⟩ := g3 hne
        have gi := g4 i hlt
        have hnm := node_nm node
        have hdr : names.drop i = names.getD i default :: names.drop (i + 1) := by
          have e : names.getD i default = names[i] := by simp [hlt]
          rw [e]; exact List.drop_eq_getElem_cons hlt
        unfold Way at way
        rw [if_pos hlt, hdr] at way
        generalize names.getD i default = q at *
        repeat' (first | refine sk ?_ | (refine gL ?_; first | refine xl_alloc (fun _ => ?_) | refine xl_box rfl (fun _ => ?_) | refine xl_store rfl rfl ?_) | fail)
        refine wc_cond rfl (fun hc => ?_) (fun hc => by exfalso; simp at hc; omega)
        clear hc
        repeat' (first | refine sk ?_ | (refine gL ?_; first | refine xl_alloc (fun _ => ?_) | refine xl_box rfl (fun _ => ?_) | refine xl_store rfl rfl ?_) | fail)
        refine wc_draw 7 (by kernel_rfl) rfl (by kernel_rfl) (fun _ _ h k => h.ext k) ?_
        repeat' (first | (refine gD ?_; first | refine yd_v rfl rfl rfl rfl rfl rfl ?_ | refine wd_v rfl rfl rfl rfl rfl rfl (by first | (show OpV _ _ _ _ (Oper.mk _ (Op.indexAddr _ _ _) _ _ _ _) _ _; exact ov_indexAddr (i := i) (b := nb) (o := no) rfl rfl rfl pI pI rfl pZ (fun _ => rfl) pS) | (show OpV _ _ _ _ (Oper.mk _ (Op.load _ _) _ _ _ _) _ _; exact ov_load1M rfl pI rfl rfl (fun _ => hm1 _ _ hMb) (fun _ => gi))) ?_ | refine yd_new rfl rfl rfl rfl rfl rfl ?_ | refine wd_conv rfl rfl rfl rfl rfl rfl rfl rfl rfl rfl ?_) | (refine gE ?_; first | refine wd_nil ?_ | refine wd_nilF ?_) | (first | refine sk ?_ | (refine gL ?_; first | refine wl_v rfl rfl rfl (by first | (show OpV _ _ _ _ (Oper.mk _ (Op.indexAddr _ _ _) _ _ _ _) _ _; exact ov_indexAddr (i := i) (b := nb) (o := no) rfl rfl rfl pI pI rfl pZ (fun _ => rfl) pS) | (show OpV _ _ _ _ (Oper.mk _ (Op.load _ _) _ _ _ _) _ _; exact ov_load1M rfl pI rfl rfl (fun _ => hm1 _ _ hMb) (fun _ => gi))) ?_ | refine xl_alloc (fun _ => ?_) | refine xl_box rfl (fun _ => ?_) | refine xl_store rfl rfl ?_) | fail))
        refine wc_cond rfl (fun hc => ?_) (fun hc => ?_)
        · have hno : ¬ nmN y = q := by rw [hnm]; simpa using hc
          have hz : topN x names = none := by
            rw [way]
            cases names.drop (i + 1) with
            | nil => rw [topN, if_neg hno]
            | cons q2 l2 => rw [topN, if_neg (fun h => hno h.1)]
          rw [hz]
          repeat' (first | refine sk ?_ | (refine gL ?_; first | refine xl_alloc (fun _ => ?_) | refine xl_box rfl (fun _ => ?_) | refine xl_store rfl rfl ?_) | fail)
          exact yr_layC2 (Hn := []) rfl rfl rfl rfl rfl si1 (List.nil_sublist _) ⟨rfl, _, _, _, _, _, _, _, _, rfl, nodeZ_ok⟩
        · have hyes : nmN y = q := by rw [hnm]; simpa using hc
          clear hc
          by_cases hlast : i + 1 < names.length
          · have hdr2 : names.drop (i + 1) = names.getD (i + 1) default :: names.drop (i + 1 + 1) := by
              have e : names.getD (i + 1) default = names[i + 1] := by simp [hlast]
              rw [e]; exact List.drop_eq_getElem_cons hlast
            have hkd := node_kd node
            obtain ⟨ka, kcap, kb, ko, kcs, kT, kfz, e2, k1, k2, k3, k4⟩ := Sl.open hkd
            cases e2
            rw [hdr2, topN] at way
            rw [← hdr2] at way
            repeat' (first | refine sk ?_ | (refine gL ?_; first | refine xl_alloc (fun _ => ?_) | refine xl_box rfl (fun _ => ?_) | refine xl_store rfl rfl ?_) | fail)
            refine wc_cond rfl (fun hc => ?_) (fun hc => by exfalso; simp at hc; omega)
            clear hc
            repeat' (first | refine sk ?_ | (refine gL ?_; first | refine xl_alloc (fun _ => ?_) | refine xl_box rfl (fun _ => ?_) | refine xl_store rfl rfl ?_) | fail)
            refine wc_cond rfl (fun hc => ?_) (fun hc => ?_)
            · have hk1 : ¬ (kdN y).length = 1 := by
                intro h; rw [h] at hc; simp at hc
              rw [if_neg (fun h => hk1 h.2)] at way
              rw [way]
              repeat' (first | refine sk ?_ | (refine gL ?_; first | refine xl_alloc (fun _ => ?_) | refine xl_box rfl (fun _ => ?_) | refine xl_store rfl rfl ?_) | fail)
              exact yr_layC2 (Hn := []) rfl rfl rfl rfl rfl si1 (List.nil_sublist _) ⟨rfl, _, _, _, _, _, _, _, _, rfl, nodeZ_ok⟩
            · have hk1 : (kdN y).length = 1 := by
                have : ((kdN y).length : Int) = 1 := by simpa using hc
                omega
              rw [if_pos ⟨hyes, hk1⟩] at way
              obtain ⟨rfl, hMk⟩ := k3 (by intro e; rw [e] at hk1; simp at hk1)
              obtain ⟨us, hu4, hus, hcells⟩ := k4 0 (by omega)
              obtain ⟨vn, ua1, ul1, uc1, vt, ua2, ul2, uc2, rfl⟩ := node_open hus
              have hgk : (kdN y).getD 0 nodeZ = (kdN y)[0]'(by omega) := getD_nd (by omega)
              rw [hgk] at way
              repeat' (first | refine sk ?_ | (refine gL ?_; first | refine wl_v rfl rfl rfl (by first | (show OpV _ _ _ _ (Oper.mk _ (Op.indexAddr _ _ _) _ _ _ _) _ _; exact ov_indexAddr (i := 0) (b := kb) (o := ko) rfl rfl rfl pI pI rfl pZ (fun _ => rfl) (fun _ => by omega)) | (show OpV _ _ _ _ (Oper.mk _ (Op.load _ _) _ _ _ _) _ _; exact ov_loadSM (l := [str vn, .slice ua1 ul1 uc1, str vt, .slice ua2 ul2 uc2]) rfl pI rfl pZ (fun _ => hMk) (fun _ j hj => hcells j hj))) ?_ | refine xl_alloc (fun _ => ?_) | refine xl_box rfl (fun _ => ?_) | refine xl_store rfl rfl ?_) | fail)
              exact wn_cut ⟨i + 1, by omega, (kdN y)[0]'(by omega), vn, ua1, ul1, uc1, vt, ua2, ul2, uc2, NodeC.up (Nat.le_succ _) hus, by unfold Way; rw [if_pos hlast]; exact way⟩ (by show names.length - (i + 1) < names.length - i; omega) pE (fun _ h => h)
          · have hdr2 : names.drop (i + 1) = [] := List.drop_eq_nil_of_le (by omega)
            rw [hdr2, topN, if_pos hyes] at way
            repeat' (first | refine sk ?_ | (refine gL ?_; first | refine xl_alloc (fun _ => ?_) | refine xl_box rfl (fun _ => ?_) | refine xl_store rfl rfl ?_) | fail)
            refine wc_cond rfl (fun hc => by exfalso; simp at hc; omega) (fun hc => ?_)
            repeat' (first | refine sk ?_ | (refine gL ?_; first | refine xl_alloc (fun _ => ?_) | refine xl_box rfl (fun _ => ?_) | refine xl_store rfl rfl ?_) | fail)
            exact wn_cut ⟨i + 1, by omega, y, yn, y1, m1, d1, yt, y2, m2, d2, node, by unfold Way; rw [if_neg hlast]; exact way⟩ (by show names.length - (i + 1) < names.length - i; omega) pE (fun _ h => h)
      · obtain rfl : i = names.length := by omega
        unfold Way at way
        rw [if_neg (by omega)] at way
        rw [way]
        repeat' (first | refine sk ?_ | (refine gL ?_; first | refine xl_alloc (fun _ => ?_) | refine xl_box rfl (fun _ => ?_) | refine xl_store rfl rfl ?_) | fail)
        refine wc_cond rfl (fun hc => by exfalso; simp at hc) (fun hc => ?_)
        repeat' (first | refine sk ?_ | (refine gL ?_; first | refine xl_alloc (fun _ => ?_) | refine xl_box rfl (fun _ => ?_) | refine xl_store rfl rfl ?_) | fail)
        exact yr_layC2 (Hn := []) rfl rfl rfl rfl rfl si1 (List.nil_sublist _) ⟨rfl, _, _, _, _, _, _, _, _, rfl, NodeC.mono (fun _ _ => .inl) (NodeC.up (Nat.le_succ _) node)⟩
  · rw [htn (by rintro ⟨h2, h3⟩; exact h1 ⟨h2, by rw [h3]; rfl⟩)]
    by_cases h2 : st = 200
    · have hl : ¬ hs.length = 1 := fun h => h1 ⟨h2, h⟩
      repeat' (first | (first | (show WL _ _ (Oper.mk _ (Op.binOp BinOp.neq _ _ _ _) _ _ _ _ :: _) _ _ _ _; refine wl_v rfl rfl rfl (opv_eq (ov_neq rfl rfl pI pI) (ndF (by omega))) ?_) | (show WL _ _ (Oper.mk _ (Op.binOp BinOp.neq _ _ _ _) _ _ _ _ :: _) _ _ _ _; refine wl_v rfl rfl rfl (opv_eq (ov_neq rfl rfl pI pI) (ndT (by omega))) ?_)) | (first | refine sk1 ?_ | (refine gL ?_; first | refine wl_v rfl rfl rfl (by first | (exact ov_off (v := .bool false) rfl)) ?_ | refine xl_alloc (fun _ => ?_) | refine xl_box rfl (fun _ => ?_) | refine xl_store rfl rfl ?_) | fail) | (refine wc_cond rfl (fun hc => ?_) (fun hc => ?_) <;> (try (simp only [bls] at hc)) <;> (try (exfalso; first | omega | contradiction))))
      all_goals exact yr_layC2 (Hn := []) rfl rfl rfl rfl rfl Since.refl (List.nil_sublist _) ⟨rfl, _, _, _, _, _, _, _, _, rfl, nodeZ_ok⟩
    · repeat' (first | (first | (show WL _ _ (Oper.mk _ (Op.binOp BinOp.neq _ _ _ _) _ _ _ _ :: _) _ _ _ _; refine wl_v rfl rfl rfl (opv_eq (ov_neq rfl rfl pI pI) (ndF (by omega))) ?_) | (show WL _ _ (Oper.mk _ (Op.binOp BinOp.neq _ _ _ _) _ _ _ _ :: _) _ _ _ _; refine wl_v rfl rfl rfl (opv_eq (ov_neq rfl rfl pI pI) (ndT (by omega))) ?_)) | (first | refine sk1 ?_ | (refine gL ?_; first | refine wl_v rfl rfl rfl (by first | (exact ov_off (v := .bool false) rfl)) ?_ | refine xl_alloc (fun _ => ?_) | refine xl_box rfl (fun _ => ?_) | refine xl_store rfl rfl ?_) | fail) | (refine wc_cond rfl (fun hc => ?_) (fun hc => ?_) <;> (try (simp only [bls] at hc)) <;> (try (exfalso; first | omega | contradiction))))
      all_goals exact yr_layC2 (Hn := []) rfl rfl rfl rfl rfl Since.refl (List.nil_sublist _) ⟨rfl, _, _, _, _, _, _, _, _, rfl, nodeZ_ok⟩
theorem rfailed_none {r : Rs} {name text : List UInt8} (h : topR r sXml [sResp, name] = none) : rfailed r name text = ([], false) := by unfold rfailed; rw [h]
theorem rfailed_bad {r : Rs} {n : Nd} {name text : List UInt8} (h : topR r sXml [sResp, name] = some n) (h2 : ¬ failOk n text) : rfailed r name text = ([], false) := by unfold rfailed; rw [h]; simp only; rw [if_neg h2]
theorem rfailed_some {r : Rs} {n : Nd} {name text : List UInt8} (h : topR r sXml [sResp, name] = some n) (h2 : failOk n text) : rfailed r name text = if codesB (valN n) = true then (valN n, headB r) else ([], false) := by unfold rfailed; rw [h]; simp only; rw [if_pos h2]
set_option maxHeartbeats 1000000 in
theorem failed24_ok (hM : Laid M w) {r : Rs} {st : Int} {a l c bd} (hr : RsC M r st a l c bd) (hbd : bd.length ≤ 90000) (name text : List UInt8) : Calls Tryz.prog 54 #[.agg [i64 st, .slice a l c, str bd].toArray, str name, str text] w (RetE w (.tuple #[str (rfailed r name text).1, .bool (rfailed r name text).2])) := by
  refine fn3 hM Tryz.func54 ?_
  repeat' (first | refine sk ?_ | (refine gL ?_; first | refine xl_alloc (fun _ => ?_) | refine xl_box rfl (fun _ => ?_) | refine xl_store rfl rfl ?_ | refine xl_buildSlice rfl (fun _ => ?_)) | fail)
  rename_i b3 bq
  refine wl_publish (H1 := [(bq, .cells (cellsS [sResp, name]).toArray 9 (0, 0))]) (fun hn => ?_)
  have hp : SlS (With M [(bq, .cells (cellsS [sResp, name]).toArray 9 (0, 0))]) (.slice (some ⟨bq, 0, none⟩) 2 2) [sResp, name] := slS_blk (l := [sResp, name]) (.inr (List.Mem.head _)) (by simp)
  have hr1 : RsC (With M [(bq, .cells (cellsS [sResp, name]).toArray 9 (0, 0))]) r st a l c bd := ⟨hr.1, hr.2.1, Sl.mono hr.2.2 (fun _ _ => .inl) (fun _ _ _ h => h)⟩
  clear hr hn
  generalize With M [(bq, .cells (cellsS [sResp, name]).toArray 9 (0, 0))] = M1 at *
  refine wl_callS rfl Tryz.call55 rfl rfl rfl rfl (fun w hw => top_ok hw.laid hr1 hbd sXml hp) ?_
  rintro _ H2 M2 hm2 hn2 ⟨rfl, n1, p1, q1, r1, t1, p1', q1', r1', rfl, hx⟩
  have hr2 : RsC M2 r st a l c bd := ⟨hr1.1, hr1.2.1, Sl.mono hr1.2.2 hm2 (fun _ _ _ h => h)⟩
  have hhd := fun {w : World} (hw : Laid M2 w) => head_ok hw hr2 hbd
  clear hr1 hp hn2
  cases htop : topR r sXml [sResp, name] with
  | none =>
    rw [rfailed_none htop]
    repeat' (first | refine sk ?_ | (refine gL ?_; first | refine wl_v rfl rfl rfl (by first | (exact ov_off (v := .bool false) rfl)) ?_ | refine xl_alloc (fun _ => ?_) | refine xl_box rfl (fun _ => ?_) | refine xl_store rfl rfl ?_ | refine xl_buildSlice rfl (fun _ => ?_)) | fail)
    refine wc_cond rfl (fun hc => ?_) (fun hc => by exfalso; simp at hc)
    repeat' (first | refine sk ?_ | (refine gL ?_; first | refine xl_alloc (fun _ => ?_) | refine xl_box rfl (fun _ => ?_) | refine xl_store rfl rfl ?_ | refine xl_buildSlice rfl (fun _ => ?_)) | fail)
    exact wr_weak (fun _ h => h.drop (List.nil_sublist _)) (wr_tmp2 rfl rfl rfl rfl rfl)
  | some n =>
    rw [htop] at hx
    rw [show (some n).getD nodeZ = n from rfl] at hx
    have hat := node_at hx
    have hkd := node_kd hx
    have htx := node_tx hx
    obtain ⟨aa, acap, ab, ao, acs, aT, afz, e1, k1, k2, k3, k4⟩ := SlP.open hat
    obtain ⟨ka, kcap, kb, ko, kcs, kT, kfz, e2, _⟩ := Sl.open hkd
    cases e1; cases e2
    by_cases hl : (atN n).length = 1
    · obtain ⟨rfl, hMb⟩ := k3 (by intro e; rw [e] at hl; simp at hl)
      have gi := k4 0 (by omega)
      have hfo : failOk n text ↔ (((atN n).getD 0 default).1 = sCode ∧ t1 = text ∧ (kdN n).length = 0) := by
        unfold failOk
        rw [htx]
        constructor
        · rintro ⟨_, h1, h2, h3⟩; exact ⟨h1, h2, by rw [h3]; rfl⟩
        · rintro ⟨h1, h2, h3⟩; exact ⟨hl, h1, h2, List.eq_nil_of_length_eq_zero h3⟩
      have hrs := fun h => rfailed_some (text := text) htop h
      have hrb := fun h => rfailed_bad (text := text) htop h
      unfold valN at hrs
      clear hat hkd htx hx k1 k2 k3 k4 htop
      generalize (atN n).getD 0 default = p at *
      generalize headB r = hb at *
      have hcd := fun {w : World} (hw : Laid M2 w) => codes24_ok hw p.2
      generalize codesB p.2 = cb at *
      repeat' (first | (first | (show WL _ _ (Oper.mk _ (Op.binOp BinOp.neq _ _ _ _) _ _ _ _ :: _) _ _ _ _; refine wl_v rfl rfl rfl (opv_eq (ov_neq rfl rfl pI pI) (ndF (by omega))) ?_)) | (first | refine sk1 ?_ | (refine gL ?_; first | refine wl_v rfl rfl rfl (by first | (show OpV _ _ _ _ (Oper.mk _ (Op.indexAddr _ _ _) _ _ _ _) _ _; exact ov_indexAddr (i := 0) (b := ab) (o := ao) rfl rfl rfl pI pI rfl pZ (fun _ => rfl) (fun _ => by omega)) | (show OpV _ _ _ _ (Oper.mk _ (Op.load _ _) _ _ _ _) _ _; exact ov_load1M rfl pI rfl rfl (fun _ => hMb) (fun _ => gi.1)) | (show OpV _ _ _ _ (Oper.mk _ (Op.load _ _) _ _ _ _) _ _; exact ov_load1M rfl pI rfl rfl (fun _ => hMb) (fun _ => gi.2)) | (exact oc 71 Tryz.call71 (h := fun hcg w hw => hcd hw.laid))) ?_ | refine xl_alloc (fun _ => ?_) | refine xl_box rfl (fun _ => ?_) | refine xl_store rfl rfl ?_ | refine xl_buildSlice rfl (fun _ => ?_)) | fail) | (refine wc_cond rfl (fun hc => ?_) (fun hc => ?_) <;> (try (simp only [bls] at hc)) <;> (try (exfalso; first | omega | contradiction))))
      · rw [hrb (by
          rw [hfo]
          rintro ⟨h1, h2, h3⟩
          rcases hc with ((h | h) | h) | h
          · cases h
          · exact h h1
          · exact h h2
          · omega)]
        exact wr_weak (fun _ h => h.drop (List.nil_sublist _)) (wr_tmp2 rfl rfl rfl rfl rfl)
      · rename_i hc0
        rw [hrs (hfo.2 ⟨hc0.1.1.2, hc0.1.2, by have := hc0.2; omega⟩), hc, if_neg (by simp)]
        exact wr_weak (fun _ h => h.drop (List.nil_sublist _)) (wr_tmp2 rfl rfl rfl rfl rfl)
      · rename_i hc0
        rw [hrs (hfo.2 ⟨hc0.1.1.2, hc0.1.2, by have := hc0.2; omega⟩), hc, if_pos rfl]
        clear hrs hrb hfo hc hc0 hcd
        refine wc_draw 7 (by kernel_rfl) rfl (by kernel_rfl) (fun _ _ h k => h.ext k) ?_
        repeat' (first | (refine gD ?_; first | refine yd_v rfl rfl rfl rfl rfl rfl ?_ | refine wd_v rfl rfl rfl rfl rfl rfl (by first | (show OpV _ _ _ _ (Oper.mk _ (Op.indexAddr _ _ _) _ _ _ _) _ _; exact ov_indexAddr (i := 0) (b := ab) (o := ao) rfl rfl rfl pI pI rfl pZ (fun _ => rfl) (fun _ => by omega)) | (show OpV _ _ _ _ (Oper.mk _ (Op.load _ _) _ _ _ _) _ _; exact ov_load1M rfl pI rfl rfl (fun _ => hMb) (fun _ => gi.2)) | (exact oc 56 Tryz.call56 (h := fun hcg w hw => hhd hw.laid))) ?_ | refine yd_new rfl rfl rfl rfl rfl rfl ?_ | refine wd_conv rfl rfl rfl rfl rfl rfl rfl rfl rfl rfl ?_) | (refine gE ?_; first | refine wd_nil ?_ | refine wd_nilF ?_) | (first | refine sk ?_ | (refine gL ?_; first | refine wl_v rfl rfl rfl (by first | (show OpV _ _ _ _ (Oper.mk _ (Op.indexAddr _ _ _) _ _ _ _) _ _; exact ov_indexAddr (i := 0) (b := ab) (o := ao) rfl rfl rfl pI pI rfl pZ (fun _ => rfl) (fun _ => by omega)) | (show OpV _ _ _ _ (Oper.mk _ (Op.load _ _) _ _ _ _) _ _; exact ov_load1M rfl pI rfl rfl (fun _ => hMb) (fun _ => gi.2)) | (exact oc 56 Tryz.call56 (h := fun hcg w hw => hhd hw.laid))) ?_ | refine xl_alloc (fun _ => ?_) | refine xl_box rfl (fun _ => ?_) | refine xl_store rfl rfl ?_ | refine xl_buildSlice rfl (fun _ => ?_)) | fail))
        exact wr_weak (fun _ h => h.drop (List.nil_sublist _)) (wr_tmp2 rfl rfl rfl rfl rfl)
    · rw [rfailed_bad htop (fun h => hl h.1)]
      repeat' (first | (first | (show WL _ _ (Oper.mk _ (Op.binOp BinOp.neq _ _ _ _) _ _ _ _ :: _) _ _ _ _; refine wl_v rfl rfl rfl (opv_eq (ov_neq rfl rfl pI pI) (ndT (by omega))) ?_)) | (first | refine sk1 ?_ | (refine gL ?_; first | refine wl_v rfl rfl rfl (by first | (exact ov_off (v := .bool false) rfl)) ?_ | refine xl_alloc (fun _ => ?_) | refine xl_box rfl (fun _ => ?_) | refine xl_store rfl rfl ?_ | refine xl_buildSlice rfl (fun _ => ?_)) | fail) | (refine wc_cond rfl (fun hc => ?_) (fun hc => ?_) <;> (try (simp only [bls] at hc)) <;> (try (exfalso; first | omega | contradiction))))
      · exact wr_weak (fun _ h => h.drop (List.nil_sublist _)) (wr_tmp2 rfl rfl rfl rfl rfl)
      · exact absurd hc.1.1.2 (by simp)
end Go.Proofs.YtgfbieplidpebaaGreatDoor
/-
  matricularef24.body, ReadProxy, ReadForm, ReadPage.
-/
namespace Go.Proofs.YtgfbieplidpebaaGreatDoor
open Go.Eng Go.Pct Go.Xml Go.Cas
set_option maxRecDepth 10000
set_option linter.unusedSimpArgs false
set_option linter.unusedVariables false

variable {M : Ghost} {w0 w : World} {bs : List Nat} {H : List (Nat × Obj)}
theorem bodyR_none {r : Rs} (h : topR r sHtmlT [sHtml, sBody] = none) : bodyR r = none := by unfold bodyR; rw [h]
theorem bodyR_at {r : Rs} {n : Nd} (h : topR r sHtmlT [sHtml, sBody] = some n) : bodyR r = if atN (rd r) = [] ∧ atN (kidN (kdN (rd r)) 0) = [] then some (kdN (kidN (kdN (rd r)) 0)) else none := by unfold bodyR; rw [h]
theorem kid_text {x : Nd} (h : 0 < (kdN x).length) : (textN ((kdN x).getD 0 nodeZ)).length ≤ (textN x).length := by
  have e : (kdN x).getD 0 nodeZ = (kdN x)[0] := by simp [h]
  rw [e]
  exact Nat.le_trans (textL_mem (List.getElem_mem h)) (textN_ge x).2.2.1
theorem top_len : ∀ {names : List (List UInt8)} {x n : Nd}, topN x names = some n → (textN n).length ≤ (textN x).length
  | [], x, n, h => by rw [topN] at h; cases h; exact Nat.le_refl _
  | [p], x, n, h => by
    rw [topN] at h
    split at h
    · cases h; exact Nat.le_refl _
    · cases h
  | p :: q :: l, x, n, h => by
    rw [topN] at h
    split at h
    · rename_i h1
      exact Nat.le_trans (top_len h) (kid_text (by omega))
    · cases h
theorem top_three_len {names : List (List UInt8)} {x n : Nd} (h : topN x names = some n) : (textN n).length ≤ (textN x).length := top_len h
/-- a page's elements, laid -/
def BodyIs (M' : Ghost) (o : Option (List Nd)) (v : Value) : Prop := ∃ a l c, v = .tuple #[.slice a l c, .bool o.isSome] ∧ Sl M' 4 (NodeC M' 8) (.slice a l c) (o.getD [])
set_option maxHeartbeats 1000000 in
theorem body24_ok (hM : Laid M w) {r : Rs} {st : Int} {a l c bd} (hr : RsC M r st a l c bd) (hbd : bd.length ≤ 90000) : Calls Tryz.prog 58 #[.agg [i64 st, .slice a l c, str bd].toArray] w (RetS M w (fun M' H v => H = [] ∧ BodyIs M' (bodyR r) v)) := by
  have hb := hr.2.1
  refine fn1 hM Tryz.func58 ?_
  repeat' (first | refine sk ?_ | (refine gL ?_; first | refine xl_alloc (fun _ => ?_) | refine xl_box rfl (fun _ => ?_) | refine xl_store rfl rfl ?_ | refine xl_buildSlice rfl (fun _ => ?_)) | fail)
  rename_i b3 bq
  refine wl_publish (H1 := [(bq, .cells (cellsS [sHtml, sBody]).toArray 9 (0, 0))]) (fun hn => ?_)
  have hp : SlS (With M [(bq, .cells (cellsS [sHtml, sBody]).toArray 9 (0, 0))]) (.slice (some ⟨bq, 0, none⟩) 2 2) [sHtml, sBody] := slS_blk (l := [sHtml, sBody]) (.inr (List.Mem.head _)) (by simp)
  have hr1 : RsC (With M [(bq, .cells (cellsS [sHtml, sBody]).toArray 9 (0, 0))]) r st a l c bd := ⟨hr.1, hr.2.1, Sl.mono hr.2.2 (fun _ _ => .inl) (fun _ _ _ h => h)⟩
  have si1 := since_new (M0 := M) Since.refl hn
  clear hr hn
  generalize With M [(bq, .cells (cellsS [sHtml, sBody]).toArray 9 (0, 0))] = M1 at *
  refine wl_callS rfl Tryz.call55 rfl rfl rfl rfl (fun w hw => top_ok hw.laid hr1 hbd sHtmlT hp) ?_
  rintro _ H2 M2 hm2 hn2 ⟨rfl, n1, p1, q1, r1, t1, p1', q1', r1', rfl, _⟩
  have si2 := si1.step hm2 hn2
  clear hr1 hp hm2 hn2 si1
  cases htop : topR r sHtmlT [sHtml, sBody] with
  | none =>
    rw [bodyR_none htop]
    repeat' (first | refine sk ?_ | (refine gL ?_; first | refine xl_alloc (fun _ => ?_) | refine xl_box rfl (fun _ => ?_) | refine xl_store rfl rfl ?_ | refine xl_buildSlice rfl (fun _ => ?_)) | fail)
    refine wc_cond rfl (fun hc => ?_) (fun hc => by exfalso; simp at hc)
    repeat' (first | refine sk ?_ | (refine gL ?_; first | refine xl_alloc (fun _ => ?_) | refine xl_box rfl (fun _ => ?_) | refine xl_store rfl rfl ?_ | refine xl_buildSlice rfl (fun _ => ?_)) | fail)
    exact wr_S2 (Hn := []) rfl rfl rfl si2 (List.nil_sublist _) ⟨rfl, _, _, _, rfl, sl_nil⟩
  | some n =>
    obtain ⟨_, x, hx, htp⟩ := topR_some htop
    have hk1 := (top_two htp).1.2
    have hba := bodyR_at htop
    rw [rd_of hx] at hba
    rw [hb] at hx
    clear htop htp hb
    repeat' (first | refine sk ?_ | (refine gL ?_; first | refine xl_alloc (fun _ => ?_) | refine xl_box rfl (fun _ => ?_) | refine xl_store rfl rfl ?_ | refine xl_buildSlice rfl (fun _ => ?_)) | fail)
    refine wc_cond rfl (fun hc => by exfalso; simp at hc) (fun hc => ?_)
    clear hc
    repeat' (first | refine sk ?_ | (refine gL ?_; first | refine xl_alloc (fun _ => ?_) | refine xl_box rfl (fun _ => ?_) | refine xl_store rfl rfl ?_ | refine xl_buildSlice rfl (fun _ => ?_)) | fail)
    refine wl_callS rfl Tryz.call72 rfl rfl rfl rfl (fun w hw => rread_ok hw.laid bd (by omega)) ?_
    rintro _ H3 M3 hm3 hn3 ⟨rfl, hR⟩
    obtain ⟨n3, p3, q3, r3, t3, p3', q3', r3', rfl, hx3⟩ := open_rd hR
    rw [hx] at hx3 ⊢
    rw [show (some x).getD nodeZ = x from rfl] at hx3
    have si3 := si2.step hm3 hn3
    have hat := node_at hx3
    have hkd := node_kd hx3
    clear hR hx3 hm3 hn3 si2
    unfold kidN at hba
    generalize atN x = ax at *
    generalize kdN x = kx at *
    obtain ⟨aa, acap, ab, ao, acs, aT, afz, e1, _⟩ := SlP.open hat
    obtain ⟨ka, kcap, kb, ko, kcs, kT, kfz, e2, k1, k2, k3, k4⟩ := Sl.open hkd
    cases e1; cases e2
    obtain ⟨rfl, hMk⟩ := k3 (by intro e; rw [e] at hk1; simp at hk1)
    obtain ⟨us, hu4, hus, hcells⟩ := k4 0 (by omega)
    obtain ⟨vn, ua1, ul1, uc1, vt, ua2, ul2, uc2, rfl⟩ := node_open hus
    have hat2 := node_at hus
    have hkd2 := node_kd hus
    have hgk : kx.getD 0 nodeZ = kx[0]'(by omega) := getD_nd (by omega)
    rw [hgk] at hba
    generalize kx[0]'(by omega) = y at *
    have hat2' := hat2
    have hkd2' := hkd2
    obtain ⟨ba, bcap, bb, bo, bcs, bT, bfz, e3, _⟩ := SlP.open hat2
    obtain ⟨da, dcap, db, d0, dcs, dT, dfz, e4, _⟩ := Sl.open hkd2
    cases e3; cases e4
    have hcl : (atN y).length = 0 ↔ atN y = [] := List.length_eq_zero_iff
    have hcl2 : ax.length = 0 ↔ ax = [] := List.length_eq_zero_iff
    repeat' (first | (first | refine sk ?_ | (refine gL ?_; first | refine wl_v rfl rfl rfl (by first | (show OpV _ _ _ _ (Oper.mk _ (Op.indexAddr _ _ _) _ _ _ _) _ _; exact ov_indexAddr (i := 0) (b := kb) (o := ko) rfl rfl rfl pI pI rfl pZ (fun _ => rfl) (fun _ => by omega)) | (show OpV _ _ _ _ (Oper.mk _ (Op.load _ _) _ _ _ _) _ _; exact ov_load1M rfl pI rfl rfl (fun _ => hMk) (fun _ => hcells 1 (by simp))) | (show OpV _ _ _ _ (Oper.mk _ (Op.load _ _) _ _ _ _) _ _; exact ov_load1M rfl pI rfl rfl (fun _ => hMk) (fun _ => hcells 3 (by simp)))) ?_ | refine xl_alloc (fun _ => ?_) | refine xl_box rfl (fun _ => ?_) | refine xl_store rfl rfl ?_ | refine xl_buildSlice rfl (fun _ => ?_)) | fail) | (refine wc_cond rfl (fun hc => ?_) (fun hc => ?_) <;> (try (simp only [bls] at hc)) <;> (try (exfalso; first | omega | contradiction))))
    · have hb0 : bodyR r = none := by rw [hba, if_neg (fun h => by have h1 := hcl2.2 h.1; have h2 := hcl.2 h.2; omega)]
      rw [hb0]
      exact wr_S2 (Hn := []) rfl rfl rfl si3 (List.nil_sublist _) ⟨rfl, _, _, _, rfl, sl_nil⟩
    · have hb0 : bodyR r = some (kdN y) := by rw [hba, if_pos ⟨hcl2.1 (by omega), hcl.1 (by omega)⟩]
      rw [hb0]
      exact wr_S2 (Hn := []) rfl rfl rfl si3 (List.nil_sublist _) ⟨rfl, _, _, _, rfl, Sl.mono hkd2' (fun _ _ h => h) (fun _ _ _ h => NodeC.up (by omega) h)⟩
theorem rreadProxy_none {r : Rs} (h : ¬ (rfailed r sPF sNoPt).2 = true) (h2 : topR r sXml [sResp, sPS, sPT] = none) : rreadProxyP r = ([], [], false) := by unfold rreadProxyP; rw [if_neg h, h2]
theorem rreadProxy_some {r : Rs} {n : Nd} (h : ¬ (rfailed r sPF sNoPt).2 = true) (h2 : topR r sXml [sResp, sPS, sPT] = some n) : rreadProxyP r = if headB r = true ∧ leafOk n sPT then (if wr (proxyN (txN n) 0) = r.body then (txN n, [], true) else ([], [], false)) else ([], [], false) := by unfold rreadProxyP; rw [if_neg h, h2]
set_option maxHeartbeats 1000000 in
theorem rReadProxy_ok (hM : Laid M w) {r : Rs} {st : Int} {a l c bd} (hr : RsC M r st a l c bd) (hbd : bd.length ≤ 90000) : Calls Tryz.prog 25 #[.agg [i64 st, .slice a l c, str bd].toArray] w (RetE w (.tuple #[str (rreadProxyP r).1, str (rreadProxyP r).2.1, .bool (rreadProxyP r).2.2])) := by
  have hfl := fun {w : World} (hw : Laid M w) => failed24_ok hw hr hbd sPF sNoPt
  have hb := hr.2.1
  refine fn1 hM Tryz.func25 ?_
  by_cases hfe : (rfailed r sPF sNoPt).2 = true
  · have hrr : rreadProxyP r = ([], (rfailed r sPF sNoPt).1, true) := by unfold rreadProxyP; rw [if_pos hfe]
    rw [hrr]
    rw [hfe] at hfl
    generalize (rfailed r sPF sNoPt).1 = code at *
    repeat' (first | refine sk ?_ | (refine gL ?_; first | refine wl_v rfl rfl rfl (by first | (exact oc 54 Tryz.call54 (h := fun hcg w hw => hfl hw.laid))) ?_ | refine xl_alloc (fun _ => ?_) | refine xl_box rfl (fun _ => ?_) | refine xl_store rfl rfl ?_ | refine xl_buildSlice rfl (fun _ => ?_)) | fail)
    refine wc_cond rfl (fun hc => ?_) (fun hc => by exfalso; simp at hc)
    repeat' (first | refine sk ?_ | (refine gL ?_; first | refine xl_alloc (fun _ => ?_) | refine xl_box rfl (fun _ => ?_) | refine xl_store rfl rfl ?_ | refine xl_buildSlice rfl (fun _ => ?_)) | fail)
    exact wr_weak (fun _ h => h.drop (List.nil_sublist _)) (wr_tmp3 rfl rfl rfl rfl rfl rfl rfl)
  have hrn := rreadProxy_none hfe
  have hrs := fun {n : Nd} => rreadProxy_some (n := n) hfe
  rw [show (rfailed r sPF sNoPt).2 = false from by simpa using hfe] at hfl
  generalize (rfailed r sPF sNoPt).1 = code at *
  repeat' (first | refine sk ?_ | (refine gL ?_; first | refine wl_v rfl rfl rfl (by first | (exact oc 54 Tryz.call54 (h := fun hcg w hw => hfl hw.laid))) ?_ | refine xl_alloc (fun _ => ?_) | refine xl_box rfl (fun _ => ?_) | refine xl_store rfl rfl ?_ | refine xl_buildSlice rfl (fun _ => ?_)) | fail)
  refine wc_cond rfl (fun hc => by exfalso; simp at hc) (fun hc => ?_)
  clear hc hfe hfl
  repeat' (first | refine sk ?_ | (refine gL ?_; first | refine xl_alloc (fun _ => ?_) | refine xl_box rfl (fun _ => ?_) | refine xl_store rfl rfl ?_ | refine xl_buildSlice rfl (fun _ => ?_)) | fail)
  rename_i b1 bq
  refine wl_publish (H1 := [(bq, .cells (cellsS [sResp, sPS, sPT]).toArray 9 (0, 0))]) (fun hn => ?_)
  have hp : SlS (With M [(bq, .cells (cellsS [sResp, sPS, sPT]).toArray 9 (0, 0))]) (.slice (some ⟨bq, 0, none⟩) 3 3) [sResp, sPS, sPT] := slS_blk (l := [sResp, sPS, sPT]) (.inr (List.Mem.head _)) (by simp)
  have hr1 : RsC (With M [(bq, .cells (cellsS [sResp, sPS, sPT]).toArray 9 (0, 0))]) r st a l c bd := ⟨hr.1, hr.2.1, Sl.mono hr.2.2 (fun _ _ => .inl) (fun _ _ _ h => h)⟩
  clear hr hn
  generalize With M [(bq, .cells (cellsS [sResp, sPS, sPT]).toArray 9 (0, 0))] = M1 at *
  refine wl_callS rfl Tryz.call55 rfl rfl rfl rfl (fun w hw => top_ok hw.laid hr1 hbd sXml hp) ?_
  rintro _ H2 M2 hm2 hn2 ⟨rfl, n1, p1, q1, r1, t1, p1', q1', r1', rfl, hx⟩
  have hr2 : RsC M2 r st a l c bd := ⟨hr1.1, hr1.2.1, Sl.mono hr1.2.2 hm2 (fun _ _ _ h => h)⟩
  have hhd := fun {w : World} (hw : Laid M2 w) => head_ok hw hr2 hbd
  clear hr1 hp hn2 hm2 hr2
  cases htop : topR r sXml [sResp, sPS, sPT] with
  | none =>
    rw [hrn htop]
    repeat' (first | refine sk ?_ | (refine gL ?_; first | refine wl_v rfl rfl rfl (by first | (exact ov_off (v := .bool false) rfl)) ?_ | refine xl_alloc (fun _ => ?_) | refine xl_box rfl (fun _ => ?_) | refine xl_store rfl rfl ?_ | refine xl_buildSlice rfl (fun _ => ?_)) | fail)
    refine wc_cond rfl (fun hc => ?_) (fun hc => by exfalso; simp at hc)
    repeat' (first | refine sk ?_ | (refine gL ?_; first | refine xl_alloc (fun _ => ?_) | refine xl_box rfl (fun _ => ?_) | refine xl_store rfl rfl ?_ | refine xl_buildSlice rfl (fun _ => ?_)) | fail)
    exact wr_weak (fun _ h => h.drop (List.nil_sublist _)) (wr_tmp3 rfl rfl rfl rfl rfl rfl rfl)
  | some n =>
    rw [htop] at hx
    rw [show (some n).getD nodeZ = n from rfl] at hx
    have hrs := hrs htop
    have hlf := fun {w : World} (hw : Laid M2 w) => leaf_ok hw hx sPT
    obtain ⟨_, xx, hxx, htp⟩ := topR_some htop
    have htl : (txN n).length ≤ 90000 := by
      have h1 := (readP_text hxx).1
      rw [hb] at h1
      have h2 := top_three_len htp
      have h3 := (textN_ge n).2.1
      rw [h1] at h2
      omega
    have htx := node_tx hx
    rw [htx] at hrs htl
    rw [hrs, hb]
    clear hrs hrn htop hx hxx htp
    generalize headB r = hd at *
    by_cases hlo : leafOk n sPT
    · rw [decide_eq_true hlo] at hlf
      cases hd with
      | false =>
        rw [if_neg (by rintro ⟨h, _⟩; cases h)]
        repeat' (first | refine sk ?_ | (refine gL ?_; first | refine wl_v rfl rfl rfl (by first | (exact oc 56 Tryz.call56 (h := fun hcg w hw => hhd hw.laid)) | (exact oc 57 Tryz.call57 (h := fun hcg w hw => hlf hw.laid)) | (exact ov_off (v := .bool false) rfl)) ?_ | refine xl_alloc (fun _ => ?_) | refine xl_box rfl (fun _ => ?_) | refine xl_store rfl rfl ?_ | refine xl_buildSlice rfl (fun _ => ?_)) | fail)
        refine wc_cond rfl (fun hc => ?_) (fun hc => by exfalso; simp at hc)
        repeat' (first | refine sk ?_ | (refine gL ?_; first | refine xl_alloc (fun _ => ?_) | refine xl_box rfl (fun _ => ?_) | refine xl_store rfl rfl ?_ | refine xl_buildSlice rfl (fun _ => ?_)) | fail)
        exact wr_weak (fun _ h => h.drop (List.nil_sublist _)) (wr_tmp3 rfl rfl rfl rfl rfl rfl rfl)
      | true =>
        rw [if_pos ⟨rfl, hlo⟩]
        repeat' (first | refine sk ?_ | (refine gL ?_; first | refine wl_v rfl rfl rfl (by first | (exact oc 56 Tryz.call56 (h := fun hcg w hw => hhd hw.laid)) | (exact oc 57 Tryz.call57 (h := fun hcg w hw => hlf hw.laid))) ?_ | refine xl_alloc (fun _ => ?_) | refine xl_box rfl (fun _ => ?_) | refine xl_store rfl rfl ?_ | refine xl_buildSlice rfl (fun _ => ?_)) | fail)
        refine wc_cond rfl (fun hc => by exfalso; simp at hc) (fun hc => ?_)
        clear hc hhd hlf
        repeat' (first | refine sk ?_ | (refine gL ?_; first | refine xl_alloc (fun _ => ?_) | refine xl_box rfl (fun _ => ?_) | refine xl_store rfl rfl ?_ | refine xl_buildSlice rfl (fun _ => ?_)) | fail)
        refine wl_callS rfl Tryz.call16 rfl rfl rfl rfl (fun w hw => rProxy_ok hw.laid t1 0 (by omega)) ?_
        rintro _ H3 M3 hm3 hn3 ⟨rfl, a3, l3, c3, rfl, hS3⟩
        generalize wr (proxyN t1 0) = pw at *
        repeat' (first | refine sk ?_ | (refine gL ?_; first | refine xl_alloc (fun _ => ?_) | refine xl_box rfl (fun _ => ?_) | refine xl_store rfl rfl ?_ | refine xl_buildSlice rfl (fun _ => ?_)) | fail)
        refine wc_cond rfl (fun hc => ?_) (fun hc => ?_)
        · rw [if_neg (by simpa using hc)]
          repeat' (first | refine sk ?_ | (refine gL ?_; first | refine xl_alloc (fun _ => ?_) | refine xl_box rfl (fun _ => ?_) | refine xl_store rfl rfl ?_ | refine xl_buildSlice rfl (fun _ => ?_)) | fail)
          exact wr_weak (fun _ h => h.drop (List.nil_sublist _)) (wr_tmp3 rfl rfl rfl rfl rfl rfl rfl)
        · rw [if_pos (by simpa using hc)]
          repeat' (first | refine sk ?_ | (refine gL ?_; first | refine xl_alloc (fun _ => ?_) | refine xl_box rfl (fun _ => ?_) | refine xl_store rfl rfl ?_ | refine xl_buildSlice rfl (fun _ => ?_)) | fail)
          exact wr_weak (fun _ h => h.drop (List.nil_sublist _)) (wr_tmp3 rfl rfl rfl rfl rfl rfl rfl)
    · rw [decide_eq_false hlo] at hlf
      rw [if_neg (fun h => hlo h.2)]
      repeat' (first | refine sk ?_ | (refine gL ?_; first | refine wl_v rfl rfl rfl (by first | (exact oc 56 Tryz.call56 (h := fun hcg w hw => hhd hw.laid)) | (exact oc 57 Tryz.call57 (h := fun hcg w hw => hlf hw.laid)) | (exact ov_off (v := .bool false) rfl)) ?_ | refine xl_alloc (fun _ => ?_) | refine xl_box rfl (fun _ => ?_) | refine xl_store rfl rfl ?_ | refine xl_buildSlice rfl (fun _ => ?_)) | fail)
      refine wc_cond rfl (fun hc => ?_) (fun hc => by exfalso; simp at hc)
      repeat' (first | refine sk ?_ | (refine gL ?_; first | refine xl_alloc (fun _ => ?_) | refine xl_box rfl (fun _ => ?_) | refine xl_store rfl rfl ?_ | refine xl_buildSlice rfl (fun _ => ?_)) | fail)
      exact wr_weak (fun _ h => h.drop (List.nil_sublist _)) (wr_tmp3 rfl rfl rfl rfl rfl rfl rfl)
end Go.Proofs.YtgfbieplidpebaaGreatDoor
