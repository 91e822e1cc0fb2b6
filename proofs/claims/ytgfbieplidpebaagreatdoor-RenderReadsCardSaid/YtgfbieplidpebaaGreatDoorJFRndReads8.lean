/-
  Texts of a proof, joined: RndW, RndX.
-/
import Derived.Test.YtgfbieplidpebaaGreatDoorJFRndReads1
import Derived.Test.YtgfbieplidpebaaGreatDoorJFRndReads2
import Derived.Test.YtgfbieplidpebaaGreatDoorJFRndReads3
import Derived.Test.YtgfbieplidpebaaGreatDoorJFRndReads4
import Derived.Test.YtgfbieplidpebaaGreatDoorJFRndReads5
import Derived.Test.YtgfbieplidpebaaGreatDoorJFRndReads6
import Derived.Test.YtgfbieplidpebaaGreatDoorJFRndReads7
/-
  matricularef24.ReadForm, ReadPage.
-/
namespace Go.Proofs.YtgfbieplidpebaaGreatDoor
open Go.Eng Go.Pct Go.Xml Go.Cas
set_option maxRecDepth 10000
set_option linter.unusedSimpArgs false
set_option linter.unusedVariables false

variable {M : Ghost} {w0 w : World} {bs : List Nat} {H : List (Nat × Obj)}
theorem rf_none {r : Rs} (h : bodyR r = none) : rreadFormP r = ([], [], [], false) := by unfold rreadFormP; rw [h]
theorem rf_len {r : Rs} {l : List Nd} (h : bodyR r = some l) (h2 : ¬ (1 ≤ l.length ∧ l.length ≤ 2)) : rreadFormP r = ([], [], [], false) := by unfold rreadFormP; rw [h]; simp only; rw [if_neg h2]
theorem rf_form {r : Rs} {l : List Nd} (h : bodyR r = some l) (h2 : 1 ≤ l.length ∧ l.length ≤ 2) (h3 : ¬ formOk (kidN l (l.length - 1))) : rreadFormP r = ([], [], [], false) := by unfold rreadFormP; rw [h]; simp only; rw [if_pos h2, if_neg h3]
theorem rf_some {r : Rs} {l : List Nd} (h : bodyR r = some l) (h2 : 1 ≤ l.length ∧ l.length ≤ 2) (h3 : formOk (kidN l (l.length - 1))) : rreadFormP r = if wr (formPN (at2 (kidN l (l.length - 1)) 0) (at2 (kidN l (l.length - 1)) 1) (wrongOf l)) = r.body then (at2 (kidN l (l.length - 1)) 0, at2 (kidN l (l.length - 1)) 1, wrongOf l, true) else ([], [], [], false) := by unfold rreadFormP; rw [h]; simp only; rw [if_pos h2, if_pos h3]
theorem body_len {r : Rs} {l : List Nd} (h : bodyR r = some l) : (textL l).length ≤ r.body.length := by
  obtain ⟨_, x, hx, hk⟩ := bodyR_some h
  by_cases hl : l = []
  · subst hl; exact Nat.zero_le _
  · have h1 := (readP_text hx).1
    have h2 := html_len l
    rw [← hk hl, h1] at h2
    omega
set_option maxHeartbeats 2000000 in
theorem rReadForm_ok (hM : Laid M w) {r : Rs} {st : Int} {a l c bd} (hr : RsC M r st a l c bd) (hbd : bd.length ≤ 90000) : Calls Tryz.prog 27 #[.agg [i64 st, .slice a l c, str bd].toArray] w (RetE w (.tuple #[str (rreadFormP r).1, str (rreadFormP r).2.1, str (rreadFormP r).2.2.1, .bool (rreadFormP r).2.2.2])) := by
  have hb := hr.2.1
  refine fn1 hM Tryz.func27 ?_
  repeat' (first | refine sk ?_ | (refine gL ?_; first | refine xl_alloc (fun _ => ?_) | refine xl_box rfl (fun _ => ?_) | refine xl_store rfl rfl ?_) | fail)
  rename_i b1
  refine wl_callS rfl Tryz.call58 rfl rfl rfl rfl (fun w hw => body24_ok hw.laid hr hbd) ?_
  rintro _ H1 M1 hm1 hn1 ⟨rfl, a1, l1, c1, rfl, hsl⟩
  clear hn1 hm1 hr
  cases hbo : bodyR r with
  | none =>
    rw [rf_none hbo]
    repeat' (first | refine sk ?_ | (refine gL ?_; first | refine wl_v rfl rfl rfl (by first | (exact ov_off (v := .bool false) rfl)) ?_ | refine xl_alloc (fun _ => ?_) | refine xl_box rfl (fun _ => ?_) | refine xl_store rfl rfl ?_) | fail)
    refine wc_cond rfl (fun hc => ?_) (fun hc => by exfalso; simp at hc)
    repeat' (first | refine sk ?_ | (refine gL ?_; first | refine xl_alloc (fun _ => ?_) | refine xl_box rfl (fun _ => ?_) | refine xl_store rfl rfl ?_) | fail)
    exact wr_weak (fun _ h => h.drop (List.nil_sublist _)) (wr_tmp4 rfl rfl rfl rfl rfl rfl rfl rfl rfl)
  | some L =>
    have hrl := rf_len hbo
    have hrf := rf_form hbo
    have hrs := rf_some hbo
    have htl := body_len hbo
    rw [hb] at htl hrs
    rw [hbo] at hsl
    rw [show (some L).getD [] = L from rfl] at hsl
    obtain ⟨ka, kcap, kb, ko, kcs, kT, kfz, e1, k1, k2, k3, k4⟩ := Sl.open hsl
    cases e1
    clear hbo hsl hb
    by_cases hl : 1 ≤ L.length ∧ L.length ≤ 2
    · clear hrl
      have hrf := hrf hl
      have hrs := hrs hl
      have hne : L ≠ [] := by intro e; rw [e] at hl; simp at hl
      obtain ⟨rfl, hMk⟩ := k3 hne
      repeat' (first | refine sk ?_ | (refine gL ?_; first | refine xl_alloc (fun _ => ?_) | refine xl_box rfl (fun _ => ?_) | refine xl_store rfl rfl ?_) | fail)
      refine wc_cond rfl (fun hc => by exfalso; simp at hc; omega) (fun hc => ?_)
      clear hc
      repeat' (first | refine sk ?_ | (refine gL ?_; first | refine xl_alloc (fun _ => ?_) | refine xl_box rfl (fun _ => ?_) | refine xl_store rfl rfl ?_) | fail)
      refine wc_split (α := Unit) (fun _ => [(1, true, .pointer (some ⟨b1, 0, none⟩)), (6, true, .slice (some ⟨kb, ko, none⟩) L.length c1), (8, true, str (wrongOf L))]) (fun _ => St w [] [(b1, .cells [i64 st, .slice a l c, str bd].toArray 31 (0, 0))] M1) ?_ ?_
      · refine wc_cond rfl (fun hc => ?_) (fun hc => ?_)
        · have h2 : L.length = 2 := by
            have : (L.length : Int) = 2 := by simpa using hc
            omega
          obtain ⟨us, hu4, hus, hcells⟩ := k4 0 (by omega)
          obtain ⟨vn, ua1, ul1, uc1, vt, ua2, ul2, uc2, rfl⟩ := node_open hus
          have htx := node_tx hus
          have hw2 : wrongOf L = vt := by
            unfold wrongOf
            rw [if_pos h2, ← htx]
            unfold kidN
            rw [getD_nd (by omega)]
          rw [hw2]
          repeat' (first | refine sk ?_ | (refine gL ?_; first | refine wl_v rfl rfl rfl (by first | (show OpV _ _ _ _ (Oper.mk _ (Op.indexAddr _ _ _) _ _ _ _) _ _; exact ov_indexAddr (i := 0) (b := kb) (o := ko) rfl rfl rfl pI pI rfl pZ (fun _ => rfl) (fun _ => by omega)) | (show OpV _ _ _ _ (Oper.mk _ (Op.load _ _) _ _ _ _) _ _; exact ov_load1M rfl pI rfl rfl (fun _ => hMk) (fun _ => hcells 2 (by simp)))) ?_ | refine xl_alloc (fun _ => ?_) | refine xl_box rfl (fun _ => ?_) | refine xl_store rfl rfl ?_) | fail)
          exact wn_cut () trivial pE (fun _ h => h)
        · have hw2 : wrongOf L = [] := by
            unfold wrongOf
            rw [if_neg]
            intro h
            rw [h] at hc
            simp at hc
          rw [hw2]
          repeat' (first | refine sk ?_ | (refine gL ?_; first | refine xl_alloc (fun _ => ?_) | refine xl_box rfl (fun _ => ?_) | refine xl_store rfl rfl ?_) | fail)
          exact wn_cut () trivial pE (fun _ h => h)
      rintro ⟨⟩
      obtain ⟨us, hu4, hus, hcells⟩ := k4 (L.length - 1) (by omega)
      obtain ⟨vn, ua1, ul1, uc1, vt, ua2, ul2, uc2, rfl⟩ := node_open hus
      have hgk : kidN L (L.length - 1) = L[L.length - 1]'(by omega) := by unfold kidN; exact getD_nd (by omega)
      have hwl : (wrongOf L).length ≤ 90000 := by
        unfold wrongOf
        split
        · have h1 := textL_mem (kid_mem (k := L) (i := 0) (by omega))
          have h2 := (textN_ge (kidN L 0)).2.1
          omega
        · exact Nat.zero_le _
      have hfl := textL_mem (kid_mem (k := L) (i := L.length - 1) (by omega))
      rw [hgk] at hrf hrs hfl
      generalize L[L.length - 1]'(by omega) = f at *
      generalize wrongOf L = wrong at *
      have hl0 := at2_len f 0
      have hl1 := at2_len f 1
      have hkd := node_kd hus
      have hfo : formOk f ↔ ((kdN f).length = 4 ∧ (atN ((kdN f).getD 0 nodeZ)).length = 2 ∧ (atN ((kdN f).getD 1 nodeZ)).length = 2) := Iff.rfl
      have ha0 : at2 f 0 = ((atN ((kdN f).getD 0 nodeZ)).getD 1 default).2 := rfl
      have ha1 : at2 f 1 = ((atN ((kdN f).getD 1 nodeZ)).getD 1 default).2 := rfl
      generalize kdN f = ks at *
      obtain ⟨a7, cap7, b7, o7, cs7, T7, fz7, e7, j1, j2, j3, j4⟩ := Sl.open hkd
      cases e7
      clear hus hkd
      by_cases h4 : ks.length = 4
      · have hne7 : ks ≠ [] := by intro e; rw [e] at h4; simp at h4
        obtain ⟨rfl, hMb⟩ := j3 hne7
        obtain ⟨us0, hu0, hus0, hc0⟩ := j4 0 (by omega)
        obtain ⟨us1, hu1, hus1, hc1⟩ := j4 1 (by omega)
        obtain ⟨un, va1, vl1, vc1, ut, va2, vl2, vc2, rfl⟩ := node_open hus0
        obtain ⟨xn, wa1, wl1, wc1, xt, wa2, wl2, wc2, rfl⟩ := node_open hus1
        have hat0 := node_at hus0
        have hat1 := node_at hus1
        rw [← getD_nd (show 0 < ks.length by omega)] at hat0
        rw [← getD_nd (show 1 < ks.length by omega)] at hat1
        clear hus0 hus1
        generalize atN (ks.getD 0 nodeZ) = A0 at *
        generalize atN (ks.getD 1 nodeZ) = A1 at *
        obtain ⟨aa, acap, ab, ao, acs, aT, afz, ae, q1, q2, q3, q4⟩ := SlP.open hat0
        obtain ⟨ba, bcap, bb, bo, bcs, bT, bfz, be, r1, r2, r3, r4⟩ := SlP.open hat1
        cases ae
        cases be
        by_cases h0 : A0.length = 2
        · by_cases h1 : A1.length = 2
          · obtain ⟨rfl, hMa⟩ := q3 (by intro e; rw [e] at h0; simp at h0)
            obtain ⟨rfl, hMb1⟩ := r3 (by intro e; rw [e] at h1; simp at h1)
            have gi := q4 1 (by omega)
            have ji := r4 1 (by omega)
            rw [← ha0] at gi
            rw [← ha1] at ji
            have hrs := hrs (hfo.2 ⟨h4, h0, h1⟩)
            rw [hrs]
            clear hrs hrf hfo ha0 ha1
            generalize at2 f 0 = lt at *
            generalize at2 f 1 = sv at *
            repeat' (first | (first | (show WL _ _ (Oper.mk _ (Op.binOp BinOp.neq _ _ _ _) _ _ _ _ :: _) _ _ _ _; refine wl_v rfl rfl rfl (opv_eq (ov_neq rfl rfl pI pI) (ndF (by omega))) ?_) | (show WL _ _ (Oper.mk _ (Op.binOp BinOp.neq _ _ _ _) _ _ _ _ :: _) _ _ _ _; refine wl_v rfl rfl rfl (opv_eq (ov_neq rfl rfl pI pI) (ndT (by omega))) ?_)) | (first | refine sk1 ?_ | (refine gL ?_; first | refine wl_v rfl rfl rfl (by first | (show OpV _ _ _ _ (Oper.mk _ (Op.indexAddr _ _ (.const (.int .i64 0))) _ _ _ _) _ _; exact ov_indexAddr (i := 0) (b := b7) (o := o7) rfl rfl rfl pI pI rfl pZ (fun _ => rfl) (fun _ => by omega)) | (show OpV _ _ _ _ (Oper.mk _ (Op.indexAddr _ _ (.const (.int .i64 1))) _ _ _ _) _ _; exact ov_indexAddr (i := 1) (b := b7) (o := o7) rfl rfl rfl pI pI rfl pZ (fun _ => rfl) (fun _ => by omega)) | (show OpV _ _ _ _ (Oper.mk _ (Op.indexAddr _ _ _) _ _ _ _) _ _; exact ov_indexAddr (i := 1) (b := ab) (o := ao) rfl rfl rfl pI pI rfl pZ (fun _ => rfl) (fun _ => by omega)) | (show OpV _ _ _ _ (Oper.mk _ (Op.indexAddr _ _ _) _ _ _ _) _ _; exact ov_indexAddr (i := 1) (b := bb) (o := bo) rfl rfl rfl pI pI rfl pZ (fun _ => rfl) (fun _ => by omega)) | (show OpV _ _ _ _ (Oper.mk _ (Op.load _ _) _ _ _ _) _ _; exact ov_load1M rfl pI rfl rfl (fun _ => hMb) (fun _ => hc0 1 (by decide))) | (show OpV _ _ _ _ (Oper.mk _ (Op.load _ _) _ _ _ _) _ _; exact ov_load1M rfl pI rfl rfl (fun _ => hMb) (fun _ => hc1 1 (by decide))) | (show OpV _ _ _ _ (Oper.mk _ (Op.indexAddr _ _ (.tmp _)) _ _ _ _) _ _; exact ov_indexAddr (i := L.length - 1) (b := kb) (o := ko) rfl rfl (by omega) pI pI rfl pZ (fun _ => rfl) (fun _ => by omega)) | (show OpV _ _ _ _ (Oper.mk _ (Op.load _ _) _ _ _ _) _ _; exact ov_loadSM (l := [str vn, .slice ua1 ul1 uc1, str vt, .slice (some ⟨b7, o7, none⟩) ks.length uc2]) rfl pI rfl pZ (fun _ => hMk) (fun _ j hj => hcells j hj)) | (show OpV _ _ _ _ (Oper.mk _ (Op.load _ _) _ _ _ _) _ _; exact ov_load1M rfl pI rfl rfl (fun _ => hMa) (fun _ => gi.2)) | (show OpV _ _ _ _ (Oper.mk _ (Op.load _ _) _ _ _ _) _ _; exact ov_load1M rfl pI rfl rfl (fun _ => hMb1) (fun _ => ji.2))) ?_ | refine xl_alloc (fun _ => ?_) | refine xl_box rfl (fun _ => ?_) | refine xl_store rfl rfl ?_) | fail) | (refine wc_cond rfl (fun hc => ?_) (fun hc => ?_) <;> (try (simp only [bls] at hc)) <;> (try (exfalso; first | omega | contradiction))))
            refine wl_callS rfl Tryz.call18 rfl rfl rfl rfl (fun w hw => rForm_ok hw.laid lt sv wrong (by omega) (by omega) (by omega)) ?_
            rintro _ H3 M3 hm3 hn3 ⟨rfl, a3, l3, c3, rfl, hS3⟩
            generalize wr (formPN lt sv wrong) = fw at *
            repeat' (first | refine sk ?_ | (refine gL ?_; first | refine xl_alloc (fun _ => ?_) | refine xl_box rfl (fun _ => ?_) | refine xl_store rfl rfl ?_) | fail)
            refine wc_cond rfl (fun hc => ?_) (fun hc => ?_)
            · rw [if_neg (by simpa using hc)]
              repeat' (first | refine sk ?_ | (refine gL ?_; first | refine xl_alloc (fun _ => ?_) | refine xl_box rfl (fun _ => ?_) | refine xl_store rfl rfl ?_) | fail)
              exact wr_weak (fun _ h => h.drop (List.nil_sublist _)) (wr_tmp4 rfl rfl rfl rfl rfl rfl rfl rfl rfl)
            · rw [if_pos (by simpa using hc)]
              repeat' (first | refine sk ?_ | (refine gL ?_; first | refine xl_alloc (fun _ => ?_) | refine xl_box rfl (fun _ => ?_) | refine xl_store rfl rfl ?_) | fail)
              exact wr_weak (fun _ h => h.drop (List.nil_sublist _)) (wr_tmp4 rfl rfl rfl rfl rfl rfl rfl rfl rfl)
          · rw [hrf (fun h => h1 (hfo.1 h).2.2)]
            repeat' (first | (first | (show WL _ _ (Oper.mk _ (Op.binOp BinOp.neq _ _ _ _) _ _ _ _ :: _) _ _ _ _; refine wl_v rfl rfl rfl (opv_eq (ov_neq rfl rfl pI pI) (ndF (by omega))) ?_) | (show WL _ _ (Oper.mk _ (Op.binOp BinOp.neq _ _ _ _) _ _ _ _ :: _) _ _ _ _; refine wl_v rfl rfl rfl (opv_eq (ov_neq rfl rfl pI pI) (ndT (by omega))) ?_)) | (first | refine sk1 ?_ | (refine gL ?_; first | refine wl_v rfl rfl rfl (by first | (show OpV _ _ _ _ (Oper.mk _ (Op.indexAddr _ _ (.const (.int .i64 0))) _ _ _ _) _ _; exact ov_indexAddr (i := 0) (b := b7) (o := o7) rfl rfl rfl pI pI rfl pZ (fun _ => rfl) (fun _ => by omega)) | (show OpV _ _ _ _ (Oper.mk _ (Op.indexAddr _ _ (.const (.int .i64 1))) _ _ _ _) _ _; exact ov_indexAddr (i := 1) (b := b7) (o := o7) rfl rfl rfl pI pI rfl pZ (fun _ => rfl) (fun _ => by omega)) | (show OpV _ _ _ _ (Oper.mk _ (Op.load _ _) _ _ _ _) _ _; exact ov_load1M rfl pI rfl rfl (fun _ => hMb) (fun _ => hc0 1 (by decide))) | (show OpV _ _ _ _ (Oper.mk _ (Op.load _ _) _ _ _ _) _ _; exact ov_load1M rfl pI rfl rfl (fun _ => hMb) (fun _ => hc1 1 (by decide))) | (show OpV _ _ _ _ (Oper.mk _ (Op.indexAddr _ _ (.tmp _)) _ _ _ _) _ _; exact ov_indexAddr (i := L.length - 1) (b := kb) (o := ko) rfl rfl (by omega) pI pI rfl pZ (fun _ => rfl) (fun _ => by omega)) | (show OpV _ _ _ _ (Oper.mk _ (Op.load _ _) _ _ _ _) _ _; exact ov_loadSM (l := [str vn, .slice ua1 ul1 uc1, str vt, .slice (some ⟨b7, o7, none⟩) ks.length uc2]) rfl pI rfl pZ (fun _ => hMk) (fun _ j hj => hcells j hj)) | (exact ov_off (v := .bool false) rfl)) ?_ | refine xl_alloc (fun _ => ?_) | refine xl_box rfl (fun _ => ?_) | refine xl_store rfl rfl ?_) | fail) | (refine wc_cond rfl (fun hc => ?_) (fun hc => ?_) <;> (try (simp only [bls] at hc)) <;> (try (exfalso; first | omega | contradiction))))
            exact wr_weak (fun _ h => h.drop (List.nil_sublist _)) (wr_tmp4 rfl rfl rfl rfl rfl rfl rfl rfl rfl)
        · rw [hrf (fun h => h0 (hfo.1 h).2.1)]
          repeat' (first | (first | (show WL _ _ (Oper.mk _ (Op.binOp BinOp.neq _ _ _ _) _ _ _ _ :: _) _ _ _ _; refine wl_v rfl rfl rfl (opv_eq (ov_neq rfl rfl pI pI) (ndF (by omega))) ?_) | (show WL _ _ (Oper.mk _ (Op.binOp BinOp.neq _ _ _ _) _ _ _ _ :: _) _ _ _ _; refine wl_v rfl rfl rfl (opv_eq (ov_neq rfl rfl pI pI) (ndT (by omega))) ?_)) | (first | refine sk1 ?_ | (refine gL ?_; first | refine wl_v rfl rfl rfl (by first | (show OpV _ _ _ _ (Oper.mk _ (Op.indexAddr _ _ (.const (.int .i64 0))) _ _ _ _) _ _; exact ov_indexAddr (i := 0) (b := b7) (o := o7) rfl rfl rfl pI pI rfl pZ (fun _ => rfl) (fun _ => by omega)) | (show OpV _ _ _ _ (Oper.mk _ (Op.indexAddr _ _ (.const (.int .i64 1))) _ _ _ _) _ _; exact ov_indexAddr (i := 1) (b := b7) (o := o7) rfl rfl rfl pI pI rfl pZ (fun _ => rfl) (fun _ => by omega)) | (show OpV _ _ _ _ (Oper.mk _ (Op.load _ _) _ _ _ _) _ _; exact ov_load1M rfl pI rfl rfl (fun _ => hMb) (fun _ => hc0 1 (by decide))) | (show OpV _ _ _ _ (Oper.mk _ (Op.load _ _) _ _ _ _) _ _; exact ov_load1M rfl pI rfl rfl (fun _ => hMb) (fun _ => hc1 1 (by decide))) | (show OpV _ _ _ _ (Oper.mk _ (Op.indexAddr _ _ (.tmp _)) _ _ _ _) _ _; exact ov_indexAddr (i := L.length - 1) (b := kb) (o := ko) rfl rfl (by omega) pI pI rfl pZ (fun _ => rfl) (fun _ => by omega)) | (show OpV _ _ _ _ (Oper.mk _ (Op.load _ _) _ _ _ _) _ _; exact ov_loadSM (l := [str vn, .slice ua1 ul1 uc1, str vt, .slice (some ⟨b7, o7, none⟩) ks.length uc2]) rfl pI rfl pZ (fun _ => hMk) (fun _ j hj => hcells j hj)) | (exact ov_off (v := .bool false) rfl)) ?_ | refine xl_alloc (fun _ => ?_) | refine xl_box rfl (fun _ => ?_) | refine xl_store rfl rfl ?_) | fail) | (refine wc_cond rfl (fun hc => ?_) (fun hc => ?_) <;> (try (simp only [bls] at hc)) <;> (try (exfalso; first | omega | contradiction))))
          exact wr_weak (fun _ h => h.drop (List.nil_sublist _)) (wr_tmp4 rfl rfl rfl rfl rfl rfl rfl rfl rfl)
      · rw [hrf (fun h => h4 (hfo.1 h).1)]
        repeat' (first | (first | (show WL _ _ (Oper.mk _ (Op.binOp BinOp.neq _ _ _ _) _ _ _ _ :: _) _ _ _ _; refine wl_v rfl rfl rfl (opv_eq (ov_neq rfl rfl pI pI) (ndT (by omega))) ?_)) | (first | refine sk1 ?_ | (refine gL ?_; first | refine wl_v rfl rfl rfl (by first | (show OpV _ _ _ _ (Oper.mk _ (Op.indexAddr _ _ (.tmp _)) _ _ _ _) _ _; exact ov_indexAddr (i := L.length - 1) (b := kb) (o := ko) rfl rfl (by omega) pI pI rfl pZ (fun _ => rfl) (fun _ => by omega)) | (show OpV _ _ _ _ (Oper.mk _ (Op.load _ _) _ _ _ _) _ _; exact ov_loadSM (l := [str vn, .slice ua1 ul1 uc1, str vt, .slice ua2 ks.length uc2]) rfl pI rfl pZ (fun _ => hMk) (fun _ j hj => hcells j hj)) | (exact ov_off (v := .bool false) rfl)) ?_ | refine xl_alloc (fun _ => ?_) | refine xl_box rfl (fun _ => ?_) | refine xl_store rfl rfl ?_) | fail) | (refine wc_cond rfl (fun hc => ?_) (fun hc => ?_) <;> (try (simp only [bls] at hc)) <;> (try (exfalso; first | omega | contradiction))))
        exact wr_weak (fun _ h => h.drop (List.nil_sublist _)) (wr_tmp4 rfl rfl rfl rfl rfl rfl rfl rfl rfl)
    · rw [hrl hl]
      repeat' (first | refine sk ?_ | (refine gL ?_; first | refine xl_alloc (fun _ => ?_) | refine xl_box rfl (fun _ => ?_) | refine xl_store rfl rfl ?_) | fail)
      refine wc_cond rfl (fun hc => ?_) (fun hc => by exfalso; simp at hc; omega)
      repeat' (first | refine sk ?_ | (refine gL ?_; first | refine xl_alloc (fun _ => ?_) | refine xl_box rfl (fun _ => ?_) | refine xl_store rfl rfl ?_) | fail)
      exact wr_weak (fun _ h => h.drop (List.nil_sublist _)) (wr_tmp4 rfl rfl rfl rfl rfl rfl rfl rfl rfl)
end Go.Proofs.YtgfbieplidpebaaGreatDoor
/-
  matricularef24.ReadPage.
-/
namespace Go.Proofs.YtgfbieplidpebaaGreatDoor
open Go.Eng Go.Pct Go.Xml Go.Cas
set_option maxRecDepth 10000
set_option linter.unusedSimpArgs false
set_option linter.unusedVariables false

variable {M : Ghost} {w0 w : World} {bs : List Nat} {H : List (Nat × Obj)}
theorem rp_none {r : Rs} (h : bodyR r = none) : rreadPageP r = ([], [], false) := by unfold rreadPageP; rw [h]
theorem rp_bad {r : Rs} {l : List Nd} (h : bodyR r = some l) (h2 : ¬ pageOk l) : rreadPageP r = ([], [], false) := by unfold rreadPageP; rw [h]; simp only; rw [if_neg h2]
theorem rp_some {r : Rs} {l : List Nd} (h : bodyR r = some l) (h2 : pageOk l) : rreadPageP r = (valN (kidN l 0), txN (kidN l 0), true) := by unfold rreadPageP; rw [h]; simp only; rw [if_pos h2]
set_option maxHeartbeats 1000000 in
theorem rReadPage_ok (hM : Laid M w) {r : Rs} {st : Int} {a l c bd} (hr : RsC M r st a l c bd) (hbd : bd.length ≤ 90000) : Calls Tryz.prog 29 #[.agg [i64 st, .slice a l c, str bd].toArray] w (RetE w (.tuple #[str (rreadPageP r).1, str (rreadPageP r).2.1, .bool (rreadPageP r).2.2])) := by
  refine fn1 hM Tryz.func29 ?_
  repeat' (first | refine sk ?_ | (refine gL ?_; first | refine xl_box rfl (fun _ => ?_)) | fail)
  rename_i b1
  refine wl_callS rfl Tryz.call58 rfl rfl rfl rfl (fun w hw => body24_ok hw.laid hr hbd) ?_
  rintro _ H1 M1 hm1 hn1 ⟨rfl, a1, l1, c1, rfl, hsl⟩
  clear hn1 hm1 hr
  cases hbo : bodyR r with
  | none =>
    rw [rp_none hbo]
    repeat' (first | refine sk ?_ | (refine gL ?_; first | refine wl_v rfl rfl rfl (by first | (exact ov_off (v := .bool false) rfl)) ?_ | refine xl_box rfl (fun _ => ?_)) | fail)
    refine wc_cond rfl (fun hc => ?_) (fun hc => by exfalso; simp at hc)
    repeat' (first | refine sk ?_ | (refine gL ?_; first | refine xl_box rfl (fun _ => ?_)) | fail)
    exact wr_weak (fun _ h => h.drop (List.nil_sublist _)) (wr_tmp3 rfl rfl rfl rfl rfl rfl rfl)
  | some L =>
    have hrb := rp_bad hbo
    have hrs := rp_some hbo
    rw [hbo] at hsl
    rw [show (some L).getD [] = L from rfl, show (some L).isSome = true from rfl] at *
    obtain ⟨ka, kcap, kb, ko, kcs, kT, kfz, e1, k1, k2, k3, k4⟩ := Sl.open hsl
    cases e1
    clear hbo hsl
    by_cases h1 : L.length = 1
    · have hne : L ≠ [] := by intro e; rw [e] at h1; simp at h1
      obtain ⟨rfl, hMk⟩ := k3 hne
      obtain ⟨us, hu4, hus, hcells⟩ := k4 0 (by omega)
      obtain ⟨vn, ua1, ul1, uc1, vt, ua2, ul2, uc2, rfl⟩ := node_open hus
      have hgk : kidN L 0 = L[0]'(by omega) := by unfold kidN; exact getD_nd (by omega)
      have hpo : pageOk L ↔ (nmN (kidN L 0) = sP ∧ (atN (kidN L 0)).length = 1 ∧ ((atN (kidN L 0)).getD 0 default).1 = sClass ∧ kdN (kidN L 0) = []) := ⟨fun h => h.2, fun h => ⟨h1, h⟩⟩
      unfold valN at hrs
      rw [hgk] at hrs hpo
      generalize L[0]'(by omega) = y at *
      have hnm := node_nm hus
      have htx := node_tx hus
      have hat := node_at hus
      have hkd := node_kd hus
      rw [hnm] at hpo
      rw [htx] at hrs
      clear hus hnm htx
      generalize atN y = A at *
      generalize kdN y = K at *
      obtain ⟨aa, acap, ab, ao, acs, aT, afz, e2, q1, q2, q3, q4⟩ := SlP.open hat
      obtain ⟨da, dcap, db, d0, dcs, dT, dfz, e4, _⟩ := Sl.open hkd
      cases e2; cases e4
      clear hat hkd
      have hKl : K.length = 0 ↔ K = [] := List.length_eq_zero_iff
      by_cases hv : vn = sP
      · by_cases h3 : A.length = 1
        · obtain ⟨rfl, hMa⟩ := q3 (by intro e; rw [e] at h3; simp at h3)
          have gi := q4 0 (by omega)
          generalize A.getD 0 default = p at *
          repeat' (first | (first | (show WL _ _ (Oper.mk _ (Op.binOp BinOp.neq _ _ _ _) _ _ _ _ :: _) _ _ _ _; refine wl_v rfl rfl rfl (opv_eq (ov_neq rfl rfl pI pI) (ndF (by omega))) ?_) | (show WL _ _ (Oper.mk _ (Op.binOp BinOp.neq _ _ _ _) _ _ _ _ :: _) _ _ _ _; refine wl_v rfl rfl rfl (opv_eq (ov_sneq rfl rfl pI pI) (ndF hv)) ?_)) | (first | refine sk1 ?_ | (refine gL ?_; first | refine wl_v rfl rfl rfl (by first | (show OpV _ _ _ _ (Oper.mk _ (Op.indexAddr _ _ _) _ _ _ _) _ _; exact ov_indexAddr (i := 0) (b := kb) (o := ko) rfl rfl rfl pI pI rfl pZ (fun _ => rfl) (fun _ => by omega)) | (show OpV _ _ _ _ (Oper.mk _ (Op.indexAddr _ _ _) _ _ _ _) _ _; exact ov_indexAddr (i := 0) (b := ab) (o := ao) rfl rfl rfl pI pI rfl pZ (fun _ => rfl) (fun _ => by omega)) | (show OpV _ _ _ _ (Oper.mk _ (Op.load _ _) _ _ _ _) _ _; exact ov_load1M rfl pI rfl rfl (fun _ => hMk) (fun _ => hcells 0 (by simp))) | (show OpV _ _ _ _ (Oper.mk _ (Op.load _ _) _ _ _ _) _ _; exact ov_load1M rfl pI rfl rfl (fun _ => hMk) (fun _ => hcells 1 (by simp))) | (show OpV _ _ _ _ (Oper.mk _ (Op.load _ _) _ _ _ _) _ _; exact ov_load1M rfl pI rfl rfl (fun _ => hMk) (fun _ => hcells 3 (by simp))) | (show OpV _ _ _ _ (Oper.mk _ (Op.load _ _) _ _ _ _) _ _; exact ov_load1M rfl pI rfl rfl (fun _ => hMa) (fun _ => gi.1))) ?_ | refine xl_box rfl (fun _ => ?_)) | fail) | (refine wc_cond rfl (fun hc => ?_) (fun hc => ?_) <;> (try (simp only [bls] at hc)) <;> (try (exfalso; first | omega | contradiction))))
          · rw [hrb (fun h => by
              have h := hpo.1 h
              rcases hc with hc | hc
              · exact hc h.2.2.1
              · have := hKl.2 h.2.2.2; omega)]
            exact wr_weak (fun _ h => h.drop (List.nil_sublist _)) (wr_tmp3 rfl rfl rfl rfl rfl rfl rfl)
          · rw [hrs (hpo.2 ⟨hv, h3, hc.1, hKl.1 (by have := hc.2; omega)⟩)]
            refine wc_draw 14 (by kernel_rfl) rfl (by kernel_rfl) (fun _ _ h k => h.ext k) ?_
            repeat' (first | (refine gD ?_; first | refine yd_v rfl rfl rfl rfl rfl rfl ?_ | refine wd_v rfl rfl rfl rfl rfl rfl (by first | (show OpV _ _ _ _ (Oper.mk _ (Op.indexAddr _ _ _) _ _ _ _) _ _; exact ov_indexAddr (i := 0) (b := kb) (o := ko) rfl rfl rfl pI pI rfl pZ (fun _ => rfl) (fun _ => by omega)) | (show OpV _ _ _ _ (Oper.mk _ (Op.indexAddr _ _ _) _ _ _ _) _ _; exact ov_indexAddr (i := 0) (b := ab) (o := ao) rfl rfl rfl pI pI rfl pZ (fun _ => rfl) (fun _ => by omega)) | (show OpV _ _ _ _ (Oper.mk _ (Op.load _ _) _ _ _ _) _ _; exact ov_load1M rfl pI rfl rfl (fun _ => hMk) (fun _ => hcells 2 (by simp))) | (show OpV _ _ _ _ (Oper.mk _ (Op.load _ _) _ _ _ _) _ _; exact ov_load1M rfl pI rfl rfl (fun _ => hMk) (fun _ => hcells 1 (by simp))) | (show OpV _ _ _ _ (Oper.mk _ (Op.load _ _) _ _ _ _) _ _; exact ov_load1M rfl pI rfl rfl (fun _ => hMa) (fun _ => gi.2))) ?_ | refine yd_new rfl rfl rfl rfl rfl rfl ?_ | refine wd_conv rfl rfl rfl rfl rfl rfl rfl rfl rfl rfl ?_) | (refine gE ?_; first | refine wd_nil ?_ | refine wd_nilF ?_) | (first | refine sk ?_ | (refine gL ?_; first | refine wl_v rfl rfl rfl (by first | (show OpV _ _ _ _ (Oper.mk _ (Op.indexAddr _ _ _) _ _ _ _) _ _; exact ov_indexAddr (i := 0) (b := kb) (o := ko) rfl rfl rfl pI pI rfl pZ (fun _ => rfl) (fun _ => by omega)) | (show OpV _ _ _ _ (Oper.mk _ (Op.indexAddr _ _ _) _ _ _ _) _ _; exact ov_indexAddr (i := 0) (b := ab) (o := ao) rfl rfl rfl pI pI rfl pZ (fun _ => rfl) (fun _ => by omega)) | (show OpV _ _ _ _ (Oper.mk _ (Op.load _ _) _ _ _ _) _ _; exact ov_load1M rfl pI rfl rfl (fun _ => hMk) (fun _ => hcells 2 (by simp))) | (show OpV _ _ _ _ (Oper.mk _ (Op.load _ _) _ _ _ _) _ _; exact ov_load1M rfl pI rfl rfl (fun _ => hMk) (fun _ => hcells 1 (by simp))) | (show OpV _ _ _ _ (Oper.mk _ (Op.load _ _) _ _ _ _) _ _; exact ov_load1M rfl pI rfl rfl (fun _ => hMa) (fun _ => gi.2))) ?_ | refine xl_box rfl (fun _ => ?_)) | fail))
            exact wr_weak (fun _ h => h.drop (List.nil_sublist _)) (wr_tmp3 rfl rfl rfl rfl rfl rfl rfl)
        · rw [hrb (fun h => h3 (hpo.1 h).2.1)]
          repeat' (first | (first | (show WL _ _ (Oper.mk _ (Op.binOp BinOp.neq _ _ _ _) _ _ _ _ :: _) _ _ _ _; refine wl_v rfl rfl rfl (opv_eq (ov_neq rfl rfl pI pI) (ndF (by omega))) ?_) | (show WL _ _ (Oper.mk _ (Op.binOp BinOp.neq _ _ _ _) _ _ _ _ :: _) _ _ _ _; refine wl_v rfl rfl rfl (opv_eq (ov_neq rfl rfl pI pI) (ndT (by omega))) ?_) | (show WL _ _ (Oper.mk _ (Op.binOp BinOp.neq _ _ _ _) _ _ _ _ :: _) _ _ _ _; refine wl_v rfl rfl rfl (opv_eq (ov_sneq rfl rfl pI pI) (ndF hv)) ?_)) | (first | refine sk1 ?_ | (refine gL ?_; first | refine wl_v rfl rfl rfl (by first | (show OpV _ _ _ _ (Oper.mk _ (Op.indexAddr _ _ _) _ _ _ _) _ _; exact ov_indexAddr (i := 0) (b := kb) (o := ko) rfl rfl rfl pI pI rfl pZ (fun _ => rfl) (fun _ => by omega)) | (show OpV _ _ _ _ (Oper.mk _ (Op.load _ _) _ _ _ _) _ _; exact ov_load1M rfl pI rfl rfl (fun _ => hMk) (fun _ => hcells 0 (by simp))) | (show OpV _ _ _ _ (Oper.mk _ (Op.load _ _) _ _ _ _) _ _; exact ov_load1M rfl pI rfl rfl (fun _ => hMk) (fun _ => hcells 1 (by simp))) | (exact ov_off (v := .bool false) rfl)) ?_ | refine xl_box rfl (fun _ => ?_)) | fail) | (refine wc_cond rfl (fun hc => ?_) (fun hc => ?_) <;> (try (simp only [bls] at hc)) <;> (try (exfalso; first | omega | contradiction))))
          all_goals first | exact wr_weak (fun _ h => h.drop (List.nil_sublist _)) (wr_tmp3 rfl rfl rfl rfl rfl rfl rfl) | (exfalso; simp at hc; done)
      · rw [hrb (fun h => hv (hpo.1 h).1)]
        repeat' (first | (first | (show WL _ _ (Oper.mk _ (Op.binOp BinOp.neq _ _ _ _) _ _ _ _ :: _) _ _ _ _; refine wl_v rfl rfl rfl (opv_eq (ov_neq rfl rfl pI pI) (ndF (by omega))) ?_) | (show WL _ _ (Oper.mk _ (Op.binOp BinOp.neq _ _ _ _) _ _ _ _ :: _) _ _ _ _; refine wl_v rfl rfl rfl (opv_eq (ov_neq rfl rfl pI pI) (ndT (by omega))) ?_) | (show WL _ _ (Oper.mk _ (Op.binOp BinOp.neq _ _ _ _) _ _ _ _ :: _) _ _ _ _; refine wl_v rfl rfl rfl (opv_eq (ov_sneq rfl rfl pI pI) (ndT hv)) ?_)) | (first | refine sk1 ?_ | (refine gL ?_; first | refine wl_v rfl rfl rfl (by first | (show OpV _ _ _ _ (Oper.mk _ (Op.indexAddr _ _ _) _ _ _ _) _ _; exact ov_indexAddr (i := 0) (b := kb) (o := ko) rfl rfl rfl pI pI rfl pZ (fun _ => rfl) (fun _ => by omega)) | (show OpV _ _ _ _ (Oper.mk _ (Op.load _ _) _ _ _ _) _ _; exact ov_load1M rfl pI rfl rfl (fun _ => hMk) (fun _ => hcells 0 (by simp))) | (exact ov_off (v := .bool false) rfl)) ?_ | refine xl_box rfl (fun _ => ?_)) | fail) | (refine wc_cond rfl (fun hc => ?_) (fun hc => ?_) <;> (try (simp only [bls] at hc)) <;> (try (exfalso; first | omega | contradiction))))
        all_goals first | exact wr_weak (fun _ h => h.drop (List.nil_sublist _)) (wr_tmp3 rfl rfl rfl rfl rfl rfl rfl) | (exfalso; simp at hc; done)
    · rw [hrb (fun h => h1 h.1)]
      repeat' (first | (first | (show WL _ _ (Oper.mk _ (Op.binOp BinOp.neq _ _ _ _) _ _ _ _ :: _) _ _ _ _; refine wl_v rfl rfl rfl (opv_eq (ov_neq rfl rfl pI pI) (ndF (by omega))) ?_) | (show WL _ _ (Oper.mk _ (Op.binOp BinOp.neq _ _ _ _) _ _ _ _ :: _) _ _ _ _; refine wl_v rfl rfl rfl (opv_eq (ov_neq rfl rfl pI pI) (ndT (by omega))) ?_)) | (first | refine sk1 ?_ | (refine gL ?_; first | refine wl_v rfl rfl rfl (by first | (exact ov_off (v := .bool false) rfl)) ?_ | refine xl_box rfl (fun _ => ?_)) | fail) | (refine wc_cond rfl (fun hc => ?_) (fun hc => ?_) <;> (try (simp only [bls] at hc)) <;> (try (exfalso; first | omega | contradiction))))
      all_goals first | exact wr_weak (fun _ h => h.drop (List.nil_sublist _)) (wr_tmp3 rfl rfl rfl rfl rfl rfl rfl) | (exfalso; simp at hc; done)
end Go.Proofs.YtgfbieplidpebaaGreatDoor
