/-
  Texts of a proof, joined: RndI.
-/
import Derived.Test.YtgfbieplidpebaaGreatDoorJFRndReads1
import Derived.Test.YtgfbieplidpebaaGreatDoorJFRndReads2
import Derived.Test.YtgfbieplidpebaaGreatDoorJFRndReads3
import Derived.Test.YtgfbieplidpebaaGreatDoorJFRndReads4
import Derived.Test.YtgfbieplidpebaaGreatDoorJFRndReads5
import Derived.Test.YtgfbieplidpebaaGreatDoorJFRndReads6
/-
  ReadForm.
-/
namespace Go.Proofs.YtgfbieplidpebaaGreatDoor
open Go.Eng Go.Pct Go.Xml Go.Cas
set_option maxRecDepth 10000
set_option linter.unusedSimpArgs false
set_option linter.unusedVariables false

variable {M : Ghost} {w0 w : World} {bs : List Nat} {H : List (Nat × Obj)}
theorem attr_len {x : Nd} (i : Nat) : ((atN x).getD i default).2.length ≤ (textN x).length := by
  by_cases h : i < (atN x).length
  · exact (textN_ge x).2.2.2 _ (getD_memP h)
  · have e : (atN x).getD i default = default := by simp [List.getElem?_eq_none (show (atN x).length ≤ i by omega)]
    rw [e]; exact Nat.zero_le _
theorem kid_len {x : Nd} (i : Nat) : (textN ((kdN x).getD i nodeZ)).length ≤ (textN x).length + 5 := by
  by_cases h : i < (kdN x).length
  · have e : (kdN x).getD i nodeZ = (kdN x)[i] := by simp [h]
    rw [e]
    have h1 := textL_mem (List.getElem_mem h)
    have h2 := (textN_ge x).2.2.1
    omega
  · have e : (kdN x).getD i nodeZ = nodeZ := by simp [List.getElem?_eq_none (show (kdN x).length ≤ i by omega)]
    rw [e, nodeZ_len]; omega
theorem at2_len (x : Nd) (i : Nat) : (at2 x i).length ≤ (textN x).length + 5 := by
  unfold at2
  have h1 := attr_len (x := (kdN x).getD i nodeZ) 1
  have h2 := kid_len (x := x) i
  omega
set_option maxHeartbeats 2000000 in
theorem ReadForm_ok (hG : Glob M) (hM : Laid M w) {r : Rs} {st : Int} {a l c bd} (hr : RsC M r st a l c bd) (hbd : bd.length ≤ 90000) : Calls Tryz.prog 26 #[.agg [i64 st, .slice a l c, str bd].toArray] w (RetE w (.tuple #[str (readFormP r).1, str (readFormP r).2.1, str (readFormP r).2.2.1, .bool (readFormP r).2.2.2])) := by
  have hbody : r.body = bd := hr.2.1
  refine fn1 hM Tryz.func26 ?_
  repeat' (first | refine sk ?_ | (refine gL ?_; first | refine xl_alloc (fun _ => ?_) | refine xl_box rfl (fun _ => ?_) | refine xl_store rfl rfl ?_ | refine xl_buildSlice rfl (fun _ => ?_)) | fail)
  refine wl_callS rfl Tryz.call48 rfl rfl rfl rfl (fun w hw => xread_ok hG hw.laid bd (by omega)) ?_
  rintro _ H1 M1 hm1 hn1 ⟨rfl, hR⟩
  obtain ⟨n1, p1, q1, r1, t1, p1', q1', r1', e1, rfl, hx, he1⟩ := read_open hR
  have hrd : (readP bd).getD nodeZ = rd r := by unfold rd; rw [hbody]
  rw [hrd] at hx
  clear hR he1
  have hrl := rd_len r
  rw [hbody] at hrl
  have hfl := found_len (rd r) [sBody, sForm]
  have hfl2 := found_len (rd r) [sBody, sP]
  have hge2 := (textN_ge (foundN (rd r) [sBody, sP])).2.1
  have hl0 := at2_len (foundN (rd r) [sBody, sForm]) 0
  have hl1 := at2_len (foundN (rd r) [sBody, sForm]) 1
  repeat' (first | refine sk ?_ | (refine gL ?_; first | refine xl_alloc (fun _ => ?_) | refine xl_box rfl (fun _ => ?_) | refine xl_store rfl rfl ?_ | refine xl_buildSlice rfl (fun _ => ?_)) | fail)
  rename_i b1 b5 bq
  refine wl_publish (H1 := [(bq, .cells (cellsS [sBody, sForm]).toArray 9 (0, 0))]) (fun hn => ?_)
  have hp : SlS (With M1 [(bq, .cells (cellsS [sBody, sForm]).toArray 9 (0, 0))]) (.slice (some ⟨bq, 0, none⟩) 2 2) [sBody, sForm] := slS_blk (l := [sBody, sForm]) (.inr (List.Mem.head _)) (by simp)
  refine wl_callS rfl Tryz.call52 rfl rfl rfl rfl (fun w hw => find_ok hw.laid (NodeC.mono (fun _ _ => .inl) hx) hp) ?_
  rintro _ H4 M4 hm4 hn4 ⟨rfl, n4, y1, m1, d1, t4, y2, m2, d2, rfl, hy⟩
  have sub4 : ∀ b o, M b o → M4 b o := fun b o h => hm4 b o (.inl (hm1 b o h))
  have hr4 : RsC M4 r st a l c bd := ⟨hr.1, hr.2.1, Sl.mono hr.2.2 sub4 (fun _ _ _ h => h)⟩
  have hG4 := hG.mono sub4
  have hx4 := NodeC.mono (fun b o h => hm4 b o (.inl h)) hx
  have hun := fun (b : Nat) (w' : World) (H : List (Nat × Obj)) (hw : St w [] ((b, .cells (cellsS [sBody, sP]).toArray 9 (0, 0)) :: H) M4 w') => under_ok hw.with (NodeC.mono (fun _ _ => .inl) hx4) (slS_blk (l := [sBody, sP]) (.inr (List.Mem.head _)) (by simp))
  have hkd := node_kd hy
  have hfo : formOk (foundN (rd r) [sBody, sForm]) ↔ ((kdN (foundN (rd r) [sBody, sForm])).length = 4 ∧ (atN ((kdN (foundN (rd r) [sBody, sForm])).getD 0 nodeZ)).length = 2 ∧ (atN ((kdN (foundN (rd r) [sBody, sForm])).getD 1 nodeZ)).length = 2) := Iff.rfl
  have ha0 : at2 (foundN (rd r) [sBody, sForm]) 0 = ((atN ((kdN (foundN (rd r) [sBody, sForm])).getD 0 nodeZ)).getD 1 default).2 := rfl
  have ha1 : at2 (foundN (rd r) [sBody, sForm]) 1 = ((atN ((kdN (foundN (rd r) [sBody, sForm])).getD 1 nodeZ)).getD 1 default).2 := rfl
  unfold readFormP
  generalize foundN (rd r) [sBody, sForm] = f at *
  generalize hge2e : txN (foundN (rd r) [sBody, sP]) = wrong at *
  generalize kdN f = ks at *
  obtain ⟨a7, cap7, b7, o7, cs7, T7, fz7, e7, k1, k2, k3, k4⟩ := Sl.open hkd
  cases e7
  clear hm1 hn1 hm4 hn4 hn hp hy hr hG hkd hx hx4
  by_cases h4 : ks.length = 4
  · have hne : ks ≠ [] := by intro e; rw [e] at h4; simp at h4
    obtain ⟨rfl, hMb⟩ := k3 hne
    obtain ⟨us0, hu0, hus0, hc0⟩ := k4 0 (by omega)
    obtain ⟨us1, hu1, hus1, hc1⟩ := k4 1 (by omega)
    obtain ⟨un, ua1, ul1, uc1, ut, ua2, ul2, uc2, rfl⟩ := node_open hus0
    obtain ⟨vn, wa1, wl1, wc1, vt, wa2, wl2, wc2, rfl⟩ := node_open hus1
    have hat0 := node_at hus0
    have hat1 := node_at hus1
    rw [← getD_nd (show 0 < ks.length by omega)] at hat0
    rw [← getD_nd (show 1 < ks.length by omega)] at hat1
    clear hus0 hus1
    generalize atN (ks.getD 0 nodeZ) = A0 at *
    generalize atN (ks.getD 1 nodeZ) = A1 at *
    obtain ⟨aa, acap, ab, ao, acs, aT, afz, ae, g1, g2, g3, g4⟩ := SlP.open hat0
    obtain ⟨ba, bcap, bb, bo, bcs, bT, bfz, be, j1, j2, j3, j4⟩ := SlP.open hat1
    cases ae
    cases be
    by_cases h0 : A0.length = 2
    · by_cases h1 : A1.length = 2
      · obtain ⟨rfl, hMa⟩ := g3 (by intro e; rw [e] at h0; simp at h0)
        obtain ⟨rfl, hMb1⟩ := j3 (by intro e; rw [e] at h1; simp at h1)
        have gi := g4 1 (by omega)
        have ji := j4 1 (by omega)
        rw [← ha0] at gi
        rw [← ha1] at ji
        have hok : formOk f := hfo.2 ⟨h4, h0, h1⟩
        generalize at2 f 0 = lt at *
        generalize at2 f 1 = sv at *
        repeat' (first | ((show WL _ _ (Oper.mk _ (Op.binOp BinOp.neq _ _ _ _) _ _ _ _ :: _) _ _ _ _; refine wl_v rfl rfl rfl (opv_eq (ov_neq rfl rfl pI pI) (nd_f (by omega))) ?_)) | (first | refine sk1 ?_ | (refine gL ?_; first | refine wl_v rfl rfl rfl (by first | (exact oc 51 Tryz.call51 (h := fun hcg w hw => hun _ _ _ hw)) | (show OpV _ _ _ _ (Oper.mk _ (Op.indexAddr _ _ (.const (.int .i64 0))) _ _ _ _) _ _; exact ov_indexAddr (i := 0) (b := b7) (o := o7) rfl rfl rfl pI pI rfl pZ (fun _ => rfl) (fun _ => by omega)) | (show OpV _ _ _ _ (Oper.mk _ (Op.indexAddr _ _ (.const (.int .i64 1))) _ _ _ _) _ _; exact ov_indexAddr (i := 1) (b := b7) (o := o7) rfl rfl rfl pI pI rfl pZ (fun _ => rfl) (fun _ => by omega)) | (show OpV _ _ _ _ (Oper.mk _ (Op.load _ _) _ _ _ _) _ _; exact ov_load1M rfl pI rfl rfl (fun _ => hMb) (fun _ => hc0 1 (by decide))) | (show OpV _ _ _ _ (Oper.mk _ (Op.load _ _) _ _ _ _) _ _; exact ov_load1M rfl pI rfl rfl (fun _ => hMb) (fun _ => hc1 1 (by decide)))) ?_ | refine xl_alloc (fun _ => ?_) | refine xl_box rfl (fun _ => ?_) | refine xl_store rfl rfl ?_ | refine xl_buildSlice rfl (fun _ => ?_)) | fail) | (refine wc_cond rfl (fun hc => ?_) (fun hc => ?_) <;> (try (simp only [bls] at hc)) <;> (try (exfalso; first | omega | contradiction))))
        refine wc_draw 18 (by kernel_rfl) rfl (by kernel_rfl) (fun _ _ h k => h.ext k) ?_
        repeat' (first | (refine gD ?_; first | refine yd_v rfl rfl rfl rfl rfl rfl ?_ | refine wd_v rfl rfl rfl rfl rfl rfl (by first | (show OpV _ _ _ _ (Oper.mk _ (Op.indexAddr _ _ (.const (.int .i64 0))) _ _ _ _) _ _; exact ov_indexAddr (i := 0) (b := b7) (o := o7) rfl rfl rfl pI pI rfl pZ (fun _ => rfl) (fun _ => by omega)) | (show OpV _ _ _ _ (Oper.mk _ (Op.indexAddr _ _ (.const (.int .i64 1))) _ _ _ _) _ _; exact ov_indexAddr (i := 1) (b := b7) (o := o7) rfl rfl rfl pI pI rfl pZ (fun _ => rfl) (fun _ => by omega)) | (show OpV _ _ _ _ (Oper.mk _ (Op.indexAddr _ _ _) _ _ _ _) _ _; exact ov_indexAddr (i := 1) (b := ab) (o := ao) rfl rfl rfl pI pI rfl pZ (fun _ => rfl) (fun _ => by omega)) | (show OpV _ _ _ _ (Oper.mk _ (Op.indexAddr _ _ _) _ _ _ _) _ _; exact ov_indexAddr (i := 1) (b := bb) (o := bo) rfl rfl rfl pI pI rfl pZ (fun _ => rfl) (fun _ => by omega)) | (show OpV _ _ _ _ (Oper.mk _ (Op.load _ _) _ _ _ _) _ _; exact ov_load1M rfl pI rfl rfl (fun _ => hMb) (fun _ => hc0 1 (by decide))) | (show OpV _ _ _ _ (Oper.mk _ (Op.load _ _) _ _ _ _) _ _; exact ov_load1M rfl pI rfl rfl (fun _ => hMb) (fun _ => hc1 1 (by decide))) | (show OpV _ _ _ _ (Oper.mk _ (Op.load _ _) _ _ _ _) _ _; exact ov_load1M rfl pI rfl rfl (fun _ => hMa) (fun _ => gi.2)) | (show OpV _ _ _ _ (Oper.mk _ (Op.load _ _) _ _ _ _) _ _; exact ov_load1M rfl pI rfl rfl (fun _ => hMb1) (fun _ => ji.2))) ?_ | refine yd_new rfl rfl rfl rfl rfl rfl ?_ | refine wd_conv rfl rfl rfl rfl rfl rfl rfl rfl rfl rfl ?_) | (refine gE ?_; first | refine wd_nil ?_ | refine wd_nilF ?_) | (first | refine sk ?_ | (refine gL ?_; first | refine wl_v rfl rfl rfl (by first | (show OpV _ _ _ _ (Oper.mk _ (Op.indexAddr _ _ (.const (.int .i64 0))) _ _ _ _) _ _; exact ov_indexAddr (i := 0) (b := b7) (o := o7) rfl rfl rfl pI pI rfl pZ (fun _ => rfl) (fun _ => by omega)) | (show OpV _ _ _ _ (Oper.mk _ (Op.indexAddr _ _ (.const (.int .i64 1))) _ _ _ _) _ _; exact ov_indexAddr (i := 1) (b := b7) (o := o7) rfl rfl rfl pI pI rfl pZ (fun _ => rfl) (fun _ => by omega)) | (show OpV _ _ _ _ (Oper.mk _ (Op.indexAddr _ _ _) _ _ _ _) _ _; exact ov_indexAddr (i := 1) (b := ab) (o := ao) rfl rfl rfl pI pI rfl pZ (fun _ => rfl) (fun _ => by omega)) | (show OpV _ _ _ _ (Oper.mk _ (Op.indexAddr _ _ _) _ _ _ _) _ _; exact ov_indexAddr (i := 1) (b := bb) (o := bo) rfl rfl rfl pI pI rfl pZ (fun _ => rfl) (fun _ => by omega)) | (show OpV _ _ _ _ (Oper.mk _ (Op.load _ _) _ _ _ _) _ _; exact ov_load1M rfl pI rfl rfl (fun _ => hMb) (fun _ => hc0 1 (by decide))) | (show OpV _ _ _ _ (Oper.mk _ (Op.load _ _) _ _ _ _) _ _; exact ov_load1M rfl pI rfl rfl (fun _ => hMb) (fun _ => hc1 1 (by decide))) | (show OpV _ _ _ _ (Oper.mk _ (Op.load _ _) _ _ _ _) _ _; exact ov_load1M rfl pI rfl rfl (fun _ => hMa) (fun _ => gi.2)) | (show OpV _ _ _ _ (Oper.mk _ (Op.load _ _) _ _ _ _) _ _; exact ov_load1M rfl pI rfl rfl (fun _ => hMb1) (fun _ => ji.2))) ?_ | refine xl_alloc (fun _ => ?_) | refine xl_box rfl (fun _ => ?_) | refine xl_store rfl rfl ?_ | refine xl_buildSlice rfl (fun _ => ?_)) | fail))
        have hz := fun {w : World} (hw : Laid M4 w) => Form_ok hG4 hw lt sv wrong (by omega) (by omega) (by omega)
        refine wc_draw 5 (by kernel_rfl) rfl (by kernel_rfl) (fun _ _ h k => h.ext k) ?_
        repeat' (first | (refine gD ?_; first | refine yd_v rfl rfl rfl rfl rfl rfl ?_ | refine yd_new rfl rfl rfl rfl rfl rfl ?_ | refine wd_conv rfl rfl rfl rfl rfl rfl rfl rfl rfl rfl ?_) | (refine gE ?_; first | refine wd_nil ?_ | refine wd_nilF ?_) | (first | refine sk ?_ | (refine gL ?_; first | refine xl_alloc (fun _ => ?_) | refine xl_box rfl (fun _ => ?_) | refine xl_store rfl rfl ?_ | refine xl_buildSlice rfl (fun _ => ?_)) | fail))
        refine wd_newG rfl (by rfl) rfl rfl rfl rfl rfl steady_got (or_callS (args := #[str lt, str sv, str wrong]) Tryz.call17 rfl rfl rfl (fun _ _ _ h => h.1) (fun w hw => hz hw.laid)) ?_
        refine wd_nil1 (wl_got fun v M9 j1 j2 hR9 => ?_)
        obtain ⟨_, a9, l9, c9, rfl, hS9⟩ := hR9
        have hsa := fun {w : World} (hw : Laid M9 w) => same_ok hw (r := r) (q := rsp sHtmlT (formPN lt sv wrong)) (st' := 200) (bd' := wr (formPN lt sv wrong)) ⟨hr4.1, hr4.2.1, Sl.mono hr4.2.2 j1 (fun _ _ _ h => h)⟩ ⟨rfl, rfl, hS9⟩
        repeat' (first | refine sk ?_ | (refine gL ?_; first | refine wl_v rfl rfl rfl (by first | (exact oc 50 Tryz.call50 (h := fun hcg w hw => hsa hw.laid))) ?_ | refine xl_alloc (fun _ => ?_) | refine xl_box rfl (fun _ => ?_) | refine xl_store rfl rfl ?_ | refine xl_buildSlice rfl (fun _ => ?_)) | fail)
        refine wc_cond rfl (fun hc => ?_) (fun hc => ?_)
        · have hno : ¬ sameR r (rsp sHtmlT (formPN lt sv wrong)) = true := by simpa using hc
          rw [if_neg (fun h => hno h.2)]
          repeat' (first | refine sk ?_ | (refine gL ?_; first | refine xl_alloc (fun _ => ?_) | refine xl_box rfl (fun _ => ?_) | refine xl_store rfl rfl ?_ | refine xl_buildSlice rfl (fun _ => ?_)) | fail)
          exact wr_weak (fun _ h => h.drop (List.nil_sublist _)) (wr_tmp4 rfl rfl rfl rfl rfl rfl rfl rfl rfl)
        · have hyes : sameR r (rsp sHtmlT (formPN lt sv wrong)) = true := by simpa using hc
          rw [if_pos ⟨hok, hyes⟩]
          repeat' (first | refine sk ?_ | (refine gL ?_; first | refine xl_alloc (fun _ => ?_) | refine xl_box rfl (fun _ => ?_) | refine xl_store rfl rfl ?_ | refine xl_buildSlice rfl (fun _ => ?_)) | fail)
          exact wr_weak (fun _ h => h.drop (List.nil_sublist _)) (wr_tmp4 rfl rfl rfl rfl rfl rfl rfl rfl rfl)
      · rw [if_neg (fun h => h1 (hfo.1 h.1).2.2)]
        repeat' (first | (first | (show WL _ _ (Oper.mk _ (Op.binOp BinOp.neq _ _ _ _) _ _ _ _ :: _) _ _ _ _; refine wl_v rfl rfl rfl (opv_eq (ov_neq rfl rfl pI pI) (nd_f (by omega))) ?_) | (show WL _ _ (Oper.mk _ (Op.binOp BinOp.neq _ _ _ _) _ _ _ _ :: _) _ _ _ _; refine wl_v rfl rfl rfl (opv_eq (ov_neq rfl rfl pI pI) (nd_t (by omega))) ?_)) | (first | refine sk1 ?_ | (refine gL ?_; first | refine wl_v rfl rfl rfl (by first | (exact oc 51 Tryz.call51 (h := fun hcg w hw => hun _ _ _ hw)) | (show OpV _ _ _ _ (Oper.mk _ (Op.indexAddr _ _ (.const (.int .i64 0))) _ _ _ _) _ _; exact ov_indexAddr (i := 0) (b := b7) (o := o7) rfl rfl rfl pI pI rfl pZ (fun _ => rfl) (fun _ => by omega)) | (show OpV _ _ _ _ (Oper.mk _ (Op.indexAddr _ _ (.const (.int .i64 1))) _ _ _ _) _ _; exact ov_indexAddr (i := 1) (b := b7) (o := o7) rfl rfl rfl pI pI rfl pZ (fun _ => rfl) (fun _ => by omega)) | (show OpV _ _ _ _ (Oper.mk _ (Op.load _ _) _ _ _ _) _ _; exact ov_load1M rfl pI rfl rfl (fun _ => hMb) (fun _ => hc0 1 (by decide))) | (show OpV _ _ _ _ (Oper.mk _ (Op.load _ _) _ _ _ _) _ _; exact ov_load1M rfl pI rfl rfl (fun _ => hMb) (fun _ => hc1 1 (by decide))) | (exact ov_off (v := .bool false) rfl)) ?_ | refine xl_alloc (fun _ => ?_) | refine xl_box rfl (fun _ => ?_) | refine xl_store rfl rfl ?_ | refine xl_buildSlice rfl (fun _ => ?_)) | fail) | (refine wc_cond rfl (fun hc => ?_) (fun hc => ?_) <;> (try (simp only [bls] at hc)) <;> (try (exfalso; first | omega | contradiction))))
        exact wr_weak (fun _ h => h.drop (List.nil_sublist _)) (wr_tmp4 rfl rfl rfl rfl rfl rfl rfl rfl rfl)
    · rw [if_neg (fun h => h0 (hfo.1 h.1).2.1)]
      repeat' (first | (first | (show WL _ _ (Oper.mk _ (Op.binOp BinOp.neq _ _ _ _) _ _ _ _ :: _) _ _ _ _; refine wl_v rfl rfl rfl (opv_eq (ov_neq rfl rfl pI pI) (nd_f (by omega))) ?_) | (show WL _ _ (Oper.mk _ (Op.binOp BinOp.neq _ _ _ _) _ _ _ _ :: _) _ _ _ _; refine wl_v rfl rfl rfl (opv_eq (ov_neq rfl rfl pI pI) (nd_t (by omega))) ?_)) | (first | refine sk1 ?_ | (refine gL ?_; first | refine wl_v rfl rfl rfl (by first | (exact oc 51 Tryz.call51 (h := fun hcg w hw => hun _ _ _ hw)) | (show OpV _ _ _ _ (Oper.mk _ (Op.indexAddr _ _ (.const (.int .i64 0))) _ _ _ _) _ _; exact ov_indexAddr (i := 0) (b := b7) (o := o7) rfl rfl rfl pI pI rfl pZ (fun _ => rfl) (fun _ => by omega)) | (show OpV _ _ _ _ (Oper.mk _ (Op.indexAddr _ _ (.const (.int .i64 1))) _ _ _ _) _ _; exact ov_indexAddr (i := 1) (b := b7) (o := o7) rfl rfl rfl pI pI rfl pZ (fun _ => rfl) (fun _ => by omega)) | (show OpV _ _ _ _ (Oper.mk _ (Op.load _ _) _ _ _ _) _ _; exact ov_load1M rfl pI rfl rfl (fun _ => hMb) (fun _ => hc0 1 (by decide))) | (show OpV _ _ _ _ (Oper.mk _ (Op.load _ _) _ _ _ _) _ _; exact ov_load1M rfl pI rfl rfl (fun _ => hMb) (fun _ => hc1 1 (by decide))) | (exact ov_off (v := .bool false) rfl)) ?_ | refine xl_alloc (fun _ => ?_) | refine xl_box rfl (fun _ => ?_) | refine xl_store rfl rfl ?_ | refine xl_buildSlice rfl (fun _ => ?_)) | fail) | (refine wc_cond rfl (fun hc => ?_) (fun hc => ?_) <;> (try (simp only [bls] at hc)) <;> (try (exfalso; first | omega | contradiction))))
      exact wr_weak (fun _ h => h.drop (List.nil_sublist _)) (wr_tmp4 rfl rfl rfl rfl rfl rfl rfl rfl rfl)
  · rw [if_neg (fun h => h4 (hfo.1 h.1).1)]
    repeat' (first | ((show WL _ _ (Oper.mk _ (Op.binOp BinOp.neq _ _ _ _) _ _ _ _ :: _) _ _ _ _; refine wl_v rfl rfl rfl (opv_eq (ov_neq rfl rfl pI pI) (nd_t (by omega))) ?_)) | (first | refine sk1 ?_ | (refine gL ?_; first | refine wl_v rfl rfl rfl (by first | (exact oc 51 Tryz.call51 (h := fun hcg w hw => hun _ _ _ hw)) | (exact ov_off (v := .bool false) rfl)) ?_ | refine xl_alloc (fun _ => ?_) | refine xl_box rfl (fun _ => ?_) | refine xl_store rfl rfl ?_ | refine xl_buildSlice rfl (fun _ => ?_)) | fail) | (refine wc_cond rfl (fun hc => ?_) (fun hc => ?_) <;> (try (simp only [bls] at hc)) <;> (try (exfalso; first | omega | contradiction))))
    exact wr_weak (fun _ h => h.drop (List.nil_sublist _)) (wr_tmp4 rfl rfl rfl rfl rfl rfl rfl rfl rfl)
end Go.Proofs.YtgfbieplidpebaaGreatDoor
