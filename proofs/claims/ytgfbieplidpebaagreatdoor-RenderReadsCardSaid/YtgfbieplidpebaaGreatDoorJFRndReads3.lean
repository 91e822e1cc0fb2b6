/-
  Texts of a proof, joined: XmlE, XmlF, XmlG, XmlH, XmlP, XmlQ, XmlR, XmlT, EngM, XmlU, XmlV, XmlW, XmlX, CasS, EngO.
-/
import Derived.Lib.ConvBytes
import Derived.Laws.AppendOwn
import Derived.Test.YtgfbieplidpebaaGreatDoorJFRndReads1
import Derived.Test.YtgfbieplidpebaaGreatDoorJFRndReads2
/-
  The reference's questions of an element: Few, own, Right, Same.
-/
namespace Go.Proofs.YtgfbieplidpebaaGreatDoor
open Go.Eng Go.Pct Go.Xml Go.Rsp
set_option maxRecDepth 10000
set_option linter.unusedSimpArgs false
set_option linter.unusedVariables false

variable {M : Ghost} {w : World}

set_option maxHeartbeats 1000000 in
theorem rfew_ok : ∀ {D : Nat} {x : Nd} {vs : List Value}, NodeC M D x vs → ∀ (w : World), Laid M w → ∀ (left deep : Int), -1000 ≤ left → left ≤ 1000 → -1000 ≤ deep → deep ≤ 1000 → Calls Tryz.prog 99 #[.agg vs.toArray, i64 left, i64 deep] w (RetE w (i64 (fewN x left deep)))
  | 0, _, _, h => h.elim
  | D + 1, .mk n at' t k, vs, h => by
    intro w hM left deep hl1 hl2 hd1 hd2
    obtain ⟨va, vk, rfl, h2, h3, hb⟩ := h
    obtain ⟨a, cap, b, o, cs, T, fz, rfl, h4, h5, h6, h7⟩ := Sl.open h3
    rw [fewN]
    refine fn3 hM Tryz.func99 ?_
    by_cases hc : left ≤ 0 ∨ deep ≤ 0
    · rw [if_pos hc]
      repeat' (first | (first | refine sk ?_ | (refine gL ?_; first | refine xl_box rfl (fun _ => ?_)) | fail) | (refine wc_cond rfl (fun hc => ?_) (fun hc => ?_) <;> (try (simp only [bls] at hc)) <;> (try (exfalso; first | omega | contradiction))))
      exact wr_tmp rfl rfl rfl
    · rw [if_neg hc]
      repeat' (first | (first | refine sk ?_ | (refine gL ?_; first | refine xl_box rfl (fun _ => ?_)) | fail) | (refine wc_cond rfl (fun hc => ?_) (fun hc => ?_) <;> (try (simp only [bls] at hc)) <;> (try (exfalso; first | omega | contradiction))))
      rename_i b3
      refine wc_loop (α := { x : Nat × Int // x.1 ≤ k.length ∧ 0 ≤ x.2 ∧ x.2 ≤ 1000 ∧ fewL k (left - 1) (deep - 1) = fewL (k.drop x.1) x.2 (deep - 1) }) (fun x => [(1, true, i64 x.1.2), (2, true, i64 deep), (3, true, .pointer (some ⟨b3, 0, none⟩)), (7, true, i64 (x.1.1 : Int))]) (fun _ => St w [] [(b3, .cells [str n, va, str t, .slice a k.length cap].toArray 55 (0, 0))] M) (fun x => k.length - x.1.1) ⟨(0, left - 1), by omega, by omega, by omega, rfl⟩ pE (fun _ h => h) ?_
      rintro ⟨⟨i, cur⟩, hi, hcur, hcur2, hinv⟩
      dsimp only at hi hcur hcur2 hinv ⊢
      rcases Nat.lt_or_ge i k.length with hlt | hge
      · have hdr : k.drop i = k[i] :: k.drop (i + 1) := List.drop_eq_getElem_cons hlt
        obtain ⟨us, hu4, hus, hcells⟩ := h7 i hlt
        have hne : k ≠ [] := by intro e; subst e; simp at hlt
        obtain ⟨rfl, hMb⟩ := h6 hne
        have ih := fun {w : World} (hw : Laid M w) => rfew_ok hus _ hw cur (deep - 1) (by omega) (by omega) (by omega) (by omega)
        have hle := fewN_le k[i] cur (deep - 1)
        rw [hdr, fewL] at hinv
        generalize k[i] = y at *
        generalize fewN y cur (deep - 1) = r at *
        repeat' (first | (first | refine sk ?_ | (refine gL ?_; first | refine wl_v rfl rfl rfl (by first | (show OpV _ _ _ _ (Oper.mk _ (Op.indexAddr _ _ _) _ _ _ _) _ _; exact ov_indexAddr (i := i) (b := b) (o := o) rfl rfl rfl pI pI rfl pZ (fun _ => rfl) pS) | (show OpV _ _ _ _ (Oper.mk _ (Op.load _ _) _ _ _ _) _ _; exact ov_loadSM (l := us) rfl pI rfl (by rw [hu4]; rfl) (fun _ => hMb) (fun _ j hj => hcells j (by rw [hu4] at hj; exact hj))) | (exact oc 99 Tryz.call99 (h := fun hcg w hw => ih hw.laid))) ?_ | refine xl_box rfl (fun _ => ?_)) | fail) | (refine wc_cond rfl (fun hc => ?_) (fun hc => ?_) <;> (try (simp only [bls] at hc)) <;> (try (exfalso; first | omega | contradiction))))
        · rw [if_pos hc] at hinv
          exact wr_tmp rfl rfl (by rw [hinv])
        · rw [if_neg (by omega)] at hinv
          exact wn_cut ⟨(i + 1, r), by omega, by omega, by omega, hinv⟩ (by show k.length - (i + 1) < k.length - i; omega) pE (fun _ h => h.drop pL)
      · obtain rfl : i = k.length := by omega
        rw [List.drop_length, fewL] at hinv
        repeat' (first | (first | refine sk ?_ | (refine gL ?_; first | refine xl_box rfl (fun _ => ?_)) | fail) | (refine wc_cond rfl (fun hc => ?_) (fun hc => ?_) <;> (try (simp only [bls] at hc)) <;> (try (exfalso; first | omega | contradiction))))
        exact wr_tmp rfl rfl (by rw [hinv])
theorem list4 {vs : List Value} (h : vs.length = 4) : ∃ a b c d, vs = [a, b, c, d] := by
  match vs, h with
  | [a, b, c, d], _ => exact ⟨a, b, c, d, rfl⟩
theorem attrs_lt {l : List Pr} {i : Nat} (h : i < l.length) (hb : attrOk l i = false) : attrsB l = false := by
  unfold attrsB
  rw [Bool.eq_false_iff]
  intro h1
  rw [List.all_eq_true] at h1
  have := h1 i (List.mem_range.2 h)
  rw [hb] at this; cases this
theorem attrs_all {l : List Pr} (h : ∀ i, i < l.length → attrOk l i = true) : attrsB l = true := by
  unfold attrsB
  rw [List.all_eq_true]
  intro i hi
  exact h i (List.mem_range.1 hi)
theorem any_at {l : List Pr} {i j : Nat} {s : List UInt8} (hj : j < i) (hi : i ≤ l.length) (h : (l.getD j default).1 = s) : (l.take i).any (fun b => decide (b.1 = s)) = true := by
  rw [List.any_eq_true]
  refine ⟨l.getD j default, ?_, by simpa using h⟩
  have : j < l.length := by omega
  rw [show l.getD j default = l[j] by simp [this], List.mem_take_iff_getElem]
  exact ⟨j, by omega, rfl⟩
theorem any_none {l : List Pr} {i : Nat} {s : List UInt8} (hi : i ≤ l.length) (h : ∀ j, j < i → (l.getD j default).1 ≠ s) : (l.take i).any (fun b => decide (b.1 = s)) = false := by
  rw [Bool.eq_false_iff]
  intro h1
  rw [List.any_eq_true] at h1
  obtain ⟨x, hx, he⟩ := h1
  rw [List.mem_take_iff_getElem] at hx
  obtain ⟨j, hj, rfl⟩ := hx
  have hjl : j < l.length := by omega
  exact h j (by omega) (by simpa [hjl] using he)
theorem pcell2 {cs : Array Value} {q : Nat} {x y : Value} (h : cs[q]? = some x ∧ cs[q + 1]? = some y) : ∀ j, j < [x, y].length → cs[q + j]? = [x, y][j]?
  | 0, _ => h.1
  | 1, _ => h.2
  | j + 2, h => by exfalso; simp at h; omega
theorem getD_memP {l : List Pr} {i : Nat} (h : i < l.length) : l.getD i default ∈ l := by
  rw [show l.getD i default = l[i] by simp [h]]
  exact List.getElem_mem h
set_option maxHeartbeats 1000000 in
theorem rown_ok : ∀ {D : Nat} {x : Nd} {vs : List Value}, NodeC M D x vs → ∀ (w : World), Laid M w → Calls Tryz.prog 100 #[.agg vs.toArray] w (RetE w (.bool (ownN x)))
  | 0, _, _, h => h.elim
  | D + 1, .mk n at' t k, vs, h => by
    intro w hM
    obtain ⟨va, vk, rfl, h2, h3, hb1, hb2, hb3⟩ := h
    obtain ⟨a, cap, b, o, cs, T, fz, rfl, h4, h5, h6, h7⟩ := Sl.open h3
    obtain ⟨a', cap', b', o', cs', T', fz', rfl, g4, g5, g6, g7⟩ := h2.open
    have hnm := fun {w : World} (hw : Laid M w) => rname_ok hw n (by omega)
    have hsh := fun {w : World} (hw : Laid M w) => rshown_ok hw t (by omega)
    rw [ownN]
    refine fn1 hM Tryz.func100 ?_
    cases hq1 : nameB n with
    | false =>
      rw [hq1] at hnm
      repeat' (first | (first | refine sk ?_ | (refine gL ?_; first | refine wl_v rfl rfl rfl (by first | (exact oc 115 Tryz.call115 (h := fun hcg w hw => hnm hw.laid)) | (exact oc 116 Tryz.call116 (h := fun hcg w hw => hsh hw.laid))) ?_ | refine xl_alloc (fun _ => ?_) | refine xl_box rfl (fun _ => ?_) | refine xl_store rfl rfl ?_) | fail) | (refine wc_cond rfl (fun hc => ?_) (fun hc => ?_) <;> (try (simp only [bls] at hc)) <;> (try (exfalso; first | omega | contradiction))))
      exact wr_tmp rfl rfl rfl
    | true =>
    cases hq2 : shwB t with
    | false =>
      rw [hq1] at hnm
      rw [hq2] at hsh
      repeat' (first | (first | refine sk ?_ | (refine gL ?_; first | refine wl_v rfl rfl rfl (by first | (exact oc 115 Tryz.call115 (h := fun hcg w hw => hnm hw.laid)) | (exact oc 116 Tryz.call116 (h := fun hcg w hw => hsh hw.laid))) ?_ | refine xl_alloc (fun _ => ?_) | refine xl_box rfl (fun _ => ?_) | refine xl_store rfl rfl ?_) | fail) | (refine wc_cond rfl (fun hc => ?_) (fun hc => ?_) <;> (try (simp only [bls] at hc)) <;> (try (exfalso; first | omega | contradiction))))
      exact wr_tmp rfl rfl rfl
    | true =>
    rw [hq1] at hnm
    rw [hq2] at hsh
    repeat' (first | (first | refine sk ?_ | (refine gL ?_; first | refine wl_v rfl rfl rfl (by first | (exact oc 115 Tryz.call115 (h := fun hcg w hw => hnm hw.laid)) | (exact oc 116 Tryz.call116 (h := fun hcg w hw => hsh hw.laid))) ?_ | refine xl_alloc (fun _ => ?_) | refine xl_box rfl (fun _ => ?_) | refine xl_store rfl rfl ?_) | fail) | (refine wc_cond rfl (fun hc => ?_) (fun hc => ?_) <;> (try (simp only [bls] at hc)) <;> (try (exfalso; first | omega | contradiction))))
    · obtain ⟨c1, c2⟩ := hc
      have e1 : t.isEmpty = false := by cases t <;> simp_all
      have e2 : k.isEmpty = false := by cases k <;> simp_all
      exact wr_tmp rfl rfl (by rw [e1, e2]; rfl)
    rename_i b1
    have htk : (t.isEmpty || k.isEmpty) = true := by
      rcases hc with rfl | h
      · rfl
      · have : k = [] := List.eq_nil_of_length_eq_zero (by omega)
        subst this; simp
    rw [htk]
    simp only [Bool.true_and]
    refine wc_loop (α := { i : Nat // i ≤ at'.length ∧ ∀ j, j < i → attrOk at' j = true }) (fun x => [(1, true, .pointer (some ⟨b1, 0, none⟩)), (5, true, i64 (x.1 : Int))]) (fun _ => St w [] [(b1, .cells [str n, .slice a' at'.length cap', str t, .slice a k.length cap].toArray 55 (0, 0))] M) (fun x => at'.length - x.1) ⟨0, by omega, by intro j hj; omega⟩ pE (fun _ h => h) ?_
    rintro ⟨i, hi, hall⟩
    dsimp only
    rcases Nat.lt_or_ge i at'.length with hlt | hge
    · have hne : at' ≠ [] := by intro e; subst e; simp at hlt
      obtain ⟨rfl, hMb⟩ := g6 hne
      have hp3 := hb3 (at'.getD i default) (getD_memP hlt)
      have hn2 := fun {w : World} (hw : Laid M w) => rname_ok hw (at'.getD i default).1 (by omega)
      have hs2 := fun {w : World} (hw : Laid M w) => rshown_ok hw (at'.getD i default).2 (by omega)
      have gi := g7 i hlt
      have hok : attrOk at' i = (nameB (at'.getD i default).1 && shwB (at'.getD i default).2 && !((at'.take i).any fun b => decide (b.1 = (at'.getD i default).1))) := rfl
      generalize hpe : at'.getD i default = p at *
      by_cases hns : nameB p.1 = true ∧ shwB p.2 = true
      · rw [hns.1] at hn2
        rw [hns.2] at hs2
        repeat' (first | (first | refine sk ?_ | (refine gL ?_; first | refine wl_v rfl rfl rfl (by first | (exact oc 115 Tryz.call115 (h := fun hcg w hw => hn2 hw.laid)) | (exact oc 116 Tryz.call116 (h := fun hcg w hw => hs2 hw.laid)) | (show OpV _ _ _ _ (Oper.mk _ (Op.indexAddr _ _ _) _ _ _ _) _ _; exact ov_indexAddr (i := i) (b := b') (o := o') rfl rfl rfl pI pI rfl pZ (fun _ => rfl) pS) | (show OpV _ _ _ _ (Oper.mk _ (Op.load _ _) _ _ _ _) _ _; exact ov_loadSM (l := [str p.1, str p.2]) rfl pI rfl pZ (fun _ => hMb) (fun _ => pcell2 gi))) ?_ | refine xl_alloc (fun _ => ?_) | refine xl_box rfl (fun _ => ?_) | refine xl_store rfl rfl ?_) | fail) | (refine wc_cond rfl (fun hc => ?_) (fun hc => ?_) <;> (try (simp only [bls] at hc)) <;> (try (exfalso; first | omega | contradiction))))
        rename_i b6
        have hsnd : (nameB p.1 && shwB p.2) = true := by rw [hns.1, hns.2]; rfl
        rw [hsnd, Bool.true_and] at hok
        refine wc_loop (α := { k2 : Nat // k2 ≤ i ∧ ∀ j, j < k2 → (at'.getD j default).1 ≠ p.1 }) (fun x => [(1, true, .pointer (some ⟨b1, 0, none⟩)), (5, true, i64 (i : Int)), (6, true, .pointer (some ⟨b6, 0, none⟩)), (7, true, i64 (x.1 : Int))]) (fun _ => St w [] [(b6, .cells [str p.1, str p.2].toArray 50 (0, 0)), (b1, .cells [str n, .slice (some ⟨b', o', none⟩) at'.length cap', str t, .slice a k.length cap].toArray 55 (0, 0))] M) (fun x => i - x.1) ⟨0, by omega, by intro j hj; omega⟩ pE (fun _ h => h) ?_
        rintro ⟨k2, hk2, hnone⟩
        dsimp only
        rcases Nat.lt_or_ge k2 i with hlt2 | hge2
        · have g2 := g7 k2 (by omega)
          repeat' (first | (first | refine sk ?_ | (refine gL ?_; first | refine xl_alloc (fun _ => ?_) | refine xl_box rfl (fun _ => ?_) | refine xl_store rfl rfl ?_) | fail) | (refine wc_cond rfl (fun hc => ?_) (fun hc => ?_) <;> (try (simp only [bls] at hc)) <;> (try (exfalso; first | omega | contradiction))))
          refine wc_draw 9 (by kernel_rfl) rfl (by kernel_rfl) (fun _ _ h k => h.ext k) ?_
          repeat' (first | (refine gD ?_; first | refine yd_v rfl rfl rfl rfl rfl rfl ?_ | refine wd_v rfl rfl rfl rfl rfl rfl (by first | (show OpV _ _ _ _ (Oper.mk _ (Op.indexAddr _ _ _) _ _ _ _) _ _; exact ov_indexAddr (i := k2) (b := b') (o := o') rfl rfl rfl pI pI rfl pZ (fun _ => rfl) pS) | (show OpV _ _ _ _ (Oper.mk _ (Op.load _ _) _ _ _ _) _ _; exact ov_load1M rfl pI rfl rfl (fun _ => hMb) (fun _ => g2.1))) ?_ | refine yd_new rfl rfl rfl rfl rfl rfl ?_ | refine wd_conv rfl rfl rfl rfl rfl rfl rfl rfl rfl rfl ?_) | (refine gE ?_; first | refine wd_nil ?_ | refine wd_nilF ?_) | (first | refine sk ?_ | (refine gL ?_; first | refine wl_v rfl rfl rfl (by first | (show OpV _ _ _ _ (Oper.mk _ (Op.indexAddr _ _ _) _ _ _ _) _ _; exact ov_indexAddr (i := k2) (b := b') (o := o') rfl rfl rfl pI pI rfl pZ (fun _ => rfl) pS) | (show OpV _ _ _ _ (Oper.mk _ (Op.load _ _) _ _ _ _) _ _; exact ov_load1M rfl pI rfl rfl (fun _ => hMb) (fun _ => g2.1))) ?_ | refine xl_alloc (fun _ => ?_) | refine xl_box rfl (fun _ => ?_) | refine xl_store rfl rfl ?_) | fail))
          repeat' (first | (first | refine sk ?_ | (refine gL ?_; first | refine xl_alloc (fun _ => ?_) | refine xl_box rfl (fun _ => ?_) | refine xl_store rfl rfl ?_) | fail) | (refine wc_cond rfl (fun hc => ?_) (fun hc => ?_) <;> (try (simp only [bls] at hc)) <;> (try (exfalso; first | omega | contradiction))))
          · have hbad : attrOk at' i = false := by rw [hok, any_at hlt2 hi hc]; rfl
            exact wr_tmp rfl rfl (by rw [attrs_lt hlt hbad]; rfl)
          · refine wn_cut ⟨k2 + 1, by omega, ?_⟩ (by show i - (k2 + 1) < i - k2; omega) pE (fun _ h => h)
            intro j hj
            by_cases h : j = k2
            · subst h; exact hc
            · exact hnone j (by omega)
        · obtain rfl : k2 = i := by omega
          rw [any_none hi hnone] at hok
          repeat' (first | (first | refine sk ?_ | (refine gL ?_; first | refine xl_alloc (fun _ => ?_) | refine xl_box rfl (fun _ => ?_) | refine xl_store rfl rfl ?_) | fail) | (refine wc_cond rfl (fun hc => ?_) (fun hc => ?_) <;> (try (simp only [bls] at hc)) <;> (try (exfalso; first | omega | contradiction))))
          refine wn_cut ⟨k2 + 1, by omega, ?_⟩ (by show at'.length - (k2 + 1) < at'.length - k2; omega) pE (fun _ h => h.drop pL)
          intro j hj
          by_cases h : j = k2
          · subst h; exact hok
          · exact hall j (by omega)
      · repeat' (first | (first | refine sk ?_ | (refine gL ?_; first | refine wl_v rfl rfl rfl (by first | (exact oc 115 Tryz.call115 (h := fun hcg w hw => hn2 hw.laid)) | (exact oc 116 Tryz.call116 (h := fun hcg w hw => hs2 hw.laid)) | (show OpV _ _ _ _ (Oper.mk _ (Op.indexAddr _ _ _) _ _ _ _) _ _; exact ov_indexAddr (i := i) (b := b') (o := o') rfl rfl rfl pI pI rfl pZ (fun _ => rfl) pS) | (show OpV _ _ _ _ (Oper.mk _ (Op.load _ _) _ _ _ _) _ _; exact ov_loadSM (l := [str p.1, str p.2]) rfl pI rfl pZ (fun _ => hMb) (fun _ => pcell2 gi))) ?_ | refine xl_alloc (fun _ => ?_) | refine xl_box rfl (fun _ => ?_) | refine xl_store rfl rfl ?_) | fail) | (refine wc_cond rfl (fun hc => ?_) (fun hc => ?_) <;> (try (simp only [bls] at hc)) <;> (try (exfalso; first | omega | contradiction))))
        · have hbad : attrOk at' i = false := by
            rw [hok]
            cases h1 : nameB p.1
            · rfl
            · cases h2 : shwB p.2
              · rfl
              · exact absurd ⟨h1, h2⟩ hns
          exact wr_tmp rfl rfl (by rw [attrs_lt hlt hbad]; rfl)
    · obtain rfl : i = at'.length := by omega
      rw [attrs_all hall]
      simp only [Bool.true_and]
      repeat' (first | (first | refine sk ?_ | (refine gL ?_; first | refine xl_alloc (fun _ => ?_) | refine xl_box rfl (fun _ => ?_) | refine xl_store rfl rfl ?_) | fail) | (refine wc_cond rfl (fun hc => ?_) (fun hc => ?_) <;> (try (simp only [bls] at hc)) <;> (try (exfalso; first | omega | contradiction))))
      refine wc_loop (α := { i : Nat // i ≤ k.length ∧ ownL k = ownL (k.drop i) }) (fun x => [(1, true, .pointer (some ⟨b1, 0, none⟩)), (8, true, i64 (x.1 : Int))]) (fun _ => St w [] [(b1, .cells [str n, .slice a' at'.length cap', str t, .slice a k.length cap].toArray 55 (0, 0))] M) (fun x => k.length - x.1) ⟨0, by omega, rfl⟩ pE (fun _ h => h) ?_
      rintro ⟨i, hi, hinv⟩
      dsimp only
      rcases Nat.lt_or_ge i k.length with hlt | hge
      · have hdr : k.drop i = k[i] :: k.drop (i + 1) := List.drop_eq_getElem_cons hlt
        obtain ⟨us, hu4, hus, hcells⟩ := h7 i hlt
        have hne : k ≠ [] := by intro e; subst e; simp at hlt
        obtain ⟨rfl, hMb⟩ := h6 hne
        have ih := fun {w : World} (hw : Laid M w) => rown_ok hus w hw
        rw [hdr, ownL] at hinv
        generalize k[i] = y at *
        generalize ownN y = r at *
        cases r with
        | false =>
          repeat' (first | (first | refine sk ?_ | (refine gL ?_; first | refine wl_v rfl rfl rfl (by first | (show OpV _ _ _ _ (Oper.mk _ (Op.indexAddr _ _ _) _ _ _ _) _ _; exact ov_indexAddr (i := i) (b := b) (o := o) rfl rfl rfl pI pI rfl pZ (fun _ => rfl) pS) | (show OpV _ _ _ _ (Oper.mk _ (Op.load _ _) _ _ _ _) _ _; exact ov_loadSM (l := us) rfl pI rfl (by rw [hu4]; rfl) (fun _ => hMb) (fun _ j hj => hcells j (by rw [hu4] at hj; exact hj))) | (exact oc 100 Tryz.call100 (h := fun hcg w hw => ih hw.laid))) ?_ | refine xl_alloc (fun _ => ?_) | refine xl_box rfl (fun _ => ?_) | refine xl_store rfl rfl ?_) | fail) | (refine wc_cond rfl (fun hc => ?_) (fun hc => ?_) <;> (try (simp only [bls] at hc)) <;> (try (exfalso; first | omega | contradiction))))
          exact wr_tmp rfl rfl (by rw [hinv]; rfl)
        | true =>
          repeat' (first | (first | refine sk ?_ | (refine gL ?_; first | refine wl_v rfl rfl rfl (by first | (show OpV _ _ _ _ (Oper.mk _ (Op.indexAddr _ _ _) _ _ _ _) _ _; exact ov_indexAddr (i := i) (b := b) (o := o) rfl rfl rfl pI pI rfl pZ (fun _ => rfl) pS) | (show OpV _ _ _ _ (Oper.mk _ (Op.load _ _) _ _ _ _) _ _; exact ov_loadSM (l := us) rfl pI rfl (by rw [hu4]; rfl) (fun _ => hMb) (fun _ j hj => hcells j (by rw [hu4] at hj; exact hj))) | (exact oc 100 Tryz.call100 (h := fun hcg w hw => ih hw.laid))) ?_ | refine xl_alloc (fun _ => ?_) | refine xl_box rfl (fun _ => ?_) | refine xl_store rfl rfl ?_) | fail) | (refine wc_cond rfl (fun hc => ?_) (fun hc => ?_) <;> (try (simp only [bls] at hc)) <;> (try (exfalso; first | omega | contradiction))))
          exact wn_cut ⟨i + 1, by omega, by rw [hinv, Bool.true_and]⟩ (by show k.length - (i + 1) < k.length - i; omega) pE (fun _ h => h)
      · obtain rfl : i = k.length := by omega
        rw [List.drop_length, ownL] at hinv
        repeat' (first | (first | refine sk ?_ | (refine gL ?_; first | refine xl_alloc (fun _ => ?_) | refine xl_box rfl (fun _ => ?_) | refine xl_store rfl rfl ?_) | fail) | (refine wc_cond rfl (fun hc => ?_) (fun hc => ?_) <;> (try (simp only [bls] at hc)) <;> (try (exfalso; first | omega | contradiction))))
        exact wr_tmp rfl rfl (by rw [hinv])
end Go.Proofs.YtgfbieplidpebaaGreatDoor
/-
  Right, Same (the reference's); attributes, fits, Right (the package's).
-/
namespace Go.Proofs.YtgfbieplidpebaaGreatDoor
open Go.Eng Go.Pct Go.Xml Go.Rsp
set_option maxRecDepth 10000
set_option linter.unusedSimpArgs false
set_option linter.unusedVariables false

variable {M : Ghost} {w : World}

theorem rright_ok (hM : Laid M w) {D : Nat} {x : Nd} {vs : List Value} (h : NodeC M D x vs) : Calls Tryz.prog 83 #[.agg vs.toArray] w (RetE w (.bool (rightN x))) := by
  obtain ⟨v0, v1, v2, v3, e⟩ := list4 h.four
  have hf := fun {w : World} (hw : Laid M w) => rfew_ok h w hw 200 8 (by omega) (by omega) (by omega) (by omega)
  have ho := fun {w : World} (hw : Laid M w) => rown_ok h w hw
  unfold rightN
  generalize fewN x 200 8 = r at *
  generalize ownN x = q at *
  subst e
  refine fn1 hM Tryz.func83 ?_
  repeat' (first | (first | refine sk ?_ | (refine gL ?_; first | refine wl_v rfl rfl rfl (by first | (exact oc 99 Tryz.call99 (h := fun hcg w hw => hf hw.laid)) | (exact oc 100 Tryz.call100 (h := fun hcg w hw => ho hw.laid))) ?_ | refine xl_box rfl (fun _ => ?_)) | fail) | (refine wc_cond rfl (fun hc => ?_) (fun hc => ?_) <;> (try (simp only [bls] at hc)) <;> (try (exfalso; first | omega | contradiction))))
  exact wr_tmp rfl rfl rfl
theorem sameL_len : ∀ {k k' : List Nd}, k.length ≠ k'.length → sameL k k' = false
  | [], [], h => absurd rfl h
  | [], _ :: _, _ => by simp [sameL]
  | _ :: _, [], _ => by simp [sameL]
  | x :: l, y :: m, h => by
    rw [sameL, sameL_len (k := l) (k' := m) (by simpa using h), Bool.and_false]
end Go.Proofs.YtgfbieplidpebaaGreatDoor
/-
  Attributes, fits, Right (the package's).
-/
namespace Go.Proofs.YtgfbieplidpebaaGreatDoor
open Go.Eng Go.Pct Go.Xml Go.Rsp
set_option maxRecDepth 10000
set_option linter.unusedSimpArgs false
set_option linter.unusedVariables false

variable {M : Ghost} {w : World}

theorem slP_take {a : Option Addr} {cap i : Nat} {l : List Pr} (h : SlP M (.slice a l.length cap) l) (hi : i ≤ l.length) : SlP M (.slice a i cap) (l.take i) := by
  obtain ⟨a', cap', h1, h2, h3, h4⟩ := h
  cases h1
  have hl : (l.take i).length = i := by rw [List.length_take]; omega
  refine ⟨a, cap, by rw [hl], by omega, by omega, fun hne => ?_⟩
  have hne' : l ≠ [] := by intro e; subst e; simp at hne
  obtain ⟨b, o, cs, T, fz, h5, h6, h7⟩ := h4 hne'
  refine ⟨b, o, cs, T, fz, h5, h6, fun j hj => ?_⟩
  obtain ⟨vs, k1, k2, k3⟩ := h7 j (by omega)
  exact ⟨vs, k1, by rw [List.getElem_take]; exact k2, k3⟩
theorem St.less {M' : Ghost} {w0 : World} {bs : List Nat} {H : List (Nat × Obj)} (h : St w0 bs H M' w) (hm : ∀ b o, M b o → M' b o) : St w0 bs H M w :=
  ⟨h.keep, h.own, h.new, h.nodup, fun b o hb => h.laid b o (hm b o hb), fun b o hb => h.apart b o (hm b o hb)⟩
theorem atFn_ok (hM : Laid M w) {b : Nat} {s t : List UInt8} {T : TypeId} {fz : Nat × Nat} (hb : M b (.cells #[str s, str t] T fz)) (x : Pr) : Calls Tryz.prog 113 ([] ++ [Value.agg #[str x.1, str x.2]] ++ [Value.pointer (some ⟨b, 0, none⟩)]).toArray w (RetE w (.bool (decide (x.1 = s)))) := by
  show Calls Tryz.prog 113 #[.agg #[str x.1, str x.2], .pointer (some ⟨b, 0, none⟩)] w _
  refine fn2 hM Tryz.func113 ?_
  repeat' (first | (first | refine sk ?_ | (refine gL ?_; first | refine wl_v rfl rfl rfl (by first | (show OpV _ _ _ _ (Oper.mk _ (Op.load _ _) _ _ _ _) _ _; exact ov_load1M rfl pI rfl rfl (fun _ => hb) (fun _ => rfl))) ?_ | refine xl_box rfl (fun _ => ?_)) | fail) | (refine wc_cond rfl (fun hc => ?_) (fun hc => ?_) <;> (try (simp only [bls] at hc)) <;> (try (exfalso; first | omega | contradiction))))
  exact wr_tmp rfl rfl rfl
set_option maxHeartbeats 1000000 in
theorem attrs_ok (hM : Laid M w) {v : Value} {l : List Pr} (hv : SlP M v l) (hb : ∀ p ∈ l, p.1.length ≤ 100000000 ∧ p.2.length ≤ 100000000) : Calls Tryz.prog 95 #[v] w (RetE w (.bool (attrsB l))) := by
  obtain ⟨a, cap, b, o, cs, T, fz, rfl, g4, g5, g6, g7⟩ := hv.open
  refine fn1 hM Tryz.func95 ?_
  repeat' (first | (first | refine sk ?_ | (refine gL ?_; first | refine xl_alloc (fun _ => ?_) | refine xl_store rfl rfl ?_) | fail) | (refine wc_cond rfl (fun hc => ?_) (fun hc => ?_) <;> (try (simp only [bls] at hc)) <;> (try (exfalso; first | omega | contradiction))))
  refine wc_loop (α := { i : Nat // i ≤ l.length ∧ ∀ j, j < i → attrOk l j = true }) (fun x => [(0, true, .slice a l.length cap), (5, true, .slice a l.length cap), (6, true, i64 (l.length : Int)), (7, true, i64 (x.1 : Int))]) (fun _ => St w [] [] M) (fun x => l.length - x.1) ⟨0, by omega, by intro j hj; omega⟩ pE (fun _ h => h) ?_
  rintro ⟨i, hi, hall⟩
  dsimp only
  rcases Nat.lt_or_ge i l.length with hlt | hge
  · have hne : l ≠ [] := by intro e; subst e; simp at hlt
    obtain ⟨rfl, hMb⟩ := g6 hne
    have hp3 := hb (l.getD i default) (getD_memP hlt)
    have hn2 := fun {w : World} (hw : Laid M w) => name_ok hw (l.getD i default).1 (by omega)
    have hs2 := fun {w : World} (hw : Laid M w) => shown_ok hw (l.getD i default).2 (by omega)
    have gi := g7 i hlt
    have hok : attrOk l i = (nameB (l.getD i default).1 && shwB (l.getD i default).2 && !((l.take i).any fun b => decide (b.1 = (l.getD i default).1))) := rfl
    have htk := slP_take hv hi
    generalize l.getD i default = p at *
    repeat' (first | (first | refine sk ?_ | (refine gL ?_; first | refine wl_v rfl rfl rfl (by first | (exact oc 94 Tryz.call94 (h := fun hcg w hw => hn2 hw.laid)) | (exact oc 96 Tryz.call96 (h := fun hcg w hw => hs2 hw.laid)) | (show OpV _ _ _ _ (Oper.mk _ (Op.indexAddr _ _ _) _ _ _ _) _ _; exact ov_indexAddr (i := i) (b := b) (o := o) rfl rfl rfl pI pI rfl pZ (fun _ => rfl) pS) | (show OpV _ _ _ _ (Oper.mk _ (Op.load _ _) _ _ _ _) _ _; exact ov_loadSM (l := [str p.1, str p.2]) rfl pI rfl pZ (fun _ => hMb) (fun _ => pcell2 gi))) ?_ | refine xl_alloc (fun _ => ?_) | refine xl_store rfl rfl ?_) | fail) | (refine wc_cond rfl (fun hc => ?_) (fun hc => ?_) <;> (try (simp only [bls] at hc)) <;> (try (exfalso; first | omega | contradiction))))
    rename_i b4
    refine wl_publish (H1 := [(b4, .cells [str p.1, str p.2].toArray 50 (0, 0))]) (fun _ => ?_)
    have hm4 : With M [(b4, .cells [str p.1, str p.2].toArray 50 (0, 0))] b4 (.cells #[str p.1, str p.2] 50 (0, 0)) := .inr (List.Mem.head _)
    have htk4 : SlP (With M [(b4, .cells [str p.1, str p.2].toArray 50 (0, 0))]) (.slice (some ⟨b, o, none⟩) i cap) (l.take i) := Sl.mono htk (fun _ _ => .inl) (fun _ _ _ h => h)
    have hcf := fun {w : World} (h : Laid (With M [(b4, .cells [str p.1, str p.2].toArray 50 (0, 0))]) w) => cfunc_ok h htk4 (fun x => decide (x.1 = p.1)) 113 [] [.pointer (some ⟨b4, 0, none⟩)] Tryz.call113 (fun x w hL => atFn_ok hL hm4 x)
    repeat' (first | (first | refine sk ?_ | (refine gL ?_; first | refine wl_v rfl rfl rfl (by first | (exact oc 112 Tryz.call112 (h := fun hcg w hw => hcf hw.laid))) ?_ | refine xl_alloc (fun _ => ?_) | refine xl_store rfl rfl ?_) | fail) | (refine wc_cond rfl (fun hc => ?_) (fun hc => ?_) <;> (try (simp only [bls] at hc)) <;> (try (exfalso; first | omega | contradiction))))
    · have hbad : attrOk l i = false := by
        rw [hok]
        rcases hc with (h | h) | h <;> rw [h] <;> simp
      exact wr_tmp rfl rfl (by rw [attrs_lt hlt hbad])
    · refine wn_cut ⟨i + 1, by omega, ?_⟩ (by show l.length - (i + 1) < l.length - i; omega) pE (fun _ h => St.less h (fun _ _ => .inl))
      have hgood : attrOk l i = true := by rw [hok, hc.1.1, hc.1.2, hc.2]; rfl
      intro j hj
      by_cases h : j = i
      · subst h; exact hgood
      · exact hall j (by omega)
  · obtain rfl : i = l.length := by omega
    rw [attrs_all hall]
    repeat' (first | (first | refine sk ?_ | (refine gL ?_; first | refine xl_alloc (fun _ => ?_) | refine xl_store rfl rfl ?_) | fail) | (refine wc_cond rfl (fun hc => ?_) (fun hc => ?_) <;> (try (simp only [bls] at hc)) <;> (try (exfalso; first | omega | contradiction))))
    exact wr_tmp rfl rfl rfl
theorem node_open {D : Nat} {x : Nd} {vs : List Value} (h : NodeC M D x vs) : ∃ n a1 l1 c1 t a2 l2 c2, vs = [str n, .slice a1 l1 c1, str t, .slice a2 l2 c2] := by
  match D, x, h with
  | D + 1, .mk n at' t k, h =>
    obtain ⟨va, vk, rfl, ⟨a1, c1, rfl, _⟩, ⟨a2, c2, rfl, _⟩, _⟩ := h
    exact ⟨_, _, _, _, _, _, _, _, rfl⟩
theorem wrl_tmp {n : Nat} {E : Env} {C C' : World → Prop} {fn : Func} {t : Nat} {v v' : Value} (hr : fn.results = #[.tmp t]) (ht : Eng.look E t = some (true, v')) (hv : v' = v) (hC : ∀ w, C w → C' w) : WR n E C (bodyPost Tryz.prog fn (RetC C' v)) := ⟨fun a w ha hw => by
  refine bodyPost_ret (v := v) ?_ ha.defers ⟨rfl, hC _ hw⟩
  have h1 := ha.reads t true v' ht
  rw [results_tmp hr]
  simp [h1, hv]⟩
/-- the cell of a number -/
def intO (z : Int) : Obj := .cells [i64 z].toArray 3 (0, 0)
set_option maxHeartbeats 1000000 in
theorem fits_ok : ∀ {D : Nat} {x : Nd} {vs : List Value}, NodeC M D x vs → ∀ {w0 w : World} {H : List (Nat × Obj)} {bl : Nat} {deep left : Int}, St w0 [] ((bl, intO left) :: H) M w → -1000 ≤ left → left ≤ 1000 → 0 ≤ deep → deep ≤ 10 → Calls Tryz.prog 80 #[.agg vs.toArray, i64 deep, .pointer (some ⟨bl, 0, none⟩)] w (RetC (St w0 [] ((bl, intO (fitsN x deep left).2) :: H) M) (.bool (fitsN x deep left).1))
  | 0, _, _, h => h.elim
  | D + 1, .mk n at' t k, vs, hx => by
    intro hw hl1 hl2 hd1 hd2
    rename_i w0 w H bl deep left
    obtain ⟨va, vk, rfl, ha, h3, hb1, hb2, hb3⟩ := hx
    obtain ⟨a, cap, b, o, cs, T, fz, rfl, h4, h5, h6, h7⟩ := Sl.open h3
    have hnm := fun {w : World} (hw : Laid M w) => name_ok hw n (by omega)
    have hat := fun {w : World} (hw : Laid M w) => attrs_ok hw ha hb3
    have hsh := fun {w : World} (hw : Laid M w) => shown_ok hw t (by omega)
    rw [fitsN]
    refine calls_lent (C := St w0 [] ((bl, intO left) :: H) M) (l := [.agg [str n, va, str t, .slice a k.length cap].toArray, i64 deep, .pointer (some ⟨bl, 0, none⟩)]) hw Tryz.func80 rfl rfl rfl (E0 := [(0, true, .agg [str n, va, str t, .slice a k.length cap].toArray), (1, true, i64 deep), (2, true, .pointer (some ⟨bl, 0, none⟩))]) (params_cons rfl (params_cons rfl (params_cons rfl (params_nil _)))) ?_
    clear hw
    unfold intO
    repeat' (first | (first | refine sk ?_ | (refine gL ?_; first | refine wl_v rfl rfl rfl (by first | (exact oc 94 Tryz.call94 (h := fun hcg w hw => hnm hw.laid)) | (exact oc 95 Tryz.call95 (h := fun hcg w hw => hat hw.laid)) | (exact oc 96 Tryz.call96 (h := fun hcg w hw => hsh hw.laid))) ?_ | refine xl_alloc (fun _ => ?_) | refine xl_box rfl (fun _ => ?_) | refine xl_store rfl rfl ?_ | refine xl_buildSlice rfl (fun _ => ?_) | refine wl_makeMap rfl rfl (fun _ => ?_) | refine wl_insert rfl rfl rfl rfl rfl rfl (by first | exact rfl | exact trivial) pU (by rfl) ?_) | fail) | (refine wc_cond rfl (fun hc => ?_) (fun hc => ?_) <;> (try (simp only [bls] at hc)) <;> (try (exfalso; first | omega | contradiction))))
    · rw [if_pos hc]
      exact wrl_tmp rfl rfl rfl (fun _ h => h.drop (List.Sublist.cons _ (List.Sublist.refl _)))
    rw [if_neg (by
      rintro (((((h | h) | h) | h) | h) | ⟨h, h'⟩)
      · omega
      · omega
      · rw [hc.1.1.1.2] at h; cases h
      · rw [hc.1.1.2] at h; cases h
      · rw [hc.1.2] at h; cases h
      · rcases hc.2 with e | e
        · exact h e
        · omega)]
    have hd8 : deep ≤ 8 ∧ 0 ≤ left - 1 := hc.1.1.1.1
    clear hc
    rename_i b3
    refine wc_loop (α := { x : Nat × Int // x.1 ≤ k.length ∧ 0 ≤ x.2 ∧ x.2 ≤ 1000 ∧ fitsL k (deep + 1) (left - 1) = fitsL (k.drop x.1) (deep + 1) x.2 }) (fun x => [(1, true, i64 deep), (2, true, .pointer (some ⟨bl, 0, none⟩)), (52, true, .slice a k.length cap), (53, true, i64 (k.length : Int)), (54, true, i64 (x.1.1 : Int))]) (fun x => St w0 [] ((b3, .cells [str n, va, str t, .slice a k.length cap].toArray 55 (0, 0)) :: (bl, .cells [i64 x.1.2].toArray 3 (0, 0)) :: H) M) (fun x => k.length - x.1.1) ⟨(0, left - 1), by omega, by omega, by omega, rfl⟩ pE (fun _ h => h) ?_
    rintro ⟨⟨i, cur⟩, hi, hcur, hcur2, hinv⟩
    dsimp only at hi hcur hcur2 hinv ⊢
    rcases Nat.lt_or_ge i k.length with hlt | hge
    · have hdr : k.drop i = k[i] :: k.drop (i + 1) := List.drop_eq_getElem_cons hlt
      obtain ⟨us, hu4, hus, hcells⟩ := h7 i hlt
      obtain ⟨un, ua1, ul1, uc1, ut, ua2, ul2, uc2, rfl⟩ := node_open hus
      have hne : k ≠ [] := by intro e; subst e; simp at hlt
      obtain ⟨rfl, hMb⟩ := h6 hne
      obtain ⟨f1, f2, f3⟩ := fitsN_iff k[i] (deep + 1) cur
      have ih := fun {w : World} {H : List (Nat × Obj)} (hw : St w0 [] ((bl, intO cur) :: H) M w) => fits_ok hus hw (deep := deep + 1) (by omega) (by omega) (by omega) (by omega)
      rw [hdr, fitsL] at hinv
      generalize k[i] = y at *
      generalize fitsN y (deep + 1) cur = r at *
      obtain ⟨rb, rl⟩ := r
      dsimp only at f1 f2 f3 hinv ih
      repeat' (first | (first | refine sk ?_ | (refine gL ?_; first | refine wl_v rfl rfl rfl (by first | (show OpV _ _ _ _ (Oper.mk _ (Op.indexAddr _ _ _) _ _ _ _) _ _; exact ov_indexAddr (i := i) (b := b) (o := o) rfl rfl rfl pI pI rfl pZ (fun _ => rfl) pS) | (show OpV _ _ _ _ (Oper.mk _ (Op.load _ _) _ _ _ _) _ _; exact ov_loadSM (l := [str un, .slice ua1 ul1 uc1, str ut, .slice ua2 ul2 uc2]) rfl pI rfl pZ (fun _ => hMb) (fun _ j hj => hcells j hj))) ?_ | refine xl_alloc (fun _ => ?_) | refine xl_box rfl (fun _ => ?_) | refine xl_store rfl rfl ?_ | refine xl_buildSlice rfl (fun _ => ?_) | refine wl_makeMap rfl rfl (fun _ => ?_) | refine wl_insert rfl rfl rfl rfl rfl rfl (by first | exact rfl | exact trivial) pU (by rfl) ?_) | fail) | (refine wc_cond rfl (fun hc => ?_) (fun hc => ?_) <;> (try (simp only [bls] at hc)) <;> (try (exfalso; first | omega | contradiction))))
      rename_i b8
      refine wl_weak (C' := St w0 [] ((bl, intO cur) :: (b8, .cells [str un, .slice ua1 ul1 uc1, str ut, .slice ua2 ul2 uc2].toArray 55 (0, 0)) :: (b3, .cells [str n, va, str t, .slice (some ⟨b, o, none⟩) k.length cap].toArray 55 (0, 0)) :: H) M) (Eng.Sub.refl _) (fun _ h => h.perm ((List.Perm.swap _ _ _).trans (List.Perm.cons _ (List.Perm.swap _ _ _)))) ?_
      refine wl_callL rfl Tryz.call80 rfl rfl rfl rfl (fun w hw => ih hw) ?_
      cases rb with
      | false =>
        rw [if_neg (by decide)] at hinv
        repeat' (first | (first | refine sk ?_ | (refine gL ?_; first | refine xl_alloc (fun _ => ?_) | refine xl_box rfl (fun _ => ?_) | refine xl_store rfl rfl ?_ | refine xl_buildSlice rfl (fun _ => ?_) | refine wl_makeMap rfl rfl (fun _ => ?_) | refine wl_insert rfl rfl rfl rfl rfl rfl (by first | exact rfl | exact trivial) pU (by rfl) ?_) | fail) | (refine wc_cond rfl (fun hc => ?_) (fun hc => ?_) <;> (try (simp only [bls] at hc)) <;> (try (exfalso; first | omega | contradiction))))
        exact wrl_tmp rfl rfl (by rw [hinv]) (fun _ h => by rw [hinv]; exact h.drop (List.Sublist.cons_cons _ (List.Sublist.cons _ (List.Sublist.cons _ (List.Sublist.refl _)))))
      | true =>
        rw [if_pos rfl] at hinv
        have f4 := f2 rfl
        have f5 := (f1.1 rfl).2.1
        repeat' (first | (first | refine sk ?_ | (refine gL ?_; first | refine xl_alloc (fun _ => ?_) | refine xl_box rfl (fun _ => ?_) | refine xl_store rfl rfl ?_ | refine xl_buildSlice rfl (fun _ => ?_) | refine wl_makeMap rfl rfl (fun _ => ?_) | refine wl_insert rfl rfl rfl rfl rfl rfl (by first | exact rfl | exact trivial) pU (by rfl) ?_) | fail) | (refine wc_cond rfl (fun hc => ?_) (fun hc => ?_) <;> (try (simp only [bls] at hc)) <;> (try (exfalso; first | omega | contradiction))))
        exact wn_cut ⟨(i + 1, rl), by omega, by omega, by omega, hinv⟩ (by show k.length - (i + 1) < k.length - i; omega) pE (fun _ h => (h.drop (List.Sublist.cons_cons _ (List.Sublist.cons _ (List.Sublist.refl _)))).perm (List.Perm.swap _ _ _))
    · obtain rfl : i = k.length := by omega
      rw [List.drop_length, fitsL] at hinv
      repeat' (first | (first | refine sk ?_ | (refine gL ?_; first | refine xl_alloc (fun _ => ?_) | refine xl_box rfl (fun _ => ?_) | refine xl_store rfl rfl ?_ | refine xl_buildSlice rfl (fun _ => ?_) | refine wl_makeMap rfl rfl (fun _ => ?_) | refine wl_insert rfl rfl rfl rfl rfl rfl (by first | exact rfl | exact trivial) pU (by rfl) ?_) | fail) | (refine wc_cond rfl (fun hc => ?_) (fun hc => ?_) <;> (try (simp only [bls] at hc)) <;> (try (exfalso; first | omega | contradiction))))
      exact wrl_tmp rfl rfl (by rw [hinv]) (fun _ h => by rw [hinv]; exact h.drop (List.Sublist.cons _ (List.Sublist.refl _)))
theorem right_ok (hM : Laid M w) {D : Nat} {x : Nd} {vs : List Value} (h : NodeC M D x vs) : Calls Tryz.prog 65 #[.agg vs.toArray] w (RetE w (.bool (rightN x))) := by
  obtain ⟨un, ua1, ul1, uc1, ut, ua2, ul2, uc2, rfl⟩ := node_open h
  have hf := fun {w0 w : World} {H : List (Nat × Obj)} {b : Nat} (hw : St w0 [] ((b, intO 200) :: H) M w) => fits_ok h hw (deep := 1) (by omega) (by omega) (by omega) (by omega)
  rw [← fits_right]
  generalize fitsN x 1 200 = r at *
  refine fn1 hM Tryz.func65 ?_
  repeat' (first | (first | refine sk ?_ | (refine gL ?_; first | refine xl_alloc (fun _ => ?_) | refine xl_box rfl (fun _ => ?_) | refine xl_store rfl rfl ?_) | fail) | (refine wc_cond rfl (fun hc => ?_) (fun hc => ?_) <;> (try (simp only [bls] at hc)) <;> (try (exfalso; first | omega | contradiction))))
  refine wl_callL rfl Tryz.call80 rfl rfl rfl rfl (fun w hw => hf hw) ?_
  repeat' (first | (first | refine sk ?_ | (refine gL ?_; first | refine xl_alloc (fun _ => ?_) | refine xl_box rfl (fun _ => ?_) | refine xl_store rfl rfl ?_) | fail) | (refine wc_cond rfl (fun hc => ?_) (fun hc => ?_) <;> (try (simp only [bls] at hc)) <;> (try (exfalso; first | omega | contradiction))))
  exact wr_weak (fun _ h => h.drop (List.nil_sublist _)) (wr_tmp rfl rfl rfl)
end Go.Proofs.YtgfbieplidpebaaGreatDoor
/-
  Elements written: put, Write.
-/
namespace Go.Proofs.YtgfbieplidpebaaGreatDoor
open Go.Eng Go.Pct Go.Xml Go.Rsp
set_option maxRecDepth 10000
set_option linter.unusedSimpArgs false
set_option linter.unusedVariables false

section
variable {P : Program} {n : Nat} {E : Env} {k : Kont} {ops : Array Oper} {rest : List Oper} {cg : Bool}
variable {dst : Option Tmp} {ty : TypeId} {pos : String} {af : Array Edge} {g : Option (Nat × Bool)}
variable {w0 : World} {H : List (Nat × Obj)} {M : Ghost} {b : Nat} {s : List UInt8} {x : Operand}
theorem wl_boxB {T : TypeId} {v : Value} {d : Nat} {l : List Value} (hg : gd ops E g = some true) (hx : ev E x = some (true, v)) (hd : Nat.blt d n = true) (hl : v.cells.toList = l) (hT : T ≠ tY)
    (h : ∀ c, WL P ops rest n ((d, true, .pointer (some ⟨c, 0, none⟩)) :: E) (SB w0 ((c, .cells l.toArray T (0, 0)) :: H) M b s) k) :
    WL P ops (⟨some d, .box T x, ty, pos, af, g⟩ :: rest) n E (SB w0 H M b s) k := by
  have hd : d < n := by simpa [Nat.blt_eq] using hd
  refine wl_op hg fun a w ha hw => ?_
  subst hl
  unfold Oper.wp
  have : (execOp a.eval ⟨some d, .box T x, ty, pos, af, g⟩).run P w = .ok (.value (.pointer (some ⟨w.heap.size, 0, none⟩))) { w with heap := w.heap.push (.cells v.cells T (0, 0)) } := by
    simp [execOp, ha.eval hx, Instr.box, newVar, run_newRow]
  rw [this, Oper.upon_value]
  exact (h _).run _ _ (ha.put hd rfl) (hw.alloc _ (fun c fz e => hT (by injection e)))
theorem SB.drop {w : World} {H' : List (Nat × Obj)} (h : SB w0 H M b s w) (hs : List.Sublist H' H) : SB w0 H' M b s w := ⟨h.st.drop hs, h.bd, fun p hp => h.ne p (hs.subset hp), h.nm⟩
theorem wnl_none {fn : Func} {C C' : World → Prop} (hr : fn.results = #[]) (hC : ∀ w, C w → C' w) : WN P n E C (.fin (bodyPost P fn (RetC C' (.tuple #[])))) :=
  ⟨fun a w ha hw => ⟨ha.defers, _, results_none hr _ _ _, rfl, hC _ hw⟩⟩
end
theorem attrT_take (a : List Pr) (i : Nat) : attrT (a.take i) ++ attrT (a.drop i) = attrT a := by
  unfold attrT; rw [← List.flatMap_append, List.take_append_drop]
theorem attrT_succ {a : List Pr} {i : Nat} (h : i < a.length) : attrT (a.take (i + 1)) = attrT (a.take i) ++ ([32] ++ (a.getD i default).1 ++ [61, 34] ++ esc (a.getD i default).2 ++ [34]) := by
  unfold attrT
  rw [List.take_succ_eq_append_getElem h, List.flatMap_append]
  have e : a.getD i default = a[i] := by simp [h]
  rw [e]; simp
theorem textL_append (k l : List Nd) : textL (k ++ l) = textL k ++ textL l := by
  induction k with
  | nil => simp [textL]
  | cons x k ih => rw [List.cons_append, textL, textL, ih, List.append_assoc]
theorem textL_take (k : List Nd) (i : Nat) : textL (k.take i) ++ textL (k.drop i) = textL k := by
  rw [← textL_append, List.take_append_drop]

variable {M : Ghost} {w : World}
set_option maxHeartbeats 2000000 in
theorem put_ok (hG : Glob M) : ∀ {D : Nat} {x : Nd} {vs : List Value}, NodeC M D x vs → ∀ {w0 w : World} {H : List (Nat × Obj)} {b : Nat} {l : List UInt8}, SB w0 H M b l w → l.length + (textN x).length ≤ 10000000000000 → Calls Tryz.prog 84 #[.pointer (some ⟨b, 0, none⟩), .agg vs.toArray] w (RetC (SB w0 H M b (l ++ textN x)) (.tuple #[]))
  | 0, _, _, h => h.elim
  | D + 1, .mk n at' t k, vs, hx => by
    intro hw hlen
    rename_i w0 w H b l
    obtain ⟨va, vk, rfl, ha, h3, hb1, hb2, hb3⟩ := hx
    obtain ⟨a, cap, c, o, cs, T, fz, rfl, h4, h5, h6, h7⟩ := Sl.open h3
    obtain ⟨a', cap', c', o', cs', T', fz', rfl, g4, g5, g6, g7⟩ := ha.open
    have het := fun {w : World} (hw : Laid M w) => escape_ok hG hw t (by omega)
    rw [textN] at hlen ⊢
    simp only [List.length_append, List.length_cons, List.length_nil] at hlen
    refine calls_lent (C := SB w0 H M b l) (l := [.pointer (some ⟨b, 0, none⟩), .agg [str n, .slice a' at'.length cap', str t, .slice a k.length cap].toArray]) hw Tryz.func84 rfl rfl rfl (E0 := [(0, true, .pointer (some ⟨b, 0, none⟩)), (1, true, .agg [str n, .slice a' at'.length cap', str t, .slice a k.length cap].toArray)]) (params_cons rfl (params_cons rfl (params_nil _))) ?_
    clear hw
    repeat' (first | (first | (refine gF 91 ?_; refine wl_callC rfl Tryz.call91 rfl rfl rfl rfl (fun w hw => bwString hw _ (by first | omega | (simp only [List.length_append, List.length_take, List.length_drop, List.length_cons, List.length_nil, List.length_nil]; omega)) (by first | omega | (simp only [List.length_append, List.length_take, List.length_drop, List.length_cons, List.length_nil, List.length_nil]; omega))) ?_) | (refine gF 85 ?_; refine wl_callC rfl Tryz.call85 rfl rfl rfl rfl (fun w hw => bsString hw) ?_) ) | (first | refine sk ?_ | (refine gL ?_; first | refine xl_alloc (fun _ => ?_) | refine xl_box rfl (fun _ => ?_) | refine xl_store rfl rfl ?_ | refine xl_buildSlice rfl (fun _ => ?_) | refine wl_makeMap rfl rfl (fun _ => ?_) | refine wl_insert rfl rfl rfl rfl rfl rfl (by first | exact rfl | exact trivial) pU (by rfl) ?_) | fail) | (refine wc_cond rfl (fun hc => ?_) (fun hc => ?_) <;> (try (simp only [bls] at hc)) <;> (try (exfalso; first | omega | contradiction))))
    refine wl_boxB rfl rfl rfl rfl (by decide) (fun b3 => ?_)
    repeat' (first | (first | (refine gF 91 ?_; refine wl_callC rfl Tryz.call91 rfl rfl rfl rfl (fun w hw => bwString hw _ (by first | omega | (simp only [List.length_append, List.length_take, List.length_drop, List.length_cons, List.length_nil, List.length_nil]; omega)) (by first | omega | (simp only [List.length_append, List.length_take, List.length_drop, List.length_cons, List.length_nil, List.length_nil]; omega))) ?_) | (refine gF 85 ?_; refine wl_callC rfl Tryz.call85 rfl rfl rfl rfl (fun w hw => bsString hw) ?_) ) | (first | refine sk ?_ | (refine gL ?_; first | refine wl_v rfl rfl rfl (by first | (show OpV _ _ _ _ (Oper.mk _ (Op.load _ _) _ _ _ _) _ _; exact ov_SB (by first | exact xo_load1 rfl | exact xo_loadS rfl))) ?_ | refine xl_alloc (fun _ => ?_) | refine xl_box rfl (fun _ => ?_) | refine xl_store rfl rfl ?_ | refine xl_buildSlice rfl (fun _ => ?_) | refine wl_makeMap rfl rfl (fun _ => ?_) | refine wl_insert rfl rfl rfl rfl rfl rfl (by first | exact rfl | exact trivial) pU (by rfl) ?_) | fail) | (refine wc_cond rfl (fun hc => ?_) (fun hc => ?_) <;> (try (simp only [bls] at hc)) <;> (try (exfalso; first | omega | contradiction))))
    refine wc_loop (α := { i : Nat // i ≤ at'.length }) (fun x => [(0, true, .pointer (some ⟨b, 0, none⟩)), (3, true, .pointer (some ⟨b3, 0, none⟩)), (14, true, .slice a' at'.length cap'), (15, true, i64 (at'.length : Int)), (16, true, i64 (x.1 : Int))]) (fun x => SB w0 ((b3, .cells [str n, .slice a' at'.length cap', str t, .slice a k.length cap].toArray 55 (0, 0)) :: H) M b (l ++ ([60] ++ n) ++ attrT (at'.take x.1))) (fun x => at'.length - x.1) ⟨0, by omega⟩ pE (fun _ h => by show SB w0 _ M b (l ++ ([60] ++ n) ++ []) _; rw [List.append_nil]; exact h) ?_
    rintro ⟨i, hi⟩
    dsimp only
    have hat := congrArg List.length (attrT_take at' i)
    rw [List.length_append] at hat
    rcases Nat.lt_or_ge i at'.length with hlt | hge
    · have hne : at' ≠ [] := by intro e; subst e; simp at hlt
      obtain ⟨rfl, hMb⟩ := g6 hne
      have hp3 := hb3 (at'.getD i default) (getD_memP hlt)
      have gi := g7 i hlt
      have hsu := attrT_succ hlt
      have hel := esc_length (at'.getD i default).2
      have hes := fun {w : World} (hw : Laid M w) => escape_ok hG hw (at'.getD i default).2 (by omega)
      generalize at'.getD i default = p at *
      repeat' (first | (first | (refine gF 91 ?_; refine wl_callC rfl Tryz.call91 rfl rfl rfl rfl (fun w hw => bwString hw _ (by first | omega | (simp only [List.length_append, List.length_take, List.length_drop, List.length_cons, List.length_nil, List.length_nil]; omega)) (by first | omega | (simp only [List.length_append, List.length_take, List.length_drop, List.length_cons, List.length_nil, List.length_nil]; omega))) ?_) | (refine gF 85 ?_; refine wl_callC rfl Tryz.call85 rfl rfl rfl rfl (fun w hw => bsString hw) ?_) ) | (first | refine sk ?_ | (refine gL ?_; first | refine wl_v rfl rfl rfl (by first | (show OpV _ _ _ _ (Oper.mk _ (Op.load _ _) _ _ _ _) _ _; exact ov_SB (by first | exact xo_load1 rfl | exact xo_loadS rfl)) | (show OpV _ _ _ _ (Oper.mk _ (Op.indexAddr _ _ _) _ _ _ _) _ _; exact ov_indexAddr (i := i) (b := c') (o := o') rfl rfl rfl pI pI rfl pZ (fun _ => rfl) pS) | (show OpV _ _ _ _ (Oper.mk _ (Op.load _ _) _ _ _ _) _ _; exact ov_SB (ov_loadSM (l := [str p.1, str p.2]) rfl pI rfl pZ (fun _ => hMb) (fun _ => pcell2 gi)))) ?_ | refine xl_alloc (fun _ => ?_) | refine xl_box rfl (fun _ => ?_) | refine xl_store rfl rfl ?_ | refine xl_buildSlice rfl (fun _ => ?_) | refine wl_makeMap rfl rfl (fun _ => ?_) | refine wl_insert rfl rfl rfl rfl rfl rfl (by first | exact rfl | exact trivial) pU (by rfl) ?_) | fail) | (refine wc_cond rfl (fun hc => ?_) (fun hc => ?_) <;> (try (simp only [bls] at hc)) <;> (try (exfalso; first | omega | contradiction))))
      refine wl_allocB (z := .agg #[str [], str []]) (l := [str [], str []]) rfl (fun _ => rfl) rfl rfl (by decide) (fun b5 => ?_)
      repeat' (first | (first | (refine gF 91 ?_; refine wl_callC rfl Tryz.call91 rfl rfl rfl rfl (fun w hw => bwString hw _ (by first | omega | (simp only [List.length_append, List.length_take, List.length_drop, List.length_cons, List.length_nil, List.length_nil]; omega)) (by first | omega | (simp only [List.length_append, List.length_take, List.length_drop, List.length_cons, List.length_nil, List.length_nil]; omega))) ?_) | (refine gF 85 ?_; refine wl_callC rfl Tryz.call85 rfl rfl rfl rfl (fun w hw => bsString hw) ?_) ) | (first | refine sk ?_ | (refine gL ?_; first | refine xl_alloc (fun _ => ?_) | refine xl_box rfl (fun _ => ?_) | refine xl_store rfl rfl ?_ | refine xl_buildSlice rfl (fun _ => ?_) | refine wl_makeMap rfl rfl (fun _ => ?_) | refine wl_insert rfl rfl rfl rfl rfl rfl (by first | exact rfl | exact trivial) pU (by rfl) ?_) | fail) | (refine wc_cond rfl (fun hc => ?_) (fun hc => ?_) <;> (try (simp only [bls] at hc)) <;> (try (exfalso; first | omega | contradiction))))
      refine wl_storeB rfl rfl rfl rfl Upd.here rfl rfl rfl (by decide) ?_
      repeat' (first | (first | (refine gF 91 ?_; refine wl_callC rfl Tryz.call91 rfl rfl rfl rfl (fun w hw => bwString hw _ (by first | omega | (simp only [List.length_append, List.length_take, List.length_drop, List.length_cons, List.length_nil, List.length_nil]; omega)) (by first | omega | (simp only [List.length_append, List.length_take, List.length_drop, List.length_cons, List.length_nil, List.length_nil]; omega))) ?_) | (refine gF 85 ?_; refine wl_callC rfl Tryz.call85 rfl rfl rfl rfl (fun w hw => bsString hw) ?_) ) | (first | refine sk ?_ | (refine gL ?_; first | refine xl_alloc (fun _ => ?_) | refine xl_box rfl (fun _ => ?_) | refine xl_store rfl rfl ?_ | refine xl_buildSlice rfl (fun _ => ?_) | refine wl_makeMap rfl rfl (fun _ => ?_) | refine wl_insert rfl rfl rfl rfl rfl rfl (by first | exact rfl | exact trivial) pU (by rfl) ?_) | fail) | (refine wc_cond rfl (fun hc => ?_) (fun hc => ?_) <;> (try (simp only [bls] at hc)) <;> (try (exfalso; first | omega | contradiction))))
      refine wc_draw 10 (by kernel_rfl) rfl (by kernel_rfl) (fun _ _ h k => h.ext k) ?_
      repeat' (first | (refine gD ?_; first | refine yd_v rfl rfl rfl rfl rfl rfl ?_ | refine wd_v rfl rfl rfl rfl rfl rfl (by first | (show OpV _ _ _ _ (Oper.mk _ (Op.load _ _) _ _ _ _) _ _; exact ov_SB (by first | exact xo_load1 rfl | exact xo_loadS rfl)) | (exact oc 101 Tryz.call101 (h := fun hcg w hw => hes hw.st.laid))) ?_ | refine yd_new rfl rfl rfl rfl rfl rfl ?_ | refine wd_conv rfl rfl rfl rfl rfl rfl rfl rfl rfl rfl ?_) | (refine gE ?_; first | refine wd_nil ?_ | refine wd_nilF ?_) | (first | refine sk ?_ | (refine gL ?_; first | refine wl_v rfl rfl rfl (by first | (show OpV _ _ _ _ (Oper.mk _ (Op.load _ _) _ _ _ _) _ _; exact ov_SB (by first | exact xo_load1 rfl | exact xo_loadS rfl)) | (exact oc 101 Tryz.call101 (h := fun hcg w hw => hes hw.st.laid))) ?_ | refine xl_alloc (fun _ => ?_) | refine xl_box rfl (fun _ => ?_) | refine xl_store rfl rfl ?_ | refine xl_buildSlice rfl (fun _ => ?_) | refine wl_makeMap rfl rfl (fun _ => ?_) | refine wl_insert rfl rfl rfl rfl rfl rfl (by first | exact rfl | exact trivial) pU (by rfl) ?_) | fail))
      repeat' (first | (first | (refine gF 91 ?_; refine wl_callC rfl Tryz.call91 rfl rfl rfl rfl (fun w hw => bwString hw _ (by first | omega | (simp only [List.length_append, List.length_take, List.length_drop, List.length_cons, List.length_nil, List.length_nil]; omega)) (by first | omega | (simp only [List.length_append, List.length_take, List.length_drop, List.length_cons, List.length_nil, List.length_nil]; omega))) ?_) | (refine gF 85 ?_; refine wl_callC rfl Tryz.call85 rfl rfl rfl rfl (fun w hw => bsString hw) ?_) ) | (first | refine sk ?_ | (refine gL ?_; first | refine xl_alloc (fun _ => ?_) | refine xl_box rfl (fun _ => ?_) | refine xl_store rfl rfl ?_ | refine xl_buildSlice rfl (fun _ => ?_) | refine wl_makeMap rfl rfl (fun _ => ?_) | refine wl_insert rfl rfl rfl rfl rfl rfl (by first | exact rfl | exact trivial) pU (by rfl) ?_) | fail) | (refine wc_cond rfl (fun hc => ?_) (fun hc => ?_) <;> (try (simp only [bls] at hc)) <;> (try (exfalso; first | omega | contradiction))))
      refine wn_cut ⟨i + 1, by omega⟩ (by show at'.length - (i + 1) < at'.length - i; omega) pE (fun _ h => ?_)
      show SB w0 _ M b (l ++ ([60] ++ n) ++ attrT (at'.take (i + 1))) _
      rw [hsu, ← List.append_assoc]
      exact SB.drop h (List.Sublist.cons _ (List.Sublist.refl _))
    · obtain rfl : i = at'.length := by omega
      rw [List.take_length]
      rw [List.take_length] at hat
      have hel := esc_length t
      repeat' (first | (first | (refine gF 91 ?_; refine wl_callC rfl Tryz.call91 rfl rfl rfl rfl (fun w hw => bwString hw _ (by first | omega | (simp only [List.length_append, List.length_take, List.length_drop, List.length_cons, List.length_nil, List.length_nil]; omega)) (by first | omega | (simp only [List.length_append, List.length_take, List.length_drop, List.length_cons, List.length_nil, List.length_nil]; omega))) ?_) | (refine gF 85 ?_; refine wl_callC rfl Tryz.call85 rfl rfl rfl rfl (fun w hw => bsString hw) ?_) ) | (first | refine sk ?_ | (refine gL ?_; first | refine wl_v rfl rfl rfl (by first | (show OpV _ _ _ _ (Oper.mk _ (Op.load _ _) _ _ _ _) _ _; exact ov_SB (by first | exact xo_load1 rfl | exact xo_loadS rfl)) | (exact oc 101 Tryz.call101 (h := fun hcg w hw => het hw.st.laid))) ?_ | refine xl_alloc (fun _ => ?_) | refine xl_box rfl (fun _ => ?_) | refine xl_store rfl rfl ?_ | refine xl_buildSlice rfl (fun _ => ?_) | refine wl_makeMap rfl rfl (fun _ => ?_) | refine wl_insert rfl rfl rfl rfl rfl rfl (by first | exact rfl | exact trivial) pU (by rfl) ?_) | fail) | (refine wc_cond rfl (fun hc => ?_) (fun hc => ?_) <;> (try (simp only [bls] at hc)) <;> (try (exfalso; first | omega | contradiction))))
      refine wc_loop (α := { i : Nat // i ≤ k.length }) (fun x => [(0, true, .pointer (some ⟨b, 0, none⟩)), (3, true, .pointer (some ⟨b3, 0, none⟩)), (39, true, .slice a k.length cap), (40, true, i64 (k.length : Int)), (41, true, i64 (x.1 : Int))]) (fun x => SB w0 ((b3, .cells [str n, .slice a' at'.length cap', str t, .slice a k.length cap].toArray 55 (0, 0)) :: H) M b (l ++ ([60] ++ n) ++ attrT at' ++ ([62] ++ esc t) ++ textL (k.take x.1))) (fun x => k.length - x.1) ⟨0, by omega⟩ pE (fun _ h => by show SB w0 _ M b (l ++ ([60] ++ n) ++ attrT at' ++ ([62] ++ esc t) ++ []) _; rw [List.append_nil]; exact h) ?_
      rintro ⟨i, hi⟩
      dsimp only
      have hkt := congrArg List.length (textL_take k i)
      rw [List.length_append] at hkt
      rcases Nat.lt_or_ge i k.length with hlt | hge
      · obtain ⟨us, hu4, hus, hcells⟩ := h7 i hlt
        obtain ⟨un, ua1, ul1, uc1, ut, ua2, ul2, uc2, rfl⟩ := node_open hus
        have hne : k ≠ [] := by intro e; subst e; simp at hlt
        obtain ⟨rfl, hMb⟩ := h6 hne
        have hdr : k.drop i = k[i] :: k.drop (i + 1) := List.drop_eq_getElem_cons hlt
        have htk : textL (k.take (i + 1)) = textL (k.take i) ++ textN k[i] := by
          rw [List.take_succ_eq_append_getElem hlt, textL_append]; simp [textL]
        rw [hdr, textL, List.length_append] at hkt
        have ih := fun {w : World} {H : List (Nat × Obj)} {l : List UInt8} (hw : SB w0 H M b l w) => put_ok hG hus (l := l) hw
        generalize k[i] = y at *
        repeat' (first | (first | (refine gF 91 ?_; refine wl_callC rfl Tryz.call91 rfl rfl rfl rfl (fun w hw => bwString hw _ (by first | omega | (simp only [List.length_append, List.length_take, List.length_drop, List.length_cons, List.length_nil, List.length_nil]; omega)) (by first | omega | (simp only [List.length_append, List.length_take, List.length_drop, List.length_cons, List.length_nil, List.length_nil]; omega))) ?_) | (refine gF 85 ?_; refine wl_callC rfl Tryz.call85 rfl rfl rfl rfl (fun w hw => bsString hw) ?_) ) | (first | refine sk ?_ | (refine gL ?_; first | refine wl_v rfl rfl rfl (by first | (show OpV _ _ _ _ (Oper.mk _ (Op.load _ _) _ _ _ _) _ _; exact ov_SB (by first | exact xo_load1 rfl | exact xo_loadS rfl)) | (show OpV _ _ _ _ (Oper.mk _ (Op.indexAddr _ _ _) _ _ _ _) _ _; exact ov_indexAddr (i := i) (b := c) (o := o) rfl rfl rfl pI pI rfl pZ (fun _ => rfl) pS) | (show OpV _ _ _ _ (Oper.mk _ (Op.load _ _) _ _ _ _) _ _; exact ov_SB (ov_loadSM (l := [str un, .slice ua1 ul1 uc1, str ut, .slice ua2 ul2 uc2]) rfl pI rfl pZ (fun _ => hMb) (fun _ j hj => hcells j hj)))) ?_ | refine xl_alloc (fun _ => ?_) | refine xl_box rfl (fun _ => ?_) | refine xl_store rfl rfl ?_ | refine xl_buildSlice rfl (fun _ => ?_) | refine wl_makeMap rfl rfl (fun _ => ?_) | refine wl_insert rfl rfl rfl rfl rfl rfl (by first | exact rfl | exact trivial) pU (by rfl) ?_) | fail) | (refine wc_cond rfl (fun hc => ?_) (fun hc => ?_) <;> (try (simp only [bls] at hc)) <;> (try (exfalso; first | omega | contradiction))))
        refine wl_allocB (z := .agg #[str [], .slice none 0 0, str [], .slice none 0 0]) (l := [str [], .slice none 0 0, str [], .slice none 0 0]) rfl (fun _ => rfl) rfl rfl (by decide) (fun b7 => ?_)
        repeat' (first | (first | (refine gF 91 ?_; refine wl_callC rfl Tryz.call91 rfl rfl rfl rfl (fun w hw => bwString hw _ (by first | omega | (simp only [List.length_append, List.length_take, List.length_drop, List.length_cons, List.length_nil, List.length_nil]; omega)) (by first | omega | (simp only [List.length_append, List.length_take, List.length_drop, List.length_cons, List.length_nil, List.length_nil]; omega))) ?_) | (refine gF 85 ?_; refine wl_callC rfl Tryz.call85 rfl rfl rfl rfl (fun w hw => bsString hw) ?_) ) | (first | refine sk ?_ | (refine gL ?_; first | refine xl_alloc (fun _ => ?_) | refine xl_box rfl (fun _ => ?_) | refine xl_store rfl rfl ?_ | refine xl_buildSlice rfl (fun _ => ?_) | refine wl_makeMap rfl rfl (fun _ => ?_) | refine wl_insert rfl rfl rfl rfl rfl rfl (by first | exact rfl | exact trivial) pU (by rfl) ?_) | fail) | (refine wc_cond rfl (fun hc => ?_) (fun hc => ?_) <;> (try (simp only [bls] at hc)) <;> (try (exfalso; first | omega | contradiction))))
        refine wl_storeB rfl rfl rfl rfl Upd.here rfl rfl rfl (by decide) ?_
        repeat' (first | (first | (refine gF 91 ?_; refine wl_callC rfl Tryz.call91 rfl rfl rfl rfl (fun w hw => bwString hw _ (by first | omega | (simp only [List.length_append, List.length_take, List.length_drop, List.length_cons, List.length_nil, List.length_nil]; omega)) (by first | omega | (simp only [List.length_append, List.length_take, List.length_drop, List.length_cons, List.length_nil, List.length_nil]; omega))) ?_) | (refine gF 85 ?_; refine wl_callC rfl Tryz.call85 rfl rfl rfl rfl (fun w hw => bsString hw) ?_) ) | (first | refine sk ?_ | (refine gL ?_; first | refine wl_v rfl rfl rfl (by first | (show OpV _ _ _ _ (Oper.mk _ (Op.load _ _) _ _ _ _) _ _; exact ov_SB (by first | exact xo_load1 rfl | exact xo_loadS rfl))) ?_ | refine xl_alloc (fun _ => ?_) | refine xl_box rfl (fun _ => ?_) | refine xl_store rfl rfl ?_ | refine xl_buildSlice rfl (fun _ => ?_) | refine wl_makeMap rfl rfl (fun _ => ?_) | refine wl_insert rfl rfl rfl rfl rfl rfl (by first | exact rfl | exact trivial) pU (by rfl) ?_) | fail) | (refine wc_cond rfl (fun hc => ?_) (fun hc => ?_) <;> (try (simp only [bls] at hc)) <;> (try (exfalso; first | omega | contradiction))))
        refine wl_callL rfl Tryz.call84 rfl rfl rfl rfl (fun w hw => ih hw (by first | omega | (simp only [List.length_append, List.length_take, List.length_drop, List.length_cons, List.length_nil, List.length_nil]; omega))) ?_
        repeat' (first | (first | (refine gF 91 ?_; refine wl_callC rfl Tryz.call91 rfl rfl rfl rfl (fun w hw => bwString hw _ (by first | omega | (simp only [List.length_append, List.length_take, List.length_drop, List.length_cons, List.length_nil, List.length_nil]; omega)) (by first | omega | (simp only [List.length_append, List.length_take, List.length_drop, List.length_cons, List.length_nil, List.length_nil]; omega))) ?_) | (refine gF 85 ?_; refine wl_callC rfl Tryz.call85 rfl rfl rfl rfl (fun w hw => bsString hw) ?_) ) | (first | refine sk ?_ | (refine gL ?_; first | refine xl_alloc (fun _ => ?_) | refine xl_box rfl (fun _ => ?_) | refine xl_store rfl rfl ?_ | refine xl_buildSlice rfl (fun _ => ?_) | refine wl_makeMap rfl rfl (fun _ => ?_) | refine wl_insert rfl rfl rfl rfl rfl rfl (by first | exact rfl | exact trivial) pU (by rfl) ?_) | fail) | (refine wc_cond rfl (fun hc => ?_) (fun hc => ?_) <;> (try (simp only [bls] at hc)) <;> (try (exfalso; first | omega | contradiction))))
        refine wn_cut ⟨i + 1, by omega⟩ (by show k.length - (i + 1) < k.length - i; omega) pE (fun _ h => ?_)
        show SB w0 _ M b (l ++ ([60] ++ n) ++ attrT at' ++ ([62] ++ esc t) ++ textL (k.take (i + 1))) _
        rw [htk, ← List.append_assoc]
        exact SB.drop h (List.Sublist.cons _ (List.Sublist.refl _))
      · obtain rfl : i = k.length := by omega
        rw [List.take_length]
        repeat' (first | (first | (refine gF 91 ?_; refine wl_callC rfl Tryz.call91 rfl rfl rfl rfl (fun w hw => bwString hw _ (by first | omega | (simp only [List.length_append, List.length_take, List.length_drop, List.length_cons, List.length_nil, List.length_nil]; omega)) (by first | omega | (simp only [List.length_append, List.length_take, List.length_drop, List.length_cons, List.length_nil, List.length_nil]; omega))) ?_) | (refine gF 85 ?_; refine wl_callC rfl Tryz.call85 rfl rfl rfl rfl (fun w hw => bsString hw) ?_) ) | (first | refine sk ?_ | (refine gL ?_; first | refine wl_v rfl rfl rfl (by first | (show OpV _ _ _ _ (Oper.mk _ (Op.load _ _) _ _ _ _) _ _; exact ov_SB (by first | exact xo_load1 rfl | exact xo_loadS rfl))) ?_ | refine xl_alloc (fun _ => ?_) | refine xl_box rfl (fun _ => ?_) | refine xl_store rfl rfl ?_ | refine xl_buildSlice rfl (fun _ => ?_) | refine wl_makeMap rfl rfl (fun _ => ?_) | refine wl_insert rfl rfl rfl rfl rfl rfl (by first | exact rfl | exact trivial) pU (by rfl) ?_) | fail) | (refine wc_cond rfl (fun hc => ?_) (fun hc => ?_) <;> (try (simp only [bls] at hc)) <;> (try (exfalso; first | omega | contradiction))))
        refine wnl_none rfl (fun _ h => ?_)
        have e : l ++ ([60] ++ n ++ attrT at' ++ ([62] ++ esc t) ++ textL k ++ ([60, 47] ++ n ++ [62])) = l ++ ([60] ++ n) ++ attrT at' ++ ([62] ++ esc t) ++ textL k ++ ([60, 47] ++ n ++ [62]) := by simp only [List.append_assoc]
        rw [e]
        exact SB.drop h (List.Sublist.cons _ (List.Sublist.refl _))
/-- what is written, or that it can't be -/
def resW (x : Nd) : Value := .tuple #[str (if rightN x = true then textN x else []), i64 (if rightN x = true then 0 else 1)]
theorem write_ok (hG : Glob M) (hM : Laid M w) {D : Nat} {x : Nd} {vs : List Value} (h : NodeC M D x vs) (hlen : (textN x).length ≤ 10000000000000) : Calls Tryz.prog 73 #[.agg vs.toArray] w (RetE w (resW x)) := by
  obtain ⟨un, ua1, ul1, uc1, ut, ua2, ul2, uc2, rfl⟩ := node_open h
  have hr := fun {w : World} (hw : Laid M w) => right_ok hw h
  have hp := fun {w0 w : World} {H : List (Nat × Obj)} {b : Nat} {l : List UInt8} (hw : SB w0 H M b l w) => put_ok hG h (l := l) hw
  unfold resW
  refine fn1 hM Tryz.func73 ?_
  cases hq : rightN x with
  | false =>
    rw [hq] at hr
    repeat' (first | (first | refine sk ?_ | (refine gL ?_; first | refine wl_v rfl rfl rfl (by first | (exact oc 65 Tryz.call65 (h := fun hcg w hw => hr hw.laid))) ?_ | refine xl_alloc (fun _ => ?_) | refine xl_box rfl (fun _ => ?_)) | fail) | (refine wc_cond rfl (fun hc => ?_) (fun hc => ?_) <;> (try (simp only [bls] at hc)) <;> (try (exfalso; first | omega | contradiction))))
    exact wr_tmp2 rfl rfl rfl rfl rfl
  | true =>
    rw [hq] at hr
    repeat' (first | (first | refine sk ?_ | (refine gL ?_; first | refine wl_v rfl rfl rfl (by first | (exact oc 65 Tryz.call65 (h := fun hcg w hw => hr hw.laid))) ?_ | refine xl_alloc (fun _ => ?_) | refine xl_box rfl (fun _ => ?_)) | fail) | (refine wc_cond rfl (fun hc => ?_) (fun hc => ?_) <;> (try (simp only [bls] at hc)) <;> (try (exfalso; first | omega | contradiction))))
    rename_i b1 b4
    refine wl_weak (C' := SB w [(b1, .cells [str un, .slice ua1 ul1 uc1, str ut, .slice ua2 ul2 uc2].toArray 55 (0, 0))] M b4 []) (Eng.Sub.refl _) (fun _ h => SB.start (hw := fun k o h => lt_of_get (hM k o h)) h (fun p hp c fz e => by
      rcases List.mem_singleton.1 hp with rfl
      injection e with _ e2
      exact absurd e2 (by decide))) ?_
    refine wl_callL rfl Tryz.call84 rfl rfl rfl rfl (fun w hw => hp hw (by simpa using hlen)) ?_
    repeat' (first | (first | (refine gF 91 ?_; refine wl_callC rfl Tryz.call91 rfl rfl rfl rfl (fun w hw => bwString hw _ (by first | omega | (simp only [List.length_append, List.length_take, List.length_drop, List.length_cons, List.length_nil, List.length_nil]; omega)) (by first | omega | (simp only [List.length_append, List.length_take, List.length_drop, List.length_cons, List.length_nil, List.length_nil]; omega))) ?_) | (refine gF 85 ?_; refine wl_callC rfl Tryz.call85 rfl rfl rfl rfl (fun w hw => bsString hw) ?_) ) | (first | refine sk ?_ | (refine gL ?_; first | refine xl_alloc (fun _ => ?_) | refine xl_box rfl (fun _ => ?_)) | fail) | (refine wc_cond rfl (fun hc => ?_) (fun hc => ?_) <;> (try (simp only [bls] at hc)) <;> (try (exfalso; first | omega | contradiction))))
    exact wr_weak (fun _ h => h.st.drop (List.nil_sublist _)) (wr_tmp2 rfl rfl rfl rfl rfl)
end Go.Proofs.YtgfbieplidpebaaGreatDoor
/-
  How an element is read, plainly. No program stands here.
-/
namespace Go.Xml
open Go.Pct Go.Eng
set_option linter.unusedVariables false

/-- up to a byte of some; from there on -/
def wd (p : UInt8 → Bool) (s : List UInt8) : List UInt8 := s.takeWhile (fun c => !p c)
def rs (p : UInt8 → Bool) (s : List UInt8) : List UInt8 := s.dropWhile (fun c => !p c)
theorem wd_rs (p : UInt8 → Bool) (s : List UInt8) : wd p s ++ rs p s = s := List.takeWhile_append_dropWhile
theorem rs_length (p : UInt8 → Bool) (s : List UInt8) : (wd p s).length + (rs p s).length = s.length := by
  rw [← List.length_append, wd_rs]
theorem wd_stop {p : UInt8 → Bool} {a : List UInt8} {c : UInt8} {r : List UInt8} (ha : ∀ x ∈ a, p x = false) (hc : p c = true) : wd p (a ++ c :: r) = a ∧ rs p (a ++ c :: r) = c :: r := by
  unfold wd rs
  induction a with
  | nil => simp [hc]
  | cons x a ih =>
    have h1 := ha x (List.mem_cons_self ..)
    have h2 := ih (fun y hy => ha y (List.mem_cons_of_mem _ hy))
    simp [h1, h2]
theorem wd_mem {p : UInt8 → Bool} {s : List UInt8} {x : UInt8} (h : x ∈ wd p s) : p x = false := by
  unfold wd at h
  have h1 := List.all_takeWhile (p := fun c => !p c) (l := s)
  rw [List.all_eq_true] at h1
  simpa using h1 x h
def isC (d : UInt8) (c : UInt8) : Bool := c == d
def isSp (c : UInt8) : Bool := c == 32 || c == 62
/-- one attribute, from its blank on -/
def attrP (s : List UInt8) : Option ((List UInt8 × List UInt8) × List UInt8) :=
  match rs (isC 61) s with
  | 61 :: 34 :: r2 => match unescQ (wd (isC 34) r2) with
    | none => none
    | some v => match rs (isC 34) r2 with
      | 34 :: r4 => some ((wd (isC 61) s, v), r4)
      | _ => none
  | _ => none
def attrsP : Nat → List UInt8 → Option (List (List UInt8 × List UInt8) × List UInt8)
  | 0, _ => none
  | f + 1, s => match s with
    | 32 :: r => match attrP r with
      | none => none
      | some (p, r4) => (attrsP f r4).map fun x => (p :: x.1, x.2)
    | s => some ([], s)
def kidsP (e : List UInt8 → Option (Nd × List UInt8)) : Nat → List UInt8 → Option (List Nd × List UInt8)
  | 0, _ => none
  | f + 1, s => if [60, 47].isPrefixOf s = true then some ([], s) else match e s with
    | none => none
    | some (x, r) => (kidsP e f r).map fun y => (x :: y.1, y.2)
/-- behind the name: the attributes, the text, as far as the kids -/
def headP (s : List UInt8) : Option (List (List UInt8 × List UInt8) × List UInt8 × List UInt8) :=
  match attrsP (s.length + 1) s with
  | none => none
  | some (a, r2) => match r2 with
    | 62 :: r3 => match unescQ (wd (isC 60) r3) with
      | none => none
      | some t => some (a, t, rs (isC 60) r3)
    | _ => none
def closeT (n : List UInt8) : List UInt8 := [60, 47] ++ n ++ [62]
def elemP : Nat → List UInt8 → Option (Nd × List UInt8)
  | 0, _ => none
  | D + 1, s => match s with
    | 60 :: r => match headP (rs isSp r) with
      | none => none
      | some (a, t, r4) => match kidsP (elemP D) (r4.length + 1) r4 with
        | none => none
        | some (k, r5) => if (closeT (wd isSp r)).isPrefixOf r5 = true then some (.mk (wd isSp r) a t k, r5.drop (closeT (wd isSp r)).length) else none
    | _ => none

/-! ### what is left is shorter -/
theorem attrP_text {s r : List UInt8} {p : List UInt8 × List UInt8} (h : attrP s = some (p, r)) : ∃ v, unescQ v = some p.2 ∧ s = p.1 ++ [61, 34] ++ v ++ [34] ++ r ∧ (∀ x ∈ p.1, isC 61 x = false) ∧ ∀ x ∈ v, isC 34 x = false := by
  unfold attrP at h
  split at h
  · rename_i r2 e1
    split at h
    · cases h
    · rename_i v e2
      split at h
      · rename_i r4 e3
        cases h
        refine ⟨wd (isC 34) r2, e2, ?_, ?_, ?_⟩
        · have h1 := wd_rs (isC 61) s
          have h2 := wd_rs (isC 34) r2
          rw [e3] at h2
          rw [e1, ← h2] at h1
          refine h1.symm.trans ?_
          simp
        · exact fun x hx => wd_mem hx
        · exact fun x hx => wd_mem hx
      · cases h
  · cases h
theorem attrsP_len : ∀ {f : Nat} {s r : List UInt8} {l : List (List UInt8 × List UInt8)}, attrsP f s = some (l, r) → r.length ≤ s.length
  | 0, _, _, _, h => by cases h
  | f + 1, s, r, l, h => by
    unfold attrsP at h
    split at h
    · rename_i r1
      split at h
      · cases h
      · rename_i p r4 e
        obtain ⟨v, _, h1, _⟩ := attrP_text e
        cases hq : attrsP f r4 with
        | none => rw [hq] at h; cases h
        | some x =>
          rw [hq] at h
          simp only [Option.map_some, Option.some.injEq, Prod.mk.injEq] at h
          have := attrsP_len hq
          rw [← h.2, h1]
          simp only [List.length_cons, List.length_append, List.length_nil]
          omega
    · cases h; exact Nat.le_refl _
theorem kidsP_len {e : List UInt8 → Option (Nd × List UInt8)} (he : ∀ s x r, e s = some (x, r) → r.length ≤ s.length) : ∀ {f : Nat} {s r : List UInt8} {l : List Nd}, kidsP e f s = some (l, r) → r.length ≤ s.length
  | 0, _, _, _, h => by cases h
  | f + 1, s, r, l, h => by
    unfold kidsP at h
    split at h
    · cases h; exact Nat.le_refl _
    · split at h
      · cases h
      · rename_i x r1 hx
        cases hq : kidsP e f r1 with
        | none => rw [hq] at h; cases h
        | some y =>
          rw [hq] at h
          simp only [Option.map_some, Option.some.injEq, Prod.mk.injEq] at h
          have h1 := kidsP_len he hq
          have h2 := he _ _ _ hx
          rw [← h.2]; omega
theorem headP_len {s t r : List UInt8} {a : List (List UInt8 × List UInt8)} (h : headP s = some (a, t, r)) : r.length < s.length := by
  unfold headP at h
  split at h
  · cases h
  · rename_i a' r2 e
    split at h
    · rename_i r3
      split at h
      · cases h
      · cases h
        have h1 := attrsP_len e
        have h2 := rs_length (isC 60) r3
        simp only [List.length_cons] at h1
        omega
    · cases h
theorem elemP_len : ∀ {D : Nat} {s r : List UInt8} {x : Nd}, elemP D s = some (x, r) → r.length < s.length
  | 0, _, _, _, h => by cases h
  | D + 1, s, r, x, h => by
    unfold elemP at h
    split at h
    · rename_i r1
      split at h
      · cases h
      · rename_i a t r4 e1
        split at h
        · cases h
        · rename_i k r5 e2
          split at h
          · cases h
            have h1 := headP_len e1
            have h2 := kidsP_len (fun s x r h => Nat.le_of_lt (elemP_len h)) e2
            have h3 := rs_length isSp r1
            rw [List.length_drop, List.length_cons]
            omega
          · cases h
    · cases h
end Go.Xml
/-
  What is written reads as it was; what was read is how it is written. No program stands here.
-/
namespace Go.Xml
open Go.Pct Go.Eng
set_option linter.unusedVariables false

/-! ### escapes -/
theorem which_mark (r : List UInt8) : ∀ k, k < 5 → which ((marksT.getD k default).2 ++ r) = (k : Int) := by
  intro k hk
  match k, hk with
  | 0, _ => rfl
  | 1, _ => rfl
  | 2, _ => rfl
  | 3, _ => rfl
  | 4, _ => rfl
theorem esc1_kinds (c : UInt8) : (esc1 c = [c] ∧ badC c = false ∧ c ≠ 38) ∨ ∃ k, k < 5 ∧ marksT.getD k default = ([c], esc1 c) := by
  have key : ∀ c : UInt8, ((decide (esc1 c = [c]) && !badC c && decide (c ≠ 38)) || (List.range 5).any fun k => decide (marksT.getD k default = ([c], esc1 c))) = true := by apply all_bytes; decide +kernel
  have h := key c
  rw [Bool.or_eq_true, List.any_eq_true] at h
  rcases h with h | ⟨k, h1, h2⟩
  · simp only [Bool.and_eq_true, decide_eq_true_eq, Bool.not_eq_true'] at h
    exact .inl ⟨h.1.1, h.1.2, h.2⟩
  · exact .inr ⟨k, List.mem_range.1 h1, by simpa using h2⟩
theorem mark_head : ∀ k, k < 5 → ∃ q, (marksT.getD k default).2 = 38 :: q := by
  intro k hk
  match k, hk with
  | 0, _ => exact ⟨_, rfl⟩
  | 1, _ => exact ⟨_, rfl⟩
  | 2, _ => exact ⟨_, rfl⟩
  | 3, _ => exact ⟨_, rfl⟩
  | 4, _ => exact ⟨_, rfl⟩
theorem unescQ_mark {k : Nat} (hk : k < 5) (r : List UInt8) : unescQ ((marksT.getD k default).2 ++ r) = (unescQ r).map ((marksT.getD k default).1 ++ ·) := by
  have hw := which_mark r k hk
  obtain ⟨q, hq⟩ := mark_head k hk
  have hd : ((marksT.getD k default).2 ++ r).drop (marksT.getD k default).2.length = r := List.drop_left
  rw [hq, List.cons_append] at hw hd ⊢
  rw [unescQ_cons, if_neg (by decide), if_pos rfl, hw, if_neg (by omega), Int.toNat_natCast, hq, hd]
theorem unescQ_esc (v r : List UInt8) : unescQ (esc v ++ r) = (unescQ r).map (v ++ ·) := by
  induction v with
  | nil => simp [esc]
  | cons c v ih =>
    have e : esc (c :: v) ++ r = esc1 c ++ (esc v ++ r) := by unfold esc; rw [List.flatMap_cons, List.append_assoc]
    rw [e]
    rcases esc1_kinds c with ⟨h1, h2, h3⟩ | ⟨k, hk, h⟩
    · rw [h1, unescQ_plain [c] _ (by intro x hx; simp only [List.mem_singleton] at hx; subst hx; exact ⟨h2, h3⟩), ih]
      simp [Function.comp_def]
    · have h1 := unescQ_mark hk (esc v ++ r)
      rw [h] at h1
      rw [h1, ih]
      simp [Function.comp_def]
theorem unescQ_of_esc (v : List UInt8) : unescQ (esc v) = some v := by
  have := unescQ_esc v []
  rw [List.append_nil, unescQ_nil] at this
  simpa using this
theorem esc_bad {v : List UInt8} : ∀ c ∈ esc v, badC c = false := by
  intro c hc
  unfold esc at hc
  obtain ⟨d, _, hd⟩ := List.mem_flatMap.1 hc
  have key : ∀ d : UInt8, (esc1 d).all (fun c => !badC c) = true := by apply all_bytes; decide +kernel
  have := List.all_eq_true.1 (key d) c hd
  simpa using this
theorem esc_of_unescQ : ∀ (n : Nat) {v w : List UInt8}, v.length ≤ n → unescQ v = some w → esc w = v
  | _, [], w, _, h => by
    rw [unescQ_nil] at h; cases h; rfl
  | 0, c :: r, _, hn, _ => by simp at hn
  | n + 1, c :: r, w, hn, h => by
    simp only [List.length_cons] at hn
    rw [unescQ_cons] at h
    split at h
    · cases h
    rename_i hb
    split at h
    · rename_i h38
      split at h
      · cases h
      rename_i hwh
      have hr := which_range (c :: r)
      have hp := which_pre (s := c :: r) (by omega)
      have hm := mark_len (which (c :: r)).toNat (by omega)
      have hk : (which (c :: r)).toNat < 5 := by omega
      generalize (which (c :: r)).toNat = k at *
      obtain ⟨u, hu⟩ := List.isPrefixOf_iff_prefix.1 hp
      have hd : (c :: r).drop (marksT.getD k default).2.length = u := by rw [← hu]; simp
      rw [hd] at h
      cases hq : unescQ u with
      | none => rw [hq] at h; cases h
      | some w' =>
        rw [hq] at h
        simp only [Option.map_some, Option.some.injEq] at h
        have hl := congrArg List.length hu
        simp only [List.length_append, List.length_cons] at hl
        have ih := esc_of_unescQ n (v := u) (by omega) hq
        have hone : esc (marksT.getD k default).1 = (marksT.getD k default).2 := by
          match k, hk with
          | 0, _ => rfl
          | 1, _ => rfl
          | 2, _ => rfl
          | 3, _ => rfl
          | 4, _ => rfl
        rw [← h, ← hu]
        unfold esc at ih hone ⊢
        rw [List.flatMap_append, ih, hone]
    · rename_i h38
      cases hq : unescQ r with
      | none => rw [hq] at h; cases h
      | some w' =>
        rw [hq] at h
        simp only [Option.map_some, Option.some.injEq] at h
        have ih := esc_of_unescQ n (v := r) (by omega) hq
        have hone : esc1 c = [c] := by
          have key : ∀ c : UInt8, (badC c || decide (c = 38) || decide (esc1 c = [c])) = true := by apply all_bytes; decide +kernel
          have := key c
          simp only [Bool.or_eq_true, decide_eq_true_eq] at this
          rcases this with (h | h) | h
          · exact absurd h hb
          · exact absurd h h38
          · exact h
        rw [← h]
        unfold esc at ih ⊢
        rw [List.flatMap_cons, ih, hone]; rfl

/-! ### what was read is how it is written -/
theorem attrsP_text : ∀ {f : Nat} {s r : List UInt8} {l : List (List UInt8 × List UInt8)}, attrsP f s = some (l, r) → s = attrT l ++ r
  | 0, _, _, _, h => by cases h
  | f + 1, s, r, l, h => by
    unfold attrsP at h
    split at h
    · rename_i r1
      split at h
      · cases h
      · rename_i p r4 e
        obtain ⟨v, h0, h1, _⟩ := attrP_text e
        cases hq : attrsP f r4 with
        | none => rw [hq] at h; cases h
        | some x =>
          rw [hq] at h
          simp only [Option.map_some, Option.some.injEq, Prod.mk.injEq] at h
          have ih := attrsP_text (l := x.1) (r := x.2) hq
          have hv := esc_of_unescQ _ (Nat.le_refl _) h0
          rw [← h.1, ← h.2, h1, ih, ← hv]
          unfold attrT
          rw [List.flatMap_cons]
          simp
    · cases h; simp [attrT]
theorem headP_text {s t r : List UInt8} {a : List (List UInt8 × List UInt8)} (h : headP s = some (a, t, r)) : s = attrT a ++ ([62] ++ esc t) ++ r := by
  unfold headP at h
  split at h
  · cases h
  · rename_i a' r2 e
    split at h
    · rename_i r3
      split at h
      · cases h
      · rename_i t' et
        cases h
        have h1 := attrsP_text e
        have h2 := wd_rs (isC 60) r3
        have hv := esc_of_unescQ _ (Nat.le_refl _) et
        rw [h1, hv]
        conv => lhs; rw [← h2]
        simp
    · cases h
theorem kidsP_text {e : List UInt8 → Option (Nd × List UInt8)} (he : ∀ s x r, e s = some (x, r) → s = textN x ++ r) : ∀ {f : Nat} {s r : List UInt8} {l : List Nd}, kidsP e f s = some (l, r) → s = textL l ++ r
  | 0, _, _, _, h => by cases h
  | f + 1, s, r, l, h => by
    unfold kidsP at h
    split at h
    · cases h; simp [textL]
    · split at h
      · cases h
      · rename_i x r1 hx
        cases hq : kidsP e f r1 with
        | none => rw [hq] at h; cases h
        | some y =>
          rw [hq] at h
          simp only [Option.map_some, Option.some.injEq, Prod.mk.injEq] at h
          have h1 := kidsP_text he (l := y.1) (r := y.2) hq
          have h2 := he _ _ _ hx
          rw [← h.1, ← h.2, h2, h1, textL, List.append_assoc]
theorem elemP_text : ∀ {D : Nat} {s r : List UInt8} {x : Nd}, elemP D s = some (x, r) → s = textN x ++ r
  | 0, _, _, _, h => by cases h
  | D + 1, s, r, x, h => by
    unfold elemP at h
    split at h
    · rename_i r1
      split at h
      · cases h
      · rename_i a t r4 e1
        split at h
        · cases h
        · rename_i k r5 e2
          split at h
          · rename_i hp
            cases h
            have h1 := headP_text e1
            have h2 := kidsP_text (fun s x r h => elemP_text h) e2
            have h3 := wd_rs isSp r1
            obtain ⟨u, hu⟩ := List.isPrefixOf_iff_prefix.1 hp
            rw [textN]
            conv => lhs; rw [← h3, h1, h2, ← hu]
            rw [← hu]
            simp [closeT]
          · cases h
    · cases h

/-! ### what is written reads as it was -/
theorem name_all {n : List UInt8} (h : nameB n = true) : n ≠ [] ∧ letC (n.getD 0 0) = true ∧ ∀ c ∈ n, insC c = true := by
  unfold nameB at h
  simp only [Bool.and_eq_true, Bool.not_eq_true', List.all_eq_true] at h
  exact ⟨by intro e; subst e; simp at h, h.1.2, h.2⟩
theorem ins_sp (c : UInt8) : insC c = true → isSp c = false ∧ isC 61 c = false := by
  have key : ∀ c : UInt8, (!insC c || (!isSp c && !isC 61 c)) = true := by apply all_bytes; decide +kernel
  intro h
  have := key c
  rw [h] at this
  simpa using this
theorem bad_q (c : UInt8) : badC c = false → isC 34 c = false ∧ isC 60 c = false := by
  have key : ∀ c : UInt8, (badC c || (!isC 34 c && !isC 60 c)) = true := by apply all_bytes; decide +kernel
  intro h
  have := key c
  rw [h] at this
  simpa using this
theorem attrP_back {p : List UInt8 × List UInt8} (hn : nameB p.1 = true) (r : List UInt8) : attrP (p.1 ++ [61, 34] ++ esc p.2 ++ [34] ++ r) = some (p, r) := by
  obtain ⟨_, _, h3⟩ := name_all hn
  have e : p.1 ++ [61, 34] ++ esc p.2 ++ [34] ++ r = p.1 ++ 61 :: (34 :: (esc p.2 ++ 34 :: r)) := by simp
  obtain ⟨w1, w2⟩ := wd_stop (p := isC 61) (a := p.1) (c := 61) (r := 34 :: (esc p.2 ++ 34 :: r)) (fun x hx => (ins_sp x (h3 x hx)).2) rfl
  obtain ⟨w3, w4⟩ := wd_stop (p := isC 34) (a := esc p.2) (c := 34) (r := r) (fun x hx => (bad_q x (esc_bad x hx)).1) rfl
  unfold attrP
  rw [e, w1, w2]
  simp only [w3, w4, unescQ_of_esc]
theorem attrsP_back {r : List UInt8} (hr : ∀ q, r ≠ 32 :: q) : ∀ {l : List (List UInt8 × List UInt8)} {f : Nat}, (∀ p ∈ l, nameB p.1 = true) → l.length < f → attrsP f (attrT l ++ r) = some (l, r)
  | _, 0, _, hf => by omega
  | [], f + 1, _, _ => by
    show attrsP (f + 1) r = _
    unfold attrsP
    split
    · rename_i q; exact absurd rfl (hr q)
    · rfl
  | p :: l, f + 1, hn, hf => by
    have e : attrT (p :: l) ++ r = 32 :: (p.1 ++ [61, 34] ++ esc p.2 ++ [34] ++ (attrT l ++ r)) := by
      unfold attrT; rw [List.flatMap_cons]; simp
    rw [e]
    unfold attrsP
    simp only [attrP_back (hn p (List.mem_cons_self ..))]
    rw [attrsP_back hr (l := l) (fun q hq => hn q (List.mem_cons_of_mem _ hq)) (by simpa using hf)]
    rfl
theorem attrT_length (l : List (List UInt8 × List UInt8)) : l.length ≤ (attrT l).length := by
  induction l with
  | nil => simp
  | cons p l ih =>
    unfold attrT at ih ⊢
    rw [List.flatMap_cons, List.length_append, List.length_cons]
    simp only [List.length_append, List.length_cons, List.length_nil]
    omega
theorem headP_back {a : List (List UInt8 × List UInt8)} (ha : ∀ p ∈ a, nameB p.1 = true) (t q : List UInt8) : headP (attrT a ++ ([62] ++ esc t) ++ 60 :: q) = some (a, t, 60 :: q) := by
  have e : attrT a ++ ([62] ++ esc t) ++ 60 :: q = attrT a ++ 62 :: (esc t ++ 60 :: q) := by simp
  have hl := attrT_length a
  obtain ⟨w1, w2⟩ := wd_stop (p := isC 60) (a := esc t) (c := 60) (r := q) (fun x hx => (bad_q x (esc_bad x hx)).2) rfl
  unfold headP
  rw [e, attrsP_back (r := 62 :: (esc t ++ 60 :: q)) (fun q h => by injection h with h _; exact absurd h (by decide)) ha (by rw [List.length_append]; omega)]
  simp only [w1, w2, unescQ_of_esc]
theorem attrs_names {a : List (List UInt8 × List UInt8)} (h : attrsB a = true) : ∀ p ∈ a, nameB p.1 = true ∧ shwB p.2 = true := by
  intro p hp
  obtain ⟨i, hi, rfl⟩ := List.getElem_of_mem hp
  unfold attrsB at h
  have := List.all_eq_true.1 h i (List.mem_range.2 hi)
  unfold attrOk at this
  simp only [Bool.and_eq_true] at this
  have e : a.getD i default = a[i] := by simp [hi]
  rw [e] at this
  exact this.1
theorem let47 (c : UInt8) : letC c = true → c ≠ 47 := by
  have key : ∀ c : UInt8, (!letC c || decide (c ≠ 47)) = true := by apply all_bytes; decide +kernel
  intro h
  have := key c
  rw [h] at this
  simpa using this
theorem ownN_name {x : Nd} (h : ownN x = true) : ∀ r, ∃ c q, textN x ++ r = 60 :: c :: q ∧ c ≠ 47 := by
  match x, h with
  | .mk n a t k, h =>
    intro r
    simp only [ownN, Bool.and_eq_true] at h
    obtain ⟨h1, h2, _⟩ := name_all h.1.1.1.1
    match n, h1, h2 with
    | c :: n, _, h2 => exact ⟨c, n ++ (attrT a ++ 62 :: (esc t ++ (textL k ++ 60 :: 47 :: c :: (n ++ 62 :: r)))), by rw [textN]; simp, let47 c (by simpa using h2)⟩
theorem dpL_mem {D : Nat} : ∀ {l : List Nd}, dpL l ≤ D → ∀ x ∈ l, dpN x ≤ D
  | [], _, x, hx => by cases hx
  | y :: l, h, x, hx => by
    rw [dpL] at h
    rcases List.mem_cons.1 hx with rfl | hx
    · omega
    · exact dpL_mem (by omega) x hx
theorem ownL_mem : ∀ {l : List Nd}, ownL l = true → ∀ x ∈ l, ownN x = true
  | [], _, x, hx => by cases hx
  | y :: l, h, x, hx => by
    rw [ownL, Bool.and_eq_true] at h
    rcases List.mem_cons.1 hx with rfl | hx
    · exact h.1
    · exact ownL_mem h.2 x hx
theorem textL_length : ∀ (l : List Nd), l.length ≤ (textL l).length
  | [] => by simp
  | x :: l => by
    have ih := textL_length l
    have : 0 < (textN x).length := by
      cases x with
      | mk n a t k => rw [textN]; simp only [List.length_append, List.length_cons]; omega
    rw [textL, List.length_append, List.length_cons]
    omega
theorem kidsP_back {e : List UInt8 → Option (Nd × List UInt8)} {n r : List UInt8} : ∀ {l : List Nd} {f : Nat}, (∀ x ∈ l, ownN x = true) → (∀ x ∈ l, ∀ r, e (textN x ++ r) = some (x, r)) → l.length < f → kidsP e f (textL l ++ (closeT n ++ r)) = some (l, closeT n ++ r)
  | _, 0, _, _, hf => by omega
  | [], f + 1, _, _, _ => by
    unfold kidsP
    rw [if_pos (by simp [textL, closeT])]
    simp [textL]
  | x :: l, f + 1, ho, he, hf => by
    obtain ⟨c, q, h1, h2⟩ := ownN_name (ho x (List.mem_cons_self ..)) (textL l ++ (closeT n ++ r))
    have e1 : textL (x :: l) ++ (closeT n ++ r) = textN x ++ (textL l ++ (closeT n ++ r)) := by rw [textL, List.append_assoc]
    unfold kidsP
    rw [e1, if_neg (by
      rw [h1]
      intro h
      simp [List.isPrefixOf] at h
      exact h2 h.symm), he x (List.mem_cons_self ..)]
    simp only
    rw [kidsP_back (l := l) (fun y hy => ho y (List.mem_cons_of_mem _ hy)) (fun y hy => he y (List.mem_cons_of_mem _ hy)) (by simpa using hf)]
    rfl
theorem elemP_back : ∀ {D : Nat} {x : Nd}, dpN x ≤ D → ownN x = true → ∀ r, elemP D (textN x ++ r) = some (x, r)
  | 0, .mk _ _ _ _, h, _, _ => by rw [dpN] at h; omega
  | D + 1, .mk n a t k, hd, ho, r => by
    rw [dpN] at hd
    have ho' := ho
    simp only [ownN, Bool.and_eq_true] at ho
    obtain ⟨⟨⟨⟨h1, _⟩, _⟩, h4⟩, h5⟩ := ho
    obtain ⟨_, _, hn⟩ := name_all h1
    have hat := attrs_names h4
    have hkb := kidsP_back (e := elemP D) (n := n) (r := r) (l := k) (f := (textL k ++ (closeT n ++ r)).length + 1) (ownL_mem h5) (fun x hx r => elemP_back (dpL_mem (by omega) x hx) (ownL_mem h5 x hx) r) (by
      have := textL_length k
      rw [List.length_append]; omega)
    -- the text behind the name
    obtain ⟨q, hq⟩ : ∃ q, textL k ++ (closeT n ++ r) = 60 :: q := by
      cases k with
      | nil => exact ⟨47 :: (n ++ 62 :: r), by simp [textL, closeT]⟩
      | cons y l =>
        obtain ⟨c, q, h, _⟩ := ownN_name (ownL_mem h5 y (List.mem_cons_self ..)) (textL l ++ (closeT n ++ r))
        exact ⟨_, by rw [textL, List.append_assoc, h]⟩
    obtain ⟨d, u, hu, hd'⟩ : ∃ d u, attrT a ++ ([62] ++ esc t) ++ (textL k ++ (closeT n ++ r)) = d :: u ∧ isSp d = true := by
      cases a with
      | nil => exact ⟨62, esc t ++ (textL k ++ (closeT n ++ r)), by simp [attrT], rfl⟩
      | cons p l => exact ⟨32, p.1 ++ [61, 34] ++ esc p.2 ++ [34] ++ (attrT l ++ ([62] ++ esc t) ++ (textL k ++ (closeT n ++ r))), by simp [attrT], rfl⟩
    have e1 : textN (.mk n a t k) ++ r = 60 :: (n ++ (attrT a ++ ([62] ++ esc t) ++ (textL k ++ (closeT n ++ r)))) := by
      rw [textN]; simp [closeT]
    obtain ⟨w1, w2⟩ := wd_stop (p := isSp) (a := n) (c := d) (r := u) (fun x hx => (ins_sp x (hn x hx)).1) hd'
    have hh := headP_back (a := a) (fun p hp => (hat p hp).1) t q
    rw [← hq] at hh
    unfold elemP
    rw [e1]
    simp only
    rw [hu] 
    simp only [w1, w2]
    rw [← hu, hh]
    simp only
    rw [hkb]
    simp only
    rw [if_pos (by rw [List.isPrefixOf_iff_prefix]; exact ⟨r, rfl⟩)]
    simp
end Go.Xml
/-
  The reader: take, word, attrs.
-/
namespace Go.Proofs.YtgfbieplidpebaaGreatDoor
open Go.Eng Go.Pct Go.Xml Go.Rsp
set_option maxRecDepth 10000
set_option linter.unusedSimpArgs false
set_option linter.unusedVariables false

variable {M : Ghost} {w0 w : World} {bs : List Nat} {H : List (Nat × Obj)}
/-- a reading's cells -/
def readO (s : List UInt8) (left : Int) : Obj := .cells [str s, i64 left].toArray 89 (0, 0)
theorem idxAny_wd (chars : List UInt8) (p : UInt8 → Bool) (hp : ∀ c, chars.contains c = p c) : ∀ s : List UInt8, (Lib.indexAny s chars = -1 ∧ wd p s = s ∧ rs p s = []) ∨ ∃ i : Nat, Lib.indexAny s chars = (i : Int) ∧ i ≤ s.length ∧ s.take i = wd p s ∧ s.drop i = rs p s
  | [] => .inl ⟨rfl, rfl, rfl⟩
  | c :: r => by
    unfold wd rs
    by_cases h : p c = true
    · refine .inr ⟨0, ?_, by omega, by simp [h], by simp [h]⟩
      simp only [Lib.indexAny]; rw [if_pos (by rw [hp]; exact h)]; rfl
    · have h' : p c = false := by simpa using h
      rcases idxAny_wd chars p hp r with ⟨h1, h2, h3⟩ | ⟨i, h1, h2, h3, h4⟩
      · refine .inl ⟨?_, ?_, ?_⟩
        · simp only [Lib.indexAny]; rw [if_neg (by rw [hp]; exact h), h1]; rfl
        · unfold wd at h2; simp [h', h2]
        · unfold rs at h3; simp [h', h3]
      · refine .inr ⟨i + 1, ?_, by simpa using h2, ?_, ?_⟩
        · simp only [Lib.indexAny]; rw [if_neg (by rw [hp]; exact h), h1]
          have : ¬ ((i : Int) == -1) = true := by simp
          rw [if_neg this]; rfl
        · unfold wd at h3; simp [h', h3]
        · unfold rs at h4; simp [h', h4]
theorem take_ok {s x : List UInt8} {left : Int} {b : Nat} (hw : St w0 bs ((b, readO s left) :: H) M w) : Calls Tryz.prog 75 #[.pointer (some ⟨b, 0, none⟩), str x] w (RetC (St w0 bs ((b, readO (cutP s x) left) :: H) M) (.bool (Lib.hasPrefix s x))) := by
  refine calls_lent (C := St w0 bs ((b, readO s left) :: H) M) (l := [.pointer (some ⟨b, 0, none⟩), str x]) hw Tryz.func75 rfl rfl rfl (E0 := [(0, true, .pointer (some ⟨b, 0, none⟩)), (1, true, str x)]) (params_cons rfl (params_cons rfl (params_nil _))) ?_
  clear hw
  unfold readO
  repeat' (first | (first | refine sk ?_ | (refine gL ?_; first | refine wl_v rfl rfl rfl (by first | (exact oc 87 Tryz.call87 (h := fun hcg w hw => cutprefix_ok hw.laid s x))) ?_ | refine xl_alloc (fun _ => ?_) | refine xl_box rfl (fun _ => ?_) | refine xl_store rfl rfl ?_ | refine xl_buildSlice rfl (fun _ => ?_) | refine wl_makeMap rfl rfl (fun _ => ?_) | refine wl_insert rfl rfl rfl rfl rfl rfl (by first | exact rfl | exact trivial) pU (by rfl) ?_) | fail) | (refine wc_cond rfl (fun hc => ?_) (fun hc => ?_) <;> (try (simp only [bls] at hc)) <;> (try (exfalso; first | omega | contradiction))))
  exact wrl_tmp rfl rfl rfl (fun _ h => h)
theorem word_ok {s chars : List UInt8} {left : Int} {b : Nat} (p : UInt8 → Bool) (hp : ∀ c, chars.contains c = p c) (hs : s.length < 4294967281) (hca : ∀ c ∈ chars, c.toNat < 128) (h0 : chars ≠ []) (hl : chars.length ≤ 100) (hw : St w0 bs ((b, readO s left) :: H) M w) : Calls Tryz.prog 76 #[.pointer (some ⟨b, 0, none⟩), str chars] w (RetC (St w0 bs ((b, readO (rs p s) left) :: H) M) (str (wd p s))) := by
  have hia := fun {w : World} (hw : Laid M w) => iany_ok hw s chars hs hca h0 hl
  refine calls_lent (C := St w0 bs ((b, readO s left) :: H) M) (l := [.pointer (some ⟨b, 0, none⟩), str chars]) hw Tryz.func76 rfl rfl rfl (E0 := [(0, true, .pointer (some ⟨b, 0, none⟩)), (1, true, str chars)]) (params_cons rfl (params_cons rfl (params_nil _))) ?_
  clear hw
  unfold readO
  rcases idxAny_wd chars p hp s with ⟨h1, h2, h3⟩ | ⟨i, h1, h2, h3, h4⟩
  · rw [h1] at hia
    rw [h2, h3]
    repeat' (first | (first | refine sk ?_ | (refine gL ?_; first | refine wl_v rfl rfl rfl (by first | (exact oc 88 Tryz.call88 (h := fun hcg w hw => hia hw.laid))) ?_ | refine xl_alloc (fun _ => ?_) | refine xl_box rfl (fun _ => ?_) | refine xl_store rfl rfl ?_ | refine xl_buildSlice rfl (fun _ => ?_) | refine wl_makeMap rfl rfl (fun _ => ?_) | refine wl_insert rfl rfl rfl rfl rfl rfl (by first | exact rfl | exact trivial) pU (by rfl) ?_) | fail) | (refine wc_cond rfl (fun hc => ?_) (fun hc => ?_) <;> (try (simp only [bls] at hc)) <;> (try (exfalso; first | omega | contradiction))))
    exact wrl_tmp rfl rfl (by rw [List.take_length]) (fun _ h => by rw [List.drop_length] at h; exact h)
  · rw [h1] at hia
    rw [← h3, ← h4]
    repeat' (first | (first | refine sk ?_ | (refine gL ?_; first | refine wl_v rfl rfl rfl (by first | (exact oc 88 Tryz.call88 (h := fun hcg w hw => hia hw.laid))) ?_ | refine xl_alloc (fun _ => ?_) | refine xl_box rfl (fun _ => ?_) | refine xl_store rfl rfl ?_ | refine xl_buildSlice rfl (fun _ => ?_) | refine wl_makeMap rfl rfl (fun _ => ?_) | refine wl_insert rfl rfl rfl rfl rfl rfl (by first | exact rfl | exact trivial) pU (by rfl) ?_) | fail) | (refine wc_cond rfl (fun hc => ?_) (fun hc => ?_) <;> (try (simp only [bls] at hc)) <;> (try (exfalso; first | omega | contradiction))))
    exact wrl_tmp rfl rfl rfl (fun _ h => h)
/-- what a reading that is lent ends in: what is left of it, what is laid for good -/
def RetX (w0 : World) (H : List (Nat × Obj)) (M : Ghost) (b : Nat) (R : Ghost → List UInt8 → Int → Value → Prop) : Ending → World → Prop := fun e w' => ∃ v M' s' left', e = .returned v ∧ (∀ b o, M b o → M' b o) ∧ (∀ k o, M' k o → M k o ∨ w0.heap.size ≤ k) ∧ St w0 [] ((b, readO s' left') :: H) M' w' ∧ R M' s' left' v
section
variable {P : Program} {n : Nat} {E : Env} {k : Kont} {ops : Array Oper} {rest : List Oper} {C : World → Prop}
variable {dst : Option Tmp} {ty : TypeId} {pos : String} {af : Array Edge} {g : Option (Nat × Bool)}
theorem wl_callX {b : Nat} {R : Ghost → List UInt8 → Int → Value → Prop} {f : FuncId} {l : List Operand} {ats : Array TypeId} {vs : List (Bool × Value)} {args : Array Value} {d : Nat}
    (hg : gd ops E g = some true) (hf : ∀ args w, (callFunc f args).run P w = .ok (.enter f args) w) (hl : evg true E l = some vs) (hp : vs.all (·.1) = true) (hargs : vs.map (·.2) = args.toList) (hd : Nat.blt d n = true)
    (hc : ∀ w, C w → Calls P f args w (RetX w0 H M b R))
    (h : ∀ v M' s' left', (∀ b o, M b o → M' b o) → (∀ b o, M' b o → M b o ∨ w0.heap.size ≤ b) → R M' s' left' v → WL P ops rest n ((d, true, v) :: E) (St w0 [] ((b, readO s' left') :: H) M') k) :
    WL P ops (⟨some d, .call ⟨.value (.func f), l.toArray, ats⟩, ty, pos, af, g⟩ :: rest) n E C k := by
  have hd : d < n := by simpa [Nat.blt_eq] using hd
  refine wl_op hg fun a w ha hw => ?_
  unfold Oper.wp
  rw [run_callf hf (args := args) (by rw [evg_eval ha hl (by simpa using hp), hargs]), Oper.upon_enter]
  refine (hc w hw).mono ?_
  rintro e w' ⟨v, M', s', left', rfl, h1, h2, h3, h4⟩
  exact (h v M' s' left' h1 h2 h4).run _ w' (ha.put hd rfl) h3
theorem retX_lay {H1 Hn : List (Nat × Obj)} {M0 : Ghost} {b : Nat} {s' : List UInt8} {left' : Int} {v : Value} {R : Ghost → List UInt8 → Int → Value → Prop} (hw : St w0 [] H1 M w) (hs : Since w0 M0 M) (hH : (Hn ++ ((b, readO s' left') :: H)).Sublist H1) (hR : R (With M Hn) s' left' v) : RetX w0 H M0 b R (.returned v) w := by
  have hw2 := hw.drop hH
  refine ⟨_, With M Hn, s', left', rfl, fun b o h => .inl (hs.1 b o h), fun b o h => ?_, hw2.publish, hR⟩
  rcases h with h | h
  · exact hs.2 b o h
  · rcases hw2.new (b, o) (List.mem_append_left _ h) with h3 | h3
    · exact .inr h3
    · cases h3
theorem wrx_lay2 {H1 Hn : List (Nat × Obj)} {M0 : Ghost} {b : Nat} {s' : List UInt8} {left' : Int} {R : Ghost → List UInt8 → Int → Value → Prop} {fn : Func} {t u : Nat} {v' r' : Value} (hr : fn.results = #[.tmp t, .tmp u]) (ht : Eng.look E t = some (true, v')) (hu : Eng.look E u = some (true, r'))
    (hs : Since w0 M0 M) (hH : (Hn ++ ((b, readO s' left') :: H)).Sublist H1) (hR : R (With M Hn) s' left' (.tuple #[v', r'])) : WR n E (St w0 [] H1 M) (bodyPost P fn (RetX w0 H M0 b R)) := ⟨fun a w ha hw => by
  have h1 := ha.reads t true v' ht
  have h2 := ha.reads u true r' hu
  refine bodyPost_ret (v := .tuple #[v', r']) ?_ ha.defers (retX_lay hw hs hH hR)
  rw [results_tmp2 hr]
  simp [h1, h2]⟩
theorem wrx_layC2 {H1 Hn : List (Nat × Obj)} {M0 : Ghost} {b c : Nat} {s' : List UInt8} {left' : Int} {R : Ghost → List UInt8 → Int → Value → Prop} {fn : Func} {t u : Nat} {tid : TypeId} {fs : Array Field} {l : List Value} {T : TypeId} {fz : Nat × Nat} {r : Value} (hr : fn.results = #[.cell t tid, .tmp u]) (ht : Eng.look E t = some (true, .pointer (some ⟨c, 0, none⟩))) (hu : Eng.look E u = some (true, r))
    (hty : P.underlying tid = some (.struct fs)) (hm : (c, Obj.cells l.toArray T fz) ∈ H1) (hsz : (P.info? tid).map (·.size) = some l.length)
    (hs : Since w0 M0 M) (hH : (Hn ++ ((b, readO s' left') :: H)).Sublist H1) (hR : R (With M Hn) s' left' (.tuple #[.agg l.toArray, r])) : WR n E (St w0 [] H1 M) (bodyPost P fn (RetX w0 H M0 b R)) := ⟨fun a w ha hw =>
  bodyPost_ret (run_cellRes2 hw ha ht hu hty hm hsz hr) ha.defers (retX_lay hw hs hH hR)⟩
end
end Go.Proofs.YtgfbieplidpebaaGreatDoor
/-
  The reader's attributes.
-/
namespace Go.Proofs.YtgfbieplidpebaaGreatDoor
open Go.Eng Go.Pct Go.Xml Go.Rsp
set_option maxRecDepth 10000
set_option linter.unusedSimpArgs false
set_option linter.unusedVariables false

variable {M : Ghost} {w0 w : World} {bs : List Nat} {H : List (Nat × Obj)}
theorem isC_at (d c : UInt8) : ([d] : List UInt8).contains c = isC d c := by
  rw [isC]; by_cases h : c = d <;> simp [h]
theorem pre1 {d : UInt8} {s : List UInt8} : (Lib.hasPrefix s [d] = true ∧ ∃ r, s = d :: r) ∨ (Lib.hasPrefix s [d] = false ∧ ∀ r, s ≠ d :: r) := by
  unfold Lib.hasPrefix
  match s with
  | [] => exact .inr ⟨rfl, fun r h => by cases h⟩
  | c :: r =>
    by_cases h : d = c
    · subst h; exact .inl ⟨by simp [List.isPrefixOf], r, rfl⟩
    · refine .inr ⟨by simp [List.isPrefixOf, h], fun q e => ?_⟩
      injection e with e _; exact h e.symm
theorem pre2 {d e : UInt8} {s : List UInt8} : (Lib.hasPrefix s [d, e] = true ∧ ∃ r, s = d :: e :: r) ∨ (Lib.hasPrefix s [d, e] = false ∧ ∀ r, s ≠ d :: e :: r) := by
  unfold Lib.hasPrefix
  match s with
  | [] => exact .inr ⟨rfl, fun r h => by cases h⟩
  | [c] => exact .inr ⟨by simp [List.isPrefixOf], fun r h => by cases h⟩
  | c :: f :: r =>
    by_cases h : d = c ∧ e = f
    · obtain ⟨rfl, rfl⟩ := h; exact .inl ⟨by simp [List.isPrefixOf], r, rfl⟩
    · refine .inr ⟨?_, fun q e' => ?_⟩
      · rw [Bool.eq_false_iff]; intro h1
        simp [List.isPrefixOf] at h1
        exact h ⟨h1.1, h1.2⟩
      · injection e' with e1 e2; injection e2 with e2 _; exact h ⟨e1.symm, e2.symm⟩
theorem cutP_yes {s p r : List UInt8} (h : Lib.hasPrefix s p = true) (he : s = p ++ r) : cutP s p = r := by
  unfold cutP; rw [if_pos h, he, List.drop_left]
theorem attrP_no1 {r : List UInt8} (h : ∀ q, rs (isC 61) r ≠ 61 :: 34 :: q) : attrP r = none := by
  unfold attrP
  split
  · rename_i q e; exact absurd e (h q)
  · rfl
theorem attrP_no2 {r r2 : List UInt8} (h : rs (isC 61) r = 61 :: 34 :: r2) (h2 : unescQ (wd (isC 34) r2) = none) : attrP r = none := by
  unfold attrP; rw [h]; simp only [h2]
theorem attrP_no3 {r r2 v : List UInt8} (h : rs (isC 61) r = 61 :: 34 :: r2) (h2 : unescQ (wd (isC 34) r2) = some v) (h3 : ∀ q, rs (isC 34) r2 ≠ 34 :: q) : attrP r = none := by
  unfold attrP; rw [h]; simp only [h2]
theorem attrP_yes {r r2 v r4 : List UInt8} (h : rs (isC 61) r = 61 :: 34 :: r2) (h2 : unescQ (wd (isC 34) r2) = some v) (h3 : rs (isC 34) r2 = 34 :: r4) : attrP r = some ((wd (isC 61) r, v), r4) := by
  unfold attrP; rw [h]; simp only [h2]; rw [h3]; rfl
theorem unescQ_len {v u : List UInt8} (h : unescQ v = some u) : u.length ≤ v.length := by
  rw [← esc_of_unescQ _ (Nat.le_refl _) h]
  have key : ∀ c : UInt8, 1 ≤ (esc1 c).length := by apply all_bytes; decide +kernel
  unfold esc
  clear h
  induction u with
  | nil => simp
  | cons c u ih => rw [List.flatMap_cons, List.length_append, List.length_cons]; have := key c; omega
theorem take_no {s x : List UInt8} {left : Int} {b : Nat} (h : Lib.hasPrefix s x = false) (hw : St w0 bs ((b, readO s left) :: H) M w) : Calls Tryz.prog 75 #[.pointer (some ⟨b, 0, none⟩), str x] w (RetC (St w0 bs ((b, readO s left) :: H) M) (.bool false)) := by
  have := take_ok (x := x) hw
  unfold cutP at this
  rw [h, if_neg (by decide)] at this
  exact this
theorem take_yes {s x r : List UInt8} {left : Int} {b : Nat} (h : s = x ++ r) (hw : St w0 bs ((b, readO s left) :: H) M w) : Calls Tryz.prog 75 #[.pointer (some ⟨b, 0, none⟩), str x] w (RetC (St w0 bs ((b, readO r left) :: H) M) (.bool true)) := by
  have := take_ok (x := x) hw
  have hp : Lib.hasPrefix s x = true := by unfold Lib.hasPrefix; rw [List.isPrefixOf_iff_prefix]; exact ⟨r, h.symm⟩
  rw [cutP_yes hp h, hp] at this
  exact this
/-- as far as the attributes have been read -/
structure AQ (s : List UInt8) where
  f : Nat
  cur : List UInt8
  acc : List Pr
  v : Value
  Hs : List (Nat × Obj)
  fuel : cur.length ≤ f
  inv : attrsP (s.length + 1) s = (attrsP (f + 1) cur).map fun x => (acc ++ x.1, x.2)
  len : acc.length + cur.length ≤ s.length
  own : OwnS 50 2 v Hs (cellsP acc)
/-- what the attributes yield -/
def AttrsIs (s : List UInt8) (left : Int) (M' : Ghost) (s' : List UInt8) (left' : Int) (v : Value) : Prop :=
  match attrsP (s.length + 1) s with
  | some (l, r) => ∃ hv, v = .tuple #[hv, .bool true] ∧ SlP M' hv l ∧ s' = r ∧ left' = left
  | none => v = .tuple #[.slice none 0 0, .bool false]
set_option maxHeartbeats 2000000 in
theorem rattrs_ok (hG : Glob M) {s : List UInt8} {left : Int} {b : Nat} (hs : s.length ≤ 1000000000) (hw : St w0 [] ((b, readO s left) :: H) M w) : Calls Tryz.prog 77 #[.pointer (some ⟨b, 0, none⟩)] w (RetX w0 H M b (AttrsIs s left)) := by
  refine calls_lent (C := St w0 [] ((b, readO s left) :: H) M) (l := [.pointer (some ⟨b, 0, none⟩)]) hw Tryz.func77 rfl rfl rfl (E0 := [(0, true, .pointer (some ⟨b, 0, none⟩))]) (params_cons rfl (params_nil _)) ?_
  clear hw
  repeat' (first | (first | refine sk ?_ | (refine gL ?_; first | refine xl_alloc (fun _ => ?_) | refine xl_box rfl (fun _ => ?_) | refine xl_store rfl rfl ?_ | refine xl_buildSlice rfl (fun _ => ?_) | refine wl_makeMap rfl rfl (fun _ => ?_) | refine wl_insert rfl rfl rfl rfl rfl rfl (by first | exact rfl | exact trivial) pU (by rfl) ?_) | fail) | (refine wc_cond rfl (fun hc => ?_) (fun hc => ?_) <;> (try (simp only [bls] at hc)) <;> (try (exfalso; first | omega | contradiction))))
  refine wc_loop (α := AQ s) (fun x => [(0, true, .pointer (some ⟨b, 0, none⟩)), (4, true, x.v)]) (fun x => St w0 [] ((b, .cells [str x.cur, i64 left].toArray 89 (0, 0)) :: (x.Hs ++ H)) M) (fun x => x.f) ⟨s.length, s, [], .slice none 0 0, [], Nat.le_refl _, by simp, by simp, OwnS.nil⟩ pE (fun _ h => h) ?_
  rintro ⟨f, cur, acc, v, Hs, fuel, inv, hlen, own⟩
  dsimp only
  obtain ⟨va, vcap, rfl⟩ := own.slice (k := acc.length) (by decide) (cellsP_length _)
  have hpx := fun {w : World} (hw : Laid M w) => prefix_ok hw cur [32]
  have back : ∀ {r : List UInt8}, ∀ w', St w0 [] ((b, readO r left) :: (Hs ++ H)) M w' → St w0 [] (Hs ++ ((b, readO r left) :: H)) M w' := fun w' h => h.perm List.perm_middle
  have bad : attrsP (s.length + 1) s = none → AttrsIs s left (With M []) [] 0 (.tuple #[.slice none 0 0, .bool false]) := fun h => by unfold AttrsIs; rw [h]
  rcases pre1 (d := 32) (s := cur) with ⟨hp, r, rfl⟩ | ⟨hp, hno⟩
  · rw [hp] at hpx
    rw [attrsP] at inv
    simp only [List.length_cons] at fuel hlen
    repeat' (first | (first | refine sk ?_ | (refine gL ?_; first | refine wl_v rfl rfl rfl (by first | (exact oc 79 Tryz.call79 (h := fun hcg w hw => hpx hw.laid)) | (show OpV _ _ _ _ (Oper.mk _ (Op.slice _ _ (some _) none none) _ _ _ _) _ _; exact ov_from (i := 1) rfl rfl rfl pI pI rfl (fun _ => by simp))) ?_ | refine xl_alloc (fun _ => ?_) | refine xl_box rfl (fun _ => ?_) | refine xl_store rfl rfl ?_ | refine xl_buildSlice rfl (fun _ => ?_) | refine wl_makeMap rfl rfl (fun _ => ?_) | refine wl_insert rfl rfl rfl rfl rfl rfl (by first | exact rfl | exact trivial) pU (by rfl) ?_) | fail) | (refine wc_cond rfl (fun hc => ?_) (fun hc => ?_) <;> (try (simp only [bls] at hc)) <;> (try (exfalso; first | omega | contradiction))))
    refine wl_callL rfl Tryz.call76 rfl rfl rfl rfl (fun w hw => word_ok (s := r) (isC 61) (isC_at 61) (by omega) (by decide) (by decide) (by decide) hw) ?_
    repeat' (first | (first | refine sk ?_ | (refine gL ?_; first | refine xl_alloc (fun _ => ?_) | refine xl_box rfl (fun _ => ?_) | refine xl_store rfl rfl ?_ | refine xl_buildSlice rfl (fun _ => ?_) | refine wl_makeMap rfl rfl (fun _ => ?_) | refine wl_insert rfl rfl rfl rfl rfl rfl (by first | exact rfl | exact trivial) pU (by rfl) ?_) | fail) | (refine wc_cond rfl (fun hc => ?_) (fun hc => ?_) <;> (try (simp only [bls] at hc)) <;> (try (exfalso; first | omega | contradiction))))
    have hrl := rs_length (isC 61) r
    have failed : attrP r = none → attrsP (s.length + 1) s = none := fun h => by rw [inv, h]; rfl
    have ret : ∀ {q : List UInt8}, attrP r = none → AttrsIs s left (With M []) q left (.tuple #[.slice none 0 0, .bool false]) := fun h => by unfold AttrsIs; rw [failed h]
    have hsl : ∀ {x : Nat × Obj}, List.Sublist (([] : List (Nat × Obj)) ++ (x :: H)) (x :: (Hs ++ H)) := List.Sublist.cons_cons _ (List.sublist_append_right _ _)
    rcases pre2 (d := 61) (e := 34) (s := rs (isC 61) r) with ⟨hp1, r2, h61⟩ | ⟨hp1, hno1⟩
    · have hrl2 := hrl
      rw [h61] at hrl2
      simp only [List.length_cons] at hrl2
      refine wl_callL rfl Tryz.call75 rfl rfl rfl rfl (fun w hw => take_yes (x := [61, 34]) (r := r2) h61 hw) ?_
      repeat' (first | (first | refine sk ?_ | (refine gL ?_; first | refine xl_alloc (fun _ => ?_) | refine xl_box rfl (fun _ => ?_) | refine xl_store rfl rfl ?_ | refine xl_buildSlice rfl (fun _ => ?_) | refine wl_makeMap rfl rfl (fun _ => ?_) | refine wl_insert rfl rfl rfl rfl rfl rfl (by first | exact rfl | exact trivial) pU (by rfl) ?_) | fail) | (refine wc_cond rfl (fun hc => ?_) (fun hc => ?_) <;> (try (simp only [bls] at hc)) <;> (try (exfalso; first | omega | contradiction))))
      refine wl_callL rfl Tryz.call76 rfl rfl rfl rfl (fun w hw => word_ok (s := r2) (isC 34) (isC_at 34) (by omega) (by decide) (by decide) (by decide) hw) ?_
      have hr2 := rs_length (isC 34) r2
      have hun := fun {w : World} (hw : Laid M w) => unescape_ok hG hw (wd (isC 34) r2) (by omega)
      cases hu : unescQ (wd (isC 34) r2) with
      | none =>
        have hn := attrP_no2 h61 hu
        have hun : ∀ {w : World}, Laid M w → Calls Tryz.prog 78 #[str (wd (isC 34) r2)] w (RetE w (.tuple #[str [], i64 10])) := fun h => by have := hun h; rw [hu] at this; exact this
        repeat' (first | (first | refine sk ?_ | (refine gL ?_; first | refine wl_v rfl rfl rfl (by first | (exact oc 78 Tryz.call78 (h := fun hcg w hw => hun hw.laid)) | (show OpV _ _ _ _ (Oper.mk _ (Op.call _) _ _ _ _) _ _; exact ov_off (v := .bool false) rfl)) ?_ | refine xl_alloc (fun _ => ?_) | refine xl_box rfl (fun _ => ?_) | refine xl_store rfl rfl ?_ | refine xl_buildSlice rfl (fun _ => ?_) | refine wl_makeMap rfl rfl (fun _ => ?_) | refine wl_insert rfl rfl rfl rfl rfl rfl (by first | exact rfl | exact trivial) pU (by rfl) ?_) | fail) | (refine wc_cond rfl (fun hc => ?_) (fun hc => ?_) <;> (try (simp only [bls] at hc)) <;> (try (exfalso; first | omega | contradiction))))
        exact wrx_lay2 (Hn := []) rfl rfl rfl Since.refl hsl (ret hn)
      | some val =>
        have hvl := unescQ_len hu
        have hun : ∀ {w : World}, Laid M w → Calls Tryz.prog 78 #[str (wd (isC 34) r2)] w (RetE w (.tuple #[str val, i64 0])) := fun h => by have := hun h; rw [hu] at this; exact this
        repeat' (first | (first | refine sk ?_ | (refine gL ?_; first | refine wl_v rfl rfl rfl (by first | (exact oc 78 Tryz.call78 (h := fun hcg w hw => hun hw.laid))) ?_ | refine xl_alloc (fun _ => ?_) | refine xl_box rfl (fun _ => ?_) | refine xl_store rfl rfl ?_ | refine xl_buildSlice rfl (fun _ => ?_) | refine wl_makeMap rfl rfl (fun _ => ?_) | refine wl_insert rfl rfl rfl rfl rfl rfl (by first | exact rfl | exact trivial) pU (by rfl) ?_) | fail) | (refine wc_cond rfl (fun hc => ?_) (fun hc => ?_) <;> (try (simp only [bls] at hc)) <;> (try (exfalso; first | omega | contradiction))))
        rcases pre1 (d := 34) (s := rs (isC 34) r2) with ⟨hp3, r4, h34⟩ | ⟨hp3, hno3⟩
        · have hy := attrP_yes h61 hu h34
          rw [hy] at inv
          have hr3 := hr2
          rw [h34] at hr3
          simp only [List.length_cons] at hr3
          refine wl_callL rfl Tryz.call75 rfl rfl rfl rfl (fun w hw => take_yes (x := [34]) (r := r4) h34 hw) ?_
          repeat' (first | (first | refine sk ?_ | (refine gL ?_; first | refine xl_alloc (fun _ => ?_) | refine xl_box rfl (fun _ => ?_) | refine xl_store rfl rfl ?_ | refine xl_buildSlice rfl (fun _ => ?_) | refine wl_makeMap rfl rfl (fun _ => ?_) | refine wl_insert rfl rfl rfl rfl rfl rfl (by first | exact rfl | exact trivial) pU (by rfl) ?_) | fail) | (refine wc_cond rfl (fun hc => ?_) (fun hc => ?_) <;> (try (simp only [bls] at hc)) <;> (try (exfalso; first | omega | contradiction))))
          rename_i b43
          match f, fuel, inv with
          | 0, fuel, _ => exfalso; omega
          | f + 1, fuel, inv =>
            generalize wd (isC 61) r = key at *
            refine wl_weak (C' := St w0 [] ((b43, .cells [str key, str val].toArray 50 (0, 0)) :: (Hs ++ ((b, readO r4 left) :: H))) M) (Eng.Sub.refl _) (fun w' h => h.perm (List.Perm.cons _ List.perm_middle)) ?_
            refine y_append (news := [str key, str val]) (H0 := (b, readO r4 left) :: H) rfl own rfl rfl rfl rfl rfl rfl rfl rfl rfl rfl rfl rfl (by rw [cellsP_length]; omega) rfl ?_
            intro v' Hs' ho'
            rw [← cellsP_snoc acc (key, val)] at ho'
            repeat' (first | (first | refine sk ?_ | (refine gL ?_; first | refine xl_alloc (fun _ => ?_) | refine xl_box rfl (fun _ => ?_) | refine xl_store rfl rfl ?_ | refine xl_buildSlice rfl (fun _ => ?_) | refine wl_makeMap rfl rfl (fun _ => ?_) | refine wl_insert rfl rfl rfl rfl rfl rfl (by first | exact rfl | exact trivial) pU (by rfl) ?_) | fail) | (refine wc_cond rfl (fun hc => ?_) (fun hc => ?_) <;> (try (simp only [bls] at hc)) <;> (try (exfalso; first | omega | contradiction))))
            refine wn_cut ⟨f, r4, acc ++ [(key, val)], v', Hs', by omega, ?_, ?_, ho'⟩ (by show f < f + 1; omega) pE (fun w' h => h.perm (H' := (b, readO r4 left) :: (Hs' ++ H)) List.perm_middle.symm)
            · rw [inv]
              show Option.map _ (Option.map _ (attrsP (f + 1) r4)) = _
              rw [Option.map_map]
              congr 1
              funext x
              simp
            · simp only [List.length_append, List.length_cons, List.length_nil]; omega
        · have hn := attrP_no3 h61 hu hno3
          refine wl_callL rfl Tryz.call75 rfl rfl rfl rfl (fun w hw => take_no hp3 hw) ?_
          repeat' (first | (first | refine sk ?_ | (refine gL ?_; first | refine xl_alloc (fun _ => ?_) | refine xl_box rfl (fun _ => ?_) | refine xl_store rfl rfl ?_ | refine xl_buildSlice rfl (fun _ => ?_) | refine wl_makeMap rfl rfl (fun _ => ?_) | refine wl_insert rfl rfl rfl rfl rfl rfl (by first | exact rfl | exact trivial) pU (by rfl) ?_) | fail) | (refine wc_cond rfl (fun hc => ?_) (fun hc => ?_) <;> (try (simp only [bls] at hc)) <;> (try (exfalso; first | omega | contradiction))))
          exact wrx_lay2 (Hn := []) rfl rfl rfl Since.refl hsl (ret hn)
    · have hn := attrP_no1 hno1
      refine wl_callL rfl Tryz.call75 rfl rfl rfl rfl (fun w hw => take_no hp1 hw) ?_
      repeat' (first | (first | refine sk ?_ | (refine gL ?_; first | refine xl_alloc (fun _ => ?_) | refine xl_box rfl (fun _ => ?_) | refine xl_store rfl rfl ?_ | refine xl_buildSlice rfl (fun _ => ?_) | refine wl_makeMap rfl rfl (fun _ => ?_) | refine wl_insert rfl rfl rfl rfl rfl rfl (by first | exact rfl | exact trivial) pU (by rfl) ?_) | fail) | (refine wc_cond rfl (fun hc => ?_) (fun hc => ?_) <;> (try (simp only [bls] at hc)) <;> (try (exfalso; first | omega | contradiction))))
      exact wrx_lay2 (Hn := []) rfl rfl rfl Since.refl hsl (ret hn)
  · rw [hp] at hpx
    have e : attrsP (f + 1) cur = some ([], cur) := by
      unfold attrsP
      split
      · rename_i q; exact absurd rfl (hno q)
      · rfl
    rw [e, Option.map_some, List.append_nil] at inv
    repeat' (first | (first | refine sk ?_ | (refine gL ?_; first | refine wl_v rfl rfl rfl (by first | (exact oc 79 Tryz.call79 (h := fun hcg w hw => hpx hw.laid))) ?_ | refine xl_alloc (fun _ => ?_) | refine xl_box rfl (fun _ => ?_) | refine xl_store rfl rfl ?_ | refine xl_buildSlice rfl (fun _ => ?_) | refine wl_makeMap rfl rfl (fun _ => ?_) | refine wl_insert rfl rfl rfl rfl rfl rfl (by first | exact rfl | exact trivial) pU (by rfl) ?_) | fail) | (refine wc_cond rfl (fun hc => ?_) (fun hc => ?_) <;> (try (simp only [bls] at hc)) <;> (try (exfalso; first | omega | contradiction))))
    refine wr_weak (fun w' h => back w' h) ?_
    refine wrx_lay2 (Hn := Hs) rfl rfl rfl Since.refl (List.Sublist.refl _) ?_
    unfold AttrsIs
    rw [inv]
    exact ⟨_, rfl, own.slP (fun p hp => .inr hp) (by omega), rfl, rfl⟩
end Go.Proofs.YtgfbieplidpebaaGreatDoor
/-
  The engine at a region that draws its order and in which one operation, the pivot, turns the world from one class to another: all others are told in both. Nothing of the program stands here.
-/
namespace Go.Eng
open Go.RowKit
set_option linter.unusedVariables false

section
variable {P : Program} {n : Nat} {E : Env} {C : World → Prop} {k : Kont} {ops : Array Oper} {X : World → World → Prop}
/-- what keeps both classes -/
def KeepsTwo (C0 C1 : World → Prop) (w w' : World) : Prop := (C0 w → C0 w') ∧ (C1 w → C1 w')
/-- the pivot -/
structure ObT (P : Program) (ops : Array Oper) (n : Nat) (C0 C1 : World → Prop) (o : Oper) (G : REnv) (V : Tell) : Prop where
  run : ∀ a w, C0 w → a.defers = [] → a.tmps.size = n → HR G (· ∈ o.looksAt ops) a w →
    Region.wanted o (yielded ops a.tmps) = true ∧ o.wp P a w (fun a' w' => ∃ v, a' = a.put o.dst v ∧ (o.dst = none → v = undef) ∧ V v w' ∧ C1 w') (fun _ _ _ => False)
theorem Oper.wp_mono {o : Oper} {a : Act} {w : World} {N N' : Act → World → Prop} {Q : Exit → Act → World → Prop} (h : o.wp P a w N Q) (hN : ∀ a w, N a w → N' a w) : o.wp P a w N' Q := by
  unfold Oper.wp at *
  generalize (execOp a.eval o).run P w = r at *
  cases r with
  | ok nx w1 =>
    cases nx <;> simp only [Oper.upon] at h ⊢
    case value u => exact hN _ _ h
    case skip => exact hN _ _ h
    case defer => exact hN _ _ h
    case enter f args =>
      refine h.mono fun e w2 he => ?_
      cases e with
      | returned u => exact hN _ _ he
      | panicked c => exact he
      | outgrown => exact he
    case row row args => exact h.mono fun u w2 he => hN _ _ he
  | halt x w1 => cases x <;> simp only [Oper.upon] at h ⊢ <;> exact h
def WDsP (P : Program) (ops : Array Oper) (n : Nat) (C : World → Prop) (X : World → World → Prop) : List Oper → REnv → (World → Prop) → (REnv → (World → Prop) → Prop) → Prop
  | [], G, Q, fin => fin G Q
  | o :: rest, G, Q, fin => ∃ V, (∀ d, o.dst = some d → d < n) ∧ SteadyX (fun _ _ => True) V ∧ ObX P ops n C X o G V ∧ WDsP P ops n C X rest (putG o V G) (putQ o V Q) fin

theorem wds_outP : ∀ (l : List Oper) (i : Nat) (G : REnv) (Q : World → Prop) (fin : REnv → (World → Prop) → Prop), (∀ j, j < l.length → ops[i + j]? = l[j]?) → WDsP P ops n C X l G Q fin →
    ∃ (Vs : Nat → Tell) (Q' : World → Prop), (∀ j, j < l.length → ∃ o, ops[i + j]? = some o ∧ (∀ d, o.dst = some d → d < n) ∧ SteadyX (fun _ _ => True) (Vs j) ∧ ObX P ops n C X o (Gam (ops.extract i ops.size) Vs G j) (Vs j)) ∧ fin (Gam (ops.extract i ops.size) Vs G l.length) Q' ∧
      ∀ w, Q w → (∀ j o, j < l.length → ops[i + j]? = some o → o.dst = none → Vs j undef w) → Q' w
  | [], i, G, Q, fin, _, h => ⟨fun _ => fun _ _ => True, Q, by simp, h, fun _ hq _ => hq⟩
  | o :: rest, i, G, Q, fin, hl, h => by
    obtain ⟨V, hdn, hst, hob, hr⟩ := h
    have hoi : ops[i]? = some o := by simpa using hl 0 (by simp)
    obtain ⟨Vs, Q', h1, h2, h3⟩ := wds_outP rest (i + 1) (putG o V G) (putQ o V Q) fin (fun j hj => by have := hl (j + 1) (by simp; omega); simpa [Nat.add_assoc, Nat.add_comm 1 j] using this) hr
    have hilt : i < ops.size := by
      rcases Nat.lt_or_ge i ops.size with h' | h'
      · exact h'
      · simp [Array.getElem?_eq_none h'] at hoi
    have key : ∀ j, Gam (ops.extract i ops.size) (fun | 0 => V | q + 1 => Vs q) G (j + 1) = Gam (ops.extract (i + 1) ops.size) Vs (putG o V G) j := by
      intro j
      induction j with
      | zero =>
        have : (ops.extract i ops.size)[0]? = some o := by rw [Array.getElem?_extract, if_pos (by omega)]; simpa using hoi
        cases hd : o.dst <;> simp [Gam, this, putG, hd]
      | succ j ih =>
        have e : (ops.extract i ops.size)[j + 1]? = (ops.extract (i + 1) ops.size)[j]? := by
          simp only [Array.getElem?_extract]
          have : i + (j + 1) = i + 1 + j := by omega
          rw [this]
          by_cases h' : j < min ops.size ops.size - (i + 1)
          · rw [if_pos (by omega), if_pos h']
          · rw [if_neg (by omega), if_neg h']
        have hS : ∀ (q : Nat) (A : Array Oper) (W : Nat → Tell) (G : REnv), Gam A W G (q + 1) = match (A[q]?).bind (·.dst) with | some d => (d, W q) :: Gam A W G q | none => Gam A W G q := fun _ _ _ _ => rfl
        rw [hS (j + 1) (ops.extract i ops.size) _ G, hS j (ops.extract (i + 1) ops.size) Vs, e, ih]
    refine ⟨fun | 0 => V | q + 1 => Vs q, Q', ?_, ?_, ?_⟩
    · intro j hj
      cases j with
      | zero => exact ⟨o, by simpa using hoi, hdn, hst, hob⟩
      | succ j =>
        obtain ⟨o', ho', hdn', hst', hob'⟩ := h1 j (by simpa using hj)
        exact ⟨o', by rw [← ho']; congr 1; omega, hdn', hst', by rw [key]; exact hob'⟩
    · rw [List.length_cons, key]; exact h2
    · intro w hq hall
      refine h3 w ?_ (fun j p hj hp hd => ?_)
      · unfold putQ
        cases hd : o.dst with
        | some d => exact hq
        | none => exact ⟨hq, hall 0 o (by simp) (by simpa using hoi) hd⟩
      · exact hall (j + 1) p (by simpa using hj) (by rw [← hp]; congr 1; omega) hd

/-- The state in the midst of the first part. -/
structure MidP (ops : Array Oper) (n m p : Nat) (C0 C1 : World → Prop) (Vs : Nat → Tell) (G0 : REnv) (listed : Array Bool) (a : Act) (w : World) : Prop where
  closed : Closed ops listed
  in0 : ¬ On listed p → C0 w
  in1 : On listed p → C1 w
  defers : a.defers = []
  size : a.tmps.size = n
  few : ∀ j, On listed j → j < m
  vals : ∀ j o d, On listed j → ops[j]? = some o → o.dst = some d → ∃ u, a.tmps[d]? = some u ∧ Vs j u w
  facts : ∀ j o, On listed j → ops[j]? = some o → o.dst = none → Vs j undef w
  base : ∀ s U, lookR G0 s = some U → (∀ j o, On listed j → ops[j]? = some o → o.dst ≠ some s) → ∃ u, a.tmps[s]? = some u ∧ U u w

theorem mid_allP {Q : Exit → Act → World → Prop} {m p : Nat} {C0 C1 : World → Prop} {Vs : Nat → Tell} {G0 : REnv} (hord : orderly ops m = true) (hm : m ≤ ops.size) (hp : p < m) (hst0 : ∀ s U, lookR G0 s = some U → SteadyX (fun _ _ => True) U)
    (hV : ∀ j, j < m → ∃ o, ops[j]? = some o ∧ (∀ d, o.dst = some d → d < n) ∧ SteadyX (fun _ _ => True) (Vs j) ∧ (j ≠ p → ObX P ops n (fun w => C0 w ∨ C1 w) (KeepsTwo C0 C1) o (Gam ops Vs G0 j) (Vs j)) ∧ (j = p → ObT P ops n C0 C1 o (Gam ops Vs G0 j) (Vs j)))
    (hfin : ∀ a w, C1 w → HA n (Gam ops Vs G0 m) a w → (∀ j o, j < m → ops[j]? = some o → o.dst = none → Vs j undef w) → wpList P ops Q (ops.toList.drop m) a w) :
    ∀ (fuel : Nat) (listed : Array Bool) (a : Act) (w : World), left listed = fuel → MidP ops n m p C0 C1 Vs G0 listed a w → wpAny P .any ops Q fuel listed a w := by
  -- all of the prefix is done
  have done : ∀ (fuel : Nat) (listed : Array Bool) (a : Act) (w : World), left listed = fuel → MidP ops n m p C0 C1 Vs G0 listed a w → (∀ j, j < m → On listed j) → wpAny P .any ops Q fuel listed a w := by
    intro fuel listed a w hf hmid hall
    have hon : ∀ j, On listed j ↔ j < m := fun j => ⟨hmid.few j, hall j⟩
    have hlen : left listed = (ops.toList.drop m).length := by
      have : listed = Array.ofFn (n := ops.size) (fun i => decide (i.val < m)) := by
        apply Array.ext
        · simp [hmid.closed.size]
        · intro i h1 h2
          have := hon i
          simp [On, h1] at this
          simp
          cases hb : listed[i] with
          | true => simp [← this, hb]
          | false => simp [hb] at this; simp; omega
      have hc : ∀ (q : Nat), (List.ofFn (n := q) (fun i => decide (i.val < m))).countP (fun b => !b) = q - m := by
        intro q
        induction q with
        | zero => simp
        | succ q ih =>
          rw [List.ofFn_succ_last]
          simp only [List.countP_append, Fin.val_castSucc] 
          rw [ih]
          by_cases h' : q < m
          · simp [h']; omega
          · simp [h']; omega
      unfold left
      rw [this, Array.toList_ofFn, hc]
      simp
    rw [← hf, hlen]
    refine tail_any hord (ops.toList.drop m) m listed a w (Nat.le_refl _) (by simp; omega) (fun j hj => by simp) hmid.closed.size hon (hfin a w (hmid.in1 (hall p hp)) ⟨hmid.defers, hmid.size, ?_⟩ (fun j o hj ho hd => hmid.facts j o (hall j hj) ho hd))
    intro s U hs _
    rcases look_gam hs with ⟨j, o, hj, ho, hd, rfl⟩ | ⟨h0, hn⟩
    · exact hmid.vals j o s (hall j hj) ho hd
    · exact hmid.base s U h0 (fun j o hj ho => hn j o ((hon j).1 hj) ho)
  intro fuel
  induction fuel with
  | zero =>
    intro listed a w hf hmid
    exact done 0 listed a w hf hmid (fun j hj => left_zero hf (by rw [hmid.closed.size]; omega))
  | succ fuel ih =>
    intro listed a w hf hmid
    by_cases hall : ∀ j, j < m → On listed j
    · exact done _ listed a w hf hmid hall
    have hready : ∃ i o, i < m ∧ ops[i]? = some o ∧ ¬ On listed i ∧ ∀ l ∈ edges o, On listed l := by
      have : ∃ i, i < m ∧ ¬ On listed i := by
        rcases Classical.em (∃ i, i < m ∧ ¬ On listed i) with h' | h'
        · exact h'
        · exact absurd (fun j hj => Classical.byContradiction fun hn => h' ⟨j, hj, hn⟩) hall
      obtain ⟨i, ⟨hi, hni⟩, hleast⟩ := exists_least this
      have hilt : i < ops.size := by omega
      refine ⟨i, ops[i], hi, by simp [hilt], hni, fun l hl => ?_⟩
      have hli := (orderly_at hord (i := i) (o := ops[i]) (by simp [hilt])).1 l hl
      exact Classical.byContradiction fun hn => by have := hleast l ⟨by omega, hn⟩; omega
    refine ⟨fun h0 => ?_, fun i hi => ?_⟩
    · obtain ⟨i, o, him, ho, hno, hr⟩ := hready
      have : i ∈ Region.ready .any ops listed := (ready_iff hmid.closed.size).2 ⟨o, ho, hno, hr⟩
      rw [h0] at this; cases this
    · obtain ⟨o, ho, hno, hr⟩ := (ready_iff hmid.closed.size).1 hi
      have hord1 := orderly_at hord ho
      have him : i < m := by
        rcases Nat.lt_or_ge i m with h' | h'
        · exact h'
        · obtain ⟨q, p, hqm, hp, hnq, _⟩ := hready
          exact absurd (anc_on hmid.closed (i + 1) i o ho hr q (hord1.2.2.2 h' q (by omega))) hnq
      obtain ⟨o', ho', hdn, hst, hob⟩ := hV i him
      obtain rfl : o = o' := by rw [ho] at ho'; simpa using ho'
      have hilt : i < listed.size := by rw [hmid.closed.size]; omega
      have hHR : HR (Gam ops Vs G0 i) (· ∈ o.looksAt ops) a w := by
        intro s U hs hlook
        rcases look_gam hs with ⟨j, p, hj, hp, hd', rfl⟩ | ⟨h0, hn⟩
        · have := ((hord1.2.2.1 j p s hp (by omega) hd').2 hlook)
          rw [if_pos hj] at this
          exact hmid.vals j p s (hr j this) hp hd'
        · refine hmid.base s U h0 (fun j p hj hp hs' => ?_)
          by_cases hji : j < i
          · exact hn j p hji hp hs'
          · have hne : j ≠ i := fun e => hno (e ▸ hj)
            have := ((hord1.2.2.1 j p s hp hne hs').2 hlook)
            rw [if_neg hji] at this
            exact hno (hmid.closed.back j p hp hj i this)
      have hnext : ∀ v w', (o.dst = none → v = undef) → Vs i v w' → (i ≠ p → ¬ On listed p → C0 w') → ((On listed p ∨ i = p) → C1 w') → wpAny P .any ops Q fuel (listed.setIfInBounds i true) (a.put o.dst v) w' := by
        intro v w' hun hv hC0 hC1
        have hsz : (a.put o.dst v).tmps.size = n := by
          cases hd : o.dst <;> simp [Act.put, hmid.size]
        have hdf : (a.put o.dst v).defers = [] := by
          cases hd : o.dst <;> simp [Act.put, hmid.defers]
        have hoth : ∀ s, o.dst ≠ some s → (a.put o.dst v).tmps[s]? = a.tmps[s]? := by
          intro s hs
          cases hd : o.dst with
          | none => simp [Act.put]
          | some d =>
            have hne : d ≠ s := fun e => hs (by rw [hd, e])
            simp only [Act.put]; rw [Array.getElem?_setIfInBounds_ne hne]
        refine ih _ _ _ (by have := left_set hilt hno; omega) ⟨⟨by simpa using hmid.closed.size, ?_⟩, ?_, ?_, hdf, hsz, ?_, ?_, ?_, ?_⟩
        · intro q p hp hq j hj
          rw [on_set hilt] at hq ⊢
          rcases hq with rfl | hq
          · rw [ho] at hp; obtain rfl : o = p := by simpa using hp
            exact .inr (hr j hj)
          · exact .inr (hmid.closed.back q p hp hq j hj)
        · intro hnp
          rw [on_set hilt] at hnp
          exact hC0 (fun e => hnp (.inl e.symm)) (fun h => hnp (.inr h))
        · intro hyp
          rw [on_set hilt] at hyp
          exact hC1 (hyp.elim (fun e => .inr e.symm) .inl)
        · intro j hj
          rw [on_set hilt] at hj
          rcases hj with rfl | hj
          · exact him
          · exact hmid.few j hj
        · intro j p d' hj hp hd'
          rw [on_set hilt] at hj
          by_cases e : j = i
          · subst e; rw [ho] at hp; obtain rfl : o = p := by simpa using hp
            have hdn' := hdn d' hd'
            exact ⟨v, by rw [hd']; simp [Act.put, hmid.size, hdn'], hv⟩
          · have hj : On listed j := hj.resolve_left e
            obtain ⟨u, hu, hVu⟩ := hmid.vals j p d' hj hp hd'
            have hne := (hord1.2.2.1 j p d' hp e hd').1
            obtain ⟨o2, ho2, _, hst2, _⟩ := hV j (hmid.few j hj)
            exact ⟨u, by rw [hoth d' hne]; exact hu, hst2 _ _ _ trivial hVu⟩
        · intro j p hj hp hd'
          rw [on_set hilt] at hj
          by_cases e : j = i
          · subst e; rw [ho] at hp; obtain rfl : o = p := by simpa using hp
            rw [← hun hd']; exact hv
          · have hj : On listed j := hj.resolve_left e
            obtain ⟨o2, ho2, _, hst2, _⟩ := hV j (hmid.few j hj)
            exact hst2 _ _ _ trivial (hmid.facts j p hj hp hd')
        · intro s U hs hn
          have hne : o.dst ≠ some s := hn i o (by rw [on_set hilt]; exact .inl rfl) ho
          obtain ⟨u, hu, hU⟩ := hmid.base s U hs (fun j p hj hp => hn j p (by rw [on_set hilt]; exact .inr hj) hp)
          exact ⟨u, by rw [hoth s hne]; exact hu, hst0 s U hs _ _ _ trivial hU⟩
      have hrun : ∃ Cx : World → Prop, (∀ w', Cx w' → (i ≠ p → ¬ On listed p → C0 w') ∧ ((On listed p ∨ i = p) → C1 w')) ∧ (Region.wanted o (yielded ops a.tmps) = true → o.wp P a w (fun a' w' => ∃ v, a' = a.put o.dst v ∧ (o.dst = none → v = undef) ∧ Vs i v w' ∧ Cx w') (fun _ _ _ => False)) ∧ (Region.wanted o (yielded ops a.tmps) = false → Vs i undef w ∧ Cx w) := by
        by_cases hip : i = p
        · obtain ⟨hw1, hw2⟩ := (hob.2 hip).run a w (hmid.in0 (fun h => hno (by rw [hip]; exact h))) hmid.defers hmid.size hHR
          refine ⟨C1, fun w' h => ⟨fun h' => absurd hip h', fun _ => h⟩, fun _ => hw2, fun h => by rw [hw1] at h; cases h⟩
        · have hob := hob.1 hip
          by_cases hop : On listed p
          · obtain ⟨g1, g2⟩ := hob.run a w (.inr (hmid.in1 hop)) hmid.defers hmid.size hHR
            refine ⟨fun w' => KeepsTwo C0 C1 w w', fun w' h => ⟨fun _ h' => absurd hop h', fun _ => h.2 (hmid.in1 hop)⟩, fun h => ?_, fun h => ⟨g2 h, ⟨id, id⟩⟩⟩
            exact Oper.wp_mono (g1 h) fun a' w' ⟨v, h1, h2, h3, h4, _⟩ => ⟨v, h1, h2, h3, h4⟩
          · obtain ⟨g1, g2⟩ := hob.run a w (.inl (hmid.in0 hop)) hmid.defers hmid.size hHR
            refine ⟨fun w' => KeepsTwo C0 C1 w w', fun w' h => ⟨fun _ _ => h.1 (hmid.in0 hop), fun h' => (h'.elim hop hip).elim⟩, fun h => ?_, fun h => ⟨g2 h, ⟨id, id⟩⟩⟩
            exact Oper.wp_mono (g1 h) fun a' w' ⟨v, h1, h2, h3, h4, _⟩ => ⟨v, h1, h2, h3, h4⟩
      obtain ⟨Cx, hK, h1, h2⟩ := hrun
      unfold wpOp
      simp only [ho]
      split
      · rename_i hw
        refine .inl ?_
        have := h1 hw
        unfold Oper.wp at this ⊢
        generalize (execOp a.eval o).run P w = r at *
        cases r with
        | ok nx w1 =>
          cases nx <;> simp only [Oper.upon] at this ⊢
          case value u => obtain ⟨v, e, hun, h3, h4⟩ := this; rw [e]; exact hnext v _ hun h3 (hK _ h4).1 (hK _ h4).2
          case skip => obtain ⟨v, e, hun, h3, h4⟩ := this; rw [e]; exact hnext v _ hun h3 (hK _ h4).1 (hK _ h4).2
          case defer => obtain ⟨v, e, hun, h3, h4⟩ := this; rw [e]; exact hnext v _ hun h3 (hK _ h4).1 (hK _ h4).2
          case enter f args =>
            refine this.mono fun e w2 he => ?_
            cases e with
            | returned u => obtain ⟨v, e, hun, h3, h4⟩ := he; show wpAny P .any ops Q fuel _ (a.put o.dst u) w2; rw [e]; exact hnext v _ hun h3 (hK _ h4).1 (hK _ h4).2
            | panicked c => exact he.elim
            | outgrown => obtain ⟨_, _, h⟩ := he; exact h.elim
          case row row args => refine this.mono fun u w2 he => ?_; obtain ⟨v, e, hun, h3, h4⟩ := he; rw [e]; exact hnext v _ hun h3 (hK _ h4).1 (hK _ h4).2
        | halt x w1 => cases x <;> simp only [Oper.upon] at this
      · rename_i hw
        have hw' : Region.wanted o (yielded ops a.tmps) = false := by simpa using hw
        exact hnext undef w (fun _ => rfl) (h2 hw').1 (hK _ (h2 hw').2).1 (hK _ (h2 hw').2).2



theorem gam_same {Vs Ws : Nat → Tell} {G0 : REnv} : ∀ {i : Nat}, (∀ j, j < i → Vs j = Ws j) → Gam ops Vs G0 i = Gam ops Ws G0 i
  | 0, _ => rfl
  | i + 1, h => by
    have ih := gam_same (G0 := G0) (Vs := Vs) (Ws := Ws) (i := i) (fun j hj => h j (by omega))
    unfold Gam
    rw [ih, h i (by omega)]
/-- The told part ahead of the pivot; the pivot; what is left is walked in the order of the text. -/
structure WPv (P : Program) (ops : Array Oper) (l : List Oper) (n : Nat) (E : Env) (C0 C1 : World → Prop) (o : Oper) (tail : List Oper) (k : Kont) : Prop where
  run : ∀ G, (∀ s, lookR G s = (look E s).map fun cv => exact1 cv.1 cv.2) → WDsP P ops n (fun w => C0 w ∨ C1 w) (KeepsTwo C0 C1) l G (fun _ => True) (fun G' _ => ∃ V, (∀ d, o.dst = some d → d < n) ∧ SteadyX (fun _ _ => True) V ∧ ObT P ops n C0 C1 o G' V ∧ ∀ a w, C1 w → HA n (putG o V G') a w → wpList P ops (k.post P) tail a w)
theorem wc_drawP {id : Nat} {l : List Oper} {o : Oper} (p : Nat) (C0 C1 : World → Prop) (hm : P.follows .mixedOrders = true) (ho : l[p]? = some o) (hord : orderly l.toArray (p + 1) = true) (hC : ∀ w, C w → C0 w.drew)
    (h : WPv P l.toArray (l.take p) n E C0 C1 o (l.drop (p + 1)) k) : WC P (.region id l.toArray true) n E C k := by
  have hpl : p < l.length := by
    rcases Nat.lt_or_ge p l.length with h | h
    · exact h
    · rw [List.getElem?_eq_none h] at ho; cases ho
  refine ⟨fun a w ha hw => wp_region_any hm ?_⟩
  have h := h.run (ofEnv E) (by intro s; rw [lookR_ofEnv])
  obtain ⟨Vs, Q', hV, ⟨V, hd, hst, hob, hfin⟩, _⟩ := wds_outP (ops := l.toArray) (l.take p) 0 _ _ _ (by intro j hj; simp at hj; simp [hj]) h
  have hex : l.toArray.extract 0 l.toArray.size = l.toArray := by simp
  have hlen : (l.take p).length = p := by simp; omega
  rw [hex] at hV hob hfin
  rw [hlen] at hV hob hfin
  have hsame : ∀ j, j ≤ p → Gam l.toArray (fun j => if j = p then V else Vs j) (ofEnv E) j = Gam l.toArray Vs (ofEnv E) j := fun j hj => gam_same (fun q hq => if_neg (by omega))
  have hop : l.toArray[p]? = some o := by simpa using ho
  refine mid_allP (n := n) (m := p + 1) (p := p) (C0 := C0) (C1 := C1) (G0 := ofEnv E) (Vs := fun j => if j = p then V else Vs j) hord (by simp; omega) (by omega) ?_ (fun j hj => ?_) (fun a w hCw hA _ => ?_) _ _ a _ (start_left _) ?_
  · intro s U hs
    rw [lookR_ofEnv] at hs
    obtain ⟨cv, _, rfl⟩ := Option.map_eq_some_iff.1 hs
    exact steadyX_exact _ _ _
  · by_cases e : j = p
    · subst e
      refine ⟨o, hop, hd, by simpa using hst, fun h => absurd rfl h, fun _ => ?_⟩
      rw [hsame _ (Nat.le_refl _), if_pos rfl]; exact hob
    · obtain ⟨o', h1, h2, h3, h4⟩ := hV j (by omega)
      refine ⟨o', by simpa using h1, h2, ?_, fun _ => ?_, fun h => absurd h e⟩
      · rw [if_neg e]; exact h3
      · rw [hsame j (by omega), if_neg e]; exact h4
  · have hG : Gam l.toArray (fun j => if j = p then V else Vs j) (ofEnv E) (p + 1) = putG o V (Gam l.toArray Vs (ofEnv E) p) := by
      show (match (l.toArray[p]?).bind (·.dst) with | some d => (d, (if p = p then V else Vs p)) :: Gam l.toArray (fun j => if j = p then V else Vs j) (ofEnv E) p | none => Gam l.toArray (fun j => if j = p then V else Vs j) (ofEnv E) p) = _
      rw [hop, hsame p (Nat.le_refl _), if_pos rfl]
      unfold putG
      cases hdo : o.dst <;> simp [hdo]
    rw [hG] at hA
    simpa using hfin a w hCw hA
  · refine ⟨⟨by simp, fun i o _ hi => absurd hi (start_on _ _)⟩, fun _ => hC w hw, fun h => absurd h (start_on _ _), ha.defers, ha.size, fun j hj => absurd hj (start_on _ _), fun j o d hj => absurd hj (start_on _ _), fun j o hj => absurd hj (start_on _ _), ?_⟩
    intro s U hs _
    rw [lookR_ofEnv] at hs
    obtain ⟨cv, hcv, rfl⟩ := Option.map_eq_some_iff.1 hs
    exact ⟨_, ha.reads s cv.1 cv.2 hcv, rfl⟩
theorem ov_two {C0 C1 : World → Prop} {o : Oper} {cg : Bool} {v : Value} (h0 : OpV P n E C0 o cg v) (h1 : OpV P n E C1 o cg v) : OpV P n E (fun w => C0 w ∨ C1 w) o cg v := ⟨fun hc a ha w hw => by
  have key : ∀ {D : World → Prop}, (∀ w, D w → C0 w ∨ C1 w) → YAt P o a D w v → YAt P o a (fun w => C0 w ∨ C1 w) w v := by
    intro D hD h
    unfold YAt at *
    generalize (execOp a.eval o).run P w = r at *
    cases r with
    | ok nx w1 =>
      cases nx <;> simp only [] at h ⊢
      case value u => exact h
      case enter f args => exact ⟨h.1, h.2.mono fun e w2 ⟨he, hx, hd⟩ => ⟨he, hx, hD _ hd⟩⟩
    | halt x w1 => simp only [] at h
  rcases hw with hw | hw
  · exact key (fun _ => .inl) (h0.run hc a ha w hw)
  · exact key (fun _ => .inr) (h1.run hc a ha w hw)⟩
theorem wpv_v {C0 C1 : World → Prop} {d : Nat} {cg : Bool} {v : Value} {o p : Oper} {rest tail : List Oper} (hX0 : ∀ w w', C0 w → Ext w w' → C0 w') (hX1 : ∀ w w', C1 w → Ext w w' → C1 w') (hg : gd ops E o.guard = some cg) (ho : o.dst = some d) (hd : Nat.blt d n = true) (hb : belowN n E = true) (hsel : noSel o = true)
    (h0 : OpV P n E C0 o cg v) (h1 : OpV P n E C1 o cg v) (h : WPv P ops rest n ((d, cg, v) :: E) C0 C1 p tail k) : WPv P ops (o :: rest) n E C0 C1 p tail k := ⟨fun G hG => by
  have hv := ov_two h0 h1
  have hd : d < n := by simpa [Nat.blt_eq] using hd
  refine ⟨exact1 cg v, (fun d' hd' => by rw [ho] at hd'; cases hd'; exact hd), steadyX_exact _ _ _, ⟨fun a w hw had has hHR => ?_⟩, ?_⟩
  · obtain ⟨b, hb1, hb2, hb3⟩ := turn (ops := ops) (E := E) o had has (fun i c u hi hm => by
      obtain ⟨u', h1, h2⟩ := hHR i (exact1 c u) (by rw [hG]; simp [hi]) hm
      rw [h1, h2]) (noSel_spec hsel) (belowN_look hb)
    have hwb := wanted_gd (ops := ops) hb1 hg
    rw [hb3] at hwb
    refine ⟨fun hwant => ?_, fun hno => ?_⟩
    · have hcg : cg = true := by rw [← hwb]; exact hwant
      have := hv.run hcg b hb1 w hw
      have : YAt P o a (fun w => C0 w ∨ C1 w) w v := by unfold YAt at *; rw [hb2] at this; exact this
      exact this.wp hw fun w' hw' hx => ⟨v, rfl, (fun h => by rw [ho] at h; cases h), by simp [exact1, hcg], ⟨fun h => hX0 _ _ h hx, fun h => hX1 _ _ h hx⟩, hw'⟩
    · have hcg : cg = false := by rw [← hwb]; exact hno
      simp [exact1, hcg]
  · unfold putG putQ
    rw [ho]
    refine h.run _ ?_
    intro s
    simp only [lookR, look]
    by_cases e : d = s
    · subst e; simp
    · rw [beq_no e, cond_false, cond_false]; exact hG s⟩
/-- the pivot is a call that leads from one class to the other -/
theorem wpv_call {C0 C1 : World → Prop} {f : FuncId} {ls : List Operand} {ats : Array TypeId} {vs : List (Bool × Value)} {args : Array Value} {d : Nat} {v : Value} {ty : TypeId} {pos : String} {af : Array Edge} {g : Option (Nat × Bool)} {tail : List Oper}
    (hg : gd ops E g = some true) (hf : ∀ args w, (callFunc f args).run P w = .ok (.enter f args) w) (hl : evg true E ls = some vs) (hp : vs.all (·.1) = true) (hargs : vs.map (·.2) = args.toList) (hd : Nat.blt d n = true) (hb : belowN n E = true)
    (hc : ∀ w, C0 w → Calls P f args w (fun e w' => e = .returned v ∧ C1 w'))
    (h : WL P ops tail n ((d, true, v) :: E) C1 k) : WPv P ops [] n E C0 C1 ⟨some d, .call ⟨.value (.func f), ls.toArray, ats⟩, ty, pos, af, g⟩ tail k := ⟨fun G hG => by
  have hd : d < n := by simpa [Nat.blt_eq] using hd
  refine ⟨exact1 true v, (fun d' hd' => by cases hd'; exact hd), steadyX_exact _ _ _, ⟨fun a w hw had has hHR => ?_⟩, fun a w hw hA => ?_⟩
  · obtain ⟨b, hb1, hb2, hb3⟩ := turn (ops := ops) (E := E) (⟨some d, .call ⟨.value (.func f), ls.toArray, ats⟩, ty, pos, af, g⟩ : Oper) had has (fun i c u hi hm => by
      obtain ⟨u', h1, h2⟩ := hHR i (exact1 c u) (by rw [hG]; simp [hi]) hm
      rw [h1, h2]) (fun cs b h => by cases h) (belowN_look hb)
    have hwb := wanted_gd (ops := ops) (o := (⟨some d, .call ⟨.value (.func f), ls.toArray, ats⟩, ty, pos, af, g⟩ : Oper)) hb1 hg
    rw [hb3] at hwb
    refine ⟨hwb, ?_⟩
    unfold Oper.wp
    rw [← hb2, run_callf hf (args := args) (by rw [evg_eval hb1 hl (by simpa using hp), hargs]), Oper.upon_enter]
    refine (hc w hw).mono ?_
    rintro e w' ⟨rfl, hC⟩
    exact ⟨v, rfl, (fun h => by cases h), by simp [exact1], hC⟩
  · refine h.run a w ⟨hA.1, hA.2.1, fun i c u hi => ?_⟩ hw
    simp only [look] at hi
    by_cases e : d = i
    · subst e
      obtain ⟨u', h1, h2⟩ := hA.2.2 d (exact1 true v) (by simp [putG, lookR]) trivial
      simp at hi
      rw [h1, h2, hi.1, hi.2]
    · rw [beq_no e, cond_false] at hi
      obtain ⟨u', h1, h2⟩ := hA.2.2 i (exact1 c u) (by simp only [putG, lookR]; rw [beq_no e, cond_false, hG]; simp [hi]) trivial
      rw [h1, h2]⟩
end
end Go.Eng
/-
  The reader's element.
-/
namespace Go.Proofs.YtgfbieplidpebaaGreatDoor
open Go.Eng Go.Pct Go.Xml Go.Rsp
set_option maxRecDepth 10000
set_option linter.unusedSimpArgs false
set_option linter.unusedVariables false

variable {M : Ghost} {w0 w : World} {bs : List Nat} {H : List (Nat × Obj)}
/-- an element of as many as are left; how many are left then -/
def elemX (D : Nat) (s : List UInt8) (left : Int) : Option (Nd × List UInt8 × Int) := match elemP D s with
  | some (x, r) => if (cntN x : Int) ≤ left then some (x, r, left - cntN x) else none
  | none => none
theorem sp_at (c : UInt8) : ([32, 62] : List UInt8).contains c = isSp c := by revert c; apply all_bytes; decide +kernel
theorem cnt_pos (x : Nd) : 1 ≤ cntN x := by cases x; rw [cntN]; omega
theorem cntL_append (k l : List Nd) : cntL (k ++ l) = cntL k + cntL l := by
  induction k with
  | nil => simp [cntL]
  | cons x k ih => rw [List.cons_append, cntL, cntL, ih]; omega
/-- where a kid can't be, or is more than are left, the whole is none or more than are left -/
theorem kids_fail {e : List UInt8 → Option (Nd × List UInt8)} {F f : Nat} {s0 cur : List UInt8} {acc : List Nd} {left0 : Int} (inv : kidsP e F s0 = (kidsP e (f + 1) cur).map fun y => (acc ++ y.1, y.2)) (hp : [60, 47].isPrefixOf cur = false) (hx : ∀ x r, e cur = some (x, r) → left0 < cntL acc + cntN x) : ∀ k r5, kidsP e F s0 = some (k, r5) → left0 < cntL k := by
  intro k r5 h
  rw [inv, kidsP, if_neg (by rw [hp]; decide)] at h
  cases he : e cur with
  | none => rw [he] at h; cases h
  | some p =>
    obtain ⟨x, r⟩ := p
    rw [he] at h
    simp only at h
    cases hk : kidsP e f r with
    | none => rw [hk] at h; cases h
    | some q =>
      rw [hk] at h
      simp only [Option.map_some, Option.some.injEq, Prod.mk.injEq] at h
      have := hx x r he
      rw [← h.1, cntL_append, cntL]
      omega
theorem esc_long (u : List UInt8) : u.length ≤ (esc u).length := by
  have key : ∀ c : UInt8, 1 ≤ (esc1 c).length := by apply all_bytes; decide +kernel
  unfold esc
  induction u with
  | nil => simp
  | cons c u ih => rw [List.flatMap_cons, List.length_append, List.length_cons]; have := key c; omega
theorem attrT_small : ∀ {l : List Pr} {p : Pr}, p ∈ l → p.1.length + p.2.length ≤ (attrT l).length
  | q :: l, p, h => by
    unfold attrT
    rw [List.flatMap_cons, List.length_append]
    rcases List.mem_cons.1 h with rfl | h
    · have := esc_long p.2
      simp only [List.length_append, List.length_cons, List.length_nil]
      omega
    · have := attrT_small h
      unfold attrT at this
      omega
/-- as far as the kids have been read -/
structure KQ (D : Nat) (M1 : Ghost) (s0 : List UInt8) (left0 : Int) (w0 : World) where
  f : Nat
  cur : List UInt8
  acc : List Nd
  v : Value
  Hs : List (Nat × Obj)
  xs : List Value
  M' : Ghost
  fuel : cur.length < f
  len : acc.length + cur.length ≤ s0.length
  inv : kidsP (elemP D) (s0.length + 1) s0 = (kidsP (elemP D) f cur).map fun y => (acc ++ y.1, y.2)
  own : OwnS 55 4 v Hs xs
  xlen : xs.length = acc.length * 4
  nodes : ∀ i (hi : i < acc.length), NodeC M' D acc[i] ((xs.drop (i * 4)).take 4)
  left : (cntL acc : Int) ≤ left0
  since : Since w0 M1 M'
/-- what an element's reading yields -/
def ElemIs (D : Nat) (s : List UInt8) (left : Int) (M' : Ghost) (s' : List UInt8) (left' : Int) (v : Value) : Prop :=
  match elemX D s left with
  | some (x, r, l') => ∃ vs : List Value, v = .tuple #[.agg vs.toArray, .bool true] ∧ NodeC M' D x vs ∧ s' = r ∧ left' = l'
  | none => ∃ n a1 l1 c1 t a2 l2 c2, v = .tuple #[.agg #[str n, .slice a1 l1 c1, str t, .slice a2 l2 c2], .bool false]
theorem elemIs_no {D : Nat} {s s' : List UInt8} {left left' : Int} {M' : Ghost} {n : List UInt8} {a1 l1 c1 t a2 l2 c2} (h : elemX D s left = none) : ElemIs D s left M' s' left' (.tuple #[.agg #[str n, .slice a1 l1 c1, str t, .slice a2 l2 c2], .bool false]) := by
  unfold ElemIs; rw [h]; exact ⟨_, _, _, _, _, _, _, _, rfl⟩
set_option maxHeartbeats 4000000 in
theorem relem_ok : ∀ (D : Nat) (deep : Int), deep = 9 - (D : Int) → D ≤ 8 → ∀ (M : Ghost) (H : List (Nat × Obj)) (b : Nat) (s : List UInt8) (left : Int) (w0 w : World), Glob M → s.length ≤ 100000000 → 0 ≤ left → left ≤ 200 → St w0 [] ((b, readO s left) :: H) M w → Calls Tryz.prog 64 #[.pointer (some ⟨b, 0, none⟩), i64 deep] w (RetX w0 H M b (ElemIs D s left))
  | 0, deep, hD, hD8 => by
    intro M H b s left w0 w hG hs hl0 hl2 hw
    refine calls_lent (C := St w0 [] ((b, readO s left) :: H) M) (l := [.pointer (some ⟨b, 0, none⟩), i64 deep]) hw Tryz.func64 rfl rfl rfl (E0 := [(0, true, .pointer (some ⟨b, 0, none⟩)), (1, true, i64 deep)]) (params_cons rfl (params_cons rfl (params_nil _))) ?_
    clear hw
    unfold readO
    obtain rfl : deep = 9 := by omega
    repeat' (first | (first | refine sk ?_ | (refine gL ?_; first | refine wl_v rfl rfl rfl (by first | (show OpV _ _ _ _ (Oper.mk _ (Op.call _) _ _ _ _) _ _; exact ov_off (v := .bool false) rfl)) ?_ | refine xl_alloc (fun _ => ?_) | refine xl_box rfl (fun _ => ?_) | refine xl_store rfl rfl ?_ | refine xl_buildSlice rfl (fun _ => ?_) | refine wl_makeMap rfl rfl (fun _ => ?_) | refine wl_insert rfl rfl rfl rfl rfl rfl (by first | exact rfl | exact trivial) pU (by rfl) ?_) | fail) | (refine wc_cond rfl (fun hc => ?_) (fun hc => ?_) <;> (try (simp only [bls] at hc)) <;> (try (exfalso; first | omega | contradiction))))
    exact wrx_layC2 (Hn := []) (l := [str [], .slice none 0 0, str [], .slice none 0 0]) (s' := s) (left' := left - 1) rfl rfl rfl rfl (List.Mem.head _) rfl Since.refl (List.Sublist.cons _ (List.Sublist.refl _)) (elemIs_no rfl)
  | D + 1, deep, hD, hD8 => by
    intro M H b s left w0 w hG hs hl0 hl2 hw
    refine calls_lent (C := St w0 [] ((b, readO s left) :: H) M) (l := [.pointer (some ⟨b, 0, none⟩), i64 deep]) hw Tryz.func64 rfl rfl rfl (E0 := [(0, true, .pointer (some ⟨b, 0, none⟩)), (1, true, i64 deep)]) (params_cons rfl (params_cons rfl (params_nil _))) ?_
    clear hw
    unfold readO
    by_cases h0 : left - 1 < 0
    · have hn : elemX (D + 1) s left = none := by
        unfold elemX
        cases he : elemP (D + 1) s with
        | none => rfl
        | some p =>
          have := cnt_pos p.1
          show (if (cntN p.1 : Int) ≤ left then _ else none) = none
          rw [if_neg (by omega)]
      repeat' (first | (first | refine sk ?_ | (refine gL ?_; first | refine xl_alloc (fun _ => ?_) | refine xl_box rfl (fun _ => ?_) | refine xl_store rfl rfl ?_ | refine xl_buildSlice rfl (fun _ => ?_) | refine wl_makeMap rfl rfl (fun _ => ?_) | refine wl_insert rfl rfl rfl rfl rfl rfl (by first | exact rfl | exact trivial) pU (by rfl) ?_) | fail) | (refine wc_cond rfl (fun hc => ?_) (fun hc => ?_) <;> (try (simp only [bls] at hc)) <;> (try (exfalso; first | omega | contradiction))))
      rename_i b4
      refine wl_weak (E' := [(28, true, .bool true), (0, true, .pointer (some ⟨b, 0, none⟩)), (1, true, i64 deep), (4, true, .pointer (some ⟨b4, 0, none⟩))]) (Eng.Sub.cons (by show some (true, Value.bool (decide (8 < deep) || decide (left - 1 < 0))) = _; rw [decide_eq_true h0, Bool.or_true]) pE) (fun _ h => h) ?_
      repeat' (first | (first | refine sk ?_ | (refine gL ?_; first | refine wl_v rfl rfl rfl (by first | (show OpV _ _ _ _ (Oper.mk _ (Op.call _) _ _ _ _) _ _; exact ov_off (v := .bool false) rfl)) ?_ | refine xl_alloc (fun _ => ?_) | refine xl_box rfl (fun _ => ?_) | refine xl_store rfl rfl ?_ | refine xl_buildSlice rfl (fun _ => ?_) | refine wl_makeMap rfl rfl (fun _ => ?_) | refine wl_insert rfl rfl rfl rfl rfl rfl (by first | exact rfl | exact trivial) pU (by rfl) ?_) | fail) | (refine wc_cond rfl (fun hc => ?_) (fun hc => ?_) <;> (try (simp only [bls] at hc)) <;> (try (exfalso; first | omega | contradiction))))
      exact wrx_layC2 (Hn := []) (l := [str [], .slice none 0 0, str [], .slice none 0 0]) (s' := s) (left' := left - 1) rfl rfl rfl rfl (List.Mem.head _) rfl Since.refl (List.Sublist.cons _ (List.Sublist.refl _)) (elemIs_no hn)
    · repeat' (first | (first | refine sk ?_ | (refine gL ?_; first | refine xl_alloc (fun _ => ?_) | refine xl_box rfl (fun _ => ?_) | refine xl_store rfl rfl ?_ | refine xl_buildSlice rfl (fun _ => ?_) | refine wl_makeMap rfl rfl (fun _ => ?_) | refine wl_insert rfl rfl rfl rfl rfl rfl (by first | exact rfl | exact trivial) pU (by rfl) ?_) | fail) | (refine wc_cond rfl (fun hc => ?_) (fun hc => ?_) <;> (try (simp only [bls] at hc)) <;> (try (exfalso; first | omega | contradiction))))
      rename_i b4
      have h8 : ¬ 8 < deep := by omega
      refine wl_weak (E' := [(28, true, .bool false), (29, true, .pointer (some ⟨b, 0, none⟩)), (0, true, .pointer (some ⟨b, 0, none⟩)), (1, true, i64 deep), (4, true, .pointer (some ⟨b4, 0, none⟩))]) (C' := St w0 [] ((b, readO s (left - 1)) :: (b4, .cells [str [], .slice none 0 0, str [], .slice none 0 0].toArray 55 (0, 0)) :: H) M) (Eng.Sub.cons (by show some (true, Value.bool (decide (8 < deep) || decide (left - 1 < 0))) = _; rw [decide_eq_false h8, decide_eq_false h0]; rfl) (Eng.Sub.cons (by show some ((bif true then (decide (8 < deep) || decide (left - 1 < 0)) == false else false), Value.pointer (some ⟨b, 0, none⟩)) = _; rw [decide_eq_false h8, decide_eq_false h0]; rfl) pE)) (fun _ h => h.perm (List.Perm.swap _ _ _)) ?_
      rcases pre1 (d := 60) (s := s) with ⟨hp, r1, rfl⟩ | ⟨hp, hno⟩
      · refine wl_callL rfl Tryz.call75 rfl rfl rfl rfl (fun w hw => take_yes (x := [60]) (r := r1) rfl hw) ?_
        have hrl := rs_length isSp r1
        simp only [List.length_cons] at hs
        repeat' (first | (first | refine sk ?_ | (refine gL ?_; first | refine xl_alloc (fun _ => ?_) | refine xl_box rfl (fun _ => ?_) | refine xl_store rfl rfl ?_ | refine xl_buildSlice rfl (fun _ => ?_) | refine wl_makeMap rfl rfl (fun _ => ?_) | refine wl_insert rfl rfl rfl rfl rfl rfl (by first | exact rfl | exact trivial) pU (by rfl) ?_) | fail) | (refine wc_cond rfl (fun hc => ?_) (fun hc => ?_) <;> (try (simp only [bls] at hc)) <;> (try (exfalso; first | omega | contradiction))))
        refine wl_callL rfl Tryz.call76 rfl rfl rfl rfl (fun w hw => word_ok (s := r1) isSp sp_at (by omega) (by decide) (by decide) (by decide) hw) ?_
        repeat' (first | (first | refine sk ?_ | (refine gL ?_; first | refine xl_alloc (fun _ => ?_) | refine xl_box rfl (fun _ => ?_) | refine xl_store rfl rfl ?_ | refine xl_buildSlice rfl (fun _ => ?_) | refine wl_makeMap rfl rfl (fun _ => ?_) | refine wl_insert rfl rfl rfl rfl rfl rfl (by first | exact rfl | exact trivial) pU (by rfl) ?_) | fail) | (refine wc_cond rfl (fun hc => ?_) (fun hc => ?_) <;> (try (simp only [bls] at hc)) <;> (try (exfalso; first | omega | contradiction))))
        rename_i b6
        have hel : elemP (D + 1) (60 :: r1) = match headP (rs isSp r1) with
          | none => none
          | some (a, t, r4) => match kidsP (elemP D) (r4.length + 1) r4 with
            | none => none
            | some (k, r5) => if (closeT (wd isSp r1)).isPrefixOf r5 = true then some (.mk (wd isSp r1) a t k, r5.drop (closeT (wd isSp r1)).length) else none := rfl
        generalize wd isSp r1 = nm at *
        generalize rs isSp r1 = r2 at *
        refine wl_weak (C' := St w0 [] ((b, readO r2 (left - 1)) :: (b6, .cells [str nm, .slice none 0 0, str [], .slice none 0 0].toArray 55 (0, 0)) :: (b4, .cells [str [], .slice none 0 0, str [], .slice none 0 0].toArray 55 (0, 0)) :: H) M) (Eng.Sub.refl _) (fun _ h => h.perm (List.Perm.swap _ _ _)) ?_
        refine wl_callX rfl Tryz.call77 rfl rfl rfl rfl (fun w hw => rattrs_ok hG (by omega) hw) (fun v M1 s1 left1 hm1 hn1 hR => ?_)
        unfold AttrsIs at hR
        cases hat : attrsP (r2.length + 1) r2 with
        | none =>
          rw [hat] at hR
          simp only at hR
          subst hR
          have hn : elemX (D + 1) (60 :: r1) left = none := by
            unfold elemX; rw [hel]; unfold headP; rw [hat]
          repeat' (first | (first | refine sk ?_ | (refine gL ?_; first | refine wl_v rfl rfl rfl (by first | (show OpV _ _ _ _ (Oper.mk _ (Op.call _) _ _ _ _) _ _; exact ov_off (v := .bool false) rfl)) ?_ | refine xl_alloc (fun _ => ?_) | refine xl_box rfl (fun _ => ?_) | refine xl_store rfl rfl ?_ | refine xl_buildSlice rfl (fun _ => ?_) | refine wl_makeMap rfl rfl (fun _ => ?_) | refine wl_insert rfl rfl rfl rfl rfl rfl (by first | exact rfl | exact trivial) pU (by rfl) ?_) | fail) | (refine wc_cond rfl (fun hc => ?_) (fun hc => ?_) <;> (try (simp only [bls] at hc)) <;> (try (exfalso; first | omega | contradiction))))
          exact wrx_layC2 (Hn := []) (l := [str [], .slice none 0 0, str [], .slice none 0 0]) rfl rfl rfl rfl pM rfl (Since.refl.step hm1 hn1) (List.Sublist.cons_cons _ (List.Sublist.cons _ (List.Sublist.cons _ (List.Sublist.refl _)))) (elemIs_no hn)
        | some lr =>
          obtain ⟨l, r3⟩ := lr
          rw [hat] at hR
          simp only at hR
          obtain ⟨hv, rfl, hsl, e1, e2⟩ := hR
          subst e1 e2
          have hal := attrsP_len hat
          have hs2 : r2.length ≤ 100000000 := by omega
          have hsl' := hsl
          obtain ⟨va, vcap, vb, vo, vcs, vT, vfz, rfl, _⟩ := hsl'.open
          have hM1 : Since w0 M M1 := Since.refl.step hm1 hn1
          have hG1 : Glob M1 := hG.mono hm1
          have failH : headP r2 = none → elemX (D + 1) (60 :: r1) left = none := fun h => by unfold elemX; rw [hel, h]
          have hsub : ∀ {x y z : Nat × Obj}, List.Sublist (([] : List (Nat × Obj)) ++ (x :: H)) (x :: y :: z :: H) := List.Sublist.cons_cons _ (List.Sublist.cons _ (List.Sublist.cons _ (List.Sublist.refl _)))
          repeat' (first | (first | refine sk ?_ | (refine gL ?_; first | refine xl_alloc (fun _ => ?_) | refine xl_box rfl (fun _ => ?_) | refine xl_store rfl rfl ?_ | refine xl_buildSlice rfl (fun _ => ?_) | refine wl_makeMap rfl rfl (fun _ => ?_) | refine wl_insert rfl rfl rfl rfl rfl rfl (by first | exact rfl | exact trivial) pU (by rfl) ?_) | fail) | (refine wc_cond rfl (fun hc => ?_) (fun hc => ?_) <;> (try (simp only [bls] at hc)) <;> (try (exfalso; first | omega | contradiction))))
          rcases pre1 (d := 62) (s := s1) with ⟨hp3, r3, rfl⟩ | ⟨hp3, hno3⟩
          · refine wl_callL rfl Tryz.call75 rfl rfl rfl rfl (fun w hw => take_yes (x := [62]) (r := r3) rfl hw) ?_
            have hr3 := rs_length (isC 60) r3
            simp only [List.length_cons] at hal
            repeat' (first | (first | refine sk ?_ | (refine gL ?_; first | refine xl_alloc (fun _ => ?_) | refine xl_box rfl (fun _ => ?_) | refine xl_store rfl rfl ?_ | refine xl_buildSlice rfl (fun _ => ?_) | refine wl_makeMap rfl rfl (fun _ => ?_) | refine wl_insert rfl rfl rfl rfl rfl rfl (by first | exact rfl | exact trivial) pU (by rfl) ?_) | fail) | (refine wc_cond rfl (fun hc => ?_) (fun hc => ?_) <;> (try (simp only [bls] at hc)) <;> (try (exfalso; first | omega | contradiction))))
            refine wl_callL rfl Tryz.call76 rfl rfl rfl rfl (fun w hw => word_ok (s := r3) (isC 60) (isC_at 60) (by omega) (by decide) (by decide) (by decide) hw) ?_
            have hun := fun {w : World} (hw : Laid M1 w) => unescape_ok hG1 hw (wd (isC 60) r3) (by omega)
            cases hu : unescQ (wd (isC 60) r3) with
            | none =>
              have hn := failH (by unfold headP; rw [hat]; simp only [hu])
              have hun : ∀ {w : World}, Laid M1 w → Calls Tryz.prog 78 #[str (wd (isC 60) r3)] w (RetE w (.tuple #[str [], i64 10])) := fun h => by have := hun h; rw [hu] at this; exact this
              repeat' (first | (first | refine sk ?_ | (refine gL ?_; first | refine wl_v rfl rfl rfl (by first | (exact oc 78 Tryz.call78 (h := fun hcg w hw => hun hw.laid))) ?_ | refine xl_alloc (fun _ => ?_) | refine xl_box rfl (fun _ => ?_) | refine xl_store rfl rfl ?_ | refine xl_buildSlice rfl (fun _ => ?_) | refine wl_makeMap rfl rfl (fun _ => ?_) | refine wl_insert rfl rfl rfl rfl rfl rfl (by first | exact rfl | exact trivial) pU (by rfl) ?_) | fail) | (refine wc_cond rfl (fun hc => ?_) (fun hc => ?_) <;> (try (simp only [bls] at hc)) <;> (try (exfalso; first | omega | contradiction))))
              exact wrx_layC2 (Hn := []) (l := [str [], .slice none 0 0, str [], .slice none 0 0]) rfl rfl rfl rfl pM rfl hM1 hsub (elemIs_no hn)
            | some tx =>
              have hun : ∀ {w : World}, Laid M1 w → Calls Tryz.prog 78 #[str (wd (isC 60) r3)] w (RetE w (.tuple #[str tx, i64 0])) := fun h => by have := hun h; rw [hu] at this; exact this
              have htx := unescQ_len hu
              have hhd : headP r2 = some (l, tx, rs (isC 60) r3) := by unfold headP; rw [hat]; simp only [hu]
              rw [hhd] at hel
              simp only at hel
              repeat' (first | (first | refine sk ?_ | (refine gL ?_; first | refine wl_v rfl rfl rfl (by first | (exact oc 78 Tryz.call78 (h := fun hcg w hw => hun hw.laid))) ?_ | refine xl_alloc (fun _ => ?_) | refine xl_box rfl (fun _ => ?_) | refine xl_store rfl rfl ?_ | refine xl_buildSlice rfl (fun _ => ?_) | refine wl_makeMap rfl rfl (fun _ => ?_) | refine wl_insert rfl rfl rfl rfl rfl rfl (by first | exact rfl | exact trivial) pU (by rfl) ?_) | fail) | (refine wc_cond rfl (fun hc => ?_) (fun hc => ?_) <;> (try (simp only [bls] at hc)) <;> (try (exfalso; first | omega | contradiction))))
              have hs0l : (rs (isC 60) r3).length ≤ 100000000 := by omega
              generalize rs (isC 60) r3 = s0 at *
              refine wc_loop (α := KQ D M1 s0 (left - 1) w0) (fun x => [(0, true, .pointer (some ⟨b, 0, none⟩)), (1, true, i64 deep), (4, true, .pointer (some ⟨b4, 0, none⟩)), (6, true, .pointer (some ⟨b6, 0, none⟩))]) (fun x => St w0 [] ((b, .cells [str x.cur, i64 (left - 1 - (cntL x.acc : Int))].toArray 89 (0, 0)) :: (b6, .cells [str nm, .slice va l.length vcap, str tx, x.v].toArray 55 (0, 0)) :: (b4, .cells [str [], .slice none 0 0, str [], .slice none 0 0].toArray 55 (0, 0)) :: (x.Hs ++ H)) x.M') (fun x => x.f) ⟨s0.length + 1, s0, [], .slice none 0 0, [], [], M1, by omega, by simp, by simp, OwnS.nil, rfl, fun i hi => absurd hi (by simp), by simp [cntL]; omega, Since.refl⟩ pE (fun _ h => by
                show St w0 [] ((b, .cells [str s0, i64 (left - 1 - ((cntL [] : Nat) : Int))].toArray 89 (0, 0)) :: _) M1 _
                rw [show left - 1 - ((cntL [] : Nat) : Int) = left - 1 by simp [cntL]]
                exact h) ?_
              rintro ⟨f, cur, acc, v, Hs, xs, M2, fuel, len, inv, own, xlen, nodes, hleft, since⟩
              dsimp only
              obtain ⟨va2, vcap2, rfl⟩ := own.slice (k := acc.length) (by decide) xlen
              have hpx := fun {w : World} (hw : Laid M2 w) => prefix_ok hw cur [60, 47]
              match f, fuel, inv with
              | 0, fuel, _ => exfalso; omega
              | f + 1, fuel, inv =>
              rcases pre2 (d := 60) (e := 47) (s := cur) with ⟨hp, rr, hcur⟩ | ⟨hp, hno⟩
              · rw [hp] at hpx
                have hk : kidsP (elemP D) (s0.length + 1) s0 = some (acc, cur) := by
                  rw [inv, kidsP, if_pos (by unfold Lib.hasPrefix at hp; exact hp)]; simp
                rw [hk] at hel
                simp only at hel
                repeat' (first | (first | refine sk ?_ | (refine gL ?_; first | refine wl_v rfl rfl rfl (by first | (exact oc 79 Tryz.call79 (h := fun hcg w hw => hpx hw.laid))) ?_ | refine xl_alloc (fun _ => ?_) | refine xl_box rfl (fun _ => ?_) | refine xl_store rfl rfl ?_ | refine xl_buildSlice rfl (fun _ => ?_) | refine wl_makeMap rfl rfl (fun _ => ?_) | refine wl_insert rfl rfl rfl rfl rfl rfl (by first | exact rfl | exact trivial) pU (by rfl) ?_) | fail) | (refine wc_cond rfl (fun hc => ?_) (fun hc => ?_) <;> (try (simp only [bls] at hc)) <;> (try (exfalso; first | omega | contradiction))))
                have htk := fun {w : World} {H : List (Nat × Obj)} (hw : St w0 [] ((b, readO cur (left - 1 - (cntL acc : Int))) :: H) M2 w) => take_ok (x := [60, 47] ++ nm ++ [62]) hw
                have helX : elemX (D + 1) (60 :: r1) left = if Lib.hasPrefix cur ([60, 47] ++ nm ++ [62]) = true then some (.mk nm l tx acc, cutP cur ([60, 47] ++ nm ++ [62]), left - 1 - (cntL acc : Int)) else none := by
                  unfold elemX
                  rw [hel]
                  show (match (if Lib.hasPrefix cur (closeT nm) = true then some (Nd.mk nm l tx acc, cur.drop (closeT nm).length) else none) with | some (x, r) => if (cntN x : Int) ≤ left then some (x, r, left - cntN x) else none | none => none) = _
                  by_cases hcl : Lib.hasPrefix cur (closeT nm) = true
                  · have hcl' : Lib.hasPrefix cur ([60, 47] ++ nm ++ [62]) = true := hcl
                    unfold cutP
                    rw [if_pos hcl, if_pos hcl', if_pos hcl']
                    show (if (cntN (Nd.mk nm l tx acc) : Int) ≤ left then some (Nd.mk nm l tx acc, cur.drop (closeT nm).length, left - (cntN (Nd.mk nm l tx acc) : Int)) else none) = _
                    have hc1 : cntN (Nd.mk nm l tx acc) = 1 + cntL acc := by rw [cntN]
                    rw [if_pos (by rw [hc1]; omega), hc1]
                    have : left - ((1 + cntL acc : Nat) : Int) = left - 1 - (cntL acc : Int) := by omega
                    rw [this]; rfl
                  · have hcl' : ¬ Lib.hasPrefix cur ([60, 47] ++ nm ++ [62]) = true := hcl
                    rw [if_neg hcl, if_neg hcl']
                generalize cutP cur ([60, 47] ++ nm ++ [62]) = cur' at *
                generalize Lib.hasPrefix cur ([60, 47] ++ nm ++ [62]) = q at *
                refine wc_drawP 6 (St w0 [] ((b, readO cur (left - 1 - (cntL acc : Int))) :: (b6, .cells [str nm, .slice va l.length vcap, str tx, .slice va2 acc.length vcap2].toArray 55 (0, 0)) :: (b4, .cells [str [], .slice none 0 0, str [], .slice none 0 0].toArray 55 (0, 0)) :: (Hs ++ H)) M2) (St w0 [] ((b, readO cur' (left - 1 - (cntL acc : Int))) :: (b6, .cells [str nm, .slice va l.length vcap, str tx, .slice va2 acc.length vcap2].toArray 55 (0, 0)) :: (b4, .cells [str [], .slice none 0 0, str [], .slice none 0 0].toArray 55 (0, 0)) :: (Hs ++ H)) M2) (by kernel_rfl) rfl (by kernel_rfl) (fun w' h => h.ext (Ext.drew w' 1)) ?_
                iterate 6 refine wpv_v (fun _ _ h hx => h.ext hx) (fun _ _ h hx => h.ext hx) rfl rfl rfl rfl rfl (by first | (show OpV _ _ _ _ (Oper.mk _ (Op.move _) _ _ _ _) _ _; exact xo_move rfl) | (show OpV _ _ _ _ (Oper.mk _ (Op.assign _) _ _ _ _) _ _; exact xo_assign rfl) | (show OpV _ _ _ _ (Oper.mk _ (Op.pick _ _ _) _ _ _ _) _ _; first | exact xo_and rfl rfl | exact xo_or rfl rfl) | (show OpV _ _ _ _ (Oper.mk _ (Op.extract _ _) _ _ _ _) _ _; exact xo_extract rfl) | (show OpV _ _ _ _ (Oper.mk _ (Op.call ⟨.builtin .len, _, _⟩) _ _ _ _) _ _; first | exact xo_slen rfl | exact xo_len rfl) | (show OpV _ _ _ _ (Oper.mk _ (Op.unOp _ _ _) _ _ _ _) _ _; exact xo_not rfl) | (show OpV _ _ _ _ (Oper.mk _ (Op.binOp BinOp.eql _ _ _ _) _ _ _ _) _ _; first | exact xo_eql rfl rfl | exact xo_seql rfl rfl | exact xo_beql rfl rfl | exact xo_aeql rfl rfl) | (show OpV _ _ _ _ (Oper.mk _ (Op.binOp BinOp.neq _ _ _ _) _ _ _ _) _ _; first | exact xo_neq rfl rfl | exact xo_sneq rfl rfl | exact xo_bneq rfl rfl | exact xo_aneq rfl rfl) | (show OpV _ _ _ _ (Oper.mk _ (Op.binOp BinOp.lss _ _ _ _) _ _ _ _) _ _; exact xo_lss rfl rfl) | (show OpV _ _ _ _ (Oper.mk _ (Op.binOp BinOp.leq _ _ _ _) _ _ _ _) _ _; exact xo_leq rfl rfl) | (show OpV _ _ _ _ (Oper.mk _ (Op.binOp BinOp.gtr _ _ _ _) _ _ _ _) _ _; exact xo_gtr rfl rfl) | (show OpV _ _ _ _ (Oper.mk _ (Op.binOp BinOp.geq _ _ _ _) _ _ _ _) _ _; exact xo_geq rfl rfl) | (show OpV _ _ _ _ (Oper.mk _ (Op.binOp BinOp.add _ _ _ _) _ _ _ _) _ _; first | exact xo_add rfl rfl | exact ov_sadd rfl rfl pI pI (by intro hcg; first | omega | (simp only [List.length_append, List.length_take, List.length_drop, List.length_cons, List.length_nil, List.length_nil]; omega))) | (show OpV _ _ _ _ (Oper.mk _ (Op.binOp BinOp.sub _ _ _ _) _ _ _ _) _ _; exact xo_sub rfl rfl) | (show OpV _ _ _ _ (Oper.mk _ (Op.binOp BinOp.mul _ _ _ _) _ _ _ _) _ _; exact xo_mul rfl rfl) | (show OpV _ _ _ _ (Oper.mk _ (Op.binOp BinOp.quo _ _ _ _) _ _ _ _) _ _; exact xo_quo rfl rfl) | (show OpV _ _ _ _ (Oper.mk _ (Op.binOp BinOp.rem _ _ _ _) _ _ _ _) _ _; exact xo_rem rfl rfl) | (show OpV _ _ _ _ (Oper.mk _ (Op.index _ _ _) _ _ _ _) _ _; exact xo_sindex rfl rfl) | (show OpV _ _ _ _ (Oper.mk _ (Op.slice _ _ (some _) (some _) none) _ _ _ _) _ _; first | exact xo_slice rfl rfl rfl | exact xo_slcB rfl rfl rfl) | (show OpV _ _ _ _ (Oper.mk _ (Op.slice _ _ (some _) none none) _ _ _ _) _ _; first | exact xo_from rfl rfl | exact xo_slcFrom rfl rfl) | (show OpV _ _ _ _ (Oper.mk _ (Op.slice _ _ none (some _) none) _ _ _ _) _ _; first | exact xo_to rfl rfl | exact xo_slcTo rfl rfl) | (show OpV _ _ _ _ (Oper.mk _ (Op.slice _ _ none (some _) (some _)) _ _ _ _) _ _; exact xo_slc3 rfl rfl rfl) | (show OpV _ _ _ _ (Oper.mk _ (Op.convert _ _ _) _ _ _ _) _ _; first | exact xo_conv rfl | exact xo_convBytes rfl) | (show OpV _ _ _ _ (Oper.mk _ (Op.fieldAddr _ _ _) _ _ _ _) _ _; exact xo_fieldAddr rfl) | (show OpV _ _ _ _ (Oper.mk _ (Op.load _ _) _ _ _ _) _ _; first | exact xo_load1 rfl | exact xo_loadS rfl) | (show OpV _ _ _ _ (Oper.mk _ (Op.field _ _ _) _ _ _ _) _ _; exact xo_field rfl) | (show OpV _ _ _ _ (Oper.mk _ (Op.build _ _) _ _ _ _) _ _; exact xo_build rfl) | (show OpV _ _ _ _ (Oper.mk _ (Op.makeFunc _ _ _) _ _ _ _) _ _; exact ov_makeFunc rfl rfl) | (show OpV _ _ _ _ (Oper.mk _ (Op.nilCheck _) _ _ _ _) _ _; exact xo_nilCheck rfl)) (by first | (show OpV _ _ _ _ (Oper.mk _ (Op.move _) _ _ _ _) _ _; exact xo_move rfl) | (show OpV _ _ _ _ (Oper.mk _ (Op.assign _) _ _ _ _) _ _; exact xo_assign rfl) | (show OpV _ _ _ _ (Oper.mk _ (Op.pick _ _ _) _ _ _ _) _ _; first | exact xo_and rfl rfl | exact xo_or rfl rfl) | (show OpV _ _ _ _ (Oper.mk _ (Op.extract _ _) _ _ _ _) _ _; exact xo_extract rfl) | (show OpV _ _ _ _ (Oper.mk _ (Op.call ⟨.builtin .len, _, _⟩) _ _ _ _) _ _; first | exact xo_slen rfl | exact xo_len rfl) | (show OpV _ _ _ _ (Oper.mk _ (Op.unOp _ _ _) _ _ _ _) _ _; exact xo_not rfl) | (show OpV _ _ _ _ (Oper.mk _ (Op.binOp BinOp.eql _ _ _ _) _ _ _ _) _ _; first | exact xo_eql rfl rfl | exact xo_seql rfl rfl | exact xo_beql rfl rfl | exact xo_aeql rfl rfl) | (show OpV _ _ _ _ (Oper.mk _ (Op.binOp BinOp.neq _ _ _ _) _ _ _ _) _ _; first | exact xo_neq rfl rfl | exact xo_sneq rfl rfl | exact xo_bneq rfl rfl | exact xo_aneq rfl rfl) | (show OpV _ _ _ _ (Oper.mk _ (Op.binOp BinOp.lss _ _ _ _) _ _ _ _) _ _; exact xo_lss rfl rfl) | (show OpV _ _ _ _ (Oper.mk _ (Op.binOp BinOp.leq _ _ _ _) _ _ _ _) _ _; exact xo_leq rfl rfl) | (show OpV _ _ _ _ (Oper.mk _ (Op.binOp BinOp.gtr _ _ _ _) _ _ _ _) _ _; exact xo_gtr rfl rfl) | (show OpV _ _ _ _ (Oper.mk _ (Op.binOp BinOp.geq _ _ _ _) _ _ _ _) _ _; exact xo_geq rfl rfl) | (show OpV _ _ _ _ (Oper.mk _ (Op.binOp BinOp.add _ _ _ _) _ _ _ _) _ _; first | exact xo_add rfl rfl | exact ov_sadd rfl rfl pI pI (by intro hcg; first | omega | (simp only [List.length_append, List.length_take, List.length_drop, List.length_cons, List.length_nil, List.length_nil]; omega))) | (show OpV _ _ _ _ (Oper.mk _ (Op.binOp BinOp.sub _ _ _ _) _ _ _ _) _ _; exact xo_sub rfl rfl) | (show OpV _ _ _ _ (Oper.mk _ (Op.binOp BinOp.mul _ _ _ _) _ _ _ _) _ _; exact xo_mul rfl rfl) | (show OpV _ _ _ _ (Oper.mk _ (Op.binOp BinOp.quo _ _ _ _) _ _ _ _) _ _; exact xo_quo rfl rfl) | (show OpV _ _ _ _ (Oper.mk _ (Op.binOp BinOp.rem _ _ _ _) _ _ _ _) _ _; exact xo_rem rfl rfl) | (show OpV _ _ _ _ (Oper.mk _ (Op.index _ _ _) _ _ _ _) _ _; exact xo_sindex rfl rfl) | (show OpV _ _ _ _ (Oper.mk _ (Op.slice _ _ (some _) (some _) none) _ _ _ _) _ _; first | exact xo_slice rfl rfl rfl | exact xo_slcB rfl rfl rfl) | (show OpV _ _ _ _ (Oper.mk _ (Op.slice _ _ (some _) none none) _ _ _ _) _ _; first | exact xo_from rfl rfl | exact xo_slcFrom rfl rfl) | (show OpV _ _ _ _ (Oper.mk _ (Op.slice _ _ none (some _) none) _ _ _ _) _ _; first | exact xo_to rfl rfl | exact xo_slcTo rfl rfl) | (show OpV _ _ _ _ (Oper.mk _ (Op.slice _ _ none (some _) (some _)) _ _ _ _) _ _; exact xo_slc3 rfl rfl rfl) | (show OpV _ _ _ _ (Oper.mk _ (Op.convert _ _ _) _ _ _ _) _ _; first | exact xo_conv rfl | exact xo_convBytes rfl) | (show OpV _ _ _ _ (Oper.mk _ (Op.fieldAddr _ _ _) _ _ _ _) _ _; exact xo_fieldAddr rfl) | (show OpV _ _ _ _ (Oper.mk _ (Op.load _ _) _ _ _ _) _ _; first | exact xo_load1 rfl | exact xo_loadS rfl) | (show OpV _ _ _ _ (Oper.mk _ (Op.field _ _ _) _ _ _ _) _ _; exact xo_field rfl) | (show OpV _ _ _ _ (Oper.mk _ (Op.build _ _) _ _ _ _) _ _; exact xo_build rfl) | (show OpV _ _ _ _ (Oper.mk _ (Op.makeFunc _ _ _) _ _ _ _) _ _; exact ov_makeFunc rfl rfl) | (show OpV _ _ _ _ (Oper.mk _ (Op.nilCheck _) _ _ _ _) _ _; exact xo_nilCheck rfl)) ?_
                refine wpv_call rfl Tryz.call75 rfl rfl rfl rfl rfl (fun w hw => htk hw) ?_
                repeat' (first | (first | refine sk ?_ | (refine gL ?_; first | refine xl_alloc (fun _ => ?_) | refine xl_box rfl (fun _ => ?_) | refine xl_store rfl rfl ?_ | refine xl_buildSlice rfl (fun _ => ?_) | refine wl_makeMap rfl rfl (fun _ => ?_) | refine wl_insert rfl rfl rfl rfl rfl rfl (by first | exact rfl | exact trivial) pU (by rfl) ?_) | fail) | (refine wc_cond rfl (fun hc => ?_) (fun hc => ?_) <;> (try (simp only [bls] at hc)) <;> (try (exfalso; first | omega | contradiction))))
                refine wr_weak (fun w' h => h.perm (H' := (b6, .cells [str nm, .slice va l.length vcap, str tx, .slice va2 acc.length vcap2].toArray 55 (0, 0)) :: (b4, .cells [str nm, .slice va l.length vcap, str tx, .slice va2 acc.length vcap2].toArray 55 (0, 0)) :: (Hs ++ ((b, readO cur' (left - 1 - (cntL acc : Int))) :: H))) (((List.perm_middle.cons _).cons _).trans (((List.Perm.swap _ _ _).cons _).trans (List.Perm.swap _ _ _)))) ?_
                refine wrx_layC2 (Hn := Hs) (l := [str nm, .slice va l.length vcap, str tx, .slice va2 acc.length vcap2]) (s' := cur') (left' := left - 1 - (cntL acc : Int)) rfl rfl rfl rfl (List.Mem.tail _ (List.Mem.head _)) rfl (hM1.step since.1 since.2) (List.Sublist.cons _ (List.Sublist.cons _ (List.Sublist.refl _))) ?_
                · unfold ElemIs
                  rw [helX]
                  cases q with
                  | false => exact ⟨_, _, _, _, _, _, _, _, rfl⟩
                  | true =>
                    rw [if_pos rfl]
                    refine ⟨_, rfl, ⟨_, _, rfl, Sl.mono hsl (fun _ _ h => .inl (since.1 _ _ h)) (fun _ _ _ h => h), own.sl (by decide) (fun p hp => .inr hp) xlen (by omega) (fun i hi => NodeC.mono (fun _ _ => .inl) (nodes i hi)), by omega, by omega, ?_⟩, rfl, rfl⟩
                    intro p hp
                    have := attrT_small hp
                    rw [attrsP_text hat] at hs2
                    simp only [List.length_append] at hs2
                    omega
              · rw [hp] at hpx
                have ih := fun (H : List (Nat × Obj)) (w : World) (hw : St w0 [] ((b, readO cur (left - 1 - (cntL acc : Int))) :: H) M2 w) => relem_ok D (deep + 1) (by omega) (by omega) M2 H b cur (left - 1 - (cntL acc : Int)) w0 w (hG1.mono since.1) (by omega) (by omega) (by omega) hw
                repeat' (first | (first | refine sk ?_ | (refine gL ?_; first | refine wl_v rfl rfl rfl (by first | (exact oc 79 Tryz.call79 (h := fun hcg w hw => hpx hw.laid))) ?_ | refine xl_alloc (fun _ => ?_) | refine xl_box rfl (fun _ => ?_) | refine xl_store rfl rfl ?_ | refine xl_buildSlice rfl (fun _ => ?_) | refine wl_makeMap rfl rfl (fun _ => ?_) | refine wl_insert rfl rfl rfl rfl rfl rfl (by first | exact rfl | exact trivial) pU (by rfl) ?_) | fail) | (refine wc_cond rfl (fun hc => ?_) (fun hc => ?_) <;> (try (simp only [bls] at hc)) <;> (try (exfalso; first | omega | contradiction))))
                refine wl_callX rfl Tryz.call64 rfl rfl rfl rfl (fun w hw => ih _ w hw) (fun v M3 s3 left3 hm3 hn3 hR => ?_)
                have hpf : [60, 47].isPrefixOf cur = false := by unfold Lib.hasPrefix at hp; exact hp
                have hM3 : Since w0 M M3 := (hM1.step since.1 since.2).step hm3 hn3
                unfold ElemIs at hR
                cases hx : elemX D cur (left - 1 - (cntL acc : Int)) with
                | none =>
                  rw [hx] at hR
                  simp only at hR
                  obtain ⟨n', a1, l1, c1, t', a2, l2, c2, rfl⟩ := hR
                  have hn : elemX (D + 1) (60 :: r1) left = none := by
                    unfold elemX
                    rw [hel]
                    cases hk : kidsP (elemP D) (s0.length + 1) s0 with
                    | none => rfl
                    | some q =>
                      obtain ⟨k, r5⟩ := q
                      have hlt := kids_fail inv hpf (left0 := left - 1) (fun x r he => by
                        unfold elemX at hx
                        rw [he] at hx
                        simp only at hx
                        split at hx
                        · cases hx
                        · omega) k r5 hk
                      simp only
                      split
                      · rename_i x r e
                        split at e
                        · cases e
                          rw [if_neg (by simp only [cntN]; omega)]
                        · cases e
                      · rfl
                  repeat' (first | (first | refine sk ?_ | (refine gL ?_; first | refine xl_alloc (fun _ => ?_) | refine xl_box rfl (fun _ => ?_) | refine xl_store rfl rfl ?_ | refine xl_buildSlice rfl (fun _ => ?_) | refine wl_makeMap rfl rfl (fun _ => ?_) | refine wl_insert rfl rfl rfl rfl rfl rfl (by first | exact rfl | exact trivial) pU (by rfl) ?_) | fail) | (refine wc_cond rfl (fun hc => ?_) (fun hc => ?_) <;> (try (simp only [bls] at hc)) <;> (try (exfalso; first | omega | contradiction))))
                  exact wrx_layC2 (Hn := []) (l := [str [], .slice none 0 0, str [], .slice none 0 0]) rfl rfl rfl rfl pM rfl hM3 (List.Sublist.cons _ (List.Sublist.cons_cons _ (List.Sublist.cons _ (List.Sublist.cons _ (List.sublist_append_right Hs H))))) (elemIs_no hn)
                | some p =>
                  obtain ⟨x, r, l'⟩ := p
                  rw [hx] at hR
                  simp only at hR
                  obtain ⟨vs, rfl, hnode, rfl, rfl⟩ := hR
                  obtain ⟨un, ua1, ul1, uc1, ut, ua2, ul2, uc2, rfl⟩ := node_open hnode
                  repeat' (first | (first | refine sk ?_ | (refine gL ?_; first | refine xl_alloc (fun _ => ?_) | refine xl_box rfl (fun _ => ?_) | refine xl_store rfl rfl ?_ | refine xl_buildSlice rfl (fun _ => ?_) | refine wl_makeMap rfl rfl (fun _ => ?_) | refine wl_insert rfl rfl rfl rfl rfl rfl (by first | exact rfl | exact trivial) pU (by rfl) ?_) | fail) | (refine wc_cond rfl (fun hc => ?_) (fun hc => ?_) <;> (try (simp only [bls] at hc)) <;> (try (exfalso; first | omega | contradiction))))
                  rename_i b10 b80
                  have hx2 : elemP D cur = some (x, s3) ∧ (cntN x : Int) ≤ left - 1 - (cntL acc : Int) ∧ left3 = left - 1 - (cntL acc : Int) - (cntN x : Int) := by
                    unfold elemX at hx
                    cases he : elemP D cur with
                    | none => rw [he] at hx; cases hx
                    | some q =>
                      obtain ⟨y, u⟩ := q
                      rw [he] at hx
                      simp only at hx
                      split at hx
                      · cases hx; exact ⟨rfl, by assumption, rfl⟩
                      · cases hx
                  obtain ⟨hx2, hx3, rfl⟩ := hx2
                  refine wl_weak (C' := St w0 [] ((b80, .cells [str un, .slice ua1 ul1 uc1, str ut, .slice ua2 ul2 uc2].toArray 55 (0, 0)) :: (Hs ++ ((b10, .cells [str un, .slice ua1 ul1 uc1, str ut, .slice ua2 ul2 uc2].toArray 55 (0, 0)) :: (b, readO s3 (left - 1 - (cntL acc : Int) - (cntN x : Int))) :: (b6, .cells [str nm, .slice va l.length vcap, str tx, .slice va2 acc.length vcap2].toArray 55 (0, 0)) :: (b4, .cells [str [], .slice none 0 0, str [], .slice none 0 0].toArray 55 (0, 0)) :: H))) M3) (Eng.Sub.refl _) (fun w' h => h.perm (List.Perm.cons _ (List.perm_middle.trans (List.Perm.cons _ (List.perm_middle.trans (List.Perm.cons _ (List.perm_middle.trans (List.Perm.cons _ List.perm_middle)))))))) ?_
                  refine y_append (news := [str un, .slice ua1 ul1 uc1, str ut, .slice ua2 ul2 uc2]) (H0 := (b10, .cells [str un, .slice ua1 ul1 uc1, str ut, .slice ua2 ul2 uc2].toArray 55 (0, 0)) :: (b, readO s3 (left - 1 - (cntL acc : Int) - (cntN x : Int))) :: (b6, .cells [str nm, .slice va l.length vcap, str tx, .slice va2 acc.length vcap2].toArray 55 (0, 0)) :: (b4, .cells [str [], .slice none 0 0, str [], .slice none 0 0].toArray 55 (0, 0)) :: H) rfl own rfl rfl rfl rfl rfl rfl rfl rfl rfl rfl rfl rfl (by rw [xlen]; omega) rfl ?_
                  intro v' Hs' ho'
                  obtain ⟨va3, vcap3, rfl⟩ := ho'.slice (k := acc.length + 1) (by decide) (by simp; omega)
                  refine wl_weak (C' := St w0 [] ((b, readO s3 (left - 1 - (cntL acc : Int) - (cntN x : Int))) :: (b6, .cells [str nm, .slice va l.length vcap, str tx, .slice va2 acc.length vcap2].toArray 55 (0, 0)) :: (b4, .cells [str [], .slice none 0 0, str [], .slice none 0 0].toArray 55 (0, 0)) :: (Hs' ++ H)) M3) (Eng.Sub.refl _) (fun w' h => (h.drop (H' := Hs' ++ ((b, readO s3 (left - 1 - (cntL acc : Int) - (cntN x : Int))) :: (b6, .cells [str nm, .slice va l.length vcap, str tx, .slice va2 acc.length vcap2].toArray 55 (0, 0)) :: (b4, .cells [str [], .slice none 0 0, str [], .slice none 0 0].toArray 55 (0, 0)) :: H)) (List.Sublist.append (List.Sublist.refl _) (List.Sublist.cons _ (List.Sublist.refl _)))).perm ((List.perm_middle.trans (List.Perm.cons _ (List.perm_middle.trans (List.Perm.cons _ List.perm_middle)))).symm)) ?_
                  repeat' (first | (first | refine sk ?_ | (refine gL ?_; first | refine xl_alloc (fun _ => ?_) | refine xl_box rfl (fun _ => ?_) | refine xl_store rfl rfl ?_ | refine xl_buildSlice rfl (fun _ => ?_) | refine wl_makeMap rfl rfl (fun _ => ?_) | refine wl_insert rfl rfl rfl rfl rfl rfl (by first | exact rfl | exact trivial) pU (by rfl) ?_) | fail) | (refine wc_cond rfl (fun hc => ?_) (fun hc => ?_) <;> (try (simp only [bls] at hc)) <;> (try (exfalso; first | omega | contradiction))))
                  have hsl3 := elemP_len hx2
                  refine wn_cut ⟨f, s3, acc ++ [x], .slice va3 (acc.length + 1) vcap3, Hs', xs ++ [str un, .slice ua1 ul1 uc1, str ut, .slice ua2 ul2 uc2], M3, by omega, by rw [List.length_append]; simp only [List.length_cons, List.length_nil]; omega, ?_, ho', by simp only [List.length_append, List.length_cons, List.length_nil]; omega, ?_, by rw [cntL_append]; simp only [cntL]; omega, since.step hm3 hn3⟩ (by show f < f + 1; omega) pE (fun w' h => ?_)
                  · rw [inv, kidsP, if_neg (by rw [hpf]; decide), hx2]
                    show Option.map _ (Option.map _ (kidsP (elemP D) f s3)) = _
                    rw [Option.map_map]
                    congr 1
                    funext y
                    simp
                  · intro i hi
                    rw [List.length_append, List.length_cons, List.length_nil] at hi
                    rcases Nat.lt_or_ge i acc.length with hlt | hge
                    · rw [List.getElem_append_left hlt, List.drop_append_of_le_length (by omega), List.take_append_of_le_length (by rw [List.length_drop]; omega)]
                      exact NodeC.mono hm3 (nodes i hlt)
                    · obtain rfl : i = acc.length := by omega
                      rw [List.getElem_append_right (Nat.le_refl _), ← xlen, List.drop_left]
                      simpa using hnode
                  · dsimp only
                    rw [show left - 1 - ((cntL (acc ++ [x]) : Nat) : Int) = left - 1 - (cntL acc : Int) - (cntN x : Int) by rw [cntL_append]; simp only [cntL]; omega]
                    unfold readO at h
                    exact h
          · have hn := failH (by
              unfold headP; rw [hat]
              simp only)
            refine wl_callL rfl Tryz.call75 rfl rfl rfl rfl (fun w hw => take_no hp3 hw) ?_
            repeat' (first | (first | refine sk ?_ | (refine gL ?_; first | refine xl_alloc (fun _ => ?_) | refine xl_box rfl (fun _ => ?_) | refine xl_store rfl rfl ?_ | refine xl_buildSlice rfl (fun _ => ?_) | refine wl_makeMap rfl rfl (fun _ => ?_) | refine wl_insert rfl rfl rfl rfl rfl rfl (by first | exact rfl | exact trivial) pU (by rfl) ?_) | fail) | (refine wc_cond rfl (fun hc => ?_) (fun hc => ?_) <;> (try (simp only [bls] at hc)) <;> (try (exfalso; first | omega | contradiction))))
            exact wrx_layC2 (Hn := []) (l := [str [], .slice none 0 0, str [], .slice none 0 0]) rfl rfl rfl rfl pM rfl hM1 hsub (elemIs_no hn)
      · have hn : elemX (D + 1) s left = none := by
          have : elemP (D + 1) s = none := by
            unfold elemP
            split
            · rename_i q; exact absurd rfl (hno q)
            · rfl
          unfold elemX; rw [this]
        refine wl_callL rfl Tryz.call75 rfl rfl rfl rfl (fun w hw => take_no hp hw) ?_
        repeat' (first | (first | refine sk ?_ | (refine gL ?_; first | refine xl_alloc (fun _ => ?_) | refine xl_box rfl (fun _ => ?_) | refine xl_store rfl rfl ?_ | refine xl_buildSlice rfl (fun _ => ?_) | refine wl_makeMap rfl rfl (fun _ => ?_) | refine wl_insert rfl rfl rfl rfl rfl rfl (by first | exact rfl | exact trivial) pU (by rfl) ?_) | fail) | (refine wc_cond rfl (fun hc => ?_) (fun hc => ?_) <;> (try (simp only [bls] at hc)) <;> (try (exfalso; first | omega | contradiction))))
        refine wr_weak (fun w' h => h.perm (List.Perm.swap _ _ _)) ?_
        exact wrx_layC2 (Hn := []) (l := [str [], .slice none 0 0, str [], .slice none 0 0]) (s' := s) (left' := left - 1) rfl rfl rfl rfl (List.Mem.head _) rfl Since.refl (List.Sublist.cons _ (List.Sublist.refl _)) (elemIs_no hn)
end Go.Proofs.YtgfbieplidpebaaGreatDoor
/-
  The document's reading of an element: to, element.
-/
namespace Go.Proofs.YtgfbieplidpebaaGreatDoor
open Go.Eng Go.Pct Go.Xml Go.Rsp
set_option maxRecDepth 10000
set_option linter.unusedSimpArgs false
set_option linter.unusedVariables false

variable {M : Ghost} {w0 w : World} {bs : List Nat} {H : List (Nat × Obj)}
theorem wd_go0 {p : UInt8 → Bool} : ∀ (r : List UInt8) (i : Nat), i ≤ (wd p r).length → ((i < r.length ∧ p (r.getD i 0) = false) ↔ i < (wd p r).length)
  | [], i, h => by simp [wd]
  | c :: r, i, h => by
    unfold wd at *
    cases hc : p c
    · rw [List.takeWhile_cons, hc] at h ⊢
      simp only [Bool.not_false, if_true, List.length_cons] at h ⊢
      cases i with
      | zero => simp [hc]
      | succ i =>
        have := wd_go0 (p := p) r i (by unfold wd; omega)
        unfold wd at this
        simp only [List.getD_cons_succ]
        constructor
        · rintro ⟨a, b⟩; have := this.1 ⟨by omega, b⟩; omega
        · intro a; have := this.2 (by omega); exact ⟨by omega, this.2⟩
    · rw [List.takeWhile_cons, hc] at h ⊢
      simp only [Bool.not_true, Bool.false_eq_true, if_false, List.length_nil, List.length_cons] at h ⊢
      obtain rfl : i = 0 := by omega
      simp [hc]
theorem wd_go {p : UInt8 → Bool} {s : List UInt8} {i0 e : Nat} (h1 : i0 ≤ e) (h2 : e ≤ i0 + (wd p (s.drop i0)).length) : (e < s.length ∧ p (s.getD e 0) = false) ↔ e < i0 + (wd p (s.drop i0)).length := by
  have key := wd_go0 (p := p) (s.drop i0) (e - i0) (by omega)
  have hg : (s.drop i0).getD (e - i0) 0 = s.getD e 0 := by
    rw [List.getD_eq_getElem?_getD, List.getD_eq_getElem?_getD, List.getElem?_drop]
    congr 2; omega
  rw [hg, List.length_drop] at key
  constructor
  · rintro ⟨a, b⟩; have := key.1 ⟨by omega, b⟩; omega
  · intro a; have := key.2 (by omega); exact ⟨by omega, this.2⟩
theorem wd_take (p : UInt8 → Bool) (r : List UInt8) : r.take (wd p r).length = wd p r := by
  have := List.take_left (l₁ := wd p r) (l₂ := rs p r)
  rw [wd_rs] at this; exact this
theorem rs_drop (p : UInt8 → Bool) (r : List UInt8) : r.drop (wd p r).length = rs p r := by
  have := List.drop_left (l₁ := wd p r) (l₂ := rs p r)
  rw [wd_rs] at this; exact this
theorem rs_at (p : UInt8 → Bool) (s : List UInt8) (i : Nat) : s.drop (i + (wd p (s.drop i)).length) = rs p (s.drop i) := by
  rw [← List.drop_drop, rs_drop]
theorem rs_stop (p : UInt8 → Bool) : ∀ r : List UInt8, rs p r = [] ∨ ∃ c t, rs p r = c :: t ∧ p c = true
  | [] => .inl rfl
  | c :: r => by
    cases hc : p c
    · rcases rs_stop p r with h | h
      · left; unfold rs at *; rw [List.dropWhile_cons, hc]; simpa using h
      · right; unfold rs at *; rw [List.dropWhile_cons, hc]; simpa using h
    · right; exact ⟨c, r, by unfold rs; rw [List.dropWhile_cons, hc]; simp, hc⟩
theorem at_cons {s r : List UInt8} {i : Nat} {c : UInt8} : s.drop i = c :: r ↔ (i < s.length ∧ s.getD i 0 = c ∧ s.drop (i + 1) = r) := by
  constructor
  · intro h
    have hl : i < s.length := by
      rcases Nat.lt_or_ge i s.length with h' | h'
      · exact h'
      · rw [List.drop_eq_nil_of_le h'] at h; cases h
    rw [drop_getD hl] at h
    injection h with h1 h2
    exact ⟨hl, h1, h2⟩
  · rintro ⟨hl, rfl, rfl⟩; exact drop_getD hl
theorem isC_iff {c d : UInt8} : isC c d = false ↔ ¬ ((d.toNat : Int) = (c.toNat : Int)) := by
  rw [getD_cast]; unfold isC; simp
theorem isC_self {c d : UInt8} (h : isC c d = true) : d = c := by unfold isC at h; simpa using h
theorem isSp_iff {d : UInt8} : isSp d = false ↔ (¬ ((d.toNat : Int) = 32) ∧ ¬ ((d.toNat : Int) = 62)) := by
  revert d; apply all_bytes; decide +kernel
theorem b60 {d : UInt8} : ((d.toNat : Int) = 60) ↔ d = 60 := u8_eq d 60 (by decide)
theorem b62 {d : UInt8} : ((d.toNat : Int) = 62) ↔ d = 62 := u8_eq d 62 (by decide)
theorem b47 {d : UInt8} : ((d.toNat : Int) = 47) ↔ d = 47 := u8_eq d 47 (by decide)
theorem b34 {d : UInt8} : ((d.toNat : Int) = 34) ↔ d = 34 := u8_eq d 34 (by decide)
theorem b32 {d : UInt8} : ((d.toNat : Int) = 32) ↔ d = 32 := u8_eq d 32 (by decide)
theorem elemP_short : ∀ D : Nat, elemP D [60] = none
  | 0 => rfl
  | D + 1 => rfl
theorem elemP_head {D : Nat} {s : List UInt8} (h : ∀ r, s ≠ 60 :: r) : elemP D s = none := by
  match D with
  | 0 => rfl
  | D + 1 =>
    unfold elemP
    split
    · rename_i r; exact absurd rfl (h r)
    · rfl
theorem rto_ok (hM : Laid M w) (s : List UInt8) (i0 : Nat) (c : UInt8) (hs : s.length ≤ 100000000) (hi0 : i0 ≤ s.length) : Calls Tryz.prog 97 #[str s, i64 (i0 : Int), byt c] w (RetE w (i64 ((i0 + (wd (isC c) (s.drop i0)).length : Nat) : Int))) := by
  have hbd := rs_length (isC c) (s.drop i0)
  rw [List.length_drop] at hbd
  refine fn3 hM Tryz.func97 ?_
  repeat' (first | refine sk ?_ | (refine wc_cond rfl (fun hc => ?_) (fun hc => ?_) <;> (try (simp only [bls] at hc)) <;> (try (exfalso; first | omega | contradiction))))
  refine wc_loop (α := { e : Nat // i0 ≤ e ∧ e ≤ i0 + (wd (isC c) (s.drop i0)).length }) (fun x => [(0, true, str s), (1, true, i64 (x.1 : Int)), (2, true, byt c)]) (fun _ => St w [] [] M) (fun x => s.length - x.1) ⟨i0, by omega, by omega⟩ pE (fun _ h => h) ?_
  rintro ⟨e, h1, h2⟩
  dsimp only
  have hg := wd_go (p := isC c) (s := s) h1 h2
  rw [isC_iff] at hg
  repeat' (first | refine sk ?_ | (refine wc_cond rfl (fun hc => ?_) (fun hc => ?_) <;> (try (simp only [bls] at hc)) <;> (try (exfalso; first | omega | contradiction))))
  · refine wn_cut ⟨e + 1, by omega, by have := hg.1 ⟨by omega, hc.2⟩; omega⟩ (by show s.length - (e + 1) < s.length - e; omega) pE (fun _ h => h.drop pL)
  · have : e = i0 + (wd (isC c) (s.drop i0)).length := by
      rcases Nat.lt_or_ge e (i0 + (wd (isC c) (s.drop i0)).length) with h | h
      · exfalso
        have h3 := hg.2 h
        rcases hc with hc | hc
        · omega
        · exact h3.2 hc
      · omega
    exact wr_tmp rfl rfl (by rw [this])
end Go.Proofs.YtgfbieplidpebaaGreatDoor
/-
  The document's reading of an element: element.
-/
namespace Go.Proofs.YtgfbieplidpebaaGreatDoor
open Go.Eng Go.Pct Go.Xml Go.Rsp
set_option maxRecDepth 10000
set_option linter.unusedSimpArgs false
set_option linter.unusedVariables false

variable {M : Ghost} {w0 w : World} {bs : List Nat} {H : List (Nat × Obj)}
/-- what the document's reading of an element yields -/
def RelemIs (D : Nat) (s : List UInt8) (i0 : Nat) (M' : Ghost) (v : Value) : Prop :=
  match elemP D (s.drop i0) with
  | some (x, r) => ∃ (vs : List Value) (n : Nat), v = .tuple #[.agg vs.toArray, i64 (n : Int)] ∧ NodeC M' D x vs ∧ n ≤ s.length ∧ s.drop n = r
  | none => ∃ n a1 l1 c1 t a2 l2 c2, v = .tuple #[.agg #[str n, .slice a1 l1 c1, str t, .slice a2 l2 c2], i64 (-1)]
theorem relemIs_no {D : Nat} {s : List UInt8} {i0 : Nat} {M' : Ghost} {n : List UInt8} {a1 l1 c1 t a2 l2 c2} (h : elemP D (s.drop i0) = none) : RelemIs D s i0 M' (.tuple #[.agg #[str n, .slice a1 l1 c1, str t, .slice a2 l2 c2], i64 (-1)]) := by
  unfold RelemIs; rw [h]; exact ⟨_, _, _, _, _, _, _, _, rfl⟩
/-- as far as the attributes have been read -/
structure RA (s r2 : List UInt8) where
  f : Nat
  i : Nat
  acc : List Pr
  v : Value
  Hs : List (Nat × Obj)
  le : i ≤ s.length
  fuel : s.length - i ≤ f
  inv : attrsP (r2.length + 1) r2 = (attrsP (f + 1) (s.drop i)).map fun x => (acc ++ x.1, x.2)
  len : acc.length + (s.length - i) ≤ s.length
  own : OwnS 50 2 v Hs (cellsP acc)
/-- as far as the kids have been read -/
structure RK (D : Nat) (M1 : Ghost) (s r4 : List UInt8) (w0 : World) where
  f : Nat
  i : Nat
  acc : List Nd
  v : Value
  Hs : List (Nat × Obj)
  xs : List Value
  M' : Ghost
  le : i ≤ s.length
  fuel : s.length - i < f
  len : acc.length + (s.length - i) ≤ s.length
  inv : kidsP (elemP D) (r4.length + 1) r4 = (kidsP (elemP D) f (s.drop i)).map fun y => (acc ++ y.1, y.2)
  own : OwnS 55 4 v Hs xs
  xlen : xs.length = acc.length * 4
  nodes : ∀ j (hj : j < acc.length), NodeC M' D acc[j] ((xs.drop (j * 4)).take 4)
  since : Since w0 M1 M'
theorem take_prefix {s p : List UInt8} (h : p.length ≤ s.length) : s.take p.length = p ↔ p.isPrefixOf s = true := by
  rw [List.isPrefixOf_iff_prefix, List.prefix_iff_eq_take]
  exact ⟨fun h => h.symm, fun h => h.symm⟩
set_option maxHeartbeats 8000000 in
theorem refelem_ok : ∀ (D : Nat) (deep : Int), deep = 9 - (D : Int) → D ≤ 8 → ∀ (M : Ghost) (s : List UInt8) (i0 : Nat) (w : World), Laid M w → s.length ≤ 100000000 → i0 ≤ s.length → Calls Tryz.prog 82 #[str s, i64 (i0 : Int), i64 deep] w (RetS M w (fun M' H v => H = [] ∧ RelemIs D s i0 M' v))
  | 0, deep, hD, hD8 => by
    intro M s i0 w hM hs hi0
    refine fn3 hM Tryz.func82 ?_
    obtain rfl : deep = 9 := by omega
    repeat' (first | (first | refine sk ?_ | (refine gL ?_; first | refine wl_v rfl rfl rfl (by first | (show OpV _ _ _ _ (Oper.mk _ (Op.index _ _ _) _ _ _ _) _ _; exact ov_off (v := .int .u8 0) rfl)) ?_ | refine xl_alloc (fun _ => ?_) | refine xl_store rfl rfl ?_ | refine xl_buildSlice rfl (fun _ => ?_)) | fail) | (refine wc_cond rfl (fun hc => ?_) (fun hc => ?_) <;> (try (simp only [bls] at hc)) <;> (try (exfalso; first | omega | contradiction))))
    exact yr_layC2 (Hn := []) rfl rfl rfl rfl rfl Since.refl (List.nil_sublist _) ⟨rfl, relemIs_no rfl⟩
  | D + 1, deep, hD, hD8 => by
    intro M s i0 w hM hs hi0
    refine fn3 hM Tryz.func82 ?_
    repeat' (first | refine sk ?_ | (refine gL ?_; first | refine xl_alloc (fun _ => ?_) | refine xl_store rfl rfl ?_ | refine xl_buildSlice rfl (fun _ => ?_)) | fail)
    refine wc_cond rfl (fun hc => ?_) (fun hc => ?_)
    · (simp only [bls] at hc)
      have hn : elemP (D + 1) (s.drop i0) = none := elemP_head (fun r e => by
        obtain ⟨h1, h2, h3⟩ := at_cons.1 e
        rcases hc with (hc | hc) | hc
        · omega
        · omega
        · exact hc (b60.2 h2))
      repeat' (first | (first | refine sk ?_ | (refine gL ?_; first | refine xl_alloc (fun _ => ?_) | refine xl_store rfl rfl ?_ | refine xl_buildSlice rfl (fun _ => ?_)) | fail) | (refine wc_cond rfl (fun hc => ?_) (fun hc => ?_) <;> (try (simp only [bls] at hc)) <;> (try (exfalso; first | omega | contradiction))))
      exact yr_layC2 (Hn := []) rfl rfl rfl rfl rfl Since.refl (List.nil_sublist _) ⟨rfl, relemIs_no hn⟩
    (simp only [bls] at hc)
    obtain ⟨⟨hc1, hc2⟩, hc3⟩ := hc
    have hlt : i0 < s.length := by omega
    have h60 : s.getD i0 0 = 60 := by
      refine b60.1 ?_
      exact hc3
    clear hc1 hc2 hc3
    have hr0 : s.drop i0 = 60 :: s.drop (i0 + 1) := at_cons.2 ⟨hlt, h60, rfl⟩
    have hel : elemP (D + 1) (s.drop i0) = match headP (rs isSp (s.drop (i0 + 1))) with
      | none => none
      | some (a, t, r4) => match kidsP (elemP D) (r4.length + 1) r4 with
        | none => none
        | some (k, r5) => if (closeT (wd isSp (s.drop (i0 + 1)))).isPrefixOf r5 = true then some (.mk (wd isSp (s.drop (i0 + 1))) a t k, r5.drop (closeT (wd isSp (s.drop (i0 + 1)))).length) else none := by rw [hr0]; rfl
    have hbd := rs_length isSp (s.drop (i0 + 1))
    rw [List.length_drop] at hbd
    have hat2 := rs_at isSp s (i0 + 1)
    have hnm := wd_take isSp (s.drop (i0 + 1))
    repeat' (first | refine sk ?_ | (refine gL ?_; first | refine xl_alloc (fun _ => ?_) | refine xl_store rfl rfl ?_ | refine xl_buildSlice rfl (fun _ => ?_)) | fail)
    rename_i b6 b8
    refine wc_loop (α := { e : Nat // i0 + 1 ≤ e ∧ e ≤ i0 + 1 + (wd isSp (s.drop (i0 + 1))).length }) (fun x => [(0, true, str s), (1, true, i64 ((i0 + 1 : Nat) : Int)), (2, true, i64 deep), (6, true, .pointer (some ⟨b6, 0, none⟩)), (8, true, .pointer (some ⟨b8, 0, none⟩)), (9, true, i64 (x.1 : Int))]) (fun _ => St w [] [(b8, .cells [str [], .slice none 0 0, str [], .slice none 0 0].toArray 55 (0, 0)), (b6, .cells [str [], .slice none 0 0, str [], .slice none 0 0].toArray 55 (0, 0))] M) (fun x => s.length - x.1) ⟨i0 + 1, by omega, by omega⟩ pE (fun _ h => h) ?_
    rintro ⟨e1, he1, he2⟩
    dsimp only
    have hg := wd_go (p := isSp) (s := s) he1 he2
    rw [isSp_iff] at hg
    repeat' (first | refine sk ?_ | (refine gL ?_; first | refine xl_alloc (fun _ => ?_) | refine xl_store rfl rfl ?_ | refine xl_buildSlice rfl (fun _ => ?_)) | fail)
    refine wc_cond rfl (fun hc => ?_) (fun hc => ?_)
    · (simp only [bls] at hc)
      have hlt1 := hg.1 ⟨by omega, hc.1.2, hc.2⟩
      repeat' (first | refine sk ?_ | (refine gL ?_; first | refine xl_alloc (fun _ => ?_) | refine xl_store rfl rfl ?_ | refine xl_buildSlice rfl (fun _ => ?_)) | fail)
      exact wn_cut ⟨e1 + 1, by omega, by omega⟩ (by show s.length - (e1 + 1) < s.length - e1; omega) pE (fun _ h => h.drop pL)
    (simp only [bls] at hc)
    obtain rfl : e1 = i0 + 1 + (wd isSp (s.drop (i0 + 1))).length := by
      rcases Nat.lt_or_ge e1 (i0 + 1 + (wd isSp (s.drop (i0 + 1))).length) with h | h
      · exfalso
        have h3 := hg.2 h
        rcases hc with (hc | hc) | hc
        · omega
        · exact h3.2.1 hc
        · exact h3.2.2 hc
      · omega
    clear hg hc he1 he2
    rw [← hat2] at hel
    have hi1 : i0 + 1 + (wd isSp (s.drop (i0 + 1))).length ≤ s.length := by omega
    have hsl : (s.drop (i0 + 1)).take (i0 + 1 + (wd isSp (s.drop (i0 + 1))).length - (i0 + 1)) = wd isSp (s.drop (i0 + 1)) := by
      rw [Nat.add_sub_cancel_left]; exact hnm
    repeat' (first | refine sk ?_ | (refine gL ?_; first | refine xl_alloc (fun _ => ?_) | refine xl_store rfl rfl ?_ | refine xl_buildSlice rfl (fun _ => ?_)) | fail)
    refine wc_weak (E' := [(0, true, str s), (1, true, i64 ((i0 + 1 + (wd isSp (s.drop (i0 + 1))).length : Nat) : Int)), (2, true, i64 deep), (6, true, .pointer (some ⟨b6, 0, none⟩)), (8, true, .pointer (some ⟨b8, 0, none⟩))]) (C' := St w [] [(b8, .cells [str (wd isSp (s.drop (i0 + 1))), .slice none 0 0, str [], .slice none 0 0].toArray 55 (0, 0)), (b6, .cells [str [], .slice none 0 0, str [], .slice none 0 0].toArray 55 (0, 0))] M) pE (fun w' h => by rw [hsl] at h; exact h) ?_
    have hnml : (wd isSp (s.drop (i0 + 1))).length ≤ s.length := by omega
    clear hsl hat2 hnm hbd
    generalize wd isSp (s.drop (i0 + 1)) = nm at *
    generalize i0 + 1 + nm.length = i1 at *
    refine wc_loop (α := RA s (s.drop i1)) (fun x => [(0, true, str s), (1, true, i64 (x.i : Int)), (2, true, i64 deep), (6, true, .pointer (some ⟨b6, 0, none⟩)), (8, true, .pointer (some ⟨b8, 0, none⟩))]) (fun x => St w [] ((b8, .cells [str nm, x.v, str [], .slice none 0 0].toArray 55 (0, 0)) :: (b6, .cells [str [], .slice none 0 0, str [], .slice none 0 0].toArray 55 (0, 0)) :: x.Hs) M) (fun x => x.f) ⟨s.length - i1, i1, [], .slice none 0 0, [], hi1, Nat.le_refl _, by rw [List.length_drop]; simp, by simp, OwnS.nil⟩ pE (fun _ h => h) ?_
    rintro ⟨f, i, acc, v, Hs, le, fuel, inv, len, own⟩
    dsimp only
    obtain ⟨va, vcap, rfl⟩ := own.slice (k := acc.length) (by decide) (cellsP_length _)
    have failA : attrsP ((s.drop i1).length + 1) (s.drop i1) = none → elemP (D + 1) (s.drop i0) = none := fun h => by rw [hel]; unfold headP; rw [h]
    repeat' (first | refine sk ?_ | (refine gL ?_; first | refine xl_alloc (fun _ => ?_) | refine xl_store rfl rfl ?_ | refine xl_buildSlice rfl (fun _ => ?_)) | fail)
    refine wc_cond rfl (fun hc => ?_) (fun hc => ?_)
    · (simp only [bls] at hc)
      have hli : i < s.length := by omega
      have h32 : s.drop i = 32 :: s.drop (i + 1) := at_cons.2 ⟨hli, b32.1 hc.2, rfl⟩
      rw [h32, attrsP] at inv
      have hk0 : i + (wd (isC 61) (s.drop i)).length = i + 1 + (wd (isC 61) (s.drop (i + 1))).length := by
        rw [h32]
        show i + (32 :: wd (isC 61) (s.drop (i + 1))).length = _
        rw [List.length_cons]; omega
      have hto := fun {w : World} (hw : Laid M w) => rto_ok hw s i 61 hs le
      rw [hk0] at hto
      have hkl := rs_length (isC 61) (s.drop (i + 1))
      rw [List.length_drop] at hkl
      have hat3 := rs_at (isC 61) s (i + 1)
      have hkey := wd_take (isC 61) (s.drop (i + 1))
      have hkx : i + 1 + (wd (isC 61) (s.drop (i + 1))).length ≤ s.length := by omega
      have hslk : (s.drop (i + 1)).take (i + 1 + (wd (isC 61) (s.drop (i + 1))).length - (i + 1)) = wd (isC 61) (s.drop (i + 1)) := by rw [Nat.add_sub_cancel_left]; exact hkey
      have hst := rs_stop (isC 61) (s.drop (i + 1))
      rw [← hat3] at hst
      clear hkey hk0 hkl
      repeat' (first | refine sk ?_ | (refine gL ?_; first | refine wl_v rfl rfl rfl (by first | (exact oc 97 Tryz.call97 (h := fun hcg w hw => hto hw.laid))) ?_ | refine xl_alloc (fun _ => ?_) | refine xl_store rfl rfl ?_ | refine xl_buildSlice rfl (fun _ => ?_)) | fail)
      have hno1 := attrP_no1 (r := s.drop (i + 1))
      have hno2 := fun {r2 : List UInt8} => attrP_no2 (r := s.drop (i + 1)) (r2 := r2)
      have hno3 := fun {r2 v : List UInt8} => attrP_no3 (r := s.drop (i + 1)) (r2 := r2) (v := v)
      have hyes := fun {r2 v r4 : List UInt8} => attrP_yes (r := s.drop (i + 1)) (r2 := r2) (v := v) (r4 := r4)
      rw [← hat3] at hno1 hno2 hno3 hyes
      clear hat3
      clear hto
      have failP : attrP (s.drop (i + 1)) = none → elemP (D + 1) (s.drop i0) = none := fun h => failA (by rw [inv, h]; rfl)
      have hik : i + 1 ≤ i + 1 + (wd (isC 61) (s.drop (i + 1))).length := by omega
      have hklen : (wd (isC 61) (s.drop (i + 1))).length ≤ s.length := by omega
      generalize wd (isC 61) (s.drop (i + 1)) = key at *
      generalize i + 1 + key.length = k at *
      refine wc_cond rfl (fun hc => ?_) (fun hc => ?_)
      · (simp only [bls] at hc)
        have hn := failP (hno1 (fun q e => by
          obtain ⟨g1, g2, g3⟩ := at_cons.1 e
          obtain ⟨g4, g5, g6⟩ := at_cons.1 g3
          rcases hc with hc | hc
          · omega
          · exact hc (b34.2 g5)))
        repeat' (first | (first | refine sk ?_ | (refine gL ?_; first | refine xl_alloc (fun _ => ?_) | refine xl_store rfl rfl ?_ | refine xl_buildSlice rfl (fun _ => ?_)) | fail) | (refine wc_cond rfl (fun hc => ?_) (fun hc => ?_) <;> (try (simp only [bls] at hc)) <;> (try (exfalso; first | omega | contradiction))))
        exact yr_layC2 (Hn := []) rfl rfl rfl rfl rfl Since.refl (List.nil_sublist _) ⟨rfl, relemIs_no hn⟩
      (simp only [bls] at hc)
      have hk1 : k + 1 < s.length := by omega
      have hk34 : s.getD (k + 1) 0 = 34 := b34.1 hc.2
      have h61 : s.drop k = 61 :: 34 :: s.drop (k + 2) := by
        have h2 : s.drop (k + 1) = 34 :: s.drop (k + 2) := at_cons.2 ⟨hk1, hk34, rfl⟩
        rcases hst with h | ⟨c, t, h, hcc⟩
        · have := congrArg List.length h
          rw [List.length_drop, List.length_nil] at this; omega
        · obtain ⟨g1, g2, g3⟩ := at_cons.1 h
          rw [isC_self hcc] at g2
          rw [← h2]; exact at_cons.2 ⟨g1, g2, rfl⟩
      have hto := fun {w : World} (hw : Laid M w) => rto_ok hw s (k + 2) 34 hs (by omega)
      have hql := rs_length (isC 34) (s.drop (k + 2))
      rw [List.length_drop] at hql
      have hat4 := rs_at (isC 34) s (k + 2)
      have hval := wd_take (isC 34) (s.drop (k + 2))
      have hslv : (s.drop (k + 2)).take (k + 2 + (wd (isC 34) (s.drop (k + 2))).length - (k + 2)) = wd (isC 34) (s.drop (k + 2)) := by rw [Nat.add_sub_cancel_left]; exact hval
      have hst4 := rs_stop (isC 34) (s.drop (k + 2))
      have hno2 := hno2 h61
      have hno3 := fun {v : List UInt8} => hno3 (v := v) h61
      have hyes := fun {v r4 : List UInt8} => hyes (v := v) (r4 := r4) h61
      rw [← hat4] at hst4 hno3 hyes
      have hqx : k + 2 + (wd (isC 34) (s.drop (k + 2))).length ≤ s.length := by omega
      have hvl : (wd (isC 34) (s.drop (k + 2))).length ≤ s.length := by omega
      clear hat4 hval hql hno1 hst
      repeat' (first | refine sk ?_ | (refine gL ?_; first | refine wl_v rfl rfl rfl (by first | (exact oc 97 Tryz.call97 (h := fun hcg w hw => hto hw.laid))) ?_ | refine xl_alloc (fun _ => ?_) | refine xl_store rfl rfl ?_ | refine xl_buildSlice rfl (fun _ => ?_)) | fail)
      clear hto
      have hkq : k + 2 ≤ k + 2 + (wd (isC 34) (s.drop (k + 2))).length := by omega
      generalize wd (isC 34) (s.drop (k + 2)) = vv at *
      generalize k + 2 + vv.length = q at *
      refine wc_cond rfl (fun hc => ?_) (fun hc => ?_)
      · (simp only [bls] at hc)
        have hn : elemP (D + 1) (s.drop i0) = none := by
          refine failP ?_
          cases hu : unescQ vv with
          | none => exact hno2 hu
          | some x =>
            refine hno3 hu (fun t e => ?_)
            have := congrArg List.length e
            rw [List.length_drop, List.length_cons] at this; omega
        repeat' (first | (first | refine sk ?_ | (refine gL ?_; first | refine xl_alloc (fun _ => ?_) | refine xl_store rfl rfl ?_ | refine xl_buildSlice rfl (fun _ => ?_)) | fail) | (refine wc_cond rfl (fun hc => ?_) (fun hc => ?_) <;> (try (simp only [bls] at hc)) <;> (try (exfalso; first | omega | contradiction))))
        exact yr_layC2 (Hn := []) rfl rfl rfl rfl rfl Since.refl (List.nil_sublist _) ⟨rfl, relemIs_no hn⟩
      (simp only [bls] at hc)
      have hqlt : q < s.length := by omega
      have h34 : s.drop q = 34 :: s.drop (q + 1) := by
        rcases hst4 with h | ⟨c, t, h, hcc⟩
        · have := congrArg List.length h
          rw [List.length_drop, List.length_nil] at this; omega
        · obtain ⟨g1, g2, g3⟩ := at_cons.1 h
          rw [isC_self hcc] at g2
          exact at_cons.2 ⟨g1, g2, rfl⟩
      have hun := fun {w : World} (hw : Laid M w) => runescape_ok hw vv (by omega)
      rw [← hslv] at hun
      cases hu : unescQ vv with
      | none =>
        have hn := failP (hno2 hu)
        have hun : ∀ {w : World}, Laid M w → Calls Tryz.prog 98 #[str ((s.drop (k + 2)).take (q - (k + 2)))] w (RetE w (.tuple #[str [], i64 10])) := fun h => by have := hun h; rw [hslv, hu] at this; rw [hslv]; exact this
        repeat' (first | (first | refine sk ?_ | (refine gL ?_; first | refine wl_v rfl rfl rfl (by first | (exact oc 98 Tryz.call98 (h := fun hcg w hw => hun hw.laid))) ?_ | refine xl_alloc (fun _ => ?_) | refine xl_store rfl rfl ?_ | refine xl_buildSlice rfl (fun _ => ?_)) | fail) | (refine wc_cond rfl (fun hc => ?_) (fun hc => ?_) <;> (try (simp only [bls] at hc)) <;> (try (exfalso; first | omega | contradiction))))
        exact yr_layC2 (Hn := []) rfl rfl rfl rfl rfl Since.refl (List.nil_sublist _) ⟨rfl, relemIs_no hn⟩
      | some val =>
        have hvl2 := unescQ_len hu
        have hun : ∀ {w : World}, Laid M w → Calls Tryz.prog 98 #[str ((s.drop (k + 2)).take (q - (k + 2)))] w (RetE w (.tuple #[str val, i64 0])) := fun h => by have := hun h; rw [hslv, hu] at this; rw [hslv]; exact this
        have hy := hyes hu h34
        rw [hy] at inv
        repeat' (first | (first | refine sk ?_ | (refine gL ?_; first | refine wl_v rfl rfl rfl (by first | (exact oc 98 Tryz.call98 (h := fun hcg w hw => hun hw.laid))) ?_ | refine xl_alloc (fun _ => ?_) | refine xl_store rfl rfl ?_ | refine xl_buildSlice rfl (fun _ => ?_)) | fail) | (refine wc_cond rfl (fun hc => ?_) (fun hc => ?_) <;> (try (simp only [bls] at hc)) <;> (try (exfalso; first | omega | contradiction))))
        match f, fuel, inv with
        | 0, fuel, _ => exfalso; omega
        | f + 1, fuel, inv =>
          refine wc_weak (E' := [(0, true, str s), (1, true, i64 (i : Int)), (2, true, i64 deep), (6, true, .pointer (some ⟨b6, 0, none⟩)), (8, true, .pointer (some ⟨b8, 0, none⟩)), (10, true, i64 (k : Int)), (11, true, i64 (q : Int)), (12, true, str val)]) (C' := St w [] (Hs ++ [(b8, .cells [str nm, .slice va acc.length vcap, str [], .slice none 0 0].toArray 55 (0, 0)), (b6, .cells [str [], .slice none 0 0, str [], .slice none 0 0].toArray 55 (0, 0))]) M) pE (fun _ h => h.perm (List.perm_append_comm (l₂ := [_, _]))) ?_
          refine wc_draw 10 (by kernel_rfl) rfl (by kernel_rfl) (fun _ _ h k => h.ext k) ?_
          repeat' (first | (refine gD ?_; first | refine yd_v rfl rfl rfl rfl rfl rfl ?_ | refine yd_new rfl rfl rfl rfl rfl rfl ?_ | refine wd_conv rfl rfl rfl rfl rfl rfl rfl rfl rfl rfl ?_) | (refine gE ?_; first | refine wd_nil ?_ | refine wd_nil1 (wl_fresh (fun _ => ?_))) | (first | refine sk ?_ | (refine gL ?_; first | refine xl_alloc (fun _ => ?_) | refine xl_store rfl rfl ?_ | refine xl_buildSlice rfl (fun _ => ?_)) | fail))
          refine y_append (news := [str ((s.drop (i + 1)).take (k - (i + 1))), str val]) (H0 := [(b8, .cells [str nm, .slice va acc.length vcap, str [], .slice none 0 0].toArray 55 (0, 0)), (b6, .cells [str [], .slice none 0 0, str [], .slice none 0 0].toArray 55 (0, 0))]) rfl own rfl rfl rfl rfl rfl rfl rfl rfl rfl rfl rfl rfl (by rw [cellsP_length]; omega) rfl ?_
          intro v' Hs' ho'
          rw [hslk, ← cellsP_snoc acc (key, val)] at ho'
          refine wl_weak (C' := St w [] ((b8, .cells [str nm, .slice va acc.length vcap, str [], .slice none 0 0].toArray 55 (0, 0)) :: (b6, .cells [str [], .slice none 0 0, str [], .slice none 0 0].toArray 55 (0, 0)) :: Hs') M) (Eng.Sub.refl _) (fun w' h => (h.drop (H' := Hs' ++ [(b8, .cells [str nm, .slice va acc.length vcap, str [], .slice none 0 0].toArray 55 (0, 0)), (b6, .cells [str [], .slice none 0 0, str [], .slice none 0 0].toArray 55 (0, 0))]) (List.Sublist.append (List.Sublist.refl _) pL)).perm (List.perm_append_comm (l₁ := [_, _]))) ?_
          obtain ⟨va2, vcap2, rfl⟩ := ho'.slice (k := acc.length + 1) (by decide) (by rw [cellsP_length]; simp)
          repeat' (first | (first | refine sk ?_ | (refine gL ?_; first | refine xl_alloc (fun _ => ?_) | refine xl_store rfl rfl ?_ | refine xl_buildSlice rfl (fun _ => ?_)) | fail) | (refine wc_cond rfl (fun hc => ?_) (fun hc => ?_) <;> (try (simp only [bls] at hc)) <;> (try (exfalso; first | omega | contradiction))))
          refine wn_cut ⟨f, q + 1, acc ++ [(key, val)], .slice va2 (acc.length + 1) vcap2, Hs', by omega, by omega, ?_, by rw [List.length_append, List.length_singleton]; omega, ho'⟩ (by show f < f + 1; omega) pE (fun _ h => h)
          rw [inv]
          show Option.map _ (Option.map _ (attrsP (f + 1) (s.drop (q + 1)))) = _
          rw [Option.map_map]
          congr 1
          funext x
          simp
    (simp only [bls] at hc)
    have hex : attrsP ((s.drop i1).length + 1) (s.drop i1) = some (acc, s.drop i) := by
      rw [inv]
      have : attrsP (f + 1) (s.drop i) = some ([], s.drop i) := by
        unfold attrsP
        split
        · rename_i r e
          obtain ⟨g1, g2, g3⟩ := at_cons.1 e
          exfalso
          rcases hc with hc | hc
          · omega
          · exact hc (b32.2 g2)
        · rfl
      rw [this]; simp
    have hsmall : ∀ p ∈ acc, p.1.length + p.2.length ≤ s.length := fun p hp => by
      have h1 := attrT_small hp
      have h2 := congrArg List.length (attrsP_text hex)
      rw [List.length_drop, List.length_append] at h2
      omega
    clear inv failA fuel hc
    repeat' (first | refine sk ?_ | (refine gL ?_; first | refine xl_alloc (fun _ => ?_) | refine xl_store rfl rfl ?_ | refine xl_buildSlice rfl (fun _ => ?_)) | fail)
    refine wc_weak (C' := St w [] (Hs ++ [(b8, .cells [str nm, .slice va acc.length vcap, str [], .slice none 0 0].toArray 55 (0, 0)), (b6, .cells [str [], .slice none 0 0, str [], .slice none 0 0].toArray 55 (0, 0))]) M) (Eng.Sub.refl _) (fun _ h => h.perm (List.perm_append_comm (l₂ := [_, _]))) ?_
    refine wc_publish (fun hnew => ?_)
    have hsl : SlP (With M Hs) (.slice va acc.length vcap) acc := own.slP (fun p hp => .inr hp) (by omega)
    have hM1 : Since w M (With M Hs) := since_new Since.refl hnew
    clear own hnew
    generalize With M Hs = M1 at *
    refine wc_cond rfl (fun hc => ?_) (fun hc => ?_)
    · (simp only [bls] at hc)
      have hn : elemP (D + 1) (s.drop i0) = none := by
        have : headP (s.drop i1) = none := by
          unfold headP; rw [hex]
          simp only
          split
          · rename_i r3 e
            obtain ⟨g1, g2, g3⟩ := at_cons.1 e
            exfalso
            rcases hc with hc | hc
            · omega
            · exact hc (b62.2 g2)
          · rfl
        rw [hel, this]
      repeat' (first | (first | refine sk ?_ | (refine gL ?_; first | refine xl_alloc (fun _ => ?_) | refine xl_store rfl rfl ?_ | refine xl_buildSlice rfl (fun _ => ?_)) | fail) | (refine wc_cond rfl (fun hc => ?_) (fun hc => ?_) <;> (try (simp only [bls] at hc)) <;> (try (exfalso; first | omega | contradiction))))
      exact yr_layC2 (Hn := []) rfl rfl rfl rfl rfl hM1 (List.nil_sublist _) ⟨rfl, relemIs_no hn⟩
    (simp only [bls] at hc)
    have hil : i < s.length := by omega
    have h62 : s.drop i = 62 :: s.drop (i + 1) := at_cons.2 ⟨hil, b62.1 hc.2, rfl⟩
    rw [h62] at hex
    clear hc h62
    have hto := fun {w : World} (hw : Laid M1 w) => rto_ok hw s (i + 1) 60 hs (by omega)
    have hjl := rs_length (isC 60) (s.drop (i + 1))
    rw [List.length_drop] at hjl
    have hat5 := rs_at (isC 60) s (i + 1)
    have htake := wd_take (isC 60) (s.drop (i + 1))
    have hslt : (s.drop (i + 1)).take (i + 1 + (wd (isC 60) (s.drop (i + 1))).length - (i + 1)) = wd (isC 60) (s.drop (i + 1)) := by rw [Nat.add_sub_cancel_left]; exact htake
    have hun := fun {w : World} (hw : Laid M1 w) => runescape_ok hw (wd (isC 60) (s.drop (i + 1))) (by omega)
    rw [← hslt] at hun
    have hjx : i + 1 + (wd (isC 60) (s.drop (i + 1))).length ≤ s.length := by omega
    have hij : i + 1 ≤ i + 1 + (wd (isC 60) (s.drop (i + 1))).length := by omega
    have hvl : (wd (isC 60) (s.drop (i + 1))).length ≤ s.length := by omega
    cases hu : unescQ (wd (isC 60) (s.drop (i + 1))) with
    | none =>
      have hn : elemP (D + 1) (s.drop i0) = none := by
        have : headP (s.drop i1) = none := by
          unfold headP; rw [hex]
          simp only [hu]
        rw [hel, this]
      have hun : ∀ {w : World}, Laid M1 w → Calls Tryz.prog 98 #[str ((s.drop (i + 1)).take (i + 1 + (wd (isC 60) (s.drop (i + 1))).length - (i + 1)))] w (RetE w (.tuple #[str [], i64 10])) := fun h => by have := hun h; rw [hslt, hu] at this; rw [hslt]; exact this
      clear hslt htake hat5 hu
      generalize wd (isC 60) (s.drop (i + 1)) = vv at *
      generalize i + 1 + vv.length = j at *
      repeat' (first | (first | refine sk ?_ | (refine gL ?_; first | refine wl_v rfl rfl rfl (by first | (exact oc 97 Tryz.call97 (h := fun hcg w hw => hto hw.laid)) | (exact oc 98 Tryz.call98 (h := fun hcg w hw => hun hw.laid))) ?_ | refine xl_alloc (fun _ => ?_) | refine xl_store rfl rfl ?_ | refine xl_buildSlice rfl (fun _ => ?_)) | fail) | (refine wc_cond rfl (fun hc => ?_) (fun hc => ?_) <;> (try (simp only [bls] at hc)) <;> (try (exfalso; first | omega | contradiction))))
      exact yr_layC2 (Hn := []) rfl rfl rfl rfl rfl hM1 (List.nil_sublist _) ⟨rfl, relemIs_no hn⟩
    | some tx =>
      have htx := unescQ_len hu
      have hun : ∀ {w : World}, Laid M1 w → Calls Tryz.prog 98 #[str ((s.drop (i + 1)).take (i + 1 + (wd (isC 60) (s.drop (i + 1))).length - (i + 1)))] w (RetE w (.tuple #[str tx, i64 0])) := fun h => by have := hun h; rw [hslt, hu] at this; rw [hslt]; exact this
      have hhd : headP (s.drop i1) = some (acc, tx, rs (isC 60) (s.drop (i + 1))) := by
        unfold headP; rw [hex]
        simp only [hu]
      rw [hhd, ← hat5] at hel
      simp only at hel
      clear hslt htake hat5 hu hhd hex
      generalize wd (isC 60) (s.drop (i + 1)) = vv at *
      generalize i + 1 + vv.length = j at *
      repeat' (first | (first | refine sk ?_ | (refine gL ?_; first | refine wl_v rfl rfl rfl (by first | (exact oc 97 Tryz.call97 (h := fun hcg w hw => hto hw.laid)) | (exact oc 98 Tryz.call98 (h := fun hcg w hw => hun hw.laid))) ?_ | refine xl_alloc (fun _ => ?_) | refine xl_store rfl rfl ?_ | refine xl_buildSlice rfl (fun _ => ?_)) | fail) | (refine wc_cond rfl (fun hc => ?_) (fun hc => ?_) <;> (try (simp only [bls] at hc)) <;> (try (exfalso; first | omega | contradiction))))
      refine wc_loop (α := RK D M1 s (s.drop j) w) (fun x => [(0, true, str s), (1, true, i64 (x.i : Int)), (2, true, i64 deep), (6, true, .pointer (some ⟨b6, 0, none⟩)), (8, true, .pointer (some ⟨b8, 0, none⟩))]) (fun x => St w [] ((b8, .cells [str nm, .slice va acc.length vcap, str tx, x.v].toArray 55 (0, 0)) :: (b6, .cells [str [], .slice none 0 0, str [], .slice none 0 0].toArray 55 (0, 0)) :: x.Hs) x.M') (fun x => x.f) ⟨s.length - j + 1, j, [], .slice none 0 0, [], [], M1, hjx, by omega, by simp, by rw [List.length_drop]; simp, OwnS.nil, rfl, fun q hq => absurd hq (by simp), Since.refl⟩ pE (fun _ h => h) ?_
      rintro ⟨f, i2, kacc, v, Hk, xs, M2, le2, fuel, len2, inv, own, xlen, nodes, since⟩
      dsimp only
      obtain ⟨va2, vcap2, rfl⟩ := own.slice (k := kacc.length) (by decide) xlen
      have hM2 : Since w M M2 := hM1.step since.1 since.2
      match f, fuel, inv with
      | 0, fuel, _ => exfalso; omega
      | f + 1, fuel, inv =>
      repeat' (first | refine sk ?_ | (refine gL ?_; first | refine xl_alloc (fun _ => ?_) | refine xl_store rfl rfl ?_ | refine xl_buildSlice rfl (fun _ => ?_)) | fail)
      refine wc_cond rfl (fun hc => ?_) (fun hc => ?_)
      · (simp only [bls] at hc)
        have hpf : [60, 47].isPrefixOf (s.drop i2) = false := by
          rw [Bool.eq_false_iff]
          intro h
          obtain ⟨t, ht⟩ := List.isPrefixOf_iff_prefix.1 h
          obtain ⟨g1, g2, g3⟩ := at_cons.1 ht.symm
          obtain ⟨g4, g5, g6⟩ := at_cons.1 g3
          exact hc.2 (b47.2 g5)
        have hks : kidsP (elemP D) (f + 1) (s.drop i2) = match elemP D (s.drop i2) with
          | none => none
          | some (x, r) => (kidsP (elemP D) f r).map fun y => (x :: y.1, y.2) := by
          rw [kidsP, if_neg (by rw [hpf]; decide)]
          all_goals (cases elemP D (s.drop i2) <;> rfl)
        repeat' (first | refine sk ?_ | (refine gL ?_; first | refine xl_alloc (fun _ => ?_) | refine xl_store rfl rfl ?_ | refine xl_buildSlice rfl (fun _ => ?_)) | fail)
        refine wl_callS rfl Tryz.call82 rfl rfl rfl rfl (fun w hw => refelem_ok D (deep + 1) (by omega) (by omega) M2 s i2 w hw.laid hs le2) ?_
        rintro v3 H3 M3 hm3 hn3 ⟨rfl, hR⟩
        have hM3 : Since w M M3 := hM2.step hm3 hn3
        unfold RelemIs at hR
        cases hx : elemP D (s.drop i2) with
        | none =>
          rw [hx] at hR
          simp only at hR
          obtain ⟨n', a1, l1, c1, t', a2, l2, c2, rfl⟩ := hR
          have hn : elemP (D + 1) (s.drop i0) = none := by rw [hel, inv, hks, hx]; rfl
          repeat' (first | (first | refine sk ?_ | (refine gL ?_; first | refine xl_alloc (fun _ => ?_) | refine xl_store rfl rfl ?_ | refine xl_buildSlice rfl (fun _ => ?_)) | fail) | (refine wc_cond rfl (fun hc => ?_) (fun hc => ?_) <;> (try (simp only [bls] at hc)) <;> (try (exfalso; first | omega | contradiction))))
          exact yr_layC2 (Hn := []) rfl rfl rfl rfl rfl hM3 (List.nil_sublist _) ⟨rfl, relemIs_no hn⟩
        | some p =>
          obtain ⟨x, r⟩ := p
          rw [hx] at hR
          simp only at hR
          obtain ⟨vs, n, rfl, hnode, hnl, rfl⟩ := hR
          obtain ⟨un, ua1, ul1, uc1, ut, ua2, ul2, uc2, rfl⟩ := node_open hnode
          have hdl := elemP_len hx
          rw [List.length_drop, List.length_drop] at hdl
          rw [hx] at hks
          simp only at hks
          repeat' (first | (first | refine sk ?_ | (refine gL ?_; first | refine xl_alloc (fun _ => ?_) | refine xl_store rfl rfl ?_ | refine xl_buildSlice rfl (fun _ => ?_)) | fail) | (refine wc_cond rfl (fun hc => ?_) (fun hc => ?_) <;> (try (simp only [bls] at hc)) <;> (try (exfalso; first | omega | contradiction))))
          rename_i b16 b185
          refine wl_weak (C' := St w [] ((b185, .cells [str un, .slice ua1 ul1 uc1, str ut, .slice ua2 ul2 uc2].toArray 55 (0, 0)) :: (Hk ++ [(b16, .cells [str un, .slice ua1 ul1 uc1, str ut, .slice ua2 ul2 uc2].toArray 55 (0, 0)), (b8, .cells [str nm, .slice va acc.length vcap, str tx, .slice va2 kacc.length vcap2].toArray 55 (0, 0)), (b6, .cells [str [], .slice none 0 0, str [], .slice none 0 0].toArray 55 (0, 0))])) M3) (Eng.Sub.refl _) (fun w' h => h.perm (List.Perm.cons _ (List.perm_append_comm (l₂ := [_, _, _])))) ?_
          refine y_append (news := [str un, .slice ua1 ul1 uc1, str ut, .slice ua2 ul2 uc2]) (H0 := [(b16, .cells [str un, .slice ua1 ul1 uc1, str ut, .slice ua2 ul2 uc2].toArray 55 (0, 0)), (b8, .cells [str nm, .slice va acc.length vcap, str tx, .slice va2 kacc.length vcap2].toArray 55 (0, 0)), (b6, .cells [str [], .slice none 0 0, str [], .slice none 0 0].toArray 55 (0, 0))]) rfl own rfl rfl rfl rfl rfl rfl rfl rfl rfl rfl rfl rfl (by rw [xlen]; omega) rfl ?_
          intro v' Hs' ho'
          obtain ⟨va3, vcap3, rfl⟩ := ho'.slice (k := kacc.length + 1) (by decide) (by simp; omega)
          refine wl_weak (C' := St w [] ((b8, .cells [str nm, .slice va acc.length vcap, str tx, .slice va2 kacc.length vcap2].toArray 55 (0, 0)) :: (b6, .cells [str [], .slice none 0 0, str [], .slice none 0 0].toArray 55 (0, 0)) :: Hs') M3) (Eng.Sub.refl _) (fun w' h => (h.drop (H' := Hs' ++ [(b8, .cells [str nm, .slice va acc.length vcap, str tx, .slice va2 kacc.length vcap2].toArray 55 (0, 0)), (b6, .cells [str [], .slice none 0 0, str [], .slice none 0 0].toArray 55 (0, 0))]) (List.Sublist.append (List.Sublist.refl _) pL)).perm (List.perm_append_comm (l₁ := [_, _]))) ?_
          repeat' (first | (first | refine sk ?_ | (refine gL ?_; first | refine xl_alloc (fun _ => ?_) | refine xl_store rfl rfl ?_ | refine xl_buildSlice rfl (fun _ => ?_)) | fail) | (refine wc_cond rfl (fun hc => ?_) (fun hc => ?_) <;> (try (simp only [bls] at hc)) <;> (try (exfalso; first | omega | contradiction))))
          refine wn_cut ⟨f, n, kacc ++ [x], .slice va3 (kacc.length + 1) vcap3, Hs', xs ++ [str un, .slice ua1 ul1 uc1, str ut, .slice ua2 ul2 uc2], M3, hnl, by omega, by rw [List.length_append, List.length_singleton]; omega, ?_, ho', by simp only [List.length_append, List.length_cons, List.length_nil]; omega, ?_, since.step hm3 hn3⟩ (by show f < f + 1; omega) pE (fun _ h => h)
          · rw [inv, hks, Option.map_map]
            congr 1
            funext y
            simp
          · intro i hi
            rw [List.length_append, List.length_cons, List.length_nil] at hi
            rcases Nat.lt_or_ge i kacc.length with hlt | hge
            · rw [List.getElem_append_left hlt, List.drop_append_of_le_length (by omega), List.take_append_of_le_length (by rw [List.length_drop]; omega)]
              exact NodeC.mono hm3 (nodes i hlt)
            · obtain rfl : i = kacc.length := by omega
              rw [List.getElem_append_right (Nat.le_refl _), ← xlen, List.drop_left]
              simpa using hnode
      · (simp only [bls] at hc)
        have hcl : ([60, 47] ++ nm ++ [62]).length = nm.length + 3 := by simp only [List.length_append, List.length_cons, List.length_nil]; omega
        have hpa := pre_at (m := [60, 47] ++ nm ++ [62]) le2
        by_cases hpf : [60, 47].isPrefixOf (s.drop i2) = true
        · have hks : kidsP (elemP D) (f + 1) (s.drop i2) = some ([], s.drop i2) := by rw [kidsP, if_pos hpf]
          rw [inv, hks] at hel
          simp only [Option.map_some, List.append_nil] at hel
          repeat' (first | refine sk ?_ | (refine gL ?_; first | refine xl_alloc (fun _ => ?_) | refine xl_store rfl rfl ?_ | refine xl_buildSlice rfl (fun _ => ?_)) | fail)
          refine wc_cond rfl (fun hc => ?_) (fun hc => ?_)
          · (simp only [bls] at hc)
            have hno : ¬ (closeT nm).isPrefixOf (s.drop i2) = true := fun h => by
              have h3 := hpa.2 h
              rcases hc with hc | hc
              · omega
              · exact hc h3.2
            rw [if_neg hno] at hel
            repeat' (first | (first | refine sk ?_ | (refine gL ?_; first | refine xl_alloc (fun _ => ?_) | refine xl_store rfl rfl ?_ | refine xl_buildSlice rfl (fun _ => ?_)) | fail) | (refine wc_cond rfl (fun hc => ?_) (fun hc => ?_) <;> (try (simp only [bls] at hc)) <;> (try (exfalso; first | omega | contradiction))))
            exact yr_layC2 (Hn := []) rfl rfl rfl rfl rfl hM2 (List.nil_sublist _) ⟨rfl, relemIs_no hel⟩
          · (simp only [bls] at hc)
            have hyes : (closeT nm).isPrefixOf (s.drop i2) = true := hpa.1 ⟨by omega, hc.2⟩
            rw [if_pos hyes] at hel
            repeat' (first | (first | refine sk ?_ | (refine gL ?_; first | refine xl_alloc (fun _ => ?_) | refine xl_store rfl rfl ?_ | refine xl_buildSlice rfl (fun _ => ?_)) | fail) | (refine wc_cond rfl (fun hc => ?_) (fun hc => ?_) <;> (try (simp only [bls] at hc)) <;> (try (exfalso; first | omega | contradiction))))
            refine wr_layC2 (Hn := Hk) rfl rfl rfl rfl (List.Mem.tail _ (List.Mem.head _)) rfl hM2 (List.Sublist.cons _ (List.Sublist.cons _ (List.Sublist.refl _))) ⟨rfl, ?_⟩
            unfold RelemIs
            rw [hel]
            refine ⟨_, i2 + ([60, 47] ++ nm ++ [62]).length, rfl, ⟨_, _, rfl, Sl.mono hsl (fun _ _ h => .inl (since.1 _ _ h)) (fun _ _ _ h => h), own.sl (by decide) (fun p hp => .inr hp) xlen (by omega) (fun q hq => NodeC.mono (fun _ _ => .inl) (nodes q hq)), by omega, by omega, fun p hp => ?_⟩, by omega, by rw [← List.drop_drop]; rfl⟩
            have := hsmall p hp
            omega
        · have hks : kidsP (elemP D) (f + 1) (s.drop i2) = none := by
            rw [kidsP, if_neg hpf]
            have : elemP D (s.drop i2) = none := by
              by_cases h1 : ∃ r, s.drop i2 = 60 :: r
              · obtain ⟨r, hr⟩ := h1
                obtain ⟨g1, g2, g3⟩ := at_cons.1 hr
                cases r with
                | nil => rw [hr]; exact elemP_short D
                | cons c r =>
                  exfalso
                  obtain ⟨g4, g5, g6⟩ := at_cons.1 g3
                  rcases hc with (hc | hc) | hc
                  · omega
                  · exact hc (b60.2 g2)
                  · have h47 := b47.1 hc
                    rw [g5] at h47
                    subst h47
                    exact hpf (by rw [hr]; simp [List.isPrefixOf])
              · exact elemP_head (fun r e => h1 ⟨r, e⟩)
            rw [this]
          have hn : elemP (D + 1) (s.drop i0) = none := by rw [hel, inv, hks]; rfl
          repeat' (first | refine sk ?_ | (refine gL ?_; first | refine xl_alloc (fun _ => ?_) | refine xl_store rfl rfl ?_ | refine xl_buildSlice rfl (fun _ => ?_)) | fail)
          refine wc_cond rfl (fun hc => ?_) (fun hc => ?_)
          · repeat' (first | (first | refine sk ?_ | (refine gL ?_; first | refine xl_alloc (fun _ => ?_) | refine xl_store rfl rfl ?_ | refine xl_buildSlice rfl (fun _ => ?_)) | fail) | (refine wc_cond rfl (fun hc => ?_) (fun hc => ?_) <;> (try (simp only [bls] at hc)) <;> (try (exfalso; first | omega | contradiction))))
            exact yr_layC2 (Hn := []) rfl rfl rfl rfl rfl hM2 (List.nil_sublist _) ⟨rfl, relemIs_no hn⟩
          · exfalso
            (simp only [bls] at hc)
            have hyes := List.isPrefixOf_iff_prefix.1 (hpa.1 ⟨by omega, hc.2⟩)
            exact hpf (List.isPrefixOf_iff_prefix.2 (List.IsPrefix.trans (by rw [List.append_assoc]; exact List.prefix_append _ _) hyes))
end Go.Proofs.YtgfbieplidpebaaGreatDoor
/-
  Both readings of a text; the walks of XmlTexts and XmlReads.
-/
namespace Go.Proofs.YtgfbieplidpebaaGreatDoor
open Go.Eng Go.Pct Go.Xml Go.Rsp
set_option maxRecDepth 10000
set_option linter.unusedSimpArgs false
set_option linter.unusedVariables false

variable {M : Ghost} {w0 w : World} {bs : List Nat} {H : List (Nat × Obj)}
def nodeZ : Nd := .mk [] [] [] []
/-- a text's element -/
def readP (s : List UInt8) : Option Nd := match elemP 8 s with
  | some (x, r) => if r = [] ∧ rightN x = true then some x else none
  | none => none
theorem readP_back {x : Nd} (h : rightN x = true) : readP (textN x) = some x := by
  have h' := h
  unfold rightN at h'
  simp only [Bool.and_eq_true, decide_eq_true_eq] at h'
  have hd := (fewN_no x 200 8 h'.1).1
  have := elemP_back (D := 8) (x := x) (by omega) h'.2 []
  rw [List.append_nil] at this
  unfold readP
  rw [this]
  simp only
  rw [if_pos ⟨by first | trivial | rfl, h⟩]
theorem readP_text {s : List UInt8} {x : Nd} (h : readP s = some x) : textN x = s ∧ rightN x = true := by
  unfold readP at h
  split at h
  · rename_i y r e
    split at h
    · rename_i hc
      cases h
      obtain ⟨rfl, hr⟩ := hc
      have := elemP_text e
      rw [List.append_nil] at this
      exact ⟨this.symm, hr⟩
    · cases h
  · cases h
theorem nodeZ_ok {D : Nat} : NodeC M (D + 1) nodeZ [str [], .slice none 0 0, str [], .slice none 0 0] :=
  ⟨_, _, rfl, sl_nil, sl_nil, by simp, by simp, fun p hp => absurd hp (by simp)⟩
/-- what a reading yields -/
def ReadN (s : List UInt8) (M' : Ghost) (v : Value) : Prop := ∃ vs : List Value, v = .tuple #[.agg vs.toArray, i64 (if (readP s).isSome then 0 else 10)] ∧ NodeC M' 8 ((readP s).getD nodeZ) vs
theorem readN_no {s : List UInt8} {M' : Ghost} (h : readP s = none) : ReadN s M' (.tuple #[.agg [str [], .slice none 0 0, str [], .slice none 0 0].toArray, i64 10]) := by
  unfold ReadN; rw [h]; exact ⟨_, rfl, nodeZ_ok⟩
set_option maxHeartbeats 1000000 in
theorem xread_ok (hG : Glob M) (hM : Laid M w) (s : List UInt8) (hs : s.length ≤ 100000000) : Calls Tryz.prog 48 #[str s] w (RetS M w (fun M' H v => H = [] ∧ ReadN s M' v)) := by
  refine fn1 hM Tryz.func48 ?_
  repeat' (first | (first | refine sk ?_ | (refine gL ?_; first | refine xl_alloc (fun _ => ?_) | refine xl_box rfl (fun _ => ?_) | refine xl_store rfl rfl ?_) | fail) | (refine wc_cond rfl (fun hc => ?_) (fun hc => ?_) <;> (try (simp only [bls] at hc)) <;> (try (exfalso; first | omega | contradiction))))
  rename_i b2 b9
  refine wl_callX rfl Tryz.call64 rfl rfl rfl rfl (fun w hw => relem_ok 8 1 rfl (by omega) M [(b2, .cells [str [], .slice none 0 0, str [], .slice none 0 0].toArray 55 (0, 0))] b9 s 200 _ w hG hs (by omega) (by omega) hw) (fun v M1 s1 left1 hm1 hn1 hR => ?_)
  have hM1 : Since w M M1 := Since.refl.step hm1 hn1
  unfold ElemIs at hR
  cases hx : elemX 8 s 200 with
  | none =>
    rw [hx] at hR
    simp only at hR
    obtain ⟨n', a1, l1, c1, t', a2, l2, c2, rfl⟩ := hR
    have hn : readP s = none := by
      unfold readP
      unfold elemX at hx
      cases he : elemP 8 s with
      | none => rfl
      | some p =>
        obtain ⟨y, r⟩ := p
        rw [he] at hx
        simp only at hx ⊢
        split at hx
        · cases hx
        · rename_i h1
          rw [if_neg]
          rintro ⟨_, h2⟩
          unfold rightN at h2
          simp only [Bool.and_eq_true, decide_eq_true_eq] at h2
          exact h1 (fewN_no y 200 8 h2.1).2
    repeat' (first | (first | refine sk ?_ | (refine gL ?_; first | refine wl_v rfl rfl rfl (by first | (show OpV _ _ _ _ (Oper.mk _ (Op.call _) _ _ _ _) _ _; exact ov_off (v := .bool false) rfl)) ?_ | refine xl_alloc (fun _ => ?_) | refine xl_box rfl (fun _ => ?_) | refine xl_store rfl rfl ?_) | fail) | (refine wc_cond rfl (fun hc => ?_) (fun hc => ?_) <;> (try (simp only [bls] at hc)) <;> (try (exfalso; first | omega | contradiction))))
    exact yr_layC2 (Hn := []) rfl rfl rfl rfl rfl hM1 (List.nil_sublist _) ⟨rfl, readN_no hn⟩
  | some p =>
    obtain ⟨x, r, l'⟩ := p
    rw [hx] at hR
    simp only at hR
    obtain ⟨vs, rfl, hnode, rfl, rfl⟩ := hR
    have he : ∃ q, elemP 8 s = some (x, q) ∧ q = s1 := by
      unfold elemX at hx
      cases he : elemP 8 s with
      | none => rw [he] at hx; cases hx
      | some p =>
        obtain ⟨y, r⟩ := p
        rw [he] at hx
        simp only at hx
        split at hx
        · cases hx; exact ⟨_, rfl, rfl⟩
        · cases hx
    obtain ⟨q, he, rfl⟩ := he
    have hrd : readP s = if q = [] ∧ rightN x = true then some x else none := by unfold readP; rw [he]
    have hri := fun {w : World} (hw : Laid M1 w) => right_ok hw hnode
    obtain ⟨un, ua1, ul1, uc1, ut, ua2, ul2, uc2, rfl⟩ := node_open hnode
    repeat' (first | refine sk ?_ | (refine gL ?_; first | refine wl_v rfl rfl rfl (by first | (exact oc 65 Tryz.call65 (h := fun hcg w hw => hri hw.laid))) ?_ | refine xl_alloc (fun _ => ?_) | refine xl_box rfl (fun _ => ?_) | refine xl_store rfl rfl ?_) | fail)
    refine wc_cond rfl (fun hc => ?_) (fun hc => ?_)
    · have hn : readP s = none := by
        rw [hrd, if_neg]
        rintro ⟨h1, h2⟩
        rw [h1, h2] at hc
        revert hc
        decide
      repeat' (first | (first | refine sk ?_ | (refine gL ?_; first | refine xl_alloc (fun _ => ?_) | refine xl_box rfl (fun _ => ?_) | refine xl_store rfl rfl ?_) | fail) | (refine wc_cond rfl (fun hc => ?_) (fun hc => ?_) <;> (try (simp only [bls] at hc)) <;> (try (exfalso; first | omega | contradiction))))
      exact yr_layC2 (Hn := []) rfl rfl rfl rfl rfl hM1 (List.nil_sublist _) ⟨rfl, readN_no hn⟩
    · have hy : readP s = some x := by
        rw [hrd, if_pos]
        simp only [Bool.or_eq_false_iff, Bool.not_eq_false', decide_eq_true_eq, Bool.not_true, true_and] at hc
        exact hc
      repeat' (first | (first | refine sk ?_ | (refine gL ?_; first | refine xl_alloc (fun _ => ?_) | refine xl_box rfl (fun _ => ?_) | refine xl_store rfl rfl ?_) | fail) | (refine wc_cond rfl (fun hc => ?_) (fun hc => ?_) <;> (try (simp only [bls] at hc)) <;> (try (exfalso; first | omega | contradiction))))
      refine yr_layC2 (Hn := []) rfl rfl rfl rfl rfl hM1 (List.nil_sublist _) ⟨rfl, ?_⟩
      unfold ReadN
      rw [hy]
      exact ⟨_, rfl, NodeC.mono (fun _ _ => .inl) hnode⟩
set_option maxHeartbeats 1000000 in
theorem rread_ok (hM : Laid M w) (s : List UInt8) (hs : s.length ≤ 100000000) : Calls Tryz.prog 72 #[str s] w (RetS M w (fun M' H v => H = [] ∧ ReadN s M' v)) := by
  refine fn1 hM Tryz.func72 ?_
  repeat' (first | (first | refine sk ?_ | (refine gL ?_; first | refine xl_alloc (fun _ => ?_) | refine xl_store rfl rfl ?_) | fail) | (refine wc_cond rfl (fun hc => ?_) (fun hc => ?_) <;> (try (simp only [bls] at hc)) <;> (try (exfalso; first | omega | contradiction))))
  refine wl_callS rfl Tryz.call82 rfl rfl rfl rfl (fun w hw => refelem_ok 8 1 rfl (by omega) M s 0 w hw.laid hs (by omega)) ?_
  rintro v3 H3 M1 hm3 hn3 ⟨rfl, hR⟩
  have hM1 : Since w M M1 := Since.refl.step hm3 hn3
  unfold RelemIs at hR
  rw [List.drop_zero] at hR
  cases hx : elemP 8 s with
  | none =>
    rw [hx] at hR
    simp only at hR
    obtain ⟨n', a1, l1, c1, t', a2, l2, c2, rfl⟩ := hR
    have hn : readP s = none := by unfold readP; rw [hx]
    repeat' (first | (first | refine sk ?_ | (refine gL ?_; first | refine xl_alloc (fun _ => ?_) | refine xl_store rfl rfl ?_) | fail) | (refine wc_cond rfl (fun hc => ?_) (fun hc => ?_) <;> (try (simp only [bls] at hc)) <;> (try (exfalso; first | omega | contradiction))))
    exact yr_layC2 (Hn := []) rfl rfl rfl rfl rfl hM1 (List.nil_sublist _) ⟨rfl, readN_no hn⟩
  | some p =>
    obtain ⟨x, r⟩ := p
    rw [hx] at hR
    simp only at hR
    obtain ⟨vs, n, rfl, hnode, hnl, rfl⟩ := hR
    have hrd : readP s = if s.drop n = [] ∧ rightN x = true then some x else none := by unfold readP; rw [hx]
    have hri := fun {w : World} (hw : Laid M1 w) => rright_ok hw hnode
    obtain ⟨un, ua1, ul1, uc1, ut, ua2, ul2, uc2, rfl⟩ := node_open hnode
    repeat' (first | (first | refine sk ?_ | (refine gL ?_; first | refine wl_v rfl rfl rfl (by first | (exact oc 83 Tryz.call83 (h := fun hcg w hw => hri hw.laid))) ?_ | refine xl_alloc (fun _ => ?_) | refine xl_store rfl rfl ?_) | fail) | (refine wc_cond rfl (fun hc => ?_) (fun hc => ?_) <;> (try (simp only [bls] at hc)) <;> (try (exfalso; first | omega | contradiction))))
    · have hn : readP s = none := by
        rw [hrd, if_neg]
        rintro ⟨h1, h2⟩
        have := congrArg List.length h1
        rw [List.length_drop, List.length_nil] at this
        omega
      exact yr_layC2 (Hn := []) rfl rfl rfl rfl rfl hM1 (List.nil_sublist _) ⟨rfl, readN_no hn⟩
    · have hn : readP s = none := by
        rw [hrd, if_neg]
        rintro ⟨h1, h2⟩
        rw [h2] at hc; cases hc
      exact yr_layC2 (Hn := []) rfl rfl rfl rfl rfl hM1 (List.nil_sublist _) ⟨rfl, readN_no hn⟩
    · have hy : readP s = some x := by
        rw [hrd, if_pos ⟨List.drop_eq_nil_of_le (by omega), hc⟩]
      refine yr_layC2 (Hn := []) rfl rfl rfl rfl rfl hM1 (List.nil_sublist _) ⟨rfl, ?_⟩
      unfold ReadN
      rw [hy]
      exact ⟨_, rfl, NodeC.mono (fun _ _ => .inl) hnode⟩
end Go.Proofs.YtgfbieplidpebaaGreatDoor
/-
  What services and browsers are told, plainly, and what they read of it.
-/
namespace Go.Cas
open Go.Pct Go.Xml Go.Proofs.YtgfbieplidpebaaGreatDoor
set_option linter.unusedVariables false
set_option linter.unusedSimpArgs false

/-- Content-Type -/
def sCT : List UInt8 := [67, 111, 110, 116, 101, 110, 116, 45, 84, 121, 112, 101]
/-- text/xml -/
def sXml : List UInt8 := [116, 101, 120, 116, 47, 120, 109, 108]
/-- text/html -/
def sHtmlT : List UInt8 := [116, 101, 120, 116, 47, 104, 116, 109, 108]
/-- text/plain -/
def sTextT : List UInt8 := [116, 101, 120, 116, 47, 112, 108, 97, 105, 110]
/-- cas:serviceResponse -/
def sResp : List UInt8 := [99, 97, 115, 58, 115, 101, 114, 118, 105, 99, 101, 82, 101, 115, 112, 111, 110, 115, 101]
/-- xmlns:cas -/
def sNs : List UInt8 := [120, 109, 108, 110, 115, 58, 99, 97, 115]
/-- http://www.yale.edu/tp/cas -/
def sSpace : List UInt8 := [104, 116, 116, 112, 58, 47, 47, 119, 119, 119, 46, 121, 97, 108, 101, 46, 101, 100, 117, 47, 116, 112, 47, 99, 97, 115]
/-- cas:authenticationSuccess -/
def sSuc : List UInt8 := [99, 97, 115, 58, 97, 117, 116, 104, 101, 110, 116, 105, 99, 97, 116, 105, 111, 110, 83, 117, 99, 99, 101, 115, 115]
/-- cas:user -/
def sUser : List UInt8 := [99, 97, 115, 58, 117, 115, 101, 114]
/-- cas:attributes -/
def sAttrs : List UInt8 := [99, 97, 115, 58, 97, 116, 116, 114, 105, 98, 117, 116, 101, 115]
/-- cas:proxyGrantingTicket -/
def sIou : List UInt8 := [99, 97, 115, 58, 112, 114, 111, 120, 121, 71, 114, 97, 110, 116, 105, 110, 103, 84, 105, 99, 107, 101, 116]
/-- cas:proxies -/
def sProxies : List UInt8 := [99, 97, 115, 58, 112, 114, 111, 120, 105, 101, 115]
/-- cas:proxy -/
def sProxy : List UInt8 := [99, 97, 115, 58, 112, 114, 111, 120, 121]
/-- cas:authenticationFailure -/
def sAF : List UInt8 := [99, 97, 115, 58, 97, 117, 116, 104, 101, 110, 116, 105, 99, 97, 116, 105, 111, 110, 70, 97, 105, 108, 117, 114, 101]
/-- ticket or service is not good -/
def sNotOk : List UInt8 := [116, 105, 99, 107, 101, 116, 32, 111, 114, 32, 115, 101, 114, 118, 105, 99, 101, 32, 105, 115, 32, 110, 111, 116, 32, 103, 111, 111, 100]
/-- cas:proxyFailure -/
def sPF : List UInt8 := [99, 97, 115, 58, 112, 114, 111, 120, 121, 70, 97, 105, 108, 117, 114, 101]
/-- no ticket is given -/
def sNoPt : List UInt8 := [110, 111, 32, 116, 105, 99, 107, 101, 116, 32, 105, 115, 32, 103, 105, 118, 101, 110]
/-- cas:proxySuccess -/
def sPS : List UInt8 := [99, 97, 115, 58, 112, 114, 111, 120, 121, 83, 117, 99, 99, 101, 115, 115]
/-- cas:proxyTicket -/
def sPT : List UInt8 := [99, 97, 115, 58, 112, 114, 111, 120, 121, 84, 105, 99, 107, 101, 116]
/-- cas: -/
def sCas : List UInt8 := [99, 97, 115, 58]
/-- code -/
def sCode : List UInt8 := [99, 111, 100, 101]
/-- input -/
def sInput : List UInt8 := [105, 110, 112, 117, 116]
/-- name -/
def sName : List UInt8 := [110, 97, 109, 101]
/-- value -/
def sValue : List UInt8 := [118, 97, 108, 117, 101]
/-- lt -/
def sLt : List UInt8 := [108, 116]
/-- service -/
def sService : List UInt8 := [115, 101, 114, 118, 105, 99, 101]
/-- username -/
def sUn : List UInt8 := [117, 115, 101, 114, 110, 97, 109, 101]
/-- password -/
def sPw : List UInt8 := [112, 97, 115, 115, 119, 111, 114, 100]
/-- form -/
def sForm : List UInt8 := [102, 111, 114, 109]
/-- action -/
def sAction : List UInt8 := [97, 99, 116, 105, 111, 110]
/-- /login -/
def sLogin : List UInt8 := [47, 108, 111, 103, 105, 110]
/-- method -/
def sMethod : List UInt8 := [109, 101, 116, 104, 111, 100]
/-- post -/
def sPost : List UInt8 := [112, 111, 115, 116]
/-- html -/
def sHtml : List UInt8 := [104, 116, 109, 108]
/-- body -/
def sBody : List UInt8 := [98, 111, 100, 121]
/-- p -/
def sP : List UInt8 := [112]
/-- class -/
def sClass : List UInt8 := [99, 108, 97, 115, 115]
/-- INVALID_REQUEST -/
def cReq : List UInt8 := [73, 78, 86, 65, 76, 73, 68, 95, 82, 69, 81, 85, 69, 83, 84]
/-- INVALID_TICKET -/
def cTkt : List UInt8 := [73, 78, 86, 65, 76, 73, 68, 95, 84, 73, 67, 75, 69, 84]
/-- INVALID_TICKET_SPEC -/
def cSpec : List UInt8 := [73, 78, 86, 65, 76, 73, 68, 95, 84, 73, 67, 75, 69, 84, 95, 83, 80, 69, 67]
/-- INVALID_SERVICE -/
def cSvc : List UInt8 := [73, 78, 86, 65, 76, 73, 68, 95, 83, 69, 82, 86, 73, 67, 69]
/-- UNAUTHORIZED_SERVICE -/
def cUna : List UInt8 := [85, 78, 65, 85, 84, 72, 79, 82, 73, 90, 69, 68, 95, 83, 69, 82, 86, 73, 67, 69]
/-- INVALID_PROXY_CALLBACK -/
def cCb : List UInt8 := [73, 78, 86, 65, 76, 73, 68, 95, 80, 82, 79, 88, 89, 95, 67, 65, 76, 76, 66, 65, 67, 75]
/-- INTERNAL_ERROR -/
def cInt : List UInt8 := [73, 78, 84, 69, 82, 78, 65, 76, 95, 69, 82, 82, 79, 82]

abbrev Pr := List UInt8 × List UInt8
structure Suc where
  user : List UInt8
  attrs : List Pr
  proxies : List (List UInt8)
  iou : List UInt8
def suc0 : Suc := ⟨[], [], [], []⟩
/-- the code of an error -/
def codeE (e : Int) : List UInt8 := if e = 33 then cReq else if e = 30 then cTkt else if e = 32 then cSpec else if e = 31 then cSvc else if e = 36 then cUna else if e = 34 then cCb else if e = 0 then [] else cInt
/-- the first error of a code -/
def knownE (c : List UInt8) : Option Nat := (List.range 39).find? (fun i => decide (codeE ((i + 1 : Nat) : Int) = c))

/-! ### elements -/
def nmN : Nd → List UInt8 | .mk n _ _ _ => n
def atN : Nd → List Pr | .mk _ a _ _ => a
def txN : Nd → List UInt8 | .mk _ _ t _ => t
def kdN : Nd → List Nd | .mk _ _ _ k => k
def leafN (n t : List UInt8) : Nd := .mk n [] t []
def wrapN (n : List UInt8) (k : List Nd) : Nd := .mk n [] [] k
def failN (name s code : List UInt8) : Nd := .mk name [(sCode, code)] s []
def casN (x : Nd) : Nd := .mk sResp [(sNs, sSpace)] [] [x]
def attrK (a : List Pr) : List Nd := a.map fun p => leafN (sCas ++ p.1) p.2
def proxK (l : List (List UInt8)) : List Nd := l.map fun p => leafN sProxy p
def k1 (s : Suc) (at' : Bool) : List Nd := if at' = true ∧ s.attrs ≠ [] then [wrapN sAttrs (attrK s.attrs)] else []
def k2 (s : Suc) : List Nd := if s.iou ≠ [] then [leafN sIou s.iou] else []
def k3 (s : Suc) : List Nd := if s.proxies ≠ [] then [wrapN sProxies (proxK s.proxies)] else []
def sucK (s : Suc) (at' : Bool) : List Nd := [leafN sUser s.user] ++ k1 s at' ++ k2 s ++ k3 s
def sucN (s : Suc) (at' : Bool) : Nd := wrapN sSuc (sucK s at')
def answerN (s : Suc) (e : Int) (at' : Bool) : Nd := casN (if e = 0 then sucN s at' else failN sAF sNotOk (codeE e))
def proxyN (pt : List UInt8) (e : Int) : Nd := casN (if e = 0 then wrapN sPS [leafN sPT pt] else failN sPF sNoPt (codeE e))
def inputN (a b : List UInt8) : Nd := .mk sInput [(sName, a), (sValue, b)] [] []
def formN (lt sv : List UInt8) : Nd := .mk sForm [(sAction, sLogin), (sMethod, sPost)] [] [inputN sLt lt, inputN sService sv, inputN sUn [], inputN sPw []]
def htmlN (k : List Nd) : Nd := wrapN sHtml [wrapN sBody k]
def formPN (lt sv wrong : List UInt8) : Nd := htmlN (if wrong = [] then [formN lt sv] else [leafN sP wrong, formN lt sv])
def pageN (kind s : List UInt8) : Nd := htmlN [.mk sP [(sClass, kind)] s []]
/-- what is written -/
def wr (x : Nd) : List UInt8 := if rightN x = true then textN x else []
structure Rs where
  status : Int
  headers : List Pr
  body : List UInt8
def rsp (kind : List UInt8) (x : Nd) : Rs := ⟨200, [(sCT, kind)], wr x⟩
def sameR (r q : Rs) : Bool := decide (r.status = q.status) && decide (r.body = q.body) && decide (¬ r.body = []) && decide (r.headers = q.headers)

/-! ### what is read -/
def findN : Nd → List (List UInt8) → Option Nd
  | x, [] => some x
  | x, p :: l => match (kdN x).find? (fun y => decide (nmN y = p)) with
    | some y => findN y l
    | none => none
def rd (r : Rs) : Nd := (readP r.body).getD nodeZ
def foundN (x : Nd) (path : List (List UInt8)) : Nd := (findN x path).getD nodeZ
def trimC (s : List UInt8) : List UInt8 := if sCas.isPrefixOf s then s.drop 4 else s
/-- a code, its error, and whether it is a failure's -/
def failedT (n : Nd) (name : List UInt8) : List UInt8 × Int × Bool :=
  if (findN n [name]).isSome = true ∧ (atN (foundN n [name])).length = 1 then
    (((atN (foundN n [name])).getD 0 default).2, match knownE ((atN (foundN n [name])).getD 0 default).2 with | some i => (((i + 1 : Nat) : Int), true) | none => (0, false))
  else ([], 0, false)
def sucOf (n : Nd) : Suc := ⟨txN (foundN n [sSuc, sUser]), (kdN (foundN n [sSuc, sAttrs])).map (fun k => (trimC (nmN k), txN k)), (kdN (foundN n [sSuc, sProxies])).map txN, txN (foundN n [sSuc, sIou])⟩
def readAnswerP (r : Rs) : Suc × List UInt8 × Bool :=
  if (failedT (rd r) sAF).2.2 = true ∧ sameR r (rsp sXml (answerN suc0 (failedT (rd r) sAF).2.1 true)) = true then (suc0, (failedT (rd r) sAF).1, true)
  else if sameR r (rsp sXml (answerN (sucOf (rd r)) 0 true)) = true then (sucOf (rd r), [], true) else (suc0, [], false)
def readProxyP (r : Rs) : List UInt8 × List UInt8 × Bool :=
  if (failedT (rd r) sPF).2.2 = true ∧ sameR r (rsp sXml (proxyN [] (failedT (rd r) sPF).2.1)) = true then ([], (failedT (rd r) sPF).1, true)
  else if sameR r (rsp sXml (proxyN (txN (foundN (rd r) [sPS, sPT])) 0)) = true then (txN (foundN (rd r) [sPS, sPT]), [], true) else ([], [], false)
def at2 (x : Nd) (i : Nat) : List UInt8 := ((atN ((kdN x).getD i nodeZ)).getD 1 default).2
def formOk (f : Nd) : Prop := (kdN f).length = 4 ∧ (atN ((kdN f).getD 0 nodeZ)).length = 2 ∧ (atN ((kdN f).getD 1 nodeZ)).length = 2
instance (f : Nd) : Decidable (formOk f) := by unfold formOk; exact inferInstance
def readFormP (r : Rs) : List UInt8 × List UInt8 × List UInt8 × Bool :=
  if formOk (foundN (rd r) [sBody, sForm]) ∧ sameR r (rsp sHtmlT (formPN (at2 (foundN (rd r) [sBody, sForm]) 0) (at2 (foundN (rd r) [sBody, sForm]) 1) (txN (foundN (rd r) [sBody, sP])))) = true then
    (at2 (foundN (rd r) [sBody, sForm]) 0, at2 (foundN (rd r) [sBody, sForm]) 1, txN (foundN (rd r) [sBody, sP]), true)
  else ([], [], [], false)
def readPageP (r : Rs) : List UInt8 × List UInt8 × Bool :=
  if (atN (foundN (rd r) [sBody, sP])).length = 1 ∧ sameR r (rsp sHtmlT (pageN ((atN (foundN (rd r) [sBody, sP])).getD 0 default).2 (txN (foundN (rd r) [sBody, sP])))) = true then
    (((atN (foundN (rd r) [sBody, sP])).getD 0 default).2, txN (foundN (rd r) [sBody, sP]), true)
  else ([], [], false)

/-! ### sizes -/
theorem leaf_len (n t : List UInt8) : (textN (leafN n t)).length ≤ 2 * n.length + 5 + 6 * t.length := by
  have := esc_length t
  simp only [leafN, textN, textL, attrT, List.flatMap_nil, List.length_append, List.length_cons, List.length_nil]
  omega
theorem wrap_len (n : List UInt8) (k : List Nd) : (textN (wrapN n k)).length = 2 * n.length + 5 + (textL k).length := by
  simp only [wrapN, textN, attrT, List.flatMap_nil, esc, List.length_append, List.length_cons, List.length_nil]
  omega
theorem textL_app (k l : List Nd) : (textL (k ++ l)).length = (textL k).length + (textL l).length := by
  rw [textL_append, List.length_append]
theorem textL_le {K : Nat} : ∀ {l : List Nd}, (∀ x ∈ l, (textN x).length ≤ K) → (textL l).length ≤ l.length * K
  | [], _ => by simp [textL]
  | x :: l, h => by
    have h1 := h x (List.mem_cons_self ..)
    have h2 := textL_le (l := l) (fun y hy => h y (List.mem_cons_of_mem _ hy))
    rw [textL, List.length_append, List.length_cons, Nat.add_mul]
    omega
theorem code_len (e : Int) : (codeE e).length ≤ 22 := by
  unfold codeE
  repeat' split
  all_goals decide
/-- so many, so long -/
structure SmS (s : Suc) (N K : Nat) : Prop where
  user : s.user.length ≤ K
  iou : s.iou.length ≤ K
  nattrs : s.attrs.length ≤ N
  nprox : s.proxies.length ≤ N
  attrs : ∀ p ∈ s.attrs, p.1.length ≤ K ∧ p.2.length ≤ K
  prox : ∀ p ∈ s.proxies, p.length ≤ K
theorem sm_zero (N K : Nat) : SmS suc0 N K := ⟨Nat.zero_le _, Nat.zero_le _, Nat.zero_le _, Nat.zero_le _, fun p hp => by simp [suc0] at hp, fun p hp => by simp [suc0] at hp⟩
theorem SmS.mono {s : Suc} {N K N' K' : Nat} (h : SmS s N K) (hN : N ≤ N') (hK : K ≤ K') : SmS s N' K' :=
  ⟨Nat.le_trans h.user hK, Nat.le_trans h.iou hK, Nat.le_trans h.nattrs hN, Nat.le_trans h.nprox hN, fun p hp => ⟨Nat.le_trans (h.attrs p hp).1 hK, Nat.le_trans (h.attrs p hp).2 hK⟩, fun p hp => Nat.le_trans (h.prox p hp) hK⟩
theorem suc_len {s : Suc} {N K : Nat} (h : SmS s N K) (at' : Bool) : (textN (sucN s at')).length ≤ 400 + 12 * K + N * (60 + 14 * K) := by
  have h0 := leaf_len sUser s.user
  have h2 := leaf_len sIou s.iou
  have ha : (textL (attrK s.attrs)).length ≤ s.attrs.length * (13 + 8 * K) := by
    have := textL_le (l := attrK s.attrs) (K := 13 + 8 * K) (fun x hx => by
      obtain ⟨p, hp, rfl⟩ := List.mem_map.1 hx
      have e := h.attrs p hp
      have e2 := leaf_len (sCas ++ p.1) p.2
      have e3 : sCas.length = 4 := rfl
      rw [List.length_append, e3] at e2
      show (textN (leafN (sCas ++ p.1) p.2)).length ≤ _
      omega)
    simpa [attrK] using this
  have hp : (textL (proxK s.proxies)).length ≤ s.proxies.length * (23 + 6 * K) := by
    have := textL_le (l := proxK s.proxies) (K := 23 + 6 * K) (fun x hx => by
      obtain ⟨p, hp, rfl⟩ := List.mem_map.1 hx
      have e := h.prox p hp
      have e2 := leaf_len sProxy p
      have e3 : sProxy.length = 9 := rfl
      rw [e3] at e2
      show (textN (leafN sProxy p)).length ≤ _
      omega)
    simpa [proxK] using this
  have ha2 : s.attrs.length * (13 + 8 * K) ≤ N * (13 + 8 * K) := Nat.mul_le_mul_right _ h.nattrs
  have hp2 : s.proxies.length * (23 + 6 * K) ≤ N * (23 + 6 * K) := Nat.mul_le_mul_right _ h.nprox
  have hN : N * (60 + 14 * K) = N * (13 + 8 * K) + N * (23 + 6 * K) + N * 24 := by
    rw [← Nat.mul_add, ← Nat.mul_add]; congr 1; omega
  have l1 : (textL (k1 s at')).length ≤ 33 + (textL (attrK s.attrs)).length := by
    unfold k1
    split
    · rw [textL, textL, List.append_nil, wrap_len]
      have : sAttrs.length = 14 := rfl
      omega
    · simp [textL]
  have l2 : (textL (k2 s)).length ≤ 51 + 6 * s.iou.length := by
    unfold k2
    split
    · rw [textL, textL, List.append_nil]
      have : sIou.length = 23 := rfl
      omega
    · simp [textL]
  have l3 : (textL (k3 s)).length ≤ 27 + (textL (proxK s.proxies)).length := by
    unfold k3
    split
    · rw [textL, textL, List.append_nil, wrap_len]
      have : sProxies.length = 11 := rfl
      omega
    · simp [textL]
  have hu := h.user
  have hi := h.iou
  unfold sucN sucK
  rw [wrap_len, textL_app, textL_app, textL_app, textL, textL, List.append_nil]
  have e1 : sSuc.length = 25 := rfl
  have e2 : sUser.length = 8 := rfl
  omega
theorem fail_len (name s c : List UInt8) : (textN (failN name s c)).length ≤ 2 * name.length + 13 + 6 * s.length + 6 * c.length := by
  have h1 := esc_length s
  have h2 := esc_length c
  have e : sCode.length = 4 := rfl
  simp only [failN, textN, textL, attrT, List.flatMap_cons, List.flatMap_nil, List.length_append, List.length_cons, List.length_nil, e]
  omega
theorem cas_len (x : Nd) : (textN (casN x)).length = 82 + (textN x).length := by
  have e1 : sResp.length = 19 := rfl
  have e2 : sNs.length = 9 := rfl
  have e3 : (esc sSpace).length = 26 := by decide +kernel
  have e4 : (esc []).length = 0 := rfl
  simp only [casN, textN, textL, attrT, List.flatMap_cons, List.flatMap_nil, List.length_append, List.length_cons, List.length_nil, e1, e2, e3, e4]
  omega
theorem answer_len {s : Suc} {N K : Nat} (h : SmS s N K) (e : Int) (at' : Bool) : (textN (answerN s e at')).length ≤ 700 + 12 * K + N * (60 + 14 * K) := by
  unfold answerN
  rw [cas_len]
  split
  · have := suc_len h at'
    omega
  · have h1 := fail_len sAF sNotOk (codeE e)
    have h2 := code_len e
    have e1 : sAF.length = 25 := rfl
    have e2 : sNotOk.length = 29 := rfl
    omega
theorem proxy_len (pt : List UInt8) (e : Int) : (textN (proxyN pt e)).length ≤ 600 + 6 * pt.length := by
  unfold proxyN
  rw [cas_len]
  split
  · rw [wrap_len, textL, textL, List.append_nil]
    have h1 := leaf_len sPT pt
    have e1 : sPS.length = 16 := rfl
    have e2 : sPT.length = 15 := rfl
    omega
  · have h1 := fail_len sPF sNoPt (codeE e)
    have h2 := code_len e
    have e1 : sPF.length = 16 := rfl
    have e2 : sNoPt.length = 18 := rfl
    omega
theorem input_len (a b : List UInt8) : (textN (inputN a b)).length ≤ 50 + 6 * a.length + 6 * b.length := by
  have h1 := esc_length a
  have h2 := esc_length b
  have e1 : sInput.length = 5 := rfl
  have e2 : sName.length = 4 := rfl
  have e3 : sValue.length = 5 := rfl
  have e4 : (esc []).length = 0 := rfl
  simp only [inputN, textN, textL, attrT, List.flatMap_cons, List.flatMap_nil, List.length_append, List.length_cons, List.length_nil, e1, e2, e3, e4]
  omega
theorem form_len (a b : List UInt8) : (textN (formN a b)).length ≤ 600 + 6 * a.length + 6 * b.length := by
  have h1 := input_len sLt a
  have h2 := input_len sService b
  have h3 := input_len sUn []
  have h4 := input_len sPw []
  have e1 : sForm.length = 4 := rfl
  have e2 : sAction.length = 6 := rfl
  have e3 : sMethod.length = 6 := rfl
  have e4 : (esc sLogin).length = 6 := by decide +kernel
  have e5 : (esc sPost).length = 4 := by decide +kernel
  have e6 : (esc []).length = 0 := rfl
  have e7 : sLt.length = 2 := rfl
  have e8 : sService.length = 7 := rfl
  have e9 : sUn.length = 8 := rfl
  have e10 : sPw.length = 8 := rfl
  simp only [List.length_nil] at h3 h4
  rw [formN, textN]
  simp only [textL, attrT, List.flatMap_cons, List.flatMap_nil, List.length_append, List.length_cons, List.length_nil, e1, e2, e3, e4, e5, e6]
  omega
theorem html_len (k : List Nd) : (textN (htmlN k)).length = 26 + (textL k).length := by
  unfold htmlN
  rw [wrap_len, textL, textL, List.append_nil, wrap_len]
  have e1 : sHtml.length = 4 := rfl
  have e2 : sBody.length = 4 := rfl
  omega
theorem formP_len (a b c : List UInt8) : (textN (formPN a b c)).length ≤ 700 + 6 * a.length + 6 * b.length + 6 * c.length := by
  unfold formPN
  rw [html_len]
  have h := form_len a b
  split
  · rw [textL, textL, List.append_nil]; omega
  · rw [textL, textL, textL, List.append_nil, List.length_append]
    have h2 := leaf_len sP c
    have e : sP.length = 1 := rfl
    omega
theorem pageN_len (a b : List UInt8) : (textN (pageN a b)).length ≤ 100 + 6 * a.length + 6 * b.length := by
  unfold pageN
  rw [html_len, textL, textL, List.append_nil]
  have h1 := esc_length a
  have h2 := esc_length b
  have e1 : sP.length = 1 := rfl
  have e2 : sClass.length = 5 := rfl
  simp only [textN, textL, attrT, List.flatMap_cons, List.flatMap_nil, List.length_append, List.length_cons, List.length_nil, e1, e2]
  omega
end Go.Cas
/-
  A text turned into bytes of the call's own, that are changed in place. Nothing of the program stands here.
-/
namespace Go.Eng
open Go.RowKit
set_option linter.unusedVariables false
section
variable {P : Program} {n : Nat} {E : Env} {k : Kont} {ops : Array Oper} {rest : List Oper} {cg : Bool}
variable {dst : Option Tmp} {ty : TypeId} {pos : String} {af : Array Edge} {g : Option (Nat × Bool)}
variable {w0 : World} {bs : List Nat} {H : List (Nat × Obj)} {M : Ghost} {C : World → Prop} {x y : Operand} {cx cy : Bool}
/-- a new block behind a call's old ones -/
theorem St.grow {w w' : World} {o : Obj} (h : St w0 bs H M w) (hx : Ext w w') (hb : w'.heap[w.heap.size]? = some o) : St w0 bs ((w.heap.size, o) :: H) M w' where
  keep := h.keep.trans hx.to
  own := by
    intro p hp
    rcases List.mem_cons.1 hp with rfl | hp
    · exact hb
    · exact (h.ext hx).own p hp
  new := by
    intro p hp
    rcases List.mem_cons.1 hp with rfl | hp
    · exact .inl h.keep.size
    · exact h.new p hp
  nodup := by
    simp only [List.map_cons, List.nodup_cons]
    refine ⟨?_, h.nodup⟩
    intro hm
    obtain ⟨p, hp, e⟩ := List.mem_map.1 hm
    have := lt_of_get (h.own p hp)
    omega
  laid := h.laid.ext hx
  apart := by
    intro b o' hm p hp
    rcases List.mem_cons.1 hp with rfl | hp
    · have := lt_of_get (h.laid b o' hm); simp; omega
    · exact h.apart b o' hm p hp
/-- the cells of a row of bytes -/
def rowB (l : List UInt8) (pad : Nat) : List Value := l.map byt ++ List.replicate pad (.int .u8 0)
theorem rowB_at {l : List UInt8} {pad i : Nat} (h : i < l.length) : (rowB l pad)[i]? = some (byt (l.getD i 0)) := by
  unfold rowB
  rw [List.getElem?_append_left (by simpa using h), List.getElem?_map, List.getElem?_eq_getElem h]
  simp [h]
theorem rowB_set {l : List UInt8} {pad i : Nat} {c : UInt8} (h : i < l.length) : (rowB l pad).set i (byt c) = rowB (l.set i c) pad := by
  unfold rowB
  rw [List.set_append_left _ _ (by simpa using h), List.map_set]
theorem rowB_length (l : List UInt8) (pad : Nat) : (rowB l pad).length = l.length + pad := by simp [rowB]
/-- '[]byte(s)' -/
theorem wl_bytesOf {src dst' e : TypeId} {u : TypeDesc} {s : List UInt8} {d : Nat} (hg : gd ops E g = some true) (hx : ev E x = some (true, str s)) (hs : P.underlying src = some u) (hd' : P.underlying dst' = some (.slice e)) (he : P.underlying e = some (.int .u8)) (hd : Nat.blt d n = true)
    (h : ∀ b cap pad, s.length ≤ cap → WL P ops rest n ((d, true, .slice (some ⟨b, 0, none⟩) s.length cap) :: E) (St w0 bs ((b, .cells (rowB s pad).toArray e (s.length + pad, s.length + pad + 1)) :: H) M) k) :
    WL P ops (⟨some d, .convert src dst' x, ty, pos, af, g⟩ :: rest) n E (St w0 bs H M) k := by
  have hd : d < n := by simpa [Nat.blt_eq] using hd
  refine wl_op hg fun a w ha hw => ?_
  unfold Oper.wp
  have hr := Lib.run_convert_string_bytes (P := P) w src dst' e ⟨s.toArray⟩ hs hd' he
  have : (execOp a.eval ⟨some d, .convert src dst' x, ty, pos, af, g⟩).run P w = .ok (.value (.slice (some ⟨w.heap.size, 0, none⟩) (⟨s.toArray⟩ : ByteArray).size (grownCap w (⟨s.toArray⟩ : ByteArray).size 0 e))) (Lib.bytesWorld w e ⟨s.toArray⟩) := by
    simp [execOp, ha.eval hx, hr]
  rw [this, Oper.upon_value, size_str]
  have hx : Ext w (Lib.bytesWorld w e ⟨s.toArray⟩) := ⟨rfl, rfl, rfl, by rw [Lib.bytesWorld_size]; omega, fun b hb _ => Lib.bytesWorld_at_old w e _ b hb⟩
  have hcells : Lib.bytesCells w e ⟨s.toArray⟩ = (rowB s (grownCap w s.length 0 e - s.length)).toArray := by
    unfold Lib.bytesCells rowB
    rw [size_str]
    simp
  have hnew := Lib.bytesWorld_at_new w e ⟨s.toArray⟩
  rw [hcells] at hnew
  have hsz : (rowB s (grownCap w s.length 0 e - s.length)).toArray.size = s.length + (grownCap w s.length 0 e - s.length) := by simp [rowB]
  rw [hsz] at hnew
  exact (h w.heap.size _ (grownCap w s.length 0 e - s.length) (grownCap_ge w s.length 0 e)).run _ _ (ha.put hd rfl) (hw.grow hx hnew)
/-- a byte stored into such a row -/
theorem wl_storeB {t : TypeId} {b i : Nat} {l : List UInt8} {pad : Nat} {T : TypeId} {c : UInt8} {z : Int} {H' : List (Nat × Obj)} (hg : gd ops E g = some true) (hx : ev E x = some (true, .pointer (some ⟨b, i, none⟩))) (hy : ev E y = some (true, .int .u8 z)) (hz : z = (c.toNat : Int)) (hi : i < l.length) (hs : (P.info? t).map (·.size) = some 1)
    (hu : Upd H b (.cells (rowB l pad).toArray T (l.length + pad, l.length + pad + 1)) (.cells (rowB (l.set i c) pad).toArray T (l.length + pad, l.length + pad + 1)) H')
    (h : WL P ops rest n E (St w0 bs H' M) k) : WL P ops (⟨none, .store t x y, ty, pos, af, g⟩ :: rest) n E (St w0 bs H M) k := by
  refine wl_op hg fun a w ha hw => ?_
  subst hz
  have hb := hw.get hu.mem
  have hc : w.cell? ⟨b, i, none⟩ = some (byt (l.getD i 0)) := by rw [cell_of hb]; simpa using rowB_at hi
  have hf : w.frozen? ⟨b, i, none⟩ = false := by
    simp only [World.frozen?, hb]
    rw [Bool.and_eq_false_iff]; left
    exact decide_eq_false (by omega)
  have hst : (store ⟨b, i, none⟩ (byt c)).run P w = .ok () (w.setCell ⟨b, i, none⟩ (byt c)) := by simp [store, Sem.run, hc, hf]
  unfold Oper.wp
  have : (execOp a.eval ⟨none, .store t x y, ty, pos, af, g⟩).run P w = .ok .skip (w.setCell ⟨b, i, none⟩ (byt c)) := by
    simp [execOp, ha.eval hx, ha.eval hy, Instr.storeAt, Instr.sureAddr, storeVar, run_sizeOf hs, Value.cells, storeCells, add_addr, hst]
  rw [this, Oper.upon_skip]
  refine h.run _ _ (by simpa [Act.put] using ha) (hw.upd hu setCell_keep ?_)
  simp only [World.setCell, Array.getElem?_modify, hb, if_true, Option.map_some]
  rw [← rowB_set hi]
  simp
theorem bytesOf_row (l : List UInt8) : bytesOf (l.map byt) = some l := by
  induction l with
  | nil => rfl
  | cons c l ih => simp only [List.map_cons, bytesOf, ih]; simp
/-- the text that such a row tells -/
theorem ov_rowStr {src dst' e : TypeId} {b len cap pad : Nat} {T : TypeId} {fz : Nat × Nat} {l : List UInt8} (hx : ev E x = some (cx, .slice (some ⟨b, 0, none⟩) len cap)) (hlen : len = l.length) (h1 : Imp cg cx) (hs : P.underlying src = some (.slice e)) (he : P.underlying e = some (.int .u8)) (hd : P.underlying dst' = some .string)
    (hm : (b, Obj.cells (rowB l pad).toArray T fz) ∈ H) : OpV P n E (St w0 bs H M) ⟨dst, .convert src dst' x, ty, pos, af, g⟩ cg (str l) :=
  ov_run fun h a ha w hw => by
    subst hlen
    have hx' : a.eval x = .slice (some ⟨b, 0, none⟩) (l.map byt).length cap := by rw [List.length_map]; exact ha.evalc hx (h1 h)
    simp only [execOp, hx', Sem.run_bind]
    rw [run_convBytes (o := 0) (vs := l.map byt) hs he hd (hw.get hm) (fun j hj => by
      rw [Nat.zero_add]
      have hj2 : j < l.length := by simpa using hj
      have := rowB_at (pad := pad) hj2
      rw [List.getElem?_map, List.getElem?_eq_getElem hj2]
      simp only [List.getElem?_toArray, this]
      simp [hj2]) (bytesOf_row l)]
    rfl
/-- less of a slice that the call owns -/
theorem OwnS.shrink {e : TypeId} {m b len cap q : Nat} {Hs : List (Nat × Obj)} {xs : List Value} (h : OwnS e m (.slice (some ⟨b, 0, none⟩) len cap) Hs xs) (hq : q ≤ len) : OwnS e m (.slice (some ⟨b, 0, none⟩) q cap) Hs (xs.take (q * m)) := by
  rcases h with ⟨h, _⟩ | ⟨b', len', cap', cur, h1, h2, h3, h4, h5, h6, h7⟩
  · cases h
  · cases h1
    have hm : q * m ≤ len * m := Nat.mul_le_mul_right _ hq
    refine .inr ⟨b, q, cap, cur, rfl, h2, ?_, by omega, h5, h6, ?_⟩
    · rw [List.length_take, h3]; omega
    · rw [← h7, List.take_take, Nat.min_eq_left hm]
/-- the larger of two numbers -/
theorem ov_max {kd : IntKind} {u z r : Int} {ats : Array TypeId} (hx : ev E x = some (cx, .int kd u)) (hy : ev E y = some (cy, .int kd z)) (h1 : Imp cg cx) (h2 : Imp cg cy) (hr : (if z > u then z else u) = r) : OpV P n E C ⟨dst, .call ⟨.builtin .max, #[x, y], ats⟩, ty, pos, af, g⟩ cg (.int kd r) :=
  ov_run fun h a ha w _ => by
    subst hr
    simp [execOp, resolve, invoke, builtin, ha.evalc hx (h1 h), ha.evalc hy (h2 h), run_max_int2]
/-- append out of another row of the call's own, as much of it as there is -/
theorem wl_appendO {s src : Operand} {t e : TypeId} {m by' d : Nat} {i : TypeInfo} {z v : Value} {Hs H0 : List (Nat × Obj)} {xs news : List Value} {b c len2 : Nat} {cs : Array Value} {T2 : TypeId} {fz : Nat × Nat} (hg : gd ops E g = some true) (hown : OwnS e m v Hs xs) (hd : Nat.blt d n = true)
    (hx : ev E s = some (true, v)) (hy : ev E src = some (true, .slice (some ⟨b, 0, none⟩) len2 c)) (ht : P.underlying t = some (.slice e)) (hi : P.info? e = some i) (hz : i.zero = some z) (hsz : i.size = m) (hby : i.bytes = by') (hzs : z.cells.size = m) (hm : Nat.blt 0 m = true)
    (hmem : (b, Obj.cells cs T2 fz) ∈ H) (hnews : ∀ (j : Nat) (u : Value), news[j]? = some u → cs[j]? = some u) (hl2 : news.length = len2 * m) (hp : news.all plainV = true) (hsub : List.Sublist (Hs ++ H0) H) (hb1 : xs.length / m + len2 ≤ 1000000000) (hb2 : Nat.ble by' 140000 = true)
    (h : ∀ v' Hs', OwnS e m v' Hs' (xs ++ news) → WL P ops rest n ((d, true, v') :: E) (St w0 bs (Hs' ++ H0) M) k) :
    WL P ops (⟨some d, .call ⟨.builtin .append, #[s, src], #[t, t]⟩, ty, pos, af, g⟩ :: rest) n E (St w0 bs H M) k := by
  have hd : d < n := by simpa [Nat.blt_eq] using hd
  refine wl_op hg fun a w ha hw => ?_
  obtain ⟨v', Hs', w', hr, h2, h3⟩ := run_append' (ty := ty) (ad := ⟨b, 0, none⟩) (c := c) ht hi hz hsz hby hzs (by simpa [Nat.blt_eq] using hm) hown (hw.drop hsub) hl2 (fun j u hj => by rw [add_addr, cell_of (hw.get hmem), Nat.zero_add]; exact hnews j u hj) hp hb1 (Nat.le_of_ble_eq_true hb2)
  unfold Oper.wp
  rw [run_appendOp (ha.eval hx) (ha.eval hy) hr, Oper.upon_value]
  exact (h v' Hs' h2).run _ _ (ha.put hd rfl) h3
theorem yr_cellS {fn : Func} {t u b : Nat} {tid : TypeId} {fs : Array Field} {l : List Value} {T : TypeId} {fz : Nat × Nat} {r r' : Value} {v : Value} (hr : fn.results = #[.cell t tid, .tmp u]) (ht : look E t = some (true, .pointer (some ⟨b, 0, none⟩))) (hu : look E u = some (true, r'))
    (hty : P.underlying tid = some (.struct fs)) (hs : (P.info? tid).map (·.size) = some l.length) (hv : .agg l.toArray = v) (hv2 : r' = r) (hm : (b, Obj.cells l.toArray T fz) ∈ H := by exact (by first | exact List.Mem.head _ | exact List.Mem.tail _ (List.Mem.head _) | exact List.Mem.tail _ (List.Mem.tail _ (List.Mem.head _)) | exact List.Mem.tail _ (List.Mem.tail _ (List.Mem.tail _ (List.Mem.head _))) | exact List.Mem.tail _ (List.Mem.tail _ (List.Mem.tail _ (List.Mem.tail _ (List.Mem.head _)))) | exact List.mem_append_right _ (List.Mem.head _) | exact List.mem_append_right _ (List.Mem.tail _ (List.Mem.head _)) | exact List.mem_append_right _ (List.Mem.tail _ (List.Mem.tail _ (List.Mem.head _))) | exact List.mem_append_right _ (List.Mem.tail _ (List.Mem.tail _ (List.Mem.tail _ (List.Mem.head _)))) | exact List.Mem.tail _ (List.mem_append_right _ (List.Mem.head _)) | exact List.Mem.tail _ (List.mem_append_right _ (List.Mem.tail _ (List.Mem.head _))) | exact List.Mem.tail _ (List.mem_append_right _ (List.Mem.tail _ (List.Mem.tail _ (List.Mem.head _)))) | exact List.Mem.tail _ (List.mem_append_right _ (List.Mem.tail _ (List.Mem.tail _ (List.Mem.tail _ (List.Mem.head _))))) | exact List.Mem.tail _ (List.Mem.tail _ (List.mem_append_right _ (List.Mem.head _))) | exact List.Mem.tail _ (List.Mem.tail _ (List.mem_append_right _ (List.Mem.tail _ (List.Mem.head _)))) | exact List.Mem.tail _ (List.Mem.tail _ (List.mem_append_right _ (List.Mem.tail _ (List.Mem.tail _ (List.Mem.head _))))))) : WR n E (St w0 [] H M) (bodyPost P fn (RetE w0 (.tuple #[v, r]))) := wr_cellS hr ht hu hty hm hs hv hv2
end
end Go.Eng
