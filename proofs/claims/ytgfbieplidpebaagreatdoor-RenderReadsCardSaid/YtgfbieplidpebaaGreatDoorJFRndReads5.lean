/-
  Texts of a proof, joined: RndO, RndP.
-/
import Derived.Test.YtgfbieplidpebaaGreatDoorJFRndReads1
import Derived.Test.YtgfbieplidpebaaGreatDoorJFRndReads2
import Derived.Test.YtgfbieplidpebaaGreatDoorJFRndReads3
import Derived.Test.YtgfbieplidpebaaGreatDoorJFRndReads4
/-
  What the document writes: matricularef24.one, written, cas, html, input, Proxy, Form, Page.
-/
namespace Go.Proofs.YtgfbieplidpebaaGreatDoor
open Go.Eng Go.Pct Go.Xml Go.Cas
set_option maxRecDepth 10000
set_option linter.unusedSimpArgs false
set_option linter.unusedVariables false

variable {M : Ghost} {w0 w : World} {bs : List Nat} {H : List (Nat × Obj)}
theorem rwritten_ok (hM : Laid M w) (kind : List UInt8) {D : Nat} {x : Nd} {un a1 l1 c1 ut a2 l2 c2} (hx : NodeC M D x [str un, .slice a1 l1 c1, str ut, .slice a2 l2 c2]) (hlen : (textN x).length ≤ 10000000000000) : Calls Tryz.prog 62 #[str kind, .agg [str un, .slice a1 l1 c1, str ut, .slice a2 l2 c2].toArray] w (RetS M w (fun M' H v => H = [] ∧ RspK M' kind (wr x) v)) := by
  have hwr := fun {w : World} (hw : Laid M w) => rwrite_ok hw hx hlen
  generalize (if rightN x = true then (0 : Int) else 1) = e at *
  refine fn2 hM Tryz.func62 ?_
  repeat' (first | refine sk ?_ | (refine gL ?_; first | refine wl_v rfl rfl rfl (by first | (exact oc 74 Tryz.call74 (h := fun hcg w hw => hwr hw.laid))) ?_ | refine xl_alloc (fun _ => ?_) | refine xl_box rfl (fun _ => ?_) | refine xl_store rfl rfl ?_ | refine xl_buildSlice rfl (fun _ => ?_)) | fail)
  rename_i b1 b2 b3
  exact yr_layC (Hn := [(b3, .cells (cellsP [(sCT, kind)]).toArray 50 (0, 0))]) rfl rfl rfl rfl Since.refl (List.Sublist.cons_cons _ (List.nil_sublist _)) ⟨rfl, _, _, _, rfl, slP_blk (l := [(sCT, kind)]) (.inr (List.Mem.head _)) (by simp)⟩
theorem oneL_ok (hM : Laid M w) (n t v : List UInt8) : Calls Tryz.prog 37 #[str n, str t, str [], str v] w (RetE w (.agg [str n, .slice none 0 0, str t, .slice none 0 0].toArray)) := by
  refine fn4 hM Tryz.func37 ?_
  repeat' (first | refine sk ?_ | (refine gL ?_; first | refine xl_alloc (fun _ => ?_) | refine xl_store rfl rfl ?_ | refine xl_buildSlice rfl (fun _ => ?_)) | fail)
  refine wc_cond rfl (fun hc => by exfalso; simp at hc) (fun hc => ?_)
  repeat' (first | refine sk ?_ | (refine gL ?_; first | refine xl_alloc (fun _ => ?_) | refine xl_store rfl rfl ?_ | refine xl_buildSlice rfl (fun _ => ?_)) | fail)
  exact wr_cell1 rfl rfl rfl pM rfl rfl
theorem oneA_ok (hM : Laid M w) (n t key v : List UInt8) (hk : key ≠ []) (h1 : n.length ≤ 100000000) (h2 : t.length ≤ 100000000) (h3 : key.length ≤ 100000000) (h4 : v.length ≤ 100000000) : Calls Tryz.prog 37 #[str n, str t, str key, str v] w (RetS M w (fun M' H u => H = [] ∧ NdIs M' 1 (.mk n [(key, v)] t []) u)) := by
  refine fn4 hM Tryz.func37 ?_
  repeat' (first | refine sk ?_ | (refine gL ?_; first | refine xl_alloc (fun _ => ?_) | refine xl_store rfl rfl ?_ | refine xl_buildSlice rfl (fun _ => ?_)) | fail)
  refine wc_cond rfl (fun hc => ?_) (fun hc => by exfalso; apply hk; simpa using hc)
  repeat' (first | refine sk ?_ | (refine gL ?_; first | refine xl_alloc (fun _ => ?_) | refine xl_store rfl rfl ?_ | refine xl_buildSlice rfl (fun _ => ?_)) | fail)
  rename_i b1 b2 b3
  refine yr_layC (Hn := [(b3, .cells (cellsP [(key, v)]).toArray 50 (0, 0))]) rfl rfl rfl rfl Since.refl (List.Sublist.cons_cons _ (List.nil_sublist _)) ⟨rfl, _, _, _, _, _, _, _, _, rfl, node_mk (slP_blk (l := [(key, v)]) (.inr (List.Mem.head _)) (by simp)) sl_nil h1 h2 (fun p hp => ?_)⟩
  simp only [List.mem_cons, List.not_mem_nil, or_false] at hp
  subst hp
  exact ⟨h3, h4⟩
theorem rcas_ok (hM : Laid M w) {D : Nat} {x : Nd} {un a1 l1 c1 ut a2 l2 c2} (hx : NodeC M D x [str un, .slice a1 l1 c1, str ut, .slice a2 l2 c2]) (hlen : (textN x).length ≤ 1000000000000) : Calls Tryz.prog 36 #[.agg [str un, .slice a1 l1 c1, str ut, .slice a2 l2 c2].toArray] w (RetS M w (fun M' H v => H = [] ∧ RspK M' sXml (wr (casN x)) v)) := by
  refine fn1 hM Tryz.func36 ?_
  repeat' (first | refine sk ?_ | (refine gL ?_; first | refine xl_alloc (fun _ => ?_) | refine xl_box rfl (fun _ => ?_) | refine xl_store rfl rfl ?_ | refine xl_buildSlice rfl (fun _ => ?_)) | fail)
  rename_i b1 b2 ba bk
  refine wl_weak (C' := St w [] ([(bk, .cells [str un, .slice a1 l1 c1, str ut, .slice a2 l2 c2].toArray tNd (0, 0)), (ba, .cells (cellsP [(sNs, sSpace)]).toArray 50 (0, 0))] ++ [(b2, .cells [i64 0, .slice none 0 0, str []].toArray 31 (0, 0))]) M) (Eng.Sub.refl _) (fun _ h => h.drop (List.Sublist.cons_cons _ (List.Sublist.cons_cons _ (List.Sublist.cons_cons _ (List.nil_sublist _))))) ?_
  refine wl_publish (fun hn => ?_)
  have hN : NodeC (With M [(bk, .cells [str un, .slice a1 l1 c1, str ut, .slice a2 l2 c2].toArray tNd (0, 0)), (ba, .cells (cellsP [(sNs, sSpace)]).toArray 50 (0, 0))]) (D + 1) (casN x) [str sResp, .slice (some ⟨ba, 0, none⟩) 1 1, str [], .slice (some ⟨bk, 0, none⟩) 1 1] :=
    node_mk (slP_blk (e := 50) (l := [(sNs, sSpace)]) (.inr (List.Mem.tail _ (List.Mem.head _))) (by simp)) (sl_blk (l := [x]) (vss := [[str un, .slice a1 l1 c1, str ut, .slice a2 l2 c2]]) (.inr (List.Mem.head _)) ⟨NodeC.mono (fun _ _ => .inl) hx, trivial⟩ (by simp)) (by decide) (by simp) (fun p hp => by
      simp only [List.mem_cons, List.not_mem_nil, or_false] at hp
      subst hp; decide)
  have hsi := since_new (M0 := M) Since.refl hn
  generalize With M [(bk, .cells [str un, .slice a1 l1 c1, str ut, .slice a2 l2 c2].toArray tNd (0, 0)), (ba, .cells (cellsP [(sNs, sSpace)]).toArray 50 (0, 0))] = M1 at *
  repeat' (first | refine sk ?_ | (refine gL ?_; first | refine xl_alloc (fun _ => ?_) | refine xl_box rfl (fun _ => ?_) | refine xl_store rfl rfl ?_ | refine xl_buildSlice rfl (fun _ => ?_)) | fail)
  refine wl_callS rfl Tryz.call62 rfl rfl rfl rfl (fun w hw => rwritten_ok hw.laid sXml hN (by rw [cas_len]; omega)) ?_
  rintro _ H2 M2 hm2 hn2 ⟨rfl, a, l, c, rfl, hS⟩
  repeat' (first | refine sk ?_ | (refine gL ?_; first | refine xl_alloc (fun _ => ?_) | refine xl_box rfl (fun _ => ?_) | refine xl_store rfl rfl ?_ | refine xl_buildSlice rfl (fun _ => ?_)) | fail)
  exact yr_layC (Hn := []) rfl rfl rfl rfl (hsi.step hm2 hn2) (List.nil_sublist _) ⟨rfl, _, _, _, rfl, Sl.mono hS (fun _ _ => .inl) (fun _ _ _ h => h)⟩
theorem rhtml_ok (hM : Laid M w) {D : Nat} {k : List Nd} {a : Option Addr} {l c : Nat} (hk : Sl M 4 (NodeC M D) (.slice a l c) k) (hlen : (textL k).length ≤ 1000000000000) : Calls Tryz.prog 47 #[.slice a l c] w (RetS M w (fun M' H v => H = [] ∧ RspK M' sHtmlT (wr (htmlN k)) v)) := by
  refine fn1 hM Tryz.func47 ?_
  repeat' (first | refine sk ?_ | (refine gL ?_; first | refine xl_alloc (fun _ => ?_) | refine xl_store rfl rfl ?_ | refine xl_buildSlice rfl (fun _ => ?_)) | fail)
  rename_i b2 b5
  refine wl_publish (H1 := [(b5, .cells [str sBody, .slice none 0 0, str [], .slice a l c].toArray tNd (0, 0))]) (fun hn => ?_)
  have hk1 : Sl (With M [(b5, .cells [str sBody, .slice none 0 0, str [], .slice a l c].toArray tNd (0, 0))]) 4 (NodeC (With M [(b5, .cells [str sBody, .slice none 0 0, str [], .slice a l c].toArray tNd (0, 0))]) D) (.slice a l c) k := Sl.mono hk (fun _ _ => .inl) (fun x vs _ h => NodeC.mono (fun _ _ => .inl) h)
  have hN := wrap_mk (n := sHtml) (sl_blk (l := [wrapN sBody k]) (vss := [[str sBody, .slice none 0 0, str [], .slice a l c]]) (.inr (List.Mem.head _)) ⟨wrap_mk hk1 (by decide), trivial⟩ (by simp)) (by decide)
  have hsi := since_new (M0 := M) Since.refl hn
  clear hk1
  generalize With M [(b5, .cells [str sBody, .slice none 0 0, str [], .slice a l c].toArray tNd (0, 0))] = M1 at *
  repeat' (first | refine sk ?_ | (refine gL ?_; first | refine xl_alloc (fun _ => ?_) | refine xl_store rfl rfl ?_ | refine xl_buildSlice rfl (fun _ => ?_)) | fail)
  refine wl_callS rfl Tryz.call62 rfl rfl rfl rfl (fun w hw => rwritten_ok hw.laid sHtmlT (x := htmlN k) hN (by rw [html_len]; omega)) ?_
  rintro _ H2 M2 hm2 hn2 ⟨rfl, a', l', c', rfl, hS⟩
  repeat' (first | refine sk ?_ | (refine gL ?_; first | refine xl_alloc (fun _ => ?_) | refine xl_store rfl rfl ?_ | refine xl_buildSlice rfl (fun _ => ?_)) | fail)
  exact yr_layC (Hn := []) rfl rfl rfl rfl (hsi.step hm2 hn2) (List.nil_sublist _) ⟨rfl, _, _, _, rfl, Sl.mono hS (fun _ _ => .inl) (fun _ _ _ h => h)⟩
theorem rinput_ok (hM : Laid M w) (a b : List UInt8) (ha : a.length ≤ 100000000) (hb : b.length ≤ 100000000) : Calls Tryz.prog 46 #[str a, str b] w (RetS M w (fun M' H v => H = [] ∧ NdIs M' 1 (inputN a b) v)) := by
  refine fn2 hM Tryz.func46 ?_
  repeat' (first | refine sk ?_ | (refine gL ?_; first | refine xl_alloc (fun _ => ?_) | refine xl_store rfl rfl ?_ | refine xl_buildSlice rfl (fun _ => ?_)) | fail)
  rename_i b4 b9
  refine yr_layC (Hn := [(b9, .cells (cellsP [(sName, a), (sValue, b)]).toArray 50 (0, 0))]) rfl rfl rfl rfl Since.refl (List.Sublist.cons_cons _ (List.nil_sublist _)) ⟨rfl, _, _, _, _, _, _, _, _, rfl, node_mk (slP_blk (l := [(sName, a), (sValue, b)]) (.inr (List.Mem.head _)) (by simp)) sl_nil (by decide) (by simp) (fun p hp => ?_)⟩
  simp only [List.mem_cons, List.not_mem_nil, or_false] at hp
  rcases hp with rfl | rfl
  · exact ⟨by show sName.length ≤ _; decide, ha⟩
  · exact ⟨by show sValue.length ≤ _; decide, hb⟩
theorem rPage_ok (hM : Laid M w) (kind s : List UInt8) (hk : kind.length ≤ 1000000) (hs : s.length ≤ 1000000) : Calls Tryz.prog 20 #[str kind, str s] w (RetS M w (fun M' H v => H = [] ∧ RspK M' sHtmlT (wr (pageN kind s)) v)) := by
  refine fn2 hM Tryz.func20 ?_
  repeat' (first | refine sk ?_ | (refine gL ?_; first | refine xl_alloc (fun _ => ?_) | refine xl_store rfl rfl ?_ | refine xl_buildSlice rfl (fun _ => ?_)) | fail)
  refine wl_callS rfl Tryz.call37 rfl rfl rfl rfl (fun w hw => oneA_ok hw.laid sP s sClass kind (by decide) (by decide) (by omega) (by decide) (by omega)) ?_
  rintro _ H1 M1 hm1 hn1 ⟨rfl, n1, p1, q1, r1, t1, p1', q1', r1', rfl, hx1⟩
  repeat' (first | refine sk ?_ | (refine gL ?_; first | refine xl_alloc (fun _ => ?_) | refine xl_store rfl rfl ?_ | refine xl_buildSlice rfl (fun _ => ?_)) | fail)
  rename_i b4 bk
  refine wl_publish (H1 := [(bk, .cells [str n1, .slice p1 q1 r1, str t1, .slice p1' q1' r1'].toArray tNd (0, 0))]) (fun hn => ?_)
  have hN := sl_blk (M := With M1 [(bk, .cells [str n1, .slice p1 q1 r1, str t1, .slice p1' q1' r1'].toArray tNd (0, 0))]) (D := 1) (l := [.mk sP [(sClass, kind)] s []]) (vss := [[str n1, .slice p1 q1 r1, str t1, .slice p1' q1' r1']]) (.inr (List.Mem.head _)) ⟨NodeC.mono (fun _ _ => .inl) hx1, trivial⟩ (by simp)
  have hsi := since_new (Since.refl.step hm1 hn1) hn
  generalize With M1 [(bk, .cells [str n1, .slice p1 q1 r1, str t1, .slice p1' q1' r1'].toArray tNd (0, 0))] = M2 at *
  have hpl := pageN_len kind s
  unfold pageN at hpl
  rw [html_len] at hpl
  refine wl_callS rfl Tryz.call47 rfl rfl rfl rfl (fun w hw => rhtml_ok hw.laid hN (by omega)) ?_
  rintro _ H3 M3 hm3 hn3 ⟨rfl, a, l, c, rfl, hS⟩
  repeat' (first | refine sk ?_ | (refine gL ?_; first | refine xl_alloc (fun _ => ?_) | refine xl_store rfl rfl ?_ | refine xl_buildSlice rfl (fun _ => ?_)) | fail)
  exact yr_layC (Hn := []) rfl rfl rfl rfl (hsi.step hm3 hn3) (List.nil_sublist _) ⟨rfl, _, _, _, rfl, Sl.mono hS (fun _ _ => .inl) (fun _ _ _ h => h)⟩
theorem rProxy_ok (hM : Laid M w) (pt : List UInt8) (e : Int) (hp : pt.length ≤ 1000000) : Calls Tryz.prog 16 #[str pt, i64 e] w (RetS M w (fun M' H v => H = [] ∧ RspK M' sXml (wr (proxyN pt e)) v)) := by
  have hcl := code_len e
  refine fn2 hM Tryz.func16 ?_
  repeat' (first | refine sk ?_ | (refine gL ?_; first | refine xl_alloc (fun _ => ?_) | refine xl_store rfl rfl ?_ | refine xl_buildSlice rfl (fun _ => ?_)) | fail)
  refine wc_cond rfl (fun hc => ?_) (fun hc => ?_)
  · have he : ¬ e = 0 := by simpa using hc
    repeat' (first | refine sk ?_ | (refine gL ?_; first | refine wl_v rfl rfl rfl (by first | (exact oc 38 Tryz.call38 (h := fun hcg w hw => rcode_ok hw.laid _))) ?_ | refine xl_alloc (fun _ => ?_) | refine xl_store rfl rfl ?_ | refine xl_buildSlice rfl (fun _ => ?_)) | fail)
    refine wl_callS rfl Tryz.call37 rfl rfl rfl rfl (fun w hw => oneA_ok hw.laid sPF sNoPt sCode (codeE e) (by decide) (by decide) (by decide) (by decide) (by omega)) ?_
    rintro _ H1 M1 hm1 hn1 ⟨rfl, n, a1, l1, c1, t, a2, l2, c2, rfl, hx⟩
    have hlen := proxy_len pt e
    unfold proxyN at hlen ⊢
    rw [if_neg he] at hlen ⊢
    rw [cas_len] at hlen
    refine wl_callS rfl Tryz.call36 rfl rfl rfl rfl (fun w hw => rcas_ok hw.laid (x := failN sPF sNoPt (codeE e)) hx (by omega)) ?_
    rintro _ H2 M2 hm2 hn2 ⟨rfl, a, l, c, rfl, hS⟩
    repeat' (first | refine sk ?_ | (refine gL ?_; first | refine xl_alloc (fun _ => ?_) | refine xl_store rfl rfl ?_ | refine xl_buildSlice rfl (fun _ => ?_)) | fail)
    exact yr_layC (Hn := []) rfl rfl rfl rfl ((Since.refl.step hm1 hn1).step hm2 hn2) (List.nil_sublist _) ⟨rfl, _, _, _, rfl, Sl.mono hS (fun _ _ => .inl) (fun _ _ _ h => h)⟩
  · have he : e = 0 := by simpa using hc
    repeat' (first | refine sk ?_ | (refine gL ?_; first | refine wl_v rfl rfl rfl (by first | (exact oc 37 Tryz.call37 (h := fun hcg w hw => oneL_ok hw.laid _ _ _))) ?_ | refine xl_alloc (fun _ => ?_) | refine xl_store rfl rfl ?_ | refine xl_buildSlice rfl (fun _ => ?_)) | fail)
    rename_i b4 bk
    refine wl_publish (H1 := [(bk, .cells [str sPT, .slice none 0 0, str pt, .slice none 0 0].toArray tNd (0, 0))]) (fun hn => ?_)
    have hN := wrap_mk (n := sPS) (sl_blk (D := 1) (M := With M [(bk, .cells [str sPT, .slice none 0 0, str pt, .slice none 0 0].toArray tNd (0, 0))]) (l := [leafN sPT pt]) (vss := [[str sPT, .slice none 0 0, str pt, .slice none 0 0]]) (.inr (List.Mem.head _)) ⟨leaf_mk (by decide) (by omega), trivial⟩ (by simp)) (by decide)
    have hsi := since_new (M0 := M) Since.refl hn
    generalize With M [(bk, .cells [str sPT, .slice none 0 0, str pt, .slice none 0 0].toArray tNd (0, 0))] = M1 at *
    have hlen := proxy_len pt e
    unfold proxyN at hlen ⊢
    rw [if_pos he] at hlen ⊢
    rw [cas_len] at hlen
    repeat' (first | refine sk ?_ | (refine gL ?_; first | refine xl_alloc (fun _ => ?_) | refine xl_store rfl rfl ?_ | refine xl_buildSlice rfl (fun _ => ?_)) | fail)
    refine wl_callS rfl Tryz.call36 rfl rfl rfl rfl (fun w hw => rcas_ok hw.laid hN (by omega)) ?_
    rintro _ H2 M2 hm2 hn2 ⟨rfl, a, l, c, rfl, hS⟩
    repeat' (first | refine sk ?_ | (refine gL ?_; first | refine xl_alloc (fun _ => ?_) | refine xl_store rfl rfl ?_ | refine xl_buildSlice rfl (fun _ => ?_)) | fail)
    exact yr_layC (Hn := []) rfl rfl rfl rfl (hsi.step hm2 hn2) (List.nil_sublist _) ⟨rfl, _, _, _, rfl, Sl.mono hS (fun _ _ => .inl) (fun _ _ _ h => h)⟩
end Go.Proofs.YtgfbieplidpebaaGreatDoor
/-
  matricularef24.Form, Answer.
-/
namespace Go.Proofs.YtgfbieplidpebaaGreatDoor
open Go.Eng Go.Pct Go.Xml Go.Cas
set_option maxRecDepth 10000
set_option linter.unusedSimpArgs false
set_option linter.unusedVariables false

variable {M : Ghost} {w0 w : World} {bs : List Nat} {H : List (Nat × Obj)}
set_option maxHeartbeats 1000000 in
theorem rForm_ok (hM : Laid M w) (a b c : List UInt8) (ha : a.length ≤ 1000000) (hb : b.length ≤ 1000000) (hcl : c.length ≤ 1000000) : Calls Tryz.prog 18 #[str a, str b, str c] w (RetS M w (fun M' H v => H = [] ∧ RspK M' sHtmlT (wr (formPN a b c)) v)) := by
  refine fn3 hM Tryz.func18 ?_
  repeat' (first | refine sk ?_ | (refine gL ?_; first | refine xl_alloc (fun _ => ?_) | refine xl_store rfl rfl ?_ | refine xl_buildSlice rfl (fun _ => ?_)) | fail)
  rename_i b6 ba b7
  refine wl_callS rfl Tryz.call46 rfl rfl rfl rfl (fun w hw => rinput_ok hw.laid sLt a (by decide) (by omega)) ?_
  rintro _ H1 M1 hm1 hn1 ⟨rfl, n1, p1, q1, r1, t1, p1', q1', r1', rfl, hx1⟩
  repeat' (first | refine sk ?_ | (refine gL ?_; first | refine xl_alloc (fun _ => ?_) | refine xl_store rfl rfl ?_ | refine xl_buildSlice rfl (fun _ => ?_)) | fail)
  refine wl_callS rfl Tryz.call46 rfl rfl rfl rfl (fun w hw => rinput_ok hw.laid sService b (by decide) (by omega)) ?_
  rintro _ H2 M2 hm2 hn2 ⟨rfl, n2, p2, q2, r2, t2, p2', q2', r2', rfl, hx2⟩
  refine wl_callS rfl Tryz.call46 rfl rfl rfl rfl (fun w hw => rinput_ok hw.laid sUn [] (by decide) (by simp)) ?_
  rintro _ H3 M3 hm3 hn3 ⟨rfl, n3, p3, q3, r3, t3, p3', q3', r3', rfl, hx3⟩
  refine wl_callS rfl Tryz.call46 rfl rfl rfl rfl (fun w hw => rinput_ok hw.laid sPw [] (by decide) (by simp)) ?_
  rintro _ H4 M4 hm4 hn4 ⟨rfl, n4, p4, q4, r4, t4, p4', q4', r4', rfl, hx4⟩
  have hsi := (((Since.refl.step hm1 hn1).step hm2 hn2).step hm3 hn3).step hm4 hn4
  have hy3 := NodeC.mono hm4 hx3
  have hy2 := NodeC.mono hm4 (NodeC.mono hm3 hx2)
  have hy1 := NodeC.mono hm4 (NodeC.mono hm3 (NodeC.mono hm2 hx1))
  clear hm1 hn1 hm2 hn2 hm3 hn3 hm4 hn4 hx1 hx2 hx3
  repeat' (first | refine sk ?_ | (refine gL ?_; first | refine xl_alloc (fun _ => ?_) | refine xl_store rfl rfl ?_ | refine xl_buildSlice rfl (fun _ => ?_)) | fail)
  rename_i bk bf
  refine wc_weak (E' := [(2, true, str c), (6, true, .pointer (some ⟨b6, 0, none⟩)), (7, true, .pointer (some ⟨b7, 0, none⟩)), (8, true, .slice (some ⟨bf, 0, none⟩) 1 1), (24, true, .bool (!decide (c = [])))]) pE (fun _ h => h) ?_
  refine wc_weak (C' := St w [] ([(bf, .cells [str sForm, .slice (some ⟨ba, 0, none⟩) 2 2, str [], .slice (some ⟨bk, 0, none⟩) 4 4].toArray tNd (0, 0)), (bk, .cells [str n1, .slice p1 q1 r1, str t1, .slice p1' q1' r1', str n2, .slice p2 q2 r2, str t2, .slice p2' q2' r2', str n3, .slice p3 q3 r3, str t3, .slice p3' q3' r3', str n4, .slice p4 q4 r4, str t4, .slice p4' q4' r4'].toArray tNd (0, 0)), (ba, .cells (cellsP [(sAction, sLogin), (sMethod, sPost)]).toArray 50 (0, 0))] ++ [(b7, .cells [str sForm, .slice (some ⟨ba, 0, none⟩) 2 2, str [], .slice (some ⟨bk, 0, none⟩) 4 4].toArray tNd (0, 0)), (b6, .cells [i64 0, .slice none 0 0, str []].toArray 31 (0, 0))]) M4) (Eng.Sub.refl _) (fun _ h => h.perm ((((List.Perm.swap _ _ _).cons _).cons _))) ?_
  refine wc_publish (H1 := [(bf, .cells [str sForm, .slice (some ⟨ba, 0, none⟩) 2 2, str [], .slice (some ⟨bk, 0, none⟩) 4 4].toArray tNd (0, 0)), (bk, .cells [str n1, .slice p1 q1 r1, str t1, .slice p1' q1' r1', str n2, .slice p2 q2 r2, str t2, .slice p2' q2' r2', str n3, .slice p3 q3 r3, str t3, .slice p3' q3' r3', str n4, .slice p4 q4 r4, str t4, .slice p4' q4' r4'].toArray tNd (0, 0)), (ba, .cells (cellsP [(sAction, sLogin), (sMethod, sPost)]).toArray 50 (0, 0))]) (fun hn => ?_)
  have hN : NodeC (With M4 [(bf, .cells [str sForm, .slice (some ⟨ba, 0, none⟩) 2 2, str [], .slice (some ⟨bk, 0, none⟩) 4 4].toArray tNd (0, 0)), (bk, .cells [str n1, .slice p1 q1 r1, str t1, .slice p1' q1' r1', str n2, .slice p2 q2 r2, str t2, .slice p2' q2' r2', str n3, .slice p3 q3 r3, str t3, .slice p3' q3' r3', str n4, .slice p4 q4 r4, str t4, .slice p4' q4' r4'].toArray tNd (0, 0)), (ba, .cells (cellsP [(sAction, sLogin), (sMethod, sPost)]).toArray 50 (0, 0))]) 2 (formN a b) [str sForm, .slice (some ⟨ba, 0, none⟩) 2 2, str [], .slice (some ⟨bk, 0, none⟩) 4 4] :=
    node_mk (slP_blk (e := 50) (l := [(sAction, sLogin), (sMethod, sPost)]) (.inr (List.Mem.tail _ (List.Mem.tail _ (List.Mem.head _)))) (by simp)) (sl_blk (l := [inputN sLt a, inputN sService b, inputN sUn [], inputN sPw []]) (vss := [[str n1, .slice p1 q1 r1, str t1, .slice p1' q1' r1'], [str n2, .slice p2 q2 r2, str t2, .slice p2' q2' r2'], [str n3, .slice p3 q3 r3, str t3, .slice p3' q3' r3'], [str n4, .slice p4 q4 r4, str t4, .slice p4' q4' r4']]) (.inr (List.Mem.tail _ (List.Mem.head _))) ⟨NodeC.mono (fun _ _ => .inl) hy1, NodeC.mono (fun _ _ => .inl) hy2, NodeC.mono (fun _ _ => .inl) hy3, NodeC.mono (fun _ _ => .inl) hx4, trivial⟩ (by simp)) (by decide) (by simp) (fun p hp => by
      simp only [List.mem_cons, List.not_mem_nil, or_false] at hp
      rcases hp with rfl | rfl <;> decide)
  have hk := sl_blk (M := With M4 [(bf, .cells [str sForm, .slice (some ⟨ba, 0, none⟩) 2 2, str [], .slice (some ⟨bk, 0, none⟩) 4 4].toArray tNd (0, 0)), (bk, .cells [str n1, .slice p1 q1 r1, str t1, .slice p1' q1' r1', str n2, .slice p2 q2 r2, str t2, .slice p2' q2' r2', str n3, .slice p3 q3 r3, str t3, .slice p3' q3' r3', str n4, .slice p4 q4 r4, str t4, .slice p4' q4' r4'].toArray tNd (0, 0)), (ba, .cells (cellsP [(sAction, sLogin), (sMethod, sPost)]).toArray 50 (0, 0))]) (l := [formN a b]) (vss := [[str sForm, .slice (some ⟨ba, 0, none⟩) 2 2, str [], .slice (some ⟨bk, 0, none⟩) 4 4]]) (.inr (List.Mem.head _)) ⟨hN, trivial⟩ (by simp)
  have hs5 := since_new hsi hn
  clear hsi hy1 hy2 hy3 hx4 hn
  generalize With M4 [(bf, .cells [str sForm, .slice (some ⟨ba, 0, none⟩) 2 2, str [], .slice (some ⟨bk, 0, none⟩) 4 4].toArray tNd (0, 0)), (bk, .cells [str n1, .slice p1 q1 r1, str t1, .slice p1' q1' r1', str n2, .slice p2 q2 r2, str t2, .slice p2' q2' r2', str n3, .slice p3 q3 r3, str t3, .slice p3' q3' r3', str n4, .slice p4 q4 r4, str t4, .slice p4' q4' r4'].toArray tNd (0, 0)), (ba, .cells (cellsP [(sAction, sLogin), (sMethod, sPost)]).toArray 50 (0, 0))] = M5 at *
  have hlen := formP_len a b c
  unfold formPN at hlen ⊢
  rw [html_len] at hlen
  refine wc_cond rfl (fun hc => ?_) (fun hc => ?_)
  · have he : ¬ c = [] := by simpa using hc
    rw [if_neg he] at hlen ⊢
    repeat' (first | refine sk ?_ | (refine gL ?_; first | refine xl_alloc (fun _ => ?_) | refine xl_store rfl rfl ?_ | refine xl_buildSlice rfl (fun _ => ?_)) | fail)
    refine wc_draw 4 (by kernel_rfl) rfl (by kernel_rfl) (fun _ _ h k => h.ext k) ?_
    repeat' (first | (refine gD ?_; first | refine yd_v rfl rfl rfl rfl rfl rfl ?_ | refine wd_v rfl rfl rfl rfl rfl rfl (by first | (exact oc 37 Tryz.call37 (h := fun hcg w hw => oneL_ok hw.laid _ _ _))) ?_ | refine yd_new rfl rfl rfl rfl rfl rfl ?_ | refine wd_conv rfl rfl rfl rfl rfl rfl rfl rfl rfl rfl ?_) | (refine gE ?_; first | refine wd_nil ?_ | refine wd_nil1 (wl_fresh (fun _ => ?_))) | (first | refine sk ?_ | (refine gL ?_; first | refine wl_v rfl rfl rfl (by first | (exact oc 37 Tryz.call37 (h := fun hcg w hw => oneL_ok hw.laid _ _ _))) ?_ | refine xl_alloc (fun _ => ?_) | refine xl_store rfl rfl ?_ | refine xl_buildSlice rfl (fun _ => ?_)) | fail))
    rename_i bg
    refine wl_publish (H1 := [(bg, .cells [str sP, .slice none 0 0, str c, .slice none 0 0, str sForm, .slice (some ⟨ba, 0, none⟩) 2 2, str [], .slice (some ⟨bk, 0, none⟩) 4 4].toArray tNd (0, 0))]) (fun hn => ?_)
    have hk := sl_blk (D := 2) (M := With M5 [(bg, .cells [str sP, .slice none 0 0, str c, .slice none 0 0, str sForm, .slice (some ⟨ba, 0, none⟩) 2 2, str [], .slice (some ⟨bk, 0, none⟩) 4 4].toArray tNd (0, 0))]) (l := [leafN sP c, formN a b]) (vss := [[str sP, .slice none 0 0, str c, .slice none 0 0], [str sForm, .slice (some ⟨ba, 0, none⟩) 2 2, str [], .slice (some ⟨bk, 0, none⟩) 4 4]]) (.inr (List.Mem.head _)) ⟨leaf_mk (by decide) (by omega), NodeC.mono (fun _ _ => .inl) hN, trivial⟩ (by simp)
    have hs6 := since_new hs5 hn
    repeat' (first | refine sk ?_ | (refine gL ?_; first | refine xl_alloc (fun _ => ?_) | refine xl_store rfl rfl ?_ | refine xl_buildSlice rfl (fun _ => ?_)) | fail)
    refine wl_callS rfl Tryz.call47 rfl rfl rfl rfl (fun w hw => rhtml_ok hw.laid hk (by omega)) ?_
    rintro _ H7 M7 hm7 hn7 ⟨rfl, a', l', c', rfl, hS⟩
    repeat' (first | refine sk ?_ | (refine gL ?_; first | refine xl_alloc (fun _ => ?_) | refine xl_store rfl rfl ?_ | refine xl_buildSlice rfl (fun _ => ?_)) | fail)
    exact yr_layC (Hn := []) rfl rfl rfl rfl (hs6.step hm7 hn7) (List.nil_sublist _) ⟨rfl, _, _, _, rfl, Sl.mono hS (fun _ _ => .inl) (fun _ _ _ h => h)⟩
  · have he : c = [] := by simpa using hc
    rw [if_pos he] at hlen ⊢
    repeat' (first | refine sk ?_ | (refine gL ?_; first | refine xl_alloc (fun _ => ?_) | refine xl_store rfl rfl ?_ | refine xl_buildSlice rfl (fun _ => ?_)) | fail)
    refine wl_callS rfl Tryz.call47 rfl rfl rfl rfl (fun w hw => rhtml_ok hw.laid hk (by omega)) ?_
    rintro _ H7 M7 hm7 hn7 ⟨rfl, a', l', c', rfl, hS⟩
    repeat' (first | refine sk ?_ | (refine gL ?_; first | refine xl_alloc (fun _ => ?_) | refine xl_store rfl rfl ?_ | refine xl_buildSlice rfl (fun _ => ?_)) | fail)
    exact yr_layC (Hn := []) rfl rfl rfl rfl (hs5.step hm7 hn7) (List.nil_sublist _) ⟨rfl, _, _, _, rfl, Sl.mono hS (fun _ _ => .inl) (fun _ _ _ h => h)⟩
end Go.Proofs.YtgfbieplidpebaaGreatDoor
