/-
  The given statement RenderReadsCardSaidSaid of layer texts: it holds of the given program, for every input that the row speaks of; no further condition.
-/
import Derived.Deep.Slices
import Derived.ChangeSame
import Derived.SizedLaws
import Derived.WideShapes
import Derived.DataReads
import Derived.Test.YtgfbieplidpebaaGreatDoorProg
import Derived.Test.YtgfbieplidpebaaGreatDoorCards
import Derived.Test.YtgfbieplidpebaaGreatDoorTie
import Derived.WalkKit
import Derived.ProofKit
import Derived.OpenShut
import Derived.ReadAgain
import Derived.MakeChecks
import Derived.LaidSub
import Derived.Deep.DeepHandedRow
import Derived.Carry
import Derived.SevenTiedAt
import Derived.Lib.LaidTab
import Derived.Lib.LaidU8
import Derived.Test.YtgfbieplidpebaaGreatDoorJFRndReads1
import Derived.Test.YtgfbieplidpebaaGreatDoorJFRndReads2
import Derived.Test.YtgfbieplidpebaaGreatDoorJFRndReads3
import Derived.Test.YtgfbieplidpebaaGreatDoorJFRndReads4
/-
  What the document writes: matricularef24.one, written, cas, html, input, Proxy, Form, Page.
-/
namespace Go.Proofs.YtgfbieplidpebaaGreatDoor
open Go.Eng Go.Pct Go.Xml Go.Cas
set_option maxRecDepth 10000
set_option linter.unusedSimpArgs false
set_option linter.unusedVariables false

variable {M : Ghost} {w0 w : World} {bs : List Nat} {H : List (Nat × Obj)}
theorem rwritten_ok (hM : Laid M w) (kind : List UInt8) {D : Nat} {x : Nd} {un a1 l1 c1 ut a2 l2 c2} (hx : NodeC M D x [str un, .slice a1 l1 c1, str ut, .slice a2 l2 c2]) (hlen : (textN x).length ≤ 10000000000000) : Calls Tryz.prog 62 #[str kind, .agg [str un, .slice a1 l1 c1, str ut, .slice a2 l2 c2].toArray] w (RetS M w (fun M' H v => H = [] ∧ RspK M' kind (wr x) v)) := by
  have hwr := fun {w : World} (hw : Laid M w) => rwrite_ok hw hx hlen
  generalize (if rightN x = true then (0 : Int) else 1) = e at *
  refine fn2 hM Tryz.func62 ?_
  repeat' (first | refine sk ?_ | (refine gL ?_; first | refine wl_v rfl rfl rfl (by first | (exact oc 74 Tryz.call74 (h := fun hcg w hw => hwr hw.laid))) ?_ | refine xl_alloc (fun _ => ?_) | refine xl_box rfl (fun _ => ?_) | refine xl_store rfl rfl ?_ | refine xl_buildSlice rfl (fun _ => ?_)) | fail)
  rename_i b1 b2 b3
  exact yr_layC (Hn := [(b3, .cells (cellsP [(sCT, kind)]).toArray 50 (0, 0))]) rfl rfl rfl rfl Since.refl (List.Sublist.cons_cons _ (List.nil_sublist _)) ⟨rfl, _, _, _, rfl, slP_blk (l := [(sCT, kind)]) (.inr (List.Mem.head _)) (by simp)⟩
theorem oneL_ok (hM : Laid M w) (n t v : List UInt8) : Calls Tryz.prog 37 #[str n, str t, str [], str v] w (RetE w (.agg [str n, .slice none 0 0, str t, .slice none 0 0].toArray)) := by
  refine fn4 hM Tryz.func37 ?_
  repeat' (first | refine sk ?_ | (refine gL ?_; first | refine xl_alloc (fun _ => ?_) | refine xl_store rfl rfl ?_ | refine xl_buildSlice rfl (fun _ => ?_)) | fail)
  refine wc_cond rfl (fun hc => by exfalso; simp at hc) (fun hc => ?_)
  repeat' (first | refine sk ?_ | (refine gL ?_; first | refine xl_alloc (fun _ => ?_) | refine xl_store rfl rfl ?_ | refine xl_buildSlice rfl (fun _ => ?_)) | fail)
  exact wr_cell1 rfl rfl rfl pM rfl rfl
theorem oneA_ok (hM : Laid M w) (n t key v : List UInt8) (hk : key ≠ []) (h1 : n.length ≤ 100000000) (h2 : t.length ≤ 100000000) (h3 : key.length ≤ 100000000) (h4 : v.length ≤ 100000000) : Calls Tryz.prog 37 #[str n, str t, str key, str v] w (RetS M w (fun M' H u => H = [] ∧ NdIs M' 1 (.mk n [(key, v)] t []) u)) := by
  refine fn4 hM Tryz.func37 ?_
  repeat' (first | refine sk ?_ | (refine gL ?_; first | refine xl_alloc (fun _ => ?_) | refine xl_store rfl rfl ?_ | refine xl_buildSlice rfl (fun _ => ?_)) | fail)
  refine wc_cond rfl (fun hc => ?_) (fun hc => by exfalso; apply hk; simpa using hc)
  repeat' (first | refine sk ?_ | (refine gL ?_; first | refine xl_alloc (fun _ => ?_) | refine xl_store rfl rfl ?_ | refine xl_buildSlice rfl (fun _ => ?_)) | fail)
  rename_i b1 b2 b3
  refine yr_layC (Hn := [(b3, .cells (cellsP [(key, v)]).toArray 50 (0, 0))]) rfl rfl rfl rfl Since.refl (List.Sublist.cons_cons _ (List.nil_sublist _)) ⟨rfl, _, _, _, _, _, _, _, _, rfl, node_mk (slP_blk (l := [(key, v)]) (.inr (List.Mem.head _)) (by simp)) sl_nil h1 h2 (fun p hp => ?_)⟩
  simp only [List.mem_cons, List.not_mem_nil, or_false] at hp
  subst hp
  exact ⟨h3, h4⟩
theorem rcas_ok (hM : Laid M w) {D : Nat} {x : Nd} {un a1 l1 c1 ut a2 l2 c2} (hx : NodeC M D x [str un, .slice a1 l1 c1, str ut, .slice a2 l2 c2]) (hlen : (textN x).length ≤ 1000000000000) : Calls Tryz.prog 36 #[.agg [str un, .slice a1 l1 c1, str ut, .slice a2 l2 c2].toArray] w (RetS M w (fun M' H v => H = [] ∧ RspK M' sXml (wr (casN x)) v)) := by
  refine fn1 hM Tryz.func36 ?_
  repeat' (first | refine sk ?_ | (refine gL ?_; first | refine xl_alloc (fun _ => ?_) | refine xl_box rfl (fun _ => ?_) | refine xl_store rfl rfl ?_ | refine xl_buildSlice rfl (fun _ => ?_)) | fail)
  rename_i b1 b2 ba bk
  refine wl_weak (C' := St w [] ([(bk, .cells [str un, .slice a1 l1 c1, str ut, .slice a2 l2 c2].toArray tNd (0, 0)), (ba, .cells (cellsP [(sNs, sSpace)]).toArray 50 (0, 0))] ++ [(b2, .cells [i64 0, .slice none 0 0, str []].toArray 31 (0, 0))]) M) (Eng.Sub.refl _) (fun _ h => h.drop (List.Sublist.cons_cons _ (List.Sublist.cons_cons _ (List.Sublist.cons_cons _ (List.nil_sublist _))))) ?_
  refine wl_publish (fun hn => ?_)
  have hN : NodeC (With M [(bk, .cells [str un, .slice a1 l1 c1, str ut, .slice a2 l2 c2].toArray tNd (0, 0)), (ba, .cells (cellsP [(sNs, sSpace)]).toArray 50 (0, 0))]) (D + 1) (casN x) [str sResp, .slice (some ⟨ba, 0, none⟩) 1 1, str [], .slice (some ⟨bk, 0, none⟩) 1 1] :=
    node_mk (slP_blk (e := 50) (l := [(sNs, sSpace)]) (.inr (List.Mem.tail _ (List.Mem.head _))) (by simp)) (sl_blk (l := [x]) (vss := [[str un, .slice a1 l1 c1, str ut, .slice a2 l2 c2]]) (.inr (List.Mem.head _)) ⟨NodeC.mono (fun _ _ => .inl) hx, trivial⟩ (by simp)) (by decide) (by simp) (fun p hp => by
      simp only [List.mem_cons, List.not_mem_nil, or_false] at hp
      subst hp; decide)
  have hsi := since_new (M0 := M) Since.refl hn
  generalize With M [(bk, .cells [str un, .slice a1 l1 c1, str ut, .slice a2 l2 c2].toArray tNd (0, 0)), (ba, .cells (cellsP [(sNs, sSpace)]).toArray 50 (0, 0))] = M1 at *
  repeat' (first | refine sk ?_ | (refine gL ?_; first | refine xl_alloc (fun _ => ?_) | refine xl_box rfl (fun _ => ?_) | refine xl_store rfl rfl ?_ | refine xl_buildSlice rfl (fun _ => ?_)) | fail)
  refine wl_callS rfl Tryz.call62 rfl rfl rfl rfl (fun w hw => rwritten_ok hw.laid sXml hN (by rw [cas_len]; omega)) ?_
  rintro _ H2 M2 hm2 hn2 ⟨rfl, a, l, c, rfl, hS⟩
  repeat' (first | refine sk ?_ | (refine gL ?_; first | refine xl_alloc (fun _ => ?_) | refine xl_box rfl (fun _ => ?_) | refine xl_store rfl rfl ?_ | refine xl_buildSlice rfl (fun _ => ?_)) | fail)
  exact yr_layC (Hn := []) rfl rfl rfl rfl (hsi.step hm2 hn2) (List.nil_sublist _) ⟨rfl, _, _, _, rfl, Sl.mono hS (fun _ _ => .inl) (fun _ _ _ h => h)⟩
theorem rhtml_ok (hM : Laid M w) {D : Nat} {k : List Nd} {a : Option Addr} {l c : Nat} (hk : Sl M 4 (NodeC M D) (.slice a l c) k) (hlen : (textL k).length ≤ 1000000000000) : Calls Tryz.prog 47 #[.slice a l c] w (RetS M w (fun M' H v => H = [] ∧ RspK M' sHtmlT (wr (htmlN k)) v)) := by
  refine fn1 hM Tryz.func47 ?_
  repeat' (first | refine sk ?_ | (refine gL ?_; first | refine xl_alloc (fun _ => ?_) | refine xl_store rfl rfl ?_ | refine xl_buildSlice rfl (fun _ => ?_)) | fail)
  rename_i b2 b5
  refine wl_publish (H1 := [(b5, .cells [str sBody, .slice none 0 0, str [], .slice a l c].toArray tNd (0, 0))]) (fun hn => ?_)
  have hk1 : Sl (With M [(b5, .cells [str sBody, .slice none 0 0, str [], .slice a l c].toArray tNd (0, 0))]) 4 (NodeC (With M [(b5, .cells [str sBody, .slice none 0 0, str [], .slice a l c].toArray tNd (0, 0))]) D) (.slice a l c) k := Sl.mono hk (fun _ _ => .inl) (fun x vs _ h => NodeC.mono (fun _ _ => .inl) h)
  have hN := wrap_mk (n := sHtml) (sl_blk (l := [wrapN sBody k]) (vss := [[str sBody, .slice none 0 0, str [], .slice a l c]]) (.inr (List.Mem.head _)) ⟨wrap_mk hk1 (by decide), trivial⟩ (by simp)) (by decide)
  have hsi := since_new (M0 := M) Since.refl hn
  clear hk1
  generalize With M [(b5, .cells [str sBody, .slice none 0 0, str [], .slice a l c].toArray tNd (0, 0))] = M1 at *
  repeat' (first | refine sk ?_ | (refine gL ?_; first | refine xl_alloc (fun _ => ?_) | refine xl_store rfl rfl ?_ | refine xl_buildSlice rfl (fun _ => ?_)) | fail)
  refine wl_callS rfl Tryz.call62 rfl rfl rfl rfl (fun w hw => rwritten_ok hw.laid sHtmlT (x := htmlN k) hN (by rw [html_len]; omega)) ?_
  rintro _ H2 M2 hm2 hn2 ⟨rfl, a', l', c', rfl, hS⟩
  repeat' (first | refine sk ?_ | (refine gL ?_; first | refine xl_alloc (fun _ => ?_) | refine xl_store rfl rfl ?_ | refine xl_buildSlice rfl (fun _ => ?_)) | fail)
  exact yr_layC (Hn := []) rfl rfl rfl rfl (hsi.step hm2 hn2) (List.nil_sublist _) ⟨rfl, _, _, _, rfl, Sl.mono hS (fun _ _ => .inl) (fun _ _ _ h => h)⟩
theorem rinput_ok (hM : Laid M w) (a b : List UInt8) (ha : a.length ≤ 100000000) (hb : b.length ≤ 100000000) : Calls Tryz.prog 46 #[str a, str b] w (RetS M w (fun M' H v => H = [] ∧ NdIs M' 1 (inputN a b) v)) := by
  refine fn2 hM Tryz.func46 ?_
  repeat' (first | refine sk ?_ | (refine gL ?_; first | refine xl_alloc (fun _ => ?_) | refine xl_store rfl rfl ?_ | refine xl_buildSlice rfl (fun _ => ?_)) | fail)
  rename_i b4 b9
  refine yr_layC (Hn := [(b9, .cells (cellsP [(sName, a), (sValue, b)]).toArray 50 (0, 0))]) rfl rfl rfl rfl Since.refl (List.Sublist.cons_cons _ (List.nil_sublist _)) ⟨rfl, _, _, _, _, _, _, _, _, rfl, node_mk (slP_blk (l := [(sName, a), (sValue, b)]) (.inr (List.Mem.head _)) (by simp)) sl_nil (by decide) (by simp) (fun p hp => ?_)⟩
  simp only [List.mem_cons, List.not_mem_nil, or_false] at hp
  rcases hp with rfl | rfl
  · exact ⟨by show sName.length ≤ _; decide, ha⟩
  · exact ⟨by show sValue.length ≤ _; decide, hb⟩
theorem rPage_ok (hM : Laid M w) (kind s : List UInt8) (hk : kind.length ≤ 1000000) (hs : s.length ≤ 1000000) : Calls Tryz.prog 20 #[str kind, str s] w (RetS M w (fun M' H v => H = [] ∧ RspK M' sHtmlT (wr (pageN kind s)) v)) := by
  refine fn2 hM Tryz.func20 ?_
  repeat' (first | refine sk ?_ | (refine gL ?_; first | refine xl_alloc (fun _ => ?_) | refine xl_store rfl rfl ?_ | refine xl_buildSlice rfl (fun _ => ?_)) | fail)
  refine wl_callS rfl Tryz.call37 rfl rfl rfl rfl (fun w hw => oneA_ok hw.laid sP s sClass kind (by decide) (by decide) (by omega) (by decide) (by omega)) ?_
  rintro _ H1 M1 hm1 hn1 ⟨rfl, n1, p1, q1, r1, t1, p1', q1', r1', rfl, hx1⟩
  repeat' (first | refine sk ?_ | (refine gL ?_; first | refine xl_alloc (fun _ => ?_) | refine xl_store rfl rfl ?_ | refine xl_buildSlice rfl (fun _ => ?_)) | fail)
  rename_i b4 bk
  refine wl_publish (H1 := [(bk, .cells [str n1, .slice p1 q1 r1, str t1, .slice p1' q1' r1'].toArray tNd (0, 0))]) (fun hn => ?_)
  have hN := sl_blk (M := With M1 [(bk, .cells [str n1, .slice p1 q1 r1, str t1, .slice p1' q1' r1'].toArray tNd (0, 0))]) (D := 1) (l := [.mk sP [(sClass, kind)] s []]) (vss := [[str n1, .slice p1 q1 r1, str t1, .slice p1' q1' r1']]) (.inr (List.Mem.head _)) ⟨NodeC.mono (fun _ _ => .inl) hx1, trivial⟩ (by simp)
  have hsi := since_new (Since.refl.step hm1 hn1) hn
  generalize With M1 [(bk, .cells [str n1, .slice p1 q1 r1, str t1, .slice p1' q1' r1'].toArray tNd (0, 0))] = M2 at *
  have hpl := pageN_len kind s
  unfold pageN at hpl
  rw [html_len] at hpl
  refine wl_callS rfl Tryz.call47 rfl rfl rfl rfl (fun w hw => rhtml_ok hw.laid hN (by omega)) ?_
  rintro _ H3 M3 hm3 hn3 ⟨rfl, a, l, c, rfl, hS⟩
  repeat' (first | refine sk ?_ | (refine gL ?_; first | refine xl_alloc (fun _ => ?_) | refine xl_store rfl rfl ?_ | refine xl_buildSlice rfl (fun _ => ?_)) | fail)
  exact yr_layC (Hn := []) rfl rfl rfl rfl (hsi.step hm3 hn3) (List.nil_sublist _) ⟨rfl, _, _, _, rfl, Sl.mono hS (fun _ _ => .inl) (fun _ _ _ h => h)⟩
theorem rProxy_ok (hM : Laid M w) (pt : List UInt8) (e : Int) (hp : pt.length ≤ 1000000) : Calls Tryz.prog 16 #[str pt, i64 e] w (RetS M w (fun M' H v => H = [] ∧ RspK M' sXml (wr (proxyN pt e)) v)) := by
  have hcl := code_len e
  refine fn2 hM Tryz.func16 ?_
  repeat' (first | refine sk ?_ | (refine gL ?_; first | refine xl_alloc (fun _ => ?_) | refine xl_store rfl rfl ?_ | refine xl_buildSlice rfl (fun _ => ?_)) | fail)
  refine wc_cond rfl (fun hc => ?_) (fun hc => ?_)
  · have he : ¬ e = 0 := by simpa using hc
    repeat' (first | refine sk ?_ | (refine gL ?_; first | refine wl_v rfl rfl rfl (by first | (exact oc 38 Tryz.call38 (h := fun hcg w hw => rcode_ok hw.laid _))) ?_ | refine xl_alloc (fun _ => ?_) | refine xl_store rfl rfl ?_ | refine xl_buildSlice rfl (fun _ => ?_)) | fail)
    refine wl_callS rfl Tryz.call37 rfl rfl rfl rfl (fun w hw => oneA_ok hw.laid sPF sNoPt sCode (codeE e) (by decide) (by decide) (by decide) (by decide) (by omega)) ?_
    rintro _ H1 M1 hm1 hn1 ⟨rfl, n, a1, l1, c1, t, a2, l2, c2, rfl, hx⟩
    have hlen := proxy_len pt e
    unfold proxyN at hlen ⊢
    rw [if_neg he] at hlen ⊢
    rw [cas_len] at hlen
    refine wl_callS rfl Tryz.call36 rfl rfl rfl rfl (fun w hw => rcas_ok hw.laid (x := failN sPF sNoPt (codeE e)) hx (by omega)) ?_
    rintro _ H2 M2 hm2 hn2 ⟨rfl, a, l, c, rfl, hS⟩
    repeat' (first | refine sk ?_ | (refine gL ?_; first | refine xl_alloc (fun _ => ?_) | refine xl_store rfl rfl ?_ | refine xl_buildSlice rfl (fun _ => ?_)) | fail)
    exact yr_layC (Hn := []) rfl rfl rfl rfl ((Since.refl.step hm1 hn1).step hm2 hn2) (List.nil_sublist _) ⟨rfl, _, _, _, rfl, Sl.mono hS (fun _ _ => .inl) (fun _ _ _ h => h)⟩
  · have he : e = 0 := by simpa using hc
    repeat' (first | refine sk ?_ | (refine gL ?_; first | refine wl_v rfl rfl rfl (by first | (exact oc 37 Tryz.call37 (h := fun hcg w hw => oneL_ok hw.laid _ _ _))) ?_ | refine xl_alloc (fun _ => ?_) | refine xl_store rfl rfl ?_ | refine xl_buildSlice rfl (fun _ => ?_)) | fail)
    rename_i b4 bk
    refine wl_publish (H1 := [(bk, .cells [str sPT, .slice none 0 0, str pt, .slice none 0 0].toArray tNd (0, 0))]) (fun hn => ?_)
    have hN := wrap_mk (n := sPS) (sl_blk (D := 1) (M := With M [(bk, .cells [str sPT, .slice none 0 0, str pt, .slice none 0 0].toArray tNd (0, 0))]) (l := [leafN sPT pt]) (vss := [[str sPT, .slice none 0 0, str pt, .slice none 0 0]]) (.inr (List.Mem.head _)) ⟨leaf_mk (by decide) (by omega), trivial⟩ (by simp)) (by decide)
    have hsi := since_new (M0 := M) Since.refl hn
    generalize With M [(bk, .cells [str sPT, .slice none 0 0, str pt, .slice none 0 0].toArray tNd (0, 0))] = M1 at *
    have hlen := proxy_len pt e
    unfold proxyN at hlen ⊢
    rw [if_pos he] at hlen ⊢
    rw [cas_len] at hlen
    repeat' (first | refine sk ?_ | (refine gL ?_; first | refine xl_alloc (fun _ => ?_) | refine xl_store rfl rfl ?_ | refine xl_buildSlice rfl (fun _ => ?_)) | fail)
    refine wl_callS rfl Tryz.call36 rfl rfl rfl rfl (fun w hw => rcas_ok hw.laid hN (by omega)) ?_
    rintro _ H2 M2 hm2 hn2 ⟨rfl, a, l, c, rfl, hS⟩
    repeat' (first | refine sk ?_ | (refine gL ?_; first | refine xl_alloc (fun _ => ?_) | refine xl_store rfl rfl ?_ | refine xl_buildSlice rfl (fun _ => ?_)) | fail)
    exact yr_layC (Hn := []) rfl rfl rfl rfl (hsi.step hm2 hn2) (List.nil_sublist _) ⟨rfl, _, _, _, rfl, Sl.mono hS (fun _ _ => .inl) (fun _ _ _ h => h)⟩
end Go.Proofs.YtgfbieplidpebaaGreatDoor
/-
  matricularef24.Form, Answer.
-/
namespace Go.Proofs.YtgfbieplidpebaaGreatDoor
open Go.Eng Go.Pct Go.Xml Go.Cas
set_option maxRecDepth 10000
set_option linter.unusedSimpArgs false
set_option linter.unusedVariables false

variable {M : Ghost} {w0 w : World} {bs : List Nat} {H : List (Nat × Obj)}
set_option maxHeartbeats 1000000 in
theorem rForm_ok (hM : Laid M w) (a b c : List UInt8) (ha : a.length ≤ 1000000) (hb : b.length ≤ 1000000) (hcl : c.length ≤ 1000000) : Calls Tryz.prog 18 #[str a, str b, str c] w (RetS M w (fun M' H v => H = [] ∧ RspK M' sHtmlT (wr (formPN a b c)) v)) := by
  refine fn3 hM Tryz.func18 ?_
  repeat' (first | refine sk ?_ | (refine gL ?_; first | refine xl_alloc (fun _ => ?_) | refine xl_store rfl rfl ?_ | refine xl_buildSlice rfl (fun _ => ?_)) | fail)
  rename_i b6 ba b7
  refine wl_callS rfl Tryz.call46 rfl rfl rfl rfl (fun w hw => rinput_ok hw.laid sLt a (by decide) (by omega)) ?_
  rintro _ H1 M1 hm1 hn1 ⟨rfl, n1, p1, q1, r1, t1, p1', q1', r1', rfl, hx1⟩
  repeat' (first | refine sk ?_ | (refine gL ?_; first | refine xl_alloc (fun _ => ?_) | refine xl_store rfl rfl ?_ | refine xl_buildSlice rfl (fun _ => ?_)) | fail)
  refine wl_callS rfl Tryz.call46 rfl rfl rfl rfl (fun w hw => rinput_ok hw.laid sService b (by decide) (by omega)) ?_
  rintro _ H2 M2 hm2 hn2 ⟨rfl, n2, p2, q2, r2, t2, p2', q2', r2', rfl, hx2⟩
  refine wl_callS rfl Tryz.call46 rfl rfl rfl rfl (fun w hw => rinput_ok hw.laid sUn [] (by decide) (by simp)) ?_
  rintro _ H3 M3 hm3 hn3 ⟨rfl, n3, p3, q3, r3, t3, p3', q3', r3', rfl, hx3⟩
  refine wl_callS rfl Tryz.call46 rfl rfl rfl rfl (fun w hw => rinput_ok hw.laid sPw [] (by decide) (by simp)) ?_
  rintro _ H4 M4 hm4 hn4 ⟨rfl, n4, p4, q4, r4, t4, p4', q4', r4', rfl, hx4⟩
  have hsi := (((Since.refl.step hm1 hn1).step hm2 hn2).step hm3 hn3).step hm4 hn4
  have hy3 := NodeC.mono hm4 hx3
  have hy2 := NodeC.mono hm4 (NodeC.mono hm3 hx2)
  have hy1 := NodeC.mono hm4 (NodeC.mono hm3 (NodeC.mono hm2 hx1))
  clear hm1 hn1 hm2 hn2 hm3 hn3 hm4 hn4 hx1 hx2 hx3
  repeat' (first | refine sk ?_ | (refine gL ?_; first | refine xl_alloc (fun _ => ?_) | refine xl_store rfl rfl ?_ | refine xl_buildSlice rfl (fun _ => ?_)) | fail)
  rename_i bk bf
  refine wc_weak (E' := [(2, true, str c), (6, true, .pointer (some ⟨b6, 0, none⟩)), (7, true, .pointer (some ⟨b7, 0, none⟩)), (8, true, .slice (some ⟨bf, 0, none⟩) 1 1), (24, true, .bool (!decide (c = [])))]) pE (fun _ h => h) ?_
  refine wc_weak (C' := St w [] ([(bf, .cells [str sForm, .slice (some ⟨ba, 0, none⟩) 2 2, str [], .slice (some ⟨bk, 0, none⟩) 4 4].toArray tNd (0, 0)), (bk, .cells [str n1, .slice p1 q1 r1, str t1, .slice p1' q1' r1', str n2, .slice p2 q2 r2, str t2, .slice p2' q2' r2', str n3, .slice p3 q3 r3, str t3, .slice p3' q3' r3', str n4, .slice p4 q4 r4, str t4, .slice p4' q4' r4'].toArray tNd (0, 0)), (ba, .cells (cellsP [(sAction, sLogin), (sMethod, sPost)]).toArray 50 (0, 0))] ++ [(b7, .cells [str sForm, .slice (some ⟨ba, 0, none⟩) 2 2, str [], .slice (some ⟨bk, 0, none⟩) 4 4].toArray tNd (0, 0)), (b6, .cells [i64 0, .slice none 0 0, str []].toArray 31 (0, 0))]) M4) (Eng.Sub.refl _) (fun _ h => h.perm ((((List.Perm.swap _ _ _).cons _).cons _))) ?_
  refine wc_publish (H1 := [(bf, .cells [str sForm, .slice (some ⟨ba, 0, none⟩) 2 2, str [], .slice (some ⟨bk, 0, none⟩) 4 4].toArray tNd (0, 0)), (bk, .cells [str n1, .slice p1 q1 r1, str t1, .slice p1' q1' r1', str n2, .slice p2 q2 r2, str t2, .slice p2' q2' r2', str n3, .slice p3 q3 r3, str t3, .slice p3' q3' r3', str n4, .slice p4 q4 r4, str t4, .slice p4' q4' r4'].toArray tNd (0, 0)), (ba, .cells (cellsP [(sAction, sLogin), (sMethod, sPost)]).toArray 50 (0, 0))]) (fun hn => ?_)
  have hN : NodeC (With M4 [(bf, .cells [str sForm, .slice (some ⟨ba, 0, none⟩) 2 2, str [], .slice (some ⟨bk, 0, none⟩) 4 4].toArray tNd (0, 0)), (bk, .cells [str n1, .slice p1 q1 r1, str t1, .slice p1' q1' r1', str n2, .slice p2 q2 r2, str t2, .slice p2' q2' r2', str n3, .slice p3 q3 r3, str t3, .slice p3' q3' r3', str n4, .slice p4 q4 r4, str t4, .slice p4' q4' r4'].toArray tNd (0, 0)), (ba, .cells (cellsP [(sAction, sLogin), (sMethod, sPost)]).toArray 50 (0, 0))]) 2 (formN a b) [str sForm, .slice (some ⟨ba, 0, none⟩) 2 2, str [], .slice (some ⟨bk, 0, none⟩) 4 4] :=
    node_mk (slP_blk (e := 50) (l := [(sAction, sLogin), (sMethod, sPost)]) (.inr (List.Mem.tail _ (List.Mem.tail _ (List.Mem.head _)))) (by simp)) (sl_blk (l := [inputN sLt a, inputN sService b, inputN sUn [], inputN sPw []]) (vss := [[str n1, .slice p1 q1 r1, str t1, .slice p1' q1' r1'], [str n2, .slice p2 q2 r2, str t2, .slice p2' q2' r2'], [str n3, .slice p3 q3 r3, str t3, .slice p3' q3' r3'], [str n4, .slice p4 q4 r4, str t4, .slice p4' q4' r4']]) (.inr (List.Mem.tail _ (List.Mem.head _))) ⟨NodeC.mono (fun _ _ => .inl) hy1, NodeC.mono (fun _ _ => .inl) hy2, NodeC.mono (fun _ _ => .inl) hy3, NodeC.mono (fun _ _ => .inl) hx4, trivial⟩ (by simp)) (by decide) (by simp) (fun p hp => by
      simp only [List.mem_cons, List.not_mem_nil, or_false] at hp
      rcases hp with rfl | rfl <;> decide)
  have hk := sl_blk (M := With M4 [(bf, .cells [str sForm, .slice (some ⟨ba, 0, none⟩) 2 2, str [], .slice (some ⟨bk, 0, none⟩) 4 4].toArray tNd (0, 0)), (bk, .cells [str n1, .slice p1 q1 r1, str t1, .slice p1' q1' r1', str n2, .slice p2 q2 r2, str t2, .slice p2' q2' r2', str n3, .slice p3 q3 r3, str t3, .slice p3' q3' r3', str n4, .slice p4 q4 r4, str t4, .slice p4' q4' r4'].toArray tNd (0, 0)), (ba, .cells (cellsP [(sAction, sLogin), (sMethod, sPost)]).toArray 50 (0, 0))]) (l := [formN a b]) (vss := [[str sForm, .slice (some ⟨ba, 0, none⟩) 2 2, str [], .slice (some ⟨bk, 0, none⟩) 4 4]]) (.inr (List.Mem.head _)) ⟨hN, trivial⟩ (by simp)
  have hs5 := since_new hsi hn
  clear hsi hy1 hy2 hy3 hx4 hn
  generalize With M4 [(bf, .cells [str sForm, .slice (some ⟨ba, 0, none⟩) 2 2, str [], .slice (some ⟨bk, 0, none⟩) 4 4].toArray tNd (0, 0)), (bk, .cells [str n1, .slice p1 q1 r1, str t1, .slice p1' q1' r1', str n2, .slice p2 q2 r2, str t2, .slice p2' q2' r2', str n3, .slice p3 q3 r3, str t3, .slice p3' q3' r3', str n4, .slice p4 q4 r4, str t4, .slice p4' q4' r4'].toArray tNd (0, 0)), (ba, .cells (cellsP [(sAction, sLogin), (sMethod, sPost)]).toArray 50 (0, 0))] = M5 at *
  have hlen := formP_len a b c
  unfold formPN at hlen ⊢
  rw [html_len] at hlen
  refine wc_cond rfl (fun hc => ?_) (fun hc => ?_)
  · have he : ¬ c = [] := by simpa using hc
    rw [if_neg he] at hlen ⊢
    repeat' (first | refine sk ?_ | (refine gL ?_; first | refine xl_alloc (fun _ => ?_) | refine xl_store rfl rfl ?_ | refine xl_buildSlice rfl (fun _ => ?_)) | fail)
    refine wc_draw 4 (by kernel_rfl) rfl (by kernel_rfl) (fun _ _ h k => h.ext k) ?_
    repeat' (first | (refine gD ?_; first | refine yd_v rfl rfl rfl rfl rfl rfl ?_ | refine wd_v rfl rfl rfl rfl rfl rfl (by first | (exact oc 37 Tryz.call37 (h := fun hcg w hw => oneL_ok hw.laid _ _ _))) ?_ | refine yd_new rfl rfl rfl rfl rfl rfl ?_ | refine wd_conv rfl rfl rfl rfl rfl rfl rfl rfl rfl rfl ?_) | (refine gE ?_; first | refine wd_nil ?_ | refine wd_nil1 (wl_fresh (fun _ => ?_))) | (first | refine sk ?_ | (refine gL ?_; first | refine wl_v rfl rfl rfl (by first | (exact oc 37 Tryz.call37 (h := fun hcg w hw => oneL_ok hw.laid _ _ _))) ?_ | refine xl_alloc (fun _ => ?_) | refine xl_store rfl rfl ?_ | refine xl_buildSlice rfl (fun _ => ?_)) | fail))
    rename_i bg
    refine wl_publish (H1 := [(bg, .cells [str sP, .slice none 0 0, str c, .slice none 0 0, str sForm, .slice (some ⟨ba, 0, none⟩) 2 2, str [], .slice (some ⟨bk, 0, none⟩) 4 4].toArray tNd (0, 0))]) (fun hn => ?_)
    have hk := sl_blk (D := 2) (M := With M5 [(bg, .cells [str sP, .slice none 0 0, str c, .slice none 0 0, str sForm, .slice (some ⟨ba, 0, none⟩) 2 2, str [], .slice (some ⟨bk, 0, none⟩) 4 4].toArray tNd (0, 0))]) (l := [leafN sP c, formN a b]) (vss := [[str sP, .slice none 0 0, str c, .slice none 0 0], [str sForm, .slice (some ⟨ba, 0, none⟩) 2 2, str [], .slice (some ⟨bk, 0, none⟩) 4 4]]) (.inr (List.Mem.head _)) ⟨leaf_mk (by decide) (by omega), NodeC.mono (fun _ _ => .inl) hN, trivial⟩ (by simp)
    have hs6 := since_new hs5 hn
    repeat' (first | refine sk ?_ | (refine gL ?_; first | refine xl_alloc (fun _ => ?_) | refine xl_store rfl rfl ?_ | refine xl_buildSlice rfl (fun _ => ?_)) | fail)
    refine wl_callS rfl Tryz.call47 rfl rfl rfl rfl (fun w hw => rhtml_ok hw.laid hk (by omega)) ?_
    rintro _ H7 M7 hm7 hn7 ⟨rfl, a', l', c', rfl, hS⟩
    repeat' (first | refine sk ?_ | (refine gL ?_; first | refine xl_alloc (fun _ => ?_) | refine xl_store rfl rfl ?_ | refine xl_buildSlice rfl (fun _ => ?_)) | fail)
    exact yr_layC (Hn := []) rfl rfl rfl rfl (hs6.step hm7 hn7) (List.nil_sublist _) ⟨rfl, _, _, _, rfl, Sl.mono hS (fun _ _ => .inl) (fun _ _ _ h => h)⟩
  · have he : c = [] := by simpa using hc
    rw [if_pos he] at hlen ⊢
    repeat' (first | refine sk ?_ | (refine gL ?_; first | refine xl_alloc (fun _ => ?_) | refine xl_store rfl rfl ?_ | refine xl_buildSlice rfl (fun _ => ?_)) | fail)
    refine wl_callS rfl Tryz.call47 rfl rfl rfl rfl (fun w hw => rhtml_ok hw.laid hk (by omega)) ?_
    rintro _ H7 M7 hm7 hn7 ⟨rfl, a', l', c', rfl, hS⟩
    repeat' (first | refine sk ?_ | (refine gL ?_; first | refine xl_alloc (fun _ => ?_) | refine xl_store rfl rfl ?_ | refine xl_buildSlice rfl (fun _ => ?_)) | fail)
    exact yr_layC (Hn := []) rfl rfl rfl rfl (hs5.step hm7 hn7) (List.nil_sublist _) ⟨rfl, _, _, _, rfl, Sl.mono hS (fun _ _ => .inl) (fun _ _ _ h => h)⟩
end Go.Proofs.YtgfbieplidpebaaGreatDoor
/-
  matricularef24.leaf, codes, head, top.
-/
namespace Go.Proofs.YtgfbieplidpebaaGreatDoor
open Go.Eng Go.Pct Go.Xml Go.Cas
set_option maxRecDepth 10000
set_option linter.unusedSimpArgs false
set_option linter.unusedVariables false

variable {M : Ghost} {w0 w : World} {bs : List Nat} {H : List (Nat × Obj)}
theorem ndT {p : Prop} [Decidable p] (h : ¬ p) : (!decide p) = true := by simp [h]
theorem ndF {p : Prop} [Decidable p] (h : p) : (!decide p) = false := by simp [h]
theorem leaf_ok (hM : Laid M w) {D : Nat} {x : Nd} {un a1 l1 c1 ut a2 l2 c2} (hx : NodeC M (D + 1) x [str un, .slice a1 l1 c1, str ut, .slice a2 l2 c2]) (name : List UInt8) : Calls Tryz.prog 57 #[.agg [str un, .slice a1 l1 c1, str ut, .slice a2 l2 c2].toArray, str name] w (RetE w (.bool (decide (leafOk x name)))) := by
  have h1 := node_nm hx
  have h2 := node_at hx
  have h3 := node_kd hx
  have hfin : decide (leafOk x name) = (decide (un = name) && decide (((atN x).length : Int) = 0) && decide (((kdN x).length : Int) = 0)) := by
    rw [Bool.eq_iff_iff]
    simp only [Bool.and_eq_true, decide_eq_true_eq]
    unfold leafOk
    rw [h1]
    constructor
    · rintro ⟨g1, g2, g3⟩; exact ⟨⟨g1, by rw [g2]; rfl⟩, by rw [g3]; rfl⟩
    · rintro ⟨⟨g1, g2⟩, g3⟩; exact ⟨g1, List.eq_nil_of_length_eq_zero (by omega), List.eq_nil_of_length_eq_zero (by omega)⟩
  rw [hfin]
  obtain ⟨aa, acap, ab, ao, acs, aT, afz, e1, _⟩ := SlP.open h2
  obtain ⟨ka, kcap, kb, ko, kcs, kT, kfz, e2, _⟩ := Sl.open h3
  cases e1; cases e2
  clear hfin h1 h2 h3
  refine fn2 hM Tryz.func57 ?_
  repeat' (first | refine sk ?_ | (refine gL ?_; first | refine xl_box rfl (fun _ => ?_)) | fail)
  exact wr_weak (fun _ h => h.drop (List.nil_sublist _)) (wr_tmp rfl rfl rfl)
theorem codesB_T (c : List UInt8) : codesB c = (knownT c).2 := by
  unfold codesB knownT
  cases knownE c <;> rfl
theorem codes24_ok (hM : Laid M w) (c : List UInt8) : Calls Tryz.prog 71 #[str c] w (RetE w (.bool (codesB c))) := by
  rw [codesB_T]
  refine fn1 hM Tryz.func71 ?_
  repeat' (first | refine sk ?_ | fail)
  refine wc_loop (α := { i : Nat // i ≤ 39 ∧ ∀ j, j < i → ¬ codeE ((j + 1 : Nat) : Int) = c }) (fun x => [(0, true, str c), (3, true, i64 ((x.1 + 1 : Nat) : Int))]) (fun _ => St w [] [] M) (fun x => 39 - x.1) ⟨0, by omega, by intro j hj; omega⟩ pE (fun _ h => h) ?_
  rintro ⟨i, hi, hall⟩
  dsimp only
  rcases Nat.lt_or_ge i 39 with hlt | hge
  · repeat' (first | refine sk ?_ | fail)
    refine wc_cond rfl (fun hc => ?_) (fun hc => by exfalso; simp at hc; omega)
    clear hc
    repeat' (first | refine sk ?_ | (refine gL ?_; first | refine wl_v rfl rfl rfl (by first | (exact oc 38 Tryz.call38 (h := fun hcg w hw => rcode_ok hw.laid _))) ?_) | fail)
    refine wc_cond rfl (fun hc => ?_) (fun hc => ?_)
    · rw [known_hit hlt hall (of_decide_eq_true hc)]
      repeat' (first | refine sk ?_ | fail)
      exact wr_tmp rfl rfl rfl
    · repeat' (first | refine sk ?_ | fail)
      refine wn_cut ⟨i + 1, by omega, ?_⟩ (by show 39 - (i + 1) < 39 - i; omega) pE (fun _ h => h)
      intro j hj
      by_cases h : j = i
      · subst h; exact of_decide_eq_false hc
      · exact hall j (by omega)
  · rw [known_none (fun j hj => hall j (by omega))]
    repeat' (first | refine sk ?_ | fail)
    refine wc_cond rfl (fun hc => by exfalso; simp at hc; omega) (fun hc => ?_)
    repeat' (first | refine sk ?_ | fail)
    exact wr_tmp rfl rfl rfl
theorem open_rd {bd : List UInt8} {M' : Ghost} {v : Value} (h : ReadN bd M' v) : ∃ n a1 l1 c1 t a2 l2 c2, v = .tuple #[.agg [str n, .slice a1 l1 c1, str t, .slice a2 l2 c2].toArray, i64 (if (readP bd).isSome then 0 else 10)] ∧ NodeC M' 8 ((readP bd).getD nodeZ) [str n, .slice a1 l1 c1, str t, .slice a2 l2 c2] := by
  obtain ⟨n, a1, l1, c1, t, a2, l2, c2, e, h1, h2, rfl⟩ := read_open h
  exact ⟨_, _, _, _, _, _, _, _, h1, h2⟩
theorem head_ok (hM : Laid M w) {r : Rs} {st : Int} {a l c bd} (hr : RsC M r st a l c bd) (hbd : bd.length ≤ 90000) : Calls Tryz.prog 56 #[.agg [i64 st, .slice a l c, str bd].toArray] w (RetE w (.bool (headB r))) := by
  have hb := hr.2.1
  unfold headB
  rw [hb]
  clear hb hr
  refine fn1 hM Tryz.func56 ?_
  repeat' (first | refine sk ?_ | (refine gL ?_; first | refine xl_alloc (fun _ => ?_) | refine xl_box rfl (fun _ => ?_) | refine xl_store rfl rfl ?_) | fail)
  refine wl_callS rfl Tryz.call72 rfl rfl rfl rfl (fun w hw => rread_ok hw.laid bd (by omega)) ?_
  rintro _ H1 M1 hm1 hn1 ⟨rfl, hR⟩
  obtain ⟨n, a1, l1, c1, t, a2, l2, c2, rfl, hx⟩ := open_rd hR
  clear hR
  cases hrp : readP bd with
  | none =>
    repeat' (first | refine sk ?_ | (refine gL ?_; first | refine wl_v rfl rfl rfl (by first | (exact ov_off (v := .bool false) rfl)) ?_ | refine xl_alloc (fun _ => ?_) | refine xl_box rfl (fun _ => ?_) | refine xl_store rfl rfl ?_) | fail)
    exact wr_weak (fun _ h => h.drop (List.nil_sublist _)) (wr_tmp rfl rfl rfl)
  | some x =>
    rw [hrp] at hx
    have hat := node_at hx
    rw [show (some x).getD nodeZ = x from rfl] at hat
    obtain ⟨aa, acap, ab, ao, acs, aT, afz, e1, k1, k2, k3, k4⟩ := SlP.open hat
    cases e1
    simp only
    by_cases hl : (atN x).length = 1
    · obtain ⟨rfl, hMb⟩ := k3 (by intro e; rw [e] at hl; simp at hl)
      have gi := pcell2 (k4 0 (by omega))
      obtain ⟨p, hp⟩ := List.length_eq_one_iff.1 hl
      have hp0 : (atN x).getD 0 default = p := by rw [hp]; rfl
      rw [hp0] at gi
      have hfin : decide (atN x = [(sNs, sSpace)]) = (decide (p.1 = sNs) && (decide (p.2 = sSpace) && true)) := by
        rw [hp, Bool.eq_iff_iff]
        simp only [Bool.and_eq_true, decide_eq_true_eq, and_true]
        constructor
        · intro h; simp only [List.cons.injEq, and_true] at h; rw [h]; exact ⟨rfl, rfl⟩
        · rintro ⟨h1, h2⟩; rw [← h1, ← h2]
      rw [hfin, hl]
      rw [hl] at k1
      repeat' (first | refine sk ?_ | (refine gL ?_; first | refine wl_v rfl rfl rfl (by first | (show OpV _ _ _ _ (Oper.mk _ (Op.indexAddr _ _ _) _ _ _ _) _ _; exact ov_indexAddr (i := 0) (b := ab) (o := ao) rfl rfl rfl pI pI rfl pZ (fun _ => rfl) (fun _ => by omega)) | (show OpV _ _ _ _ (Oper.mk _ (Op.load _ _) _ _ _ _) _ _; exact ov_loadSM (l := [str p.1, str p.2]) rfl pI rfl pZ (fun _ => hMb) (fun _ => gi))) ?_ | refine xl_alloc (fun _ => ?_) | refine xl_box rfl (fun _ => ?_) | refine xl_store rfl rfl ?_) | fail)
      exact wr_weak (fun _ h => h.drop (List.nil_sublist _)) (wr_tmp rfl rfl rfl)
    · have hfin : decide (atN x = [(sNs, sSpace)]) = false := by
        rw [decide_eq_false_iff_not]
        intro h; rw [h] at hl; exact hl rfl
      have hne : ((atN x).length : Int) ≠ 1 := by omega
      rw [hfin]
      repeat' (first | ((show WL _ _ (Oper.mk _ (Op.binOp BinOp.eql _ _ (.const (.int .i64 1)) _) _ _ _ _ :: _) _ _ _ _; refine wl_v rfl rfl rfl (opv_eq (ov_eql rfl rfl pI pI) (decide_eq_false hne)) ?_)) | (first | refine sk1 ?_ | (refine gL ?_; first | refine wl_v rfl rfl rfl (by first | (exact ov_off (v := .bool false) rfl)) ?_ | refine xl_alloc (fun _ => ?_) | refine xl_box rfl (fun _ => ?_) | refine xl_store rfl rfl ?_) | fail) | (refine wc_cond rfl (fun hc => ?_) (fun hc => ?_) <;> (try (simp only [bls] at hc)) <;> (try (exfalso; first | omega | contradiction))))
      exact wr_weak (fun _ h => h.drop (List.nil_sublist _)) (wr_tmp rfl rfl rfl)
end Go.Proofs.YtgfbieplidpebaaGreatDoor
/-
  matricularef24.top, failed, body.
-/
namespace Go.Proofs.YtgfbieplidpebaaGreatDoor
open Go.Eng Go.Pct Go.Xml Go.Cas
set_option maxRecDepth 10000
set_option linter.unusedSimpArgs false
set_option linter.unusedVariables false

variable {M : Ghost} {w0 w : World} {bs : List Nat} {H : List (Nat × Obj)}
/-- where the look has come to -/
def Way (x : Nd) (names : List (List UInt8)) (i : Nat) (y : Nd) : Prop := if i < names.length then topN x names = topN y (names.drop i) else topN x names = some y
theorem way_zero (x : Nd) (names : List (List UInt8)) : Way x names 0 x := by
  unfold Way
  split
  · rfl
  · rename_i h
    have : names = [] := List.eq_nil_of_length_eq_zero (by omega)
    rw [this]; rfl
structure WQ (M : Ghost) (D : Nat) (x : Nd) (names : List (List UInt8)) where
  i : Nat
  hi : i ≤ names.length
  y : Nd
  n : List UInt8
  a1 : Option Addr
  l1 : Nat
  c1 : Nat
  t : List UInt8
  a2 : Option Addr
  l2 : Nat
  c2 : Nat
  node : NodeC M (D + 1) y [str n, .slice a1 l1 c1, str t, .slice a2 l2 c2]
  way : Way x names i y
/-- what top yields -/
def TopIs (M' : Ghost) (D : Nat) (o : Option Nd) (v : Value) : Prop := ∃ n a1 l1 c1 t a2 l2 c2, v = .tuple #[.agg [str n, .slice a1 l1 c1, str t, .slice a2 l2 c2].toArray, .bool o.isSome] ∧ NodeC M' (D + 1) (o.getD nodeZ) [str n, .slice a1 l1 c1, str t, .slice a2 l2 c2]
set_option maxHeartbeats 1000000 in
theorem top_ok (hM : Laid M w) {r : Rs} {st : Int} {a l c bd} (hr : RsC M r st a l c bd) (hbd : bd.length ≤ 90000) (kind : List UInt8) {vp : Value} {names : List (List UInt8)} (hp : SlS M vp names) : Calls Tryz.prog 55 #[.agg [i64 st, .slice a l c, str bd].toArray, str kind, vp] w (RetS M w (fun M' H v => H = [] ∧ TopIs M' 8 (topR r kind names) v)) := by
  obtain ⟨na, ncap, nb, no, ncs, nT, nfz, rfl, g1, g2, g3, g4⟩ := hp.open
  have htn : ¬ (st = 200 ∧ r.headers = [(sCT, kind)]) → topR r kind names = none := fun h => by
    unfold topR; rw [if_neg (by unfold hdrOk; rw [hr.1]; exact h)]
  have hty : st = 200 → r.headers = [(sCT, kind)] → topR r kind names = (match readP bd with | some x => topN x names | none => none) := fun h1 h2 => by
    unfold topR; rw [if_pos (by unfold hdrOk; rw [hr.1]; exact ⟨h1, h2⟩), hr.2.1]
    cases readP bd <;> rfl
  have hhd := hr.2.2
  generalize topR r kind names = out at *
  generalize r.headers = hs at *
  clear hr
  obtain ⟨ha, hcap, hbk, ho, hcs, hT, hfz, e1, k1, k2, k3, k4⟩ := SlP.open hhd
  cases e1
  refine fn3 hM Tryz.func55 ?_
  by_cases h1 : st = 200 ∧ hs.length = 1
  · obtain ⟨rfl, hl⟩ := h1
    obtain ⟨rfl, hMb⟩ := k3 (by intro e; rw [e] at hl; simp at hl)
    have gi := pcell2 (k4 0 (by omega))
    obtain ⟨p, rfl⟩ := List.length_eq_one_iff.1 hl
    have hp0 : ([p] : List Go.Pct.Pr).getD 0 default = p := rfl
    rw [hp0] at gi
    repeat' (first | (first | (show WL _ _ (Oper.mk _ (Op.binOp BinOp.neq _ _ _ _) _ _ _ _ :: _) _ _ _ _; refine wl_v rfl rfl rfl (opv_eq (ov_neq rfl rfl pI pI) (ndF (by omega))) ?_) | (show WL _ _ (Oper.mk _ (Op.binOp BinOp.neq _ _ _ _) _ _ _ _ :: _) _ _ _ _; refine wl_v rfl rfl rfl (opv_eq (ov_neq rfl rfl pI pI) (ndT (by omega))) ?_)) | (first | refine sk1 ?_ | (refine gL ?_; first | refine wl_v rfl rfl rfl (by first | (show OpV _ _ _ _ (Oper.mk _ (Op.indexAddr _ _ _) _ _ _ _) _ _; exact ov_indexAddr (i := 0) (b := hbk) (o := ho) rfl rfl rfl pI pI rfl pZ (fun _ => rfl) (fun _ => by simp)) | (show OpV _ _ _ _ (Oper.mk _ (Op.load _ _) _ _ _ _) _ _; exact ov_loadSM (l := [str p.1, str p.2]) rfl pI rfl pZ (fun _ => hMb) (fun _ => gi))) ?_ | refine xl_alloc (fun _ => ?_) | refine xl_box rfl (fun _ => ?_) | refine xl_store rfl rfl ?_) | fail) | (refine wc_cond rfl (fun hc => ?_) (fun hc => ?_) <;> (try (simp only [bls] at hc)) <;> (try (exfalso; first | omega | contradiction))))
    · have hno : ¬ (200 = (200 : Int) ∧ [p] = [(sCT, kind)]) := by
        rintro ⟨_, h⟩
        have h : p = (sCT, kind) := by simpa using h
        rw [h] at hc
        revert hc
        show ¬ (¬ sCT = sCT ∨ ¬ kind = kind ∨ true = false)
        simp
      rw [htn hno]
      exact yr_layC2 (Hn := []) rfl rfl rfl rfl rfl Since.refl (List.nil_sublist _) ⟨rfl, _, _, _, _, _, _, _, _, rfl, nodeZ_ok⟩
    have hpe : [p] = [(sCT, kind)] := by
      obtain ⟨h1, h2, _⟩ := hc
      rw [show p = (sCT, kind) from Prod.ext h1 h2]
    rw [hty rfl hpe]
    clear htn hty hhd k1 k2 k3 k4 hpe
    rename_i b3 b6
    refine wl_callS rfl Tryz.call72 rfl rfl rfl rfl (fun w hw => rread_ok hw.laid bd (by omega)) ?_
    rintro _ H1 M1 hm1 hn1 ⟨rfl, hR⟩
    obtain ⟨n1, p1, q1, r1, t1, p1', q1', r1', rfl, hx⟩ := open_rd hR
    have si1 := Since.refl.step hm1 hn1
    clear hR hc gi
    cases hrp : readP bd with
    | none =>
      simp only
      repeat' (first | refine sk ?_ | (refine gL ?_; first | refine xl_alloc (fun _ => ?_) | refine xl_box rfl (fun _ => ?_) | refine xl_store rfl rfl ?_) | fail)
      refine wc_cond rfl (fun hc => ?_) (fun hc => by exfalso; simp at hc)
      repeat' (first | refine sk ?_ | (refine gL ?_; first | refine xl_alloc (fun _ => ?_) | refine xl_box rfl (fun _ => ?_) | refine xl_store rfl rfl ?_) | fail)
      exact yr_layC2 (Hn := []) rfl rfl rfl rfl rfl si1 (List.nil_sublist _) ⟨rfl, _, _, _, _, _, _, _, _, rfl, nodeZ_ok⟩
    | some x =>
      rw [hrp] at hx
      simp only
      repeat' (first | refine sk ?_ | (refine gL ?_; first | refine xl_alloc (fun _ => ?_) | refine xl_box rfl (fun _ => ?_) | refine xl_store rfl rfl ?_) | fail)
      refine wc_cond rfl (fun hc => by exfalso; simp at hc) (fun hc => ?_)
      clear hc
      repeat' (first | refine sk ?_ | (refine gL ?_; first | refine xl_alloc (fun _ => ?_) | refine xl_box rfl (fun _ => ?_) | refine xl_store rfl rfl ?_) | fail)
      rename_i b8
      refine wc_loop (α := WQ M1 7 x names) (fun z => [(2, true, .slice na names.length ncap), (6, true, .pointer (some ⟨b6, 0, none⟩)), (8, true, .pointer (some ⟨b8, 0, none⟩)), (10, true, i64 (z.i : Int))]) (fun z => St w [] [(b8, .cells [str z.n, .slice z.a1 z.l1 z.c1, str z.t, .slice z.a2 z.l2 z.c2].toArray tNd (0, 0)), (b6, .cells [str [], .slice none 0 0, str [], .slice none 0 0].toArray tNd (0, 0))] M1) (fun z => names.length - z.i) ⟨0, Nat.zero_le _, x, n1, p1, q1, r1, t1, p1', q1', r1', hx, way_zero x names⟩ pE (fun _ h => h.drop (List.Sublist.cons_cons _ (List.Sublist.cons_cons _ (List.nil_sublist _)))) ?_
      rintro ⟨i, hi, y, yn, y1, m1, d1, yt, y2, m2, d2, node, way⟩
      dsimp only
      rcases Nat.lt_or_ge i names.length with hlt | hge
      · have hne : names ≠ [] := by intro e; rw [e] at hlt; simp at hlt
        obtain ⟨rfl, hMb⟩ := g3 hne
        have gi := g4 i hlt
        have hnm := node_nm node
        have hdr : names.drop i = names.getD i default :: names.drop (i + 1) := by
          have e : names.getD i default = names[i] := by simp [hlt]
          rw [e]; exact List.drop_eq_getElem_cons hlt
        unfold Way at way
        rw [if_pos hlt, hdr] at way
        generalize names.getD i default = q at *
        repeat' (first | refine sk ?_ | (refine gL ?_; first | refine xl_alloc (fun _ => ?_) | refine xl_box rfl (fun _ => ?_) | refine xl_store rfl rfl ?_) | fail)
        refine wc_cond rfl (fun hc => ?_) (fun hc => by exfalso; simp at hc; omega)
        clear hc
        repeat' (first | refine sk ?_ | (refine gL ?_; first | refine xl_alloc (fun _ => ?_) | refine xl_box rfl (fun _ => ?_) | refine xl_store rfl rfl ?_) | fail)
        refine wc_draw 7 (by kernel_rfl) rfl (by kernel_rfl) (fun _ _ h k => h.ext k) ?_
        repeat' (first | (refine gD ?_; first | refine yd_v rfl rfl rfl rfl rfl rfl ?_ | refine wd_v rfl rfl rfl rfl rfl rfl (by first | (show OpV _ _ _ _ (Oper.mk _ (Op.indexAddr _ _ _) _ _ _ _) _ _; exact ov_indexAddr (i := i) (b := nb) (o := no) rfl rfl rfl pI pI rfl pZ (fun _ => rfl) pS) | (show OpV _ _ _ _ (Oper.mk _ (Op.load _ _) _ _ _ _) _ _; exact ov_load1M rfl pI rfl rfl (fun _ => hm1 _ _ hMb) (fun _ => gi))) ?_ | refine yd_new rfl rfl rfl rfl rfl rfl ?_ | refine wd_conv rfl rfl rfl rfl rfl rfl rfl rfl rfl rfl ?_) | (refine gE ?_; first | refine wd_nil ?_ | refine wd_nilF ?_) | (first | refine sk ?_ | (refine gL ?_; first | refine wl_v rfl rfl rfl (by first | (show OpV _ _ _ _ (Oper.mk _ (Op.indexAddr _ _ _) _ _ _ _) _ _; exact ov_indexAddr (i := i) (b := nb) (o := no) rfl rfl rfl pI pI rfl pZ (fun _ => rfl) pS) | (show OpV _ _ _ _ (Oper.mk _ (Op.load _ _) _ _ _ _) _ _; exact ov_load1M rfl pI rfl rfl (fun _ => hm1 _ _ hMb) (fun _ => gi))) ?_ | refine xl_alloc (fun _ => ?_) | refine xl_box rfl (fun _ => ?_) | refine xl_store rfl rfl ?_) | fail))
        refine wc_cond rfl (fun hc => ?_) (fun hc => ?_)
        · have hno : ¬ nmN y = q := by rw [hnm]; simpa using hc
          have hz : topN x names = none := by
            rw [way]
            cases names.drop (i + 1) with
            | nil => rw [topN, if_neg hno]
            | cons q2 l2 => rw [topN, if_neg (fun h => hno h.1)]
          rw [hz]
          repeat' (first | refine sk ?_ | (refine gL ?_; first | refine xl_alloc (fun _ => ?_) | refine xl_box rfl (fun _ => ?_) | refine xl_store rfl rfl ?_) | fail)
          exact yr_layC2 (Hn := []) rfl rfl rfl rfl rfl si1 (List.nil_sublist _) ⟨rfl, _, _, _, _, _, _, _, _, rfl, nodeZ_ok⟩
        · have hyes : nmN y = q := by rw [hnm]; simpa using hc
          clear hc
          by_cases hlast : i + 1 < names.length
          · have hdr2 : names.drop (i + 1) = names.getD (i + 1) default :: names.drop (i + 1 + 1) := by
              have e : names.getD (i + 1) default = names[i + 1] := by simp [hlast]
              rw [e]; exact List.drop_eq_getElem_cons hlast
            have hkd := node_kd node
            obtain ⟨ka, kcap, kb, ko, kcs, kT, kfz, e2, k1, k2, k3, k4⟩ := Sl.open hkd
            cases e2
            rw [hdr2, topN] at way
            rw [← hdr2] at way
            repeat' (first | refine sk ?_ | (refine gL ?_; first | refine xl_alloc (fun _ => ?_) | refine xl_box rfl (fun _ => ?_) | refine xl_store rfl rfl ?_) | fail)
            refine wc_cond rfl (fun hc => ?_) (fun hc => by exfalso; simp at hc; omega)
            clear hc
            repeat' (first | refine sk ?_ | (refine gL ?_; first | refine xl_alloc (fun _ => ?_) | refine xl_box rfl (fun _ => ?_) | refine xl_store rfl rfl ?_) | fail)
            refine wc_cond rfl (fun hc => ?_) (fun hc => ?_)
            · have hk1 : ¬ (kdN y).length = 1 := by
                intro h; rw [h] at hc; simp at hc
              rw [if_neg (fun h => hk1 h.2)] at way
              rw [way]
              repeat' (first | refine sk ?_ | (refine gL ?_; first | refine xl_alloc (fun _ => ?_) | refine xl_box rfl (fun _ => ?_) | refine xl_store rfl rfl ?_) | fail)
              exact yr_layC2 (Hn := []) rfl rfl rfl rfl rfl si1 (List.nil_sublist _) ⟨rfl, _, _, _, _, _, _, _, _, rfl, nodeZ_ok⟩
            · have hk1 : (kdN y).length = 1 := by
                have : ((kdN y).length : Int) = 1 := by simpa using hc
                omega
              rw [if_pos ⟨hyes, hk1⟩] at way
              obtain ⟨rfl, hMk⟩ := k3 (by intro e; rw [e] at hk1; simp at hk1)
              obtain ⟨us, hu4, hus, hcells⟩ := k4 0 (by omega)
              obtain ⟨vn, ua1, ul1, uc1, vt, ua2, ul2, uc2, rfl⟩ := node_open hus
              have hgk : (kdN y).getD 0 nodeZ = (kdN y)[0]'(by omega) := getD_nd (by omega)
              rw [hgk] at way
              repeat' (first | refine sk ?_ | (refine gL ?_; first | refine wl_v rfl rfl rfl (by first | (show OpV _ _ _ _ (Oper.mk _ (Op.indexAddr _ _ _) _ _ _ _) _ _; exact ov_indexAddr (i := 0) (b := kb) (o := ko) rfl rfl rfl pI pI rfl pZ (fun _ => rfl) (fun _ => by omega)) | (show OpV _ _ _ _ (Oper.mk _ (Op.load _ _) _ _ _ _) _ _; exact ov_loadSM (l := [str vn, .slice ua1 ul1 uc1, str vt, .slice ua2 ul2 uc2]) rfl pI rfl pZ (fun _ => hMk) (fun _ j hj => hcells j hj))) ?_ | refine xl_alloc (fun _ => ?_) | refine xl_box rfl (fun _ => ?_) | refine xl_store rfl rfl ?_) | fail)
              exact wn_cut ⟨i + 1, by omega, (kdN y)[0]'(by omega), vn, ua1, ul1, uc1, vt, ua2, ul2, uc2, NodeC.up (Nat.le_succ _) hus, by unfold Way; rw [if_pos hlast]; exact way⟩ (by show names.length - (i + 1) < names.length - i; omega) pE (fun _ h => h)
          · have hdr2 : names.drop (i + 1) = [] := List.drop_eq_nil_of_le (by omega)
            rw [hdr2, topN, if_pos hyes] at way
            repeat' (first | refine sk ?_ | (refine gL ?_; first | refine xl_alloc (fun _ => ?_) | refine xl_box rfl (fun _ => ?_) | refine xl_store rfl rfl ?_) | fail)
            refine wc_cond rfl (fun hc => by exfalso; simp at hc; omega) (fun hc => ?_)
            repeat' (first | refine sk ?_ | (refine gL ?_; first | refine xl_alloc (fun _ => ?_) | refine xl_box rfl (fun _ => ?_) | refine xl_store rfl rfl ?_) | fail)
            exact wn_cut ⟨i + 1, by omega, y, yn, y1, m1, d1, yt, y2, m2, d2, node, by unfold Way; rw [if_neg hlast]; exact way⟩ (by show names.length - (i + 1) < names.length - i; omega) pE (fun _ h => h)
      · obtain rfl : i = names.length := by omega
        unfold Way at way
        rw [if_neg (by omega)] at way
        rw [way]
        repeat' (first | refine sk ?_ | (refine gL ?_; first | refine xl_alloc (fun _ => ?_) | refine xl_box rfl (fun _ => ?_) | refine xl_store rfl rfl ?_) | fail)
        refine wc_cond rfl (fun hc => by exfalso; simp at hc) (fun hc => ?_)
        repeat' (first | refine sk ?_ | (refine gL ?_; first | refine xl_alloc (fun _ => ?_) | refine xl_box rfl (fun _ => ?_) | refine xl_store rfl rfl ?_) | fail)
        exact yr_layC2 (Hn := []) rfl rfl rfl rfl rfl si1 (List.nil_sublist _) ⟨rfl, _, _, _, _, _, _, _, _, rfl, NodeC.mono (fun _ _ => .inl) (NodeC.up (Nat.le_succ _) node)⟩
  · rw [htn (by rintro ⟨h2, h3⟩; exact h1 ⟨h2, by rw [h3]; rfl⟩)]
    by_cases h2 : st = 200
    · have hl : ¬ hs.length = 1 := fun h => h1 ⟨h2, h⟩
      repeat' (first | (first | (show WL _ _ (Oper.mk _ (Op.binOp BinOp.neq _ _ _ _) _ _ _ _ :: _) _ _ _ _; refine wl_v rfl rfl rfl (opv_eq (ov_neq rfl rfl pI pI) (ndF (by omega))) ?_) | (show WL _ _ (Oper.mk _ (Op.binOp BinOp.neq _ _ _ _) _ _ _ _ :: _) _ _ _ _; refine wl_v rfl rfl rfl (opv_eq (ov_neq rfl rfl pI pI) (ndT (by omega))) ?_)) | (first | refine sk1 ?_ | (refine gL ?_; first | refine wl_v rfl rfl rfl (by first | (exact ov_off (v := .bool false) rfl)) ?_ | refine xl_alloc (fun _ => ?_) | refine xl_box rfl (fun _ => ?_) | refine xl_store rfl rfl ?_) | fail) | (refine wc_cond rfl (fun hc => ?_) (fun hc => ?_) <;> (try (simp only [bls] at hc)) <;> (try (exfalso; first | omega | contradiction))))
      all_goals exact yr_layC2 (Hn := []) rfl rfl rfl rfl rfl Since.refl (List.nil_sublist _) ⟨rfl, _, _, _, _, _, _, _, _, rfl, nodeZ_ok⟩
    · repeat' (first | (first | (show WL _ _ (Oper.mk _ (Op.binOp BinOp.neq _ _ _ _) _ _ _ _ :: _) _ _ _ _; refine wl_v rfl rfl rfl (opv_eq (ov_neq rfl rfl pI pI) (ndF (by omega))) ?_) | (show WL _ _ (Oper.mk _ (Op.binOp BinOp.neq _ _ _ _) _ _ _ _ :: _) _ _ _ _; refine wl_v rfl rfl rfl (opv_eq (ov_neq rfl rfl pI pI) (ndT (by omega))) ?_)) | (first | refine sk1 ?_ | (refine gL ?_; first | refine wl_v rfl rfl rfl (by first | (exact ov_off (v := .bool false) rfl)) ?_ | refine xl_alloc (fun _ => ?_) | refine xl_box rfl (fun _ => ?_) | refine xl_store rfl rfl ?_) | fail) | (refine wc_cond rfl (fun hc => ?_) (fun hc => ?_) <;> (try (simp only [bls] at hc)) <;> (try (exfalso; first | omega | contradiction))))
      all_goals exact yr_layC2 (Hn := []) rfl rfl rfl rfl rfl Since.refl (List.nil_sublist _) ⟨rfl, _, _, _, _, _, _, _, _, rfl, nodeZ_ok⟩
theorem rfailed_none {r : Rs} {name text : List UInt8} (h : topR r sXml [sResp, name] = none) : rfailed r name text = ([], false) := by unfold rfailed; rw [h]
theorem rfailed_bad {r : Rs} {n : Nd} {name text : List UInt8} (h : topR r sXml [sResp, name] = some n) (h2 : ¬ failOk n text) : rfailed r name text = ([], false) := by unfold rfailed; rw [h]; simp only; rw [if_neg h2]
theorem rfailed_some {r : Rs} {n : Nd} {name text : List UInt8} (h : topR r sXml [sResp, name] = some n) (h2 : failOk n text) : rfailed r name text = if codesB (valN n) = true then (valN n, headB r) else ([], false) := by unfold rfailed; rw [h]; simp only; rw [if_pos h2]
set_option maxHeartbeats 1000000 in
theorem failed24_ok (hM : Laid M w) {r : Rs} {st : Int} {a l c bd} (hr : RsC M r st a l c bd) (hbd : bd.length ≤ 90000) (name text : List UInt8) : Calls Tryz.prog 54 #[.agg [i64 st, .slice a l c, str bd].toArray, str name, str text] w (RetE w (.tuple #[str (rfailed r name text).1, .bool (rfailed r name text).2])) := by
  refine fn3 hM Tryz.func54 ?_
  repeat' (first | refine sk ?_ | (refine gL ?_; first | refine xl_alloc (fun _ => ?_) | refine xl_box rfl (fun _ => ?_) | refine xl_store rfl rfl ?_ | refine xl_buildSlice rfl (fun _ => ?_)) | fail)
  rename_i b3 bq
  refine wl_publish (H1 := [(bq, .cells (cellsS [sResp, name]).toArray 9 (0, 0))]) (fun hn => ?_)
  have hp : SlS (With M [(bq, .cells (cellsS [sResp, name]).toArray 9 (0, 0))]) (.slice (some ⟨bq, 0, none⟩) 2 2) [sResp, name] := slS_blk (l := [sResp, name]) (.inr (List.Mem.head _)) (by simp)
  have hr1 : RsC (With M [(bq, .cells (cellsS [sResp, name]).toArray 9 (0, 0))]) r st a l c bd := ⟨hr.1, hr.2.1, Sl.mono hr.2.2 (fun _ _ => .inl) (fun _ _ _ h => h)⟩
  clear hr hn
  generalize With M [(bq, .cells (cellsS [sResp, name]).toArray 9 (0, 0))] = M1 at *
  refine wl_callS rfl Tryz.call55 rfl rfl rfl rfl (fun w hw => top_ok hw.laid hr1 hbd sXml hp) ?_
  rintro _ H2 M2 hm2 hn2 ⟨rfl, n1, p1, q1, r1, t1, p1', q1', r1', rfl, hx⟩
  have hr2 : RsC M2 r st a l c bd := ⟨hr1.1, hr1.2.1, Sl.mono hr1.2.2 hm2 (fun _ _ _ h => h)⟩
  have hhd := fun {w : World} (hw : Laid M2 w) => head_ok hw hr2 hbd
  clear hr1 hp hn2
  cases htop : topR r sXml [sResp, name] with
  | none =>
    rw [rfailed_none htop]
    repeat' (first | refine sk ?_ | (refine gL ?_; first | refine wl_v rfl rfl rfl (by first | (exact ov_off (v := .bool false) rfl)) ?_ | refine xl_alloc (fun _ => ?_) | refine xl_box rfl (fun _ => ?_) | refine xl_store rfl rfl ?_ | refine xl_buildSlice rfl (fun _ => ?_)) | fail)
    refine wc_cond rfl (fun hc => ?_) (fun hc => by exfalso; simp at hc)
    repeat' (first | refine sk ?_ | (refine gL ?_; first | refine xl_alloc (fun _ => ?_) | refine xl_box rfl (fun _ => ?_) | refine xl_store rfl rfl ?_ | refine xl_buildSlice rfl (fun _ => ?_)) | fail)
    exact wr_weak (fun _ h => h.drop (List.nil_sublist _)) (wr_tmp2 rfl rfl rfl rfl rfl)
  | some n =>
    rw [htop] at hx
    rw [show (some n).getD nodeZ = n from rfl] at hx
    have hat := node_at hx
    have hkd := node_kd hx
    have htx := node_tx hx
    obtain ⟨aa, acap, ab, ao, acs, aT, afz, e1, k1, k2, k3, k4⟩ := SlP.open hat
    obtain ⟨ka, kcap, kb, ko, kcs, kT, kfz, e2, _⟩ := Sl.open hkd
    cases e1; cases e2
    by_cases hl : (atN n).length = 1
    · obtain ⟨rfl, hMb⟩ := k3 (by intro e; rw [e] at hl; simp at hl)
      have gi := k4 0 (by omega)
      have hfo : failOk n text ↔ (((atN n).getD 0 default).1 = sCode ∧ t1 = text ∧ (kdN n).length = 0) := by
        unfold failOk
        rw [htx]
        constructor
        · rintro ⟨_, h1, h2, h3⟩; exact ⟨h1, h2, by rw [h3]; rfl⟩
        · rintro ⟨h1, h2, h3⟩; exact ⟨hl, h1, h2, List.eq_nil_of_length_eq_zero h3⟩
      have hrs := fun h => rfailed_some (text := text) htop h
      have hrb := fun h => rfailed_bad (text := text) htop h
      unfold valN at hrs
      clear hat hkd htx hx k1 k2 k3 k4 htop
      generalize (atN n).getD 0 default = p at *
      generalize headB r = hb at *
      have hcd := fun {w : World} (hw : Laid M2 w) => codes24_ok hw p.2
      generalize codesB p.2 = cb at *
      repeat' (first | (first | (show WL _ _ (Oper.mk _ (Op.binOp BinOp.neq _ _ _ _) _ _ _ _ :: _) _ _ _ _; refine wl_v rfl rfl rfl (opv_eq (ov_neq rfl rfl pI pI) (ndF (by omega))) ?_)) | (first | refine sk1 ?_ | (refine gL ?_; first | refine wl_v rfl rfl rfl (by first | (show OpV _ _ _ _ (Oper.mk _ (Op.indexAddr _ _ _) _ _ _ _) _ _; exact ov_indexAddr (i := 0) (b := ab) (o := ao) rfl rfl rfl pI pI rfl pZ (fun _ => rfl) (fun _ => by omega)) | (show OpV _ _ _ _ (Oper.mk _ (Op.load _ _) _ _ _ _) _ _; exact ov_load1M rfl pI rfl rfl (fun _ => hMb) (fun _ => gi.1)) | (show OpV _ _ _ _ (Oper.mk _ (Op.load _ _) _ _ _ _) _ _; exact ov_load1M rfl pI rfl rfl (fun _ => hMb) (fun _ => gi.2)) | (exact oc 71 Tryz.call71 (h := fun hcg w hw => hcd hw.laid))) ?_ | refine xl_alloc (fun _ => ?_) | refine xl_box rfl (fun _ => ?_) | refine xl_store rfl rfl ?_ | refine xl_buildSlice rfl (fun _ => ?_)) | fail) | (refine wc_cond rfl (fun hc => ?_) (fun hc => ?_) <;> (try (simp only [bls] at hc)) <;> (try (exfalso; first | omega | contradiction))))
      · rw [hrb (by
          rw [hfo]
          rintro ⟨h1, h2, h3⟩
          rcases hc with ((h | h) | h) | h
          · cases h
          · exact h h1
          · exact h h2
          · omega)]
        exact wr_weak (fun _ h => h.drop (List.nil_sublist _)) (wr_tmp2 rfl rfl rfl rfl rfl)
      · rename_i hc0
        rw [hrs (hfo.2 ⟨hc0.1.1.2, hc0.1.2, by have := hc0.2; omega⟩), hc, if_neg (by simp)]
        exact wr_weak (fun _ h => h.drop (List.nil_sublist _)) (wr_tmp2 rfl rfl rfl rfl rfl)
      · rename_i hc0
        rw [hrs (hfo.2 ⟨hc0.1.1.2, hc0.1.2, by have := hc0.2; omega⟩), hc, if_pos rfl]
        clear hrs hrb hfo hc hc0 hcd
        refine wc_draw 7 (by kernel_rfl) rfl (by kernel_rfl) (fun _ _ h k => h.ext k) ?_
        repeat' (first | (refine gD ?_; first | refine yd_v rfl rfl rfl rfl rfl rfl ?_ | refine wd_v rfl rfl rfl rfl rfl rfl (by first | (show OpV _ _ _ _ (Oper.mk _ (Op.indexAddr _ _ _) _ _ _ _) _ _; exact ov_indexAddr (i := 0) (b := ab) (o := ao) rfl rfl rfl pI pI rfl pZ (fun _ => rfl) (fun _ => by omega)) | (show OpV _ _ _ _ (Oper.mk _ (Op.load _ _) _ _ _ _) _ _; exact ov_load1M rfl pI rfl rfl (fun _ => hMb) (fun _ => gi.2)) | (exact oc 56 Tryz.call56 (h := fun hcg w hw => hhd hw.laid))) ?_ | refine yd_new rfl rfl rfl rfl rfl rfl ?_ | refine wd_conv rfl rfl rfl rfl rfl rfl rfl rfl rfl rfl ?_) | (refine gE ?_; first | refine wd_nil ?_ | refine wd_nilF ?_) | (first | refine sk ?_ | (refine gL ?_; first | refine wl_v rfl rfl rfl (by first | (show OpV _ _ _ _ (Oper.mk _ (Op.indexAddr _ _ _) _ _ _ _) _ _; exact ov_indexAddr (i := 0) (b := ab) (o := ao) rfl rfl rfl pI pI rfl pZ (fun _ => rfl) (fun _ => by omega)) | (show OpV _ _ _ _ (Oper.mk _ (Op.load _ _) _ _ _ _) _ _; exact ov_load1M rfl pI rfl rfl (fun _ => hMb) (fun _ => gi.2)) | (exact oc 56 Tryz.call56 (h := fun hcg w hw => hhd hw.laid))) ?_ | refine xl_alloc (fun _ => ?_) | refine xl_box rfl (fun _ => ?_) | refine xl_store rfl rfl ?_ | refine xl_buildSlice rfl (fun _ => ?_)) | fail))
        exact wr_weak (fun _ h => h.drop (List.nil_sublist _)) (wr_tmp2 rfl rfl rfl rfl rfl)
    · rw [rfailed_bad htop (fun h => hl h.1)]
      repeat' (first | (first | (show WL _ _ (Oper.mk _ (Op.binOp BinOp.neq _ _ _ _) _ _ _ _ :: _) _ _ _ _; refine wl_v rfl rfl rfl (opv_eq (ov_neq rfl rfl pI pI) (ndT (by omega))) ?_)) | (first | refine sk1 ?_ | (refine gL ?_; first | refine wl_v rfl rfl rfl (by first | (exact ov_off (v := .bool false) rfl)) ?_ | refine xl_alloc (fun _ => ?_) | refine xl_box rfl (fun _ => ?_) | refine xl_store rfl rfl ?_ | refine xl_buildSlice rfl (fun _ => ?_)) | fail) | (refine wc_cond rfl (fun hc => ?_) (fun hc => ?_) <;> (try (simp only [bls] at hc)) <;> (try (exfalso; first | omega | contradiction))))
      · exact wr_weak (fun _ h => h.drop (List.nil_sublist _)) (wr_tmp2 rfl rfl rfl rfl rfl)
      · exact absurd hc.1.1.2 (by simp)
end Go.Proofs.YtgfbieplidpebaaGreatDoor
/-
  matricularef24.body, ReadProxy, ReadForm, ReadPage.
-/
namespace Go.Proofs.YtgfbieplidpebaaGreatDoor
open Go.Eng Go.Pct Go.Xml Go.Cas
set_option maxRecDepth 10000
set_option linter.unusedSimpArgs false
set_option linter.unusedVariables false

variable {M : Ghost} {w0 w : World} {bs : List Nat} {H : List (Nat × Obj)}
theorem bodyR_none {r : Rs} (h : topR r sHtmlT [sHtml, sBody] = none) : bodyR r = none := by unfold bodyR; rw [h]
theorem bodyR_at {r : Rs} {n : Nd} (h : topR r sHtmlT [sHtml, sBody] = some n) : bodyR r = if atN (rd r) = [] ∧ atN (kidN (kdN (rd r)) 0) = [] then some (kdN (kidN (kdN (rd r)) 0)) else none := by unfold bodyR; rw [h]
theorem kid_text {x : Nd} (h : 0 < (kdN x).length) : (textN ((kdN x).getD 0 nodeZ)).length ≤ (textN x).length := by
  have e : (kdN x).getD 0 nodeZ = (kdN x)[0] := by simp [h]
  rw [e]
  exact Nat.le_trans (textL_mem (List.getElem_mem h)) (textN_ge x).2.2.1
theorem top_len : ∀ {names : List (List UInt8)} {x n : Nd}, topN x names = some n → (textN n).length ≤ (textN x).length
  | [], x, n, h => by rw [topN] at h; cases h; exact Nat.le_refl _
  | [p], x, n, h => by
    rw [topN] at h
    split at h
    · cases h; exact Nat.le_refl _
    · cases h
  | p :: q :: l, x, n, h => by
    rw [topN] at h
    split at h
    · rename_i h1
      exact Nat.le_trans (top_len h) (kid_text (by omega))
    · cases h
theorem top_three_len {names : List (List UInt8)} {x n : Nd} (h : topN x names = some n) : (textN n).length ≤ (textN x).length := top_len h
/-- a page's elements, laid -/
def BodyIs (M' : Ghost) (o : Option (List Nd)) (v : Value) : Prop := ∃ a l c, v = .tuple #[.slice a l c, .bool o.isSome] ∧ Sl M' 4 (NodeC M' 8) (.slice a l c) (o.getD [])
set_option maxHeartbeats 1000000 in
theorem body24_ok (hM : Laid M w) {r : Rs} {st : Int} {a l c bd} (hr : RsC M r st a l c bd) (hbd : bd.length ≤ 90000) : Calls Tryz.prog 58 #[.agg [i64 st, .slice a l c, str bd].toArray] w (RetS M w (fun M' H v => H = [] ∧ BodyIs M' (bodyR r) v)) := by
  have hb := hr.2.1
  refine fn1 hM Tryz.func58 ?_
  repeat' (first | refine sk ?_ | (refine gL ?_; first | refine xl_alloc (fun _ => ?_) | refine xl_box rfl (fun _ => ?_) | refine xl_store rfl rfl ?_ | refine xl_buildSlice rfl (fun _ => ?_)) | fail)
  rename_i b3 bq
  refine wl_publish (H1 := [(bq, .cells (cellsS [sHtml, sBody]).toArray 9 (0, 0))]) (fun hn => ?_)
  have hp : SlS (With M [(bq, .cells (cellsS [sHtml, sBody]).toArray 9 (0, 0))]) (.slice (some ⟨bq, 0, none⟩) 2 2) [sHtml, sBody] := slS_blk (l := [sHtml, sBody]) (.inr (List.Mem.head _)) (by simp)
  have hr1 : RsC (With M [(bq, .cells (cellsS [sHtml, sBody]).toArray 9 (0, 0))]) r st a l c bd := ⟨hr.1, hr.2.1, Sl.mono hr.2.2 (fun _ _ => .inl) (fun _ _ _ h => h)⟩
  have si1 := since_new (M0 := M) Since.refl hn
  clear hr hn
  generalize With M [(bq, .cells (cellsS [sHtml, sBody]).toArray 9 (0, 0))] = M1 at *
  refine wl_callS rfl Tryz.call55 rfl rfl rfl rfl (fun w hw => top_ok hw.laid hr1 hbd sHtmlT hp) ?_
  rintro _ H2 M2 hm2 hn2 ⟨rfl, n1, p1, q1, r1, t1, p1', q1', r1', rfl, _⟩
  have si2 := si1.step hm2 hn2
  clear hr1 hp hm2 hn2 si1
  cases htop : topR r sHtmlT [sHtml, sBody] with
  | none =>
    rw [bodyR_none htop]
    repeat' (first | refine sk ?_ | (refine gL ?_; first | refine xl_alloc (fun _ => ?_) | refine xl_box rfl (fun _ => ?_) | refine xl_store rfl rfl ?_ | refine xl_buildSlice rfl (fun _ => ?_)) | fail)
    refine wc_cond rfl (fun hc => ?_) (fun hc => by exfalso; simp at hc)
    repeat' (first | refine sk ?_ | (refine gL ?_; first | refine xl_alloc (fun _ => ?_) | refine xl_box rfl (fun _ => ?_) | refine xl_store rfl rfl ?_ | refine xl_buildSlice rfl (fun _ => ?_)) | fail)
    exact wr_S2 (Hn := []) rfl rfl rfl si2 (List.nil_sublist _) ⟨rfl, _, _, _, rfl, sl_nil⟩
  | some n =>
    obtain ⟨_, x, hx, htp⟩ := topR_some htop
    have hk1 := (top_two htp).1.2
    have hba := bodyR_at htop
    rw [rd_of hx] at hba
    rw [hb] at hx
    clear htop htp hb
    repeat' (first | refine sk ?_ | (refine gL ?_; first | refine xl_alloc (fun _ => ?_) | refine xl_box rfl (fun _ => ?_) | refine xl_store rfl rfl ?_ | refine xl_buildSlice rfl (fun _ => ?_)) | fail)
    refine wc_cond rfl (fun hc => by exfalso; simp at hc) (fun hc => ?_)
    clear hc
    repeat' (first | refine sk ?_ | (refine gL ?_; first | refine xl_alloc (fun _ => ?_) | refine xl_box rfl (fun _ => ?_) | refine xl_store rfl rfl ?_ | refine xl_buildSlice rfl (fun _ => ?_)) | fail)
    refine wl_callS rfl Tryz.call72 rfl rfl rfl rfl (fun w hw => rread_ok hw.laid bd (by omega)) ?_
    rintro _ H3 M3 hm3 hn3 ⟨rfl, hR⟩
    obtain ⟨n3, p3, q3, r3, t3, p3', q3', r3', rfl, hx3⟩ := open_rd hR
    rw [hx] at hx3 ⊢
    rw [show (some x).getD nodeZ = x from rfl] at hx3
    have si3 := si2.step hm3 hn3
    have hat := node_at hx3
    have hkd := node_kd hx3
    clear hR hx3 hm3 hn3 si2
    unfold kidN at hba
    generalize atN x = ax at *
    generalize kdN x = kx at *
    obtain ⟨aa, acap, ab, ao, acs, aT, afz, e1, _⟩ := SlP.open hat
    obtain ⟨ka, kcap, kb, ko, kcs, kT, kfz, e2, k1, k2, k3, k4⟩ := Sl.open hkd
    cases e1; cases e2
    obtain ⟨rfl, hMk⟩ := k3 (by intro e; rw [e] at hk1; simp at hk1)
    obtain ⟨us, hu4, hus, hcells⟩ := k4 0 (by omega)
    obtain ⟨vn, ua1, ul1, uc1, vt, ua2, ul2, uc2, rfl⟩ := node_open hus
    have hat2 := node_at hus
    have hkd2 := node_kd hus
    have hgk : kx.getD 0 nodeZ = kx[0]'(by omega) := getD_nd (by omega)
    rw [hgk] at hba
    generalize kx[0]'(by omega) = y at *
    have hat2' := hat2
    have hkd2' := hkd2
    obtain ⟨ba, bcap, bb, bo, bcs, bT, bfz, e3, _⟩ := SlP.open hat2
    obtain ⟨da, dcap, db, d0, dcs, dT, dfz, e4, _⟩ := Sl.open hkd2
    cases e3; cases e4
    have hcl : (atN y).length = 0 ↔ atN y = [] := List.length_eq_zero_iff
    have hcl2 : ax.length = 0 ↔ ax = [] := List.length_eq_zero_iff
    repeat' (first | (first | refine sk ?_ | (refine gL ?_; first | refine wl_v rfl rfl rfl (by first | (show OpV _ _ _ _ (Oper.mk _ (Op.indexAddr _ _ _) _ _ _ _) _ _; exact ov_indexAddr (i := 0) (b := kb) (o := ko) rfl rfl rfl pI pI rfl pZ (fun _ => rfl) (fun _ => by omega)) | (show OpV _ _ _ _ (Oper.mk _ (Op.load _ _) _ _ _ _) _ _; exact ov_load1M rfl pI rfl rfl (fun _ => hMk) (fun _ => hcells 1 (by simp))) | (show OpV _ _ _ _ (Oper.mk _ (Op.load _ _) _ _ _ _) _ _; exact ov_load1M rfl pI rfl rfl (fun _ => hMk) (fun _ => hcells 3 (by simp)))) ?_ | refine xl_alloc (fun _ => ?_) | refine xl_box rfl (fun _ => ?_) | refine xl_store rfl rfl ?_ | refine xl_buildSlice rfl (fun _ => ?_)) | fail) | (refine wc_cond rfl (fun hc => ?_) (fun hc => ?_) <;> (try (simp only [bls] at hc)) <;> (try (exfalso; first | omega | contradiction))))
    · have hb0 : bodyR r = none := by rw [hba, if_neg (fun h => by have h1 := hcl2.2 h.1; have h2 := hcl.2 h.2; omega)]
      rw [hb0]
      exact wr_S2 (Hn := []) rfl rfl rfl si3 (List.nil_sublist _) ⟨rfl, _, _, _, rfl, sl_nil⟩
    · have hb0 : bodyR r = some (kdN y) := by rw [hba, if_pos ⟨hcl2.1 (by omega), hcl.1 (by omega)⟩]
      rw [hb0]
      exact wr_S2 (Hn := []) rfl rfl rfl si3 (List.nil_sublist _) ⟨rfl, _, _, _, rfl, Sl.mono hkd2' (fun _ _ h => h) (fun _ _ _ h => NodeC.up (by omega) h)⟩
theorem rreadProxy_none {r : Rs} (h : ¬ (rfailed r sPF sNoPt).2 = true) (h2 : topR r sXml [sResp, sPS, sPT] = none) : rreadProxyP r = ([], [], false) := by unfold rreadProxyP; rw [if_neg h, h2]
theorem rreadProxy_some {r : Rs} {n : Nd} (h : ¬ (rfailed r sPF sNoPt).2 = true) (h2 : topR r sXml [sResp, sPS, sPT] = some n) : rreadProxyP r = if headB r = true ∧ leafOk n sPT then (if wr (proxyN (txN n) 0) = r.body then (txN n, [], true) else ([], [], false)) else ([], [], false) := by unfold rreadProxyP; rw [if_neg h, h2]
set_option maxHeartbeats 1000000 in
theorem rReadProxy_ok (hM : Laid M w) {r : Rs} {st : Int} {a l c bd} (hr : RsC M r st a l c bd) (hbd : bd.length ≤ 90000) : Calls Tryz.prog 25 #[.agg [i64 st, .slice a l c, str bd].toArray] w (RetE w (.tuple #[str (rreadProxyP r).1, str (rreadProxyP r).2.1, .bool (rreadProxyP r).2.2])) := by
  have hfl := fun {w : World} (hw : Laid M w) => failed24_ok hw hr hbd sPF sNoPt
  have hb := hr.2.1
  refine fn1 hM Tryz.func25 ?_
  by_cases hfe : (rfailed r sPF sNoPt).2 = true
  · have hrr : rreadProxyP r = ([], (rfailed r sPF sNoPt).1, true) := by unfold rreadProxyP; rw [if_pos hfe]
    rw [hrr]
    rw [hfe] at hfl
    generalize (rfailed r sPF sNoPt).1 = code at *
    repeat' (first | refine sk ?_ | (refine gL ?_; first | refine wl_v rfl rfl rfl (by first | (exact oc 54 Tryz.call54 (h := fun hcg w hw => hfl hw.laid))) ?_ | refine xl_alloc (fun _ => ?_) | refine xl_box rfl (fun _ => ?_) | refine xl_store rfl rfl ?_ | refine xl_buildSlice rfl (fun _ => ?_)) | fail)
    refine wc_cond rfl (fun hc => ?_) (fun hc => by exfalso; simp at hc)
    repeat' (first | refine sk ?_ | (refine gL ?_; first | refine xl_alloc (fun _ => ?_) | refine xl_box rfl (fun _ => ?_) | refine xl_store rfl rfl ?_ | refine xl_buildSlice rfl (fun _ => ?_)) | fail)
    exact wr_weak (fun _ h => h.drop (List.nil_sublist _)) (wr_tmp3 rfl rfl rfl rfl rfl rfl rfl)
  have hrn := rreadProxy_none hfe
  have hrs := fun {n : Nd} => rreadProxy_some (n := n) hfe
  rw [show (rfailed r sPF sNoPt).2 = false from by simpa using hfe] at hfl
  generalize (rfailed r sPF sNoPt).1 = code at *
  repeat' (first | refine sk ?_ | (refine gL ?_; first | refine wl_v rfl rfl rfl (by first | (exact oc 54 Tryz.call54 (h := fun hcg w hw => hfl hw.laid))) ?_ | refine xl_alloc (fun _ => ?_) | refine xl_box rfl (fun _ => ?_) | refine xl_store rfl rfl ?_ | refine xl_buildSlice rfl (fun _ => ?_)) | fail)
  refine wc_cond rfl (fun hc => by exfalso; simp at hc) (fun hc => ?_)
  clear hc hfe hfl
  repeat' (first | refine sk ?_ | (refine gL ?_; first | refine xl_alloc (fun _ => ?_) | refine xl_box rfl (fun _ => ?_) | refine xl_store rfl rfl ?_ | refine xl_buildSlice rfl (fun _ => ?_)) | fail)
  rename_i b1 bq
  refine wl_publish (H1 := [(bq, .cells (cellsS [sResp, sPS, sPT]).toArray 9 (0, 0))]) (fun hn => ?_)
  have hp : SlS (With M [(bq, .cells (cellsS [sResp, sPS, sPT]).toArray 9 (0, 0))]) (.slice (some ⟨bq, 0, none⟩) 3 3) [sResp, sPS, sPT] := slS_blk (l := [sResp, sPS, sPT]) (.inr (List.Mem.head _)) (by simp)
  have hr1 : RsC (With M [(bq, .cells (cellsS [sResp, sPS, sPT]).toArray 9 (0, 0))]) r st a l c bd := ⟨hr.1, hr.2.1, Sl.mono hr.2.2 (fun _ _ => .inl) (fun _ _ _ h => h)⟩
  clear hr hn
  generalize With M [(bq, .cells (cellsS [sResp, sPS, sPT]).toArray 9 (0, 0))] = M1 at *
  refine wl_callS rfl Tryz.call55 rfl rfl rfl rfl (fun w hw => top_ok hw.laid hr1 hbd sXml hp) ?_
  rintro _ H2 M2 hm2 hn2 ⟨rfl, n1, p1, q1, r1, t1, p1', q1', r1', rfl, hx⟩
  have hr2 : RsC M2 r st a l c bd := ⟨hr1.1, hr1.2.1, Sl.mono hr1.2.2 hm2 (fun _ _ _ h => h)⟩
  have hhd := fun {w : World} (hw : Laid M2 w) => head_ok hw hr2 hbd
  clear hr1 hp hn2 hm2 hr2
  cases htop : topR r sXml [sResp, sPS, sPT] with
  | none =>
    rw [hrn htop]
    repeat' (first | refine sk ?_ | (refine gL ?_; first | refine wl_v rfl rfl rfl (by first | (exact ov_off (v := .bool false) rfl)) ?_ | refine xl_alloc (fun _ => ?_) | refine xl_box rfl (fun _ => ?_) | refine xl_store rfl rfl ?_ | refine xl_buildSlice rfl (fun _ => ?_)) | fail)
    refine wc_cond rfl (fun hc => ?_) (fun hc => by exfalso; simp at hc)
    repeat' (first | refine sk ?_ | (refine gL ?_; first | refine xl_alloc (fun _ => ?_) | refine xl_box rfl (fun _ => ?_) | refine xl_store rfl rfl ?_ | refine xl_buildSlice rfl (fun _ => ?_)) | fail)
    exact wr_weak (fun _ h => h.drop (List.nil_sublist _)) (wr_tmp3 rfl rfl rfl rfl rfl rfl rfl)
  | some n =>
    rw [htop] at hx
    rw [show (some n).getD nodeZ = n from rfl] at hx
    have hrs := hrs htop
    have hlf := fun {w : World} (hw : Laid M2 w) => leaf_ok hw hx sPT
    obtain ⟨_, xx, hxx, htp⟩ := topR_some htop
    have htl : (txN n).length ≤ 90000 := by
      have h1 := (readP_text hxx).1
      rw [hb] at h1
      have h2 := top_three_len htp
      have h3 := (textN_ge n).2.1
      rw [h1] at h2
      omega
    have htx := node_tx hx
    rw [htx] at hrs htl
    rw [hrs, hb]
    clear hrs hrn htop hx hxx htp
    generalize headB r = hd at *
    by_cases hlo : leafOk n sPT
    · rw [decide_eq_true hlo] at hlf
      cases hd with
      | false =>
        rw [if_neg (by rintro ⟨h, _⟩; cases h)]
        repeat' (first | refine sk ?_ | (refine gL ?_; first | refine wl_v rfl rfl rfl (by first | (exact oc 56 Tryz.call56 (h := fun hcg w hw => hhd hw.laid)) | (exact oc 57 Tryz.call57 (h := fun hcg w hw => hlf hw.laid)) | (exact ov_off (v := .bool false) rfl)) ?_ | refine xl_alloc (fun _ => ?_) | refine xl_box rfl (fun _ => ?_) | refine xl_store rfl rfl ?_ | refine xl_buildSlice rfl (fun _ => ?_)) | fail)
        refine wc_cond rfl (fun hc => ?_) (fun hc => by exfalso; simp at hc)
        repeat' (first | refine sk ?_ | (refine gL ?_; first | refine xl_alloc (fun _ => ?_) | refine xl_box rfl (fun _ => ?_) | refine xl_store rfl rfl ?_ | refine xl_buildSlice rfl (fun _ => ?_)) | fail)
        exact wr_weak (fun _ h => h.drop (List.nil_sublist _)) (wr_tmp3 rfl rfl rfl rfl rfl rfl rfl)
      | true =>
        rw [if_pos ⟨rfl, hlo⟩]
        repeat' (first | refine sk ?_ | (refine gL ?_; first | refine wl_v rfl rfl rfl (by first | (exact oc 56 Tryz.call56 (h := fun hcg w hw => hhd hw.laid)) | (exact oc 57 Tryz.call57 (h := fun hcg w hw => hlf hw.laid))) ?_ | refine xl_alloc (fun _ => ?_) | refine xl_box rfl (fun _ => ?_) | refine xl_store rfl rfl ?_ | refine xl_buildSlice rfl (fun _ => ?_)) | fail)
        refine wc_cond rfl (fun hc => by exfalso; simp at hc) (fun hc => ?_)
        clear hc hhd hlf
        repeat' (first | refine sk ?_ | (refine gL ?_; first | refine xl_alloc (fun _ => ?_) | refine xl_box rfl (fun _ => ?_) | refine xl_store rfl rfl ?_ | refine xl_buildSlice rfl (fun _ => ?_)) | fail)
        refine wl_callS rfl Tryz.call16 rfl rfl rfl rfl (fun w hw => rProxy_ok hw.laid t1 0 (by omega)) ?_
        rintro _ H3 M3 hm3 hn3 ⟨rfl, a3, l3, c3, rfl, hS3⟩
        generalize wr (proxyN t1 0) = pw at *
        repeat' (first | refine sk ?_ | (refine gL ?_; first | refine xl_alloc (fun _ => ?_) | refine xl_box rfl (fun _ => ?_) | refine xl_store rfl rfl ?_ | refine xl_buildSlice rfl (fun _ => ?_)) | fail)
        refine wc_cond rfl (fun hc => ?_) (fun hc => ?_)
        · rw [if_neg (by simpa using hc)]
          repeat' (first | refine sk ?_ | (refine gL ?_; first | refine xl_alloc (fun _ => ?_) | refine xl_box rfl (fun _ => ?_) | refine xl_store rfl rfl ?_ | refine xl_buildSlice rfl (fun _ => ?_)) | fail)
          exact wr_weak (fun _ h => h.drop (List.nil_sublist _)) (wr_tmp3 rfl rfl rfl rfl rfl rfl rfl)
        · rw [if_pos (by simpa using hc)]
          repeat' (first | refine sk ?_ | (refine gL ?_; first | refine xl_alloc (fun _ => ?_) | refine xl_box rfl (fun _ => ?_) | refine xl_store rfl rfl ?_ | refine xl_buildSlice rfl (fun _ => ?_)) | fail)
          exact wr_weak (fun _ h => h.drop (List.nil_sublist _)) (wr_tmp3 rfl rfl rfl rfl rfl rfl rfl)
    · rw [decide_eq_false hlo] at hlf
      rw [if_neg (fun h => hlo h.2)]
      repeat' (first | refine sk ?_ | (refine gL ?_; first | refine wl_v rfl rfl rfl (by first | (exact oc 56 Tryz.call56 (h := fun hcg w hw => hhd hw.laid)) | (exact oc 57 Tryz.call57 (h := fun hcg w hw => hlf hw.laid)) | (exact ov_off (v := .bool false) rfl)) ?_ | refine xl_alloc (fun _ => ?_) | refine xl_box rfl (fun _ => ?_) | refine xl_store rfl rfl ?_ | refine xl_buildSlice rfl (fun _ => ?_)) | fail)
      refine wc_cond rfl (fun hc => ?_) (fun hc => by exfalso; simp at hc)
      repeat' (first | refine sk ?_ | (refine gL ?_; first | refine xl_alloc (fun _ => ?_) | refine xl_box rfl (fun _ => ?_) | refine xl_store rfl rfl ?_ | refine xl_buildSlice rfl (fun _ => ?_)) | fail)
      exact wr_weak (fun _ h => h.drop (List.nil_sublist _)) (wr_tmp3 rfl rfl rfl rfl rfl rfl rfl)
end Go.Proofs.YtgfbieplidpebaaGreatDoor
/-
  ReadForm.
-/
namespace Go.Proofs.YtgfbieplidpebaaGreatDoor
open Go.Eng Go.Pct Go.Xml Go.Cas
set_option maxRecDepth 10000
set_option linter.unusedSimpArgs false
set_option linter.unusedVariables false

variable {M : Ghost} {w0 w : World} {bs : List Nat} {H : List (Nat × Obj)}
theorem attr_len {x : Nd} (i : Nat) : ((atN x).getD i default).2.length ≤ (textN x).length := by
  by_cases h : i < (atN x).length
  · exact (textN_ge x).2.2.2 _ (getD_memP h)
  · have e : (atN x).getD i default = default := by simp [List.getElem?_eq_none (show (atN x).length ≤ i by omega)]
    rw [e]; exact Nat.zero_le _
theorem kid_len {x : Nd} (i : Nat) : (textN ((kdN x).getD i nodeZ)).length ≤ (textN x).length + 5 := by
  by_cases h : i < (kdN x).length
  · have e : (kdN x).getD i nodeZ = (kdN x)[i] := by simp [h]
    rw [e]
    have h1 := textL_mem (List.getElem_mem h)
    have h2 := (textN_ge x).2.2.1
    omega
  · have e : (kdN x).getD i nodeZ = nodeZ := by simp [List.getElem?_eq_none (show (kdN x).length ≤ i by omega)]
    rw [e, nodeZ_len]; omega
theorem at2_len (x : Nd) (i : Nat) : (at2 x i).length ≤ (textN x).length + 5 := by
  unfold at2
  have h1 := attr_len (x := (kdN x).getD i nodeZ) 1
  have h2 := kid_len (x := x) i
  omega
set_option maxHeartbeats 2000000 in
theorem ReadForm_ok (hG : Glob M) (hM : Laid M w) {r : Rs} {st : Int} {a l c bd} (hr : RsC M r st a l c bd) (hbd : bd.length ≤ 90000) : Calls Tryz.prog 26 #[.agg [i64 st, .slice a l c, str bd].toArray] w (RetE w (.tuple #[str (readFormP r).1, str (readFormP r).2.1, str (readFormP r).2.2.1, .bool (readFormP r).2.2.2])) := by
  have hbody : r.body = bd := hr.2.1
  refine fn1 hM Tryz.func26 ?_
  repeat' (first | refine sk ?_ | (refine gL ?_; first | refine xl_alloc (fun _ => ?_) | refine xl_box rfl (fun _ => ?_) | refine xl_store rfl rfl ?_ | refine xl_buildSlice rfl (fun _ => ?_)) | fail)
  refine wl_callS rfl Tryz.call48 rfl rfl rfl rfl (fun w hw => xread_ok hG hw.laid bd (by omega)) ?_
  rintro _ H1 M1 hm1 hn1 ⟨rfl, hR⟩
  obtain ⟨n1, p1, q1, r1, t1, p1', q1', r1', e1, rfl, hx, he1⟩ := read_open hR
  have hrd : (readP bd).getD nodeZ = rd r := by unfold rd; rw [hbody]
  rw [hrd] at hx
  clear hR he1
  have hrl := rd_len r
  rw [hbody] at hrl
  have hfl := found_len (rd r) [sBody, sForm]
  have hfl2 := found_len (rd r) [sBody, sP]
  have hge2 := (textN_ge (foundN (rd r) [sBody, sP])).2.1
  have hl0 := at2_len (foundN (rd r) [sBody, sForm]) 0
  have hl1 := at2_len (foundN (rd r) [sBody, sForm]) 1
  repeat' (first | refine sk ?_ | (refine gL ?_; first | refine xl_alloc (fun _ => ?_) | refine xl_box rfl (fun _ => ?_) | refine xl_store rfl rfl ?_ | refine xl_buildSlice rfl (fun _ => ?_)) | fail)
  rename_i b1 b5 bq
  refine wl_publish (H1 := [(bq, .cells (cellsS [sBody, sForm]).toArray 9 (0, 0))]) (fun hn => ?_)
  have hp : SlS (With M1 [(bq, .cells (cellsS [sBody, sForm]).toArray 9 (0, 0))]) (.slice (some ⟨bq, 0, none⟩) 2 2) [sBody, sForm] := slS_blk (l := [sBody, sForm]) (.inr (List.Mem.head _)) (by simp)
  refine wl_callS rfl Tryz.call52 rfl rfl rfl rfl (fun w hw => find_ok hw.laid (NodeC.mono (fun _ _ => .inl) hx) hp) ?_
  rintro _ H4 M4 hm4 hn4 ⟨rfl, n4, y1, m1, d1, t4, y2, m2, d2, rfl, hy⟩
  have sub4 : ∀ b o, M b o → M4 b o := fun b o h => hm4 b o (.inl (hm1 b o h))
  have hr4 : RsC M4 r st a l c bd := ⟨hr.1, hr.2.1, Sl.mono hr.2.2 sub4 (fun _ _ _ h => h)⟩
  have hG4 := hG.mono sub4
  have hx4 := NodeC.mono (fun b o h => hm4 b o (.inl h)) hx
  have hun := fun (b : Nat) (w' : World) (H : List (Nat × Obj)) (hw : St w [] ((b, .cells (cellsS [sBody, sP]).toArray 9 (0, 0)) :: H) M4 w') => under_ok hw.with (NodeC.mono (fun _ _ => .inl) hx4) (slS_blk (l := [sBody, sP]) (.inr (List.Mem.head _)) (by simp))
  have hkd := node_kd hy
  have hfo : formOk (foundN (rd r) [sBody, sForm]) ↔ ((kdN (foundN (rd r) [sBody, sForm])).length = 4 ∧ (atN ((kdN (foundN (rd r) [sBody, sForm])).getD 0 nodeZ)).length = 2 ∧ (atN ((kdN (foundN (rd r) [sBody, sForm])).getD 1 nodeZ)).length = 2) := Iff.rfl
  have ha0 : at2 (foundN (rd r) [sBody, sForm]) 0 = ((atN ((kdN (foundN (rd r) [sBody, sForm])).getD 0 nodeZ)).getD 1 default).2 := rfl
  have ha1 : at2 (foundN (rd r) [sBody, sForm]) 1 = ((atN ((kdN (foundN (rd r) [sBody, sForm])).getD 1 nodeZ)).getD 1 default).2 := rfl
  unfold readFormP
  generalize foundN (rd r) [sBody, sForm] = f at *
  generalize hge2e : txN (foundN (rd r) [sBody, sP]) = wrong at *
  generalize kdN f = ks at *
  obtain ⟨a7, cap7, b7, o7, cs7, T7, fz7, e7, k1, k2, k3, k4⟩ := Sl.open hkd
  cases e7
  clear hm1 hn1 hm4 hn4 hn hp hy hr hG hkd hx hx4
  by_cases h4 : ks.length = 4
  · have hne : ks ≠ [] := by intro e; rw [e] at h4; simp at h4
    obtain ⟨rfl, hMb⟩ := k3 hne
    obtain ⟨us0, hu0, hus0, hc0⟩ := k4 0 (by omega)
    obtain ⟨us1, hu1, hus1, hc1⟩ := k4 1 (by omega)
    obtain ⟨un, ua1, ul1, uc1, ut, ua2, ul2, uc2, rfl⟩ := node_open hus0
    obtain ⟨vn, wa1, wl1, wc1, vt, wa2, wl2, wc2, rfl⟩ := node_open hus1
    have hat0 := node_at hus0
    have hat1 := node_at hus1
    rw [← getD_nd (show 0 < ks.length by omega)] at hat0
    rw [← getD_nd (show 1 < ks.length by omega)] at hat1
    clear hus0 hus1
    generalize atN (ks.getD 0 nodeZ) = A0 at *
    generalize atN (ks.getD 1 nodeZ) = A1 at *
    obtain ⟨aa, acap, ab, ao, acs, aT, afz, ae, g1, g2, g3, g4⟩ := SlP.open hat0
    obtain ⟨ba, bcap, bb, bo, bcs, bT, bfz, be, j1, j2, j3, j4⟩ := SlP.open hat1
    cases ae
    cases be
    by_cases h0 : A0.length = 2
    · by_cases h1 : A1.length = 2
      · obtain ⟨rfl, hMa⟩ := g3 (by intro e; rw [e] at h0; simp at h0)
        obtain ⟨rfl, hMb1⟩ := j3 (by intro e; rw [e] at h1; simp at h1)
        have gi := g4 1 (by omega)
        have ji := j4 1 (by omega)
        rw [← ha0] at gi
        rw [← ha1] at ji
        have hok : formOk f := hfo.2 ⟨h4, h0, h1⟩
        generalize at2 f 0 = lt at *
        generalize at2 f 1 = sv at *
        repeat' (first | ((show WL _ _ (Oper.mk _ (Op.binOp BinOp.neq _ _ _ _) _ _ _ _ :: _) _ _ _ _; refine wl_v rfl rfl rfl (opv_eq (ov_neq rfl rfl pI pI) (nd_f (by omega))) ?_)) | (first | refine sk1 ?_ | (refine gL ?_; first | refine wl_v rfl rfl rfl (by first | (exact oc 51 Tryz.call51 (h := fun hcg w hw => hun _ _ _ hw)) | (show OpV _ _ _ _ (Oper.mk _ (Op.indexAddr _ _ (.const (.int .i64 0))) _ _ _ _) _ _; exact ov_indexAddr (i := 0) (b := b7) (o := o7) rfl rfl rfl pI pI rfl pZ (fun _ => rfl) (fun _ => by omega)) | (show OpV _ _ _ _ (Oper.mk _ (Op.indexAddr _ _ (.const (.int .i64 1))) _ _ _ _) _ _; exact ov_indexAddr (i := 1) (b := b7) (o := o7) rfl rfl rfl pI pI rfl pZ (fun _ => rfl) (fun _ => by omega)) | (show OpV _ _ _ _ (Oper.mk _ (Op.load _ _) _ _ _ _) _ _; exact ov_load1M rfl pI rfl rfl (fun _ => hMb) (fun _ => hc0 1 (by decide))) | (show OpV _ _ _ _ (Oper.mk _ (Op.load _ _) _ _ _ _) _ _; exact ov_load1M rfl pI rfl rfl (fun _ => hMb) (fun _ => hc1 1 (by decide)))) ?_ | refine xl_alloc (fun _ => ?_) | refine xl_box rfl (fun _ => ?_) | refine xl_store rfl rfl ?_ | refine xl_buildSlice rfl (fun _ => ?_)) | fail) | (refine wc_cond rfl (fun hc => ?_) (fun hc => ?_) <;> (try (simp only [bls] at hc)) <;> (try (exfalso; first | omega | contradiction))))
        refine wc_draw 18 (by kernel_rfl) rfl (by kernel_rfl) (fun _ _ h k => h.ext k) ?_
        repeat' (first | (refine gD ?_; first | refine yd_v rfl rfl rfl rfl rfl rfl ?_ | refine wd_v rfl rfl rfl rfl rfl rfl (by first | (show OpV _ _ _ _ (Oper.mk _ (Op.indexAddr _ _ (.const (.int .i64 0))) _ _ _ _) _ _; exact ov_indexAddr (i := 0) (b := b7) (o := o7) rfl rfl rfl pI pI rfl pZ (fun _ => rfl) (fun _ => by omega)) | (show OpV _ _ _ _ (Oper.mk _ (Op.indexAddr _ _ (.const (.int .i64 1))) _ _ _ _) _ _; exact ov_indexAddr (i := 1) (b := b7) (o := o7) rfl rfl rfl pI pI rfl pZ (fun _ => rfl) (fun _ => by omega)) | (show OpV _ _ _ _ (Oper.mk _ (Op.indexAddr _ _ _) _ _ _ _) _ _; exact ov_indexAddr (i := 1) (b := ab) (o := ao) rfl rfl rfl pI pI rfl pZ (fun _ => rfl) (fun _ => by omega)) | (show OpV _ _ _ _ (Oper.mk _ (Op.indexAddr _ _ _) _ _ _ _) _ _; exact ov_indexAddr (i := 1) (b := bb) (o := bo) rfl rfl rfl pI pI rfl pZ (fun _ => rfl) (fun _ => by omega)) | (show OpV _ _ _ _ (Oper.mk _ (Op.load _ _) _ _ _ _) _ _; exact ov_load1M rfl pI rfl rfl (fun _ => hMb) (fun _ => hc0 1 (by decide))) | (show OpV _ _ _ _ (Oper.mk _ (Op.load _ _) _ _ _ _) _ _; exact ov_load1M rfl pI rfl rfl (fun _ => hMb) (fun _ => hc1 1 (by decide))) | (show OpV _ _ _ _ (Oper.mk _ (Op.load _ _) _ _ _ _) _ _; exact ov_load1M rfl pI rfl rfl (fun _ => hMa) (fun _ => gi.2)) | (show OpV _ _ _ _ (Oper.mk _ (Op.load _ _) _ _ _ _) _ _; exact ov_load1M rfl pI rfl rfl (fun _ => hMb1) (fun _ => ji.2))) ?_ | refine yd_new rfl rfl rfl rfl rfl rfl ?_ | refine wd_conv rfl rfl rfl rfl rfl rfl rfl rfl rfl rfl ?_) | (refine gE ?_; first | refine wd_nil ?_ | refine wd_nilF ?_) | (first | refine sk ?_ | (refine gL ?_; first | refine wl_v rfl rfl rfl (by first | (show OpV _ _ _ _ (Oper.mk _ (Op.indexAddr _ _ (.const (.int .i64 0))) _ _ _ _) _ _; exact ov_indexAddr (i := 0) (b := b7) (o := o7) rfl rfl rfl pI pI rfl pZ (fun _ => rfl) (fun _ => by omega)) | (show OpV _ _ _ _ (Oper.mk _ (Op.indexAddr _ _ (.const (.int .i64 1))) _ _ _ _) _ _; exact ov_indexAddr (i := 1) (b := b7) (o := o7) rfl rfl rfl pI pI rfl pZ (fun _ => rfl) (fun _ => by omega)) | (show OpV _ _ _ _ (Oper.mk _ (Op.indexAddr _ _ _) _ _ _ _) _ _; exact ov_indexAddr (i := 1) (b := ab) (o := ao) rfl rfl rfl pI pI rfl pZ (fun _ => rfl) (fun _ => by omega)) | (show OpV _ _ _ _ (Oper.mk _ (Op.indexAddr _ _ _) _ _ _ _) _ _; exact ov_indexAddr (i := 1) (b := bb) (o := bo) rfl rfl rfl pI pI rfl pZ (fun _ => rfl) (fun _ => by omega)) | (show OpV _ _ _ _ (Oper.mk _ (Op.load _ _) _ _ _ _) _ _; exact ov_load1M rfl pI rfl rfl (fun _ => hMb) (fun _ => hc0 1 (by decide))) | (show OpV _ _ _ _ (Oper.mk _ (Op.load _ _) _ _ _ _) _ _; exact ov_load1M rfl pI rfl rfl (fun _ => hMb) (fun _ => hc1 1 (by decide))) | (show OpV _ _ _ _ (Oper.mk _ (Op.load _ _) _ _ _ _) _ _; exact ov_load1M rfl pI rfl rfl (fun _ => hMa) (fun _ => gi.2)) | (show OpV _ _ _ _ (Oper.mk _ (Op.load _ _) _ _ _ _) _ _; exact ov_load1M rfl pI rfl rfl (fun _ => hMb1) (fun _ => ji.2))) ?_ | refine xl_alloc (fun _ => ?_) | refine xl_box rfl (fun _ => ?_) | refine xl_store rfl rfl ?_ | refine xl_buildSlice rfl (fun _ => ?_)) | fail))
        have hz := fun {w : World} (hw : Laid M4 w) => Form_ok hG4 hw lt sv wrong (by omega) (by omega) (by omega)
        refine wc_draw 5 (by kernel_rfl) rfl (by kernel_rfl) (fun _ _ h k => h.ext k) ?_
        repeat' (first | (refine gD ?_; first | refine yd_v rfl rfl rfl rfl rfl rfl ?_ | refine yd_new rfl rfl rfl rfl rfl rfl ?_ | refine wd_conv rfl rfl rfl rfl rfl rfl rfl rfl rfl rfl ?_) | (refine gE ?_; first | refine wd_nil ?_ | refine wd_nilF ?_) | (first | refine sk ?_ | (refine gL ?_; first | refine xl_alloc (fun _ => ?_) | refine xl_box rfl (fun _ => ?_) | refine xl_store rfl rfl ?_ | refine xl_buildSlice rfl (fun _ => ?_)) | fail))
        refine wd_newG rfl (by rfl) rfl rfl rfl rfl rfl steady_got (or_callS (args := #[str lt, str sv, str wrong]) Tryz.call17 rfl rfl rfl (fun _ _ _ h => h.1) (fun w hw => hz hw.laid)) ?_
        refine wd_nil1 (wl_got fun v M9 j1 j2 hR9 => ?_)
        obtain ⟨_, a9, l9, c9, rfl, hS9⟩ := hR9
        have hsa := fun {w : World} (hw : Laid M9 w) => same_ok hw (r := r) (q := rsp sHtmlT (formPN lt sv wrong)) (st' := 200) (bd' := wr (formPN lt sv wrong)) ⟨hr4.1, hr4.2.1, Sl.mono hr4.2.2 j1 (fun _ _ _ h => h)⟩ ⟨rfl, rfl, hS9⟩
        repeat' (first | refine sk ?_ | (refine gL ?_; first | refine wl_v rfl rfl rfl (by first | (exact oc 50 Tryz.call50 (h := fun hcg w hw => hsa hw.laid))) ?_ | refine xl_alloc (fun _ => ?_) | refine xl_box rfl (fun _ => ?_) | refine xl_store rfl rfl ?_ | refine xl_buildSlice rfl (fun _ => ?_)) | fail)
        refine wc_cond rfl (fun hc => ?_) (fun hc => ?_)
        · have hno : ¬ sameR r (rsp sHtmlT (formPN lt sv wrong)) = true := by simpa using hc
          rw [if_neg (fun h => hno h.2)]
          repeat' (first | refine sk ?_ | (refine gL ?_; first | refine xl_alloc (fun _ => ?_) | refine xl_box rfl (fun _ => ?_) | refine xl_store rfl rfl ?_ | refine xl_buildSlice rfl (fun _ => ?_)) | fail)
          exact wr_weak (fun _ h => h.drop (List.nil_sublist _)) (wr_tmp4 rfl rfl rfl rfl rfl rfl rfl rfl rfl)
        · have hyes : sameR r (rsp sHtmlT (formPN lt sv wrong)) = true := by simpa using hc
          rw [if_pos ⟨hok, hyes⟩]
          repeat' (first | refine sk ?_ | (refine gL ?_; first | refine xl_alloc (fun _ => ?_) | refine xl_box rfl (fun _ => ?_) | refine xl_store rfl rfl ?_ | refine xl_buildSlice rfl (fun _ => ?_)) | fail)
          exact wr_weak (fun _ h => h.drop (List.nil_sublist _)) (wr_tmp4 rfl rfl rfl rfl rfl rfl rfl rfl rfl)
      · rw [if_neg (fun h => h1 (hfo.1 h.1).2.2)]
        repeat' (first | (first | (show WL _ _ (Oper.mk _ (Op.binOp BinOp.neq _ _ _ _) _ _ _ _ :: _) _ _ _ _; refine wl_v rfl rfl rfl (opv_eq (ov_neq rfl rfl pI pI) (nd_f (by omega))) ?_) | (show WL _ _ (Oper.mk _ (Op.binOp BinOp.neq _ _ _ _) _ _ _ _ :: _) _ _ _ _; refine wl_v rfl rfl rfl (opv_eq (ov_neq rfl rfl pI pI) (nd_t (by omega))) ?_)) | (first | refine sk1 ?_ | (refine gL ?_; first | refine wl_v rfl rfl rfl (by first | (exact oc 51 Tryz.call51 (h := fun hcg w hw => hun _ _ _ hw)) | (show OpV _ _ _ _ (Oper.mk _ (Op.indexAddr _ _ (.const (.int .i64 0))) _ _ _ _) _ _; exact ov_indexAddr (i := 0) (b := b7) (o := o7) rfl rfl rfl pI pI rfl pZ (fun _ => rfl) (fun _ => by omega)) | (show OpV _ _ _ _ (Oper.mk _ (Op.indexAddr _ _ (.const (.int .i64 1))) _ _ _ _) _ _; exact ov_indexAddr (i := 1) (b := b7) (o := o7) rfl rfl rfl pI pI rfl pZ (fun _ => rfl) (fun _ => by omega)) | (show OpV _ _ _ _ (Oper.mk _ (Op.load _ _) _ _ _ _) _ _; exact ov_load1M rfl pI rfl rfl (fun _ => hMb) (fun _ => hc0 1 (by decide))) | (show OpV _ _ _ _ (Oper.mk _ (Op.load _ _) _ _ _ _) _ _; exact ov_load1M rfl pI rfl rfl (fun _ => hMb) (fun _ => hc1 1 (by decide))) | (exact ov_off (v := .bool false) rfl)) ?_ | refine xl_alloc (fun _ => ?_) | refine xl_box rfl (fun _ => ?_) | refine xl_store rfl rfl ?_ | refine xl_buildSlice rfl (fun _ => ?_)) | fail) | (refine wc_cond rfl (fun hc => ?_) (fun hc => ?_) <;> (try (simp only [bls] at hc)) <;> (try (exfalso; first | omega | contradiction))))
        exact wr_weak (fun _ h => h.drop (List.nil_sublist _)) (wr_tmp4 rfl rfl rfl rfl rfl rfl rfl rfl rfl)
    · rw [if_neg (fun h => h0 (hfo.1 h.1).2.1)]
      repeat' (first | (first | (show WL _ _ (Oper.mk _ (Op.binOp BinOp.neq _ _ _ _) _ _ _ _ :: _) _ _ _ _; refine wl_v rfl rfl rfl (opv_eq (ov_neq rfl rfl pI pI) (nd_f (by omega))) ?_) | (show WL _ _ (Oper.mk _ (Op.binOp BinOp.neq _ _ _ _) _ _ _ _ :: _) _ _ _ _; refine wl_v rfl rfl rfl (opv_eq (ov_neq rfl rfl pI pI) (nd_t (by omega))) ?_)) | (first | refine sk1 ?_ | (refine gL ?_; first | refine wl_v rfl rfl rfl (by first | (exact oc 51 Tryz.call51 (h := fun hcg w hw => hun _ _ _ hw)) | (show OpV _ _ _ _ (Oper.mk _ (Op.indexAddr _ _ (.const (.int .i64 0))) _ _ _ _) _ _; exact ov_indexAddr (i := 0) (b := b7) (o := o7) rfl rfl rfl pI pI rfl pZ (fun _ => rfl) (fun _ => by omega)) | (show OpV _ _ _ _ (Oper.mk _ (Op.indexAddr _ _ (.const (.int .i64 1))) _ _ _ _) _ _; exact ov_indexAddr (i := 1) (b := b7) (o := o7) rfl rfl rfl pI pI rfl pZ (fun _ => rfl) (fun _ => by omega)) | (show OpV _ _ _ _ (Oper.mk _ (Op.load _ _) _ _ _ _) _ _; exact ov_load1M rfl pI rfl rfl (fun _ => hMb) (fun _ => hc0 1 (by decide))) | (show OpV _ _ _ _ (Oper.mk _ (Op.load _ _) _ _ _ _) _ _; exact ov_load1M rfl pI rfl rfl (fun _ => hMb) (fun _ => hc1 1 (by decide))) | (exact ov_off (v := .bool false) rfl)) ?_ | refine xl_alloc (fun _ => ?_) | refine xl_box rfl (fun _ => ?_) | refine xl_store rfl rfl ?_ | refine xl_buildSlice rfl (fun _ => ?_)) | fail) | (refine wc_cond rfl (fun hc => ?_) (fun hc => ?_) <;> (try (simp only [bls] at hc)) <;> (try (exfalso; first | omega | contradiction))))
      exact wr_weak (fun _ h => h.drop (List.nil_sublist _)) (wr_tmp4 rfl rfl rfl rfl rfl rfl rfl rfl rfl)
  · rw [if_neg (fun h => h4 (hfo.1 h.1).1)]
    repeat' (first | ((show WL _ _ (Oper.mk _ (Op.binOp BinOp.neq _ _ _ _) _ _ _ _ :: _) _ _ _ _; refine wl_v rfl rfl rfl (opv_eq (ov_neq rfl rfl pI pI) (nd_t (by omega))) ?_)) | (first | refine sk1 ?_ | (refine gL ?_; first | refine wl_v rfl rfl rfl (by first | (exact oc 51 Tryz.call51 (h := fun hcg w hw => hun _ _ _ hw)) | (exact ov_off (v := .bool false) rfl)) ?_ | refine xl_alloc (fun _ => ?_) | refine xl_box rfl (fun _ => ?_) | refine xl_store rfl rfl ?_ | refine xl_buildSlice rfl (fun _ => ?_)) | fail) | (refine wc_cond rfl (fun hc => ?_) (fun hc => ?_) <;> (try (simp only [bls] at hc)) <;> (try (exfalso; first | omega | contradiction))))
    exact wr_weak (fun _ h => h.drop (List.nil_sublist _)) (wr_tmp4 rfl rfl rfl rfl rfl rfl rfl rfl rfl)
end Go.Proofs.YtgfbieplidpebaaGreatDoor
/-
  matricularef24.ReadForm, ReadPage.
-/
namespace Go.Proofs.YtgfbieplidpebaaGreatDoor
open Go.Eng Go.Pct Go.Xml Go.Cas
set_option maxRecDepth 10000
set_option linter.unusedSimpArgs false
set_option linter.unusedVariables false

variable {M : Ghost} {w0 w : World} {bs : List Nat} {H : List (Nat × Obj)}
theorem rf_none {r : Rs} (h : bodyR r = none) : rreadFormP r = ([], [], [], false) := by unfold rreadFormP; rw [h]
theorem rf_len {r : Rs} {l : List Nd} (h : bodyR r = some l) (h2 : ¬ (1 ≤ l.length ∧ l.length ≤ 2)) : rreadFormP r = ([], [], [], false) := by unfold rreadFormP; rw [h]; simp only; rw [if_neg h2]
theorem rf_form {r : Rs} {l : List Nd} (h : bodyR r = some l) (h2 : 1 ≤ l.length ∧ l.length ≤ 2) (h3 : ¬ formOk (kidN l (l.length - 1))) : rreadFormP r = ([], [], [], false) := by unfold rreadFormP; rw [h]; simp only; rw [if_pos h2, if_neg h3]
theorem rf_some {r : Rs} {l : List Nd} (h : bodyR r = some l) (h2 : 1 ≤ l.length ∧ l.length ≤ 2) (h3 : formOk (kidN l (l.length - 1))) : rreadFormP r = if wr (formPN (at2 (kidN l (l.length - 1)) 0) (at2 (kidN l (l.length - 1)) 1) (wrongOf l)) = r.body then (at2 (kidN l (l.length - 1)) 0, at2 (kidN l (l.length - 1)) 1, wrongOf l, true) else ([], [], [], false) := by unfold rreadFormP; rw [h]; simp only; rw [if_pos h2, if_pos h3]
theorem body_len {r : Rs} {l : List Nd} (h : bodyR r = some l) : (textL l).length ≤ r.body.length := by
  obtain ⟨_, x, hx, hk⟩ := bodyR_some h
  by_cases hl : l = []
  · subst hl; exact Nat.zero_le _
  · have h1 := (readP_text hx).1
    have h2 := html_len l
    rw [← hk hl, h1] at h2
    omega
set_option maxHeartbeats 2000000 in
theorem rReadForm_ok (hM : Laid M w) {r : Rs} {st : Int} {a l c bd} (hr : RsC M r st a l c bd) (hbd : bd.length ≤ 90000) : Calls Tryz.prog 27 #[.agg [i64 st, .slice a l c, str bd].toArray] w (RetE w (.tuple #[str (rreadFormP r).1, str (rreadFormP r).2.1, str (rreadFormP r).2.2.1, .bool (rreadFormP r).2.2.2])) := by
  have hb := hr.2.1
  refine fn1 hM Tryz.func27 ?_
  repeat' (first | refine sk ?_ | (refine gL ?_; first | refine xl_alloc (fun _ => ?_) | refine xl_box rfl (fun _ => ?_) | refine xl_store rfl rfl ?_) | fail)
  rename_i b1
  refine wl_callS rfl Tryz.call58 rfl rfl rfl rfl (fun w hw => body24_ok hw.laid hr hbd) ?_
  rintro _ H1 M1 hm1 hn1 ⟨rfl, a1, l1, c1, rfl, hsl⟩
  clear hn1 hm1 hr
  cases hbo : bodyR r with
  | none =>
    rw [rf_none hbo]
    repeat' (first | refine sk ?_ | (refine gL ?_; first | refine wl_v rfl rfl rfl (by first | (exact ov_off (v := .bool false) rfl)) ?_ | refine xl_alloc (fun _ => ?_) | refine xl_box rfl (fun _ => ?_) | refine xl_store rfl rfl ?_) | fail)
    refine wc_cond rfl (fun hc => ?_) (fun hc => by exfalso; simp at hc)
    repeat' (first | refine sk ?_ | (refine gL ?_; first | refine xl_alloc (fun _ => ?_) | refine xl_box rfl (fun _ => ?_) | refine xl_store rfl rfl ?_) | fail)
    exact wr_weak (fun _ h => h.drop (List.nil_sublist _)) (wr_tmp4 rfl rfl rfl rfl rfl rfl rfl rfl rfl)
  | some L =>
    have hrl := rf_len hbo
    have hrf := rf_form hbo
    have hrs := rf_some hbo
    have htl := body_len hbo
    rw [hb] at htl hrs
    rw [hbo] at hsl
    rw [show (some L).getD [] = L from rfl] at hsl
    obtain ⟨ka, kcap, kb, ko, kcs, kT, kfz, e1, k1, k2, k3, k4⟩ := Sl.open hsl
    cases e1
    clear hbo hsl hb
    by_cases hl : 1 ≤ L.length ∧ L.length ≤ 2
    · clear hrl
      have hrf := hrf hl
      have hrs := hrs hl
      have hne : L ≠ [] := by intro e; rw [e] at hl; simp at hl
      obtain ⟨rfl, hMk⟩ := k3 hne
      repeat' (first | refine sk ?_ | (refine gL ?_; first | refine xl_alloc (fun _ => ?_) | refine xl_box rfl (fun _ => ?_) | refine xl_store rfl rfl ?_) | fail)
      refine wc_cond rfl (fun hc => by exfalso; simp at hc; omega) (fun hc => ?_)
      clear hc
      repeat' (first | refine sk ?_ | (refine gL ?_; first | refine xl_alloc (fun _ => ?_) | refine xl_box rfl (fun _ => ?_) | refine xl_store rfl rfl ?_) | fail)
      refine wc_split (α := Unit) (fun _ => [(1, true, .pointer (some ⟨b1, 0, none⟩)), (6, true, .slice (some ⟨kb, ko, none⟩) L.length c1), (8, true, str (wrongOf L))]) (fun _ => St w [] [(b1, .cells [i64 st, .slice a l c, str bd].toArray 31 (0, 0))] M1) ?_ ?_
      · refine wc_cond rfl (fun hc => ?_) (fun hc => ?_)
        · have h2 : L.length = 2 := by
            have : (L.length : Int) = 2 := by simpa using hc
            omega
          obtain ⟨us, hu4, hus, hcells⟩ := k4 0 (by omega)
          obtain ⟨vn, ua1, ul1, uc1, vt, ua2, ul2, uc2, rfl⟩ := node_open hus
          have htx := node_tx hus
          have hw2 : wrongOf L = vt := by
            unfold wrongOf
            rw [if_pos h2, ← htx]
            unfold kidN
            rw [getD_nd (by omega)]
          rw [hw2]
          repeat' (first | refine sk ?_ | (refine gL ?_; first | refine wl_v rfl rfl rfl (by first | (show OpV _ _ _ _ (Oper.mk _ (Op.indexAddr _ _ _) _ _ _ _) _ _; exact ov_indexAddr (i := 0) (b := kb) (o := ko) rfl rfl rfl pI pI rfl pZ (fun _ => rfl) (fun _ => by omega)) | (show OpV _ _ _ _ (Oper.mk _ (Op.load _ _) _ _ _ _) _ _; exact ov_load1M rfl pI rfl rfl (fun _ => hMk) (fun _ => hcells 2 (by simp)))) ?_ | refine xl_alloc (fun _ => ?_) | refine xl_box rfl (fun _ => ?_) | refine xl_store rfl rfl ?_) | fail)
          exact wn_cut () trivial pE (fun _ h => h)
        · have hw2 : wrongOf L = [] := by
            unfold wrongOf
            rw [if_neg]
            intro h
            rw [h] at hc
            simp at hc
          rw [hw2]
          repeat' (first | refine sk ?_ | (refine gL ?_; first | refine xl_alloc (fun _ => ?_) | refine xl_box rfl (fun _ => ?_) | refine xl_store rfl rfl ?_) | fail)
          exact wn_cut () trivial pE (fun _ h => h)
      rintro ⟨⟩
      obtain ⟨us, hu4, hus, hcells⟩ := k4 (L.length - 1) (by omega)
      obtain ⟨vn, ua1, ul1, uc1, vt, ua2, ul2, uc2, rfl⟩ := node_open hus
      have hgk : kidN L (L.length - 1) = L[L.length - 1]'(by omega) := by unfold kidN; exact getD_nd (by omega)
      have hwl : (wrongOf L).length ≤ 90000 := by
        unfold wrongOf
        split
        · have h1 := textL_mem (kid_mem (k := L) (i := 0) (by omega))
          have h2 := (textN_ge (kidN L 0)).2.1
          omega
        · exact Nat.zero_le _
      have hfl := textL_mem (kid_mem (k := L) (i := L.length - 1) (by omega))
      rw [hgk] at hrf hrs hfl
      generalize L[L.length - 1]'(by omega) = f at *
      generalize wrongOf L = wrong at *
      have hl0 := at2_len f 0
      have hl1 := at2_len f 1
      have hkd := node_kd hus
      have hfo : formOk f ↔ ((kdN f).length = 4 ∧ (atN ((kdN f).getD 0 nodeZ)).length = 2 ∧ (atN ((kdN f).getD 1 nodeZ)).length = 2) := Iff.rfl
      have ha0 : at2 f 0 = ((atN ((kdN f).getD 0 nodeZ)).getD 1 default).2 := rfl
      have ha1 : at2 f 1 = ((atN ((kdN f).getD 1 nodeZ)).getD 1 default).2 := rfl
      generalize kdN f = ks at *
      obtain ⟨a7, cap7, b7, o7, cs7, T7, fz7, e7, j1, j2, j3, j4⟩ := Sl.open hkd
      cases e7
      clear hus hkd
      by_cases h4 : ks.length = 4
      · have hne7 : ks ≠ [] := by intro e; rw [e] at h4; simp at h4
        obtain ⟨rfl, hMb⟩ := j3 hne7
        obtain ⟨us0, hu0, hus0, hc0⟩ := j4 0 (by omega)
        obtain ⟨us1, hu1, hus1, hc1⟩ := j4 1 (by omega)
        obtain ⟨un, va1, vl1, vc1, ut, va2, vl2, vc2, rfl⟩ := node_open hus0
        obtain ⟨xn, wa1, wl1, wc1, xt, wa2, wl2, wc2, rfl⟩ := node_open hus1
        have hat0 := node_at hus0
        have hat1 := node_at hus1
        rw [← getD_nd (show 0 < ks.length by omega)] at hat0
        rw [← getD_nd (show 1 < ks.length by omega)] at hat1
        clear hus0 hus1
        generalize atN (ks.getD 0 nodeZ) = A0 at *
        generalize atN (ks.getD 1 nodeZ) = A1 at *
        obtain ⟨aa, acap, ab, ao, acs, aT, afz, ae, q1, q2, q3, q4⟩ := SlP.open hat0
        obtain ⟨ba, bcap, bb, bo, bcs, bT, bfz, be, r1, r2, r3, r4⟩ := SlP.open hat1
        cases ae
        cases be
        by_cases h0 : A0.length = 2
        · by_cases h1 : A1.length = 2
          · obtain ⟨rfl, hMa⟩ := q3 (by intro e; rw [e] at h0; simp at h0)
            obtain ⟨rfl, hMb1⟩ := r3 (by intro e; rw [e] at h1; simp at h1)
            have gi := q4 1 (by omega)
            have ji := r4 1 (by omega)
            rw [← ha0] at gi
            rw [← ha1] at ji
            have hrs := hrs (hfo.2 ⟨h4, h0, h1⟩)
            rw [hrs]
            clear hrs hrf hfo ha0 ha1
            generalize at2 f 0 = lt at *
            generalize at2 f 1 = sv at *
            repeat' (first | (first | (show WL _ _ (Oper.mk _ (Op.binOp BinOp.neq _ _ _ _) _ _ _ _ :: _) _ _ _ _; refine wl_v rfl rfl rfl (opv_eq (ov_neq rfl rfl pI pI) (ndF (by omega))) ?_) | (show WL _ _ (Oper.mk _ (Op.binOp BinOp.neq _ _ _ _) _ _ _ _ :: _) _ _ _ _; refine wl_v rfl rfl rfl (opv_eq (ov_neq rfl rfl pI pI) (ndT (by omega))) ?_)) | (first | refine sk1 ?_ | (refine gL ?_; first | refine wl_v rfl rfl rfl (by first | (show OpV _ _ _ _ (Oper.mk _ (Op.indexAddr _ _ (.const (.int .i64 0))) _ _ _ _) _ _; exact ov_indexAddr (i := 0) (b := b7) (o := o7) rfl rfl rfl pI pI rfl pZ (fun _ => rfl) (fun _ => by omega)) | (show OpV _ _ _ _ (Oper.mk _ (Op.indexAddr _ _ (.const (.int .i64 1))) _ _ _ _) _ _; exact ov_indexAddr (i := 1) (b := b7) (o := o7) rfl rfl rfl pI pI rfl pZ (fun _ => rfl) (fun _ => by omega)) | (show OpV _ _ _ _ (Oper.mk _ (Op.indexAddr _ _ _) _ _ _ _) _ _; exact ov_indexAddr (i := 1) (b := ab) (o := ao) rfl rfl rfl pI pI rfl pZ (fun _ => rfl) (fun _ => by omega)) | (show OpV _ _ _ _ (Oper.mk _ (Op.indexAddr _ _ _) _ _ _ _) _ _; exact ov_indexAddr (i := 1) (b := bb) (o := bo) rfl rfl rfl pI pI rfl pZ (fun _ => rfl) (fun _ => by omega)) | (show OpV _ _ _ _ (Oper.mk _ (Op.load _ _) _ _ _ _) _ _; exact ov_load1M rfl pI rfl rfl (fun _ => hMb) (fun _ => hc0 1 (by decide))) | (show OpV _ _ _ _ (Oper.mk _ (Op.load _ _) _ _ _ _) _ _; exact ov_load1M rfl pI rfl rfl (fun _ => hMb) (fun _ => hc1 1 (by decide))) | (show OpV _ _ _ _ (Oper.mk _ (Op.indexAddr _ _ (.tmp _)) _ _ _ _) _ _; exact ov_indexAddr (i := L.length - 1) (b := kb) (o := ko) rfl rfl (by omega) pI pI rfl pZ (fun _ => rfl) (fun _ => by omega)) | (show OpV _ _ _ _ (Oper.mk _ (Op.load _ _) _ _ _ _) _ _; exact ov_loadSM (l := [str vn, .slice ua1 ul1 uc1, str vt, .slice (some ⟨b7, o7, none⟩) ks.length uc2]) rfl pI rfl pZ (fun _ => hMk) (fun _ j hj => hcells j hj)) | (show OpV _ _ _ _ (Oper.mk _ (Op.load _ _) _ _ _ _) _ _; exact ov_load1M rfl pI rfl rfl (fun _ => hMa) (fun _ => gi.2)) | (show OpV _ _ _ _ (Oper.mk _ (Op.load _ _) _ _ _ _) _ _; exact ov_load1M rfl pI rfl rfl (fun _ => hMb1) (fun _ => ji.2))) ?_ | refine xl_alloc (fun _ => ?_) | refine xl_box rfl (fun _ => ?_) | refine xl_store rfl rfl ?_) | fail) | (refine wc_cond rfl (fun hc => ?_) (fun hc => ?_) <;> (try (simp only [bls] at hc)) <;> (try (exfalso; first | omega | contradiction))))
            refine wl_callS rfl Tryz.call18 rfl rfl rfl rfl (fun w hw => rForm_ok hw.laid lt sv wrong (by omega) (by omega) (by omega)) ?_
            rintro _ H3 M3 hm3 hn3 ⟨rfl, a3, l3, c3, rfl, hS3⟩
            generalize wr (formPN lt sv wrong) = fw at *
            repeat' (first | refine sk ?_ | (refine gL ?_; first | refine xl_alloc (fun _ => ?_) | refine xl_box rfl (fun _ => ?_) | refine xl_store rfl rfl ?_) | fail)
            refine wc_cond rfl (fun hc => ?_) (fun hc => ?_)
            · rw [if_neg (by simpa using hc)]
              repeat' (first | refine sk ?_ | (refine gL ?_; first | refine xl_alloc (fun _ => ?_) | refine xl_box rfl (fun _ => ?_) | refine xl_store rfl rfl ?_) | fail)
              exact wr_weak (fun _ h => h.drop (List.nil_sublist _)) (wr_tmp4 rfl rfl rfl rfl rfl rfl rfl rfl rfl)
            · rw [if_pos (by simpa using hc)]
              repeat' (first | refine sk ?_ | (refine gL ?_; first | refine xl_alloc (fun _ => ?_) | refine xl_box rfl (fun _ => ?_) | refine xl_store rfl rfl ?_) | fail)
              exact wr_weak (fun _ h => h.drop (List.nil_sublist _)) (wr_tmp4 rfl rfl rfl rfl rfl rfl rfl rfl rfl)
          · rw [hrf (fun h => h1 (hfo.1 h).2.2)]
            repeat' (first | (first | (show WL _ _ (Oper.mk _ (Op.binOp BinOp.neq _ _ _ _) _ _ _ _ :: _) _ _ _ _; refine wl_v rfl rfl rfl (opv_eq (ov_neq rfl rfl pI pI) (ndF (by omega))) ?_) | (show WL _ _ (Oper.mk _ (Op.binOp BinOp.neq _ _ _ _) _ _ _ _ :: _) _ _ _ _; refine wl_v rfl rfl rfl (opv_eq (ov_neq rfl rfl pI pI) (ndT (by omega))) ?_)) | (first | refine sk1 ?_ | (refine gL ?_; first | refine wl_v rfl rfl rfl (by first | (show OpV _ _ _ _ (Oper.mk _ (Op.indexAddr _ _ (.const (.int .i64 0))) _ _ _ _) _ _; exact ov_indexAddr (i := 0) (b := b7) (o := o7) rfl rfl rfl pI pI rfl pZ (fun _ => rfl) (fun _ => by omega)) | (show OpV _ _ _ _ (Oper.mk _ (Op.indexAddr _ _ (.const (.int .i64 1))) _ _ _ _) _ _; exact ov_indexAddr (i := 1) (b := b7) (o := o7) rfl rfl rfl pI pI rfl pZ (fun _ => rfl) (fun _ => by omega)) | (show OpV _ _ _ _ (Oper.mk _ (Op.load _ _) _ _ _ _) _ _; exact ov_load1M rfl pI rfl rfl (fun _ => hMb) (fun _ => hc0 1 (by decide))) | (show OpV _ _ _ _ (Oper.mk _ (Op.load _ _) _ _ _ _) _ _; exact ov_load1M rfl pI rfl rfl (fun _ => hMb) (fun _ => hc1 1 (by decide))) | (show OpV _ _ _ _ (Oper.mk _ (Op.indexAddr _ _ (.tmp _)) _ _ _ _) _ _; exact ov_indexAddr (i := L.length - 1) (b := kb) (o := ko) rfl rfl (by omega) pI pI rfl pZ (fun _ => rfl) (fun _ => by omega)) | (show OpV _ _ _ _ (Oper.mk _ (Op.load _ _) _ _ _ _) _ _; exact ov_loadSM (l := [str vn, .slice ua1 ul1 uc1, str vt, .slice (some ⟨b7, o7, none⟩) ks.length uc2]) rfl pI rfl pZ (fun _ => hMk) (fun _ j hj => hcells j hj)) | (exact ov_off (v := .bool false) rfl)) ?_ | refine xl_alloc (fun _ => ?_) | refine xl_box rfl (fun _ => ?_) | refine xl_store rfl rfl ?_) | fail) | (refine wc_cond rfl (fun hc => ?_) (fun hc => ?_) <;> (try (simp only [bls] at hc)) <;> (try (exfalso; first | omega | contradiction))))
            exact wr_weak (fun _ h => h.drop (List.nil_sublist _)) (wr_tmp4 rfl rfl rfl rfl rfl rfl rfl rfl rfl)
        · rw [hrf (fun h => h0 (hfo.1 h).2.1)]
          repeat' (first | (first | (show WL _ _ (Oper.mk _ (Op.binOp BinOp.neq _ _ _ _) _ _ _ _ :: _) _ _ _ _; refine wl_v rfl rfl rfl (opv_eq (ov_neq rfl rfl pI pI) (ndF (by omega))) ?_) | (show WL _ _ (Oper.mk _ (Op.binOp BinOp.neq _ _ _ _) _ _ _ _ :: _) _ _ _ _; refine wl_v rfl rfl rfl (opv_eq (ov_neq rfl rfl pI pI) (ndT (by omega))) ?_)) | (first | refine sk1 ?_ | (refine gL ?_; first | refine wl_v rfl rfl rfl (by first | (show OpV _ _ _ _ (Oper.mk _ (Op.indexAddr _ _ (.const (.int .i64 0))) _ _ _ _) _ _; exact ov_indexAddr (i := 0) (b := b7) (o := o7) rfl rfl rfl pI pI rfl pZ (fun _ => rfl) (fun _ => by omega)) | (show OpV _ _ _ _ (Oper.mk _ (Op.indexAddr _ _ (.const (.int .i64 1))) _ _ _ _) _ _; exact ov_indexAddr (i := 1) (b := b7) (o := o7) rfl rfl rfl pI pI rfl pZ (fun _ => rfl) (fun _ => by omega)) | (show OpV _ _ _ _ (Oper.mk _ (Op.load _ _) _ _ _ _) _ _; exact ov_load1M rfl pI rfl rfl (fun _ => hMb) (fun _ => hc0 1 (by decide))) | (show OpV _ _ _ _ (Oper.mk _ (Op.load _ _) _ _ _ _) _ _; exact ov_load1M rfl pI rfl rfl (fun _ => hMb) (fun _ => hc1 1 (by decide))) | (show OpV _ _ _ _ (Oper.mk _ (Op.indexAddr _ _ (.tmp _)) _ _ _ _) _ _; exact ov_indexAddr (i := L.length - 1) (b := kb) (o := ko) rfl rfl (by omega) pI pI rfl pZ (fun _ => rfl) (fun _ => by omega)) | (show OpV _ _ _ _ (Oper.mk _ (Op.load _ _) _ _ _ _) _ _; exact ov_loadSM (l := [str vn, .slice ua1 ul1 uc1, str vt, .slice (some ⟨b7, o7, none⟩) ks.length uc2]) rfl pI rfl pZ (fun _ => hMk) (fun _ j hj => hcells j hj)) | (exact ov_off (v := .bool false) rfl)) ?_ | refine xl_alloc (fun _ => ?_) | refine xl_box rfl (fun _ => ?_) | refine xl_store rfl rfl ?_) | fail) | (refine wc_cond rfl (fun hc => ?_) (fun hc => ?_) <;> (try (simp only [bls] at hc)) <;> (try (exfalso; first | omega | contradiction))))
          exact wr_weak (fun _ h => h.drop (List.nil_sublist _)) (wr_tmp4 rfl rfl rfl rfl rfl rfl rfl rfl rfl)
      · rw [hrf (fun h => h4 (hfo.1 h).1)]
        repeat' (first | (first | (show WL _ _ (Oper.mk _ (Op.binOp BinOp.neq _ _ _ _) _ _ _ _ :: _) _ _ _ _; refine wl_v rfl rfl rfl (opv_eq (ov_neq rfl rfl pI pI) (ndT (by omega))) ?_)) | (first | refine sk1 ?_ | (refine gL ?_; first | refine wl_v rfl rfl rfl (by first | (show OpV _ _ _ _ (Oper.mk _ (Op.indexAddr _ _ (.tmp _)) _ _ _ _) _ _; exact ov_indexAddr (i := L.length - 1) (b := kb) (o := ko) rfl rfl (by omega) pI pI rfl pZ (fun _ => rfl) (fun _ => by omega)) | (show OpV _ _ _ _ (Oper.mk _ (Op.load _ _) _ _ _ _) _ _; exact ov_loadSM (l := [str vn, .slice ua1 ul1 uc1, str vt, .slice ua2 ks.length uc2]) rfl pI rfl pZ (fun _ => hMk) (fun _ j hj => hcells j hj)) | (exact ov_off (v := .bool false) rfl)) ?_ | refine xl_alloc (fun _ => ?_) | refine xl_box rfl (fun _ => ?_) | refine xl_store rfl rfl ?_) | fail) | (refine wc_cond rfl (fun hc => ?_) (fun hc => ?_) <;> (try (simp only [bls] at hc)) <;> (try (exfalso; first | omega | contradiction))))
        exact wr_weak (fun _ h => h.drop (List.nil_sublist _)) (wr_tmp4 rfl rfl rfl rfl rfl rfl rfl rfl rfl)
    · rw [hrl hl]
      repeat' (first | refine sk ?_ | (refine gL ?_; first | refine xl_alloc (fun _ => ?_) | refine xl_box rfl (fun _ => ?_) | refine xl_store rfl rfl ?_) | fail)
      refine wc_cond rfl (fun hc => ?_) (fun hc => by exfalso; simp at hc; omega)
      repeat' (first | refine sk ?_ | (refine gL ?_; first | refine xl_alloc (fun _ => ?_) | refine xl_box rfl (fun _ => ?_) | refine xl_store rfl rfl ?_) | fail)
      exact wr_weak (fun _ h => h.drop (List.nil_sublist _)) (wr_tmp4 rfl rfl rfl rfl rfl rfl rfl rfl rfl)
end Go.Proofs.YtgfbieplidpebaaGreatDoor
/-
  matricularef24.ReadPage.
-/
namespace Go.Proofs.YtgfbieplidpebaaGreatDoor
open Go.Eng Go.Pct Go.Xml Go.Cas
set_option maxRecDepth 10000
set_option linter.unusedSimpArgs false
set_option linter.unusedVariables false

variable {M : Ghost} {w0 w : World} {bs : List Nat} {H : List (Nat × Obj)}
theorem rp_none {r : Rs} (h : bodyR r = none) : rreadPageP r = ([], [], false) := by unfold rreadPageP; rw [h]
theorem rp_bad {r : Rs} {l : List Nd} (h : bodyR r = some l) (h2 : ¬ pageOk l) : rreadPageP r = ([], [], false) := by unfold rreadPageP; rw [h]; simp only; rw [if_neg h2]
theorem rp_some {r : Rs} {l : List Nd} (h : bodyR r = some l) (h2 : pageOk l) : rreadPageP r = (valN (kidN l 0), txN (kidN l 0), true) := by unfold rreadPageP; rw [h]; simp only; rw [if_pos h2]
set_option maxHeartbeats 1000000 in
theorem rReadPage_ok (hM : Laid M w) {r : Rs} {st : Int} {a l c bd} (hr : RsC M r st a l c bd) (hbd : bd.length ≤ 90000) : Calls Tryz.prog 29 #[.agg [i64 st, .slice a l c, str bd].toArray] w (RetE w (.tuple #[str (rreadPageP r).1, str (rreadPageP r).2.1, .bool (rreadPageP r).2.2])) := by
  refine fn1 hM Tryz.func29 ?_
  repeat' (first | refine sk ?_ | (refine gL ?_; first | refine xl_box rfl (fun _ => ?_)) | fail)
  rename_i b1
  refine wl_callS rfl Tryz.call58 rfl rfl rfl rfl (fun w hw => body24_ok hw.laid hr hbd) ?_
  rintro _ H1 M1 hm1 hn1 ⟨rfl, a1, l1, c1, rfl, hsl⟩
  clear hn1 hm1 hr
  cases hbo : bodyR r with
  | none =>
    rw [rp_none hbo]
    repeat' (first | refine sk ?_ | (refine gL ?_; first | refine wl_v rfl rfl rfl (by first | (exact ov_off (v := .bool false) rfl)) ?_ | refine xl_box rfl (fun _ => ?_)) | fail)
    refine wc_cond rfl (fun hc => ?_) (fun hc => by exfalso; simp at hc)
    repeat' (first | refine sk ?_ | (refine gL ?_; first | refine xl_box rfl (fun _ => ?_)) | fail)
    exact wr_weak (fun _ h => h.drop (List.nil_sublist _)) (wr_tmp3 rfl rfl rfl rfl rfl rfl rfl)
  | some L =>
    have hrb := rp_bad hbo
    have hrs := rp_some hbo
    rw [hbo] at hsl
    rw [show (some L).getD [] = L from rfl, show (some L).isSome = true from rfl] at *
    obtain ⟨ka, kcap, kb, ko, kcs, kT, kfz, e1, k1, k2, k3, k4⟩ := Sl.open hsl
    cases e1
    clear hbo hsl
    by_cases h1 : L.length = 1
    · have hne : L ≠ [] := by intro e; rw [e] at h1; simp at h1
      obtain ⟨rfl, hMk⟩ := k3 hne
      obtain ⟨us, hu4, hus, hcells⟩ := k4 0 (by omega)
      obtain ⟨vn, ua1, ul1, uc1, vt, ua2, ul2, uc2, rfl⟩ := node_open hus
      have hgk : kidN L 0 = L[0]'(by omega) := by unfold kidN; exact getD_nd (by omega)
      have hpo : pageOk L ↔ (nmN (kidN L 0) = sP ∧ (atN (kidN L 0)).length = 1 ∧ ((atN (kidN L 0)).getD 0 default).1 = sClass ∧ kdN (kidN L 0) = []) := ⟨fun h => h.2, fun h => ⟨h1, h⟩⟩
      unfold valN at hrs
      rw [hgk] at hrs hpo
      generalize L[0]'(by omega) = y at *
      have hnm := node_nm hus
      have htx := node_tx hus
      have hat := node_at hus
      have hkd := node_kd hus
      rw [hnm] at hpo
      rw [htx] at hrs
      clear hus hnm htx
      generalize atN y = A at *
      generalize kdN y = K at *
      obtain ⟨aa, acap, ab, ao, acs, aT, afz, e2, q1, q2, q3, q4⟩ := SlP.open hat
      obtain ⟨da, dcap, db, d0, dcs, dT, dfz, e4, _⟩ := Sl.open hkd
      cases e2; cases e4
      clear hat hkd
      have hKl : K.length = 0 ↔ K = [] := List.length_eq_zero_iff
      by_cases hv : vn = sP
      · by_cases h3 : A.length = 1
        · obtain ⟨rfl, hMa⟩ := q3 (by intro e; rw [e] at h3; simp at h3)
          have gi := q4 0 (by omega)
          generalize A.getD 0 default = p at *
          repeat' (first | (first | (show WL _ _ (Oper.mk _ (Op.binOp BinOp.neq _ _ _ _) _ _ _ _ :: _) _ _ _ _; refine wl_v rfl rfl rfl (opv_eq (ov_neq rfl rfl pI pI) (ndF (by omega))) ?_) | (show WL _ _ (Oper.mk _ (Op.binOp BinOp.neq _ _ _ _) _ _ _ _ :: _) _ _ _ _; refine wl_v rfl rfl rfl (opv_eq (ov_sneq rfl rfl pI pI) (ndF hv)) ?_)) | (first | refine sk1 ?_ | (refine gL ?_; first | refine wl_v rfl rfl rfl (by first | (show OpV _ _ _ _ (Oper.mk _ (Op.indexAddr _ _ _) _ _ _ _) _ _; exact ov_indexAddr (i := 0) (b := kb) (o := ko) rfl rfl rfl pI pI rfl pZ (fun _ => rfl) (fun _ => by omega)) | (show OpV _ _ _ _ (Oper.mk _ (Op.indexAddr _ _ _) _ _ _ _) _ _; exact ov_indexAddr (i := 0) (b := ab) (o := ao) rfl rfl rfl pI pI rfl pZ (fun _ => rfl) (fun _ => by omega)) | (show OpV _ _ _ _ (Oper.mk _ (Op.load _ _) _ _ _ _) _ _; exact ov_load1M rfl pI rfl rfl (fun _ => hMk) (fun _ => hcells 0 (by simp))) | (show OpV _ _ _ _ (Oper.mk _ (Op.load _ _) _ _ _ _) _ _; exact ov_load1M rfl pI rfl rfl (fun _ => hMk) (fun _ => hcells 1 (by simp))) | (show OpV _ _ _ _ (Oper.mk _ (Op.load _ _) _ _ _ _) _ _; exact ov_load1M rfl pI rfl rfl (fun _ => hMk) (fun _ => hcells 3 (by simp))) | (show OpV _ _ _ _ (Oper.mk _ (Op.load _ _) _ _ _ _) _ _; exact ov_load1M rfl pI rfl rfl (fun _ => hMa) (fun _ => gi.1))) ?_ | refine xl_box rfl (fun _ => ?_)) | fail) | (refine wc_cond rfl (fun hc => ?_) (fun hc => ?_) <;> (try (simp only [bls] at hc)) <;> (try (exfalso; first | omega | contradiction))))
          · rw [hrb (fun h => by
              have h := hpo.1 h
              rcases hc with hc | hc
              · exact hc h.2.2.1
              · have := hKl.2 h.2.2.2; omega)]
            exact wr_weak (fun _ h => h.drop (List.nil_sublist _)) (wr_tmp3 rfl rfl rfl rfl rfl rfl rfl)
          · rw [hrs (hpo.2 ⟨hv, h3, hc.1, hKl.1 (by have := hc.2; omega)⟩)]
            refine wc_draw 14 (by kernel_rfl) rfl (by kernel_rfl) (fun _ _ h k => h.ext k) ?_
            repeat' (first | (refine gD ?_; first | refine yd_v rfl rfl rfl rfl rfl rfl ?_ | refine wd_v rfl rfl rfl rfl rfl rfl (by first | (show OpV _ _ _ _ (Oper.mk _ (Op.indexAddr _ _ _) _ _ _ _) _ _; exact ov_indexAddr (i := 0) (b := kb) (o := ko) rfl rfl rfl pI pI rfl pZ (fun _ => rfl) (fun _ => by omega)) | (show OpV _ _ _ _ (Oper.mk _ (Op.indexAddr _ _ _) _ _ _ _) _ _; exact ov_indexAddr (i := 0) (b := ab) (o := ao) rfl rfl rfl pI pI rfl pZ (fun _ => rfl) (fun _ => by omega)) | (show OpV _ _ _ _ (Oper.mk _ (Op.load _ _) _ _ _ _) _ _; exact ov_load1M rfl pI rfl rfl (fun _ => hMk) (fun _ => hcells 2 (by simp))) | (show OpV _ _ _ _ (Oper.mk _ (Op.load _ _) _ _ _ _) _ _; exact ov_load1M rfl pI rfl rfl (fun _ => hMk) (fun _ => hcells 1 (by simp))) | (show OpV _ _ _ _ (Oper.mk _ (Op.load _ _) _ _ _ _) _ _; exact ov_load1M rfl pI rfl rfl (fun _ => hMa) (fun _ => gi.2))) ?_ | refine yd_new rfl rfl rfl rfl rfl rfl ?_ | refine wd_conv rfl rfl rfl rfl rfl rfl rfl rfl rfl rfl ?_) | (refine gE ?_; first | refine wd_nil ?_ | refine wd_nilF ?_) | (first | refine sk ?_ | (refine gL ?_; first | refine wl_v rfl rfl rfl (by first | (show OpV _ _ _ _ (Oper.mk _ (Op.indexAddr _ _ _) _ _ _ _) _ _; exact ov_indexAddr (i := 0) (b := kb) (o := ko) rfl rfl rfl pI pI rfl pZ (fun _ => rfl) (fun _ => by omega)) | (show OpV _ _ _ _ (Oper.mk _ (Op.indexAddr _ _ _) _ _ _ _) _ _; exact ov_indexAddr (i := 0) (b := ab) (o := ao) rfl rfl rfl pI pI rfl pZ (fun _ => rfl) (fun _ => by omega)) | (show OpV _ _ _ _ (Oper.mk _ (Op.load _ _) _ _ _ _) _ _; exact ov_load1M rfl pI rfl rfl (fun _ => hMk) (fun _ => hcells 2 (by simp))) | (show OpV _ _ _ _ (Oper.mk _ (Op.load _ _) _ _ _ _) _ _; exact ov_load1M rfl pI rfl rfl (fun _ => hMk) (fun _ => hcells 1 (by simp))) | (show OpV _ _ _ _ (Oper.mk _ (Op.load _ _) _ _ _ _) _ _; exact ov_load1M rfl pI rfl rfl (fun _ => hMa) (fun _ => gi.2))) ?_ | refine xl_box rfl (fun _ => ?_)) | fail))
            exact wr_weak (fun _ h => h.drop (List.nil_sublist _)) (wr_tmp3 rfl rfl rfl rfl rfl rfl rfl)
        · rw [hrb (fun h => h3 (hpo.1 h).2.1)]
          repeat' (first | (first | (show WL _ _ (Oper.mk _ (Op.binOp BinOp.neq _ _ _ _) _ _ _ _ :: _) _ _ _ _; refine wl_v rfl rfl rfl (opv_eq (ov_neq rfl rfl pI pI) (ndF (by omega))) ?_) | (show WL _ _ (Oper.mk _ (Op.binOp BinOp.neq _ _ _ _) _ _ _ _ :: _) _ _ _ _; refine wl_v rfl rfl rfl (opv_eq (ov_neq rfl rfl pI pI) (ndT (by omega))) ?_) | (show WL _ _ (Oper.mk _ (Op.binOp BinOp.neq _ _ _ _) _ _ _ _ :: _) _ _ _ _; refine wl_v rfl rfl rfl (opv_eq (ov_sneq rfl rfl pI pI) (ndF hv)) ?_)) | (first | refine sk1 ?_ | (refine gL ?_; first | refine wl_v rfl rfl rfl (by first | (show OpV _ _ _ _ (Oper.mk _ (Op.indexAddr _ _ _) _ _ _ _) _ _; exact ov_indexAddr (i := 0) (b := kb) (o := ko) rfl rfl rfl pI pI rfl pZ (fun _ => rfl) (fun _ => by omega)) | (show OpV _ _ _ _ (Oper.mk _ (Op.load _ _) _ _ _ _) _ _; exact ov_load1M rfl pI rfl rfl (fun _ => hMk) (fun _ => hcells 0 (by simp))) | (show OpV _ _ _ _ (Oper.mk _ (Op.load _ _) _ _ _ _) _ _; exact ov_load1M rfl pI rfl rfl (fun _ => hMk) (fun _ => hcells 1 (by simp))) | (exact ov_off (v := .bool false) rfl)) ?_ | refine xl_box rfl (fun _ => ?_)) | fail) | (refine wc_cond rfl (fun hc => ?_) (fun hc => ?_) <;> (try (simp only [bls] at hc)) <;> (try (exfalso; first | omega | contradiction))))
          all_goals first | exact wr_weak (fun _ h => h.drop (List.nil_sublist _)) (wr_tmp3 rfl rfl rfl rfl rfl rfl rfl) | (exfalso; simp at hc; done)
      · rw [hrb (fun h => hv (hpo.1 h).1)]
        repeat' (first | (first | (show WL _ _ (Oper.mk _ (Op.binOp BinOp.neq _ _ _ _) _ _ _ _ :: _) _ _ _ _; refine wl_v rfl rfl rfl (opv_eq (ov_neq rfl rfl pI pI) (ndF (by omega))) ?_) | (show WL _ _ (Oper.mk _ (Op.binOp BinOp.neq _ _ _ _) _ _ _ _ :: _) _ _ _ _; refine wl_v rfl rfl rfl (opv_eq (ov_neq rfl rfl pI pI) (ndT (by omega))) ?_) | (show WL _ _ (Oper.mk _ (Op.binOp BinOp.neq _ _ _ _) _ _ _ _ :: _) _ _ _ _; refine wl_v rfl rfl rfl (opv_eq (ov_sneq rfl rfl pI pI) (ndT hv)) ?_)) | (first | refine sk1 ?_ | (refine gL ?_; first | refine wl_v rfl rfl rfl (by first | (show OpV _ _ _ _ (Oper.mk _ (Op.indexAddr _ _ _) _ _ _ _) _ _; exact ov_indexAddr (i := 0) (b := kb) (o := ko) rfl rfl rfl pI pI rfl pZ (fun _ => rfl) (fun _ => by omega)) | (show OpV _ _ _ _ (Oper.mk _ (Op.load _ _) _ _ _ _) _ _; exact ov_load1M rfl pI rfl rfl (fun _ => hMk) (fun _ => hcells 0 (by simp))) | (exact ov_off (v := .bool false) rfl)) ?_ | refine xl_box rfl (fun _ => ?_)) | fail) | (refine wc_cond rfl (fun hc => ?_) (fun hc => ?_) <;> (try (simp only [bls] at hc)) <;> (try (exfalso; first | omega | contradiction))))
        all_goals first | exact wr_weak (fun _ h => h.drop (List.nil_sublist _)) (wr_tmp3 rfl rfl rfl rfl rfl rfl rfl) | (exfalso; simp at hc; done)
    · rw [hrb (fun h => h1 h.1)]
      repeat' (first | (first | (show WL _ _ (Oper.mk _ (Op.binOp BinOp.neq _ _ _ _) _ _ _ _ :: _) _ _ _ _; refine wl_v rfl rfl rfl (opv_eq (ov_neq rfl rfl pI pI) (ndF (by omega))) ?_) | (show WL _ _ (Oper.mk _ (Op.binOp BinOp.neq _ _ _ _) _ _ _ _ :: _) _ _ _ _; refine wl_v rfl rfl rfl (opv_eq (ov_neq rfl rfl pI pI) (ndT (by omega))) ?_)) | (first | refine sk1 ?_ | (refine gL ?_; first | refine wl_v rfl rfl rfl (by first | (exact ov_off (v := .bool false) rfl)) ?_ | refine xl_box rfl (fun _ => ?_)) | fail) | (refine wc_cond rfl (fun hc => ?_) (fun hc => ?_) <;> (try (simp only [bls] at hc)) <;> (try (exfalso; first | omega | contradiction))))
      all_goals first | exact wr_weak (fun _ h => h.drop (List.nil_sublist _)) (wr_tmp3 rfl rfl rfl rfl rfl rfl rfl) | (exfalso; simp at hc; done)
end Go.Proofs.YtgfbieplidpebaaGreatDoor
/-
  matricularef24.ReadAnswer.
-/
namespace Go.Proofs.YtgfbieplidpebaaGreatDoor
open Go.Eng Go.Pct Go.Xml Go.Cas
set_option maxRecDepth 10000
set_option linter.unusedSimpArgs false
set_option linter.unusedVariables false

variable {M : Ghost} {w0 w : World} {bs : List Nat} {H : List (Nat × Obj)}
theorem ra_bad {r : Rs} (h : (rfailed r sAF sNotOk).2 = true) : rreadAnswerP r = (suc0, (rfailed r sAF sNotOk).1, true) := by unfold rreadAnswerP; rw [if_pos h]
theorem ra_none {r : Rs} (h : ¬ (rfailed r sAF sNotOk).2 = true) (h2 : topR r sXml [sResp, sSuc] = none) : rreadAnswerP r = (suc0, [], false) := by unfold rreadAnswerP; rw [if_neg h, h2]
theorem ra_no {r : Rs} {n : Nd} (h : ¬ (rfailed r sAF sNotOk).2 = true) (h2 : topR r sXml [sResp, sSuc] = some n) (h3 : ¬ sucOk r n) : rreadAnswerP r = (suc0, [], false) := by unfold rreadAnswerP; rw [if_neg h, h2]; simp only; rw [if_neg h3]
theorem ra_yes {r : Rs} {n : Nd} (h : ¬ (rfailed r sAF sNotOk).2 = true) (h2 : topR r sXml [sResp, sSuc] = some n) (h3 : sucOk r n) : rreadAnswerP r = if parseOk (kdN n) = true then (parsed (kdN n), [], true) else (suc0, [], false) := by unfold rreadAnswerP; rw [if_neg h, h2]; simp only; rw [if_pos h3]
theorem no4 {a b c d : Prop} [Decidable a] [Decidable b] [Decidable c] [Decidable d] (ha : a) (hb : b) (h1 : c) (hd : d) (h : (decide a && decide b && decide c && decide d) = false) : False := by simp [ha, hb, h1, hd] at h
theorem gA {i k : Nat} (h : (bif true then decide ((i : Int) < (k : Int)) == true else false) = true) : i < k := by simp at h; omega
theorem gB {i k : Nat} {X : Bool} (h : (bif true then (decide ((i : Int) < (k : Int)) && X) == true else false) = true) : i < k := by simp at h; omega
theorem gC {i k : Nat} {X Y : Bool} (h : (bif true then (decide ((i : Int) < (k : Int)) && X && Y) == true else false) = true) : i < k := by simp at h; omega
theorem gA1 {k : Nat} (h : (bif true then decide ((1 : Int) < (k : Int)) == true else false) = true) : 1 < k := by simp at h; omega
theorem gB1 {k : Nat} {X : Bool} (h : (bif true then (decide ((1 : Int) < (k : Int)) && X) == true else false) = true) : 1 < k := by simp at h; omega
theorem gC1 {k : Nat} {X Y : Bool} (h : (bif true then (decide ((1 : Int) < (k : Int)) && X && Y) == true else false) = true) : 1 < k := by simp at h; omega
theorem kid_cells {M : Ghost} {D : Nat} {k : List Nd} {cs : Array Value} {o : Nat} (k4 : ∀ i (h : i < k.length), ∃ vs : List Value, vs.length = 4 ∧ NodeC M D k[i] vs ∧ ∀ j, j < 4 → cs[o + i * 4 + j]? = vs[j]?) (i : Nat) :
    ∃ (vn : List UInt8) (va : Option Addr) (vl vc : Nat) (vt : List UInt8) (va2 : Option Addr) (vl2 vc2 : Nat), i < k.length → NodeC M D (kidN k i) [str vn, .slice va vl vc, str vt, .slice va2 vl2 vc2] ∧ ∀ j, j < [str vn, Value.slice va vl vc, str vt, Value.slice va2 vl2 vc2].length → cs[o + i * 4 + j]? = [str vn, Value.slice va vl vc, str vt, Value.slice va2 vl2 vc2][j]? := by
  by_cases h : i < k.length
  · obtain ⟨us, hu, hus, hc⟩ := k4 i h
    obtain ⟨vn, va, vl, vc, vt, va2, vl2, vc2, rfl⟩ := node_open hus
    refine ⟨vn, va, vl, vc, vt, va2, vl2, vc2, fun _ => ⟨?_, fun j hj => hc j hj⟩⟩
    unfold kidN; rw [getD_nd h]; exact hus
  · exact ⟨[], none, 0, 0, [], none, 0, 0, fun h' => absurd h' h⟩
theorem okA_cells {M : Ghost} {D : Nat} {k : List Nd} {i : Nat} {name vn : List UInt8} {va : Option Addr} {vl vc : Nat} {vt : List UInt8} {va2 : Option Addr} {vl2 vc2 : Nat} {P : Prop} (h : i < k.length → NodeC M (D + 1) (kidN k i) [str vn, .slice va vl vc, str vt, .slice va2 vl2 vc2] ∧ P) : okA k i name ↔ (i < k.length ∧ vn = name ∧ 0 < vl2 ∧ vl = 0) := by
  unfold okA
  by_cases hi : i < k.length
  · have hn := (h hi).1
    have h1 := node_nm hn
    obtain ⟨_, _, _, _, _, _, _, e1, _⟩ := SlP.open (node_at hn)
    obtain ⟨_, _, _, _, _, _, _, e2, _⟩ := Sl.open (node_kd hn)
    injection e1 with _ e1 _
    injection e2 with _ e2 _
    rw [h1, e1, e2, List.length_eq_zero_iff, List.length_pos_iff]
  · exact ⟨fun h => absurd h.1 hi, fun h => absurd h.1 hi⟩
theorem offk {X : Bool} {k : Nat} (h : k = 0) : (bif true then (X || decide ((k : Int) = 0)) == false else false) = false := by subst h; simp
/-- what the attributes have come to -/
structure JP (w : World) (M0 M1 : Ghost) (A : List Go.Pct.Pr) (B : Bool) where
  good : B = true
  M' : Ghost
  a : Option Addr
  l : Nat
  c : Nat
  sl : SlP M' (.slice a l c) A
  si : Since w M0 M'
  sub : ∀ b o, M1 b o → M' b o
structure JS (w : World) (M0 M1 : Ghost) (A : List (List UInt8)) (B : Bool) where
  good : B = true
  M' : Ghost
  a : Option Addr
  l : Nat
  c : Nat
  sl : SlS M' (.slice a l c) A
  si : Since w M0 M'
  sub : ∀ b o, M1 b o → M' b o
/-- a list, as far as a loop has come; all are good so far -/
structure PG (k : List Nd) (A : List Go.Pct.Pr) where
  i : Nat
  hi : i ≤ k.length
  all : ∀ j, j < i → goodA (k.getD j nodeZ) = true
  v : Value
  Hs : List (Nat × Obj)
  own : OwnS 50 2 v Hs (cellsP (A.take i))
structure TG (k : List Nd) (A : List (List UInt8)) where
  i : Nat
  hi : i ≤ k.length
  all : ∀ j, j < i → goodP (k.getD j nodeZ) = true
  v : Value
  Hs : List (Nat × Obj)
  own : OwnS 9 1 v Hs (cellsS (A.take i))
theorem all_nd {l : List Nd} {p : Nd → Bool} (h : ∀ j, j < l.length → p (l.getD j nodeZ) = true) : l.all p = true := by
  rw [List.all_eq_true]
  intro x hx
  obtain ⟨j, hj, rfl⟩ := List.mem_iff_getElem.1 hx
  have := h j hj
  rwa [getD_nd hj] at this
theorem no_nd {l : List Nd} {p : Nd → Bool} {i : Nat} (hi : i < l.length) (h : p (l.getD i nodeZ) = false) : l.all p = false := by
  rw [List.all_eq_false]
  exact ⟨l[i], List.getElem_mem _, by rw [← getD_nd hi, h]; simp⟩
def attrOf (x : Nd) : Go.Pct.Pr := ((nmN x).drop 4, txN x)
theorem step_nd {l : List Nd} {p : Nd → Bool} {i : Nat} (h : ∀ j, j < i → p (l.getD j nodeZ) = true) (hp : p (l.getD i nodeZ) = true) : ∀ j, j < i + 1 → p (l.getD j nodeZ) = true := by
  intro j hj
  by_cases e : j = i
  · subst e; exact hp
  · exact h j (by omega)
theorem ok_no1 {k : List Nd} (h : (kdA k).all goodA = false) : parseOk k = false := by unfold parseOk; rw [h]; rfl
theorem ok_no2 {k : List Nd} (h : (kdP k).all goodP = false) : parseOk k = false := by unfold parseOk; rw [h]; simp
theorem ok_no3 {k : List Nd} (h : at3 k ≠ k.length) : parseOk k = false := by unfold parseOk; rw [decide_eq_false h]; simp
theorem ok_yes {k : List Nd} (h1 : (kdA k).all goodA = true) (h2 : (kdP k).all goodP = true) (h3 : at3 k = k.length) : parseOk k = true := by unfold parseOk; rw [h1, h2, decide_eq_true h3]; rfl
set_option maxHeartbeats 4000000 in
theorem rReadAnswer_ok (hM : Laid M w) {r : Rs} {st : Int} {a l c bd} (hr : RsC M r st a l c bd) (hbd : bd.length ≤ 90000) : Calls Tryz.prog 23 #[.agg [i64 st, .slice a l c, str bd].toArray] w (RetS M w (fun M' H v => H = [] ∧ ∃ sv, v = .tuple #[sv, str (rreadAnswerP r).2.1, .bool (rreadAnswerP r).2.2] ∧ SucC M' (rreadAnswerP r).1 sv)) := by
  have hfl := fun {w : World} (hw : Laid M w) => failed24_ok hw hr hbd sAF sNotOk
  refine fn1 hM Tryz.func23 ?_
  by_cases hfe : (rfailed r sAF sNotOk).2 = true
  · rw [ra_bad hfe]
    rw [hfe] at hfl
    generalize (rfailed r sAF sNotOk).1 = code at *
    repeat' (first | refine sk ?_ | (refine gL ?_; first | refine wl_v rfl rfl rfl (by first | (exact oc 54 Tryz.call54 (h := fun hcg w hw => hfl hw.laid))) ?_ | refine xl_alloc (fun _ => ?_) | refine xl_box rfl (fun _ => ?_) | refine xl_store rfl rfl ?_ | refine xl_buildSlice rfl (fun _ => ?_)) | fail)
    refine wc_cond rfl (fun hc => ?_) (fun hc => by exfalso; simp at hc)
    repeat' (first | refine sk ?_ | (refine gL ?_; first | refine xl_alloc (fun _ => ?_) | refine xl_box rfl (fun _ => ?_) | refine xl_store rfl rfl ?_ | refine xl_buildSlice rfl (fun _ => ?_)) | fail)
    exact wr_layC3 (Hn := []) rfl rfl rfl rfl rfl rfl Since.refl (List.nil_sublist _) ⟨rfl, _, rfl, _, _, _, _, _, _, rfl, sl_nil, sl_nil⟩ pM
  have hrn := ra_none hfe
  have hr0 := fun {n : Nd} => ra_no (n := n) hfe
  have hry := fun {n : Nd} => ra_yes (n := n) hfe
  rw [show (rfailed r sAF sNotOk).2 = false from by simpa using hfe] at hfl
  generalize (rfailed r sAF sNotOk).1 = code at *
  repeat' (first | refine sk ?_ | (refine gL ?_; first | refine wl_v rfl rfl rfl (by first | (exact oc 54 Tryz.call54 (h := fun hcg w hw => hfl hw.laid))) ?_ | refine xl_alloc (fun _ => ?_) | refine xl_box rfl (fun _ => ?_) | refine xl_store rfl rfl ?_ | refine xl_buildSlice rfl (fun _ => ?_)) | fail)
  refine wc_cond rfl (fun hc => by exfalso; simp at hc) (fun hc => ?_)
  clear hc hfe hfl
  repeat' (first | refine sk ?_ | (refine gL ?_; first | refine xl_alloc (fun _ => ?_) | refine xl_box rfl (fun _ => ?_) | refine xl_store rfl rfl ?_ | refine xl_buildSlice rfl (fun _ => ?_)) | fail)
  rename_i b1 b2 b5 bq
  refine wl_publish (H1 := [(bq, .cells (cellsS [sResp, sSuc]).toArray 9 (0, 0))]) (fun hn => ?_)
  have hp : SlS (With M [(bq, .cells (cellsS [sResp, sSuc]).toArray 9 (0, 0))]) (.slice (some ⟨bq, 0, none⟩) 2 2) [sResp, sSuc] := slS_blk (l := [sResp, sSuc]) (.inr (List.Mem.head _)) (by simp)
  have hr1 : RsC (With M [(bq, .cells (cellsS [sResp, sSuc]).toArray 9 (0, 0))]) r st a l c bd := ⟨hr.1, hr.2.1, Sl.mono hr.2.2 (fun _ _ => .inl) (fun _ _ _ h => h)⟩
  have si1 := since_new (M0 := M) Since.refl hn
  clear hr hn
  generalize With M [(bq, .cells (cellsS [sResp, sSuc]).toArray 9 (0, 0))] = M1 at *
  refine wl_callS rfl Tryz.call55 rfl rfl rfl rfl (fun w hw => top_ok hw.laid hr1 hbd sXml hp) ?_
  rintro _ H2 M2 hm2 hn2 ⟨rfl, nn, p1, q1, r1, nt, p1', q1', r1', rfl, hx⟩
  have hr2 : RsC M2 r st a l c bd := ⟨hr1.1, hr1.2.1, Sl.mono hr1.2.2 hm2 (fun _ _ _ h => h)⟩
  have si2 := si1.step hm2 hn2
  have hhd := fun {w : World} (hw : Laid M2 w) => head_ok hw hr2 hbd
  have hbl := hr1.2.1
  clear hr1 hp hn2 hm2 hr2 si1
  cases htop : topR r sXml [sResp, sSuc] with
  | none =>
    rw [hrn htop]
    repeat' (first | refine sk ?_ | (refine gL ?_; first | refine wl_v rfl rfl rfl (by first | (exact ov_off (v := .bool false) rfl)) ?_ | refine xl_alloc (fun _ => ?_) | refine xl_box rfl (fun _ => ?_) | refine xl_store rfl rfl ?_ | refine xl_buildSlice rfl (fun _ => ?_)) | fail)
    refine wc_cond rfl (fun hc => ?_) (fun hc => by exfalso; simp at hc)
    repeat' (first | refine sk ?_ | (refine gL ?_; first | refine xl_alloc (fun _ => ?_) | refine xl_box rfl (fun _ => ?_) | refine xl_store rfl rfl ?_ | refine xl_buildSlice rfl (fun _ => ?_)) | fail)
    exact wr_layC3 (Hn := []) rfl rfl rfl rfl rfl rfl si2 (List.nil_sublist _) ⟨rfl, _, rfl, _, _, _, _, _, _, rfl, sl_nil, sl_nil⟩ pM
  | some n =>
    rw [htop] at hx
    rw [show (some n).getD nodeZ = n from rfl] at hx
    have hr0 := hr0 htop
    have hry := hry htop
    obtain ⟨_, xx, hxx, htp⟩ := topR_some htop
    have hkn : (textL (kdN n)).length ≤ 90000 := by
      have h1 := (readP_text hxx).1
      rw [hbl] at h1
      have h2 := top_three_len htp
      have h3 := (textN_ge n).2.2.1
      rw [h1] at h2
      omega
    clear htp hxx hrn htop hbl
    have hat := node_at hx
    have hkd := node_kd hx
    have hso : sucOk r n ↔ (headB r = true ∧ (atN n).length = 0 ∧ kdN n ≠ [] ∧ leafOk (kidN (kdN n) 0) sUser) := by
      unfold sucOk; rw [List.length_eq_zero_iff]
    clear hx
    generalize headB r = hd at *
    generalize atN n = an at *
    generalize kdN n = k at *
    obtain ⟨aa, acap, ab, ao, acs, aT, afz, e1, _⟩ := SlP.open hat
    obtain ⟨ka, kcap, kb, ko, kcs, kT, kfz, e2, k1, k2, k3, k4⟩ := Sl.open hkd
    cases e1; cases e2
    clear hat hkd
    by_cases hk0 : k.length = 0
    · rw [hr0 (fun h => (hso.1 h).2.2.1 (List.eq_nil_of_length_eq_zero hk0))]
      repeat' (first | refine sk ?_ | (refine gL ?_; first | refine wl_v rfl rfl rfl (by first | (exact oc 56 Tryz.call56 (h := fun hcg w hw => hhd hw.laid)) | (exact ov_off (v := .bool false) (offk hk0))) ?_ | refine xl_alloc (fun _ => ?_) | refine xl_box rfl (fun _ => ?_) | refine xl_store rfl rfl ?_ | refine xl_buildSlice rfl (fun _ => ?_)) | fail)
      refine wc_cond rfl (fun hc => ?_) (fun hc => by exfalso; simp [hk0] at hc)
      repeat' (first | refine sk ?_ | (refine gL ?_; first | refine xl_alloc (fun _ => ?_) | refine xl_box rfl (fun _ => ?_) | refine xl_store rfl rfl ?_ | refine xl_buildSlice rfl (fun _ => ?_)) | fail)
      exact wr_layC3 (Hn := []) rfl rfl rfl rfl rfl rfl si2 (List.nil_sublist _) ⟨rfl, _, rfl, _, _, _, _, _, _, rfl, sl_nil, sl_nil⟩ pM
    have hkne : k ≠ [] := by intro e; subst e; exact hk0 rfl
    obtain ⟨rfl, hMk⟩ := k3 hkne
    obtain ⟨us0, hu0, hus0, hc0⟩ := k4 0 (by omega)
    obtain ⟨vn, va1, vl1, vc1, user, va2, vl2, vc2, rfl⟩ := node_open hus0
    have hg0 : kidN k 0 = k[0]'(by omega) := by unfold kidN; exact getD_nd (by omega)
    have hxu : NodeC M2 8 (kidN k 0) [str vn, .slice va1 vl1 vc1, str user, .slice va2 vl2 vc2] := by rw [hg0]; exact hus0
    have hlf := fun {w : World} (hw : Laid M2 w) => leaf_ok hw hxu sUser
    have hut : txN (kidN k 0) = user := node_tx hxu
    have hul : user.length ≤ 90000 := by
      have h1 := textL_mem (kid_mem (k := k) (i := 0) (by omega))
      have h2 := (textN_ge (kidN k 0)).2.1
      rw [hut] at h2
      omega
    clear hus0 hg0 hxu
    have hso2 : sucOk r n ↔ (hd = true ∧ an.length = 0 ∧ decide (leafOk (kidN k 0) sUser) = true) := by
      rw [hso, decide_eq_true_iff]
      exact ⟨fun h => ⟨h.1, h.2.1, h.2.2.2⟩, fun h => ⟨h.1, h.2.1, hkne, h.2.2⟩⟩
    clear hso
    generalize decide (leafOk (kidN k 0) sUser) = lo at *
    repeat' (first | refine sk ?_ | (refine gL ?_; first | refine wl_v rfl rfl rfl (by first | (exact oc 56 Tryz.call56 (h := fun hcg w hw => hhd hw.laid)) | (exact oc 57 Tryz.call57 (h := fun hcg w hw => hlf hw.laid)) | (show OpV _ _ _ _ (Oper.mk _ (Op.indexAddr _ _ (.const (.int .i64 0))) _ _ _ _) _ _; exact ov_indexAddr (i := 0) (b := kb) (o := ko) rfl rfl rfl pI pI rfl pZ (fun _ => rfl) (fun _ => by omega)) | (show OpV _ _ _ _ (Oper.mk _ (Op.load _ _) _ _ _ _) _ _; exact ov_loadSM (l := [str vn, .slice va1 vl1 vc1, str user, .slice va2 vl2 vc2]) rfl pI rfl pZ (fun _ => hMk) (fun _ j hj => hc0 j hj))) ?_ | refine xl_alloc (fun _ => ?_) | refine xl_box rfl (fun _ => ?_) | refine xl_store rfl rfl ?_ | refine xl_buildSlice rfl (fun _ => ?_)) | fail)
    refine wc_cond rfl (fun hc => ?_) (fun hc => ?_)
    · have hno : ¬ sucOk r n := by
        rw [hso2]
        rintro ⟨h1, h2, h3⟩
        rw [h1, h2, h3] at hc
        simp at hc
        exact hkne hc
      rw [hr0 hno]
      repeat' (first | refine sk ?_ | (refine gL ?_; first | refine xl_alloc (fun _ => ?_) | refine xl_box rfl (fun _ => ?_) | refine xl_store rfl rfl ?_ | refine xl_buildSlice rfl (fun _ => ?_)) | fail)
      exact wr_layC3 (Hn := []) rfl rfl rfl rfl rfl rfl si2 (List.nil_sublist _) ⟨rfl, _, rfl, _, _, _, _, _, _, rfl, sl_nil, sl_nil⟩ pM
    have hyes : sucOk r n := by
      rw [hso2]
      simp at hc
      refine ⟨?_, ?_, ?_⟩
      all_goals first | omega | simp_all
    rw [hry hyes]
    clear hc hry hr0 hso2 hyes hlf hhd
    obtain ⟨cn, ca, cl, cc, ct, ca2, cl2, cc2, hci⟩ := kid_cells k4 1
    repeat' (first | refine sk ?_ | (refine gL ?_; first | refine wl_v rfl rfl rfl (by first | (show OpV _ _ _ _ (Oper.mk _ (Op.indexAddr _ _ (.const (.int .i64 0))) _ _ _ _) _ _; exact ov_indexAddr (i := 0) (b := kb) (o := ko) rfl rfl rfl pI pI rfl pZ (fun _ => rfl) (fun _ => by omega)) | (show OpV _ _ _ _ (Oper.mk _ (Op.load _ _) _ _ _ _) _ _; exact ov_load1M rfl pI rfl rfl (fun _ => hMk) (fun _ => hc0 2 (by simp))) | (show OpV _ _ _ _ (Oper.mk _ (Op.indexAddr _ _ (.tmp _)) _ _ _ _) _ _; exact ov_indexAddr (i := 1) (b := kb) (o := ko) rfl rfl rfl pI pI rfl pZ (fun _ => rfl) (fun hcg => (by first | assumption | exact gA hcg | exact gB hcg | exact gC hcg | exact gA1 hcg | exact gB1 hcg | exact gC1 hcg))) | (show OpV _ _ _ _ (Oper.mk _ (Op.load 9 _) _ _ _ _) _ _; exact ov_load1M rfl pI rfl rfl (fun _ => hMk) (fun hcg => (hci (by first | assumption | exact gA hcg | exact gB hcg | exact gC hcg | exact gA1 hcg | exact gB1 hcg | exact gC1 hcg)).2 0 (by simp))) | (show OpV _ _ _ _ (Oper.mk _ (Op.load 53 _) _ _ _ _) _ _; exact ov_load1M rfl pI rfl rfl (fun _ => hMk) (fun hcg => (hci (by first | assumption | exact gA hcg | exact gB hcg | exact gC hcg | exact gA1 hcg | exact gB1 hcg | exact gC1 hcg)).2 3 (by simp))) | (show OpV _ _ _ _ (Oper.mk _ (Op.load 22 _) _ _ _ _) _ _; exact ov_load1M rfl pI rfl rfl (fun _ => hMk) (fun hcg => (hci (by first | assumption | exact gA hcg | exact gB hcg | exact gC hcg | exact gA1 hcg | exact gB1 hcg | exact gC1 hcg)).2 1 (by simp)))) ?_ | refine xl_alloc (fun _ => ?_) | refine xl_box rfl (fun _ => ?_) | refine xl_store rfl rfl ?_ | refine xl_buildSlice rfl (fun _ => ?_)) | fail)
    rename_i b8 b10
    have hoA : okA k 1 sAttrs ↔ (1 < k.length ∧ cn = sAttrs ∧ 0 < cl2 ∧ cl = 0) := okA_cells hci
    refine wc_split (α := JP w M M2 ((kdA k).map attrOf) ((kdA k).all goodA)) (fun x => [(2, true, .pointer (some ⟨b2, 0, none⟩)), (5, true, .pointer (some ⟨b5, 0, none⟩)), (8, true, .pointer (some ⟨b8, 0, none⟩)), (10, true, .pointer (some ⟨b10, 0, none⟩)), (11, true, i64 (at1 k : Int))]) (fun x => St w [] [(b10, .cells [str user, .slice x.a x.l x.c, .slice none 0 0, str []].toArray 25 (0, 0)), (b8, .cells [str nn, .slice p1 an.length r1, str nt, .slice (some ⟨kb, ko, none⟩) k.length r1'].toArray tNd (0, 0)), (b5, .cells [str [], .slice none 0 0, .slice none 0 0, str []].toArray 25 (0, 0)), (b2, .cells [str [], .slice none 0 0, .slice none 0 0, str []].toArray 25 (0, 0))] x.M') ?_ ?_
    · refine wc_cond rfl (fun hc => ?_) (fun hc => ?_)
      · have hA : okA k 1 sAttrs := by
          rw [hoA]; simp at hc; exact ⟨by have := hc.1.1.1; omega, hc.1.1.2, hc.1.2, hc.2⟩
        have hkA : kdA k = kdN (kidN k 1) := by unfold kdA; rw [if_pos hA]
        have ha1 : at1 k = 2 := by unfold at1; rw [if_pos hA]
        have h1k := hA.1
        have hgood := fun h => ok_no1 (k := k) (show (kdA k).all goodA = false from h)
        rw [ha1]
        rw [hkA] at hgood ⊢
        have hsl := node_kd (hci h1k).1
        have hAl : (textL (kdN (kidN k 1))).length ≤ 90000 := by
          have h1 := textL_mem (kid_mem (k := k) (i := 1) h1k)
          have h2 := (textN_ge (kidN k 1)).2.2.1
          omega
        have hAn : (kdN (kidN k 1)).length ≤ 90000 := by
          have := textL_length (kdN (kidN k 1))
          omega
        have hAne : kdN (kidN k 1) ≠ [] := hA.2.2.1
        clear hA hkA ha1 hoA
        generalize kdN (kidN k 1) = A at *
        obtain ⟨la, lcap, lb, lo2, lcs, lT, lfz, e5, m1, m2, m3, m4⟩ := Sl.open hsl
        cases e5
        obtain ⟨rfl, hMl⟩ := m3 hAne
        clear hsl
        repeat' (first | refine sk ?_ | (refine gL ?_; first | refine wl_v rfl rfl rfl (by first | (show OpV _ _ _ _ (Oper.mk _ (Op.indexAddr _ _ (.tmp _)) _ _ _ _) _ _; exact ov_indexAddr (i := 1) (b := kb) (o := ko) rfl rfl rfl pI pI rfl pZ (fun _ => rfl) (fun hcg => (by first | assumption | exact gA hcg | exact gB hcg | exact gC hcg | exact gA1 hcg | exact gB1 hcg | exact gC1 hcg))) | (show OpV _ _ _ _ (Oper.mk _ (Op.load 9 _) _ _ _ _) _ _; exact ov_load1M rfl pI rfl rfl (fun _ => hMk) (fun hcg => (hci (by first | assumption | exact gA hcg | exact gB hcg | exact gC hcg | exact gA1 hcg | exact gB1 hcg | exact gC1 hcg)).2 0 (by simp))) | (show OpV _ _ _ _ (Oper.mk _ (Op.load 53 _) _ _ _ _) _ _; exact ov_load1M rfl pI rfl rfl (fun _ => hMk) (fun hcg => (hci (by first | assumption | exact gA hcg | exact gB hcg | exact gC hcg | exact gA1 hcg | exact gB1 hcg | exact gC1 hcg)).2 3 (by simp))) | (show OpV _ _ _ _ (Oper.mk _ (Op.load 22 _) _ _ _ _) _ _; exact ov_load1M rfl pI rfl rfl (fun _ => hMk) (fun hcg => (hci (by first | assumption | exact gA hcg | exact gB hcg | exact gC hcg | exact gA1 hcg | exact gB1 hcg | exact gC1 hcg)).2 1 (by simp)))) ?_ | refine xl_alloc (fun _ => ?_) | refine xl_box rfl (fun _ => ?_) | refine xl_store rfl rfl ?_ | refine xl_buildSlice rfl (fun _ => ?_)) | fail)
        refine wc_loop (α := PG A (A.map attrOf)) (fun x => [(2, true, .pointer (some ⟨b2, 0, none⟩)), (5, true, .pointer (some ⟨b5, 0, none⟩)), (8, true, .pointer (some ⟨b8, 0, none⟩)), (10, true, .pointer (some ⟨b10, 0, none⟩)), (11, true, i64 1), (12, true, .slice (some ⟨lb, lo2, none⟩) A.length cc2), (13, true, i64 (x.i : Int))]) (fun x => St w [] (x.Hs ++ [(b10, .cells [str user, x.v, .slice none 0 0, str []].toArray 25 (0, 0)), (b8, .cells [str nn, .slice p1 an.length r1, str nt, .slice (some ⟨kb, ko, none⟩) k.length r1'].toArray tNd (0, 0)), (b5, .cells [str [], .slice none 0 0, .slice none 0 0, str []].toArray 25 (0, 0)), (b2, .cells [str [], .slice none 0 0, .slice none 0 0, str []].toArray 25 (0, 0))]) M2) (fun x => A.length - x.i) ⟨0, Nat.zero_le _, fun j hj => by omega, .slice none 0 0, [], OwnS.nil⟩ pE (fun _ h => h.drop (List.Sublist.cons_cons _ (List.Sublist.cons_cons _ (List.Sublist.cons_cons _ (List.Sublist.cons_cons _ (List.nil_sublist _)))))) ?_
        rintro ⟨i, hi, hall, v, Hs, own⟩
        dsimp only
        have hcl : (cellsP ((A.map attrOf).take i)).length = i * 2 := by rw [cellsP_length, List.length_take, List.length_map]; omega
        obtain ⟨xa, xcap, rfl⟩ := own.slice (k := i) (by decide) hcl
        rcases Nat.lt_or_ge i A.length with hlt | hge
        · obtain ⟨us, hu4, hus, hcells⟩ := m4 i hlt
          obtain ⟨xn, xa1, xl1, xc1, xt, xa2, xl2, xc2, rfl⟩ := node_open hus
          have hxg : A.getD i nodeZ = A[i] := getD_nd hlt
          rw [← hxg] at hus
          have hlm : (A.map attrOf).length = A.length := List.length_map _
          have hlx := fun {w : World} (hw : Laid M2 w) => leaf_ok hw hus xn
          have hnm := node_nm hus
          have htx := node_tx hus
          have hga : goodA (A.getD i nodeZ) = (decide (4 ≤ xn.length) && decide (xn.take 4 = sCas) && decide (leafOk (A.getD i nodeZ) xn)) := by unfold goodA; rw [hnm]
          have hno := fun h => hgood (no_nd (p := goodA) hlt h)
          have hst := fun h => step_nd (p := goodA) hall h
          have hnx : cellsP ((A.map attrOf).take (i + 1)) = cellsP ((A.map attrOf).take i) ++ [str (xn.drop 4), str xt] := cellsP_next (by rw [hlm]; exact hlt) (by simp only [List.getElem_map]; unfold attrOf; rw [← hxg, hnm, htx])
          rw [hga] at hno hst
          generalize decide (leafOk (A.getD i nodeZ) xn) = lx at *
          clear hga hus hnm htx hxg
          repeat' (first | refine sk ?_ | (refine gL ?_; first | refine xl_alloc (fun _ => ?_) | refine xl_box rfl (fun _ => ?_) | refine xl_store rfl rfl ?_ | refine xl_buildSlice rfl (fun _ => ?_)) | fail)
          refine wc_cond rfl (fun hc => ?_) (fun hc => by exfalso; simp at hc; omega)
          clear hc
          repeat' (first | refine sk ?_ | (refine gL ?_; first | refine xl_alloc (fun _ => ?_) | refine xl_box rfl (fun _ => ?_) | refine xl_store rfl rfl ?_ | refine xl_buildSlice rfl (fun _ => ?_)) | fail)
          by_cases h4 : 4 ≤ xn.length
          · refine wc_draw 29 (by kernel_rfl) rfl (by kernel_rfl) (fun _ _ h k => h.ext k) ?_
            repeat' (first | ((show WD _ _ (Oper.mk _ (Op.binOp BinOp.lss _ _ _ _) _ _ _ _ :: _) _ _ _ _ _ _; refine wd_v rfl rfl rfl rfl rfl rfl (opv_eq (ov_lss rfl rfl pI pI) (decide_eq_false (by omega))) ?_)) | (refine gD ?_; first | refine yd_v rfl rfl rfl rfl rfl rfl ?_ | refine wd_v rfl rfl rfl rfl rfl rfl (by first | (show OpV _ _ _ _ (Oper.mk _ (Op.indexAddr _ _ _) _ _ _ _) _ _; exact ov_indexAddr (i := i) (b := lb) (o := lo2) rfl rfl rfl pI pI rfl pZ (fun _ => rfl) pS) | (show OpV _ _ _ _ (Oper.mk _ (Op.load _ _) _ _ _ _) _ _; exact ov_load1M rfl pI rfl rfl (fun _ => hMl) (fun _ => hcells 0 (by simp))) | (show OpV _ _ _ _ (Oper.mk _ (Op.load _ _) _ _ _ _) _ _; exact ov_loadSM (l := [str xn, .slice xa1 xl1 xc1, str xt, .slice xa2 xl2 xc2]) rfl pI rfl pZ (fun _ => hMl) (fun _ j hj => hcells j hj)) | (exact oc 57 Tryz.call57 (h := fun hcg w hw => hlx hw.laid))) ?_ | refine yd_new rfl rfl rfl rfl rfl rfl ?_ | refine wd_conv rfl rfl rfl rfl rfl rfl rfl rfl rfl rfl ?_) | (refine gE ?_; first | refine wd_nil ?_ | refine wd_nil1 (wl_fresh (fun _ => ?_))) | (first | refine sk1 ?_ | (refine gL ?_; first | refine wl_v rfl rfl rfl (by first | (show OpV _ _ _ _ (Oper.mk _ (Op.indexAddr _ _ _) _ _ _ _) _ _; exact ov_indexAddr (i := i) (b := lb) (o := lo2) rfl rfl rfl pI pI rfl pZ (fun _ => rfl) pS) | (show OpV _ _ _ _ (Oper.mk _ (Op.load _ _) _ _ _ _) _ _; exact ov_load1M rfl pI rfl rfl (fun _ => hMl) (fun _ => hcells 0 (by simp))) | (show OpV _ _ _ _ (Oper.mk _ (Op.load _ _) _ _ _ _) _ _; exact ov_loadSM (l := [str xn, .slice xa1 xl1 xc1, str xt, .slice xa2 xl2 xc2]) rfl pI rfl pZ (fun _ => hMl) (fun _ j hj => hcells j hj)) | (exact oc 57 Tryz.call57 (h := fun hcg w hw => hlx hw.laid))) ?_ | refine xl_alloc (fun _ => ?_) | refine xl_box rfl (fun _ => ?_) | refine xl_store rfl rfl ?_ | refine xl_buildSlice rfl (fun _ => ?_)) | fail))
            refine wc_cond rfl (fun hc => ?_) (fun hc => ?_)
            · rw [if_neg (by rw [hno (by
                rw [decide_eq_true h4]
                revert hc
                show ((!decide (xn.take 4 = sCas)) || !lx) = true → _
                cases lx <;> cases decide (xn.take 4 = sCas) <;> decide)]; simp)]
              repeat' (first | refine sk ?_ | (refine gL ?_; first | refine xl_alloc (fun _ => ?_) | refine xl_box rfl (fun _ => ?_) | refine xl_store rfl rfl ?_ | refine xl_buildSlice rfl (fun _ => ?_)) | fail)
              exact wr_layC3 (Hn := []) rfl rfl rfl rfl rfl rfl si2 (List.nil_sublist _) ⟨rfl, _, rfl, _, _, _, _, _, _, rfl, sl_nil, sl_nil⟩ pM
            · have hg : (decide (4 ≤ xn.length) && decide (xn.take 4 = sCas) && lx) = true := by
                rw [decide_eq_true h4]
                revert hc
                show ((!decide (xn.take 4 = sCas)) || !lx) = false → _
                cases lx <;> cases decide (xn.take 4 = sCas) <;> decide
              clear hno hc
              repeat' (first | refine sk ?_ | (refine gL ?_; first | refine xl_alloc (fun _ => ?_) | refine xl_box rfl (fun _ => ?_) | refine xl_store rfl rfl ?_ | refine xl_buildSlice rfl (fun _ => ?_)) | fail)
              refine wc_draw 15 (by kernel_rfl) rfl (by kernel_rfl) (fun _ _ h k => h.ext k) ?_
              repeat' (first | (refine gD ?_; first | refine yd_v rfl rfl rfl rfl rfl rfl ?_ | refine wd_v rfl rfl rfl rfl rfl rfl (by first | (show OpV _ _ _ _ (Oper.mk _ (Op.indexAddr _ _ _) _ _ _ _) _ _; exact ov_indexAddr (i := i) (b := lb) (o := lo2) rfl rfl rfl pI pI rfl pZ (fun _ => rfl) pS) | (show OpV _ _ _ _ (Oper.mk _ (Op.load _ _) _ _ _ _) _ _; exact ov_load1M rfl pI rfl rfl (fun _ => hMl) (fun _ => hcells 0 (by simp))) | (show OpV _ _ _ _ (Oper.mk _ (Op.load _ _) _ _ _ _) _ _; exact ov_load1M rfl pI rfl rfl (fun _ => hMl) (fun _ => hcells 2 (by simp)))) ?_ | refine yd_new rfl rfl rfl rfl rfl rfl ?_ | refine wd_conv rfl rfl rfl rfl rfl rfl rfl rfl rfl rfl ?_) | (refine gE ?_; first | refine wd_nil ?_ | refine wd_nil1 (wl_fresh (fun _ => ?_))) | (first | refine sk ?_ | (refine gL ?_; first | refine wl_v rfl rfl rfl (by first | (show OpV _ _ _ _ (Oper.mk _ (Op.indexAddr _ _ _) _ _ _ _) _ _; exact ov_indexAddr (i := i) (b := lb) (o := lo2) rfl rfl rfl pI pI rfl pZ (fun _ => rfl) pS) | (show OpV _ _ _ _ (Oper.mk _ (Op.load _ _) _ _ _ _) _ _; exact ov_load1M rfl pI rfl rfl (fun _ => hMl) (fun _ => hcells 0 (by simp))) | (show OpV _ _ _ _ (Oper.mk _ (Op.load _ _) _ _ _ _) _ _; exact ov_load1M rfl pI rfl rfl (fun _ => hMl) (fun _ => hcells 2 (by simp)))) ?_ | refine xl_alloc (fun _ => ?_) | refine xl_box rfl (fun _ => ?_) | refine xl_store rfl rfl ?_ | refine xl_buildSlice rfl (fun _ => ?_)) | fail))
              refine wl_append (H0 := [(b10, .cells [str user, .slice xa i xcap, .slice none 0 0, str []].toArray 25 (0, 0)), (b8, .cells [str nn, .slice p1 an.length r1, str nt, .slice (some ⟨kb, ko, none⟩) k.length r1'].toArray tNd (0, 0)), (b5, .cells [str [], .slice none 0 0, .slice none 0 0, str []].toArray 25 (0, 0)), (b2, .cells [str [], .slice none 0 0, .slice none 0 0, str []].toArray 25 (0, 0))]) rfl own rfl rfl rfl rfl rfl rfl rfl rfl rfl rfl (List.Mem.head _) rfl rfl (List.sublist_cons_self _ _) (by rw [hcl]; omega) rfl ?_
              intro v' Hs' ho'
              have ho2 : OwnS 50 2 v' Hs' (cellsP ((A.map attrOf).take (i + 1))) := by rw [hnx]; exact ho'
              obtain ⟨va', vcap', rfl⟩ := ho2.slice (k := i + 1) (by decide) (by rw [cellsP_length, List.length_take, List.length_map]; omega)
              repeat' (first | refine sk ?_ | (refine gL ?_; first | refine xl_alloc (fun _ => ?_) | refine xl_box rfl (fun _ => ?_) | refine xl_store rfl rfl ?_ | refine xl_buildSlice rfl (fun _ => ?_)) | fail)
              exact wn_cut ⟨i + 1, by omega, hst hg, _, Hs', ho2⟩ (by show A.length - (i + 1) < A.length - i; omega) pE (fun _ h => h)
          · refine wc_draw 29 (by kernel_rfl) rfl (by kernel_rfl) (fun _ _ h k => h.ext k) ?_
            repeat' (first | ((show WD _ _ (Oper.mk _ (Op.binOp BinOp.lss _ _ _ _) _ _ _ _ :: _) _ _ _ _ _ _; refine wd_v rfl rfl rfl rfl rfl rfl (opv_eq (ov_lss rfl rfl pI pI) (decide_eq_true (by omega))) ?_)) | (refine gD ?_; first | refine yd_v rfl rfl rfl rfl rfl rfl ?_ | refine wd_v rfl rfl rfl rfl rfl rfl (by first | (show OpV _ _ _ _ (Oper.mk _ (Op.indexAddr _ _ _) _ _ _ _) _ _; exact ov_indexAddr (i := i) (b := lb) (o := lo2) rfl rfl rfl pI pI rfl pZ (fun _ => rfl) pS) | (show OpV _ _ _ _ (Oper.mk _ (Op.load _ _) _ _ _ _) _ _; exact ov_load1M rfl pI rfl rfl (fun _ => hMl) (fun _ => hcells 0 (by simp))) | (exact ov_off (v := .bool false) rfl)) ?_ | refine yd_new rfl rfl rfl rfl rfl rfl ?_ | refine wd_conv rfl rfl rfl rfl rfl rfl rfl rfl rfl rfl ?_) | (refine gE ?_; first | refine wd_nil ?_ | refine wd_nil1 (wl_fresh (fun _ => ?_))) | (first | refine sk1 ?_ | (refine gL ?_; first | refine wl_v rfl rfl rfl (by first | (show OpV _ _ _ _ (Oper.mk _ (Op.indexAddr _ _ _) _ _ _ _) _ _; exact ov_indexAddr (i := i) (b := lb) (o := lo2) rfl rfl rfl pI pI rfl pZ (fun _ => rfl) pS) | (show OpV _ _ _ _ (Oper.mk _ (Op.load _ _) _ _ _ _) _ _; exact ov_load1M rfl pI rfl rfl (fun _ => hMl) (fun _ => hcells 0 (by simp))) | (exact ov_off (v := .bool false) rfl)) ?_ | refine xl_alloc (fun _ => ?_) | refine xl_box rfl (fun _ => ?_) | refine xl_store rfl rfl ?_ | refine xl_buildSlice rfl (fun _ => ?_)) | fail))
            refine wc_cond rfl (fun hc => ?_) (fun hc => by exfalso; simp at hc)
            rw [if_neg (by rw [hno (by rw [decide_eq_false h4]; rfl)]; simp)]
            repeat' (first | refine sk ?_ | (refine gL ?_; first | refine xl_alloc (fun _ => ?_) | refine xl_box rfl (fun _ => ?_) | refine xl_store rfl rfl ?_ | refine xl_buildSlice rfl (fun _ => ?_)) | fail)
            exact wr_layC3 (Hn := []) rfl rfl rfl rfl rfl rfl si2 (List.nil_sublist _) ⟨rfl, _, rfl, _, _, _, _, _, _, rfl, sl_nil, sl_nil⟩ pM
        obtain rfl : i = A.length := by omega
        repeat' (first | refine sk ?_ | (refine gL ?_; first | refine xl_alloc (fun _ => ?_) | refine xl_box rfl (fun _ => ?_) | refine xl_store rfl rfl ?_ | refine xl_buildSlice rfl (fun _ => ?_)) | fail)
        refine wc_cond rfl (fun hc => by exfalso; simp at hc) (fun hc => ?_)
        clear hc
        have hlm : (A.map attrOf).length = A.length := List.length_map _
        rw [show (A.map attrOf).take A.length = A.map attrOf from by rw [← hlm, List.take_length]] at own
        refine wc_publish (fun hn => ?_)
        have hSA : SlP (With M2 Hs) (.slice xa A.length xcap) (A.map attrOf) := own.slP (fun p hp => .inr hp) (by rw [hlm]; omega)
        have si3 := since_new si2 hn
        repeat' (first | refine sk ?_ | (refine gL ?_; first | refine xl_alloc (fun _ => ?_) | refine xl_box rfl (fun _ => ?_) | refine xl_store rfl rfl ?_ | refine xl_buildSlice rfl (fun _ => ?_)) | fail)
        exact wn_cut ⟨all_nd hall, With M2 Hs, xa, A.length, xcap, hSA, si3, fun _ _ h => .inl h⟩ trivial pE (fun _ h => h)
      · have hA : ¬ okA k 1 sAttrs := by
          rw [hoA]
          rintro ⟨h1, h2, h3, h4⟩
          exact no4 (by omega) h2 (by omega) (by omega) hc
        have hkA : kdA k = [] := by unfold kdA; rw [if_neg hA]
        have ha1 : at1 k = 1 := by unfold at1; rw [if_neg hA]
        rw [ha1, hkA]
        repeat' (first | refine sk ?_ | (refine gL ?_; first | refine xl_alloc (fun _ => ?_) | refine xl_box rfl (fun _ => ?_) | refine xl_store rfl rfl ?_ | refine xl_buildSlice rfl (fun _ => ?_)) | fail)
        exact wn_cut ⟨rfl, M2, none, 0, 0, sl_nil, si2, fun _ _ h => h⟩ trivial pE (fun _ h => h.drop (List.Sublist.cons_cons _ (List.Sublist.cons_cons _ (List.Sublist.cons_cons _ (List.Sublist.cons_cons _ (List.nil_sublist _))))))
    have hk4' := k4
    clear hci hoA k3 hc0
    rintro ⟨good1, M3, sa, sal, sac, hSA3, si3, sub3⟩
    dsimp only
    have ha1r : 1 ≤ at1 k ∧ at1 k ≤ 2 := by unfold at1; split <;> omega
    -- the ticket
    obtain ⟨cn, ca, cl, cc, ct, ca2, cl2, cc2, hci⟩ := kid_cells k4 (at1 k)
    have hlf := fun {w : World} (hw : Laid M3 w) (h : at1 k < k.length) => leaf_ok hw (NodeC.mono sub3 (hci h).1) sIou
    have hoI : okI k (at1 k) ↔ (at1 k < k.length ∧ ct ≠ [] ∧ decide (leafOk (kidN k (at1 k)) sIou) = true) := by
      unfold okI
      rw [decide_eq_true_iff]
      by_cases h : at1 k < k.length
      · rw [node_tx (hci h).1]
      · exact ⟨fun h' => absurd h'.1 h, fun h' => absurd h'.1 h⟩
    have hI2 : at2' k = if okI k (at1 k) then at1 k + 1 else at1 k := rfl
    have hIt : txI k = if okI k (at1 k) then txN (kidN k (at1 k)) else [] := rfl
    generalize decide (leafOk (kidN k (at1 k)) sIou) = lo2 at *
    generalize hat1 : at1 k = i1 at *
    repeat' (first | refine sk ?_ | (refine gL ?_; first | refine wl_v rfl rfl rfl (by first | (show OpV _ _ _ _ (Oper.mk _ (Op.indexAddr _ _ (.tmp _)) _ _ _ _) _ _; exact ov_indexAddr (i := i1) (b := kb) (o := ko) rfl rfl rfl pI pI rfl pZ (fun _ => rfl) (fun hcg => (by first | assumption | exact gA hcg | exact gB hcg | exact gC hcg | exact gA1 hcg | exact gB1 hcg | exact gC1 hcg))) | (show OpV _ _ _ _ (Oper.mk _ (Op.load 9 _) _ _ _ _) _ _; exact ov_load1M rfl pI rfl rfl (fun _ => sub3 _ _ hMk) (fun hcg => (hci (by first | assumption | exact gA hcg | exact gB hcg | exact gC hcg | exact gA1 hcg | exact gB1 hcg | exact gC1 hcg)).2 2 (by simp))) | (show OpV _ _ _ _ (Oper.mk _ (Op.load _ _) _ _ _ _) _ _; exact ov_loadSM (l := [str cn, .slice ca cl cc, str ct, .slice ca2 cl2 cc2]) rfl pI rfl pZ (fun _ => sub3 _ _ hMk) (fun hcg j hj => (hci (by first | assumption | exact gA hcg | exact gB hcg | exact gC hcg | exact gA1 hcg | exact gB1 hcg | exact gC1 hcg)).2 j hj)) | (exact oc 57 Tryz.call57 (h := fun hcg w hw => hlf hw.laid (by first | assumption | exact gA hcg | exact gB hcg | exact gC hcg | exact gA1 hcg | exact gB1 hcg | exact gC1 hcg)))) ?_ | refine xl_alloc (fun _ => ?_) | refine xl_box rfl (fun _ => ?_) | refine xl_store rfl rfl ?_ | refine xl_buildSlice rfl (fun _ => ?_)) | fail)
    refine wc_split (α := Unit) (fun _ => [(2, true, .pointer (some ⟨b2, 0, none⟩)), (5, true, .pointer (some ⟨b5, 0, none⟩)), (8, true, .pointer (some ⟨b8, 0, none⟩)), (10, true, .pointer (some ⟨b10, 0, none⟩)), (11, true, i64 (at2' k : Int))]) (fun _ => St w [] [(b10, .cells [str user, .slice sa sal sac, .slice none 0 0, str (txI k)].toArray 25 (0, 0)), (b8, .cells [str nn, .slice p1 an.length r1, str nt, .slice (some ⟨kb, ko, none⟩) k.length r1'].toArray tNd (0, 0)), (b5, .cells [str [], .slice none 0 0, .slice none 0 0, str []].toArray 25 (0, 0)), (b2, .cells [str [], .slice none 0 0, .slice none 0 0, str []].toArray 25 (0, 0))] M3) ?_ ?_
    · refine wc_cond rfl (fun hc => ?_) (fun hc => ?_)
      · have hI : okI k i1 := by
          rw [hoI]; simp at hc; exact ⟨by have := hc.1.1; omega, hc.1.2, hc.2⟩
        have hi1 := hI.1
        rw [hI2, hIt, if_pos hI, if_pos hI, node_tx (hci hi1).1]
        repeat' (first | refine sk ?_ | (refine gL ?_; first | refine wl_v rfl rfl rfl (by first | (show OpV _ _ _ _ (Oper.mk _ (Op.indexAddr _ _ (.tmp _)) _ _ _ _) _ _; exact ov_indexAddr (i := i1) (b := kb) (o := ko) rfl rfl rfl pI pI rfl pZ (fun _ => rfl) (fun hcg => (by first | assumption | exact gA hcg | exact gB hcg | exact gC hcg | exact gA1 hcg | exact gB1 hcg | exact gC1 hcg))) | (show OpV _ _ _ _ (Oper.mk _ (Op.load 9 _) _ _ _ _) _ _; exact ov_load1M rfl pI rfl rfl (fun _ => sub3 _ _ hMk) (fun hcg => (hci (by first | assumption | exact gA hcg | exact gB hcg | exact gC hcg | exact gA1 hcg | exact gB1 hcg | exact gC1 hcg)).2 2 (by simp)))) ?_ | refine xl_alloc (fun _ => ?_) | refine xl_box rfl (fun _ => ?_) | refine xl_store rfl rfl ?_ | refine xl_buildSlice rfl (fun _ => ?_)) | fail)
        exact wn_cut () trivial pE (fun _ h => h)
      · have hI : ¬ okI k i1 := by
          rw [hoI]
          rintro ⟨h1, h2, h3⟩
          rw [decide_eq_true (show (i1 : Int) < (k.length : Int) by omega), h3] at hc
          simp at hc
          exact h2 hc
        rw [hI2, hIt, if_neg hI, if_neg hI]
        repeat' (first | refine sk ?_ | (refine gL ?_; first | refine xl_alloc (fun _ => ?_) | refine xl_box rfl (fun _ => ?_) | refine xl_store rfl rfl ?_ | refine xl_buildSlice rfl (fun _ => ?_)) | fail)
        exact wn_cut () trivial pE (fun _ h => h)
    rintro ⟨⟩
    have ha2r : 1 ≤ at2' k ∧ at2' k ≤ 3 := by rw [hI2]; split <;> omega
    clear hci hoI hI2 hIt hlf
    -- the proxies
    obtain ⟨cn, ca, cl, cc, ct, ca2, cl2, cc2, hci⟩ := kid_cells k4 (at2' k)
    have hoP : okA k (at2' k) sProxies ↔ (at2' k < k.length ∧ cn = sProxies ∧ 0 < cl2 ∧ cl = 0) := okA_cells hci
    have hP2 : at3 k = if okA k (at2' k) sProxies then at2' k + 1 else at2' k := rfl
    have hPk : kdP k = if okA k (at2' k) sProxies then kdN (kidN k (at2' k)) else [] := rfl
    generalize hat2 : at2' k = i2 at *
    repeat' (first | refine sk ?_ | (refine gL ?_; first | refine wl_v rfl rfl rfl (by first | (show OpV _ _ _ _ (Oper.mk _ (Op.indexAddr _ _ (.tmp _)) _ _ _ _) _ _; exact ov_indexAddr (i := i2) (b := kb) (o := ko) rfl rfl rfl pI pI rfl pZ (fun _ => rfl) (fun hcg => (by first | assumption | exact gA hcg | exact gB hcg | exact gC hcg | exact gA1 hcg | exact gB1 hcg | exact gC1 hcg))) | (show OpV _ _ _ _ (Oper.mk _ (Op.load 9 _) _ _ _ _) _ _; exact ov_load1M rfl pI rfl rfl (fun _ => sub3 _ _ hMk) (fun hcg => (hci (by first | assumption | exact gA hcg | exact gB hcg | exact gC hcg | exact gA1 hcg | exact gB1 hcg | exact gC1 hcg)).2 0 (by simp))) | (show OpV _ _ _ _ (Oper.mk _ (Op.load 53 _) _ _ _ _) _ _; exact ov_load1M rfl pI rfl rfl (fun _ => sub3 _ _ hMk) (fun hcg => (hci (by first | assumption | exact gA hcg | exact gB hcg | exact gC hcg | exact gA1 hcg | exact gB1 hcg | exact gC1 hcg)).2 3 (by simp))) | (show OpV _ _ _ _ (Oper.mk _ (Op.load 22 _) _ _ _ _) _ _; exact ov_load1M rfl pI rfl rfl (fun _ => sub3 _ _ hMk) (fun hcg => (hci (by first | assumption | exact gA hcg | exact gB hcg | exact gC hcg | exact gA1 hcg | exact gB1 hcg | exact gC1 hcg)).2 1 (by simp)))) ?_ | refine xl_alloc (fun _ => ?_) | refine xl_box rfl (fun _ => ?_) | refine xl_store rfl rfl ?_ | refine xl_buildSlice rfl (fun _ => ?_)) | fail)
    refine wc_split (α := JS w M M3 ((kdP k).map txN) ((kdP k).all goodP)) (fun x => [(2, true, .pointer (some ⟨b2, 0, none⟩)), (5, true, .pointer (some ⟨b5, 0, none⟩)), (8, true, .pointer (some ⟨b8, 0, none⟩)), (10, true, .pointer (some ⟨b10, 0, none⟩)), (11, true, i64 (at3 k : Int))]) (fun x => St w [] [(b10, .cells [str user, .slice sa sal sac, .slice x.a x.l x.c, str (txI k)].toArray 25 (0, 0)), (b8, .cells [str nn, .slice p1 an.length r1, str nt, .slice (some ⟨kb, ko, none⟩) k.length r1'].toArray tNd (0, 0)), (b5, .cells [str [], .slice none 0 0, .slice none 0 0, str []].toArray 25 (0, 0)), (b2, .cells [str [], .slice none 0 0, .slice none 0 0, str []].toArray 25 (0, 0))] x.M') ?_ ?_
    · refine wc_cond rfl (fun hc => ?_) (fun hc => ?_)
      · have hA : okA k i2 sProxies := by
          rw [hoP]; simp at hc; exact ⟨by have := hc.1.1.1; omega, hc.1.1.2, hc.1.2, hc.2⟩
        rw [if_pos hA] at hP2 hPk
        have h1k := hA.1
        have hgood := fun h => ok_no2 (k := k) (show (kdP k).all goodP = false from h)
        rw [hP2]
        rw [hPk] at hgood ⊢
        have hsl := node_kd (hci h1k).1
        have hAl : (textL (kdN (kidN k i2))).length ≤ 90000 := by
          have h1 := textL_mem (kid_mem (k := k) (i := i2) h1k)
          have h2 := (textN_ge (kidN k i2)).2.2.1
          omega
        have hAn : (kdN (kidN k i2)).length ≤ 90000 := by
          have := textL_length (kdN (kidN k i2))
          omega
        have hAne : kdN (kidN k i2) ≠ [] := hA.2.2.1
        clear hA hoP hP2 hPk
        generalize kdN (kidN k i2) = A at *
        obtain ⟨la, lcap, lb, lo2, lcs, lT, lfz, e5, m1, m2, m3, m4⟩ := Sl.open hsl
        cases e5
        obtain ⟨rfl, hMl⟩ := m3 hAne
        clear hsl
        repeat' (first | refine sk ?_ | (refine gL ?_; first | refine wl_v rfl rfl rfl (by first | (show OpV _ _ _ _ (Oper.mk _ (Op.indexAddr _ _ (.tmp _)) _ _ _ _) _ _; exact ov_indexAddr (i := i2) (b := kb) (o := ko) rfl rfl rfl pI pI rfl pZ (fun _ => rfl) (fun hcg => (by first | assumption | exact gA hcg | exact gB hcg | exact gC hcg | exact gA1 hcg | exact gB1 hcg | exact gC1 hcg))) | (show OpV _ _ _ _ (Oper.mk _ (Op.load 9 _) _ _ _ _) _ _; exact ov_load1M rfl pI rfl rfl (fun _ => sub3 _ _ hMk) (fun hcg => (hci (by first | assumption | exact gA hcg | exact gB hcg | exact gC hcg | exact gA1 hcg | exact gB1 hcg | exact gC1 hcg)).2 0 (by simp))) | (show OpV _ _ _ _ (Oper.mk _ (Op.load 53 _) _ _ _ _) _ _; exact ov_load1M rfl pI rfl rfl (fun _ => sub3 _ _ hMk) (fun hcg => (hci (by first | assumption | exact gA hcg | exact gB hcg | exact gC hcg | exact gA1 hcg | exact gB1 hcg | exact gC1 hcg)).2 3 (by simp))) | (show OpV _ _ _ _ (Oper.mk _ (Op.load 22 _) _ _ _ _) _ _; exact ov_load1M rfl pI rfl rfl (fun _ => sub3 _ _ hMk) (fun hcg => (hci (by first | assumption | exact gA hcg | exact gB hcg | exact gC hcg | exact gA1 hcg | exact gB1 hcg | exact gC1 hcg)).2 1 (by simp)))) ?_ | refine xl_alloc (fun _ => ?_) | refine xl_box rfl (fun _ => ?_) | refine xl_store rfl rfl ?_ | refine xl_buildSlice rfl (fun _ => ?_)) | fail)
        refine wc_loop (α := TG A (A.map txN)) (fun x => [(2, true, .pointer (some ⟨b2, 0, none⟩)), (5, true, .pointer (some ⟨b5, 0, none⟩)), (8, true, .pointer (some ⟨b8, 0, none⟩)), (10, true, .pointer (some ⟨b10, 0, none⟩)), (11, true, i64 (i2 : Int)), (14, true, .slice (some ⟨lb, lo2, none⟩) A.length cc2), (15, true, i64 (x.i : Int))]) (fun x => St w [] (x.Hs ++ [(b10, .cells [str user, .slice sa sal sac, x.v, str (txI k)].toArray 25 (0, 0)), (b8, .cells [str nn, .slice p1 an.length r1, str nt, .slice (some ⟨kb, ko, none⟩) k.length r1'].toArray tNd (0, 0)), (b5, .cells [str [], .slice none 0 0, .slice none 0 0, str []].toArray 25 (0, 0)), (b2, .cells [str [], .slice none 0 0, .slice none 0 0, str []].toArray 25 (0, 0))]) M3) (fun x => A.length - x.i) ⟨0, Nat.zero_le _, fun j hj => by omega, .slice none 0 0, [], OwnS.nil⟩ pE (fun _ h => h) ?_
        rintro ⟨i, hi, hall, v, Hs, own⟩
        dsimp only
        have hlm : (A.map txN).length = A.length := List.length_map _
        have hcl : (cellsS ((A.map txN).take i)).length = i * 1 := by rw [cellsS_length, List.length_take, hlm]; omega
        obtain ⟨xa, xcap, rfl⟩ := own.slice (k := i) (by decide) hcl
        rcases Nat.lt_or_ge i A.length with hlt | hge
        · obtain ⟨us, hu4, hus, hcells⟩ := m4 i hlt
          obtain ⟨xn, xa1, xl1, xc1, xt, xa2, xl2, xc2, rfl⟩ := node_open hus
          have hxg : A.getD i nodeZ = A[i] := getD_nd hlt
          rw [← hxg] at hus
          have hlx := fun {w : World} (hw : Laid M3 w) => leaf_ok hw (NodeC.mono sub3 hus) sProxy
          have htx := node_tx hus
          have hno := fun h => hgood (no_nd (p := goodP) hlt h)
          have hst := fun h => step_nd (p := goodP) hall h
          have hnx : cellsS ((A.map txN).take (i + 1)) = cellsS ((A.map txN).take i) ++ [str xt] := cellsS_next (by rw [hlm]; exact hlt) (by simp only [List.getElem_map]; rw [← hxg, htx])
          unfold goodP at hno hst
          generalize decide (leafOk (A.getD i nodeZ) sProxy) = lx at *
          clear hus htx hxg
          repeat' (first | refine sk ?_ | (refine gL ?_; first | refine xl_alloc (fun _ => ?_) | refine xl_box rfl (fun _ => ?_) | refine xl_store rfl rfl ?_ | refine xl_buildSlice rfl (fun _ => ?_)) | fail)
          refine wc_cond rfl (fun hc => ?_) (fun hc => by exfalso; simp at hc; omega)
          clear hc
          repeat' (first | refine sk ?_ | (refine gL ?_; first | refine wl_v rfl rfl rfl (by first | (show OpV _ _ _ _ (Oper.mk _ (Op.indexAddr _ _ _) _ _ _ _) _ _; exact ov_indexAddr (i := i) (b := lb) (o := lo2) rfl rfl rfl pI pI rfl pZ (fun _ => rfl) pS) | (show OpV _ _ _ _ (Oper.mk _ (Op.load _ _) _ _ _ _) _ _; exact ov_loadSM (l := [str xn, .slice xa1 xl1 xc1, str xt, .slice xa2 xl2 xc2]) rfl pI rfl pZ (fun _ => sub3 _ _ hMl) (fun _ j hj => hcells j hj)) | (exact oc 57 Tryz.call57 (h := fun hcg w hw => hlx hw.laid))) ?_ | refine xl_alloc (fun _ => ?_) | refine xl_box rfl (fun _ => ?_) | refine xl_store rfl rfl ?_ | refine xl_buildSlice rfl (fun _ => ?_)) | fail)
          refine wc_cond rfl (fun hc => ?_) (fun hc => ?_)
          · have hlf0 : lx = false := by simpa using hc
            rw [if_neg (by rw [hno hlf0]; simp)]
            repeat' (first | refine sk ?_ | (refine gL ?_; first | refine xl_alloc (fun _ => ?_) | refine xl_box rfl (fun _ => ?_) | refine xl_store rfl rfl ?_ | refine xl_buildSlice rfl (fun _ => ?_)) | fail)
            exact wr_layC3 (Hn := []) rfl rfl rfl rfl rfl rfl si3 (List.nil_sublist _) ⟨rfl, _, rfl, _, _, _, _, _, _, rfl, sl_nil, sl_nil⟩ pM
          · have hlf1 : lx = true := by simpa using hc
            clear hno hc
            repeat' (first | refine sk ?_ | (refine gL ?_; first | refine xl_alloc (fun _ => ?_) | refine xl_box rfl (fun _ => ?_) | refine xl_store rfl rfl ?_ | refine xl_buildSlice rfl (fun _ => ?_)) | fail)
            refine wc_draw 8 (by kernel_rfl) rfl (by kernel_rfl) (fun _ _ h k => h.ext k) ?_
            repeat' (first | (refine gD ?_; first | refine yd_v rfl rfl rfl rfl rfl rfl ?_ | refine wd_v rfl rfl rfl rfl rfl rfl (by first | (show OpV _ _ _ _ (Oper.mk _ (Op.indexAddr _ _ _) _ _ _ _) _ _; exact ov_indexAddr (i := i) (b := lb) (o := lo2) rfl rfl rfl pI pI rfl pZ (fun _ => rfl) pS) | (show OpV _ _ _ _ (Oper.mk _ (Op.load _ _) _ _ _ _) _ _; exact ov_load1M rfl pI rfl rfl (fun _ => sub3 _ _ hMl) (fun _ => hcells 2 (by simp)))) ?_ | refine yd_new rfl rfl rfl rfl rfl rfl ?_ | refine wd_conv rfl rfl rfl rfl rfl rfl rfl rfl rfl rfl ?_) | (refine gE ?_; first | refine wd_nil ?_ | refine wd_nil1 (wl_fresh (fun _ => ?_))) | (first | refine sk ?_ | (refine gL ?_; first | refine wl_v rfl rfl rfl (by first | (show OpV _ _ _ _ (Oper.mk _ (Op.indexAddr _ _ _) _ _ _ _) _ _; exact ov_indexAddr (i := i) (b := lb) (o := lo2) rfl rfl rfl pI pI rfl pZ (fun _ => rfl) pS) | (show OpV _ _ _ _ (Oper.mk _ (Op.load _ _) _ _ _ _) _ _; exact ov_load1M rfl pI rfl rfl (fun _ => sub3 _ _ hMl) (fun _ => hcells 2 (by simp)))) ?_ | refine xl_alloc (fun _ => ?_) | refine xl_box rfl (fun _ => ?_) | refine xl_store rfl rfl ?_ | refine xl_buildSlice rfl (fun _ => ?_)) | fail))
            refine wl_append (H0 := [(b10, .cells [str user, .slice sa sal sac, .slice xa i xcap, str (txI k)].toArray 25 (0, 0)), (b8, .cells [str nn, .slice p1 an.length r1, str nt, .slice (some ⟨kb, ko, none⟩) k.length r1'].toArray tNd (0, 0)), (b5, .cells [str [], .slice none 0 0, .slice none 0 0, str []].toArray 25 (0, 0)), (b2, .cells [str [], .slice none 0 0, .slice none 0 0, str []].toArray 25 (0, 0))]) rfl own rfl rfl rfl rfl rfl rfl rfl rfl rfl rfl (List.Mem.head _) rfl rfl (List.sublist_cons_self _ _) (by rw [hcl]; omega) rfl ?_
            intro v' Hs' ho'
            have ho2 : OwnS 9 1 v' Hs' (cellsS ((A.map txN).take (i + 1))) := by rw [hnx]; exact ho'
            obtain ⟨va', vcap', rfl⟩ := ho2.slice (k := i + 1) (by decide) (by rw [cellsS_length, List.length_take, hlm]; omega)
            repeat' (first | refine sk ?_ | (refine gL ?_; first | refine xl_alloc (fun _ => ?_) | refine xl_box rfl (fun _ => ?_) | refine xl_store rfl rfl ?_ | refine xl_buildSlice rfl (fun _ => ?_)) | fail)
            exact wn_cut ⟨i + 1, by omega, hst hlf1, _, Hs', ho2⟩ (by show A.length - (i + 1) < A.length - i; omega) pE (fun _ h => h)
        obtain rfl : i = A.length := by omega
        repeat' (first | refine sk ?_ | (refine gL ?_; first | refine xl_alloc (fun _ => ?_) | refine xl_box rfl (fun _ => ?_) | refine xl_store rfl rfl ?_ | refine xl_buildSlice rfl (fun _ => ?_)) | fail)
        refine wc_cond rfl (fun hc => by exfalso; simp at hc) (fun hc => ?_)
        clear hc
        rw [show (A.map txN).take A.length = A.map txN from by rw [← hlm, List.take_length]] at own
        refine wc_publish (fun hn => ?_)
        have hSP : SlS (With M3 Hs) (.slice xa A.length xcap) (A.map txN) := own.slS (fun p hp => .inr hp) (by rw [hlm]; omega)
        have si4 := since_new si3 hn
        repeat' (first | refine sk ?_ | (refine gL ?_; first | refine xl_alloc (fun _ => ?_) | refine xl_box rfl (fun _ => ?_) | refine xl_store rfl rfl ?_ | refine xl_buildSlice rfl (fun _ => ?_)) | fail)
        exact wn_cut ⟨all_nd hall, With M3 Hs, xa, A.length, xcap, hSP, si4, fun _ _ h => .inl h⟩ trivial pE (fun _ h => h)
      · have hA : ¬ okA k i2 sProxies := by
          rw [hoP]
          rintro ⟨h1, h2, h3, h4⟩
          exact no4 (by omega) h2 (by omega) (by omega) hc
        rw [if_neg hA] at hP2 hPk
        rw [hP2, hPk]
        repeat' (first | refine sk ?_ | (refine gL ?_; first | refine xl_alloc (fun _ => ?_) | refine xl_box rfl (fun _ => ?_) | refine xl_store rfl rfl ?_ | refine xl_buildSlice rfl (fun _ => ?_)) | fail)
        exact wn_cut ⟨rfl, M3, none, 0, 0, sl_nil, si3, fun _ _ h => h⟩ trivial pE (fun _ h => h)
    rintro ⟨good2, M4, pa, pal, pac, hSP4, si4, sub4⟩
    dsimp only
    have hSA4 : SlP M4 (.slice sa sal sac) ((kdA k).map attrOf) := Sl.mono hSA3 sub4 (fun _ _ _ h => h)
    have hus : (parsed k).user = user := hut
    clear hci hoP hP2 hPk
    repeat' (first | refine sk ?_ | (refine gL ?_; first | refine xl_alloc (fun _ => ?_) | refine xl_box rfl (fun _ => ?_) | refine xl_store rfl rfl ?_ | refine xl_buildSlice rfl (fun _ => ?_)) | fail)
    refine wc_cond rfl (fun hc => ?_) (fun hc => ?_)
    · have h3 : at3 k ≠ k.length := by
        intro h; rw [h] at hc; simp at hc
      rw [if_neg (by rw [ok_no3 h3]; simp)]
      repeat' (first | refine sk ?_ | (refine gL ?_; first | refine xl_alloc (fun _ => ?_) | refine xl_box rfl (fun _ => ?_) | refine xl_store rfl rfl ?_ | refine xl_buildSlice rfl (fun _ => ?_)) | fail)
      exact wr_layC3 (Hn := []) rfl rfl rfl rfl rfl rfl si4 (List.nil_sublist _) ⟨rfl, _, rfl, _, _, _, _, _, _, rfl, sl_nil, sl_nil⟩ pM
    · have h3 : at3 k = k.length := by
        have : ((at3 k : Nat) : Int) = (k.length : Int) := by simpa using hc
        omega
      rw [if_pos (ok_yes good1 good2 h3)]
      repeat' (first | refine sk ?_ | (refine gL ?_; first | refine xl_alloc (fun _ => ?_) | refine xl_box rfl (fun _ => ?_) | refine xl_store rfl rfl ?_ | refine xl_buildSlice rfl (fun _ => ?_)) | fail)
      exact wr_layC3 (Hn := []) rfl rfl rfl rfl rfl rfl si4 (List.nil_sublist _) ⟨rfl, _, rfl, _, _, _, _, _, _, by rw [hus], Sl.mono hSA4 (fun _ _ => .inl) (fun _ _ _ h => h), Sl.mono hSP4 (fun _ _ => .inl) (fun _ _ _ h => h)⟩ pM
end Go.Proofs.YtgfbieplidpebaaGreatDoor
/-
  What is told is read as it was; how many marks there are.
-/
namespace Go.Cas
open Go.Pct Go.Xml Go.Proofs.YtgfbieplidpebaaGreatDoor
set_option linter.unusedVariables false
set_option linter.unusedSimpArgs false

theorem rsp_read {kind : List UInt8} {x : Nd} (h : rightN x = true) : readP (rsp kind x).body = some x := by
  unfold rsp wr
  simp only [h, if_true]
  exact readP_back h
theorem rsp_hdr (kind : List UInt8) (x : Nd) : hdrOk (rsp kind x) kind := ⟨rfl, rfl⟩
theorem rsp_same {kind : List UInt8} {x : Nd} (h : rightN x = true) : sameR (rsp kind x) (rsp kind x) = true := (same_iff _ _ _).2 ⟨rsp_hdr kind x, rsp_read h⟩
theorem rsp_rd {kind : List UInt8} {x : Nd} (h : rightN x = true) : rd (rsp kind x) = x := rd_of (rsp_read h)
theorem rsp_other {kind : List UInt8} {x y : Nd} (h : rightN x = true) (hne : x ≠ y) : ¬ sameR (rsp kind x) (rsp kind y) = true := by
  intro hs
  have := ((same_iff _ _ _).1 hs).2
  rw [rsp_read h] at this
  exact hne (by simpa using this)
theorem cas_inj {x y : Nd} (h : casN x = casN y) : x = y := by
  unfold casN at h
  simpa using h
theorem known_code {e : Int} (h : e ≠ 0) : ∃ i, knownE (codeE e) = some i := by
  have k1 : knownE cReq = some 32 := by decide +kernel
  have k2 : knownE cTkt = some 29 := by decide +kernel
  have k3 : knownE cSpec = some 31 := by decide +kernel
  have k4 : knownE cSvc = some 30 := by decide +kernel
  have k5 : knownE cUna = some 35 := by decide +kernel
  have k6 : knownE cCb = some 33 := by decide +kernel
  have k7 : knownE cInt = some 0 := by decide +kernel
  unfold codeE
  simp only [h, if_false]
  repeat' split
  all_goals first
    | exact ⟨_, k1⟩
    | exact ⟨_, k2⟩
    | exact ⟨_, k3⟩
    | exact ⟨_, k4⟩
    | exact ⟨_, k5⟩
    | exact ⟨_, k6⟩
    | exact ⟨_, k7⟩
theorem suc_fail (s : Suc) (at' : Bool) (n t c : List UInt8) (hn : n ≠ sSuc) : sucN s at' ≠ failN n t c := by
  intro h
  have := congrArg nmN h
  exact hn this.symm
theorem answer_back {s : Suc} (h : rightN (answerN s 0 true) = true) : readAnswerP (rsp sXml (answerN s 0 true)) = (s, [], true) := by
  unfold readAnswerP
  rw [if_neg]
  · rw [rsp_rd h]
    have e : sucOf (answerN s 0 true) = s := by rw [answer_suc, sucOf_back]
    rw [e, if_pos (rsp_same h)]
  · intro hc
    obtain ⟨v, i, _, _, hx⟩ := (failP_iff (fun e => answerN suc0 e true) (fun e h => answer_fail e h true suc0)).1 hc
    rw [rsp_read h, answer_suc] at hx
    exact suc_fail s true sAF sNotOk v (by decide) (cas_inj (by simpa using hx))
theorem answer_plain (s : Suc) : answerN s 0 false = answerN ⟨s.user, [], s.proxies, s.iou⟩ 0 true := by
  unfold answerN sucN sucK k1 k2 k3
  simp
theorem answer_fail_back {s : Suc} {e : Int} (he : e ≠ 0) {at' : Bool} (h : rightN (answerN s e at') = true) : readAnswerP (rsp sXml (answerN s e at')) = (suc0, codeE e, true) := by
  obtain ⟨i, hi⟩ := known_code he
  unfold readAnswerP
  rw [if_pos]
  · rw [rsp_rd h, answer_fail e he, failed_cas hi]
  · exact (failP_iff (fun e => answerN suc0 e true) (fun e h => answer_fail e h true suc0)).2 ⟨codeE e, i, hi, rsp_hdr _ _, by rw [rsp_read h, answer_fail e he]⟩
theorem proxy_back {pt : List UInt8} (h : rightN (proxyN pt 0) = true) : readProxyP (rsp sXml (proxyN pt 0)) = (pt, [], true) := by
  unfold readProxyP
  rw [if_neg]
  · rw [rsp_rd h]
    have e : txN (foundN (proxyN pt 0) [sPS, sPT]) = pt := by rw [proxy_suc, found_pt]
    rw [e, if_pos (rsp_same h)]
  · intro hc
    obtain ⟨v, i, _, _, hx⟩ := (failP_iff (fun e => proxyN [] e) (fun e h => proxy_fail e h [])).1 hc
    rw [rsp_read h, proxy_suc] at hx
    have := congrArg nmN (cas_inj (by simpa using hx))
    exact absurd this (by show ¬ sPS = sPF; decide)
theorem proxy_fail_back {pt : List UInt8} {e : Int} (he : e ≠ 0) (h : rightN (proxyN pt e) = true) : readProxyP (rsp sXml (proxyN pt e)) = ([], codeE e, true) := by
  obtain ⟨i, hi⟩ := known_code he
  unfold readProxyP
  rw [if_pos]
  · rw [rsp_rd h, proxy_fail e he, failed_cas hi]
  · exact (failP_iff (fun e => proxyN [] e) (fun e h => proxy_fail e h [])).2 ⟨codeE e, i, hi, rsp_hdr _ _, by rw [rsp_read h, proxy_fail e he]⟩
theorem proxy_of_answer {s : Suc} {at' : Bool} (h : rightN (answerN s 0 at') = true) : readProxyP (rsp sXml (answerN s 0 at')) = ([], [], false) := by
  unfold readProxyP
  rw [if_neg, if_neg]
  · refine rsp_other h fun hx => ?_
    rw [answer_suc, proxy_suc] at hx
    have := congrArg nmN (cas_inj hx)
    exact absurd this (by show ¬ sSuc = sPS; decide)
  · intro hc
    obtain ⟨v, i, _, _, hx⟩ := (failP_iff (fun e => proxyN [] e) (fun e h => proxy_fail e h [])).1 hc
    rw [rsp_read h, answer_suc] at hx
    exact suc_fail s at' sPF sNoPt v (by decide) (cas_inj (by simpa using hx))
theorem form_back {a b c : List UInt8} (h : rightN (formPN a b c) = true) : readFormP (rsp sHtmlT (formPN a b c)) = (a, b, c, true) := by
  unfold readFormP
  rw [rsp_rd h, form_found, form_p, (at2_form a b).1, (at2_form a b).2, if_pos ⟨formOk_form a b, rsp_same h⟩]
theorem page_back {a b : List UInt8} (h : rightN (pageN a b) = true) : readPageP (rsp sHtmlT (pageN a b)) = (a, b, true) := by
  unfold readPageP
  rw [rsp_rd h, page_p]
  exact if_pos ⟨rfl, rsp_same h⟩
theorem form_of_page {a b : List UInt8} (h : rightN (pageN a b) = true) : readFormP (rsp sHtmlT (pageN a b)) = ([], [], [], false) := by
  have e : foundN (pageN a b) [sBody, sForm] = nodeZ := by
    have d : ¬ nmN (Nd.mk sP [(sClass, a)] b []) = sForm := by show ¬ sP = sForm; decide
    unfold pageN
    rw [found_html]
    simp [d]
  unfold readFormP
  rw [rsp_rd h, e, if_neg]
  rintro ⟨⟨h1, _⟩, _⟩
  exact absurd h1 (by decide)
theorem page_of_form {a b c : List UInt8} (h : rightN (formPN a b c) = true) : readPageP (rsp sHtmlT (formPN a b c)) = ([], [], false) := by
  have e : (atN (foundN (formPN a b c) [sBody, sP])).length = 0 := by
    have d1 : ¬ nmN (formN a b) = sP := by show ¬ sForm = sP; decide
    have n2 : nmN (leafN sP c) = sP := rfl
    rw [form_eq, found_html]
    unfold formK
    by_cases h : c = []
    · simp [h, d1]; rfl
    · simp [h, n2]; rfl
  unfold readPageP
  rw [rsp_rd h, if_neg]
  rintro ⟨h1, _⟩
  omega

/-! ### marks -/
def mkB (c : UInt8) : Bool := decide (c = 60) || decide (c = 62)
def cntM (s : List UInt8) : Nat := s.countP mkB
theorem cntM_app (s t : List UInt8) : cntM (s ++ t) = cntM s + cntM t := List.countP_append
theorem cntM_esc (s : List UInt8) : cntM (esc s) = 0 := by
  unfold cntM
  rw [List.countP_eq_zero]
  intro c hc
  have := esc_bad c hc
  revert this
  unfold badC mkB
  simp only [Bool.or_eq_false_iff, beq_eq_false_iff_ne, Bool.or_eq_true, decide_eq_true_eq, not_or]
  rintro ⟨⟨⟨h1, h2⟩, _⟩, _⟩
  exact ⟨h1, h2⟩
theorem cntM_text (n : List UInt8) (a : List Pr) (t : List UInt8) (k : List Nd) : cntM (textN (.mk n a t k)) = 4 + 2 * cntM n + cntM (attrT a) + cntM (textL k) := by
  have e1 : cntM [60] = 1 := rfl
  have e2 : cntM [62] = 1 := rfl
  have e3 : cntM [60, 47] = 1 := rfl
  simp only [textN, cntM_app, cntM_esc, e1, e2, e3]
  omega
theorem cntM_attr (n v : List UInt8) : cntM (attrT [(n, v)]) = cntM n := by
  have e1 : cntM [32] = 0 := rfl
  have e2 : cntM [61, 34] = 0 := rfl
  have e3 : cntM [34] = 0 := rfl
  simp only [attrT, List.flatMap_cons, List.flatMap_nil, List.append_nil, cntM_app, cntM_esc, e1, e2, e3]
  omega
theorem cntM_one (x : Nd) : cntM (textL [x]) = cntM (textN x) := by
  simp only [textL, List.append_nil]
theorem cntM_page (a b : List UInt8) : cntM (textN (pageN a b)) = 12 := by
  have h1 : cntM sHtml = 0 := by decide
  have h2 : cntM sBody = 0 := by decide
  have h3 : cntM sP = 0 := by decide
  have h4 : cntM sClass = 0 := by decide
  have e : cntM (attrT []) = 0 := rfl
  have e2 : cntM (textL []) = 0 := rfl
  unfold pageN htmlN wrapN
  rw [cntM_text, cntM_one, cntM_text, cntM_one, cntM_text, cntM_attr, h1, h2, h3, h4, e, e2]
theorem cntM_user (u : List UInt8) : cntM (textN (answerN ⟨u, [], [], []⟩ 0 true)) = 12 := by
  have h1 : cntM sResp = 0 := by decide
  have h2 : cntM sSuc = 0 := by decide
  have h3 : cntM sUser = 0 := by decide
  have h4 : cntM sNs = 0 := by decide
  have e : cntM (attrT []) = 0 := rfl
  have e2 : cntM (textL []) = 0 := rfl
  have ek : sucK ⟨u, [], [], []⟩ true = [leafN sUser u] := by simp [sucK, k1, k2, k3]
  rw [answer_suc]
  unfold sucN wrapN casN
  rw [ek]
  unfold leafN
  rw [cntM_text, cntM_one, cntM_text, cntM_one, cntM_text, cntM_attr, h1, h2, h3, h4, e, e2]
theorem wr_right {x : Nd} (h : rightN x = true) : wr x = textN x := by unfold wr; rw [if_pos h]
theorem user_sh {u : List UInt8} (h : shwB u = true) : rightN (answerN ⟨u, [], [], []⟩ 0 true) = true :=
  right_answer ⟨h, (show shwB [] = true by decide), (fun p hp => by cases hp), (fun p hp => by cases hp)⟩ (by simp) (by simp) 0 true
/-- cas:user of a success -/
theorem user_found (u : List UInt8) : foundN (answerN ⟨u, [], [], []⟩ 0 true) [sSuc, sUser] = leafN sUser u := by
  have ek : sucK ⟨u, [], [], []⟩ true = [leafN sUser u] := by simp [sucK, k1, k2, k3]
  unfold foundN
  rw [answer_suc]
  unfold casN
  rw [find_one, if_pos (show nmN (sucN ⟨u, [], [], []⟩ true) = sSuc from rfl)]
  unfold sucN wrapN
  rw [ek, find_one, if_pos (show nmN (leafN sUser u) = sUser from rfl)]
  rfl
theorem user_isSome (u : List UInt8) : (findN (answerN ⟨u, [], [], []⟩ 0 true) [sSuc, sUser]).isSome = true := by
  have ek : sucK ⟨u, [], [], []⟩ true = [leafN sUser u] := by simp [sucK, k1, k2, k3]
  rw [answer_suc]
  unfold casN
  rw [find_one, if_pos (show nmN (sucN ⟨u, [], [], []⟩ true) = sSuc from rfl)]
  unfold sucN wrapN
  rw [ek, find_one, if_pos (show nmN (leafN sUser u) = sUser from rfl)]
  rfl
theorem page_isSome (a b : List UInt8) : (findN (pageN a b) [sBody, sP]).isSome = true := by
  unfold pageN htmlN wrapN
  rw [find_one, if_pos (show nmN (Nd.mk sBody [] [] [Nd.mk sP [(sClass, a)] b []]) = sBody from rfl), find_one, if_pos (show nmN (Nd.mk sP [(sClass, a)] b []) = sP from rfl)]
  rfl
end Go.Cas
/-
  The walk of RenderReads.
-/
namespace Go.Proofs.YtgfbieplidpebaaGreatDoor
open Go.Eng Go.Pct Go.Xml Go.Cas
set_option maxRecDepth 10000
set_option linter.unusedSimpArgs false
set_option linter.unusedVariables false

variable {M : Ghost} {w0 w : World} {bs : List Nat} {H : List (Nat × Obj)}
def exS : Suc := ⟨[117], [], [], []⟩
def exX : Nd := answerN exS 0 true
/-- the example's text -/
def exT : List UInt8 := [60, 99, 97, 115, 58, 115, 101, 114, 118, 105, 99, 101, 82, 101, 115, 112, 111, 110, 115, 101, 32, 120, 109, 108, 110, 115, 58, 99, 97, 115, 61, 34, 104, 116, 116, 112, 58, 47, 47, 119, 119, 119, 46, 121, 97, 108, 101, 46, 101, 100, 117, 47, 116, 112, 47, 99, 97, 115, 34, 62, 60, 99, 97, 115, 58, 97, 117, 116, 104, 101, 110, 116, 105, 99, 97, 116, 105, 111, 110, 83, 117, 99, 99, 101, 115, 115, 62, 60, 99, 97, 115, 58, 117, 115, 101, 114, 62, 117, 60, 47, 99, 97, 115, 58, 117, 115, 101, 114, 62, 60, 47, 99, 97, 115, 58, 97, 117, 116, 104, 101, 110, 116, 105, 99, 97, 116, 105, 111, 110, 83, 117, 99, 99, 101, 115, 115, 62, 60, 47, 99, 97, 115, 58, 115, 101, 114, 118, 105, 99, 101, 82, 101, 115, 112, 111, 110, 115, 101, 62]
theorem exS_sm : SmS exS 100000 100000 := ⟨by decide, by decide, by decide, by decide, (fun p hp => by cases hp), (fun p hp => by cases hp)⟩
theorem exX_right : rightN exX = true := user_sh (by decide +kernel)
theorem exX_text : wr exX = exT := by rw [wr_right exX_right]; decide +kernel
theorem exX_back : readAnswerP (rsp sXml exX) = (exS, [], true) := answer_back exX_right
theorem awake_ok (hG : Glob M) (hM : Laid M w) : Calls Tryz.prog 6 #[] w (RetE w (.bool true)) := by
  have hA := fun {w : World} {M : Ghost} (hG : Glob M) (hM : Laid M w) => Answer_ok hG hM exS 0 sl_nil sl_nil exS_sm true
  rw [show answerN exS 0 true = exX from rfl] at hA
  have hR := fun {w : World} {M : Ghost} {st : Int} {a l c bd} (hG : Glob M) (hM : Laid M w) (h : RsC M (rsp sXml exX) st a l c bd) (hb : bd.length ≤ 90000) => ReadAnswer_ok hG hM h hb
  rw [exX_back] at hR
  rw [exX_text] at hA
  have hb : (rsp sXml exX).body = exT := exX_text
  have hbl : exT.length ≤ 90000 := by decide
  generalize hx : rsp sXml exX = r at *
  have hst : r.status = 200 := by rw [← hx]; rfl
  have hhd : r.headers = [(sCT, sXml)] := by rw [← hx]; rfl
  clear hx
  unfold exS at hA hR
  unfold exT at hA hb hbl
  refine fn0 hM Tryz.func6 ?_
  repeat' (first | refine sk ?_ | (refine gL ?_; first | refine xl_alloc (fun _ => ?_) | refine xl_store rfl rfl ?_) | fail)
  refine wl_callS rfl Tryz.call9 rfl rfl rfl rfl (fun w hw => hA hG hw.laid) ?_
  rintro _ H1 M1 hm1 hn1 ⟨rfl, a1, l1, c1, rfl, hS1⟩
  repeat' (first | refine sk ?_ | (refine gL ?_; first | refine xl_alloc (fun _ => ?_) | refine xl_store rfl rfl ?_) | fail)
  refine wl_callS rfl Tryz.call22 rfl rfl rfl rfl (fun w hw => hR (hG.mono hm1) hw.laid ⟨hst, hb, by rw [hhd]; exact hS1⟩ hbl) ?_
  rintro _ H2 M2 hm2 hn2 ⟨rfl, _, rfl, a2, l2, c2, a3, l3, c3, rfl, hS2, hS3⟩
  repeat' (first | refine sk ?_ | (refine gL ?_; first | refine xl_alloc (fun _ => ?_) | refine xl_store rfl rfl ?_) | fail)
  exact wr_weak (fun _ h => h.drop (List.nil_sublist _)) (wr_tmp rfl rfl rfl)
set_option maxHeartbeats 1000000 in
theorem reads_ok (hG : Glob M) (hM : Laid M w) (st : Int) {a : Option Addr} {l c : Nat} {hs : List Go.Pct.Pr} (hh : SlP M (.slice a l c) hs) (bd : List UInt8) : Calls Tryz.prog 5 #[.agg [i64 st, .slice a l c, str bd].toArray] w (RetE w (.bool true)) := by
  have hf := fun {w : World} (hw : Laid M w) => few_ok hw hh
  generalize fewB hs = fb at *
  refine fn1 hM Tryz.func5 ?_
  repeat' (first | refine sk ?_ | (refine gL ?_; first | refine wl_v rfl rfl rfl (by first | (exact oc 6 Tryz.call6 (h := fun hcg w hw => awake_ok hG hw.laid)) | (exact oc 21 Tryz.call21 (h := fun hcg w hw => hf hw.laid))) ?_ | refine xl_alloc (fun _ => ?_) | refine xl_box rfl (fun _ => ?_) | refine xl_store rfl rfl ?_) | fail)
  refine wc_cond rfl (fun hc => ?_) (fun hc => ?_)
  · repeat' (first | refine sk ?_ | (refine gL ?_; first | refine xl_alloc (fun _ => ?_) | refine xl_box rfl (fun _ => ?_) | refine xl_store rfl rfl ?_) | fail)
    exact wr_weak (fun _ h => h.drop (List.nil_sublist _)) (wr_tmp rfl rfl rfl)
  have hbd : bd.length ≤ 1500 := by
    simp at hc
    omega
  clear hc hf
  repeat' (first | refine sk ?_ | (refine gL ?_; first | refine xl_alloc (fun _ => ?_) | refine xl_box rfl (fun _ => ?_) | refine xl_store rfl rfl ?_) | fail)
  refine wl_callS rfl Tryz.call22 rfl rfl rfl rfl (fun w hw => ReadAnswer_ok (r := ⟨st, hs, bd⟩) hG hw.laid ⟨rfl, rfl, hh⟩ (by omega)) ?_
  rintro _ H1 M1 hm1 hn1 ⟨rfl, sv, rfl, hsv⟩
  have hh1 : SlP M1 (.slice a l c) hs := Sl.mono hh hm1 (fun _ _ _ h => h)
  have hG1 := hG.mono hm1
  obtain ⟨b1, m1, d1, b2, m2, d2, rfl, k1, k2⟩ := hsv
  repeat' (first | refine sk ?_ | (refine gL ?_; first | refine xl_alloc (fun _ => ?_) | refine xl_box rfl (fun _ => ?_) | refine xl_store rfl rfl ?_) | fail)
  refine wl_callS rfl Tryz.call23 rfl rfl rfl rfl (fun w hw => rReadAnswer_ok (r := ⟨st, hs, bd⟩) hw.laid ⟨rfl, rfl, hh1⟩ (by omega)) ?_
  rintro _ H2 M2 hm2 hn2 ⟨rfl, sv2, rfl, hsv2⟩
  rw [rreadAnswer_eq] at hsv2 ⊢
  have hh2 : SlP M2 (.slice a l c) hs := Sl.mono hh1 hm2 (fun _ _ _ h => h)
  have hG2 := hG1.mono hm2
  obtain ⟨b3, m3, d3, b4, m4, d4, rfl, j1, j2⟩ := hsv2
  have hsa := fun {w : World} (hw : Laid M2 w) => rsames_ok hw (s := (readAnswerP ⟨st, hs, bd⟩).1) (t := (readAnswerP ⟨st, hs, bd⟩).1) ⟨_, _, _, _, _, _, rfl, Sl.mono k1 hm2 (fun _ _ _ h => h), Sl.mono k2 hm2 (fun _ _ _ h => h)⟩ ⟨_, _, _, _, _, _, rfl, j1, j2⟩
  rw [sameSu_self] at hsa
  have p1 := fun {w : World} (hw : Laid M2 w) => ReadProxy_ok (r := ⟨st, hs, bd⟩) hG2 hw ⟨rfl, rfl, hh2⟩ (Nat.le_trans hbd (by decide))
  have p2 := fun {w : World} (hw : Laid M2 w) => rReadProxy_ok (r := ⟨st, hs, bd⟩) hw ⟨rfl, rfl, hh2⟩ (Nat.le_trans hbd (by decide))
  have f1 := fun {w : World} (hw : Laid M2 w) => ReadForm_ok (r := ⟨st, hs, bd⟩) hG2 hw ⟨rfl, rfl, hh2⟩ (Nat.le_trans hbd (by decide))
  have f2 := fun {w : World} (hw : Laid M2 w) => rReadForm_ok (r := ⟨st, hs, bd⟩) hw ⟨rfl, rfl, hh2⟩ (Nat.le_trans hbd (by decide))
  have q1 := fun {w : World} (hw : Laid M2 w) => ReadPage_ok (r := ⟨st, hs, bd⟩) hG2 hw ⟨rfl, rfl, hh2⟩ (Nat.le_trans hbd (by decide))
  have q2 := fun {w : World} (hw : Laid M2 w) => rReadPage_ok (r := ⟨st, hs, bd⟩) hw ⟨rfl, rfl, hh2⟩ (Nat.le_trans hbd (by decide))
  rw [rreadProxy_eq] at p2
  rw [rreadForm_eq] at f2
  rw [rreadPage_eq] at q2
  clear k1 k2 j1 j2 hm1 hn1 hm2 hn2 hh hh1 hG hG1
  generalize readAnswerP ⟨st, hs, bd⟩ = xa at *
  generalize readProxyP ⟨st, hs, bd⟩ = xp at *
  generalize readFormP ⟨st, hs, bd⟩ = xf at *
  generalize readPageP ⟨st, hs, bd⟩ = xg at *
  obtain ⟨xs, xc, xb⟩ := xa
  obtain ⟨ya, yc, yb⟩ := xp
  obtain ⟨za, zb, zc, zd⟩ := xf
  obtain ⟨ga, gb, gc⟩ := xg
  dsimp only at *
  repeat' (first | refine sk ?_ | (refine gL ?_; first | refine wl_v rfl rfl rfl (by first | (exact oc 24 Tryz.call24 (h := fun hcg w hw => p1 hw.laid)) | (exact oc 25 Tryz.call25 (h := fun hcg w hw => p2 hw.laid)) | (exact oc 26 Tryz.call26 (h := fun hcg w hw => f1 hw.laid)) | (exact oc 27 Tryz.call27 (h := fun hcg w hw => f2 hw.laid)) | (exact oc 28 Tryz.call28 (h := fun hcg w hw => q1 hw.laid)) | (exact oc 29 Tryz.call29 (h := fun hcg w hw => q2 hw.laid)) | (exact oc 30 Tryz.call30 (h := fun hcg w hw => hsa hw.laid))) ?_ | refine xl_alloc (fun _ => ?_) | refine xl_box rfl (fun _ => ?_) | refine xl_store rfl rfl ?_) | fail)
  exact wr_weak (fun _ h => h.drop (List.nil_sublist _)) (wr_tmp rfl rfl rfl)
theorem reads_okV (hG : Glob M) (hM : Laid M w) (st : Int) {v : Value} {hs : List Go.Pct.Pr} (hh : SlP M v hs) (bd : List UInt8) : Calls Tryz.prog 5 #[.agg [i64 st, v, str bd].toArray] w (RetE w (.bool true)) := by
  obtain ⟨a, cap, b, o, cs, T, fz, rfl, _⟩ := SlP.open hh
  exact reads_ok hG hM st hh bd
end Go.Proofs.YtgfbieplidpebaaGreatDoor
/-
  Arguments opened: what the reading of an argument says of memory, with the sizes that a row allows. Nothing of the program stands here.
-/
namespace Go.Eng
open Go.RowKit Go.ChangeShapes Go.WideShapes

/-- all that stands in a world -/
def All (W : World) : Ghost := fun b o => W.heap[b]? = some o
theorem all_laid (W : World) : Laid (All W) W := fun _ _ h => h
theorem cell_inv {W : World} {g i : Nat} {v : Value} (h : W.cell? ⟨g, i, none⟩ = some v) : ∃ cs T fz, W.heap[g]? = some (.cells cs T fz) ∧ cs[i]? = some v := by
  unfold World.cell? at h
  split at h
  · rename_i cs T fz e; exact ⟨cs, T, fz, e, by simpa using h⟩
  · cases h
/-- a datum's sizes -/
def Wt {H : Type} (P : Program) (t : TypeId) (d : DataW H) : Prop := ∀ n ∈ d.weights P t, n ≤ reachBytes
/-- how the cells of a type open -/
structure Opens (P : Program) (w : World) (t : TypeId) {α : Type} (R : α → List Value → Prop) : Prop where
  go : ∀ {H : Type} (enc : TypeId × Value → H) (fuel : Nat) (cs : List Value) (d : DataW H) (ps : List MemPlace), DataW.trod enc P w 0 (fun _ => true) true fuel t cs = some (d, ps) → Wt P t d → ∃ x, R x cs
section
variable {P : Program} {w : World} {t : TypeId}
theorem str_of (s : ByteArray) : Value.string s = str s.data.toList := by cases s; simp
theorem opens_str (ht : P.underlying t = some .string) : Opens P w t (fun s vs => vs = [str s] ∧ s.length ≤ reachBytes) := ⟨fun enc fuel cs d ps h hw => by
  obtain ⟨s, e1, e2, _⟩ := DataW.trod_string ht h
  simp only [Prod.mk.injEq] at e2
  refine ⟨s.data.toList, by rw [e1, str_of], ?_⟩
  exact hw _ (by rw [e2.1]; simp [DataW.weights])⟩
theorem opens_bool (ht : P.underlying t = some .bool) : Opens P w t (fun b vs => vs = [.bool b]) := ⟨fun enc fuel cs d ps h hw => by
  cases fuel with
  | zero => simp [DataW.trod] at h
  | succ n =>
    unfold DataW.trod at h
    rw [ht] at h
    split at h <;> simp_all⟩
theorem opens_int {k : IntKind} (ht : P.underlying t = some (.int k)) : Opens P w t (fun z vs => vs = [.int k z] ∧ k.min ≤ z ∧ z ≤ k.max) := ⟨fun enc fuel cs d ps h hw => by
  obtain ⟨z, e1, _, hwf⟩ := DataW.trod_int ht h
  refine ⟨z, e1, ?_⟩
  simpa [Lit.wf] using hwf⟩
theorem wt_all {H : Type} {e : TypeId} {d : DataW H} : ∀ {ds : List (DataW H)}, d ∈ ds → ∀ n ∈ d.weights P e, n ∈ DataW.weightsAll P e ds
  | x :: ds, hd, n, hn => by
    simp only [DataW.weightsAll, List.mem_append]
    rcases List.mem_cons.1 hd with rfl | hd
    · exact .inl hn
    · exact .inr (wt_all hd n hn)
theorem opens_slice {e : TypeId} {m : Nat} {α : Type} {R : α → List Value → Prop} (ht : P.underlying t = some (.slice e)) (hc : P.cellsOf e = m) (hm : 0 < m) (he : Opens P w e R) :
    Opens P w t (fun (l : List α) vs => ∃ v, vs = [v] ∧ Sl (All w) m R v l ∧ l.length * P.bytesOf e ≤ reachBytes) := ⟨fun enc fuel cs d ps h hw => by
  rcases Go.Deep.open_slice ht h with ⟨rfl, _⟩ | ⟨a, len, cap, q, n, D, Pl, rfl, _, hl, hcm, hq, hx, hel⟩
  · exact ⟨[], _, rfl, sl_nil, by simp⟩
  · simp only [if_true] at hq
    subst hq
    simp only [Prod.mk.injEq] at hx
    have hwt : ∀ i, i < len → Wt P e (D i) := by
      intro i hi k hk
      refine hw k ?_
      rw [hx.1]
      simp only [DataW.weights, ht, List.mem_cons, List.mem_append]
      exact .inr (.inl (wt_all (List.mem_map.2 ⟨i, by simpa using hi, rfl⟩) k hk))
    have hbytes : len * P.bytesOf e ≤ reachBytes := by
      refine Nat.le_trans (Nat.mul_le_mul_right _ (Nat.le_add_right len (q - len))) (hw ((len + (q - len)) * P.bytesOf e) ?_)
      rw [hx.1]
      simp [DataW.weights, ht]
    have each : ∀ i, i < len → ∃ y : α, ∃ cs' : List Value, cs'.length = m ∧ R y cs' ∧ ∀ j, j < m → w.cell? (a.add (i * m + j)) = cs'[j]? := by
      intro i hi
      obtain ⟨cs', h1, h2⟩ := hel i (by omega)
      rw [hc] at h1
      obtain ⟨_, hlen, hcell⟩ := World.cells?_some h1
      obtain ⟨y, hy⟩ := he.go enc n cs' (D i) (Pl i) h2 (hwt i hi)
      exact ⟨y, cs', hlen, hy, fun j hj => by rw [← hcell j hj, Go.Deep.add_add]⟩
    have hmax : len ≤ 9223372036854775807 := by unfold maxLen at hcm; omega
    by_cases h0 : len = 0
    · subst h0
      exact ⟨[], _, rfl, ⟨some a, q, rfl, Nat.zero_le _, by simp, fun h => absurd rfl h⟩, by simp⟩
    · obtain ⟨y0, cs0, hl0, _, hc0⟩ := each 0 (by omega)
      have hc00 := hc0 0 hm
      have hsome : ∃ v, cs0[0]? = some v := ⟨cs0[0]'(by omega), by simp [show 0 < cs0.length by omega]⟩
      obtain ⟨v0, hv0⟩ := hsome
      rw [hv0] at hc00
      simp only [Nat.zero_mul, Nat.add_zero, Addr.add, if_true] at hc00
      obtain ⟨b, o, spot⟩ := a
      cases spot with
      | some x =>
        simp only [World.cell?] at hc00
        split at hc00
        · simp at hc00
        · cases hc00
      | none =>
        obtain ⟨cells, T, fz, hh, _⟩ := cell_inv hc00
        have : ∀ n, n ≤ len → ∃ l : List α, l.length = n ∧ ∀ i (hi : i < l.length), ∃ vs, vs.length = m ∧ R l[i] vs ∧ ∀ j, j < m → cells[o + i * m + j]? = vs[j]? := by
          intro n
          induction n with
          | zero => intro _; exact ⟨[], rfl, fun i hi => absurd hi (by simp)⟩
          | succ n ih =>
            intro hn
            obtain ⟨l, hl', hall⟩ := ih (by omega)
            obtain ⟨y, cs', h1, h2, h3⟩ := each n (by omega)
            refine ⟨l ++ [y], by simp [hl'], fun i hi => ?_⟩
            by_cases hin : i < l.length
            · obtain ⟨vs, g1, g2, g3⟩ := hall i hin
              exact ⟨vs, g1, by rw [List.getElem_append_left hin]; exact g2, g3⟩
            · have : i = n := by simp at hi; omega
              subst this
              refine ⟨cs', h1, ?_, fun j hj => ?_⟩
              · rw [List.getElem_append_right (by omega)]; simpa using h2
              · rw [← h3 j hj]
                have hadd : ∀ k, (⟨b, o, none⟩ : Addr).add k = ⟨b, o + k, none⟩ := by
                  intro k; unfold Addr.add; split
                  · simp_all
                  · rfl
                rw [hadd, cell_of hh, Nat.add_assoc]
        obtain ⟨l, hl', hall⟩ := this len (Nat.le_refl _)
        subst hl'
        exact ⟨l, _, rfl, ⟨some ⟨b, o, none⟩, q, rfl, hl, hmax, fun _ => ⟨b, o, cells, T, fz, rfl, hh, hall⟩⟩, hbytes⟩⟩
theorem wt_each {H : Type} : ∀ {ts : List TypeId} {ds : List (DataW H)} {j : Nat} {t : TypeId} {d : DataW H}, ts[j]? = some t → ds[j]? = some d → (∀ n ∈ DataW.weightsEach P ts ds, n ≤ reachBytes) → Wt P t d :=
  fun ht hd h n hn => h n (DataW.weights_mem_each ht hd n hn)
/-- a struct whose fields are of one cell each -/
theorem open_fields {fs : Array Field} (ht : P.underlying t = some (.struct fs)) (hone : (fs.toList.zipIdx.all fun x => Nat.beq x.1.offset x.2 && Nat.beq (P.cellsOf x.1.type) 1) = true) (hct : P.cellsOf t = fs.size)
    {H : Type} (enc : TypeId × Value → H) (fuel : Nat) (cs : List Value) (d : DataW H) (ps : List MemPlace) (h : DataW.trod enc P w 0 (fun _ => true) true fuel t cs = some (d, ps)) (hw : Wt P t d) :
    cs.length = fs.size ∧ ∀ (i : Nat) (f : Field), fs[i]? = some f → ∃ v, cs[i]? = some v ∧ ∀ {α : Type} {R : α → List Value → Prop}, Opens P w f.type R → ∃ x, R x [v] := by
  obtain ⟨xs, n, rfl, e, hl, hxl, hf⟩ := DataW.trod_struct ht h
  simp only [Prod.mk.injEq] at e
  rw [hct] at hl
  refine ⟨hl, fun i f hfi => ?_⟩
  have hi : i < fs.size := by
    rcases Nat.lt_or_ge i fs.size with h' | h'
    · exact h'
    · simp [Array.getElem?_eq_none h'] at hfi
  have h1 := List.all_eq_true.1 hone (f, i) (by
    rw [List.mem_zipIdx_iff_getElem?]
    simpa using hfi)
  simp only [Bool.and_eq_true] at h1
  have ho : f.offset = i := Nat.eq_of_beq_eq_true h1.1
  have hc1 : P.cellsOf f.type = 1 := Nat.eq_of_beq_eq_true h1.2
  have hg := hf i f hfi
  have hcs : i < cs.length := by omega
  rw [ho, hc1, List.drop_eq_getElem_cons hcs, List.take_succ_cons, List.take_zero] at hg
  refine ⟨cs[i], by simp [hcs], fun {α R} hR => ?_⟩
  have hxi : i < xs.length := by omega
  rw [List.getElem?_eq_getElem hxi] at hg
  refine hR.go enc n [cs[i]] (xs[i]).1 (xs[i]).2 hg ?_
  intro k hk
  refine hw k ?_
  rw [e.1]
  simp only [DataW.weights, ht]
  exact DataW.weights_mem_each (j := i) (t := f.type) (d := (xs[i]).1) (by simp [hfi]) (by simp [hxi]) k hk
/-- a pair of texts -/
def IsPr (p : List UInt8 × List UInt8) (vs : List Value) : Prop := vs = [str p.1, str p.2] ∧ p.1.length ≤ reachBytes ∧ p.2.length ≤ reachBytes
theorem two_cells {cs : List Value} {v0 v1 : Value} (hl : cs.length = 2) (h0 : cs[0]? = some v0) (h1 : cs[1]? = some v1) : cs = [v0, v1] := by
  match cs, hl with
  | [a, b], _ => simp at h0 h1; rw [h0, h1]
theorem opens_pr {f0 f1 : Field} (ht : P.underlying t = some (.struct #[f0, f1])) (hone : ((#[f0, f1] : Array Field).toList.zipIdx.all fun x => Nat.beq x.1.offset x.2 && Nat.beq (P.cellsOf x.1.type) 1) = true) (hct : P.cellsOf t = 2)
    (t0 : P.underlying f0.type = some .string) (t1 : P.underlying f1.type = some .string) : Opens P w t IsPr := ⟨fun enc fuel cs d ps h hw => by
  obtain ⟨hl, hf⟩ := open_fields ht hone hct enc fuel cs d ps h hw
  obtain ⟨v0, e0, g0⟩ := hf 0 f0 rfl
  obtain ⟨v1, e1, g1⟩ := hf 1 f1 rfl
  obtain ⟨s0, k0, b0⟩ := g0 (opens_str t0)
  obtain ⟨s1, k1, b1⟩ := g1 (opens_str t1)
  simp only [List.cons.injEq, and_true] at k0 k1
  refine ⟨(s0, s1), ?_, b0, b1⟩
  rw [two_cells hl e0 e1, k0, k1]⟩
/-- an argument -/
theorem open_arg {α : Type} {R : α → List Value → Prop} (hR : Opens P w t R) {H : Type} {enc : TypeId × Value → H} {v : Value} {d : DataW H} {ps : List MemPlace} (h : DataW.Trod enc P w 0 (fun _ => true) true t v d ps) (hw : Wt P t d) : ∃ x, R x v.cells.toList := by
  obtain ⟨fuel, hf⟩ := h
  exact hR.go enc fuel _ d ps hf hw
theorem sl_slS {M : Ghost} {v : Value} {l : List (List UInt8)} (h : Sl M 1 (fun s vs => vs = [str s] ∧ s.length ≤ reachBytes) v l) : SlS M v l ∧ ∀ s ∈ l, s.length ≤ reachBytes := by
  refine ⟨h.mono (fun _ _ h => h) (fun _ _ _ h => h.1), fun s hs => ?_⟩
  obtain ⟨_, _, _, _, _, h4⟩ := h
  obtain ⟨b, o, cs, T, fz, _, _, h7⟩ := h4 (by rintro rfl; cases hs)
  obtain ⟨i, hi, rfl⟩ := List.mem_iff_getElem.1 hs
  obtain ⟨vs, _, hR, _⟩ := h7 i hi
  exact hR.2
theorem sl_slP {M : Ghost} {v : Value} {l : List (List UInt8 × List UInt8)} (h : Sl M 2 IsPr v l) : SlP M v l ∧ ∀ p ∈ l, p.1.length ≤ reachBytes ∧ p.2.length ≤ reachBytes := by
  refine ⟨h.mono (fun _ _ h => h) (fun _ _ _ h => h.1), fun s hs => ?_⟩
  obtain ⟨_, _, _, _, _, h4⟩ := h
  obtain ⟨b, o, cs, T, fz, _, _, h7⟩ := h4 (by rintro rfl; cases hs)
  obtain ⟨i, hi, rfl⟩ := List.mem_iff_getElem.1 hs
  obtain ⟨vs, _, hR, _⟩ := h7 i hi
  exact hR.2
end
end Go.Eng
/-
  The arguments of this program's laws, opened, with the sizes that a row allows.
-/
namespace Go.Proofs.YtgfbieplidpebaaGreatDoor
open Go.ChangeShapes Go.WideShapes Go.RowKit Go.Eng Go.Pct
set_option maxRecDepth 100000
set_option linter.unusedVariables false
set_option linter.unusedSimpArgs false

variable {H : Type} {enc : TypeId × Value → H} {W : World} {base : Nat} {v : Value} {d : DataW H} {ps : List MemPlace}
theorem reach_le {n : Nat} (h : n ≤ reachBytes) : n ≤ 140737488355328 := Nat.le_trans h (by decide)
theorem small_of {l : List Pr} (h : ∀ p ∈ l, p.1.length ≤ reachBytes ∧ p.2.length ≤ reachBytes) : Small 140737488355328 l := fun p hp => ⟨reach_le (h p hp).1, reach_le (h p hp).2⟩
theorem opn_str : Opens Tryz.prog W 9 (fun s vs => vs = [str s] ∧ s.length ≤ reachBytes) := opens_str Tryz.underlying9
theorem opn_pr : Opens Tryz.prog W 50 IsPr := opens_pr Tryz.underlying50 (by kernel_rfl) (by kernel_rfl) Tryz.underlying9 Tryz.underlying9
theorem opn_prs : Opens Tryz.prog W 22 (fun (l : List Pr) vs => ∃ v, vs = [v] ∧ Sl (All W) 2 IsPr v l ∧ l.length * Tryz.prog.bytesOf 50 ≤ reachBytes) := opens_slice Tryz.underlying22 (by kernel_rfl) (by decide) opn_pr
theorem opn_strs : Opens Tryz.prog W 23 (fun (l : List (List UInt8)) vs => ∃ v, vs = [v] ∧ Sl (All W) 1 (fun s vs => vs = [str s] ∧ s.length ≤ reachBytes) v l ∧ l.length * Tryz.prog.bytesOf 9 ≤ reachBytes) := opens_slice Tryz.underlying23 (by kernel_rfl) (by decide) opn_str

theorem arg_str (hval : Value.okWide Tryz.prog W .any base 9 v) (hd : DataW.Trod enc Tryz.prog W 0 (fun _ => true) true 9 v d ps) (hw : Wt Tryz.prog 9 d) : ∃ s, v = str s ∧ s.length ≤ reachBytes := by
  obtain ⟨s0, rfl⟩ := okWide_string Tryz.underlying9 hval
  obtain ⟨s, hs, hl⟩ := open_arg opn_str hd hw
  simp only [Value.cells, List.cons.injEq, and_true] at hs
  exact ⟨s, hs, hl⟩
theorem arg_bool (hval : Value.okWide Tryz.prog W .any base 4 v) : ∃ b, v = .bool b := okWide_bool Tryz.underlying4 hval
theorem arg_int (hval : Value.okWide Tryz.prog W .any base 3 v) (hd : DataW.Trod enc Tryz.prog W 0 (fun _ => true) true 3 v d ps) (hw : Wt Tryz.prog 3 d) : ∃ z : Int, v = i64 z ∧ -9223372036854775808 ≤ z ∧ z ≤ 9223372036854775807 := by
  obtain ⟨z0, rfl⟩ := okWide_int Tryz.underlying3 hval
  obtain ⟨z, hz, h1, h2⟩ := open_arg (opens_int Tryz.underlying3) hd hw
  simp only [Value.cells, List.cons.injEq, and_true] at hz
  exact ⟨z, hz, h1, h2⟩
theorem arg_u8 (hval : Value.okWide Tryz.prog W .any base 5 v) (hd : DataW.Trod enc Tryz.prog W 0 (fun _ => true) true 5 v d ps) (hw : Wt Tryz.prog 5 d) : ∃ c : UInt8, v = byt c := by
  obtain ⟨z0, rfl⟩ := okWide_int Tryz.underlying5 hval
  obtain ⟨z, hz, h1, h2⟩ := open_arg (opens_int Tryz.underlying5) hd hw
  simp only [Value.cells, List.cons.injEq, and_true] at hz
  rw [hz]
  have h1 : (0 : Int) ≤ z := h1
  have h2 : z ≤ 255 := h2
  refine ⟨UInt8.ofNat z.toNat, ?_⟩
  have h3 : ((UInt8.ofNat z.toNat).toNat : Int) = z := by
    have : z.toNat < 256 := by omega
    simp [Nat.mod_eq_of_lt this]; omega
  rw [byt, h3]
theorem arg_prs (hval : Value.okWide Tryz.prog W .any base 22 v) (hd : DataW.Trod enc Tryz.prog W 0 (fun _ => true) true 22 v d ps) (hw : Wt Tryz.prog 22 d) : ∃ l : List Pr, SlP (All W) v l ∧ Small 140737488355328 l := by
  obtain ⟨a0, len, cap, rfl⟩ := okWide_slice Tryz.underlying22 hval
  obtain ⟨l, u, hu, hl, _⟩ := open_arg opn_prs hd hw
  simp only [Value.cells, List.cons.injEq, and_true] at hu
  subst hu
  exact ⟨l, (sl_slP hl).1, small_of (sl_slP hl).2⟩
theorem arg_strs (hval : Value.okWide Tryz.prog W .any base 23 v) (hd : DataW.Trod enc Tryz.prog W 0 (fun _ => true) true 23 v d ps) (hw : Wt Tryz.prog 23 d) : ∃ l : List (List UInt8), SlS (All W) v l ∧ ∀ s ∈ l, s.length ≤ 140737488355328 := by
  obtain ⟨a0, len, cap, rfl⟩ := okWide_slice Tryz.underlying23 hval
  obtain ⟨l, u, hu, hl, _⟩ := open_arg opn_strs hd hw
  simp only [Value.cells, List.cons.injEq, and_true] at hu
  subst hu
  exact ⟨l, (sl_slS hl).1, fun s hs => reach_le ((sl_slS hl).2 s hs)⟩
theorem arg_agg {t : TypeId} {fs : Array Field} (ht : Tryz.prog.underlying t = some (.struct fs)) (hval : Value.okWide Tryz.prog W .any base t v) : ∃ cs, v = .agg cs := by
  simp only [Value.okWide, ht] at hval
  obtain ⟨cs, h, _⟩ := hval
  exact ⟨cs, h⟩
theorem three_cells {cs : List Value} {v0 v1 v2 : Value} (hl : cs.length = 3) (h0 : cs[0]? = some v0) (h1 : cs[1]? = some v1) (h2 : cs[2]? = some v2) : cs = [v0, v1, v2] := by
  match cs, hl with
  | [a, b, c], _ => simp at h0 h1 h2; rw [h0, h1, h2]
theorem four_cells {cs : List Value} {v0 v1 v2 v3 : Value} (hl : cs.length = 4) (h0 : cs[0]? = some v0) (h1 : cs[1]? = some v1) (h2 : cs[2]? = some v2) (h3 : cs[3]? = some v3) : cs = [v0, v1, v2, v3] := by
  match cs, hl with
  | [a, b, c, d], _ => simp at h0 h1 h2 h3; rw [h0, h1, h2, h3]
theorem arg_rsp (hval : Value.okWide Tryz.prog W .any base 31 v) (hd : DataW.Trod enc Tryz.prog W 0 (fun _ => true) true 31 v d ps) (hw : Wt Tryz.prog 31 d) :
    ∃ (st : Int) (hv : Value) (l : List Pr) (bd : List UInt8), v = .agg #[i64 st, hv, str bd] ∧ SlP (All W) hv l ∧ Small 140737488355328 l ∧ bd.length ≤ 140737488355328 := by
  obtain ⟨cs, rfl⟩ := arg_agg Tryz.underlying31 hval
  obtain ⟨fuel, hf⟩ := hd
  obtain ⟨hlen, hfs⟩ := open_fields Tryz.underlying31 (by kernel_rfl) (by kernel_rfl) enc fuel _ d ps hf hw
  obtain ⟨v0, e0, g0⟩ := hfs 0 _ rfl
  obtain ⟨v1, e1, g1⟩ := hfs 1 _ rfl
  obtain ⟨v2, e2, g2⟩ := hfs 2 _ rfl
  obtain ⟨z, hz, _⟩ := g0 (opens_int Tryz.underlying3)
  obtain ⟨l, u, hu, hl, _⟩ := g1 opn_prs
  obtain ⟨s, hs, hb⟩ := g2 opn_str
  simp only [List.cons.injEq, and_true] at hz hu hs
  have h3 := three_cells hlen e0 e1 e2
  refine ⟨z, u, l, s, ?_, (sl_slP hl).1, small_of (sl_slP hl).2, reach_le hb⟩
  rw [hz, hu, hs] at h3
  have h4 : cs.toList = [i64 z, u, str s] := h3
  have h5 : cs = #[i64 z, u, str s] := by rw [← Array.toArray_toList (xs := cs), h4]
  rw [h5]
end Go.Proofs.YtgfbieplidpebaaGreatDoor
/-
  The frames' common part: what a row's world holds; a world for the witness.
-/
namespace Go.Proofs.YtgfbieplidpebaaGreatDoor
open Go.ChangeShapes Go.WideShapes Go.ChangeAt Go.RowKit Go.Eng Go.Pct
set_option maxRecDepth 100000

theorem own : ownKnob Tryz.prog.godebug = none := by kernel_rfl
theorem gMarks : Tryz.prog.globalNamed "matricula/xml.marks" = some 0 := by kernel_rfl
theorem gMarksT : (Tryz.prog.globals[0]?).map (·.type) = some 122 := by kernel_rfl
theorem cellsPrM : Tryz.prog.cellsOf 50 = 2 := by kernel_rfl
theorem cellsStrM : Tryz.prog.cellsOf 9 = 1 := by kernel_rfl
def markD : DataW Unit := .agg [.agg [.lit (.string [38]), .lit (.string [38, 97, 109, 112, 59])], .agg [.lit (.string [60]), .lit (.string [38, 108, 116, 59])], .agg [.lit (.string [62]), .lit (.string [38, 103, 116, 59])], .agg [.lit (.string [34]), .lit (.string [38, 113, 117, 111, 116, 59])], .agg [.lit (.string [39]), .lit (.string [38, 35, 51, 57, 59])]]
theorem pair_cells {W : World} {fuel : Nat} {cs : List Value} {a b : List UInt8} {q : List MemPlace} (h : DataW.trod (fun _ => ()) Tryz.prog W 0 (fun _ => true) false fuel 50 cs = some (.agg [.lit (.string a), .lit (.string b)], q)) : cs[0]? = some (str a) ∧ cs[1]? = some (str b) := by
  obtain ⟨xs, n, rfl, hx, hl, hxl, hall⟩ := DataW.trod_struct Tryz.underlying50 h
  have hxs : xs.map (·.1) = [.lit (.string a), .lit (.string b)] := by
    have := congrArg Prod.fst hx
    simpa using this.symm
  match xs, hxs with
  | [x0, x1], hxs =>
    simp only [List.map_cons, List.map_nil, List.cons.injEq, and_true] at hxs
    have h0 := hall 0 _ rfl
    have h1 := hall 1 _ rfl
    obtain ⟨s0, e0, e0', _⟩ := DataW.trod_string Tryz.underlying9 h0
    obtain ⟨s1, e1, e1', _⟩ := DataW.trod_string Tryz.underlying9 h1
    have e0 : (cs.drop 0).take (Tryz.prog.cellsOf 9) = [.string s0] := e0
    have e1 : (cs.drop 1).take (Tryz.prog.cellsOf 9) = [.string s1] := e1
    rw [cellsStrM] at e0 e1
    obtain rfl : x0 = _ := e0'
    obtain rfl : x1 = _ := e1'
    simp only [DataW.lit.injEq, Lit.string.injEq] at hxs
    obtain ⟨rfl, rfl⟩ := hxs
    constructor
    · have := congrArg (·[0]?) e0
      simp only [List.getElem?_take, List.getElem?_drop] at this
      rw [if_pos (by decide)] at this
      rw [← str_of]
      simpa using this
    · have := congrArg (·[0]?) e1
      simp only [List.getElem?_take, List.getElem?_drop] at this
      rw [if_pos (by decide)] at this
      rw [← str_of]
      simpa using this
theorem marks_of {W : World} {rest : List (String × DataW Unit)} (h : laidMet Tryz.prog (("matricula/xml.marks", markD) :: rest) W) : ∃ cs T fz, All W 0 (.cells cs T fz) ∧ ∀ j, j < 10 → cs[j]? = markCells[j]? := by
  obtain ⟨ps, ⟨g', t', cs, fuel, p, q, hg', ht', hvar, hd, _, _⟩, _⟩ := h
  obtain rfl := Option.some.inj (gMarks.symm.trans hg')
  obtain rfl := Option.some.inj (gMarksT.symm.trans ht')
  have hcell : ∃ T fz, All W 0 (.cells cs T fz) := by
    unfold World.var? at hvar
    rw [gMarks, Option.bind_some] at hvar
    split at hvar
    · rename_i cs' T fz hh
      simp only [Option.some.injEq] at hvar
      exact ⟨T, fz, by rw [← hvar]; exact hh⟩
    · cases hvar
  obtain ⟨T, fz, hh⟩ := hcell
  refine ⟨cs, T, fz, hh, ?_⟩
  have key : ∀ i, i < 5 → cs[i * 2]? = markCells[i * 2]? ∧ cs[i * 2 + 1]? = markCells[i * 2 + 1]? := by
    intro i hi
    obtain ⟨f', d, q', h1, h2⟩ := Lib.array_elem Tryz.underlying122 hd i hi
    rw [cellsPrM] at h2
    have tail : ∀ (a b : List UInt8), d = .agg [.lit (.string a), .lit (.string b)] → cs[i * 2]? = some (str a) ∧ cs[i * 2 + 1]? = some (str b) := by
      rintro a b rfl
      obtain ⟨g0, g1⟩ := pair_cells h2
      simp only [List.getElem?_take, List.getElem?_drop] at g0 g1
      rw [if_pos (by decide)] at g0 g1
      exact ⟨by simpa using g0, by simpa using g1⟩
    match i, hi, h1, tail with
    | 0, _, h1, tail => cases h1; exact tail _ _ rfl
    | 1, _, h1, tail => cases h1; exact tail _ _ rfl
    | 2, _, h1, tail => cases h1; exact tail _ _ rfl
    | 3, _, h1, tail => cases h1; exact tail _ _ rfl
    | 4, _, h1, tail => cases h1; exact tail _ _ rfl
  intro j hj
  have e : j = j / 2 * 2 + j % 2 := by omega
  have h2 := key (j / 2) (by omega)
  rcases Nat.mod_two_eq_zero_or_one j with h | h
  · rw [h] at e; rw [e]; exact h2.1
  · rw [h] at e; rw [e]; exact h2.2
/-- what is asked of a row's list -/
structure Lists (l : List (String × DataW Unit)) : Prop where
  marks : l.filter (fun x => x.1 == "matricula/xml.marks") = [("matricula/xml.marks", markD)]
theorem glob_of {W : World} {l : List (String × DataW Unit)} (hl : Lists l) (h : laidMetH Tryz.prog l W) (hsh : W.ShapedOpen Tryz.prog) : Glob (All W) := by
  constructor
  · obtain ⟨m, hm⟩ := (Tryz.laysM219).s1_3 W hsh
    obtain ⟨cs, T, fz, hh, h2⟩ := cell_inv hm
    exact ⟨cs, T, fz, m, hh, h2⟩
  · have h1 := h.filter (fun x => x.1 == "matricula/xml.marks")
    rw [hl.marks, Go.MakeChecks.laidMetH_plain _ _ _ (by rfl)] at h1
    exact marks_of h1

theorem laidOut : laidOutB Tryz.prog = true := by kernel_rfl
theorem trodAll_below {H : Type} {enc : TypeId × Value → H} {P : Program} (hl : laidOutB P = true) {W W' : World} (hb : Below W.heap.size W W') : ∀ {ts : List TypeId} {vs : List Value} {ds : List (DataW H)} {ps : List MemPlace},
    (ts.all fun t => P.readableRec t && decide (t < P.types.size)) = true → DataW.TrodAll enc P W 0 (fun _ => true) true ts vs ds ps → (∀ x ∈ ps, x.block < W.heap.size) → DataW.TrodAll enc P W' 0 (fun b => decide (b < W.heap.size)) true ts vs ds ps
  | [], [], [], _, _, h, _ => h
  | _ :: _, _ :: _, _ :: _, _, hT, ⟨p, q, h1, h2, e⟩, hs => by
    simp only [List.all_cons, Bool.and_eq_true, decide_eq_true_eq] at hT
    exact ⟨p, q, Below.trod hl hT.1.1 hT.1.2 h1 hb (fun x hx => hs x (by rw [e]; exact List.mem_append_left _ hx)), trodAll_below hl hb hT.2 h2 (fun x hx => hs x (by rw [e]; exact List.mem_append_right _ hx)), e⟩
/-- what a table's datum lays -/
def cellsD : Nat → DataW Unit → List Value
  | 0, _ => []
  | n + 1, .agg l => l.flatMap (cellsD n)
  | _ + 1, .lit (.int k z) => [.int k z]
  | _ + 1, .lit (.string s) => [.string ⟨s.toArray⟩]
  | _, _ => []
def layAt (d : DataW Unit) : Obj → Obj
  | .cells _ t fz => .cells (cellsD 5 d).toArray t fz
  | o => o
/-- A world for the witness: the settled one, the tables holding what their initialisers lay. -/
noncomputable def laidWorld (os : Os) (l : List (String × DataW Unit)) : World :=
  { World.holding Tryz.prog os ⟨#[], #[], []⟩ with heap := l.foldl (fun h x => match Tryz.prog.globalNamed x.1 with | some g => h.modify g (layAt x.2) | none => h) (World.holding Tryz.prog os ⟨#[], #[], []⟩).heap }
theorem noStand (t : TypeId) (ts : Array TypeId) (h : ts.all (fun t => !Tryz.prog.wantsStandIn t) = true) (j : Nat) (ht : ts[j]? = some t) : Tryz.prog.wantsStandIn t = false := by
  have := (Array.all_eq_true'.1 h) t (Array.mem_of_getElem? ht)
  simpa using this
theorem sizes_of {H : Type} {ts us : List TypeId} {ds gs : List (DataW H)} (h : (DataW.weightsEach Tryz.prog (ts ++ us) (ds ++ gs)).all (· ≤ reachBytes) = true) {j : Nat} {t : TypeId} {d : DataW H} (ht : (ts ++ us)[j]? = some t) (hd : (ds ++ gs)[j]? = some d) : Wt Tryz.prog t d :=
  wt_each ht hd (fun n hn => by simpa using List.all_eq_true.1 h n hn)
end Go.Proofs.YtgfbieplidpebaaGreatDoor
/-
  The given statement of RenderReads: from the walk of RenderReads to the card.
-/
namespace Go.Proofs.YtgfbieplidpebaaGreatDoor
open Go.ChangeShapes Go.WideShapes Go.ChangeAt Go.RowKit Go.Eng Go.Pct
set_option maxRecDepth 100000
set_option linter.unusedSimpArgs false

theorem renderReads_lists : Lists Rows.renderReadsRow.laid := by constructor <;> kernel_rfl
theorem renderReads_contract (H : Type) (enc : TypeId × Value → H) (W : World) (base : Nat) (args : Array Value) (ds gs : List (DataW H)) (before : List MemPlace)
    (hval : ∀ (j : Nat) t v, Tryz.f5.params[j]? = some t → args[j]? = some v → Value.okWide Tryz.prog W .any base t v)
    (hW : DataW.Whole enc Tryz.prog Tryz.f5.params.toList Rows.renderReadsSpec.vars false W args.toList ds gs before)
    (hz : (DataW.weightsEach Tryz.prog (Tryz.f5.params.toList ++ (OpenSpec.ofChange Rows.renderReadsSpec).bare.plain.varTypes Tryz.prog) (ds ++ gs)).all (· ≤ reachBytes) = true) (hL : laidMetH Tryz.prog Rows.renderReadsRow.laid W) (hsh : W.ShapedOpen Tryz.prog) :
    Calls Tryz.prog 5 args W fun e W' => ∃ v, e = .returned v ∧ Rows.renderReadsSpec.post enc Tryz.prog Tryz.f5 false true false false W args v W' := by
  have hW' := hW
  obtain ⟨p, q, hA0, hV, rfl, hfz, hnd⟩ := hW
  have hAk : DataW.TrodAll enc Tryz.prog W 0 (fun _ => true) true Tryz.f5.params.toList args.toList ds p := hA0
  have hA := hAk
  rw [Tryz.params5] at hA hval hz
  obtain ⟨rfl, rfl⟩ := trodVars_none hV
  obtain ⟨v0, vs0, d0, ds0, p0, q0, hargs, rfl, hq0, h0, r0⟩ := trodAll_cons hA
  obtain ⟨rfl, rfl, hqn⟩ := trodAll_nil r0
  obtain rfl : args = #[v0] := by cases args; simp_all
  obtain ⟨st0, v0, l0, bd0, rfl, h0, k0, kb0⟩ := arg_rsp (hval 0 31 v0 rfl rfl) h0 (sizes_of (j := 0) hz rfl rfl)
  have hG := glob_of (W := W) renderReads_lists hL hsh
  have walk := reads_okV hG (all_laid W) st0 h0 bd0
  refine walk.mono fun e W' ⟨he, hg⟩ => ?_
  subst he
  have hb := hg.below
  refine ⟨_, rfl, ⟨_, _, _, [], _, [], hW', trodAll_mk1 (shut_bool Tryz.underlying4 _), trodAll_below laidOut hb (by kernel_rfl) hAk (fun x hx => ?_), rfl, hb.frame _, fun h => by cases h⟩⟩
  have := hW'.lt x (by simpa using hx)
  simpa using this

theorem renderReads_laid (os : Os) : laidMet Tryz.prog Rows.renderReadsRow.laid ((laidWorld os Rows.renderReadsRow.laid).forCall (fun _ _ => 0) ⟨#[], #[.agg #[.int .i64 0, .slice none 0 0, .string ⟨#[]⟩]], []⟩).memory :=
  laidMet_of_run' 8 (by kernel_rfl) (by kernel_rfl)
theorem renderReads_reads (os : Os) {H : Type} (enc : TypeId × Value → H) : ∃ places, DataW.whole enc Tryz.prog ((laidWorld os Rows.renderReadsRow.laid).forCall (fun _ _ => 0) ⟨#[], #[.agg #[.int .i64 0, .slice none 0 0, .string ⟨#[]⟩]], []⟩).memory Tryz.f5.params.toList Rows.renderReadsSpec.vars false (#[Value.agg #[.int .i64 0, .slice none 0 0, .string ⟨#[]⟩]] : Array Value).toList 8 = some ([.agg [.lit (.int .i64 0), .nil, .lit (.string [])]], [], places) :=
  ⟨[], by kernel_rfl⟩
theorem renderReads_lifted (os : Os) (started : os.Started) (H : Type) (enc : TypeId × Value → H) (F : Stop.Interp) :
    ReturnsInHanded {} Tryz.checked os 5 .any ((OpenSpec.ofChange Rows.renderReadsSpec).preRow enc Tryz.prog Tryz.f5 Rows.renderReadsRow.domain false Rows.renderReadsRow.laid) (((OpenSpec.ofChange Rows.renderReadsSpec).at F).post enc Tryz.prog Tryz.f5 false true false false) := by
  obtain ⟨places, hx⟩ := renderReads_reads os enc
  refine returnsInHanded_of_row (C := Tryz.checked) (s := OpenSpec.ofChange Rows.renderReadsSpec) own started (by kernel_rfl) Tryz.func5
    (witness_row_at (enc := enc) (C := Tryz.checked) false (laidWorld os Rows.renderReadsRow.laid) #[.agg #[.int .i64 0, .slice none 0 0, .string ⟨#[]⟩]] rfl (by kernel_rfl) (by kernel_rfl) (by kernel_rfl)
      (OpenSpec.preRow_of_cond 8 hx (by kernel_rfl) (fun k hk => by cases hk) (by kernel_rfl) (renderReads_laid os))) ?_
  intro W base args ds gs before hval hW _ _ hz hL hsh _
  exact renderReads_contract H enc W base args ds gs before hval hW hz hL hsh
theorem renderReads_said : Rows.RenderReadsSaid :=
  OpenClaim.holds_of_cond 5 Tryz.f5 rfl rfl rfl rfl rfl rfl rfl ⟨rfl, rfl, rfl, rfl, rfl⟩ rfl rfl rfl rfl rfl (by kernel_rfl) Tryz.func5 (by kernel_rfl)
    (of_decide_eq_true (by kernel_rfl)) (by unfold Func.isWrapper; first | (rw [if_pos (by decide +kernel)]; kernel_rfl) | (rw [if_neg (by decide +kernel)]; exact ⟨rfl, rfl⟩))
    (fun os started H enc _ F => by rw [OpenClaim.pre_eq_preRow]; exact renderReads_lifted os started H enc F)
theorem renderReads_plain (f : FuncId) (fn : Func) (hf : Tryz.pinned.checked.prog.funcNamed "matricula/matriculalaw24.RenderReads" = some f) (hfn : Tryz.pinned.checked.prog.funcs[f]? = some fn) :
    false = Tryz.pinned.checked.prog.looks [] ∧ ∀ (j : Nat) t, fn.params[j]? = some t → Tryz.pinned.checked.prog.wantsStandIn t = false := by
  obtain rfl : f = 5 := Option.some.inj ((show Tryz.prog.funcNamed "matricula/matriculalaw24.RenderReads" = some 5 by kernel_rfl).symm.trans hf) |>.symm
  obtain rfl : fn = Tryz.f5 := (Option.some.inj (Tryz.func5.symm.trans hfn)).symm
  refine ⟨by kernel_rfl, fun j t ht => ?_⟩
  rw [Tryz.params5] at ht
  exact noStand t _ (by kernel_rfl) j ht
/-- The given statement. -/
theorem renderReads_card : Rows.RenderReadsCardSaid :=
  Claim7.holds_tied_plain_at .later [] _ _ _ _ renderReads_said (fun _ h => by cases h) (by kernel_rfl) (fun _ h => by cases h) renderReads_row_tie rfl ⟨rfl, rfl⟩ (by kernel_rfl) rfl renderReads_plain (by kernel_rfl)
end Go.Proofs.YtgfbieplidpebaaGreatDoor
