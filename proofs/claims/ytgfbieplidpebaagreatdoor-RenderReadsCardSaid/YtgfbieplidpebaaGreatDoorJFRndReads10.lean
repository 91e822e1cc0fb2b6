/-
  The given statement RenderReadsCardSaidSaid of layer texts: it holds of the given program, for every input that the row speaks of; no further condition.
-/
import Derived.Deep.Slices
import Derived.ChangeSame
import Derived.SizedLaws
import Derived.WideShapes
import Derived.DataReads
import Derived.Test.YtgfbieplidpebaaGreatDoorProg
import Derived.Test.YtgfbieplidpebaaGreatDoorCards
import Derived.Test.YtgfbieplidpebaaGreatDoorTie
import Derived.WalkKit
import Derived.ProofKit
import Derived.OpenShut
import Derived.ReadAgain
import Derived.MakeChecks
import Derived.LaidSub
import Derived.Deep.DeepHandedRow
import Derived.Carry
import Derived.SevenTiedAt
import Derived.Lib.LaidTab
import Derived.Lib.LaidU8
import Derived.Test.YtgfbieplidpebaaGreatDoorJFRndReads1
import Derived.Test.YtgfbieplidpebaaGreatDoorJFRndReads2
import Derived.Test.YtgfbieplidpebaaGreatDoorJFRndReads3
import Derived.Test.YtgfbieplidpebaaGreatDoorJFRndReads4
import Derived.Test.YtgfbieplidpebaaGreatDoorJFRndReads5
import Derived.Test.YtgfbieplidpebaaGreatDoorJFRndReads6
import Derived.Test.YtgfbieplidpebaaGreatDoorJFRndReads7
import Derived.Test.YtgfbieplidpebaaGreatDoorJFRndReads8
import Derived.Test.YtgfbieplidpebaaGreatDoorJFRndReads9
/-
  The walk of RenderReads.
-/
namespace Go.Proofs.YtgfbieplidpebaaGreatDoor
open Go.Eng Go.Pct Go.Xml Go.Cas
set_option maxRecDepth 10000
set_option linter.unusedSimpArgs false
set_option linter.unusedVariables false

variable {M : Ghost} {w0 w : World} {bs : List Nat} {H : List (Nat × Obj)}
def exS : Suc := ⟨[117], [], [], []⟩
def exX : Nd := answerN exS 0 true
/-- the example's text -/
def exT : List UInt8 := [60, 99, 97, 115, 58, 115, 101, 114, 118, 105, 99, 101, 82, 101, 115, 112, 111, 110, 115, 101, 32, 120, 109, 108, 110, 115, 58, 99, 97, 115, 61, 34, 104, 116, 116, 112, 58, 47, 47, 119, 119, 119, 46, 121, 97, 108, 101, 46, 101, 100, 117, 47, 116, 112, 47, 99, 97, 115, 34, 62, 60, 99, 97, 115, 58, 97, 117, 116, 104, 101, 110, 116, 105, 99, 97, 116, 105, 111, 110, 83, 117, 99, 99, 101, 115, 115, 62, 60, 99, 97, 115, 58, 117, 115, 101, 114, 62, 117, 60, 47, 99, 97, 115, 58, 117, 115, 101, 114, 62, 60, 47, 99, 97, 115, 58, 97, 117, 116, 104, 101, 110, 116, 105, 99, 97, 116, 105, 111, 110, 83, 117, 99, 99, 101, 115, 115, 62, 60, 47, 99, 97, 115, 58, 115, 101, 114, 118, 105, 99, 101, 82, 101, 115, 112, 111, 110, 115, 101, 62]
theorem exS_sm : SmS exS 100000 100000 := ⟨by decide, by decide, by decide, by decide, (fun p hp => by cases hp), (fun p hp => by cases hp)⟩
theorem exX_right : rightN exX = true := user_sh (by decide +kernel)
theorem exX_text : wr exX = exT := by rw [wr_right exX_right]; decide +kernel
theorem exX_back : readAnswerP (rsp sXml exX) = (exS, [], true) := answer_back exX_right
theorem awake_ok (hG : Glob M) (hM : Laid M w) : Calls Tryz.prog 6 #[] w (RetE w (.bool true)) := by
  have hA := fun {w : World} {M : Ghost} (hG : Glob M) (hM : Laid M w) => Answer_ok hG hM exS 0 sl_nil sl_nil exS_sm true
  rw [show answerN exS 0 true = exX from rfl] at hA
  have hR := fun {w : World} {M : Ghost} {st : Int} {a l c bd} (hG : Glob M) (hM : Laid M w) (h : RsC M (rsp sXml exX) st a l c bd) (hb : bd.length ≤ 90000) => ReadAnswer_ok hG hM h hb
  rw [exX_back] at hR
  rw [exX_text] at hA
  have hb : (rsp sXml exX).body = exT := exX_text
  have hbl : exT.length ≤ 90000 := by decide
  generalize hx : rsp sXml exX = r at *
  have hst : r.status = 200 := by rw [← hx]; rfl
  have hhd : r.headers = [(sCT, sXml)] := by rw [← hx]; rfl
  clear hx
  unfold exS at hA hR
  unfold exT at hA hb hbl
  refine fn0 hM Tryz.func6 ?_
  repeat' (first | refine sk ?_ | (refine gL ?_; first | refine xl_alloc (fun _ => ?_) | refine xl_store rfl rfl ?_) | fail)
  refine wl_callS rfl Tryz.call9 rfl rfl rfl rfl (fun w hw => hA hG hw.laid) ?_
  rintro _ H1 M1 hm1 hn1 ⟨rfl, a1, l1, c1, rfl, hS1⟩
  repeat' (first | refine sk ?_ | (refine gL ?_; first | refine xl_alloc (fun _ => ?_) | refine xl_store rfl rfl ?_) | fail)
  refine wl_callS rfl Tryz.call22 rfl rfl rfl rfl (fun w hw => hR (hG.mono hm1) hw.laid ⟨hst, hb, by rw [hhd]; exact hS1⟩ hbl) ?_
  rintro _ H2 M2 hm2 hn2 ⟨rfl, _, rfl, a2, l2, c2, a3, l3, c3, rfl, hS2, hS3⟩
  repeat' (first | refine sk ?_ | (refine gL ?_; first | refine xl_alloc (fun _ => ?_) | refine xl_store rfl rfl ?_) | fail)
  exact wr_weak (fun _ h => h.drop (List.nil_sublist _)) (wr_tmp rfl rfl rfl)
set_option maxHeartbeats 1000000 in
theorem reads_ok (hG : Glob M) (hM : Laid M w) (st : Int) {a : Option Addr} {l c : Nat} {hs : List Go.Pct.Pr} (hh : SlP M (.slice a l c) hs) (bd : List UInt8) : Calls Tryz.prog 5 #[.agg [i64 st, .slice a l c, str bd].toArray] w (RetE w (.bool true)) := by
  have hf := fun {w : World} (hw : Laid M w) => few_ok hw hh
  generalize fewB hs = fb at *
  refine fn1 hM Tryz.func5 ?_
  repeat' (first | refine sk ?_ | (refine gL ?_; first | refine wl_v rfl rfl rfl (by first | (exact oc 6 Tryz.call6 (h := fun hcg w hw => awake_ok hG hw.laid)) | (exact oc 21 Tryz.call21 (h := fun hcg w hw => hf hw.laid))) ?_ | refine xl_alloc (fun _ => ?_) | refine xl_box rfl (fun _ => ?_) | refine xl_store rfl rfl ?_) | fail)
  refine wc_cond rfl (fun hc => ?_) (fun hc => ?_)
  · repeat' (first | refine sk ?_ | (refine gL ?_; first | refine xl_alloc (fun _ => ?_) | refine xl_box rfl (fun _ => ?_) | refine xl_store rfl rfl ?_) | fail)
    exact wr_weak (fun _ h => h.drop (List.nil_sublist _)) (wr_tmp rfl rfl rfl)
  have hbd : bd.length ≤ 1500 := by
    simp at hc
    omega
  clear hc hf
  repeat' (first | refine sk ?_ | (refine gL ?_; first | refine xl_alloc (fun _ => ?_) | refine xl_box rfl (fun _ => ?_) | refine xl_store rfl rfl ?_) | fail)
  refine wl_callS rfl Tryz.call22 rfl rfl rfl rfl (fun w hw => ReadAnswer_ok (r := ⟨st, hs, bd⟩) hG hw.laid ⟨rfl, rfl, hh⟩ (by omega)) ?_
  rintro _ H1 M1 hm1 hn1 ⟨rfl, sv, rfl, hsv⟩
  have hh1 : SlP M1 (.slice a l c) hs := Sl.mono hh hm1 (fun _ _ _ h => h)
  have hG1 := hG.mono hm1
  obtain ⟨b1, m1, d1, b2, m2, d2, rfl, k1, k2⟩ := hsv
  repeat' (first | refine sk ?_ | (refine gL ?_; first | refine xl_alloc (fun _ => ?_) | refine xl_box rfl (fun _ => ?_) | refine xl_store rfl rfl ?_) | fail)
  refine wl_callS rfl Tryz.call23 rfl rfl rfl rfl (fun w hw => rReadAnswer_ok (r := ⟨st, hs, bd⟩) hw.laid ⟨rfl, rfl, hh1⟩ (by omega)) ?_
  rintro _ H2 M2 hm2 hn2 ⟨rfl, sv2, rfl, hsv2⟩
  rw [rreadAnswer_eq] at hsv2 ⊢
  have hh2 : SlP M2 (.slice a l c) hs := Sl.mono hh1 hm2 (fun _ _ _ h => h)
  have hG2 := hG1.mono hm2
  obtain ⟨b3, m3, d3, b4, m4, d4, rfl, j1, j2⟩ := hsv2
  have hsa := fun {w : World} (hw : Laid M2 w) => rsames_ok hw (s := (readAnswerP ⟨st, hs, bd⟩).1) (t := (readAnswerP ⟨st, hs, bd⟩).1) ⟨_, _, _, _, _, _, rfl, Sl.mono k1 hm2 (fun _ _ _ h => h), Sl.mono k2 hm2 (fun _ _ _ h => h)⟩ ⟨_, _, _, _, _, _, rfl, j1, j2⟩
  rw [sameSu_self] at hsa
  have p1 := fun {w : World} (hw : Laid M2 w) => ReadProxy_ok (r := ⟨st, hs, bd⟩) hG2 hw ⟨rfl, rfl, hh2⟩ (Nat.le_trans hbd (by decide))
  have p2 := fun {w : World} (hw : Laid M2 w) => rReadProxy_ok (r := ⟨st, hs, bd⟩) hw ⟨rfl, rfl, hh2⟩ (Nat.le_trans hbd (by decide))
  have f1 := fun {w : World} (hw : Laid M2 w) => ReadForm_ok (r := ⟨st, hs, bd⟩) hG2 hw ⟨rfl, rfl, hh2⟩ (Nat.le_trans hbd (by decide))
  have f2 := fun {w : World} (hw : Laid M2 w) => rReadForm_ok (r := ⟨st, hs, bd⟩) hw ⟨rfl, rfl, hh2⟩ (Nat.le_trans hbd (by decide))
  have q1 := fun {w : World} (hw : Laid M2 w) => ReadPage_ok (r := ⟨st, hs, bd⟩) hG2 hw ⟨rfl, rfl, hh2⟩ (Nat.le_trans hbd (by decide))
  have q2 := fun {w : World} (hw : Laid M2 w) => rReadPage_ok (r := ⟨st, hs, bd⟩) hw ⟨rfl, rfl, hh2⟩ (Nat.le_trans hbd (by decide))
  rw [rreadProxy_eq] at p2
  rw [rreadForm_eq] at f2
  rw [rreadPage_eq] at q2
  clear k1 k2 j1 j2 hm1 hn1 hm2 hn2 hh hh1 hG hG1
  generalize readAnswerP ⟨st, hs, bd⟩ = xa at *
  generalize readProxyP ⟨st, hs, bd⟩ = xp at *
  generalize readFormP ⟨st, hs, bd⟩ = xf at *
  generalize readPageP ⟨st, hs, bd⟩ = xg at *
  obtain ⟨xs, xc, xb⟩ := xa
  obtain ⟨ya, yc, yb⟩ := xp
  obtain ⟨za, zb, zc, zd⟩ := xf
  obtain ⟨ga, gb, gc⟩ := xg
  dsimp only at *
  repeat' (first | refine sk ?_ | (refine gL ?_; first | refine wl_v rfl rfl rfl (by first | (exact oc 24 Tryz.call24 (h := fun hcg w hw => p1 hw.laid)) | (exact oc 25 Tryz.call25 (h := fun hcg w hw => p2 hw.laid)) | (exact oc 26 Tryz.call26 (h := fun hcg w hw => f1 hw.laid)) | (exact oc 27 Tryz.call27 (h := fun hcg w hw => f2 hw.laid)) | (exact oc 28 Tryz.call28 (h := fun hcg w hw => q1 hw.laid)) | (exact oc 29 Tryz.call29 (h := fun hcg w hw => q2 hw.laid)) | (exact oc 30 Tryz.call30 (h := fun hcg w hw => hsa hw.laid))) ?_ | refine xl_alloc (fun _ => ?_) | refine xl_box rfl (fun _ => ?_) | refine xl_store rfl rfl ?_) | fail)
  exact wr_weak (fun _ h => h.drop (List.nil_sublist _)) (wr_tmp rfl rfl rfl)
theorem reads_okV (hG : Glob M) (hM : Laid M w) (st : Int) {v : Value} {hs : List Go.Pct.Pr} (hh : SlP M v hs) (bd : List UInt8) : Calls Tryz.prog 5 #[.agg [i64 st, v, str bd].toArray] w (RetE w (.bool true)) := by
  obtain ⟨a, cap, b, o, cs, T, fz, rfl, _⟩ := SlP.open hh
  exact reads_ok hG hM st hh bd
end Go.Proofs.YtgfbieplidpebaaGreatDoor
/-
  Arguments opened: what the reading of an argument says of memory, with the sizes that a row allows. Nothing of the program stands here.
-/
namespace Go.Eng
open Go.RowKit Go.ChangeShapes Go.WideShapes

/-- all that stands in a world -/
def All (W : World) : Ghost := fun b o => W.heap[b]? = some o
theorem all_laid (W : World) : Laid (All W) W := fun _ _ h => h
theorem cell_inv {W : World} {g i : Nat} {v : Value} (h : W.cell? ⟨g, i, none⟩ = some v) : ∃ cs T fz, W.heap[g]? = some (.cells cs T fz) ∧ cs[i]? = some v := by
  unfold World.cell? at h
  split at h
  · rename_i cs T fz e; exact ⟨cs, T, fz, e, by simpa using h⟩
  · cases h
/-- a datum's sizes -/
def Wt {H : Type} (P : Program) (t : TypeId) (d : DataW H) : Prop := ∀ n ∈ d.weights P t, n ≤ reachBytes
/-- how the cells of a type open -/
structure Opens (P : Program) (w : World) (t : TypeId) {α : Type} (R : α → List Value → Prop) : Prop where
  go : ∀ {H : Type} (enc : TypeId × Value → H) (fuel : Nat) (cs : List Value) (d : DataW H) (ps : List MemPlace), DataW.trod enc P w 0 (fun _ => true) true fuel t cs = some (d, ps) → Wt P t d → ∃ x, R x cs
section
variable {P : Program} {w : World} {t : TypeId}
theorem str_of (s : ByteArray) : Value.string s = str s.data.toList := by cases s; simp
theorem opens_str (ht : P.underlying t = some .string) : Opens P w t (fun s vs => vs = [str s] ∧ s.length ≤ reachBytes) := ⟨fun enc fuel cs d ps h hw => by
  obtain ⟨s, e1, e2, _⟩ := DataW.trod_string ht h
  simp only [Prod.mk.injEq] at e2
  refine ⟨s.data.toList, by rw [e1, str_of], ?_⟩
  exact hw _ (by rw [e2.1]; simp [DataW.weights])⟩
theorem opens_bool (ht : P.underlying t = some .bool) : Opens P w t (fun b vs => vs = [.bool b]) := ⟨fun enc fuel cs d ps h hw => by
  cases fuel with
  | zero => simp [DataW.trod] at h
  | succ n =>
    unfold DataW.trod at h
    rw [ht] at h
    split at h <;> simp_all⟩
theorem opens_int {k : IntKind} (ht : P.underlying t = some (.int k)) : Opens P w t (fun z vs => vs = [.int k z] ∧ k.min ≤ z ∧ z ≤ k.max) := ⟨fun enc fuel cs d ps h hw => by
  obtain ⟨z, e1, _, hwf⟩ := DataW.trod_int ht h
  refine ⟨z, e1, ?_⟩
  simpa [Lit.wf] using hwf⟩
theorem wt_all {H : Type} {e : TypeId} {d : DataW H} : ∀ {ds : List (DataW H)}, d ∈ ds → ∀ n ∈ d.weights P e, n ∈ DataW.weightsAll P e ds
  | x :: ds, hd, n, hn => by
    simp only [DataW.weightsAll, List.mem_append]
    rcases List.mem_cons.1 hd with rfl | hd
    · exact .inl hn
    · exact .inr (wt_all hd n hn)
theorem opens_slice {e : TypeId} {m : Nat} {α : Type} {R : α → List Value → Prop} (ht : P.underlying t = some (.slice e)) (hc : P.cellsOf e = m) (hm : 0 < m) (he : Opens P w e R) :
    Opens P w t (fun (l : List α) vs => ∃ v, vs = [v] ∧ Sl (All w) m R v l ∧ l.length * P.bytesOf e ≤ reachBytes) := ⟨fun enc fuel cs d ps h hw => by
  rcases Go.Deep.open_slice ht h with ⟨rfl, _⟩ | ⟨a, len, cap, q, n, D, Pl, rfl, _, hl, hcm, hq, hx, hel⟩
  · exact ⟨[], _, rfl, sl_nil, by simp⟩
  · simp only [if_true] at hq
    subst hq
    simp only [Prod.mk.injEq] at hx
    have hwt : ∀ i, i < len → Wt P e (D i) := by
      intro i hi k hk
      refine hw k ?_
      rw [hx.1]
      simp only [DataW.weights, ht, List.mem_cons, List.mem_append]
      exact .inr (.inl (wt_all (List.mem_map.2 ⟨i, by simpa using hi, rfl⟩) k hk))
    have hbytes : len * P.bytesOf e ≤ reachBytes := by
      refine Nat.le_trans (Nat.mul_le_mul_right _ (Nat.le_add_right len (q - len))) (hw ((len + (q - len)) * P.bytesOf e) ?_)
      rw [hx.1]
      simp [DataW.weights, ht]
    have each : ∀ i, i < len → ∃ y : α, ∃ cs' : List Value, cs'.length = m ∧ R y cs' ∧ ∀ j, j < m → w.cell? (a.add (i * m + j)) = cs'[j]? := by
      intro i hi
      obtain ⟨cs', h1, h2⟩ := hel i (by omega)
      rw [hc] at h1
      obtain ⟨_, hlen, hcell⟩ := World.cells?_some h1
      obtain ⟨y, hy⟩ := he.go enc n cs' (D i) (Pl i) h2 (hwt i hi)
      exact ⟨y, cs', hlen, hy, fun j hj => by rw [← hcell j hj, Go.Deep.add_add]⟩
    have hmax : len ≤ 9223372036854775807 := by unfold maxLen at hcm; omega
    by_cases h0 : len = 0
    · subst h0
      exact ⟨[], _, rfl, ⟨some a, q, rfl, Nat.zero_le _, by simp, fun h => absurd rfl h⟩, by simp⟩
    · obtain ⟨y0, cs0, hl0, _, hc0⟩ := each 0 (by omega)
      have hc00 := hc0 0 hm
      have hsome : ∃ v, cs0[0]? = some v := ⟨cs0[0]'(by omega), by simp [show 0 < cs0.length by omega]⟩
      obtain ⟨v0, hv0⟩ := hsome
      rw [hv0] at hc00
      simp only [Nat.zero_mul, Nat.add_zero, Addr.add, if_true] at hc00
      obtain ⟨b, o, spot⟩ := a
      cases spot with
      | some x =>
        simp only [World.cell?] at hc00
        split at hc00
        · simp at hc00
        · cases hc00
      | none =>
        obtain ⟨cells, T, fz, hh, _⟩ := cell_inv hc00
        have : ∀ n, n ≤ len → ∃ l : List α, l.length = n ∧ ∀ i (hi : i < l.length), ∃ vs, vs.length = m ∧ R l[i] vs ∧ ∀ j, j < m → cells[o + i * m + j]? = vs[j]? := by
          intro n
          induction n with
          | zero => intro _; exact ⟨[], rfl, fun i hi => absurd hi (by simp)⟩
          | succ n ih =>
            intro hn
            obtain ⟨l, hl', hall⟩ := ih (by omega)
            obtain ⟨y, cs', h1, h2, h3⟩ := each n (by omega)
            refine ⟨l ++ [y], by simp [hl'], fun i hi => ?_⟩
            by_cases hin : i < l.length
            · obtain ⟨vs, g1, g2, g3⟩ := hall i hin
              exact ⟨vs, g1, by rw [List.getElem_append_left hin]; exact g2, g3⟩
            · have : i = n := by simp at hi; omega
              subst this
              refine ⟨cs', h1, ?_, fun j hj => ?_⟩
              · rw [List.getElem_append_right (by omega)]; simpa using h2
              · rw [← h3 j hj]
                have hadd : ∀ k, (⟨b, o, none⟩ : Addr).add k = ⟨b, o + k, none⟩ := by
                  intro k; unfold Addr.add; split
                  · simp_all
                  · rfl
                rw [hadd, cell_of hh, Nat.add_assoc]
        obtain ⟨l, hl', hall⟩ := this len (Nat.le_refl _)
        subst hl'
        exact ⟨l, _, rfl, ⟨some ⟨b, o, none⟩, q, rfl, hl, hmax, fun _ => ⟨b, o, cells, T, fz, rfl, hh, hall⟩⟩, hbytes⟩⟩
theorem wt_each {H : Type} : ∀ {ts : List TypeId} {ds : List (DataW H)} {j : Nat} {t : TypeId} {d : DataW H}, ts[j]? = some t → ds[j]? = some d → (∀ n ∈ DataW.weightsEach P ts ds, n ≤ reachBytes) → Wt P t d :=
  fun ht hd h n hn => h n (DataW.weights_mem_each ht hd n hn)
/-- a struct whose fields are of one cell each -/
theorem open_fields {fs : Array Field} (ht : P.underlying t = some (.struct fs)) (hone : (fs.toList.zipIdx.all fun x => Nat.beq x.1.offset x.2 && Nat.beq (P.cellsOf x.1.type) 1) = true) (hct : P.cellsOf t = fs.size)
    {H : Type} (enc : TypeId × Value → H) (fuel : Nat) (cs : List Value) (d : DataW H) (ps : List MemPlace) (h : DataW.trod enc P w 0 (fun _ => true) true fuel t cs = some (d, ps)) (hw : Wt P t d) :
    cs.length = fs.size ∧ ∀ (i : Nat) (f : Field), fs[i]? = some f → ∃ v, cs[i]? = some v ∧ ∀ {α : Type} {R : α → List Value → Prop}, Opens P w f.type R → ∃ x, R x [v] := by
  obtain ⟨xs, n, rfl, e, hl, hxl, hf⟩ := DataW.trod_struct ht h
  simp only [Prod.mk.injEq] at e
  rw [hct] at hl
  refine ⟨hl, fun i f hfi => ?_⟩
  have hi : i < fs.size := by
    rcases Nat.lt_or_ge i fs.size with h' | h'
    · exact h'
    · simp [Array.getElem?_eq_none h'] at hfi
  have h1 := List.all_eq_true.1 hone (f, i) (by
    rw [List.mem_zipIdx_iff_getElem?]
    simpa using hfi)
  simp only [Bool.and_eq_true] at h1
  have ho : f.offset = i := Nat.eq_of_beq_eq_true h1.1
  have hc1 : P.cellsOf f.type = 1 := Nat.eq_of_beq_eq_true h1.2
  have hg := hf i f hfi
  have hcs : i < cs.length := by omega
  rw [ho, hc1, List.drop_eq_getElem_cons hcs, List.take_succ_cons, List.take_zero] at hg
  refine ⟨cs[i], by simp [hcs], fun {α R} hR => ?_⟩
  have hxi : i < xs.length := by omega
  rw [List.getElem?_eq_getElem hxi] at hg
  refine hR.go enc n [cs[i]] (xs[i]).1 (xs[i]).2 hg ?_
  intro k hk
  refine hw k ?_
  rw [e.1]
  simp only [DataW.weights, ht]
  exact DataW.weights_mem_each (j := i) (t := f.type) (d := (xs[i]).1) (by simp [hfi]) (by simp [hxi]) k hk
/-- a pair of texts -/
def IsPr (p : List UInt8 × List UInt8) (vs : List Value) : Prop := vs = [str p.1, str p.2] ∧ p.1.length ≤ reachBytes ∧ p.2.length ≤ reachBytes
theorem two_cells {cs : List Value} {v0 v1 : Value} (hl : cs.length = 2) (h0 : cs[0]? = some v0) (h1 : cs[1]? = some v1) : cs = [v0, v1] := by
  match cs, hl with
  | [a, b], _ => simp at h0 h1; rw [h0, h1]
theorem opens_pr {f0 f1 : Field} (ht : P.underlying t = some (.struct #[f0, f1])) (hone : ((#[f0, f1] : Array Field).toList.zipIdx.all fun x => Nat.beq x.1.offset x.2 && Nat.beq (P.cellsOf x.1.type) 1) = true) (hct : P.cellsOf t = 2)
    (t0 : P.underlying f0.type = some .string) (t1 : P.underlying f1.type = some .string) : Opens P w t IsPr := ⟨fun enc fuel cs d ps h hw => by
  obtain ⟨hl, hf⟩ := open_fields ht hone hct enc fuel cs d ps h hw
  obtain ⟨v0, e0, g0⟩ := hf 0 f0 rfl
  obtain ⟨v1, e1, g1⟩ := hf 1 f1 rfl
  obtain ⟨s0, k0, b0⟩ := g0 (opens_str t0)
  obtain ⟨s1, k1, b1⟩ := g1 (opens_str t1)
  simp only [List.cons.injEq, and_true] at k0 k1
  refine ⟨(s0, s1), ?_, b0, b1⟩
  rw [two_cells hl e0 e1, k0, k1]⟩
/-- an argument -/
theorem open_arg {α : Type} {R : α → List Value → Prop} (hR : Opens P w t R) {H : Type} {enc : TypeId × Value → H} {v : Value} {d : DataW H} {ps : List MemPlace} (h : DataW.Trod enc P w 0 (fun _ => true) true t v d ps) (hw : Wt P t d) : ∃ x, R x v.cells.toList := by
  obtain ⟨fuel, hf⟩ := h
  exact hR.go enc fuel _ d ps hf hw
theorem sl_slS {M : Ghost} {v : Value} {l : List (List UInt8)} (h : Sl M 1 (fun s vs => vs = [str s] ∧ s.length ≤ reachBytes) v l) : SlS M v l ∧ ∀ s ∈ l, s.length ≤ reachBytes := by
  refine ⟨h.mono (fun _ _ h => h) (fun _ _ _ h => h.1), fun s hs => ?_⟩
  obtain ⟨_, _, _, _, _, h4⟩ := h
  obtain ⟨b, o, cs, T, fz, _, _, h7⟩ := h4 (by rintro rfl; cases hs)
  obtain ⟨i, hi, rfl⟩ := List.mem_iff_getElem.1 hs
  obtain ⟨vs, _, hR, _⟩ := h7 i hi
  exact hR.2
theorem sl_slP {M : Ghost} {v : Value} {l : List (List UInt8 × List UInt8)} (h : Sl M 2 IsPr v l) : SlP M v l ∧ ∀ p ∈ l, p.1.length ≤ reachBytes ∧ p.2.length ≤ reachBytes := by
  refine ⟨h.mono (fun _ _ h => h) (fun _ _ _ h => h.1), fun s hs => ?_⟩
  obtain ⟨_, _, _, _, _, h4⟩ := h
  obtain ⟨b, o, cs, T, fz, _, _, h7⟩ := h4 (by rintro rfl; cases hs)
  obtain ⟨i, hi, rfl⟩ := List.mem_iff_getElem.1 hs
  obtain ⟨vs, _, hR, _⟩ := h7 i hi
  exact hR.2
end
end Go.Eng
/-
  The arguments of this program's laws, opened, with the sizes that a row allows.
-/
namespace Go.Proofs.YtgfbieplidpebaaGreatDoor
open Go.ChangeShapes Go.WideShapes Go.RowKit Go.Eng Go.Pct
set_option maxRecDepth 100000
set_option linter.unusedVariables false
set_option linter.unusedSimpArgs false

variable {H : Type} {enc : TypeId × Value → H} {W : World} {base : Nat} {v : Value} {d : DataW H} {ps : List MemPlace}
theorem reach_le {n : Nat} (h : n ≤ reachBytes) : n ≤ 140737488355328 := Nat.le_trans h (by decide)
theorem small_of {l : List Pr} (h : ∀ p ∈ l, p.1.length ≤ reachBytes ∧ p.2.length ≤ reachBytes) : Small 140737488355328 l := fun p hp => ⟨reach_le (h p hp).1, reach_le (h p hp).2⟩
theorem opn_str : Opens Tryz.prog W 9 (fun s vs => vs = [str s] ∧ s.length ≤ reachBytes) := opens_str Tryz.underlying9
theorem opn_pr : Opens Tryz.prog W 50 IsPr := opens_pr Tryz.underlying50 (by kernel_rfl) (by kernel_rfl) Tryz.underlying9 Tryz.underlying9
theorem opn_prs : Opens Tryz.prog W 22 (fun (l : List Pr) vs => ∃ v, vs = [v] ∧ Sl (All W) 2 IsPr v l ∧ l.length * Tryz.prog.bytesOf 50 ≤ reachBytes) := opens_slice Tryz.underlying22 (by kernel_rfl) (by decide) opn_pr
theorem opn_strs : Opens Tryz.prog W 23 (fun (l : List (List UInt8)) vs => ∃ v, vs = [v] ∧ Sl (All W) 1 (fun s vs => vs = [str s] ∧ s.length ≤ reachBytes) v l ∧ l.length * Tryz.prog.bytesOf 9 ≤ reachBytes) := opens_slice Tryz.underlying23 (by kernel_rfl) (by decide) opn_str

theorem arg_str (hval : Value.okWide Tryz.prog W .any base 9 v) (hd : DataW.Trod enc Tryz.prog W 0 (fun _ => true) true 9 v d ps) (hw : Wt Tryz.prog 9 d) : ∃ s, v = str s ∧ s.length ≤ reachBytes := by
  obtain ⟨s0, rfl⟩ := okWide_string Tryz.underlying9 hval
  obtain ⟨s, hs, hl⟩ := open_arg opn_str hd hw
  simp only [Value.cells, List.cons.injEq, and_true] at hs
  exact ⟨s, hs, hl⟩
theorem arg_bool (hval : Value.okWide Tryz.prog W .any base 4 v) : ∃ b, v = .bool b := okWide_bool Tryz.underlying4 hval
theorem arg_int (hval : Value.okWide Tryz.prog W .any base 3 v) (hd : DataW.Trod enc Tryz.prog W 0 (fun _ => true) true 3 v d ps) (hw : Wt Tryz.prog 3 d) : ∃ z : Int, v = i64 z ∧ -9223372036854775808 ≤ z ∧ z ≤ 9223372036854775807 := by
  obtain ⟨z0, rfl⟩ := okWide_int Tryz.underlying3 hval
  obtain ⟨z, hz, h1, h2⟩ := open_arg (opens_int Tryz.underlying3) hd hw
  simp only [Value.cells, List.cons.injEq, and_true] at hz
  exact ⟨z, hz, h1, h2⟩
theorem arg_u8 (hval : Value.okWide Tryz.prog W .any base 5 v) (hd : DataW.Trod enc Tryz.prog W 0 (fun _ => true) true 5 v d ps) (hw : Wt Tryz.prog 5 d) : ∃ c : UInt8, v = byt c := by
  obtain ⟨z0, rfl⟩ := okWide_int Tryz.underlying5 hval
  obtain ⟨z, hz, h1, h2⟩ := open_arg (opens_int Tryz.underlying5) hd hw
  simp only [Value.cells, List.cons.injEq, and_true] at hz
  rw [hz]
  have h1 : (0 : Int) ≤ z := h1
  have h2 : z ≤ 255 := h2
  refine ⟨UInt8.ofNat z.toNat, ?_⟩
  have h3 : ((UInt8.ofNat z.toNat).toNat : Int) = z := by
    have : z.toNat < 256 := by omega
    simp [Nat.mod_eq_of_lt this]; omega
  rw [byt, h3]
theorem arg_prs (hval : Value.okWide Tryz.prog W .any base 22 v) (hd : DataW.Trod enc Tryz.prog W 0 (fun _ => true) true 22 v d ps) (hw : Wt Tryz.prog 22 d) : ∃ l : List Pr, SlP (All W) v l ∧ Small 140737488355328 l := by
  obtain ⟨a0, len, cap, rfl⟩ := okWide_slice Tryz.underlying22 hval
  obtain ⟨l, u, hu, hl, _⟩ := open_arg opn_prs hd hw
  simp only [Value.cells, List.cons.injEq, and_true] at hu
  subst hu
  exact ⟨l, (sl_slP hl).1, small_of (sl_slP hl).2⟩
theorem arg_strs (hval : Value.okWide Tryz.prog W .any base 23 v) (hd : DataW.Trod enc Tryz.prog W 0 (fun _ => true) true 23 v d ps) (hw : Wt Tryz.prog 23 d) : ∃ l : List (List UInt8), SlS (All W) v l ∧ ∀ s ∈ l, s.length ≤ 140737488355328 := by
  obtain ⟨a0, len, cap, rfl⟩ := okWide_slice Tryz.underlying23 hval
  obtain ⟨l, u, hu, hl, _⟩ := open_arg opn_strs hd hw
  simp only [Value.cells, List.cons.injEq, and_true] at hu
  subst hu
  exact ⟨l, (sl_slS hl).1, fun s hs => reach_le ((sl_slS hl).2 s hs)⟩
theorem arg_agg {t : TypeId} {fs : Array Field} (ht : Tryz.prog.underlying t = some (.struct fs)) (hval : Value.okWide Tryz.prog W .any base t v) : ∃ cs, v = .agg cs := by
  simp only [Value.okWide, ht] at hval
  obtain ⟨cs, h, _⟩ := hval
  exact ⟨cs, h⟩
theorem three_cells {cs : List Value} {v0 v1 v2 : Value} (hl : cs.length = 3) (h0 : cs[0]? = some v0) (h1 : cs[1]? = some v1) (h2 : cs[2]? = some v2) : cs = [v0, v1, v2] := by
  match cs, hl with
  | [a, b, c], _ => simp at h0 h1 h2; rw [h0, h1, h2]
theorem four_cells {cs : List Value} {v0 v1 v2 v3 : Value} (hl : cs.length = 4) (h0 : cs[0]? = some v0) (h1 : cs[1]? = some v1) (h2 : cs[2]? = some v2) (h3 : cs[3]? = some v3) : cs = [v0, v1, v2, v3] := by
  match cs, hl with
  | [a, b, c, d], _ => simp at h0 h1 h2 h3; rw [h0, h1, h2, h3]
theorem arg_rsp (hval : Value.okWide Tryz.prog W .any base 31 v) (hd : DataW.Trod enc Tryz.prog W 0 (fun _ => true) true 31 v d ps) (hw : Wt Tryz.prog 31 d) :
    ∃ (st : Int) (hv : Value) (l : List Pr) (bd : List UInt8), v = .agg #[i64 st, hv, str bd] ∧ SlP (All W) hv l ∧ Small 140737488355328 l ∧ bd.length ≤ 140737488355328 := by
  obtain ⟨cs, rfl⟩ := arg_agg Tryz.underlying31 hval
  obtain ⟨fuel, hf⟩ := hd
  obtain ⟨hlen, hfs⟩ := open_fields Tryz.underlying31 (by kernel_rfl) (by kernel_rfl) enc fuel _ d ps hf hw
  obtain ⟨v0, e0, g0⟩ := hfs 0 _ rfl
  obtain ⟨v1, e1, g1⟩ := hfs 1 _ rfl
  obtain ⟨v2, e2, g2⟩ := hfs 2 _ rfl
  obtain ⟨z, hz, _⟩ := g0 (opens_int Tryz.underlying3)
  obtain ⟨l, u, hu, hl, _⟩ := g1 opn_prs
  obtain ⟨s, hs, hb⟩ := g2 opn_str
  simp only [List.cons.injEq, and_true] at hz hu hs
  have h3 := three_cells hlen e0 e1 e2
  refine ⟨z, u, l, s, ?_, (sl_slP hl).1, small_of (sl_slP hl).2, reach_le hb⟩
  rw [hz, hu, hs] at h3
  have h4 : cs.toList = [i64 z, u, str s] := h3
  have h5 : cs = #[i64 z, u, str s] := by rw [← Array.toArray_toList (xs := cs), h4]
  rw [h5]
end Go.Proofs.YtgfbieplidpebaaGreatDoor
/-
  The frames' common part: what a row's world holds; a world for the witness.
-/
namespace Go.Proofs.YtgfbieplidpebaaGreatDoor
open Go.ChangeShapes Go.WideShapes Go.ChangeAt Go.RowKit Go.Eng Go.Pct
set_option maxRecDepth 100000

theorem own : ownKnob Tryz.prog.godebug = none := by kernel_rfl
theorem gMarks : Tryz.prog.globalNamed "matricula/xml.marks" = some 0 := by kernel_rfl
theorem gMarksT : (Tryz.prog.globals[0]?).map (·.type) = some 122 := by kernel_rfl
theorem cellsPrM : Tryz.prog.cellsOf 50 = 2 := by kernel_rfl
theorem cellsStrM : Tryz.prog.cellsOf 9 = 1 := by kernel_rfl
def markD : DataW Unit := .agg [.agg [.lit (.string [38]), .lit (.string [38, 97, 109, 112, 59])], .agg [.lit (.string [60]), .lit (.string [38, 108, 116, 59])], .agg [.lit (.string [62]), .lit (.string [38, 103, 116, 59])], .agg [.lit (.string [34]), .lit (.string [38, 113, 117, 111, 116, 59])], .agg [.lit (.string [39]), .lit (.string [38, 35, 51, 57, 59])]]
theorem pair_cells {W : World} {fuel : Nat} {cs : List Value} {a b : List UInt8} {q : List MemPlace} (h : DataW.trod (fun _ => ()) Tryz.prog W 0 (fun _ => true) false fuel 50 cs = some (.agg [.lit (.string a), .lit (.string b)], q)) : cs[0]? = some (str a) ∧ cs[1]? = some (str b) := by
  obtain ⟨xs, n, rfl, hx, hl, hxl, hall⟩ := DataW.trod_struct Tryz.underlying50 h
  have hxs : xs.map (·.1) = [.lit (.string a), .lit (.string b)] := by
    have := congrArg Prod.fst hx
    simpa using this.symm
  match xs, hxs with
  | [x0, x1], hxs =>
    simp only [List.map_cons, List.map_nil, List.cons.injEq, and_true] at hxs
    have h0 := hall 0 _ rfl
    have h1 := hall 1 _ rfl
    obtain ⟨s0, e0, e0', _⟩ := DataW.trod_string Tryz.underlying9 h0
    obtain ⟨s1, e1, e1', _⟩ := DataW.trod_string Tryz.underlying9 h1
    have e0 : (cs.drop 0).take (Tryz.prog.cellsOf 9) = [.string s0] := e0
    have e1 : (cs.drop 1).take (Tryz.prog.cellsOf 9) = [.string s1] := e1
    rw [cellsStrM] at e0 e1
    obtain rfl : x0 = _ := e0'
    obtain rfl : x1 = _ := e1'
    simp only [DataW.lit.injEq, Lit.string.injEq] at hxs
    obtain ⟨rfl, rfl⟩ := hxs
    constructor
    · have := congrArg (·[0]?) e0
      simp only [List.getElem?_take, List.getElem?_drop] at this
      rw [if_pos (by decide)] at this
      rw [← str_of]
      simpa using this
    · have := congrArg (·[0]?) e1
      simp only [List.getElem?_take, List.getElem?_drop] at this
      rw [if_pos (by decide)] at this
      rw [← str_of]
      simpa using this
theorem marks_of {W : World} {rest : List (String × DataW Unit)} (h : laidMet Tryz.prog (("matricula/xml.marks", markD) :: rest) W) : ∃ cs T fz, All W 0 (.cells cs T fz) ∧ ∀ j, j < 10 → cs[j]? = markCells[j]? := by
  obtain ⟨ps, ⟨g', t', cs, fuel, p, q, hg', ht', hvar, hd, _, _⟩, _⟩ := h
  obtain rfl := Option.some.inj (gMarks.symm.trans hg')
  obtain rfl := Option.some.inj (gMarksT.symm.trans ht')
  have hcell : ∃ T fz, All W 0 (.cells cs T fz) := by
    unfold World.var? at hvar
    rw [gMarks, Option.bind_some] at hvar
    split at hvar
    · rename_i cs' T fz hh
      simp only [Option.some.injEq] at hvar
      exact ⟨T, fz, by rw [← hvar]; exact hh⟩
    · cases hvar
  obtain ⟨T, fz, hh⟩ := hcell
  refine ⟨cs, T, fz, hh, ?_⟩
  have key : ∀ i, i < 5 → cs[i * 2]? = markCells[i * 2]? ∧ cs[i * 2 + 1]? = markCells[i * 2 + 1]? := by
    intro i hi
    obtain ⟨f', d, q', h1, h2⟩ := Lib.array_elem Tryz.underlying122 hd i hi
    rw [cellsPrM] at h2
    have tail : ∀ (a b : List UInt8), d = .agg [.lit (.string a), .lit (.string b)] → cs[i * 2]? = some (str a) ∧ cs[i * 2 + 1]? = some (str b) := by
      rintro a b rfl
      obtain ⟨g0, g1⟩ := pair_cells h2
      simp only [List.getElem?_take, List.getElem?_drop] at g0 g1
      rw [if_pos (by decide)] at g0 g1
      exact ⟨by simpa using g0, by simpa using g1⟩
    match i, hi, h1, tail with
    | 0, _, h1, tail => cases h1; exact tail _ _ rfl
    | 1, _, h1, tail => cases h1; exact tail _ _ rfl
    | 2, _, h1, tail => cases h1; exact tail _ _ rfl
    | 3, _, h1, tail => cases h1; exact tail _ _ rfl
    | 4, _, h1, tail => cases h1; exact tail _ _ rfl
  intro j hj
  have e : j = j / 2 * 2 + j % 2 := by omega
  have h2 := key (j / 2) (by omega)
  rcases Nat.mod_two_eq_zero_or_one j with h | h
  · rw [h] at e; rw [e]; exact h2.1
  · rw [h] at e; rw [e]; exact h2.2
/-- what is asked of a row's list -/
structure Lists (l : List (String × DataW Unit)) : Prop where
  marks : l.filter (fun x => x.1 == "matricula/xml.marks") = [("matricula/xml.marks", markD)]
theorem glob_of {W : World} {l : List (String × DataW Unit)} (hl : Lists l) (h : laidMetH Tryz.prog l W) (hsh : W.ShapedOpen Tryz.prog) : Glob (All W) := by
  constructor
  · obtain ⟨m, hm⟩ := (Tryz.laysM219).s1_3 W hsh
    obtain ⟨cs, T, fz, hh, h2⟩ := cell_inv hm
    exact ⟨cs, T, fz, m, hh, h2⟩
  · have h1 := h.filter (fun x => x.1 == "matricula/xml.marks")
    rw [hl.marks, Go.MakeChecks.laidMetH_plain _ _ _ (by rfl)] at h1
    exact marks_of h1

theorem laidOut : laidOutB Tryz.prog = true := by kernel_rfl
theorem trodAll_below {H : Type} {enc : TypeId × Value → H} {P : Program} (hl : laidOutB P = true) {W W' : World} (hb : Below W.heap.size W W') : ∀ {ts : List TypeId} {vs : List Value} {ds : List (DataW H)} {ps : List MemPlace},
    (ts.all fun t => P.readableRec t && decide (t < P.types.size)) = true → DataW.TrodAll enc P W 0 (fun _ => true) true ts vs ds ps → (∀ x ∈ ps, x.block < W.heap.size) → DataW.TrodAll enc P W' 0 (fun b => decide (b < W.heap.size)) true ts vs ds ps
  | [], [], [], _, _, h, _ => h
  | _ :: _, _ :: _, _ :: _, _, hT, ⟨p, q, h1, h2, e⟩, hs => by
    simp only [List.all_cons, Bool.and_eq_true, decide_eq_true_eq] at hT
    exact ⟨p, q, Below.trod hl hT.1.1 hT.1.2 h1 hb (fun x hx => hs x (by rw [e]; exact List.mem_append_left _ hx)), trodAll_below hl hb hT.2 h2 (fun x hx => hs x (by rw [e]; exact List.mem_append_right _ hx)), e⟩
/-- what a table's datum lays -/
def cellsD : Nat → DataW Unit → List Value
  | 0, _ => []
  | n + 1, .agg l => l.flatMap (cellsD n)
  | _ + 1, .lit (.int k z) => [.int k z]
  | _ + 1, .lit (.string s) => [.string ⟨s.toArray⟩]
  | _, _ => []
def layAt (d : DataW Unit) : Obj → Obj
  | .cells _ t fz => .cells (cellsD 5 d).toArray t fz
  | o => o
/-- A world for the witness: the settled one, the tables holding what their initialisers lay. -/
noncomputable def laidWorld (os : Os) (l : List (String × DataW Unit)) : World :=
  { World.holding Tryz.prog os ⟨#[], #[], []⟩ with heap := l.foldl (fun h x => match Tryz.prog.globalNamed x.1 with | some g => h.modify g (layAt x.2) | none => h) (World.holding Tryz.prog os ⟨#[], #[], []⟩).heap }
theorem noStand (t : TypeId) (ts : Array TypeId) (h : ts.all (fun t => !Tryz.prog.wantsStandIn t) = true) (j : Nat) (ht : ts[j]? = some t) : Tryz.prog.wantsStandIn t = false := by
  have := (Array.all_eq_true'.1 h) t (Array.mem_of_getElem? ht)
  simpa using this
theorem sizes_of {H : Type} {ts us : List TypeId} {ds gs : List (DataW H)} (h : (DataW.weightsEach Tryz.prog (ts ++ us) (ds ++ gs)).all (· ≤ reachBytes) = true) {j : Nat} {t : TypeId} {d : DataW H} (ht : (ts ++ us)[j]? = some t) (hd : (ds ++ gs)[j]? = some d) : Wt Tryz.prog t d :=
  wt_each ht hd (fun n hn => by simpa using List.all_eq_true.1 h n hn)
end Go.Proofs.YtgfbieplidpebaaGreatDoor
/-
  The given statement of RenderReads: from the walk of RenderReads to the card.
-/
namespace Go.Proofs.YtgfbieplidpebaaGreatDoor
open Go.ChangeShapes Go.WideShapes Go.ChangeAt Go.RowKit Go.Eng Go.Pct
set_option maxRecDepth 100000
set_option linter.unusedSimpArgs false

theorem renderReads_lists : Lists Rows.renderReadsRow.laid := by constructor <;> kernel_rfl
theorem renderReads_contract (H : Type) (enc : TypeId × Value → H) (W : World) (base : Nat) (args : Array Value) (ds gs : List (DataW H)) (before : List MemPlace)
    (hval : ∀ (j : Nat) t v, Tryz.f5.params[j]? = some t → args[j]? = some v → Value.okWide Tryz.prog W .any base t v)
    (hW : DataW.Whole enc Tryz.prog Tryz.f5.params.toList Rows.renderReadsSpec.vars false W args.toList ds gs before)
    (hz : (DataW.weightsEach Tryz.prog (Tryz.f5.params.toList ++ (OpenSpec.ofChange Rows.renderReadsSpec).bare.plain.varTypes Tryz.prog) (ds ++ gs)).all (· ≤ reachBytes) = true) (hL : laidMetH Tryz.prog Rows.renderReadsRow.laid W) (hsh : W.ShapedOpen Tryz.prog) :
    Calls Tryz.prog 5 args W fun e W' => ∃ v, e = .returned v ∧ Rows.renderReadsSpec.post enc Tryz.prog Tryz.f5 false true false false W args v W' := by
  have hW' := hW
  obtain ⟨p, q, hA0, hV, rfl, hfz, hnd⟩ := hW
  have hAk : DataW.TrodAll enc Tryz.prog W 0 (fun _ => true) true Tryz.f5.params.toList args.toList ds p := hA0
  have hA := hAk
  rw [Tryz.params5] at hA hval hz
  obtain ⟨rfl, rfl⟩ := trodVars_none hV
  obtain ⟨v0, vs0, d0, ds0, p0, q0, hargs, rfl, hq0, h0, r0⟩ := trodAll_cons hA
  obtain ⟨rfl, rfl, hqn⟩ := trodAll_nil r0
  obtain rfl : args = #[v0] := by cases args; simp_all
  obtain ⟨st0, v0, l0, bd0, rfl, h0, k0, kb0⟩ := arg_rsp (hval 0 31 v0 rfl rfl) h0 (sizes_of (j := 0) hz rfl rfl)
  have hG := glob_of (W := W) renderReads_lists hL hsh
  have walk := reads_okV hG (all_laid W) st0 h0 bd0
  refine walk.mono fun e W' ⟨he, hg⟩ => ?_
  subst he
  have hb := hg.below
  refine ⟨_, rfl, ⟨_, _, _, [], _, [], hW', trodAll_mk1 (shut_bool Tryz.underlying4 _), trodAll_below laidOut hb (by kernel_rfl) hAk (fun x hx => ?_), rfl, hb.frame _, fun h => by cases h⟩⟩
  have := hW'.lt x (by simpa using hx)
  simpa using this

theorem renderReads_laid (os : Os) : laidMet Tryz.prog Rows.renderReadsRow.laid ((laidWorld os Rows.renderReadsRow.laid).forCall (fun _ _ => 0) ⟨#[], #[.agg #[.int .i64 0, .slice none 0 0, .string ⟨#[]⟩]], []⟩).memory :=
  laidMet_of_run' 8 (by kernel_rfl) (by kernel_rfl)
theorem renderReads_reads (os : Os) {H : Type} (enc : TypeId × Value → H) : ∃ places, DataW.whole enc Tryz.prog ((laidWorld os Rows.renderReadsRow.laid).forCall (fun _ _ => 0) ⟨#[], #[.agg #[.int .i64 0, .slice none 0 0, .string ⟨#[]⟩]], []⟩).memory Tryz.f5.params.toList Rows.renderReadsSpec.vars false (#[Value.agg #[.int .i64 0, .slice none 0 0, .string ⟨#[]⟩]] : Array Value).toList 8 = some ([.agg [.lit (.int .i64 0), .nil, .lit (.string [])]], [], places) :=
  ⟨[], by kernel_rfl⟩
theorem renderReads_lifted (os : Os) (started : os.Started) (H : Type) (enc : TypeId × Value → H) (F : Stop.Interp) :
    ReturnsInHanded {} Tryz.checked os 5 .any ((OpenSpec.ofChange Rows.renderReadsSpec).preRow enc Tryz.prog Tryz.f5 Rows.renderReadsRow.domain false Rows.renderReadsRow.laid) (((OpenSpec.ofChange Rows.renderReadsSpec).at F).post enc Tryz.prog Tryz.f5 false true false false) := by
  obtain ⟨places, hx⟩ := renderReads_reads os enc
  refine returnsInHanded_of_row (C := Tryz.checked) (s := OpenSpec.ofChange Rows.renderReadsSpec) own started (by kernel_rfl) Tryz.func5
    (witness_row_at (enc := enc) (C := Tryz.checked) false (laidWorld os Rows.renderReadsRow.laid) #[.agg #[.int .i64 0, .slice none 0 0, .string ⟨#[]⟩]] rfl (by kernel_rfl) (by kernel_rfl) (by kernel_rfl)
      (OpenSpec.preRow_of_cond 8 hx (by kernel_rfl) (fun k hk => by cases hk) (by kernel_rfl) (renderReads_laid os))) ?_
  intro W base args ds gs before hval hW _ _ hz hL hsh _
  exact renderReads_contract H enc W base args ds gs before hval hW hz hL hsh
theorem renderReads_said : Rows.RenderReadsSaid :=
  OpenClaim.holds_of_cond 5 Tryz.f5 rfl rfl rfl rfl rfl rfl rfl ⟨rfl, rfl, rfl, rfl, rfl⟩ rfl rfl rfl rfl rfl (by kernel_rfl) Tryz.func5 (by kernel_rfl)
    (of_decide_eq_true (by kernel_rfl)) (by unfold Func.isWrapper; first | (rw [if_pos (by decide +kernel)]; kernel_rfl) | (rw [if_neg (by decide +kernel)]; exact ⟨rfl, rfl⟩))
    (fun os started H enc _ F => by rw [OpenClaim.pre_eq_preRow]; exact renderReads_lifted os started H enc F)
theorem renderReads_plain (f : FuncId) (fn : Func) (hf : Tryz.pinned.checked.prog.funcNamed "matricula/matriculalaw24.RenderReads" = some f) (hfn : Tryz.pinned.checked.prog.funcs[f]? = some fn) :
    false = Tryz.pinned.checked.prog.looks [] ∧ ∀ (j : Nat) t, fn.params[j]? = some t → Tryz.pinned.checked.prog.wantsStandIn t = false := by
  obtain rfl : f = 5 := Option.some.inj ((show Tryz.prog.funcNamed "matricula/matriculalaw24.RenderReads" = some 5 by kernel_rfl).symm.trans hf) |>.symm
  obtain rfl : fn = Tryz.f5 := (Option.some.inj (Tryz.func5.symm.trans hfn)).symm
  refine ⟨by kernel_rfl, fun j t ht => ?_⟩
  rw [Tryz.params5] at ht
  exact noStand t _ (by kernel_rfl) j ht
/-- The given statement. -/
theorem renderReads_card : Rows.RenderReadsCardSaid :=
  Claim7.holds_tied_plain_at .later [] _ _ _ _ renderReads_said (fun _ h => by cases h) (by kernel_rfl) (fun _ h => by cases h) renderReads_row_tie rfl ⟨rfl, rfl⟩ (by kernel_rfl) rfl renderReads_plain (by kernel_rfl)
end Go.Proofs.YtgfbieplidpebaaGreatDoor
