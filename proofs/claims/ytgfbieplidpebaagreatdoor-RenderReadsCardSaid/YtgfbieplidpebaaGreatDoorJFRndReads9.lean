/-
  Texts of a proof, joined: RndY, CasR.
-/
import Derived.Test.YtgfbieplidpebaaGreatDoorJFRndReads1
import Derived.Test.YtgfbieplidpebaaGreatDoorJFRndReads2
import Derived.Test.YtgfbieplidpebaaGreatDoorJFRndReads3
import Derived.Test.YtgfbieplidpebaaGreatDoorJFRndReads4
import Derived.Test.YtgfbieplidpebaaGreatDoorJFRndReads5
import Derived.Test.YtgfbieplidpebaaGreatDoorJFRndReads6
import Derived.Test.YtgfbieplidpebaaGreatDoorJFRndReads7
import Derived.Test.YtgfbieplidpebaaGreatDoorJFRndReads8
/-
  matricularef24.ReadAnswer.
-/
namespace Go.Proofs.YtgfbieplidpebaaGreatDoor
open Go.Eng Go.Pct Go.Xml Go.Cas
set_option maxRecDepth 10000
set_option linter.unusedSimpArgs false
set_option linter.unusedVariables false

variable {M : Ghost} {w0 w : World} {bs : List Nat} {H : List (Nat × Obj)}
theorem ra_bad {r : Rs} (h : (rfailed r sAF sNotOk).2 = true) : rreadAnswerP r = (suc0, (rfailed r sAF sNotOk).1, true) := by unfold rreadAnswerP; rw [if_pos h]
theorem ra_none {r : Rs} (h : ¬ (rfailed r sAF sNotOk).2 = true) (h2 : topR r sXml [sResp, sSuc] = none) : rreadAnswerP r = (suc0, [], false) := by unfold rreadAnswerP; rw [if_neg h, h2]
theorem ra_no {r : Rs} {n : Nd} (h : ¬ (rfailed r sAF sNotOk).2 = true) (h2 : topR r sXml [sResp, sSuc] = some n) (h3 : ¬ sucOk r n) : rreadAnswerP r = (suc0, [], false) := by unfold rreadAnswerP; rw [if_neg h, h2]; simp only; rw [if_neg h3]
theorem ra_yes {r : Rs} {n : Nd} (h : ¬ (rfailed r sAF sNotOk).2 = true) (h2 : topR r sXml [sResp, sSuc] = some n) (h3 : sucOk r n) : rreadAnswerP r = if parseOk (kdN n) = true then (parsed (kdN n), [], true) else (suc0, [], false) := by unfold rreadAnswerP; rw [if_neg h, h2]; simp only; rw [if_pos h3]
theorem no4 {a b c d : Prop} [Decidable a] [Decidable b] [Decidable c] [Decidable d] (ha : a) (hb : b) (h1 : c) (hd : d) (h : (decide a && decide b && decide c && decide d) = false) : False := by simp [ha, hb, h1, hd] at h
theorem gA {i k : Nat} (h : (bif true then decide ((i : Int) < (k : Int)) == true else false) = true) : i < k := by simp at h; omega
theorem gB {i k : Nat} {X : Bool} (h : (bif true then (decide ((i : Int) < (k : Int)) && X) == true else false) = true) : i < k := by simp at h; omega
theorem gC {i k : Nat} {X Y : Bool} (h : (bif true then (decide ((i : Int) < (k : Int)) && X && Y) == true else false) = true) : i < k := by simp at h; omega
theorem gA1 {k : Nat} (h : (bif true then decide ((1 : Int) < (k : Int)) == true else false) = true) : 1 < k := by simp at h; omega
theorem gB1 {k : Nat} {X : Bool} (h : (bif true then (decide ((1 : Int) < (k : Int)) && X) == true else false) = true) : 1 < k := by simp at h; omega
theorem gC1 {k : Nat} {X Y : Bool} (h : (bif true then (decide ((1 : Int) < (k : Int)) && X && Y) == true else false) = true) : 1 < k := by simp at h; omega
theorem kid_cells {M : Ghost} {D : Nat} {k : List Nd} {cs : Array Value} {o : Nat} (k4 : ∀ i (h : i < k.length), ∃ vs : List Value, vs.length = 4 ∧ NodeC M D k[i] vs ∧ ∀ j, j < 4 → cs[o + i * 4 + j]? = vs[j]?) (i : Nat) :
    ∃ (vn : List UInt8) (va : Option Addr) (vl vc : Nat) (vt : List UInt8) (va2 : Option Addr) (vl2 vc2 : Nat), i < k.length → NodeC M D (kidN k i) [str vn, .slice va vl vc, str vt, .slice va2 vl2 vc2] ∧ ∀ j, j < [str vn, Value.slice va vl vc, str vt, Value.slice va2 vl2 vc2].length → cs[o + i * 4 + j]? = [str vn, Value.slice va vl vc, str vt, Value.slice va2 vl2 vc2][j]? := by
  by_cases h : i < k.length
  · obtain ⟨us, hu, hus, hc⟩ := k4 i h
    obtain ⟨vn, va, vl, vc, vt, va2, vl2, vc2, rfl⟩ := node_open hus
    refine ⟨vn, va, vl, vc, vt, va2, vl2, vc2, fun _ => ⟨?_, fun j hj => hc j hj⟩⟩
    unfold kidN; rw [getD_nd h]; exact hus
  · exact ⟨[], none, 0, 0, [], none, 0, 0, fun h' => absurd h' h⟩
theorem okA_cells {M : Ghost} {D : Nat} {k : List Nd} {i : Nat} {name vn : List UInt8} {va : Option Addr} {vl vc : Nat} {vt : List UInt8} {va2 : Option Addr} {vl2 vc2 : Nat} {P : Prop} (h : i < k.length → NodeC M (D + 1) (kidN k i) [str vn, .slice va vl vc, str vt, .slice va2 vl2 vc2] ∧ P) : okA k i name ↔ (i < k.length ∧ vn = name ∧ 0 < vl2 ∧ vl = 0) := by
  unfold okA
  by_cases hi : i < k.length
  · have hn := (h hi).1
    have h1 := node_nm hn
    obtain ⟨_, _, _, _, _, _, _, e1, _⟩ := SlP.open (node_at hn)
    obtain ⟨_, _, _, _, _, _, _, e2, _⟩ := Sl.open (node_kd hn)
    injection e1 with _ e1 _
    injection e2 with _ e2 _
    rw [h1, e1, e2, List.length_eq_zero_iff, List.length_pos_iff]
  · exact ⟨fun h => absurd h.1 hi, fun h => absurd h.1 hi⟩
theorem offk {X : Bool} {k : Nat} (h : k = 0) : (bif true then (X || decide ((k : Int) = 0)) == false else false) = false := by subst h; simp
/-- what the attributes have come to -/
structure JP (w : World) (M0 M1 : Ghost) (A : List Go.Pct.Pr) (B : Bool) where
  good : B = true
  M' : Ghost
  a : Option Addr
  l : Nat
  c : Nat
  sl : SlP M' (.slice a l c) A
  si : Since w M0 M'
  sub : ∀ b o, M1 b o → M' b o
structure JS (w : World) (M0 M1 : Ghost) (A : List (List UInt8)) (B : Bool) where
  good : B = true
  M' : Ghost
  a : Option Addr
  l : Nat
  c : Nat
  sl : SlS M' (.slice a l c) A
  si : Since w M0 M'
  sub : ∀ b o, M1 b o → M' b o
/-- a list, as far as a loop has come; all are good so far -/
structure PG (k : List Nd) (A : List Go.Pct.Pr) where
  i : Nat
  hi : i ≤ k.length
  all : ∀ j, j < i → goodA (k.getD j nodeZ) = true
  v : Value
  Hs : List (Nat × Obj)
  own : OwnS 50 2 v Hs (cellsP (A.take i))
structure TG (k : List Nd) (A : List (List UInt8)) where
  i : Nat
  hi : i ≤ k.length
  all : ∀ j, j < i → goodP (k.getD j nodeZ) = true
  v : Value
  Hs : List (Nat × Obj)
  own : OwnS 9 1 v Hs (cellsS (A.take i))
theorem all_nd {l : List Nd} {p : Nd → Bool} (h : ∀ j, j < l.length → p (l.getD j nodeZ) = true) : l.all p = true := by
  rw [List.all_eq_true]
  intro x hx
  obtain ⟨j, hj, rfl⟩ := List.mem_iff_getElem.1 hx
  have := h j hj
  rwa [getD_nd hj] at this
theorem no_nd {l : List Nd} {p : Nd → Bool} {i : Nat} (hi : i < l.length) (h : p (l.getD i nodeZ) = false) : l.all p = false := by
  rw [List.all_eq_false]
  exact ⟨l[i], List.getElem_mem _, by rw [← getD_nd hi, h]; simp⟩
def attrOf (x : Nd) : Go.Pct.Pr := ((nmN x).drop 4, txN x)
theorem step_nd {l : List Nd} {p : Nd → Bool} {i : Nat} (h : ∀ j, j < i → p (l.getD j nodeZ) = true) (hp : p (l.getD i nodeZ) = true) : ∀ j, j < i + 1 → p (l.getD j nodeZ) = true := by
  intro j hj
  by_cases e : j = i
  · subst e; exact hp
  · exact h j (by omega)
theorem ok_no1 {k : List Nd} (h : (kdA k).all goodA = false) : parseOk k = false := by unfold parseOk; rw [h]; rfl
theorem ok_no2 {k : List Nd} (h : (kdP k).all goodP = false) : parseOk k = false := by unfold parseOk; rw [h]; simp
theorem ok_no3 {k : List Nd} (h : at3 k ≠ k.length) : parseOk k = false := by unfold parseOk; rw [decide_eq_false h]; simp
theorem ok_yes {k : List Nd} (h1 : (kdA k).all goodA = true) (h2 : (kdP k).all goodP = true) (h3 : at3 k = k.length) : parseOk k = true := by unfold parseOk; rw [h1, h2, decide_eq_true h3]; rfl
set_option maxHeartbeats 4000000 in
theorem rReadAnswer_ok (hM : Laid M w) {r : Rs} {st : Int} {a l c bd} (hr : RsC M r st a l c bd) (hbd : bd.length ≤ 90000) : Calls Tryz.prog 23 #[.agg [i64 st, .slice a l c, str bd].toArray] w (RetS M w (fun M' H v => H = [] ∧ ∃ sv, v = .tuple #[sv, str (rreadAnswerP r).2.1, .bool (rreadAnswerP r).2.2] ∧ SucC M' (rreadAnswerP r).1 sv)) := by
  have hfl := fun {w : World} (hw : Laid M w) => failed24_ok hw hr hbd sAF sNotOk
  refine fn1 hM Tryz.func23 ?_
  by_cases hfe : (rfailed r sAF sNotOk).2 = true
  · rw [ra_bad hfe]
    rw [hfe] at hfl
    generalize (rfailed r sAF sNotOk).1 = code at *
    repeat' (first | refine sk ?_ | (refine gL ?_; first | refine wl_v rfl rfl rfl (by first | (exact oc 54 Tryz.call54 (h := fun hcg w hw => hfl hw.laid))) ?_ | refine xl_alloc (fun _ => ?_) | refine xl_box rfl (fun _ => ?_) | refine xl_store rfl rfl ?_ | refine xl_buildSlice rfl (fun _ => ?_)) | fail)
    refine wc_cond rfl (fun hc => ?_) (fun hc => by exfalso; simp at hc)
    repeat' (first | refine sk ?_ | (refine gL ?_; first | refine xl_alloc (fun _ => ?_) | refine xl_box rfl (fun _ => ?_) | refine xl_store rfl rfl ?_ | refine xl_buildSlice rfl (fun _ => ?_)) | fail)
    exact wr_layC3 (Hn := []) rfl rfl rfl rfl rfl rfl Since.refl (List.nil_sublist _) ⟨rfl, _, rfl, _, _, _, _, _, _, rfl, sl_nil, sl_nil⟩ pM
  have hrn := ra_none hfe
  have hr0 := fun {n : Nd} => ra_no (n := n) hfe
  have hry := fun {n : Nd} => ra_yes (n := n) hfe
  rw [show (rfailed r sAF sNotOk).2 = false from by simpa using hfe] at hfl
  generalize (rfailed r sAF sNotOk).1 = code at *
  repeat' (first | refine sk ?_ | (refine gL ?_; first | refine wl_v rfl rfl rfl (by first | (exact oc 54 Tryz.call54 (h := fun hcg w hw => hfl hw.laid))) ?_ | refine xl_alloc (fun _ => ?_) | refine xl_box rfl (fun _ => ?_) | refine xl_store rfl rfl ?_ | refine xl_buildSlice rfl (fun _ => ?_)) | fail)
  refine wc_cond rfl (fun hc => by exfalso; simp at hc) (fun hc => ?_)
  clear hc hfe hfl
  repeat' (first | refine sk ?_ | (refine gL ?_; first | refine xl_alloc (fun _ => ?_) | refine xl_box rfl (fun _ => ?_) | refine xl_store rfl rfl ?_ | refine xl_buildSlice rfl (fun _ => ?_)) | fail)
  rename_i b1 b2 b5 bq
  refine wl_publish (H1 := [(bq, .cells (cellsS [sResp, sSuc]).toArray 9 (0, 0))]) (fun hn => ?_)
  have hp : SlS (With M [(bq, .cells (cellsS [sResp, sSuc]).toArray 9 (0, 0))]) (.slice (some ⟨bq, 0, none⟩) 2 2) [sResp, sSuc] := slS_blk (l := [sResp, sSuc]) (.inr (List.Mem.head _)) (by simp)
  have hr1 : RsC (With M [(bq, .cells (cellsS [sResp, sSuc]).toArray 9 (0, 0))]) r st a l c bd := ⟨hr.1, hr.2.1, Sl.mono hr.2.2 (fun _ _ => .inl) (fun _ _ _ h => h)⟩
  have si1 := since_new (M0 := M) Since.refl hn
  clear hr hn
  generalize With M [(bq, .cells (cellsS [sResp, sSuc]).toArray 9 (0, 0))] = M1 at *
  refine wl_callS rfl Tryz.call55 rfl rfl rfl rfl (fun w hw => top_ok hw.laid hr1 hbd sXml hp) ?_
  rintro _ H2 M2 hm2 hn2 ⟨rfl, nn, p1, q1, r1, nt, p1', q1', r1', rfl, hx⟩
  have hr2 : RsC M2 r st a l c bd := ⟨hr1.1, hr1.2.1, Sl.mono hr1.2.2 hm2 (fun _ _ _ h => h)⟩
  have si2 := si1.step hm2 hn2
  have hhd := fun {w : World} (hw : Laid M2 w) => head_ok hw hr2 hbd
  have hbl := hr1.2.1
  clear hr1 hp hn2 hm2 hr2 si1
  cases htop : topR r sXml [sResp, sSuc] with
  | none =>
    rw [hrn htop]
    repeat' (first | refine sk ?_ | (refine gL ?_; first | refine wl_v rfl rfl rfl (by first | (exact ov_off (v := .bool false) rfl)) ?_ | refine xl_alloc (fun _ => ?_) | refine xl_box rfl (fun _ => ?_) | refine xl_store rfl rfl ?_ | refine xl_buildSlice rfl (fun _ => ?_)) | fail)
    refine wc_cond rfl (fun hc => ?_) (fun hc => by exfalso; simp at hc)
    repeat' (first | refine sk ?_ | (refine gL ?_; first | refine xl_alloc (fun _ => ?_) | refine xl_box rfl (fun _ => ?_) | refine xl_store rfl rfl ?_ | refine xl_buildSlice rfl (fun _ => ?_)) | fail)
    exact wr_layC3 (Hn := []) rfl rfl rfl rfl rfl rfl si2 (List.nil_sublist _) ⟨rfl, _, rfl, _, _, _, _, _, _, rfl, sl_nil, sl_nil⟩ pM
  | some n =>
    rw [htop] at hx
    rw [show (some n).getD nodeZ = n from rfl] at hx
    have hr0 := hr0 htop
    have hry := hry htop
    obtain ⟨_, xx, hxx, htp⟩ := topR_some htop
    have hkn : (textL (kdN n)).length ≤ 90000 := by
      have h1 := (readP_text hxx).1
      rw [hbl] at h1
      have h2 := top_three_len htp
      have h3 := (textN_ge n).2.2.1
      rw [h1] at h2
      omega
    clear htp hxx hrn htop hbl
    have hat := node_at hx
    have hkd := node_kd hx
    have hso : sucOk r n ↔ (headB r = true ∧ (atN n).length = 0 ∧ kdN n ≠ [] ∧ leafOk (kidN (kdN n) 0) sUser) := by
      unfold sucOk; rw [List.length_eq_zero_iff]
    clear hx
    generalize headB r = hd at *
    generalize atN n = an at *
    generalize kdN n = k at *
    obtain ⟨aa, acap, ab, ao, acs, aT, afz, e1, _⟩ := SlP.open hat
    obtain ⟨ka, kcap, kb, ko, kcs, kT, kfz, e2, k1, k2, k3, k4⟩ := Sl.open hkd
    cases e1; cases e2
    clear hat hkd
    by_cases hk0 : k.length = 0
    · rw [hr0 (fun h => (hso.1 h).2.2.1 (List.eq_nil_of_length_eq_zero hk0))]
      repeat' (first | refine sk ?_ | (refine gL ?_; first | refine wl_v rfl rfl rfl (by first | (exact oc 56 Tryz.call56 (h := fun hcg w hw => hhd hw.laid)) | (exact ov_off (v := .bool false) (offk hk0))) ?_ | refine xl_alloc (fun _ => ?_) | refine xl_box rfl (fun _ => ?_) | refine xl_store rfl rfl ?_ | refine xl_buildSlice rfl (fun _ => ?_)) | fail)
      refine wc_cond rfl (fun hc => ?_) (fun hc => by exfalso; simp [hk0] at hc)
      repeat' (first | refine sk ?_ | (refine gL ?_; first | refine xl_alloc (fun _ => ?_) | refine xl_box rfl (fun _ => ?_) | refine xl_store rfl rfl ?_ | refine xl_buildSlice rfl (fun _ => ?_)) | fail)
      exact wr_layC3 (Hn := []) rfl rfl rfl rfl rfl rfl si2 (List.nil_sublist _) ⟨rfl, _, rfl, _, _, _, _, _, _, rfl, sl_nil, sl_nil⟩ pM
    have hkne : k ≠ [] := by intro e; subst e; exact hk0 rfl
    obtain ⟨rfl, hMk⟩ := k3 hkne
    obtain ⟨us0, hu0, hus0, hc0⟩ := k4 0 (by omega)
    obtain ⟨vn, va1, vl1, vc1, user, va2, vl2, vc2, rfl⟩ := node_open hus0
    have hg0 : kidN k 0 = k[0]'(by omega) := by unfold kidN; exact getD_nd (by omega)
    have hxu : NodeC M2 8 (kidN k 0) [str vn, .slice va1 vl1 vc1, str user, .slice va2 vl2 vc2] := by rw [hg0]; exact hus0
    have hlf := fun {w : World} (hw : Laid M2 w) => leaf_ok hw hxu sUser
    have hut : txN (kidN k 0) = user := node_tx hxu
    have hul : user.length ≤ 90000 := by
      have h1 := textL_mem (kid_mem (k := k) (i := 0) (by omega))
      have h2 := (textN_ge (kidN k 0)).2.1
      rw [hut] at h2
      omega
    clear hus0 hg0 hxu
    have hso2 : sucOk r n ↔ (hd = true ∧ an.length = 0 ∧ decide (leafOk (kidN k 0) sUser) = true) := by
      rw [hso, decide_eq_true_iff]
      exact ⟨fun h => ⟨h.1, h.2.1, h.2.2.2⟩, fun h => ⟨h.1, h.2.1, hkne, h.2.2⟩⟩
    clear hso
    generalize decide (leafOk (kidN k 0) sUser) = lo at *
    repeat' (first | refine sk ?_ | (refine gL ?_; first | refine wl_v rfl rfl rfl (by first | (exact oc 56 Tryz.call56 (h := fun hcg w hw => hhd hw.laid)) | (exact oc 57 Tryz.call57 (h := fun hcg w hw => hlf hw.laid)) | (show OpV _ _ _ _ (Oper.mk _ (Op.indexAddr _ _ (.const (.int .i64 0))) _ _ _ _) _ _; exact ov_indexAddr (i := 0) (b := kb) (o := ko) rfl rfl rfl pI pI rfl pZ (fun _ => rfl) (fun _ => by omega)) | (show OpV _ _ _ _ (Oper.mk _ (Op.load _ _) _ _ _ _) _ _; exact ov_loadSM (l := [str vn, .slice va1 vl1 vc1, str user, .slice va2 vl2 vc2]) rfl pI rfl pZ (fun _ => hMk) (fun _ j hj => hc0 j hj))) ?_ | refine xl_alloc (fun _ => ?_) | refine xl_box rfl (fun _ => ?_) | refine xl_store rfl rfl ?_ | refine xl_buildSlice rfl (fun _ => ?_)) | fail)
    refine wc_cond rfl (fun hc => ?_) (fun hc => ?_)
    · have hno : ¬ sucOk r n := by
        rw [hso2]
        rintro ⟨h1, h2, h3⟩
        rw [h1, h2, h3] at hc
        simp at hc
        exact hkne hc
      rw [hr0 hno]
      repeat' (first | refine sk ?_ | (refine gL ?_; first | refine xl_alloc (fun _ => ?_) | refine xl_box rfl (fun _ => ?_) | refine xl_store rfl rfl ?_ | refine xl_buildSlice rfl (fun _ => ?_)) | fail)
      exact wr_layC3 (Hn := []) rfl rfl rfl rfl rfl rfl si2 (List.nil_sublist _) ⟨rfl, _, rfl, _, _, _, _, _, _, rfl, sl_nil, sl_nil⟩ pM
    have hyes : sucOk r n := by
      rw [hso2]
      simp at hc
      refine ⟨?_, ?_, ?_⟩
      all_goals first | omega | simp_all
    rw [hry hyes]
    clear hc hry hr0 hso2 hyes hlf hhd
    obtain ⟨cn, ca, cl, cc, ct, ca2, cl2, cc2, hci⟩ := kid_cells k4 1
    repeat' (first | refine sk ?_ | (refine gL ?_; first | refine wl_v rfl rfl rfl (by first | (show OpV _ _ _ _ (Oper.mk _ (Op.indexAddr _ _ (.const (.int .i64 0))) _ _ _ _) _ _; exact ov_indexAddr (i := 0) (b := kb) (o := ko) rfl rfl rfl pI pI rfl pZ (fun _ => rfl) (fun _ => by omega)) | (show OpV _ _ _ _ (Oper.mk _ (Op.load _ _) _ _ _ _) _ _; exact ov_load1M rfl pI rfl rfl (fun _ => hMk) (fun _ => hc0 2 (by simp))) | (show OpV _ _ _ _ (Oper.mk _ (Op.indexAddr _ _ (.tmp _)) _ _ _ _) _ _; exact ov_indexAddr (i := 1) (b := kb) (o := ko) rfl rfl rfl pI pI rfl pZ (fun _ => rfl) (fun hcg => (by first | assumption | exact gA hcg | exact gB hcg | exact gC hcg | exact gA1 hcg | exact gB1 hcg | exact gC1 hcg))) | (show OpV _ _ _ _ (Oper.mk _ (Op.load 9 _) _ _ _ _) _ _; exact ov_load1M rfl pI rfl rfl (fun _ => hMk) (fun hcg => (hci (by first | assumption | exact gA hcg | exact gB hcg | exact gC hcg | exact gA1 hcg | exact gB1 hcg | exact gC1 hcg)).2 0 (by simp))) | (show OpV _ _ _ _ (Oper.mk _ (Op.load 53 _) _ _ _ _) _ _; exact ov_load1M rfl pI rfl rfl (fun _ => hMk) (fun hcg => (hci (by first | assumption | exact gA hcg | exact gB hcg | exact gC hcg | exact gA1 hcg | exact gB1 hcg | exact gC1 hcg)).2 3 (by simp))) | (show OpV _ _ _ _ (Oper.mk _ (Op.load 22 _) _ _ _ _) _ _; exact ov_load1M rfl pI rfl rfl (fun _ => hMk) (fun hcg => (hci (by first | assumption | exact gA hcg | exact gB hcg | exact gC hcg | exact gA1 hcg | exact gB1 hcg | exact gC1 hcg)).2 1 (by simp)))) ?_ | refine xl_alloc (fun _ => ?_) | refine xl_box rfl (fun _ => ?_) | refine xl_store rfl rfl ?_ | refine xl_buildSlice rfl (fun _ => ?_)) | fail)
    rename_i b8 b10
    have hoA : okA k 1 sAttrs ↔ (1 < k.length ∧ cn = sAttrs ∧ 0 < cl2 ∧ cl = 0) := okA_cells hci
    refine wc_split (α := JP w M M2 ((kdA k).map attrOf) ((kdA k).all goodA)) (fun x => [(2, true, .pointer (some ⟨b2, 0, none⟩)), (5, true, .pointer (some ⟨b5, 0, none⟩)), (8, true, .pointer (some ⟨b8, 0, none⟩)), (10, true, .pointer (some ⟨b10, 0, none⟩)), (11, true, i64 (at1 k : Int))]) (fun x => St w [] [(b10, .cells [str user, .slice x.a x.l x.c, .slice none 0 0, str []].toArray 25 (0, 0)), (b8, .cells [str nn, .slice p1 an.length r1, str nt, .slice (some ⟨kb, ko, none⟩) k.length r1'].toArray tNd (0, 0)), (b5, .cells [str [], .slice none 0 0, .slice none 0 0, str []].toArray 25 (0, 0)), (b2, .cells [str [], .slice none 0 0, .slice none 0 0, str []].toArray 25 (0, 0))] x.M') ?_ ?_
    · refine wc_cond rfl (fun hc => ?_) (fun hc => ?_)
      · have hA : okA k 1 sAttrs := by
          rw [hoA]; simp at hc; exact ⟨by have := hc.1.1.1; omega, hc.1.1.2, hc.1.2, hc.2⟩
        have hkA : kdA k = kdN (kidN k 1) := by unfold kdA; rw [if_pos hA]
        have ha1 : at1 k = 2 := by unfold at1; rw [if_pos hA]
        have h1k := hA.1
        have hgood := fun h => ok_no1 (k := k) (show (kdA k).all goodA = false from h)
        rw [ha1]
        rw [hkA] at hgood ⊢
        have hsl := node_kd (hci h1k).1
        have hAl : (textL (kdN (kidN k 1))).length ≤ 90000 := by
          have h1 := textL_mem (kid_mem (k := k) (i := 1) h1k)
          have h2 := (textN_ge (kidN k 1)).2.2.1
          omega
        have hAn : (kdN (kidN k 1)).length ≤ 90000 := by
          have := textL_length (kdN (kidN k 1))
          omega
        have hAne : kdN (kidN k 1) ≠ [] := hA.2.2.1
        clear hA hkA ha1 hoA
        generalize kdN (kidN k 1) = A at *
        obtain ⟨la, lcap, lb, lo2, lcs, lT, lfz, e5, m1, m2, m3, m4⟩ := Sl.open hsl
        cases e5
        obtain ⟨rfl, hMl⟩ := m3 hAne
        clear hsl
        repeat' (first | refine sk ?_ | (refine gL ?_; first | refine wl_v rfl rfl rfl (by first | (show OpV _ _ _ _ (Oper.mk _ (Op.indexAddr _ _ (.tmp _)) _ _ _ _) _ _; exact ov_indexAddr (i := 1) (b := kb) (o := ko) rfl rfl rfl pI pI rfl pZ (fun _ => rfl) (fun hcg => (by first | assumption | exact gA hcg | exact gB hcg | exact gC hcg | exact gA1 hcg | exact gB1 hcg | exact gC1 hcg))) | (show OpV _ _ _ _ (Oper.mk _ (Op.load 9 _) _ _ _ _) _ _; exact ov_load1M rfl pI rfl rfl (fun _ => hMk) (fun hcg => (hci (by first | assumption | exact gA hcg | exact gB hcg | exact gC hcg | exact gA1 hcg | exact gB1 hcg | exact gC1 hcg)).2 0 (by simp))) | (show OpV _ _ _ _ (Oper.mk _ (Op.load 53 _) _ _ _ _) _ _; exact ov_load1M rfl pI rfl rfl (fun _ => hMk) (fun hcg => (hci (by first | assumption | exact gA hcg | exact gB hcg | exact gC hcg | exact gA1 hcg | exact gB1 hcg | exact gC1 hcg)).2 3 (by simp))) | (show OpV _ _ _ _ (Oper.mk _ (Op.load 22 _) _ _ _ _) _ _; exact ov_load1M rfl pI rfl rfl (fun _ => hMk) (fun hcg => (hci (by first | assumption | exact gA hcg | exact gB hcg | exact gC hcg | exact gA1 hcg | exact gB1 hcg | exact gC1 hcg)).2 1 (by simp)))) ?_ | refine xl_alloc (fun _ => ?_) | refine xl_box rfl (fun _ => ?_) | refine xl_store rfl rfl ?_ | refine xl_buildSlice rfl (fun _ => ?_)) | fail)
        refine wc_loop (α := PG A (A.map attrOf)) (fun x => [(2, true, .pointer (some ⟨b2, 0, none⟩)), (5, true, .pointer (some ⟨b5, 0, none⟩)), (8, true, .pointer (some ⟨b8, 0, none⟩)), (10, true, .pointer (some ⟨b10, 0, none⟩)), (11, true, i64 1), (12, true, .slice (some ⟨lb, lo2, none⟩) A.length cc2), (13, true, i64 (x.i : Int))]) (fun x => St w [] (x.Hs ++ [(b10, .cells [str user, x.v, .slice none 0 0, str []].toArray 25 (0, 0)), (b8, .cells [str nn, .slice p1 an.length r1, str nt, .slice (some ⟨kb, ko, none⟩) k.length r1'].toArray tNd (0, 0)), (b5, .cells [str [], .slice none 0 0, .slice none 0 0, str []].toArray 25 (0, 0)), (b2, .cells [str [], .slice none 0 0, .slice none 0 0, str []].toArray 25 (0, 0))]) M2) (fun x => A.length - x.i) ⟨0, Nat.zero_le _, fun j hj => by omega, .slice none 0 0, [], OwnS.nil⟩ pE (fun _ h => h.drop (List.Sublist.cons_cons _ (List.Sublist.cons_cons _ (List.Sublist.cons_cons _ (List.Sublist.cons_cons _ (List.nil_sublist _)))))) ?_
        rintro ⟨i, hi, hall, v, Hs, own⟩
        dsimp only
        have hcl : (cellsP ((A.map attrOf).take i)).length = i * 2 := by rw [cellsP_length, List.length_take, List.length_map]; omega
        obtain ⟨xa, xcap, rfl⟩ := own.slice (k := i) (by decide) hcl
        rcases Nat.lt_or_ge i A.length with hlt | hge
        · obtain ⟨us, hu4, hus, hcells⟩ := m4 i hlt
          obtain ⟨xn, xa1, xl1, xc1, xt, xa2, xl2, xc2, rfl⟩ := node_open hus
          have hxg : A.getD i nodeZ = A[i] := getD_nd hlt
          rw [← hxg] at hus
          have hlm : (A.map attrOf).length = A.length := List.length_map _
          have hlx := fun {w : World} (hw : Laid M2 w) => leaf_ok hw hus xn
          have hnm := node_nm hus
          have htx := node_tx hus
          have hga : goodA (A.getD i nodeZ) = (decide (4 ≤ xn.length) && decide (xn.take 4 = sCas) && decide (leafOk (A.getD i nodeZ) xn)) := by unfold goodA; rw [hnm]
          have hno := fun h => hgood (no_nd (p := goodA) hlt h)
          have hst := fun h => step_nd (p := goodA) hall h
          have hnx : cellsP ((A.map attrOf).take (i + 1)) = cellsP ((A.map attrOf).take i) ++ [str (xn.drop 4), str xt] := cellsP_next (by rw [hlm]; exact hlt) (by simp only [List.getElem_map]; unfold attrOf; rw [← hxg, hnm, htx])
          rw [hga] at hno hst
          generalize decide (leafOk (A.getD i nodeZ) xn) = lx at *
          clear hga hus hnm htx hxg
          repeat' (first | refine sk ?_ | (refine gL ?_; first | refine xl_alloc (fun _ => ?_) | refine xl_box rfl (fun _ => ?_) | refine xl_store rfl rfl ?_ | refine xl_buildSlice rfl (fun _ => ?_)) | fail)
          refine wc_cond rfl (fun hc => ?_) (fun hc => by exfalso; simp at hc; omega)
          clear hc
          repeat' (first | refine sk ?_ | (refine gL ?_; first | refine xl_alloc (fun _ => ?_) | refine xl_box rfl (fun _ => ?_) | refine xl_store rfl rfl ?_ | refine xl_buildSlice rfl (fun _ => ?_)) | fail)
          by_cases h4 : 4 ≤ xn.length
          · refine wc_draw 29 (by kernel_rfl) rfl (by kernel_rfl) (fun _ _ h k => h.ext k) ?_
            repeat' (first | ((show WD _ _ (Oper.mk _ (Op.binOp BinOp.lss _ _ _ _) _ _ _ _ :: _) _ _ _ _ _ _; refine wd_v rfl rfl rfl rfl rfl rfl (opv_eq (ov_lss rfl rfl pI pI) (decide_eq_false (by omega))) ?_)) | (refine gD ?_; first | refine yd_v rfl rfl rfl rfl rfl rfl ?_ | refine wd_v rfl rfl rfl rfl rfl rfl (by first | (show OpV _ _ _ _ (Oper.mk _ (Op.indexAddr _ _ _) _ _ _ _) _ _; exact ov_indexAddr (i := i) (b := lb) (o := lo2) rfl rfl rfl pI pI rfl pZ (fun _ => rfl) pS) | (show OpV _ _ _ _ (Oper.mk _ (Op.load _ _) _ _ _ _) _ _; exact ov_load1M rfl pI rfl rfl (fun _ => hMl) (fun _ => hcells 0 (by simp))) | (show OpV _ _ _ _ (Oper.mk _ (Op.load _ _) _ _ _ _) _ _; exact ov_loadSM (l := [str xn, .slice xa1 xl1 xc1, str xt, .slice xa2 xl2 xc2]) rfl pI rfl pZ (fun _ => hMl) (fun _ j hj => hcells j hj)) | (exact oc 57 Tryz.call57 (h := fun hcg w hw => hlx hw.laid))) ?_ | refine yd_new rfl rfl rfl rfl rfl rfl ?_ | refine wd_conv rfl rfl rfl rfl rfl rfl rfl rfl rfl rfl ?_) | (refine gE ?_; first | refine wd_nil ?_ | refine wd_nil1 (wl_fresh (fun _ => ?_))) | (first | refine sk1 ?_ | (refine gL ?_; first | refine wl_v rfl rfl rfl (by first | (show OpV _ _ _ _ (Oper.mk _ (Op.indexAddr _ _ _) _ _ _ _) _ _; exact ov_indexAddr (i := i) (b := lb) (o := lo2) rfl rfl rfl pI pI rfl pZ (fun _ => rfl) pS) | (show OpV _ _ _ _ (Oper.mk _ (Op.load _ _) _ _ _ _) _ _; exact ov_load1M rfl pI rfl rfl (fun _ => hMl) (fun _ => hcells 0 (by simp))) | (show OpV _ _ _ _ (Oper.mk _ (Op.load _ _) _ _ _ _) _ _; exact ov_loadSM (l := [str xn, .slice xa1 xl1 xc1, str xt, .slice xa2 xl2 xc2]) rfl pI rfl pZ (fun _ => hMl) (fun _ j hj => hcells j hj)) | (exact oc 57 Tryz.call57 (h := fun hcg w hw => hlx hw.laid))) ?_ | refine xl_alloc (fun _ => ?_) | refine xl_box rfl (fun _ => ?_) | refine xl_store rfl rfl ?_ | refine xl_buildSlice rfl (fun _ => ?_)) | fail))
            refine wc_cond rfl (fun hc => ?_) (fun hc => ?_)
            · rw [if_neg (by rw [hno (by
                rw [decide_eq_true h4]
                revert hc
                show ((!decide (xn.take 4 = sCas)) || !lx) = true → _
                cases lx <;> cases decide (xn.take 4 = sCas) <;> decide)]; simp)]
              repeat' (first | refine sk ?_ | (refine gL ?_; first | refine xl_alloc (fun _ => ?_) | refine xl_box rfl (fun _ => ?_) | refine xl_store rfl rfl ?_ | refine xl_buildSlice rfl (fun _ => ?_)) | fail)
              exact wr_layC3 (Hn := []) rfl rfl rfl rfl rfl rfl si2 (List.nil_sublist _) ⟨rfl, _, rfl, _, _, _, _, _, _, rfl, sl_nil, sl_nil⟩ pM
            · have hg : (decide (4 ≤ xn.length) && decide (xn.take 4 = sCas) && lx) = true := by
                rw [decide_eq_true h4]
                revert hc
                show ((!decide (xn.take 4 = sCas)) || !lx) = false → _
                cases lx <;> cases decide (xn.take 4 = sCas) <;> decide
              clear hno hc
              repeat' (first | refine sk ?_ | (refine gL ?_; first | refine xl_alloc (fun _ => ?_) | refine xl_box rfl (fun _ => ?_) | refine xl_store rfl rfl ?_ | refine xl_buildSlice rfl (fun _ => ?_)) | fail)
              refine wc_draw 15 (by kernel_rfl) rfl (by kernel_rfl) (fun _ _ h k => h.ext k) ?_
              repeat' (first | (refine gD ?_; first | refine yd_v rfl rfl rfl rfl rfl rfl ?_ | refine wd_v rfl rfl rfl rfl rfl rfl (by first | (show OpV _ _ _ _ (Oper.mk _ (Op.indexAddr _ _ _) _ _ _ _) _ _; exact ov_indexAddr (i := i) (b := lb) (o := lo2) rfl rfl rfl pI pI rfl pZ (fun _ => rfl) pS) | (show OpV _ _ _ _ (Oper.mk _ (Op.load _ _) _ _ _ _) _ _; exact ov_load1M rfl pI rfl rfl (fun _ => hMl) (fun _ => hcells 0 (by simp))) | (show OpV _ _ _ _ (Oper.mk _ (Op.load _ _) _ _ _ _) _ _; exact ov_load1M rfl pI rfl rfl (fun _ => hMl) (fun _ => hcells 2 (by simp)))) ?_ | refine yd_new rfl rfl rfl rfl rfl rfl ?_ | refine wd_conv rfl rfl rfl rfl rfl rfl rfl rfl rfl rfl ?_) | (refine gE ?_; first | refine wd_nil ?_ | refine wd_nil1 (wl_fresh (fun _ => ?_))) | (first | refine sk ?_ | (refine gL ?_; first | refine wl_v rfl rfl rfl (by first | (show OpV _ _ _ _ (Oper.mk _ (Op.indexAddr _ _ _) _ _ _ _) _ _; exact ov_indexAddr (i := i) (b := lb) (o := lo2) rfl rfl rfl pI pI rfl pZ (fun _ => rfl) pS) | (show OpV _ _ _ _ (Oper.mk _ (Op.load _ _) _ _ _ _) _ _; exact ov_load1M rfl pI rfl rfl (fun _ => hMl) (fun _ => hcells 0 (by simp))) | (show OpV _ _ _ _ (Oper.mk _ (Op.load _ _) _ _ _ _) _ _; exact ov_load1M rfl pI rfl rfl (fun _ => hMl) (fun _ => hcells 2 (by simp)))) ?_ | refine xl_alloc (fun _ => ?_) | refine xl_box rfl (fun _ => ?_) | refine xl_store rfl rfl ?_ | refine xl_buildSlice rfl (fun _ => ?_)) | fail))
              refine wl_append (H0 := [(b10, .cells [str user, .slice xa i xcap, .slice none 0 0, str []].toArray 25 (0, 0)), (b8, .cells [str nn, .slice p1 an.length r1, str nt, .slice (some ⟨kb, ko, none⟩) k.length r1'].toArray tNd (0, 0)), (b5, .cells [str [], .slice none 0 0, .slice none 0 0, str []].toArray 25 (0, 0)), (b2, .cells [str [], .slice none 0 0, .slice none 0 0, str []].toArray 25 (0, 0))]) rfl own rfl rfl rfl rfl rfl rfl rfl rfl rfl rfl (List.Mem.head _) rfl rfl (List.sublist_cons_self _ _) (by rw [hcl]; omega) rfl ?_
              intro v' Hs' ho'
              have ho2 : OwnS 50 2 v' Hs' (cellsP ((A.map attrOf).take (i + 1))) := by rw [hnx]; exact ho'
              obtain ⟨va', vcap', rfl⟩ := ho2.slice (k := i + 1) (by decide) (by rw [cellsP_length, List.length_take, List.length_map]; omega)
              repeat' (first | refine sk ?_ | (refine gL ?_; first | refine xl_alloc (fun _ => ?_) | refine xl_box rfl (fun _ => ?_) | refine xl_store rfl rfl ?_ | refine xl_buildSlice rfl (fun _ => ?_)) | fail)
              exact wn_cut ⟨i + 1, by omega, hst hg, _, Hs', ho2⟩ (by show A.length - (i + 1) < A.length - i; omega) pE (fun _ h => h)
          · refine wc_draw 29 (by kernel_rfl) rfl (by kernel_rfl) (fun _ _ h k => h.ext k) ?_
            repeat' (first | ((show WD _ _ (Oper.mk _ (Op.binOp BinOp.lss _ _ _ _) _ _ _ _ :: _) _ _ _ _ _ _; refine wd_v rfl rfl rfl rfl rfl rfl (opv_eq (ov_lss rfl rfl pI pI) (decide_eq_true (by omega))) ?_)) | (refine gD ?_; first | refine yd_v rfl rfl rfl rfl rfl rfl ?_ | refine wd_v rfl rfl rfl rfl rfl rfl (by first | (show OpV _ _ _ _ (Oper.mk _ (Op.indexAddr _ _ _) _ _ _ _) _ _; exact ov_indexAddr (i := i) (b := lb) (o := lo2) rfl rfl rfl pI pI rfl pZ (fun _ => rfl) pS) | (show OpV _ _ _ _ (Oper.mk _ (Op.load _ _) _ _ _ _) _ _; exact ov_load1M rfl pI rfl rfl (fun _ => hMl) (fun _ => hcells 0 (by simp))) | (exact ov_off (v := .bool false) rfl)) ?_ | refine yd_new rfl rfl rfl rfl rfl rfl ?_ | refine wd_conv rfl rfl rfl rfl rfl rfl rfl rfl rfl rfl ?_) | (refine gE ?_; first | refine wd_nil ?_ | refine wd_nil1 (wl_fresh (fun _ => ?_))) | (first | refine sk1 ?_ | (refine gL ?_; first | refine wl_v rfl rfl rfl (by first | (show OpV _ _ _ _ (Oper.mk _ (Op.indexAddr _ _ _) _ _ _ _) _ _; exact ov_indexAddr (i := i) (b := lb) (o := lo2) rfl rfl rfl pI pI rfl pZ (fun _ => rfl) pS) | (show OpV _ _ _ _ (Oper.mk _ (Op.load _ _) _ _ _ _) _ _; exact ov_load1M rfl pI rfl rfl (fun _ => hMl) (fun _ => hcells 0 (by simp))) | (exact ov_off (v := .bool false) rfl)) ?_ | refine xl_alloc (fun _ => ?_) | refine xl_box rfl (fun _ => ?_) | refine xl_store rfl rfl ?_ | refine xl_buildSlice rfl (fun _ => ?_)) | fail))
            refine wc_cond rfl (fun hc => ?_) (fun hc => by exfalso; simp at hc)
            rw [if_neg (by rw [hno (by rw [decide_eq_false h4]; rfl)]; simp)]
            repeat' (first | refine sk ?_ | (refine gL ?_; first | refine xl_alloc (fun _ => ?_) | refine xl_box rfl (fun _ => ?_) | refine xl_store rfl rfl ?_ | refine xl_buildSlice rfl (fun _ => ?_)) | fail)
            exact wr_layC3 (Hn := []) rfl rfl rfl rfl rfl rfl si2 (List.nil_sublist _) ⟨rfl, _, rfl, _, _, _, _, _, _, rfl, sl_nil, sl_nil⟩ pM
        obtain rfl : i = A.length := by omega
        repeat' (first | refine sk ?_ | (refine gL ?_; first | refine xl_alloc (fun _ => ?_) | refine xl_box rfl (fun _ => ?_) | refine xl_store rfl rfl ?_ | refine xl_buildSlice rfl (fun _ => ?_)) | fail)
        refine wc_cond rfl (fun hc => by exfalso; simp at hc) (fun hc => ?_)
        clear hc
        have hlm : (A.map attrOf).length = A.length := List.length_map _
        rw [show (A.map attrOf).take A.length = A.map attrOf from by rw [← hlm, List.take_length]] at own
        refine wc_publish (fun hn => ?_)
        have hSA : SlP (With M2 Hs) (.slice xa A.length xcap) (A.map attrOf) := own.slP (fun p hp => .inr hp) (by rw [hlm]; omega)
        have si3 := since_new si2 hn
        repeat' (first | refine sk ?_ | (refine gL ?_; first | refine xl_alloc (fun _ => ?_) | refine xl_box rfl (fun _ => ?_) | refine xl_store rfl rfl ?_ | refine xl_buildSlice rfl (fun _ => ?_)) | fail)
        exact wn_cut ⟨all_nd hall, With M2 Hs, xa, A.length, xcap, hSA, si3, fun _ _ h => .inl h⟩ trivial pE (fun _ h => h)
      · have hA : ¬ okA k 1 sAttrs := by
          rw [hoA]
          rintro ⟨h1, h2, h3, h4⟩
          exact no4 (by omega) h2 (by omega) (by omega) hc
        have hkA : kdA k = [] := by unfold kdA; rw [if_neg hA]
        have ha1 : at1 k = 1 := by unfold at1; rw [if_neg hA]
        rw [ha1, hkA]
        repeat' (first | refine sk ?_ | (refine gL ?_; first | refine xl_alloc (fun _ => ?_) | refine xl_box rfl (fun _ => ?_) | refine xl_store rfl rfl ?_ | refine xl_buildSlice rfl (fun _ => ?_)) | fail)
        exact wn_cut ⟨rfl, M2, none, 0, 0, sl_nil, si2, fun _ _ h => h⟩ trivial pE (fun _ h => h.drop (List.Sublist.cons_cons _ (List.Sublist.cons_cons _ (List.Sublist.cons_cons _ (List.Sublist.cons_cons _ (List.nil_sublist _))))))
    have hk4' := k4
    clear hci hoA k3 hc0
    rintro ⟨good1, M3, sa, sal, sac, hSA3, si3, sub3⟩
    dsimp only
    have ha1r : 1 ≤ at1 k ∧ at1 k ≤ 2 := by unfold at1; split <;> omega
    -- the ticket
    obtain ⟨cn, ca, cl, cc, ct, ca2, cl2, cc2, hci⟩ := kid_cells k4 (at1 k)
    have hlf := fun {w : World} (hw : Laid M3 w) (h : at1 k < k.length) => leaf_ok hw (NodeC.mono sub3 (hci h).1) sIou
    have hoI : okI k (at1 k) ↔ (at1 k < k.length ∧ ct ≠ [] ∧ decide (leafOk (kidN k (at1 k)) sIou) = true) := by
      unfold okI
      rw [decide_eq_true_iff]
      by_cases h : at1 k < k.length
      · rw [node_tx (hci h).1]
      · exact ⟨fun h' => absurd h'.1 h, fun h' => absurd h'.1 h⟩
    have hI2 : at2' k = if okI k (at1 k) then at1 k + 1 else at1 k := rfl
    have hIt : txI k = if okI k (at1 k) then txN (kidN k (at1 k)) else [] := rfl
    generalize decide (leafOk (kidN k (at1 k)) sIou) = lo2 at *
    generalize hat1 : at1 k = i1 at *
    repeat' (first | refine sk ?_ | (refine gL ?_; first | refine wl_v rfl rfl rfl (by first | (show OpV _ _ _ _ (Oper.mk _ (Op.indexAddr _ _ (.tmp _)) _ _ _ _) _ _; exact ov_indexAddr (i := i1) (b := kb) (o := ko) rfl rfl rfl pI pI rfl pZ (fun _ => rfl) (fun hcg => (by first | assumption | exact gA hcg | exact gB hcg | exact gC hcg | exact gA1 hcg | exact gB1 hcg | exact gC1 hcg))) | (show OpV _ _ _ _ (Oper.mk _ (Op.load 9 _) _ _ _ _) _ _; exact ov_load1M rfl pI rfl rfl (fun _ => sub3 _ _ hMk) (fun hcg => (hci (by first | assumption | exact gA hcg | exact gB hcg | exact gC hcg | exact gA1 hcg | exact gB1 hcg | exact gC1 hcg)).2 2 (by simp))) | (show OpV _ _ _ _ (Oper.mk _ (Op.load _ _) _ _ _ _) _ _; exact ov_loadSM (l := [str cn, .slice ca cl cc, str ct, .slice ca2 cl2 cc2]) rfl pI rfl pZ (fun _ => sub3 _ _ hMk) (fun hcg j hj => (hci (by first | assumption | exact gA hcg | exact gB hcg | exact gC hcg | exact gA1 hcg | exact gB1 hcg | exact gC1 hcg)).2 j hj)) | (exact oc 57 Tryz.call57 (h := fun hcg w hw => hlf hw.laid (by first | assumption | exact gA hcg | exact gB hcg | exact gC hcg | exact gA1 hcg | exact gB1 hcg | exact gC1 hcg)))) ?_ | refine xl_alloc (fun _ => ?_) | refine xl_box rfl (fun _ => ?_) | refine xl_store rfl rfl ?_ | refine xl_buildSlice rfl (fun _ => ?_)) | fail)
    refine wc_split (α := Unit) (fun _ => [(2, true, .pointer (some ⟨b2, 0, none⟩)), (5, true, .pointer (some ⟨b5, 0, none⟩)), (8, true, .pointer (some ⟨b8, 0, none⟩)), (10, true, .pointer (some ⟨b10, 0, none⟩)), (11, true, i64 (at2' k : Int))]) (fun _ => St w [] [(b10, .cells [str user, .slice sa sal sac, .slice none 0 0, str (txI k)].toArray 25 (0, 0)), (b8, .cells [str nn, .slice p1 an.length r1, str nt, .slice (some ⟨kb, ko, none⟩) k.length r1'].toArray tNd (0, 0)), (b5, .cells [str [], .slice none 0 0, .slice none 0 0, str []].toArray 25 (0, 0)), (b2, .cells [str [], .slice none 0 0, .slice none 0 0, str []].toArray 25 (0, 0))] M3) ?_ ?_
    · refine wc_cond rfl (fun hc => ?_) (fun hc => ?_)
      · have hI : okI k i1 := by
          rw [hoI]; simp at hc; exact ⟨by have := hc.1.1; omega, hc.1.2, hc.2⟩
        have hi1 := hI.1
        rw [hI2, hIt, if_pos hI, if_pos hI, node_tx (hci hi1).1]
        repeat' (first | refine sk ?_ | (refine gL ?_; first | refine wl_v rfl rfl rfl (by first | (show OpV _ _ _ _ (Oper.mk _ (Op.indexAddr _ _ (.tmp _)) _ _ _ _) _ _; exact ov_indexAddr (i := i1) (b := kb) (o := ko) rfl rfl rfl pI pI rfl pZ (fun _ => rfl) (fun hcg => (by first | assumption | exact gA hcg | exact gB hcg | exact gC hcg | exact gA1 hcg | exact gB1 hcg | exact gC1 hcg))) | (show OpV _ _ _ _ (Oper.mk _ (Op.load 9 _) _ _ _ _) _ _; exact ov_load1M rfl pI rfl rfl (fun _ => sub3 _ _ hMk) (fun hcg => (hci (by first | assumption | exact gA hcg | exact gB hcg | exact gC hcg | exact gA1 hcg | exact gB1 hcg | exact gC1 hcg)).2 2 (by simp)))) ?_ | refine xl_alloc (fun _ => ?_) | refine xl_box rfl (fun _ => ?_) | refine xl_store rfl rfl ?_ | refine xl_buildSlice rfl (fun _ => ?_)) | fail)
        exact wn_cut () trivial pE (fun _ h => h)
      · have hI : ¬ okI k i1 := by
          rw [hoI]
          rintro ⟨h1, h2, h3⟩
          rw [decide_eq_true (show (i1 : Int) < (k.length : Int) by omega), h3] at hc
          simp at hc
          exact h2 hc
        rw [hI2, hIt, if_neg hI, if_neg hI]
        repeat' (first | refine sk ?_ | (refine gL ?_; first | refine xl_alloc (fun _ => ?_) | refine xl_box rfl (fun _ => ?_) | refine xl_store rfl rfl ?_ | refine xl_buildSlice rfl (fun _ => ?_)) | fail)
        exact wn_cut () trivial pE (fun _ h => h)
    rintro ⟨⟩
    have ha2r : 1 ≤ at2' k ∧ at2' k ≤ 3 := by rw [hI2]; split <;> omega
    clear hci hoI hI2 hIt hlf
    -- the proxies
    obtain ⟨cn, ca, cl, cc, ct, ca2, cl2, cc2, hci⟩ := kid_cells k4 (at2' k)
    have hoP : okA k (at2' k) sProxies ↔ (at2' k < k.length ∧ cn = sProxies ∧ 0 < cl2 ∧ cl = 0) := okA_cells hci
    have hP2 : at3 k = if okA k (at2' k) sProxies then at2' k + 1 else at2' k := rfl
    have hPk : kdP k = if okA k (at2' k) sProxies then kdN (kidN k (at2' k)) else [] := rfl
    generalize hat2 : at2' k = i2 at *
    repeat' (first | refine sk ?_ | (refine gL ?_; first | refine wl_v rfl rfl rfl (by first | (show OpV _ _ _ _ (Oper.mk _ (Op.indexAddr _ _ (.tmp _)) _ _ _ _) _ _; exact ov_indexAddr (i := i2) (b := kb) (o := ko) rfl rfl rfl pI pI rfl pZ (fun _ => rfl) (fun hcg => (by first | assumption | exact gA hcg | exact gB hcg | exact gC hcg | exact gA1 hcg | exact gB1 hcg | exact gC1 hcg))) | (show OpV _ _ _ _ (Oper.mk _ (Op.load 9 _) _ _ _ _) _ _; exact ov_load1M rfl pI rfl rfl (fun _ => sub3 _ _ hMk) (fun hcg => (hci (by first | assumption | exact gA hcg | exact gB hcg | exact gC hcg | exact gA1 hcg | exact gB1 hcg | exact gC1 hcg)).2 0 (by simp))) | (show OpV _ _ _ _ (Oper.mk _ (Op.load 53 _) _ _ _ _) _ _; exact ov_load1M rfl pI rfl rfl (fun _ => sub3 _ _ hMk) (fun hcg => (hci (by first | assumption | exact gA hcg | exact gB hcg | exact gC hcg | exact gA1 hcg | exact gB1 hcg | exact gC1 hcg)).2 3 (by simp))) | (show OpV _ _ _ _ (Oper.mk _ (Op.load 22 _) _ _ _ _) _ _; exact ov_load1M rfl pI rfl rfl (fun _ => sub3 _ _ hMk) (fun hcg => (hci (by first | assumption | exact gA hcg | exact gB hcg | exact gC hcg | exact gA1 hcg | exact gB1 hcg | exact gC1 hcg)).2 1 (by simp)))) ?_ | refine xl_alloc (fun _ => ?_) | refine xl_box rfl (fun _ => ?_) | refine xl_store rfl rfl ?_ | refine xl_buildSlice rfl (fun _ => ?_)) | fail)
    refine wc_split (α := JS w M M3 ((kdP k).map txN) ((kdP k).all goodP)) (fun x => [(2, true, .pointer (some ⟨b2, 0, none⟩)), (5, true, .pointer (some ⟨b5, 0, none⟩)), (8, true, .pointer (some ⟨b8, 0, none⟩)), (10, true, .pointer (some ⟨b10, 0, none⟩)), (11, true, i64 (at3 k : Int))]) (fun x => St w [] [(b10, .cells [str user, .slice sa sal sac, .slice x.a x.l x.c, str (txI k)].toArray 25 (0, 0)), (b8, .cells [str nn, .slice p1 an.length r1, str nt, .slice (some ⟨kb, ko, none⟩) k.length r1'].toArray tNd (0, 0)), (b5, .cells [str [], .slice none 0 0, .slice none 0 0, str []].toArray 25 (0, 0)), (b2, .cells [str [], .slice none 0 0, .slice none 0 0, str []].toArray 25 (0, 0))] x.M') ?_ ?_
    · refine wc_cond rfl (fun hc => ?_) (fun hc => ?_)
      · have hA : okA k i2 sProxies := by
          rw [hoP]; simp at hc; exact ⟨by have := hc.1.1.1; omega, hc.1.1.2, hc.1.2, hc.2⟩
        rw [if_pos hA] at hP2 hPk
        have h1k := hA.1
        have hgood := fun h => ok_no2 (k := k) (show (kdP k).all goodP = false from h)
        rw [hP2]
        rw [hPk] at hgood ⊢
        have hsl := node_kd (hci h1k).1
        have hAl : (textL (kdN (kidN k i2))).length ≤ 90000 := by
          have h1 := textL_mem (kid_mem (k := k) (i := i2) h1k)
          have h2 := (textN_ge (kidN k i2)).2.2.1
          omega
        have hAn : (kdN (kidN k i2)).length ≤ 90000 := by
          have := textL_length (kdN (kidN k i2))
          omega
        have hAne : kdN (kidN k i2) ≠ [] := hA.2.2.1
        clear hA hoP hP2 hPk
        generalize kdN (kidN k i2) = A at *
        obtain ⟨la, lcap, lb, lo2, lcs, lT, lfz, e5, m1, m2, m3, m4⟩ := Sl.open hsl
        cases e5
        obtain ⟨rfl, hMl⟩ := m3 hAne
        clear hsl
        repeat' (first | refine sk ?_ | (refine gL ?_; first | refine wl_v rfl rfl rfl (by first | (show OpV _ _ _ _ (Oper.mk _ (Op.indexAddr _ _ (.tmp _)) _ _ _ _) _ _; exact ov_indexAddr (i := i2) (b := kb) (o := ko) rfl rfl rfl pI pI rfl pZ (fun _ => rfl) (fun hcg => (by first | assumption | exact gA hcg | exact gB hcg | exact gC hcg | exact gA1 hcg | exact gB1 hcg | exact gC1 hcg))) | (show OpV _ _ _ _ (Oper.mk _ (Op.load 9 _) _ _ _ _) _ _; exact ov_load1M rfl pI rfl rfl (fun _ => sub3 _ _ hMk) (fun hcg => (hci (by first | assumption | exact gA hcg | exact gB hcg | exact gC hcg | exact gA1 hcg | exact gB1 hcg | exact gC1 hcg)).2 0 (by simp))) | (show OpV _ _ _ _ (Oper.mk _ (Op.load 53 _) _ _ _ _) _ _; exact ov_load1M rfl pI rfl rfl (fun _ => sub3 _ _ hMk) (fun hcg => (hci (by first | assumption | exact gA hcg | exact gB hcg | exact gC hcg | exact gA1 hcg | exact gB1 hcg | exact gC1 hcg)).2 3 (by simp))) | (show OpV _ _ _ _ (Oper.mk _ (Op.load 22 _) _ _ _ _) _ _; exact ov_load1M rfl pI rfl rfl (fun _ => sub3 _ _ hMk) (fun hcg => (hci (by first | assumption | exact gA hcg | exact gB hcg | exact gC hcg | exact gA1 hcg | exact gB1 hcg | exact gC1 hcg)).2 1 (by simp)))) ?_ | refine xl_alloc (fun _ => ?_) | refine xl_box rfl (fun _ => ?_) | refine xl_store rfl rfl ?_ | refine xl_buildSlice rfl (fun _ => ?_)) | fail)
        refine wc_loop (α := TG A (A.map txN)) (fun x => [(2, true, .pointer (some ⟨b2, 0, none⟩)), (5, true, .pointer (some ⟨b5, 0, none⟩)), (8, true, .pointer (some ⟨b8, 0, none⟩)), (10, true, .pointer (some ⟨b10, 0, none⟩)), (11, true, i64 (i2 : Int)), (14, true, .slice (some ⟨lb, lo2, none⟩) A.length cc2), (15, true, i64 (x.i : Int))]) (fun x => St w [] (x.Hs ++ [(b10, .cells [str user, .slice sa sal sac, x.v, str (txI k)].toArray 25 (0, 0)), (b8, .cells [str nn, .slice p1 an.length r1, str nt, .slice (some ⟨kb, ko, none⟩) k.length r1'].toArray tNd (0, 0)), (b5, .cells [str [], .slice none 0 0, .slice none 0 0, str []].toArray 25 (0, 0)), (b2, .cells [str [], .slice none 0 0, .slice none 0 0, str []].toArray 25 (0, 0))]) M3) (fun x => A.length - x.i) ⟨0, Nat.zero_le _, fun j hj => by omega, .slice none 0 0, [], OwnS.nil⟩ pE (fun _ h => h) ?_
        rintro ⟨i, hi, hall, v, Hs, own⟩
        dsimp only
        have hlm : (A.map txN).length = A.length := List.length_map _
        have hcl : (cellsS ((A.map txN).take i)).length = i * 1 := by rw [cellsS_length, List.length_take, hlm]; omega
        obtain ⟨xa, xcap, rfl⟩ := own.slice (k := i) (by decide) hcl
        rcases Nat.lt_or_ge i A.length with hlt | hge
        · obtain ⟨us, hu4, hus, hcells⟩ := m4 i hlt
          obtain ⟨xn, xa1, xl1, xc1, xt, xa2, xl2, xc2, rfl⟩ := node_open hus
          have hxg : A.getD i nodeZ = A[i] := getD_nd hlt
          rw [← hxg] at hus
          have hlx := fun {w : World} (hw : Laid M3 w) => leaf_ok hw (NodeC.mono sub3 hus) sProxy
          have htx := node_tx hus
          have hno := fun h => hgood (no_nd (p := goodP) hlt h)
          have hst := fun h => step_nd (p := goodP) hall h
          have hnx : cellsS ((A.map txN).take (i + 1)) = cellsS ((A.map txN).take i) ++ [str xt] := cellsS_next (by rw [hlm]; exact hlt) (by simp only [List.getElem_map]; rw [← hxg, htx])
          unfold goodP at hno hst
          generalize decide (leafOk (A.getD i nodeZ) sProxy) = lx at *
          clear hus htx hxg
          repeat' (first | refine sk ?_ | (refine gL ?_; first | refine xl_alloc (fun _ => ?_) | refine xl_box rfl (fun _ => ?_) | refine xl_store rfl rfl ?_ | refine xl_buildSlice rfl (fun _ => ?_)) | fail)
          refine wc_cond rfl (fun hc => ?_) (fun hc => by exfalso; simp at hc; omega)
          clear hc
          repeat' (first | refine sk ?_ | (refine gL ?_; first | refine wl_v rfl rfl rfl (by first | (show OpV _ _ _ _ (Oper.mk _ (Op.indexAddr _ _ _) _ _ _ _) _ _; exact ov_indexAddr (i := i) (b := lb) (o := lo2) rfl rfl rfl pI pI rfl pZ (fun _ => rfl) pS) | (show OpV _ _ _ _ (Oper.mk _ (Op.load _ _) _ _ _ _) _ _; exact ov_loadSM (l := [str xn, .slice xa1 xl1 xc1, str xt, .slice xa2 xl2 xc2]) rfl pI rfl pZ (fun _ => sub3 _ _ hMl) (fun _ j hj => hcells j hj)) | (exact oc 57 Tryz.call57 (h := fun hcg w hw => hlx hw.laid))) ?_ | refine xl_alloc (fun _ => ?_) | refine xl_box rfl (fun _ => ?_) | refine xl_store rfl rfl ?_ | refine xl_buildSlice rfl (fun _ => ?_)) | fail)
          refine wc_cond rfl (fun hc => ?_) (fun hc => ?_)
          · have hlf0 : lx = false := by simpa using hc
            rw [if_neg (by rw [hno hlf0]; simp)]
            repeat' (first | refine sk ?_ | (refine gL ?_; first | refine xl_alloc (fun _ => ?_) | refine xl_box rfl (fun _ => ?_) | refine xl_store rfl rfl ?_ | refine xl_buildSlice rfl (fun _ => ?_)) | fail)
            exact wr_layC3 (Hn := []) rfl rfl rfl rfl rfl rfl si3 (List.nil_sublist _) ⟨rfl, _, rfl, _, _, _, _, _, _, rfl, sl_nil, sl_nil⟩ pM
          · have hlf1 : lx = true := by simpa using hc
            clear hno hc
            repeat' (first | refine sk ?_ | (refine gL ?_; first | refine xl_alloc (fun _ => ?_) | refine xl_box rfl (fun _ => ?_) | refine xl_store rfl rfl ?_ | refine xl_buildSlice rfl (fun _ => ?_)) | fail)
            refine wc_draw 8 (by kernel_rfl) rfl (by kernel_rfl) (fun _ _ h k => h.ext k) ?_
            repeat' (first | (refine gD ?_; first | refine yd_v rfl rfl rfl rfl rfl rfl ?_ | refine wd_v rfl rfl rfl rfl rfl rfl (by first | (show OpV _ _ _ _ (Oper.mk _ (Op.indexAddr _ _ _) _ _ _ _) _ _; exact ov_indexAddr (i := i) (b := lb) (o := lo2) rfl rfl rfl pI pI rfl pZ (fun _ => rfl) pS) | (show OpV _ _ _ _ (Oper.mk _ (Op.load _ _) _ _ _ _) _ _; exact ov_load1M rfl pI rfl rfl (fun _ => sub3 _ _ hMl) (fun _ => hcells 2 (by simp)))) ?_ | refine yd_new rfl rfl rfl rfl rfl rfl ?_ | refine wd_conv rfl rfl rfl rfl rfl rfl rfl rfl rfl rfl ?_) | (refine gE ?_; first | refine wd_nil ?_ | refine wd_nil1 (wl_fresh (fun _ => ?_))) | (first | refine sk ?_ | (refine gL ?_; first | refine wl_v rfl rfl rfl (by first | (show OpV _ _ _ _ (Oper.mk _ (Op.indexAddr _ _ _) _ _ _ _) _ _; exact ov_indexAddr (i := i) (b := lb) (o := lo2) rfl rfl rfl pI pI rfl pZ (fun _ => rfl) pS) | (show OpV _ _ _ _ (Oper.mk _ (Op.load _ _) _ _ _ _) _ _; exact ov_load1M rfl pI rfl rfl (fun _ => sub3 _ _ hMl) (fun _ => hcells 2 (by simp)))) ?_ | refine xl_alloc (fun _ => ?_) | refine xl_box rfl (fun _ => ?_) | refine xl_store rfl rfl ?_ | refine xl_buildSlice rfl (fun _ => ?_)) | fail))
            refine wl_append (H0 := [(b10, .cells [str user, .slice sa sal sac, .slice xa i xcap, str (txI k)].toArray 25 (0, 0)), (b8, .cells [str nn, .slice p1 an.length r1, str nt, .slice (some ⟨kb, ko, none⟩) k.length r1'].toArray tNd (0, 0)), (b5, .cells [str [], .slice none 0 0, .slice none 0 0, str []].toArray 25 (0, 0)), (b2, .cells [str [], .slice none 0 0, .slice none 0 0, str []].toArray 25 (0, 0))]) rfl own rfl rfl rfl rfl rfl rfl rfl rfl rfl rfl (List.Mem.head _) rfl rfl (List.sublist_cons_self _ _) (by rw [hcl]; omega) rfl ?_
            intro v' Hs' ho'
            have ho2 : OwnS 9 1 v' Hs' (cellsS ((A.map txN).take (i + 1))) := by rw [hnx]; exact ho'
            obtain ⟨va', vcap', rfl⟩ := ho2.slice (k := i + 1) (by decide) (by rw [cellsS_length, List.length_take, hlm]; omega)
            repeat' (first | refine sk ?_ | (refine gL ?_; first | refine xl_alloc (fun _ => ?_) | refine xl_box rfl (fun _ => ?_) | refine xl_store rfl rfl ?_ | refine xl_buildSlice rfl (fun _ => ?_)) | fail)
            exact wn_cut ⟨i + 1, by omega, hst hlf1, _, Hs', ho2⟩ (by show A.length - (i + 1) < A.length - i; omega) pE (fun _ h => h)
        obtain rfl : i = A.length := by omega
        repeat' (first | refine sk ?_ | (refine gL ?_; first | refine xl_alloc (fun _ => ?_) | refine xl_box rfl (fun _ => ?_) | refine xl_store rfl rfl ?_ | refine xl_buildSlice rfl (fun _ => ?_)) | fail)
        refine wc_cond rfl (fun hc => by exfalso; simp at hc) (fun hc => ?_)
        clear hc
        rw [show (A.map txN).take A.length = A.map txN from by rw [← hlm, List.take_length]] at own
        refine wc_publish (fun hn => ?_)
        have hSP : SlS (With M3 Hs) (.slice xa A.length xcap) (A.map txN) := own.slS (fun p hp => .inr hp) (by rw [hlm]; omega)
        have si4 := since_new si3 hn
        repeat' (first | refine sk ?_ | (refine gL ?_; first | refine xl_alloc (fun _ => ?_) | refine xl_box rfl (fun _ => ?_) | refine xl_store rfl rfl ?_ | refine xl_buildSlice rfl (fun _ => ?_)) | fail)
        exact wn_cut ⟨all_nd hall, With M3 Hs, xa, A.length, xcap, hSP, si4, fun _ _ h => .inl h⟩ trivial pE (fun _ h => h)
      · have hA : ¬ okA k i2 sProxies := by
          rw [hoP]
          rintro ⟨h1, h2, h3, h4⟩
          exact no4 (by omega) h2 (by omega) (by omega) hc
        rw [if_neg hA] at hP2 hPk
        rw [hP2, hPk]
        repeat' (first | refine sk ?_ | (refine gL ?_; first | refine xl_alloc (fun _ => ?_) | refine xl_box rfl (fun _ => ?_) | refine xl_store rfl rfl ?_ | refine xl_buildSlice rfl (fun _ => ?_)) | fail)
        exact wn_cut ⟨rfl, M3, none, 0, 0, sl_nil, si3, fun _ _ h => h⟩ trivial pE (fun _ h => h)
    rintro ⟨good2, M4, pa, pal, pac, hSP4, si4, sub4⟩
    dsimp only
    have hSA4 : SlP M4 (.slice sa sal sac) ((kdA k).map attrOf) := Sl.mono hSA3 sub4 (fun _ _ _ h => h)
    have hus : (parsed k).user = user := hut
    clear hci hoP hP2 hPk
    repeat' (first | refine sk ?_ | (refine gL ?_; first | refine xl_alloc (fun _ => ?_) | refine xl_box rfl (fun _ => ?_) | refine xl_store rfl rfl ?_ | refine xl_buildSlice rfl (fun _ => ?_)) | fail)
    refine wc_cond rfl (fun hc => ?_) (fun hc => ?_)
    · have h3 : at3 k ≠ k.length := by
        intro h; rw [h] at hc; simp at hc
      rw [if_neg (by rw [ok_no3 h3]; simp)]
      repeat' (first | refine sk ?_ | (refine gL ?_; first | refine xl_alloc (fun _ => ?_) | refine xl_box rfl (fun _ => ?_) | refine xl_store rfl rfl ?_ | refine xl_buildSlice rfl (fun _ => ?_)) | fail)
      exact wr_layC3 (Hn := []) rfl rfl rfl rfl rfl rfl si4 (List.nil_sublist _) ⟨rfl, _, rfl, _, _, _, _, _, _, rfl, sl_nil, sl_nil⟩ pM
    · have h3 : at3 k = k.length := by
        have : ((at3 k : Nat) : Int) = (k.length : Int) := by simpa using hc
        omega
      rw [if_pos (ok_yes good1 good2 h3)]
      repeat' (first | refine sk ?_ | (refine gL ?_; first | refine xl_alloc (fun _ => ?_) | refine xl_box rfl (fun _ => ?_) | refine xl_store rfl rfl ?_ | refine xl_buildSlice rfl (fun _ => ?_)) | fail)
      exact wr_layC3 (Hn := []) rfl rfl rfl rfl rfl rfl si4 (List.nil_sublist _) ⟨rfl, _, rfl, _, _, _, _, _, _, by rw [hus], Sl.mono hSA4 (fun _ _ => .inl) (fun _ _ _ h => h), Sl.mono hSP4 (fun _ _ => .inl) (fun _ _ _ h => h)⟩ pM
end Go.Proofs.YtgfbieplidpebaaGreatDoor
/-
  What is told is read as it was; how many marks there are.
-/
namespace Go.Cas
open Go.Pct Go.Xml Go.Proofs.YtgfbieplidpebaaGreatDoor
set_option linter.unusedVariables false
set_option linter.unusedSimpArgs false

theorem rsp_read {kind : List UInt8} {x : Nd} (h : rightN x = true) : readP (rsp kind x).body = some x := by
  unfold rsp wr
  simp only [h, if_true]
  exact readP_back h
theorem rsp_hdr (kind : List UInt8) (x : Nd) : hdrOk (rsp kind x) kind := ⟨rfl, rfl⟩
theorem rsp_same {kind : List UInt8} {x : Nd} (h : rightN x = true) : sameR (rsp kind x) (rsp kind x) = true := (same_iff _ _ _).2 ⟨rsp_hdr kind x, rsp_read h⟩
theorem rsp_rd {kind : List UInt8} {x : Nd} (h : rightN x = true) : rd (rsp kind x) = x := rd_of (rsp_read h)
theorem rsp_other {kind : List UInt8} {x y : Nd} (h : rightN x = true) (hne : x ≠ y) : ¬ sameR (rsp kind x) (rsp kind y) = true := by
  intro hs
  have := ((same_iff _ _ _).1 hs).2
  rw [rsp_read h] at this
  exact hne (by simpa using this)
theorem cas_inj {x y : Nd} (h : casN x = casN y) : x = y := by
  unfold casN at h
  simpa using h
theorem known_code {e : Int} (h : e ≠ 0) : ∃ i, knownE (codeE e) = some i := by
  have k1 : knownE cReq = some 32 := by decide +kernel
  have k2 : knownE cTkt = some 29 := by decide +kernel
  have k3 : knownE cSpec = some 31 := by decide +kernel
  have k4 : knownE cSvc = some 30 := by decide +kernel
  have k5 : knownE cUna = some 35 := by decide +kernel
  have k6 : knownE cCb = some 33 := by decide +kernel
  have k7 : knownE cInt = some 0 := by decide +kernel
  unfold codeE
  simp only [h, if_false]
  repeat' split
  all_goals first
    | exact ⟨_, k1⟩
    | exact ⟨_, k2⟩
    | exact ⟨_, k3⟩
    | exact ⟨_, k4⟩
    | exact ⟨_, k5⟩
    | exact ⟨_, k6⟩
    | exact ⟨_, k7⟩
theorem suc_fail (s : Suc) (at' : Bool) (n t c : List UInt8) (hn : n ≠ sSuc) : sucN s at' ≠ failN n t c := by
  intro h
  have := congrArg nmN h
  exact hn this.symm
theorem answer_back {s : Suc} (h : rightN (answerN s 0 true) = true) : readAnswerP (rsp sXml (answerN s 0 true)) = (s, [], true) := by
  unfold readAnswerP
  rw [if_neg]
  · rw [rsp_rd h]
    have e : sucOf (answerN s 0 true) = s := by rw [answer_suc, sucOf_back]
    rw [e, if_pos (rsp_same h)]
  · intro hc
    obtain ⟨v, i, _, _, hx⟩ := (failP_iff (fun e => answerN suc0 e true) (fun e h => answer_fail e h true suc0)).1 hc
    rw [rsp_read h, answer_suc] at hx
    exact suc_fail s true sAF sNotOk v (by decide) (cas_inj (by simpa using hx))
theorem answer_plain (s : Suc) : answerN s 0 false = answerN ⟨s.user, [], s.proxies, s.iou⟩ 0 true := by
  unfold answerN sucN sucK k1 k2 k3
  simp
theorem answer_fail_back {s : Suc} {e : Int} (he : e ≠ 0) {at' : Bool} (h : rightN (answerN s e at') = true) : readAnswerP (rsp sXml (answerN s e at')) = (suc0, codeE e, true) := by
  obtain ⟨i, hi⟩ := known_code he
  unfold readAnswerP
  rw [if_pos]
  · rw [rsp_rd h, answer_fail e he, failed_cas hi]
  · exact (failP_iff (fun e => answerN suc0 e true) (fun e h => answer_fail e h true suc0)).2 ⟨codeE e, i, hi, rsp_hdr _ _, by rw [rsp_read h, answer_fail e he]⟩
theorem proxy_back {pt : List UInt8} (h : rightN (proxyN pt 0) = true) : readProxyP (rsp sXml (proxyN pt 0)) = (pt, [], true) := by
  unfold readProxyP
  rw [if_neg]
  · rw [rsp_rd h]
    have e : txN (foundN (proxyN pt 0) [sPS, sPT]) = pt := by rw [proxy_suc, found_pt]
    rw [e, if_pos (rsp_same h)]
  · intro hc
    obtain ⟨v, i, _, _, hx⟩ := (failP_iff (fun e => proxyN [] e) (fun e h => proxy_fail e h [])).1 hc
    rw [rsp_read h, proxy_suc] at hx
    have := congrArg nmN (cas_inj (by simpa using hx))
    exact absurd this (by show ¬ sPS = sPF; decide)
theorem proxy_fail_back {pt : List UInt8} {e : Int} (he : e ≠ 0) (h : rightN (proxyN pt e) = true) : readProxyP (rsp sXml (proxyN pt e)) = ([], codeE e, true) := by
  obtain ⟨i, hi⟩ := known_code he
  unfold readProxyP
  rw [if_pos]
  · rw [rsp_rd h, proxy_fail e he, failed_cas hi]
  · exact (failP_iff (fun e => proxyN [] e) (fun e h => proxy_fail e h [])).2 ⟨codeE e, i, hi, rsp_hdr _ _, by rw [rsp_read h, proxy_fail e he]⟩
theorem proxy_of_answer {s : Suc} {at' : Bool} (h : rightN (answerN s 0 at') = true) : readProxyP (rsp sXml (answerN s 0 at')) = ([], [], false) := by
  unfold readProxyP
  rw [if_neg, if_neg]
  · refine rsp_other h fun hx => ?_
    rw [answer_suc, proxy_suc] at hx
    have := congrArg nmN (cas_inj hx)
    exact absurd this (by show ¬ sSuc = sPS; decide)
  · intro hc
    obtain ⟨v, i, _, _, hx⟩ := (failP_iff (fun e => proxyN [] e) (fun e h => proxy_fail e h [])).1 hc
    rw [rsp_read h, answer_suc] at hx
    exact suc_fail s at' sPF sNoPt v (by decide) (cas_inj (by simpa using hx))
theorem form_back {a b c : List UInt8} (h : rightN (formPN a b c) = true) : readFormP (rsp sHtmlT (formPN a b c)) = (a, b, c, true) := by
  unfold readFormP
  rw [rsp_rd h, form_found, form_p, (at2_form a b).1, (at2_form a b).2, if_pos ⟨formOk_form a b, rsp_same h⟩]
theorem page_back {a b : List UInt8} (h : rightN (pageN a b) = true) : readPageP (rsp sHtmlT (pageN a b)) = (a, b, true) := by
  unfold readPageP
  rw [rsp_rd h, page_p]
  exact if_pos ⟨rfl, rsp_same h⟩
theorem form_of_page {a b : List UInt8} (h : rightN (pageN a b) = true) : readFormP (rsp sHtmlT (pageN a b)) = ([], [], [], false) := by
  have e : foundN (pageN a b) [sBody, sForm] = nodeZ := by
    have d : ¬ nmN (Nd.mk sP [(sClass, a)] b []) = sForm := by show ¬ sP = sForm; decide
    unfold pageN
    rw [found_html]
    simp [d]
  unfold readFormP
  rw [rsp_rd h, e, if_neg]
  rintro ⟨⟨h1, _⟩, _⟩
  exact absurd h1 (by decide)
theorem page_of_form {a b c : List UInt8} (h : rightN (formPN a b c) = true) : readPageP (rsp sHtmlT (formPN a b c)) = ([], [], false) := by
  have e : (atN (foundN (formPN a b c) [sBody, sP])).length = 0 := by
    have d1 : ¬ nmN (formN a b) = sP := by show ¬ sForm = sP; decide
    have n2 : nmN (leafN sP c) = sP := rfl
    rw [form_eq, found_html]
    unfold formK
    by_cases h : c = []
    · simp [h, d1]; rfl
    · simp [h, n2]; rfl
  unfold readPageP
  rw [rsp_rd h, if_neg]
  rintro ⟨h1, _⟩
  omega

/-! ### marks -/
def mkB (c : UInt8) : Bool := decide (c = 60) || decide (c = 62)
def cntM (s : List UInt8) : Nat := s.countP mkB
theorem cntM_app (s t : List UInt8) : cntM (s ++ t) = cntM s + cntM t := List.countP_append
theorem cntM_esc (s : List UInt8) : cntM (esc s) = 0 := by
  unfold cntM
  rw [List.countP_eq_zero]
  intro c hc
  have := esc_bad c hc
  revert this
  unfold badC mkB
  simp only [Bool.or_eq_false_iff, beq_eq_false_iff_ne, Bool.or_eq_true, decide_eq_true_eq, not_or]
  rintro ⟨⟨⟨h1, h2⟩, _⟩, _⟩
  exact ⟨h1, h2⟩
theorem cntM_text (n : List UInt8) (a : List Pr) (t : List UInt8) (k : List Nd) : cntM (textN (.mk n a t k)) = 4 + 2 * cntM n + cntM (attrT a) + cntM (textL k) := by
  have e1 : cntM [60] = 1 := rfl
  have e2 : cntM [62] = 1 := rfl
  have e3 : cntM [60, 47] = 1 := rfl
  simp only [textN, cntM_app, cntM_esc, e1, e2, e3]
  omega
theorem cntM_attr (n v : List UInt8) : cntM (attrT [(n, v)]) = cntM n := by
  have e1 : cntM [32] = 0 := rfl
  have e2 : cntM [61, 34] = 0 := rfl
  have e3 : cntM [34] = 0 := rfl
  simp only [attrT, List.flatMap_cons, List.flatMap_nil, List.append_nil, cntM_app, cntM_esc, e1, e2, e3]
  omega
theorem cntM_one (x : Nd) : cntM (textL [x]) = cntM (textN x) := by
  simp only [textL, List.append_nil]
theorem cntM_page (a b : List UInt8) : cntM (textN (pageN a b)) = 12 := by
  have h1 : cntM sHtml = 0 := by decide
  have h2 : cntM sBody = 0 := by decide
  have h3 : cntM sP = 0 := by decide
  have h4 : cntM sClass = 0 := by decide
  have e : cntM (attrT []) = 0 := rfl
  have e2 : cntM (textL []) = 0 := rfl
  unfold pageN htmlN wrapN
  rw [cntM_text, cntM_one, cntM_text, cntM_one, cntM_text, cntM_attr, h1, h2, h3, h4, e, e2]
theorem cntM_user (u : List UInt8) : cntM (textN (answerN ⟨u, [], [], []⟩ 0 true)) = 12 := by
  have h1 : cntM sResp = 0 := by decide
  have h2 : cntM sSuc = 0 := by decide
  have h3 : cntM sUser = 0 := by decide
  have h4 : cntM sNs = 0 := by decide
  have e : cntM (attrT []) = 0 := rfl
  have e2 : cntM (textL []) = 0 := rfl
  have ek : sucK ⟨u, [], [], []⟩ true = [leafN sUser u] := by simp [sucK, k1, k2, k3]
  rw [answer_suc]
  unfold sucN wrapN casN
  rw [ek]
  unfold leafN
  rw [cntM_text, cntM_one, cntM_text, cntM_one, cntM_text, cntM_attr, h1, h2, h3, h4, e, e2]
theorem wr_right {x : Nd} (h : rightN x = true) : wr x = textN x := by unfold wr; rw [if_pos h]
theorem user_sh {u : List UInt8} (h : shwB u = true) : rightN (answerN ⟨u, [], [], []⟩ 0 true) = true :=
  right_answer ⟨h, (show shwB [] = true by decide), (fun p hp => by cases hp), (fun p hp => by cases hp)⟩ (by simp) (by simp) 0 true
/-- cas:user of a success -/
theorem user_found (u : List UInt8) : foundN (answerN ⟨u, [], [], []⟩ 0 true) [sSuc, sUser] = leafN sUser u := by
  have ek : sucK ⟨u, [], [], []⟩ true = [leafN sUser u] := by simp [sucK, k1, k2, k3]
  unfold foundN
  rw [answer_suc]
  unfold casN
  rw [find_one, if_pos (show nmN (sucN ⟨u, [], [], []⟩ true) = sSuc from rfl)]
  unfold sucN wrapN
  rw [ek, find_one, if_pos (show nmN (leafN sUser u) = sUser from rfl)]
  rfl
theorem user_isSome (u : List UInt8) : (findN (answerN ⟨u, [], [], []⟩ 0 true) [sSuc, sUser]).isSome = true := by
  have ek : sucK ⟨u, [], [], []⟩ true = [leafN sUser u] := by simp [sucK, k1, k2, k3]
  rw [answer_suc]
  unfold casN
  rw [find_one, if_pos (show nmN (sucN ⟨u, [], [], []⟩ true) = sSuc from rfl)]
  unfold sucN wrapN
  rw [ek, find_one, if_pos (show nmN (leafN sUser u) = sUser from rfl)]
  rfl
theorem page_isSome (a b : List UInt8) : (findN (pageN a b) [sBody, sP]).isSome = true := by
  unfold pageN htmlN wrapN
  rw [find_one, if_pos (show nmN (Nd.mk sBody [] [] [Nd.mk sP [(sClass, a)] b []]) = sBody from rfl), find_one, if_pos (show nmN (Nd.mk sP [(sClass, a)] b []) = sP from rfl)]
  rfl
end Go.Cas
