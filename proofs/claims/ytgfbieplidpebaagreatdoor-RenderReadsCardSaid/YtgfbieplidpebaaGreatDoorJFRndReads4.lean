/-
  Texts of a proof, joined: RndA, RndB, RndC, RndD, RndE, RndF, RndG, RndH, EngP, RndN, CasP, CasQ, RndJ.
-/
import Derived.Test.YtgfbieplidpebaaGreatDoorJFRndReads1
import Derived.Test.YtgfbieplidpebaaGreatDoorJFRndReads2
import Derived.Test.YtgfbieplidpebaaGreatDoorJFRndReads3
/-
  Elements in memory; text, around, input, failure, Code.
-/
namespace Go.Eng
set_option linter.unusedSimpArgs false
set_option linter.unusedVariables false
section
variable {P : Program} {n : Nat} {E : Env} {k : Kont} {ops : Array Oper} {rest tail : List Oper} {cg : Bool} {C : World → Prop}
variable {dst : Option Tmp} {ty : TypeId} {pos : String} {af : Array Edge} {g : Option (Nat × Bool)}
variable {w0 : World} {bs : List Nat} {H : List (Nat × Obj)} {M : Ghost}
/-- own blocks lie as well -/
theorem St.with {w : World} (h : St w0 bs H M w) : Laid (With M H) w := fun b o hb => hb.elim (h.laid b o) fun hm => h.own (b, o) hm
/-- a call that takes a slice that was laid in the same region, among others -/
theorem or_callN {f : FuncId} {s len : Nat} {o : Obj} {v : Value} {l : List Operand} {ats : Array TypeId} {vs : Value → List (Bool × Value)} {args : Value → Array Value} (hf : ∀ args w, (callFunc f args).run P w = .ok (.enter f args) w)
    (hl : ∀ u, evg true ((s, true, u) :: E) l = some (vs u)) (hp : ∀ u, (vs u).all (·.1) = true) (hargs : ∀ u, (vs u).map (·.2) = (args u).toList)
    (hc : ∀ b w, St w0 bs ((b, o) :: H) M w → Calls P f (args (.slice (some ⟨b, 0, none⟩) len len)) w (RetE w v)) (u : Value) :
    OpR P n ((s, true, u) :: E) (St w0 bs H M) (Fresh w0 bs H M len o u) ⟨dst, .call ⟨.value (.func f), l.toArray, ats⟩, ty, pos, af, none⟩ (exact1 true v) := ⟨fun a ha w hw ⟨b, hu, hst⟩ => by
  subst hu
  unfold Tells
  rw [run_callf hf (args := args (.slice (some ⟨b, 0, none⟩) len len)) (by rw [evg_eval ha (hl _) (by simpa using hp _), hargs])]
  exact ⟨rfl, (hc b w hst).mono fun e w' he => ⟨v, he.1, rfl, he.2, hw.ext he.2⟩⟩⟩
/-- a cell that is laid in a drawn region -/
def FreshC (w0 : World) (bs : List Nat) (H : List (Nat × Obj)) (M : Ghost) (o : Obj) : Tell := fun v w => ∃ b, v = .pointer (some ⟨b, 0, none⟩) ∧ St w0 bs ((b, o) :: H) M w
theorem steady_freshC {o : Obj} : Steady (FreshC w0 bs H M o) := fun _ _ _ hx ⟨b, h1, h2⟩ => ⟨b, h1, h2.ext hx⟩
theorem wl_freshC {d : Nat} {o : Obj} {l : List Oper} (h : ∀ b, WL P ops l n ((d, true, .pointer (some ⟨b, 0, none⟩)) :: E) (St w0 bs ((b, o) :: H) M) k) (v : Value) :
    WL P ops l n ((d, true, v) :: E) (fun w => St w0 bs H M w ∧ FreshC w0 bs H M o v w) k := ⟨fun a w ha ⟨_, b, hv, hst⟩ => by
  subst hv
  exact (h b).run a w ha hst⟩
/-- one told entry is kept, others are not -/
theorem wd_nilK {d : Nat} {V : Tell} {F : REnv} (hF : lookR F d = some V) (h : ∀ v, WL P ops tail n ((d, true, v) :: E) (fun w => C w ∧ V v w) k) : WD P ops [] n E F C tail k := ⟨fun hdis G hG a w hw hA => by
  obtain ⟨u, hu, hU⟩ := hA.2.2 d V (by rw [hG]; simp [hF]) trivial
  refine (h u).run a w ⟨hA.1, hA.2.1, fun i c v hi => ?_⟩ ⟨hw, hU⟩
  simp only [look] at hi
  by_cases e : d = i
  · subst e; simp at hi; obtain ⟨rfl, rfl⟩ := hi; exact hu
  · rw [beq_no e, cond_false] at hi
    have hFi : lookR F i = none := by
      cases hf : lookR F i with
      | none => rfl
      | some V => rw [hdis i (by simp [hf])] at hi; cases hi
    obtain ⟨u2, hu2, hU2⟩ := hA.2.2 i (exact1 c v) (by rw [hG]; simp [hFi, hi]) trivial
    rw [hu2, hU2]⟩
end
end Go.Eng
namespace Go.Proofs.YtgfbieplidpebaaGreatDoor
open Go.Eng Go.Pct Go.Xml Go.Cas
set_option maxRecDepth 10000
set_option linter.unusedSimpArgs false
set_option linter.unusedVariables false

variable {M : Ghost} {w0 w : World} {bs : List Nat} {H : List (Nat × Obj)}
abbrev tNd : TypeId := 55
/-- elements, each in its cells -/
def AllN (M : Ghost) (D : Nat) : List Nd → List (List Value) → Prop
  | [], [] => True
  | x :: l, vs :: vss => NodeC M D x vs ∧ AllN M D l vss
  | _, _ => False
theorem AllN.mono {M' : Ghost} {D : Nat} (hm : ∀ b o, M b o → M' b o) : ∀ {l : List Nd} {vss : List (List Value)}, AllN M D l vss → AllN M' D l vss
  | [], [], _ => trivial
  | x :: l, vs :: vss, h => ⟨NodeC.mono hm h.1, AllN.mono hm h.2⟩
  | [], _ :: _, h => h.elim
  | _ :: _, [], h => h.elim
theorem AllN.up {D D' : Nat} (hd : D ≤ D') : ∀ {l : List Nd} {vss : List (List Value)}, AllN M D l vss → AllN M D' l vss
  | [], [], _ => trivial
  | x :: l, vs :: vss, h => ⟨NodeC.up hd h.1, AllN.up hd h.2⟩
  | [], _ :: _, h => h.elim
  | _ :: _, [], h => h.elim
theorem AllN.app {D : Nat} {l' : List Nd} {vss' : List (List Value)} (h' : AllN M D l' vss') : ∀ {l : List Nd} {vss : List (List Value)}, AllN M D l vss → AllN M D (l ++ l') (vss ++ vss')
  | [], [], _ => h'
  | x :: l, vs :: vss, h => ⟨h.1, AllN.app h' h.2⟩
  | [], _ :: _, h => h.elim
  | _ :: _, [], h => h.elim
theorem AllN.len {D : Nat} : ∀ {l : List Nd} {vss : List (List Value)}, AllN M D l vss → vss.flatten.length = l.length * 4
  | [], [], _ => rfl
  | x :: l, vs :: vss, h => by
    rw [List.flatten_cons, List.length_append, h.1.four, AllN.len h.2, List.length_cons]; omega
  | [], _ :: _, h => h.elim
  | _ :: _, [], h => h.elim
theorem AllN.at {D : Nat} : ∀ {l : List Nd} {vss : List (List Value)}, AllN M D l vss → ∀ (i : Nat) (hi : i < l.length), NodeC M D l[i] ((vss.flatten.drop (i * 4)).take 4)
  | x :: l, vs :: vss, h, 0, _ => by
    rw [List.flatten_cons, Nat.zero_mul, List.drop_zero, List.take_left' h.1.four]; exact h.1
  | x :: l, vs :: vss, h, i + 1, hi => by
    rw [List.flatten_cons, show (i + 1) * 4 = vs.length + i * 4 from by rw [h.1.four]; omega, ← List.drop_drop, List.drop_left]
    exact AllN.at h.2 i (by simpa using hi)
  | [], _, _, i, hi => absurd hi (by simp)
  | _ :: _, [], h, _, _ => h.elim
theorem AllN.sl {D : Nat} {e : TypeId} {v : Value} {Hs : List (Nat × Obj)} {l : List Nd} {vss : List (List Value)} (h : AllN M D l vss) (own : OwnS e 4 v Hs vss.flatten) (hM : ∀ p ∈ Hs, M p.1 p.2) (hl : l.length ≤ 1000000000) : Sl M 4 (NodeC M D) v l :=
  own.sl (by decide) hM h.len (by omega) (fun i hi => h.at i hi)
/-- .. in a block that lies -/
theorem sl_blk {D b : Nat} {l : List Nd} {vss : List (List Value)} (hb : M b (.cells vss.flatten.toArray tNd (0, 0))) (h : AllN M D l vss) (hl : l.length ≤ 1000) : Sl M 4 (NodeC M D) (.slice (some ⟨b, 0, none⟩) l.length l.length) l :=
  h.sl (OwnS.lit (e := tNd) (m := 4) (b := b) (len := l.length) h.len (Nat.le_trans hl (by decide))) (fun p hp => by rw [List.mem_singleton] at hp; subst hp; exact hb) (by omega)
theorem slP_blk {e b : Nat} {l : List Go.Pct.Pr} (h : M b (.cells (cellsP l).toArray e (0, 0))) (hl : l.length ≤ 1000) : SlP M (.slice (some ⟨b, 0, none⟩) l.length l.length) l :=
  (OwnS.lit (e := e) (b := b) (cellsP_length l) (Nat.le_trans hl (by decide))).slP (fun p hp => by
    rw [List.mem_singleton] at hp; subst hp; exact h) (by omega)
/-- an element, from its parts -/
theorem node_mk {D : Nat} {n t : List UInt8} {a : List Go.Pct.Pr} {k : List Nd} {va vk : Value} (ha : SlP M va a) (hk : Sl M 4 (NodeC M D) vk k) (hn : n.length ≤ 100000000) (ht : t.length ≤ 100000000) (hp : ∀ p ∈ a, p.1.length ≤ 100000000 ∧ p.2.length ≤ 100000000) : NodeC M (D + 1) (.mk n a t k) [str n, va, str t, vk] := ⟨_, _, rfl, ha, hk, hn, ht, hp⟩
theorem leaf_mk {D : Nat} {n t : List UInt8} (hn : n.length ≤ 100000000) (ht : t.length ≤ 100000000) : NodeC M (D + 1) (leafN n t) [str n, .slice none 0 0, str t, .slice none 0 0] := node_mk sl_nil sl_nil hn ht (fun p hp => absurd hp (by simp))
theorem wrap_mk {D : Nat} {n : List UInt8} {k : List Nd} {vk : Value} (hk : Sl M 4 (NodeC M D) vk k) (hn : n.length ≤ 100000000) : NodeC M (D + 1) (wrapN n k) [str n, .slice none 0 0, str [], vk] := node_mk sl_nil hk hn (by simp) (fun p hp => absurd hp (by simp))
/-- a result that is an element -/
def NdIs (M' : Ghost) (D : Nat) (x : Nd) (v : Value) : Prop := ∃ n a1 l1 c1 t a2 l2 c2, v = .agg [str n, .slice a1 l1 c1, str t, .slice a2 l2 c2].toArray ∧ NodeC M' D x [str n, .slice a1 l1 c1, str t, .slice a2 l2 c2]
/-- a result that is a response -/
def RspK (M' : Ghost) (kind body : List UInt8) (v : Value) : Prop := ∃ a l c, v = .agg [i64 200, .slice a l c, str body].toArray ∧ SlP M' (.slice a l c) [(sCT, kind)]

theorem text_ok (hM : Laid M w) (n s : List UInt8) (a : Option Addr) (l c : Nat) : Calls Tryz.prog 43 #[str n, str s, .slice a l c] w (RetE w (.agg [str n, .slice a l c, str s, .slice none 0 0].toArray)) := by
  refine fn3 hM Tryz.func43 ?_
  repeat' (first | refine sk ?_ | (refine gL ?_; first | refine xl_alloc (fun _ => ?_) | refine xl_store rfl rfl ?_) | fail)
  exact wr_cell1 rfl rfl rfl pM rfl rfl
theorem around_ok (hM : Laid M w) (n : List UInt8) (a : Option Addr) (l c : Nat) : Calls Tryz.prog 42 #[str n, .slice a l c] w (RetE w (.agg [str n, .slice none 0 0, str [], .slice a l c].toArray)) := by
  refine fn2 hM Tryz.func42 ?_
  repeat' (first | refine sk ?_ | (refine gL ?_; first | refine xl_alloc (fun _ => ?_) | refine xl_store rfl rfl ?_) | fail)
  exact wr_cell1 rfl rfl rfl pM rfl rfl
theorem input_ok (hM : Laid M w) (a b : List UInt8) (ha : a.length ≤ 100000000) (hb : b.length ≤ 100000000) : Calls Tryz.prog 44 #[str a, str b] w (RetS M w (fun M' H v => H = [] ∧ NdIs M' 1 (inputN a b) v)) := by
  refine fn2 hM Tryz.func44 ?_
  repeat' (first | refine sk ?_ | (refine gL ?_; first | refine wl_v rfl rfl rfl (by first | (exact oc 43 Tryz.call43 (h := fun hcg w hw => text_ok hw.laid _ _ _ _ _))) ?_ | refine xl_alloc (fun _ => ?_) | refine xl_store rfl rfl ?_ | refine xl_buildSlice rfl (fun _ => ?_)) | fail)
  rename_i b4 b9
  refine yr_layC (Hn := [(b9, .cells (cellsP [(sName, a), (sValue, b)]).toArray 50 (0, 0))]) rfl rfl rfl rfl Since.refl (List.Sublist.cons_cons _ (List.nil_sublist _)) ⟨rfl, _, _, _, _, _, _, _, _, rfl, node_mk (slP_blk (l := [(sName, a), (sValue, b)]) (.inr (List.Mem.head _)) (by simp)) sl_nil (by decide) (by simp) (fun p hp => ?_)⟩
  simp only [List.mem_cons, List.not_mem_nil, or_false] at hp
  rcases hp with rfl | rfl
  · exact ⟨by show sName.length ≤ _; decide, ha⟩
  · exact ⟨by show sValue.length ≤ _; decide, hb⟩
theorem failure_ok (hM : Laid M w) (n s c : List UInt8) (hn : n.length ≤ 100000000) (hs : s.length ≤ 100000000) (hc : c.length ≤ 100000000) : Calls Tryz.prog 33 #[str n, str s, str c] w (RetS M w (fun M' H v => H = [] ∧ NdIs M' 1 (failN n s c) v)) := by
  refine fn3 hM Tryz.func33 ?_
  repeat' (first | refine sk ?_ | (refine gL ?_; first | refine wl_v rfl rfl rfl (by first | (exact oc 43 Tryz.call43 (h := fun hcg w hw => text_ok hw.laid _ _ _ _ _))) ?_ | refine xl_alloc (fun _ => ?_) | refine xl_store rfl rfl ?_ | refine xl_buildSlice rfl (fun _ => ?_)) | fail)
  rename_i b6 b11
  refine yr_layC (Hn := [(b11, .cells (cellsP [(sCode, c)]).toArray 50 (0, 0))]) rfl rfl rfl rfl Since.refl (List.Sublist.cons_cons _ (List.nil_sublist _)) ⟨rfl, _, _, _, _, _, _, _, _, rfl, node_mk (slP_blk (l := [(sCode, c)]) (.inr (List.Mem.head _)) (by simp)) sl_nil hn hs (fun p hp => ?_)⟩
  simp only [List.mem_cons, List.not_mem_nil, or_false] at hp
  subst hp
  exact ⟨by show sCode.length ≤ _; decide, hc⟩
/-! ### codes -/
def codeEs : List MapEntry := [⟨i64 33, str cReq, 0⟩, ⟨i64 30, str cTkt, 1⟩, ⟨i64 32, str cSpec, 2⟩, ⟨i64 31, str cSvc, 3⟩, ⟨i64 36, str cUna, 4⟩, ⟨i64 34, str cCb, 5⟩, ⟨i64 0, str [], 6⟩]
end Go.Proofs.YtgfbieplidpebaaGreatDoor
/-
  validate.Code; page, cas, html, Page, Proxy, Form.
-/
namespace Go.Eng
set_option linter.unusedSimpArgs false
set_option linter.unusedVariables false
section
variable {P : Program} {n : Nat} {E : Env} {cg cx cy : Bool} {x y : Operand}
variable {dst : Option Tmp} {ty : TypeId} {pos : String} {af : Array Edge} {g : Option (Nat × Bool)}
variable {w0 : World} {bs : List Nat} {H : List (Nat × Obj)} {M : Ghost}
theorem ov_lookupOk {mt kt et : TypeId} {d : TypeDesc} {b clock : Nat} {es : List MapEntry} {key v zv : Value} {r : Option (Nat × Value)} (hx : ev E x = some (cx, .map (some b))) (hy : ev E y = some (cy, key)) (h1 : Imp cg cx) (h2 : Imp cg cy)
    (ht : P.underlying mt = some (.map kt et)) (hk : P.underlying kt = some d) (hkey : MapKept.IsKey d key) (hm : (b, Obj.map es.toArray clock) ∈ H) (hz : ∀ w, (zeroValue et).run P w = .ok zv w) (hf : Instr.findNow d key es 0 = some r) (hv : .tuple #[foundV zv r, .bool r.isSome] = v) :
    OpV P n E (St w0 bs H M) ⟨dst, .lookup mt x y true, ty, pos, af, g⟩ cg v :=
  ov_run fun h a ha w hw => by
    have hf' : Instr.findNow d key es.toArray.toList 0 = some r := by simpa using hf
    subst hv
    cases r with
    | none => simp [foundV, execOp, ha.evalc hx (h1 h), ha.evalc hy (h2 h), Instr.lookup, run_underlying ht, MapKept.run_getObj_map (hw.get hm), MapKept.run_checkKey hk hkey, MapKept.run_findKey hk hf', hz]
    | some iv => obtain ⟨i, u⟩ := iv; simp [foundV, execOp, ha.evalc hx (h1 h), ha.evalc hy (h2 h), Instr.lookup, run_underlying ht, MapKept.run_getObj_map (hw.get hm), MapKept.run_checkKey hk hkey, MapKept.run_findKey hk hf']
end
end Go.Eng
namespace Go.Proofs.YtgfbieplidpebaaGreatDoor
open Go.Eng Go.Pct Go.Xml Go.Cas
set_option maxRecDepth 10000
set_option linter.unusedSimpArgs false
set_option linter.unusedVariables false

variable {M : Ghost} {w0 w : World} {bs : List Nat} {H : List (Nat × Obj)}
theorem find_code (z : Int) : ∃ r, Instr.findNow (.int .i64) (i64 z) codeEs 0 = some r ∧ ((r = none ∧ codeE z = cInt) ∨ ∃ i, r = some (i, str (codeE z))) := by
  have step : ∀ (z m : Int) (v : Value) (n i : Nat) (l : List MapEntry), Instr.findNow (.int .i64) (i64 z) (⟨i64 m, v, n⟩ :: l) i = if z = m then some (some (i, v)) else Instr.findNow (.int .i64) (i64 z) l (i + 1) := by
    intro z m v n i l
    by_cases h : z = m
    · simp [Instr.findNow, Instr.sameNow, h]
    · have h' : (z == m) = false := by simpa using h
      simp [Instr.findNow, Instr.sameNow, h, h']
  unfold codeEs
  simp only [step]
  repeat' split
  all_goals first
    | (subst_vars; exact ⟨_, rfl, .inr ⟨_, rfl⟩⟩)
    | (refine ⟨_, rfl, .inl ⟨rfl, ?_⟩⟩; unfold codeE; simp [*])
theorem codes_ok (hM : Laid M w) : Calls Tryz.prog 61 #[] w (RetS M w (fun M' H v => ∃ b, v = .map (some b) ∧ H = [(b, .map codeEs.toArray 7)])) := by
  refine fn0 hM Tryz.func61 ?_
  repeat' (first | refine sk ?_ | (refine gL ?_; first | refine wl_makeMap rfl rfl (fun _ => ?_) | refine wl_insert rfl rfl rfl rfl rfl rfl (by first | exact rfl | exact trivial) pU (by rfl) ?_) | fail)
  exact wr_S (Hn := [(_, .map codeEs.toArray 7)]) rfl rfl Since.refl (List.Sublist.refl _) ⟨_, rfl, rfl⟩
theorem code_ok (hM : Laid M w) (z : Int) : Calls Tryz.prog 34 #[i64 z] w (RetE w (str (codeE z))) := by
  obtain ⟨r, hr1, hr2⟩ := find_code z
  refine fn1 hM Tryz.func34 ?_
  repeat' (first | refine sk ?_ | fail)
  refine wl_callS rfl Tryz.call61 rfl rfl rfl rfl (fun w hw => codes_ok hw.laid) ?_
  rintro v Hn M' hm hnew ⟨b, rfl, rfl⟩
  rcases hr2 with ⟨rfl, hz⟩ | ⟨i, rfl⟩
  · repeat' (first | (first | refine sk ?_ | (refine gL ?_; first | refine wl_v rfl rfl rfl (by first | (show OpV _ _ _ _ (Oper.mk _ (Op.lookup _ _ _ _) _ _ _ _) _ _; exact ov_lookupOk rfl rfl pI pI rfl rfl (by exact rfl) pM (fun _ => rfl) hr1 rfl)) ?_) | fail) | (refine wc_cond rfl (fun hc => ?_) (fun hc => ?_) <;> (try (simp only [bls] at hc)) <;> (try (exfalso; first | omega | contradiction))))
    exact wr_tmp rfl rfl (by rw [hz]; rfl)
  · repeat' (first | (first | refine sk ?_ | (refine gL ?_; first | refine wl_v rfl rfl rfl (by first | (show OpV _ _ _ _ (Oper.mk _ (Op.lookup _ _ _ _) _ _ _ _) _ _; exact ov_lookupOk rfl rfl pI pI rfl rfl (by exact rfl) pM (fun _ => rfl) hr1 rfl)) ?_) | fail) | (refine wc_cond rfl (fun hc => ?_) (fun hc => ?_) <;> (try (simp only [bls] at hc)) <;> (try (exfalso; first | omega | contradiction))))
    exact wr_tmp rfl rfl rfl
theorem resW_wr (x : Nd) : ∃ e : Int, resW x = .tuple #[str (wr x), i64 e] := ⟨_, rfl⟩
theorem page_ok (hM : Laid M w) (kind bd : List UInt8) : Calls Tryz.prog 39 #[i64 200, str kind, str bd] w (RetS M w (fun M' H v => H = [] ∧ RspK M' kind bd v)) := by
  refine fn3 hM Tryz.func39 ?_
  repeat' (first | refine sk ?_ | (refine gL ?_; first | refine xl_alloc (fun _ => ?_) | refine xl_store rfl rfl ?_ | refine xl_buildSlice rfl (fun _ => ?_)) | fail)
  rename_i b1 b2
  exact yr_layC (Hn := [(b2, .cells (cellsP [(sCT, kind)]).toArray 50 (0, 0))]) rfl rfl rfl rfl Since.refl (List.Sublist.cons_cons _ (List.nil_sublist _)) ⟨rfl, _, _, _, rfl, slP_blk (l := [(sCT, kind)]) (.inr (List.Mem.head _)) (by simp)⟩
theorem rpage_ok (hG : Glob M) (hM : Laid M w) (kind : List UInt8) {D : Nat} {x : Nd} {un a1 l1 c1 ut a2 l2 c2} (hx : NodeC M D x [str un, .slice a1 l1 c1, str ut, .slice a2 l2 c2]) (hlen : (textN x).length ≤ 10000000000000) : Calls Tryz.prog 60 #[str kind, .agg [str un, .slice a1 l1 c1, str ut, .slice a2 l2 c2].toArray] w (RetS M w (fun M' H v => H = [] ∧ RspK M' kind (wr x) v)) := by
  obtain ⟨e, he⟩ := resW_wr x
  have hwr := fun {w : World} (hw : Laid M w) => write_ok hG hw hx hlen
  rw [he] at hwr
  refine fn2 hM Tryz.func60 ?_
  repeat' (first | refine sk ?_ | (refine gL ?_; first | refine wl_v rfl rfl rfl (by first | (exact oc 73 Tryz.call73 (h := fun hcg w hw => hwr hw.laid))) ?_ | refine xl_alloc (fun _ => ?_) | refine xl_box rfl (fun _ => ?_) | refine xl_store rfl rfl ?_) | fail)
  refine wl_callS rfl Tryz.call39 rfl rfl rfl rfl (fun w hw => page_ok hw.laid kind (wr x)) ?_
  rintro _ H1 M1 hm1 hn1 ⟨rfl, a, l, c, rfl, hS⟩
  repeat' (first | refine sk ?_ | (refine gL ?_; first | refine xl_alloc (fun _ => ?_) | refine xl_box rfl (fun _ => ?_) | refine xl_store rfl rfl ?_) | fail)
  exact yr_layC (Hn := []) rfl rfl rfl rfl (Since.refl.step hm1 hn1) (List.nil_sublist _) ⟨rfl, _, _, _, rfl, Sl.mono hS (fun _ _ => .inl) (fun _ _ _ h => h)⟩
theorem cas_ok (hG : Glob M) (hM : Laid M w) {D : Nat} {x : Nd} {un a1 l1 c1 ut a2 l2 c2} (hx : NodeC M D x [str un, .slice a1 l1 c1, str ut, .slice a2 l2 c2]) (hlen : (textN x).length ≤ 1000000000000) : Calls Tryz.prog 32 #[.agg [str un, .slice a1 l1 c1, str ut, .slice a2 l2 c2].toArray] w (RetS M w (fun M' H v => H = [] ∧ RspK M' sXml (wr (casN x)) v)) := by
  refine fn1 hM Tryz.func32 ?_
  repeat' (first | refine sk ?_ | (refine gL ?_; first | refine wl_v rfl rfl rfl (by first | (exact oc 42 Tryz.call42 (h := fun hcg w hw => around_ok hw.laid _ _ _ _))) ?_ | refine xl_alloc (fun _ => ?_) | refine xl_box rfl (fun _ => ?_) | refine xl_store rfl rfl ?_ | refine xl_buildSlice rfl (fun _ => ?_)) | fail)
  rename_i b1 b2 bk b3 ba
  refine wl_weak (C' := St w [] ([(bk, .cells [str un, .slice a1 l1 c1, str ut, .slice a2 l2 c2].toArray tNd (0, 0)), (ba, .cells (cellsP [(sNs, sSpace)]).toArray 50 (0, 0)), (b3, .cells [str sResp, .slice (some ⟨ba, 0, none⟩) 1 1, str [], .slice (some ⟨bk, 0, none⟩) 1 1].toArray tNd (0, 0)), (b2, .cells [i64 0, .slice none 0 0, str []].toArray 31 (0, 0))]) M) (Eng.Sub.refl _) (fun _ h => ((h.drop (List.take_sublist 4 _)).perm (List.perm_middle (l₁ := [_, _]) (l₂ := [_])).symm)) ?_
  refine wl_publish (H1 := [(bk, .cells [str un, .slice a1 l1 c1, str ut, .slice a2 l2 c2].toArray tNd (0, 0)), (ba, .cells (cellsP [(sNs, sSpace)]).toArray 50 (0, 0))]) (fun hn => ?_)
  have hG1 := hG.mono (M' := With M [(bk, .cells [str un, .slice a1 l1 c1, str ut, .slice a2 l2 c2].toArray tNd (0, 0)), (ba, .cells (cellsP [(sNs, sSpace)]).toArray 50 (0, 0))]) (fun _ _ => .inl)
  have hN : NodeC (With M [(bk, .cells [str un, .slice a1 l1 c1, str ut, .slice a2 l2 c2].toArray tNd (0, 0)), (ba, .cells (cellsP [(sNs, sSpace)]).toArray 50 (0, 0))]) (D + 1) (casN x) [str sResp, .slice (some ⟨ba, 0, none⟩) 1 1, str [], .slice (some ⟨bk, 0, none⟩) 1 1] :=
    node_mk (slP_blk (e := 50) (l := [(sNs, sSpace)]) (.inr (List.Mem.tail _ (List.Mem.head _))) (by simp)) (sl_blk (l := [x]) (vss := [[str un, .slice a1 l1 c1, str ut, .slice a2 l2 c2]]) (.inr (List.Mem.head _)) ⟨NodeC.mono (fun _ _ => .inl) hx, trivial⟩ (by simp)) (by decide) (by simp) (fun p hp => by
      simp only [List.mem_cons, List.not_mem_nil, or_false] at hp
      subst hp; decide)
  have hsi := since_new (M0 := M) Since.refl hn
  generalize With M [(bk, .cells [str un, .slice a1 l1 c1, str ut, .slice a2 l2 c2].toArray tNd (0, 0)), (ba, .cells (cellsP [(sNs, sSpace)]).toArray 50 (0, 0))] = M1 at *
  repeat' (first | refine sk ?_ | (refine gL ?_; first | refine xl_alloc (fun _ => ?_) | refine xl_box rfl (fun _ => ?_) | refine xl_store rfl rfl ?_ | refine xl_buildSlice rfl (fun _ => ?_)) | fail)
  refine wl_callS rfl Tryz.call60 rfl rfl rfl rfl (fun w hw => rpage_ok hG1 hw.laid sXml hN (by rw [cas_len]; omega)) ?_
  rintro _ H2 M2 hm2 hn2 ⟨rfl, a, l, c, rfl, hS⟩
  repeat' (first | refine sk ?_ | (refine gL ?_; first | refine xl_alloc (fun _ => ?_) | refine xl_box rfl (fun _ => ?_) | refine xl_store rfl rfl ?_ | refine xl_buildSlice rfl (fun _ => ?_)) | fail)
  exact yr_layC (Hn := []) rfl rfl rfl rfl (hsi.step hm2 hn2) (List.nil_sublist _) ⟨rfl, _, _, _, rfl, Sl.mono hS (fun _ _ => .inl) (fun _ _ _ h => h)⟩
/-- elements in a block of one's own -/
theorem html_ok (hG : Glob M) (hM : Laid M w) {D : Nat} {k : List Nd} {a : Option Addr} {l c : Nat} (hk : Sl M 4 (NodeC M D) (.slice a l c) k) (hlen : (textL k).length ≤ 1000000000000) : Calls Tryz.prog 45 #[.slice a l c] w (RetS M w (fun M' H v => H = [] ∧ RspK M' sHtmlT (wr (htmlN k)) v)) := by
  refine fn1 hM Tryz.func45 ?_
  repeat' (first | refine sk ?_ | (refine gL ?_; first | refine wl_v rfl rfl rfl (by first | (exact oc 42 Tryz.call42 (h := fun hcg w hw => around_ok hw.laid _ _ _ _))) ?_ | refine xl_alloc (fun _ => ?_) | refine xl_store rfl rfl ?_ | refine xl_buildSlice rfl (fun _ => ?_)) | fail)
  rename_i b2 b5
  refine wl_publish (H1 := [(b5, .cells [str sBody, .slice none 0 0, str [], .slice a l c].toArray tNd (0, 0))]) (fun hn => ?_)
  have hG1 := hG.mono (M' := With M [(b5, .cells [str sBody, .slice none 0 0, str [], .slice a l c].toArray tNd (0, 0))]) (fun _ _ => .inl)
  have hk1 : Sl (With M [(b5, .cells [str sBody, .slice none 0 0, str [], .slice a l c].toArray tNd (0, 0))]) 4 (NodeC (With M [(b5, .cells [str sBody, .slice none 0 0, str [], .slice a l c].toArray tNd (0, 0))]) D) (.slice a l c) k := Sl.mono hk (fun _ _ => .inl) (fun x vs _ h => NodeC.mono (fun _ _ => .inl) h)
  have hN := wrap_mk (n := sHtml) (sl_blk (l := [wrapN sBody k]) (vss := [[str sBody, .slice none 0 0, str [], .slice a l c]]) (.inr (List.Mem.head _)) ⟨wrap_mk hk1 (by decide), trivial⟩ (by simp)) (by decide)
  have hsi := since_new (M0 := M) Since.refl hn
  clear hk1
  generalize With M [(b5, .cells [str sBody, .slice none 0 0, str [], .slice a l c].toArray tNd (0, 0))] = M1 at *
  refine wl_callS rfl Tryz.call60 rfl rfl rfl rfl (fun w hw => rpage_ok hG1 hw.laid sHtmlT (x := htmlN k) hN (by rw [html_len]; omega)) ?_
  rintro _ H2 M2 hm2 hn2 ⟨rfl, a', l', c', rfl, hS⟩
  repeat' (first | refine sk ?_ | (refine gL ?_; first | refine xl_alloc (fun _ => ?_) | refine xl_store rfl rfl ?_ | refine xl_buildSlice rfl (fun _ => ?_)) | fail)
  exact yr_layC (Hn := []) rfl rfl rfl rfl (hsi.step hm2 hn2) (List.nil_sublist _) ⟨rfl, _, _, _, rfl, Sl.mono hS (fun _ _ => .inl) (fun _ _ _ h => h)⟩
theorem Page_ok (hG : Glob M) (hM : Laid M w) (kind s : List UInt8) (hk : kind.length ≤ 1000000) (hs : s.length ≤ 1000000) : Calls Tryz.prog 19 #[str kind, str s] w (RetS M w (fun M' H v => H = [] ∧ RspK M' sHtmlT (wr (pageN kind s)) v)) := by
  refine fn2 hM Tryz.func19 ?_
  repeat' (first | refine sk ?_ | (refine gL ?_; first | refine wl_v rfl rfl rfl (by first | (exact oc 43 Tryz.call43 (h := fun hcg w hw => text_ok hw.laid _ _ _ _ _))) ?_ | refine xl_alloc (fun _ => ?_) | refine xl_store rfl rfl ?_ | refine xl_buildSlice rfl (fun _ => ?_)) | fail)
  rename_i b4 ba bk
  refine wl_weak (C' := St w [] ([(bk, .cells [str sP, .slice (some ⟨ba, 0, none⟩) 1 1, str s, .slice none 0 0].toArray tNd (0, 0)), (ba, .cells (cellsP [(sClass, kind)]).toArray 50 (0, 0))] ++ [(b4, .cells [i64 0, .slice none 0 0, str []].toArray 31 (0, 0))]) M) (Eng.Sub.refl _) (fun _ h => h) ?_
  refine wl_publish (fun hn => ?_)
  have hG1 := hG.mono (M' := With M [(bk, .cells [str sP, .slice (some ⟨ba, 0, none⟩) 1 1, str s, .slice none 0 0].toArray tNd (0, 0)), (ba, .cells (cellsP [(sClass, kind)]).toArray 50 (0, 0))]) (fun _ _ => .inl)
  have hN : Sl (With M [(bk, .cells [str sP, .slice (some ⟨ba, 0, none⟩) 1 1, str s, .slice none 0 0].toArray tNd (0, 0)), (ba, .cells (cellsP [(sClass, kind)]).toArray 50 (0, 0))]) 4 (NodeC (With M [(bk, .cells [str sP, .slice (some ⟨ba, 0, none⟩) 1 1, str s, .slice none 0 0].toArray tNd (0, 0)), (ba, .cells (cellsP [(sClass, kind)]).toArray 50 (0, 0))]) 1) (.slice (some ⟨bk, 0, none⟩) 1 1) [.mk sP [(sClass, kind)] s []] :=
    sl_blk (l := [.mk sP [(sClass, kind)] s []]) (vss := [[str sP, .slice (some ⟨ba, 0, none⟩) 1 1, str s, .slice none 0 0]]) (.inr (List.Mem.head _)) ⟨node_mk (slP_blk (e := 50) (l := [(sClass, kind)]) (.inr (List.Mem.tail _ (List.Mem.head _))) (by simp)) sl_nil (by decide) (by omega) (fun p hp => by
      simp only [List.mem_cons, List.not_mem_nil, or_false] at hp
      subst hp; exact ⟨by show sClass.length ≤ _; decide, by show kind.length ≤ _; omega⟩), trivial⟩ (by simp)
  have hsi := since_new (M0 := M) Since.refl hn
  generalize With M [(bk, .cells [str sP, .slice (some ⟨ba, 0, none⟩) 1 1, str s, .slice none 0 0].toArray tNd (0, 0)), (ba, .cells (cellsP [(sClass, kind)]).toArray 50 (0, 0))] = M1 at *
  have hpl := pageN_len kind s
  unfold pageN at hpl
  rw [html_len] at hpl
  refine wl_callS rfl Tryz.call45 rfl rfl rfl rfl (fun w hw => html_ok hG1 hw.laid hN (by omega)) ?_
  rintro _ H2 M2 hm2 hn2 ⟨rfl, a, l, c, rfl, hS⟩
  repeat' (first | refine sk ?_ | (refine gL ?_; first | refine xl_alloc (fun _ => ?_) | refine xl_store rfl rfl ?_ | refine xl_buildSlice rfl (fun _ => ?_)) | fail)
  exact yr_layC (Hn := []) rfl rfl rfl rfl (hsi.step hm2 hn2) (List.nil_sublist _) ⟨rfl, _, _, _, rfl, Sl.mono hS (fun _ _ => .inl) (fun _ _ _ h => h)⟩
theorem Proxy_ok (hG : Glob M) (hM : Laid M w) (pt : List UInt8) (e : Int) (hp : pt.length ≤ 1000000) : Calls Tryz.prog 15 #[str pt, i64 e] w (RetS M w (fun M' H v => H = [] ∧ RspK M' sXml (wr (proxyN pt e)) v)) := by
  have hcl := code_len e
  refine fn2 hM Tryz.func15 ?_
  repeat' (first | refine sk ?_ | (refine gL ?_; first | refine xl_alloc (fun _ => ?_) | refine xl_store rfl rfl ?_ | refine xl_buildSlice rfl (fun _ => ?_)) | fail)
  refine wc_cond rfl (fun hc => ?_) (fun hc => ?_)
  · have he : ¬ e = 0 := by simpa using hc
    repeat' (first | refine sk ?_ | (refine gL ?_; first | refine wl_v rfl rfl rfl (by first | (exact oc 34 Tryz.call34 (h := fun hcg w hw => code_ok hw.laid _))) ?_ | refine xl_alloc (fun _ => ?_) | refine xl_store rfl rfl ?_ | refine xl_buildSlice rfl (fun _ => ?_)) | fail)
    refine wl_callS rfl Tryz.call33 rfl rfl rfl rfl (fun w hw => failure_ok hw.laid sPF sNoPt (codeE e) (by decide) (by decide) (by omega)) ?_
    rintro _ H1 M1 hm1 hn1 ⟨rfl, n, a1, l1, c1, t, a2, l2, c2, rfl, hx⟩
    have hlen := proxy_len pt e
    unfold proxyN at hlen ⊢
    rw [if_neg he] at hlen ⊢
    rw [cas_len] at hlen
    refine wl_callS rfl Tryz.call32 rfl rfl rfl rfl (fun w hw => cas_ok (hG.mono hm1) hw.laid hx (by omega)) ?_
    rintro _ H2 M2 hm2 hn2 ⟨rfl, a, l, c, rfl, hS⟩
    repeat' (first | refine sk ?_ | (refine gL ?_; first | refine xl_alloc (fun _ => ?_) | refine xl_store rfl rfl ?_ | refine xl_buildSlice rfl (fun _ => ?_)) | fail)
    exact yr_layC (Hn := []) rfl rfl rfl rfl ((Since.refl.step hm1 hn1).step hm2 hn2) (List.nil_sublist _) ⟨rfl, _, _, _, rfl, Sl.mono hS (fun _ _ => .inl) (fun _ _ _ h => h)⟩
  · have he : e = 0 := by simpa using hc
    repeat' (first | refine sk ?_ | (refine gL ?_; first | refine wl_v rfl rfl rfl (by first | (exact oc 43 Tryz.call43 (h := fun hcg w hw => text_ok hw.laid _ _ _ _ _)) | (exact oc 42 Tryz.call42 (h := fun hcg w hw => around_ok hw.laid _ _ _ _))) ?_ | refine xl_alloc (fun _ => ?_) | refine xl_store rfl rfl ?_ | refine xl_buildSlice rfl (fun _ => ?_)) | fail)
    rename_i b4 bk
    refine wl_publish (H1 := [(bk, .cells [str sPT, .slice none 0 0, str pt, .slice none 0 0].toArray tNd (0, 0))]) (fun hn => ?_)
    have hG1 := hG.mono (M' := With M [(bk, .cells [str sPT, .slice none 0 0, str pt, .slice none 0 0].toArray tNd (0, 0))]) (fun _ _ => .inl)
    have hN := wrap_mk (n := sPS) (sl_blk (D := 1) (M := With M [(bk, .cells [str sPT, .slice none 0 0, str pt, .slice none 0 0].toArray tNd (0, 0))]) (l := [leafN sPT pt]) (vss := [[str sPT, .slice none 0 0, str pt, .slice none 0 0]]) (.inr (List.Mem.head _)) ⟨leaf_mk (by decide) (by omega), trivial⟩ (by simp)) (by decide)
    have hsi := since_new (M0 := M) Since.refl hn
    generalize With M [(bk, .cells [str sPT, .slice none 0 0, str pt, .slice none 0 0].toArray tNd (0, 0))] = M1 at *
    have hlen := proxy_len pt e
    unfold proxyN at hlen ⊢
    rw [if_pos he] at hlen ⊢
    rw [cas_len] at hlen
    refine wl_callS rfl Tryz.call32 rfl rfl rfl rfl (fun w hw => cas_ok hG1 hw.laid hN (by omega)) ?_
    rintro _ H2 M2 hm2 hn2 ⟨rfl, a, l, c, rfl, hS⟩
    repeat' (first | refine sk ?_ | (refine gL ?_; first | refine xl_alloc (fun _ => ?_) | refine xl_store rfl rfl ?_ | refine xl_buildSlice rfl (fun _ => ?_)) | fail)
    exact yr_layC (Hn := []) rfl rfl rfl rfl (hsi.step hm2 hn2) (List.nil_sublist _) ⟨rfl, _, _, _, rfl, Sl.mono hS (fun _ _ => .inl) (fun _ _ _ h => h)⟩
end Go.Proofs.YtgfbieplidpebaaGreatDoor
/-
  Form, success, Answer.
-/
namespace Go.Proofs.YtgfbieplidpebaaGreatDoor
open Go.Eng Go.Pct Go.Xml Go.Cas
set_option maxRecDepth 10000
set_option linter.unusedSimpArgs false
set_option linter.unusedVariables false

variable {M : Ghost} {w0 w : World} {bs : List Nat} {H : List (Nat × Obj)}
set_option maxHeartbeats 1000000 in
theorem Form_ok (hG : Glob M) (hM : Laid M w) (a b c : List UInt8) (ha : a.length ≤ 1000000) (hb : b.length ≤ 1000000) (hcl : c.length ≤ 1000000) : Calls Tryz.prog 17 #[str a, str b, str c] w (RetS M w (fun M' H v => H = [] ∧ RspK M' sHtmlT (wr (formPN a b c)) v)) := by
  refine fn3 hM Tryz.func17 ?_
  repeat' (first | refine sk ?_ | (refine gL ?_; first | refine xl_alloc (fun _ => ?_) | refine xl_store rfl rfl ?_ | refine xl_buildSlice rfl (fun _ => ?_)) | fail)
  refine wl_callS rfl Tryz.call44 rfl rfl rfl rfl (fun w hw => input_ok hw.laid sLt a (by decide) (by omega)) ?_
  rintro _ H1 M1 hm1 hn1 ⟨rfl, n1, p1, q1, r1, t1, p1', q1', r1', rfl, hx1⟩
  repeat' (first | refine sk ?_ | (refine gL ?_; first | refine xl_alloc (fun _ => ?_) | refine xl_store rfl rfl ?_ | refine xl_buildSlice rfl (fun _ => ?_)) | fail)
  refine wl_callS rfl Tryz.call44 rfl rfl rfl rfl (fun w hw => input_ok hw.laid sService b (by decide) (by omega)) ?_
  rintro _ H2 M2 hm2 hn2 ⟨rfl, n2, p2, q2, r2, t2, p2', q2', r2', rfl, hx2⟩
  repeat' (first | refine sk ?_ | (refine gL ?_; first | refine xl_alloc (fun _ => ?_) | refine xl_store rfl rfl ?_ | refine xl_buildSlice rfl (fun _ => ?_)) | fail)
  refine wl_callS rfl Tryz.call44 rfl rfl rfl rfl (fun w hw => input_ok hw.laid sUn [] (by decide) (by simp)) ?_
  rintro _ H3 M3 hm3 hn3 ⟨rfl, n3, p3, q3, r3, t3, p3', q3', r3', rfl, hx3⟩
  repeat' (first | refine sk ?_ | (refine gL ?_; first | refine xl_alloc (fun _ => ?_) | refine xl_store rfl rfl ?_ | refine xl_buildSlice rfl (fun _ => ?_)) | fail)
  refine wl_callS rfl Tryz.call44 rfl rfl rfl rfl (fun w hw => input_ok hw.laid sPw [] (by decide) (by simp)) ?_
  rintro _ H4 M4 hm4 hn4 ⟨rfl, n4, p4, q4, r4, t4, p4', q4', r4', rfl, hx4⟩
  have hsi := (((Since.refl.step hm1 hn1).step hm2 hn2).step hm3 hn3).step hm4 hn4
  have hG4 := (((hG.mono hm1).mono hm2).mono hm3).mono hm4
  have hy3 := NodeC.mono hm4 hx3
  have hy2 := NodeC.mono hm4 (NodeC.mono hm3 hx2)
  have hy1 := NodeC.mono hm4 (NodeC.mono hm3 (NodeC.mono hm2 hx1))
  clear hm1 hn1 hm2 hn2 hm3 hn3 hm4 hn4 hx1 hx2 hx3 hG
  repeat' (first | refine sk ?_ | (refine gL ?_; first | refine wl_v rfl rfl rfl (by first | (exact oc 42 Tryz.call42 (h := fun hcg w hw => around_ok hw.laid _ _ _ _))) ?_ | refine xl_alloc (fun _ => ?_) | refine xl_store rfl rfl ?_ | refine xl_buildSlice rfl (fun _ => ?_)) | fail)
  rename_i b6 bk b7 ba
  refine wc_weak (C' := St w [] [(bk, .cells [str n1, .slice p1 q1 r1, str t1, .slice p1' q1' r1', str n2, .slice p2 q2 r2, str t2, .slice p2' q2' r2', str n3, .slice p3 q3 r3, str t3, .slice p3' q3' r3', str n4, .slice p4 q4 r4, str t4, .slice p4' q4' r4'].toArray tNd (0, 0)), (ba, .cells (cellsP [(sAction, sLogin), (sMethod, sPost)]).toArray 50 (0, 0)), (b7, .cells [str sForm, .slice (some ⟨ba, 0, none⟩) 2 2, str [], .slice (some ⟨bk, 0, none⟩) 4 4].toArray tNd (0, 0)), (b6, .cells [i64 0, .slice none 0 0, str []].toArray 31 (0, 0))] M4) (Eng.Sub.refl _) (fun _ h => h.perm (List.perm_middle (l₁ := [_, _]) (l₂ := [_])).symm) ?_
  refine wc_publish (H1 := [(bk, _), (ba, _)]) (fun hn => ?_)
  have hN : NodeC (With M4 [(bk, .cells [str n1, .slice p1 q1 r1, str t1, .slice p1' q1' r1', str n2, .slice p2 q2 r2, str t2, .slice p2' q2' r2', str n3, .slice p3 q3 r3, str t3, .slice p3' q3' r3', str n4, .slice p4 q4 r4, str t4, .slice p4' q4' r4'].toArray tNd (0, 0)), (ba, .cells (cellsP [(sAction, sLogin), (sMethod, sPost)]).toArray 50 (0, 0))]) 2 (formN a b) [str sForm, .slice (some ⟨ba, 0, none⟩) 2 2, str [], .slice (some ⟨bk, 0, none⟩) 4 4] :=
    node_mk (slP_blk (e := 50) (l := [(sAction, sLogin), (sMethod, sPost)]) (.inr (List.Mem.tail _ (List.Mem.head _))) (by simp)) (sl_blk (l := [inputN sLt a, inputN sService b, inputN sUn [], inputN sPw []]) (vss := [[str n1, .slice p1 q1 r1, str t1, .slice p1' q1' r1'], [str n2, .slice p2 q2 r2, str t2, .slice p2' q2' r2'], [str n3, .slice p3 q3 r3, str t3, .slice p3' q3' r3'], [str n4, .slice p4 q4 r4, str t4, .slice p4' q4' r4']]) (.inr (List.Mem.head _)) ⟨NodeC.mono (fun _ _ => .inl) hy1, NodeC.mono (fun _ _ => .inl) hy2, NodeC.mono (fun _ _ => .inl) hy3, NodeC.mono (fun _ _ => .inl) hx4, trivial⟩ (by simp)) (by decide) (by simp) (fun p hp => by
      simp only [List.mem_cons, List.not_mem_nil, or_false] at hp
      rcases hp with rfl | rfl <;> decide)
  have hG5 := hG4.mono (M' := With M4 [(bk, .cells [str n1, .slice p1 q1 r1, str t1, .slice p1' q1' r1', str n2, .slice p2 q2 r2, str t2, .slice p2' q2' r2', str n3, .slice p3 q3 r3, str t3, .slice p3' q3' r3', str n4, .slice p4 q4 r4, str t4, .slice p4' q4' r4'].toArray tNd (0, 0)), (ba, .cells (cellsP [(sAction, sLogin), (sMethod, sPost)]).toArray 50 (0, 0))]) (fun _ _ => .inl)
  have hs5 := since_new hsi hn
  clear hsi hG4 hy1 hy2 hy3 hx4 hn
  generalize With M4 [(bk, .cells [str n1, .slice p1 q1 r1, str t1, .slice p1' q1' r1', str n2, .slice p2 q2 r2, str t2, .slice p2' q2' r2', str n3, .slice p3 q3 r3, str t3, .slice p3' q3' r3', str n4, .slice p4 q4 r4, str t4, .slice p4' q4' r4'].toArray tNd (0, 0)), (ba, .cells (cellsP [(sAction, sLogin), (sMethod, sPost)]).toArray 50 (0, 0))] = M5 at *
  have hlen := formP_len a b c
  unfold formPN at hlen ⊢
  rw [html_len] at hlen
  refine wc_weak (E' := [(2, true, str c), (6, true, .pointer (some ⟨b6, 0, none⟩)), (7, true, .pointer (some ⟨b7, 0, none⟩)), (21, true, .bool (decide (c = [])))]) pE (fun _ h => h) ?_
  refine wc_cond rfl (fun hc => ?_) (fun hc => ?_)
  · have he : c = [] := by simpa using hc
    rw [if_pos he] at hlen ⊢
    repeat' (first | refine sk ?_ | (refine gL ?_; first | refine xl_alloc (fun _ => ?_) | refine xl_store rfl rfl ?_ | refine xl_buildSlice rfl (fun _ => ?_)) | fail)
    rename_i bf
    refine wl_publish (H1 := [(bf, .cells [str sForm, .slice (some ⟨ba, 0, none⟩) 2 2, str [], .slice (some ⟨bk, 0, none⟩) 4 4].toArray tNd (0, 0))]) (fun hn => ?_)
    have hk := sl_blk (M := With M5 [(bf, .cells [str sForm, .slice (some ⟨ba, 0, none⟩) 2 2, str [], .slice (some ⟨bk, 0, none⟩) 4 4].toArray tNd (0, 0))]) (l := [formN a b]) (vss := [[str sForm, .slice (some ⟨ba, 0, none⟩) 2 2, str [], .slice (some ⟨bk, 0, none⟩) 4 4]]) (.inr (List.Mem.head _)) ⟨NodeC.mono (fun _ _ => .inl) hN, trivial⟩ (by simp)
    have hG6 := hG5.mono (M' := With M5 [(bf, .cells [str sForm, .slice (some ⟨ba, 0, none⟩) 2 2, str [], .slice (some ⟨bk, 0, none⟩) 4 4].toArray tNd (0, 0))]) (fun _ _ => .inl)
    have hs6 := since_new hs5 hn
    refine wl_callS rfl Tryz.call45 rfl rfl rfl rfl (fun w hw => html_ok hG6 hw.laid hk (by omega)) ?_
    rintro _ H7 M7 hm7 hn7 ⟨rfl, a', l', c', rfl, hS⟩
    repeat' (first | refine sk ?_ | (refine gL ?_; first | refine xl_alloc (fun _ => ?_) | refine xl_store rfl rfl ?_ | refine xl_buildSlice rfl (fun _ => ?_)) | fail)
    exact yr_layC (Hn := []) rfl rfl rfl rfl (hs6.step hm7 hn7) (List.nil_sublist _) ⟨rfl, _, _, _, rfl, Sl.mono hS (fun _ _ => .inl) (fun _ _ _ h => h)⟩
  · have he : ¬ c = [] := by simpa using hc
    rw [if_neg he] at hlen ⊢
    repeat' (first | refine sk ?_ | (refine gL ?_; first | refine xl_alloc (fun _ => ?_) | refine xl_store rfl rfl ?_ | refine xl_buildSlice rfl (fun _ => ?_)) | fail)
    refine wc_draw 4 (by kernel_rfl) rfl (by kernel_rfl) (fun _ _ h k => h.ext k) ?_
    repeat' (first | (refine gD ?_; first | refine yd_v rfl rfl rfl rfl rfl rfl ?_ | refine wd_v rfl rfl rfl rfl rfl rfl (by first | (exact oc 43 Tryz.call43 (h := fun hcg w hw => text_ok hw.laid _ _ _ _ _))) ?_ | refine yd_new rfl rfl rfl rfl rfl rfl ?_ | refine wd_conv rfl rfl rfl rfl rfl rfl rfl rfl rfl rfl ?_) | (refine gE ?_; first | refine wd_nil ?_ | refine wd_nil1 (wl_fresh (fun _ => ?_))) | (first | refine sk ?_ | (refine gL ?_; first | refine wl_v rfl rfl rfl (by first | (exact oc 43 Tryz.call43 (h := fun hcg w hw => text_ok hw.laid _ _ _ _ _))) ?_ | refine xl_alloc (fun _ => ?_) | refine xl_store rfl rfl ?_ | refine xl_buildSlice rfl (fun _ => ?_)) | fail))
    rename_i bf
    refine wl_publish (H1 := [(bf, .cells [str sP, .slice none 0 0, str c, .slice none 0 0, str sForm, .slice (some ⟨ba, 0, none⟩) 2 2, str [], .slice (some ⟨bk, 0, none⟩) 4 4].toArray tNd (0, 0))]) (fun hn => ?_)
    have hk := sl_blk (D := 2) (M := With M5 [(bf, .cells [str sP, .slice none 0 0, str c, .slice none 0 0, str sForm, .slice (some ⟨ba, 0, none⟩) 2 2, str [], .slice (some ⟨bk, 0, none⟩) 4 4].toArray tNd (0, 0))]) (l := [leafN sP c, formN a b]) (vss := [[str sP, .slice none 0 0, str c, .slice none 0 0], [str sForm, .slice (some ⟨ba, 0, none⟩) 2 2, str [], .slice (some ⟨bk, 0, none⟩) 4 4]]) (.inr (List.Mem.head _)) ⟨leaf_mk (by decide) (by omega), NodeC.mono (fun _ _ => .inl) hN, trivial⟩ (by simp)
    have hG6 := hG5.mono (M' := With M5 [(bf, .cells [str sP, .slice none 0 0, str c, .slice none 0 0, str sForm, .slice (some ⟨ba, 0, none⟩) 2 2, str [], .slice (some ⟨bk, 0, none⟩) 4 4].toArray tNd (0, 0))]) (fun _ _ => .inl)
    have hs6 := since_new hs5 hn
    refine wl_callS rfl Tryz.call45 rfl rfl rfl rfl (fun w hw => html_ok hG6 hw.laid hk (by omega)) ?_
    rintro _ H7 M7 hm7 hn7 ⟨rfl, a', l', c', rfl, hS⟩
    repeat' (first | refine sk ?_ | (refine gL ?_; first | refine xl_alloc (fun _ => ?_) | refine xl_store rfl rfl ?_ | refine xl_buildSlice rfl (fun _ => ?_)) | fail)
    exact yr_layC (Hn := []) rfl rfl rfl rfl (hs6.step hm7 hn7) (List.nil_sublist _) ⟨rfl, _, _, _, rfl, Sl.mono hS (fun _ _ => .inl) (fun _ _ _ h => h)⟩
end Go.Proofs.YtgfbieplidpebaaGreatDoor
/-
  success, Answer.
-/
namespace Go.Proofs.YtgfbieplidpebaaGreatDoor
open Go.Eng Go.Pct Go.Xml Go.Cas
set_option maxRecDepth 10000
set_option linter.unusedSimpArgs false
set_option linter.unusedVariables false

variable {M : Ghost} {w0 w : World} {bs : List Nat} {H : List (Nat × Obj)}
/-- kids, as far as they are told -/
structure SKQ (w : World) (M : Ghost) (l : List Nd) where
  M' : Ghost
  v : Value
  Hs : List (Nat × Obj)
  vss : List (List Value)
  own : OwnS tNd 4 v Hs vss.flatten
  all : AllN M' 2 l vss
  si : Since w M M'
/-- a list of elements, as far as a loop has come -/
structure SLQ (M : Ghost) (k : List Nd) where
  i : Nat
  v : Value
  Hs : List (Nat × Obj)
  vss : List (List Value)
  hi : i ≤ k.length
  own : OwnS tNd 4 v Hs vss.flatten
  all : AllN M 1 (k.take i) vss
theorem attrK_at {a : List Go.Pct.Pr} {i : Nat} (h : i < a.length) : (attrK a).take (i + 1) = (attrK a).take i ++ [leafN (sCas ++ (a.getD i default).1) (a.getD i default).2] := by
  have h2 : i < (attrK a).length := by unfold attrK; rw [List.length_map]; exact h
  rw [List.take_succ_eq_append_getElem h2]
  congr 2
  have e : a.getD i default = a[i] := by simp [h]
  rw [e]; simp [attrK]
theorem attrK_length (a : List Go.Pct.Pr) : (attrK a).length = a.length := by simp [attrK]
theorem proxK_at {l : List (List UInt8)} {i : Nat} (h : i < l.length) : (proxK l).take (i + 1) = (proxK l).take i ++ [leafN sProxy (l.getD i default)] := by
  have h2 : i < (proxK l).length := by unfold proxK; rw [List.length_map]; exact h
  rw [List.take_succ_eq_append_getElem h2]
  congr 2
  have e : l.getD i default = l[i] := by simp [h]
  rw [e]; simp [proxK]
theorem proxK_length (l : List (List UInt8)) : (proxK l).length = l.length := by simp [proxK]
theorem AllN.one {D : Nat} {x : Nd} {vs : List Value} (h : NodeC M D x vs) : AllN M D [x] [vs] := ⟨h, trivial⟩
theorem getD_memS {l : List (List UInt8)} {i : Nat} (h : i < l.length) : l.getD i default ∈ l := by
  have e : l.getD i default = l[i] := by simp [h]
  rw [e]; exact List.getElem_mem _
theorem flat_snoc (vss : List (List Value)) (vs : List Value) : vss.flatten ++ vs = (vss ++ [vs]).flatten := by simp
theorem AllN.count {D : Nat} {l : List Nd} {vss : List (List Value)} (h : AllN M D l vss) : vss.flatten.length / 4 = l.length := by rw [h.len]; omega
set_option maxHeartbeats 2000000 in
theorem success_ok (hM : Laid M w) (s : Suc) {va vp : Value} (hva : SlP M va s.attrs) (hvp : SlS M vp s.proxies) (hsm : SmS s 1000000 1000000) (at' : Bool) : Calls Tryz.prog 35 #[.agg [str s.user, va, vp, str s.iou].toArray, .bool at'] w (RetS M w (fun M' H v => H = [] ∧ NdIs M' 3 (sucN s at') v)) := by
  obtain ⟨a, cap, b, o, cs, T, fz, rfl, g1, g2, g3, g4⟩ := hva.open
  obtain ⟨a', cap', b', o', cs', T', fz', rfl, f1, f2, f3, f4⟩ := hvp.open
  have hu1 := hsm.user
  have hu2 := hsm.iou
  have hu3 := hsm.nattrs
  have hu4 := hsm.nprox
  refine fn2 hM Tryz.func35 ?_
  repeat' (first | refine sk ?_ | (refine gL ?_; first | refine wl_v rfl rfl rfl (by first | (exact oc 43 Tryz.call43 (h := fun hcg w hw => text_ok hw.laid _ _ _ _ _)) | (exact oc 42 Tryz.call42 (h := fun hcg w hw => around_ok hw.laid _ _ _ _))) ?_ | refine xl_alloc (fun _ => ?_) | refine xl_box rfl (fun _ => ?_) | refine xl_store rfl rfl ?_ | refine xl_buildSlice rfl (fun _ => ?_)) | fail)
  rename_i b2 b4 bk b5
  refine wc_weak (E' := [(2, true, .pointer (some ⟨b2, 0, none⟩)), (4, true, .pointer (some ⟨b4, 0, none⟩)), (5, true, .pointer (some ⟨b5, 0, none⟩)), (23, true, .bool (at' && decide ((0 : Int) < (s.attrs.length : Int))))]) (C' := St w [] ([(bk, .cells [str sUser, .slice none 0 0, str s.user, .slice none 0 0].toArray tNd (0, 0))] ++ [(b5, .cells [str sSuc, .slice none 0 0, str [], .slice (some ⟨bk, 0, none⟩) 1 1].toArray tNd (0, 0)), (b4, .cells [str [], .slice none 0 0, str [], .slice none 0 0].toArray tNd (0, 0)), (b2, .cells [str s.user, .slice a s.attrs.length cap, .slice a' s.proxies.length cap', str s.iou].toArray 25 (0, 0))]) M) pE (fun _ h => h.perm (List.perm_middle (l₁ := [_]) (l₂ := [_, _])).symm) ?_
  have own0 : OwnS tNd 4 (.slice (some ⟨bk, 0, none⟩) 1 1) [(bk, .cells [str sUser, .slice none 0 0, str s.user, .slice none 0 0].toArray tNd (0, 0))] [[str sUser, .slice none 0 0, str s.user, .slice none 0 0]].flatten := OwnS.lit rfl (by decide)
  have all0 : AllN M 2 [leafN sUser s.user] [[str sUser, .slice none 0 0, str s.user, .slice none 0 0]] := ⟨leaf_mk (by decide) (by omega), trivial⟩
  generalize [(bk, Obj.cells [str sUser, Value.slice none 0 0, str s.user, Value.slice none 0 0].toArray tNd (0, 0))] = Hs0 at *
  generalize hvs : [[str sUser, Value.slice none 0 0, str s.user, Value.slice none 0 0]] = vss0 at *
  clear hvs
  refine wc_split (α := SKQ w M ([leafN sUser s.user] ++ k1 s at')) (fun x => [(2, true, .pointer (some ⟨b2, 0, none⟩)), (4, true, .pointer (some ⟨b4, 0, none⟩)), (5, true, .pointer (some ⟨b5, 0, none⟩))]) (fun x => St w [] (x.Hs ++ [(b5, .cells [str sSuc, .slice none 0 0, str [], x.v].toArray tNd (0, 0)), (b4, .cells [str [], .slice none 0 0, str [], .slice none 0 0].toArray tNd (0, 0)), (b2, .cells [str s.user, .slice a s.attrs.length cap, .slice a' s.proxies.length cap', str s.iou].toArray 25 (0, 0))]) x.M') ?_ ?_
  · refine wc_cond rfl (fun hc => ?_) (fun hc => ?_)
    · obtain ⟨hat, hpos⟩ : at' = true ∧ 0 < s.attrs.length := by simpa using hc
      have hk1 : k1 s at' = [wrapN sAttrs (attrK s.attrs)] := by
        unfold k1
        rw [if_pos ⟨hat, by intro e; rw [e] at hpos; simp at hpos⟩]
      rw [hk1]
      repeat' (first | refine sk ?_ | (refine gL ?_; first | refine xl_alloc (fun _ => ?_) | refine xl_box rfl (fun _ => ?_) | refine xl_store rfl rfl ?_ | refine xl_buildSlice rfl (fun _ => ?_)) | fail)
      refine wc_loop (α := SLQ M (attrK s.attrs)) (fun x => [(2, true, .pointer (some ⟨b2, 0, none⟩)), (4, true, .pointer (some ⟨b4, 0, none⟩)), (5, true, .pointer (some ⟨b5, 0, none⟩)), (6, true, x.v), (25, true, .slice a s.attrs.length cap), (26, true, i64 (s.attrs.length : Int)), (27, true, i64 (x.i : Int))]) (fun x => St w [] (x.Hs ++ (Hs0 ++ [(b5, .cells [str sSuc, .slice none 0 0, str [], .slice (some ⟨bk, 0, none⟩) 1 1].toArray tNd (0, 0)), (b4, .cells [str [], .slice none 0 0, str [], .slice none 0 0].toArray tNd (0, 0)), (b2, .cells [str s.user, .slice a s.attrs.length cap, .slice a' s.proxies.length cap', str s.iou].toArray 25 (0, 0))])) M) (fun x => s.attrs.length - x.i) ⟨0, .slice none 0 0, [], [], Nat.zero_le _, OwnS.nil, trivial⟩ pE (fun _ h => h) ?_
      rintro ⟨i, v, Hs, vss, hi, own, all⟩
      dsimp only
      rw [attrK_length] at hi
      rcases Nat.lt_or_ge i s.attrs.length with hlt | hge
      · have hne : s.attrs ≠ [] := by intro e; rw [e] at hlt; simp at hlt
        obtain ⟨rfl, hMb⟩ := g3 hne
        have hp3 := hsm.attrs (s.attrs.getD i default) (getD_memP hlt)
        have gi := g4 i hlt
        have hat2 := attrK_at hlt
        have hcnt := all.count
        rw [List.length_take, attrK_length] at hcnt
        generalize s.attrs.getD i default = p at *
        repeat' (first | refine sk ?_ | (refine gL ?_; first | refine xl_alloc (fun _ => ?_) | refine xl_box rfl (fun _ => ?_) | refine xl_store rfl rfl ?_ | refine xl_buildSlice rfl (fun _ => ?_)) | fail)
        refine wc_cond rfl (fun hc => ?_) (fun hc => by exfalso; simp at hc; omega)
        repeat' (first | refine sk ?_ | (refine gL ?_; first | refine wl_v rfl rfl rfl (by first | (show OpV _ _ _ _ (Oper.mk _ (Op.indexAddr _ _ _) _ _ _ _) _ _; exact ov_indexAddr (i := i) (b := b) (o := o) rfl rfl rfl pI pI rfl pZ (fun _ => rfl) pS) | (show OpV _ _ _ _ (Oper.mk _ (Op.load _ _) _ _ _ _) _ _; exact ov_loadSM (l := [str p.1, str p.2]) rfl pI rfl pZ (fun _ => hMb) (fun _ => pcell2 gi)) | (exact oc 43 Tryz.call43 (h := fun hcg w hw => text_ok hw.laid _ _ _ _ _))) ?_ | refine xl_alloc (fun _ => ?_) | refine xl_box rfl (fun _ => ?_) | refine xl_store rfl rfl ?_ | refine xl_buildSlice rfl (fun _ => ?_)) | fail)
        refine wl_append (H0 := (Hs0 ++ [(b5, .cells [str sSuc, .slice none 0 0, str [], .slice (some ⟨bk, 0, none⟩) 1 1].toArray tNd (0, 0)), (b4, .cells [str [], .slice none 0 0, str [], .slice none 0 0].toArray tNd (0, 0)), (b2, .cells [str s.user, .slice (some ⟨b, o, none⟩) s.attrs.length cap, .slice a' s.proxies.length cap', str s.iou].toArray 25 (0, 0))])) rfl own rfl rfl rfl rfl rfl rfl rfl rfl rfl rfl (List.Mem.head _) rfl rfl (List.Sublist.cons _ (List.sublist_cons_self _ _)) (by rw [hcnt]; omega) rfl ?_
        intro v' Hs' ho'
        rw [flat_snoc] at ho'
        repeat' (first | refine sk ?_ | (refine gL ?_; first | refine xl_alloc (fun _ => ?_) | refine xl_box rfl (fun _ => ?_) | refine xl_store rfl rfl ?_ | refine xl_buildSlice rfl (fun _ => ?_)) | fail)
        exact wn_cut ⟨i + 1, v', Hs', _, by rw [attrK_length]; omega, ho', by rw [hat2]; exact AllN.app (AllN.one (leaf_mk (by rw [List.length_append]; have : sCas.length = 4 := rfl; omega) (by omega))) all⟩ (by show s.attrs.length - (i + 1) < s.attrs.length - i; omega) pE (fun _ h => h)
      obtain rfl : i = s.attrs.length := by omega
      rw [← attrK_length s.attrs, List.take_length] at all
      obtain ⟨va, vcap, rfl⟩ := own.slice (k := s.attrs.length) (by decide) (by rw [all.len, attrK_length])
      repeat' (first | refine sk ?_ | (refine gL ?_; first | refine xl_alloc (fun _ => ?_) | refine xl_box rfl (fun _ => ?_) | refine xl_store rfl rfl ?_ | refine xl_buildSlice rfl (fun _ => ?_)) | fail)
      refine wc_cond rfl (fun hc => by exfalso; simp at hc) (fun hc => ?_)
      repeat' (first | refine sk ?_ | (refine gL ?_; first | refine xl_alloc (fun _ => ?_) | refine xl_box rfl (fun _ => ?_) | refine xl_store rfl rfl ?_ | refine xl_buildSlice rfl (fun _ => ?_)) | fail)
      refine wc_publish (fun hn => ?_)
      have hsl := AllN.sl (all.mono (M' := With M Hs) (fun _ _ => .inl)) own (fun p hp => .inr hp) (by rw [attrK_length]; omega)
      have all1 := all0.mono (M' := With M Hs) (fun _ _ => .inl)
      have hsi := since_new (M0 := M) Since.refl hn
      have hwn := wrap_mk (n := sAttrs) hsl (by decide)
      generalize With M Hs = M1 at *
      refine wc_draw 5 (by kernel_rfl) rfl (by kernel_rfl) (fun _ _ h k => h.ext k) ?_
      repeat' (first | (refine gD ?_; first | refine yd_v rfl rfl rfl rfl rfl rfl ?_ | refine wd_v rfl rfl rfl rfl rfl rfl (by first | (exact oc 42 Tryz.call42 (h := fun hcg w hw => around_ok hw.laid _ _ _ _))) ?_ | refine yd_new rfl rfl rfl rfl rfl rfl ?_ | refine wd_conv rfl rfl rfl rfl rfl rfl rfl rfl rfl rfl ?_) | (refine gE ?_; first | refine wd_nil ?_ | refine wd_nil1 (wl_fresh (fun _ => ?_))) | (first | refine sk ?_ | (refine gL ?_; first | refine wl_v rfl rfl rfl (by first | (exact oc 42 Tryz.call42 (h := fun hcg w hw => around_ok hw.laid _ _ _ _))) ?_ | refine xl_alloc (fun _ => ?_) | refine xl_box rfl (fun _ => ?_) | refine xl_store rfl rfl ?_ | refine xl_buildSlice rfl (fun _ => ?_)) | fail))
      refine wl_append (H0 := [(b5, .cells [str sSuc, .slice none 0 0, str [], .slice (some ⟨bk, 0, none⟩) 1 1].toArray tNd (0, 0)), (b4, .cells [str [], .slice none 0 0, str [], .slice none 0 0].toArray tNd (0, 0)), (b2, .cells [str s.user, .slice a s.attrs.length cap, .slice a' s.proxies.length cap', str s.iou].toArray 25 (0, 0))]) rfl own0 rfl rfl rfl rfl rfl rfl rfl rfl rfl rfl (List.Mem.head _) rfl rfl (List.sublist_cons_self _ _) (by rw [all0.count]; show 1 + 1 ≤ _; decide) rfl ?_
      intro v' Hs' ho'
      rw [flat_snoc] at ho'
      have hall := AllN.app (AllN.one (x := wrapN sAttrs (attrK s.attrs)) hwn) all1
      obtain ⟨va2, vcap2, rfl⟩ := ho'.slice (k := 2) (by decide) (hall.len.trans rfl)
      repeat' (first | refine sk ?_ | (refine gL ?_; first | refine xl_alloc (fun _ => ?_) | refine xl_box rfl (fun _ => ?_) | refine xl_store rfl rfl ?_ | refine xl_buildSlice rfl (fun _ => ?_)) | fail)
      exact wn_cut ⟨M1, _, Hs', _, ho', hall, hsi⟩ trivial pE (fun _ h => h)
    · have hk1 : k1 s at' = [] := by
        unfold k1
        rw [if_neg]
        rintro ⟨h1, h2⟩
        rw [h1] at hc
        exact h2 (by simpa using hc)
      rw [hk1, List.append_nil]
      repeat' (first | refine sk ?_ | (refine gL ?_; first | refine xl_alloc (fun _ => ?_) | refine xl_box rfl (fun _ => ?_) | refine xl_store rfl rfl ?_ | refine xl_buildSlice rfl (fun _ => ?_)) | fail)
      exact wn_cut ⟨M, _, Hs0, vss0, own0, all0, Since.refl⟩ trivial pE (fun _ h => h)
  rintro ⟨M1, v, Hs0, vss0, own0, all0, si0⟩
  dsimp only
  have hK0 : ([leafN sUser s.user] ++ k1 s at').length ≤ 2 := by unfold k1; split <;> simp
  unfold sucN sucK
  generalize [leafN sUser s.user] ++ k1 s at' = K0 at *
  have hcnt0 := all0.count
  obtain ⟨va, vl, vc, rfl⟩ : ∃ va vl vc, v = .slice va vl vc := by
    obtain ⟨va, vc, h⟩ := own0.slice (k := K0.length) (by decide) all0.len
    exact ⟨_, _, _, h⟩
  repeat' (first | refine sk ?_ | (refine gL ?_; first | refine xl_alloc (fun _ => ?_) | refine xl_box rfl (fun _ => ?_) | refine xl_store rfl rfl ?_ | refine xl_buildSlice rfl (fun _ => ?_)) | fail)
  refine wc_split (α := SKQ w M (K0 ++ k2 s)) (fun x => [(2, true, .pointer (some ⟨b2, 0, none⟩)), (4, true, .pointer (some ⟨b4, 0, none⟩)), (5, true, .pointer (some ⟨b5, 0, none⟩))]) (fun x => St w [] (x.Hs ++ [(b5, .cells [str sSuc, .slice none 0 0, str [], x.v].toArray tNd (0, 0)), (b4, .cells [str [], .slice none 0 0, str [], .slice none 0 0].toArray tNd (0, 0)), (b2, .cells [str s.user, .slice a s.attrs.length cap, .slice a' s.proxies.length cap', str s.iou].toArray 25 (0, 0))]) x.M') ?_ ?_
  · refine wc_cond rfl (fun hc => ?_) (fun hc => ?_)
    · have hne : s.iou ≠ [] := by simpa using hc
      have hk2 : k2 s = [leafN sIou s.iou] := by unfold k2; rw [if_pos hne]
      rw [hk2]
      refine wc_draw 6 (by kernel_rfl) rfl (by kernel_rfl) (fun _ _ h k => h.ext k) ?_
      repeat' (first | (refine gD ?_; first | refine yd_v rfl rfl rfl rfl rfl rfl ?_ | refine wd_v rfl rfl rfl rfl rfl rfl (by first | (exact oc 43 Tryz.call43 (h := fun hcg w hw => text_ok hw.laid _ _ _ _ _))) ?_ | refine yd_new rfl rfl rfl rfl rfl rfl ?_ | refine wd_conv rfl rfl rfl rfl rfl rfl rfl rfl rfl rfl ?_) | (refine gE ?_; first | refine wd_nil ?_ | refine wd_nil1 (wl_fresh (fun _ => ?_))) | (first | refine sk ?_ | (refine gL ?_; first | refine wl_v rfl rfl rfl (by first | (exact oc 43 Tryz.call43 (h := fun hcg w hw => text_ok hw.laid _ _ _ _ _))) ?_ | refine xl_alloc (fun _ => ?_) | refine xl_box rfl (fun _ => ?_) | refine xl_store rfl rfl ?_ | refine xl_buildSlice rfl (fun _ => ?_)) | fail))
      refine wl_append (H0 := [(b5, .cells [str sSuc, .slice none 0 0, str [], .slice va vl vc].toArray tNd (0, 0)), (b4, .cells [str [], .slice none 0 0, str [], .slice none 0 0].toArray tNd (0, 0)), (b2, .cells [str s.user, .slice a s.attrs.length cap, .slice a' s.proxies.length cap', str s.iou].toArray 25 (0, 0))]) rfl own0 rfl rfl rfl rfl rfl rfl rfl rfl rfl rfl (List.Mem.head _) rfl rfl (List.sublist_cons_self _ _) (by rw [hcnt0]; omega) rfl ?_
      intro v' Hs' ho'
      rw [flat_snoc] at ho'
      have hall := AllN.app (AllN.one (x := leafN sIou s.iou) (leaf_mk (by decide) (by omega))) all0
      obtain ⟨va2, vcap2, rfl⟩ := ho'.slice (k := K0.length + 1) (by decide) (hall.len.trans (by rw [List.length_append]; rfl))
      repeat' (first | refine sk ?_ | (refine gL ?_; first | refine xl_alloc (fun _ => ?_) | refine xl_box rfl (fun _ => ?_) | refine xl_store rfl rfl ?_ | refine xl_buildSlice rfl (fun _ => ?_)) | fail)
      exact wn_cut ⟨M1, _, Hs', _, ho', hall, si0⟩ trivial pE (fun _ h => h)
    · have he : s.iou = [] := by simpa using hc
      have hk2 : k2 s = [] := by unfold k2; rw [if_neg (by rw [he]; simp)]
      rw [hk2, List.append_nil]
      repeat' (first | refine sk ?_ | (refine gL ?_; first | refine xl_alloc (fun _ => ?_) | refine xl_box rfl (fun _ => ?_) | refine xl_store rfl rfl ?_ | refine xl_buildSlice rfl (fun _ => ?_)) | fail)
      exact wn_cut ⟨M1, _, Hs0, vss0, own0, all0, si0⟩ trivial pE (fun _ h => h)
  clear own0 all0 si0 hcnt0
  rintro ⟨M2, v, Hs0, vss0, own0, all0, si0⟩
  dsimp only
  have hK1 : (K0 ++ k2 s).length ≤ 3 := by rw [List.length_append]; unfold k2; split <;> simp <;> omega
  generalize K0 ++ k2 s = K1 at *
  have hcnt0 := all0.count
  clear va vl vc
  obtain ⟨va, vl, vc, rfl⟩ : ∃ va vl vc, v = .slice va vl vc := by
    obtain ⟨va, vc, h⟩ := own0.slice (k := K1.length) (by decide) all0.len
    exact ⟨_, _, _, h⟩
  repeat' (first | refine sk ?_ | (refine gL ?_; first | refine xl_alloc (fun _ => ?_) | refine xl_box rfl (fun _ => ?_) | refine xl_store rfl rfl ?_ | refine xl_buildSlice rfl (fun _ => ?_)) | fail)
  refine wc_split (α := SKQ w M (K1 ++ k3 s)) (fun x => [(2, true, .pointer (some ⟨b2, 0, none⟩)), (4, true, .pointer (some ⟨b4, 0, none⟩)), (5, true, .pointer (some ⟨b5, 0, none⟩))]) (fun x => St w [] (x.Hs ++ [(b5, .cells [str sSuc, .slice none 0 0, str [], x.v].toArray tNd (0, 0)), (b4, .cells [str [], .slice none 0 0, str [], .slice none 0 0].toArray tNd (0, 0)), (b2, .cells [str s.user, .slice a s.attrs.length cap, .slice a' s.proxies.length cap', str s.iou].toArray 25 (0, 0))]) x.M') ?_ ?_
  · refine wc_cond rfl (fun hc => ?_) (fun hc => ?_)
    · have hpos : 0 < s.proxies.length := by
        have := of_decide_eq_true hc
        omega
      have hne : s.proxies ≠ [] := by intro e; rw [e] at hpos; simp at hpos
      have hk3 : k3 s = [wrapN sProxies (proxK s.proxies)] := by unfold k3; rw [if_pos hne]
      rw [hk3]
      obtain ⟨rfl, hMb⟩ := f3 hne
      repeat' (first | refine sk ?_ | (refine gL ?_; first | refine xl_alloc (fun _ => ?_) | refine xl_box rfl (fun _ => ?_) | refine xl_store rfl rfl ?_ | refine xl_buildSlice rfl (fun _ => ?_)) | fail)
      refine wc_loop (α := SLQ M2 (proxK s.proxies)) (fun x => [(2, true, .pointer (some ⟨b2, 0, none⟩)), (4, true, .pointer (some ⟨b4, 0, none⟩)), (5, true, .pointer (some ⟨b5, 0, none⟩)), (9, true, x.v), (64, true, .slice (some ⟨b', o', none⟩) s.proxies.length cap'), (65, true, i64 (s.proxies.length : Int)), (66, true, i64 (x.i : Int))]) (fun x => St w [] (x.Hs ++ (Hs0 ++ [(b5, .cells [str sSuc, .slice none 0 0, str [], .slice va vl vc].toArray tNd (0, 0)), (b4, .cells [str [], .slice none 0 0, str [], .slice none 0 0].toArray tNd (0, 0)), (b2, .cells [str s.user, .slice a s.attrs.length cap, .slice (some ⟨b', o', none⟩) s.proxies.length cap', str s.iou].toArray 25 (0, 0))])) M2) (fun x => s.proxies.length - x.i) ⟨0, .slice none 0 0, [], [], Nat.zero_le _, OwnS.nil, trivial⟩ pE (fun _ h => h) ?_
      rintro ⟨i, v, Hs, vss, hi, own, all⟩
      dsimp only
      rw [proxK_length] at hi
      rcases Nat.lt_or_ge i s.proxies.length with hlt | hge
      · have hp3 := hsm.prox (s.proxies.getD i default) (getD_memS hlt)
        have gi := f4 i hlt
        have hat2 := proxK_at hlt
        have hcnt := all.count
        rw [List.length_take, proxK_length] at hcnt
        generalize s.proxies.getD i default = p at *
        repeat' (first | refine sk ?_ | (refine gL ?_; first | refine xl_alloc (fun _ => ?_) | refine xl_box rfl (fun _ => ?_) | refine xl_store rfl rfl ?_ | refine xl_buildSlice rfl (fun _ => ?_)) | fail)
        refine wc_cond rfl (fun hc => ?_) (fun hc => by exfalso; simp at hc; omega)
        repeat' (first | refine sk ?_ | (refine gL ?_; first | refine wl_v rfl rfl rfl (by first | (show OpV _ _ _ _ (Oper.mk _ (Op.indexAddr _ _ _) _ _ _ _) _ _; exact ov_indexAddr (i := i) (b := b') (o := o') rfl rfl rfl pI pI rfl pZ (fun _ => rfl) pS) | (show OpV _ _ _ _ (Oper.mk _ (Op.load _ _) _ _ _ _) _ _; exact ov_load1M rfl pI rfl rfl (fun _ => si0.1 _ _ hMb) (fun _ => gi)) | (exact oc 43 Tryz.call43 (h := fun hcg w hw => text_ok hw.laid _ _ _ _ _))) ?_ | refine xl_alloc (fun _ => ?_) | refine xl_box rfl (fun _ => ?_) | refine xl_store rfl rfl ?_ | refine xl_buildSlice rfl (fun _ => ?_)) | fail)
        refine wl_append (H0 := (Hs0 ++ [(b5, .cells [str sSuc, .slice none 0 0, str [], .slice va vl vc].toArray tNd (0, 0)), (b4, .cells [str [], .slice none 0 0, str [], .slice none 0 0].toArray tNd (0, 0)), (b2, .cells [str s.user, .slice a s.attrs.length cap, .slice (some ⟨b', o', none⟩) s.proxies.length cap', str s.iou].toArray 25 (0, 0))])) rfl own rfl rfl rfl rfl rfl rfl rfl rfl rfl rfl (List.Mem.head _) rfl rfl (List.sublist_cons_self _ _) (by rw [hcnt]; omega) rfl ?_
        intro v' Hs' ho'
        rw [flat_snoc] at ho'
        repeat' (first | refine sk ?_ | (refine gL ?_; first | refine xl_alloc (fun _ => ?_) | refine xl_box rfl (fun _ => ?_) | refine xl_store rfl rfl ?_ | refine xl_buildSlice rfl (fun _ => ?_)) | fail)
        exact wn_cut ⟨i + 1, v', Hs', _, by rw [proxK_length]; omega, ho', by rw [hat2]; exact AllN.app (AllN.one (leaf_mk (by decide) (by omega))) all⟩ (by show s.proxies.length - (i + 1) < s.proxies.length - i; omega) pE (fun _ h => h)
      obtain rfl : i = s.proxies.length := by omega
      rw [← proxK_length s.proxies, List.take_length] at all
      obtain ⟨vb, vcap, rfl⟩ := own.slice (k := s.proxies.length) (by decide) (by rw [all.len, proxK_length])
      repeat' (first | refine sk ?_ | (refine gL ?_; first | refine xl_alloc (fun _ => ?_) | refine xl_box rfl (fun _ => ?_) | refine xl_store rfl rfl ?_ | refine xl_buildSlice rfl (fun _ => ?_)) | fail)
      refine wc_cond rfl (fun hc => by exfalso; simp at hc) (fun hc => ?_)
      repeat' (first | refine sk ?_ | (refine gL ?_; first | refine xl_alloc (fun _ => ?_) | refine xl_box rfl (fun _ => ?_) | refine xl_store rfl rfl ?_ | refine xl_buildSlice rfl (fun _ => ?_)) | fail)
      refine wc_publish (fun hn => ?_)
      have hsl := AllN.sl (all.mono (M' := With M2 Hs) (fun _ _ => .inl)) own (fun p hp => .inr hp) (by rw [proxK_length]; omega)
      have all1 := all0.mono (M' := With M2 Hs) (fun _ _ => .inl)
      have hsi := since_new si0 hn
      have hwn := wrap_mk (n := sProxies) hsl (by decide)
      generalize With M2 Hs = M3 at *
      refine wc_draw 5 (by kernel_rfl) rfl (by kernel_rfl) (fun _ _ h k => h.ext k) ?_
      repeat' (first | (refine gD ?_; first | refine yd_v rfl rfl rfl rfl rfl rfl ?_ | refine wd_v rfl rfl rfl rfl rfl rfl (by first | (exact oc 42 Tryz.call42 (h := fun hcg w hw => around_ok hw.laid _ _ _ _))) ?_ | refine yd_new rfl rfl rfl rfl rfl rfl ?_ | refine wd_conv rfl rfl rfl rfl rfl rfl rfl rfl rfl rfl ?_) | (refine gE ?_; first | refine wd_nil ?_ | refine wd_nil1 (wl_fresh (fun _ => ?_))) | (first | refine sk ?_ | (refine gL ?_; first | refine wl_v rfl rfl rfl (by first | (exact oc 42 Tryz.call42 (h := fun hcg w hw => around_ok hw.laid _ _ _ _))) ?_ | refine xl_alloc (fun _ => ?_) | refine xl_box rfl (fun _ => ?_) | refine xl_store rfl rfl ?_ | refine xl_buildSlice rfl (fun _ => ?_)) | fail))
      refine wl_append (H0 := [(b5, .cells [str sSuc, .slice none 0 0, str [], .slice va vl vc].toArray tNd (0, 0)), (b4, .cells [str [], .slice none 0 0, str [], .slice none 0 0].toArray tNd (0, 0)), (b2, .cells [str s.user, .slice a s.attrs.length cap, .slice (some ⟨b', o', none⟩) s.proxies.length cap', str s.iou].toArray 25 (0, 0))]) rfl own0 rfl rfl rfl rfl rfl rfl rfl rfl rfl rfl (List.Mem.head _) rfl rfl (List.sublist_cons_self _ _) (by rw [hcnt0]; omega) rfl ?_
      intro v' Hs' ho'
      rw [flat_snoc] at ho'
      have hall := AllN.app (AllN.one (x := wrapN sProxies (proxK s.proxies)) hwn) all1
      obtain ⟨va2, vcap2, rfl⟩ := ho'.slice (k := K1.length + 1) (by decide) (hall.len.trans (by rw [List.length_append]; rfl))
      repeat' (first | refine sk ?_ | (refine gL ?_; first | refine xl_alloc (fun _ => ?_) | refine xl_box rfl (fun _ => ?_) | refine xl_store rfl rfl ?_ | refine xl_buildSlice rfl (fun _ => ?_)) | fail)
      exact wn_cut ⟨M3, _, Hs', _, ho', hall, hsi⟩ trivial pE (fun _ h => h)
    · have he : s.proxies = [] := by
        have := of_decide_eq_false hc
        exact List.eq_nil_of_length_eq_zero (by omega)
      have hk3 : k3 s = [] := by unfold k3; rw [if_neg (by rw [he]; simp)]
      rw [hk3, List.append_nil]
      repeat' (first | refine sk ?_ | (refine gL ?_; first | refine xl_alloc (fun _ => ?_) | refine xl_box rfl (fun _ => ?_) | refine xl_store rfl rfl ?_ | refine xl_buildSlice rfl (fun _ => ?_)) | fail)
      exact wn_cut ⟨M2, _, Hs0, vss0, own0, all0, si0⟩ trivial pE (fun _ h => h)
  clear own0 all0 si0 hcnt0
  rintro ⟨M3, v, Hs0, vss0, own0, all0, si0⟩
  dsimp only
  have hK2 : (K1 ++ k3 s).length ≤ 4 := by rw [List.length_append]; unfold k3; split <;> simp <;> omega
  generalize K1 ++ k3 s = K2 at *
  clear va vl vc
  obtain ⟨va, vl, vc, rfl⟩ : ∃ va vl vc, v = .slice va vl vc := by
    obtain ⟨va, vc, h⟩ := own0.slice (k := K2.length) (by decide) all0.len
    exact ⟨_, _, _, h⟩
  repeat' (first | refine sk ?_ | (refine gL ?_; first | refine xl_alloc (fun _ => ?_) | refine xl_box rfl (fun _ => ?_) | refine xl_store rfl rfl ?_ | refine xl_buildSlice rfl (fun _ => ?_)) | fail)
  exact yr_layC (Hn := Hs0) rfl rfl rfl rfl si0 (List.sublist_append_left _ _) ⟨rfl, _, _, _, _, _, _, _, _, rfl, wrap_mk (AllN.sl (all0.mono (fun _ _ => .inl)) own0 (fun p hp => .inr hp) (by omega)) (by decide)⟩
theorem Answer_ok (hG : Glob M) (hM : Laid M w) (s : Suc) (e : Int) {va vp : Value} (hva : SlP M va s.attrs) (hvp : SlS M vp s.proxies) (hsm : SmS s 100000 100000) (at' : Bool) : Calls Tryz.prog 9 #[.agg [str s.user, va, vp, str s.iou].toArray, i64 e, .bool at'] w (RetS M w (fun M' H v => H = [] ∧ RspK M' sXml (wr (answerN s e at')) v)) := by
  have hcl := code_len e
  have hlen := answer_len hsm e at'
  unfold answerN at hlen ⊢
  rw [cas_len] at hlen
  obtain ⟨a, cap, b, o, cs, T, fz, rfl, g1, g2, g3, g4⟩ := hva.open
  obtain ⟨a', cap', b', o', cs', T', fz', rfl, f1, f2, f3, f4⟩ := hvp.open
  refine fn3 hM Tryz.func9 ?_
  repeat' (first | refine sk ?_ | (refine gL ?_; first | refine xl_alloc (fun _ => ?_) | refine xl_box rfl (fun _ => ?_) | refine xl_store rfl rfl ?_) | fail)
  refine wc_cond rfl (fun hc => ?_) (fun hc => ?_)
  · have he : ¬ e = 0 := by simpa using hc
    rw [if_neg he] at hlen ⊢
    repeat' (first | refine sk ?_ | (refine gL ?_; first | refine wl_v rfl rfl rfl (by first | (exact oc 34 Tryz.call34 (h := fun hcg w hw => code_ok hw.laid _))) ?_ | refine xl_alloc (fun _ => ?_) | refine xl_box rfl (fun _ => ?_) | refine xl_store rfl rfl ?_) | fail)
    refine wl_callS rfl Tryz.call33 rfl rfl rfl rfl (fun w hw => failure_ok hw.laid sAF sNotOk (codeE e) (by decide) (by decide) (by omega)) ?_
    rintro _ H1 M1 hm1 hn1 ⟨rfl, n, a1, l1, c1, t, a2, l2, c2, rfl, hx⟩
    refine wl_callS rfl Tryz.call32 rfl rfl rfl rfl (fun w hw => cas_ok (hG.mono hm1) hw.laid hx (by omega)) ?_
    rintro _ H2 M2 hm2 hn2 ⟨rfl, a, l, c, rfl, hS⟩
    repeat' (first | refine sk ?_ | (refine gL ?_; first | refine xl_alloc (fun _ => ?_) | refine xl_box rfl (fun _ => ?_) | refine xl_store rfl rfl ?_) | fail)
    exact yr_layC (Hn := []) rfl rfl rfl rfl ((Since.refl.step hm1 hn1).step hm2 hn2) (List.nil_sublist _) ⟨rfl, _, _, _, rfl, Sl.mono hS (fun _ _ => .inl) (fun _ _ _ h => h)⟩
  · have he : e = 0 := by simpa using hc
    rw [if_pos he] at hlen ⊢
    repeat' (first | refine sk ?_ | (refine gL ?_; first | refine xl_alloc (fun _ => ?_) | refine xl_box rfl (fun _ => ?_) | refine xl_store rfl rfl ?_) | fail)
    refine wl_callS rfl Tryz.call35 rfl rfl rfl rfl (fun w hw => success_ok hw.laid s hva hvp (hsm.mono (by decide) (by decide)) at') ?_
    rintro _ H1 M1 hm1 hn1 ⟨rfl, n, a1, l1, c1, t, a2, l2, c2, rfl, hx⟩
    refine wl_callS rfl Tryz.call32 rfl rfl rfl rfl (fun w hw => cas_ok (hG.mono hm1) hw.laid hx (by omega)) ?_
    rintro _ H2 M2 hm2 hn2 ⟨rfl, a, l, c, rfl, hS⟩
    repeat' (first | refine sk ?_ | (refine gL ?_; first | refine xl_alloc (fun _ => ?_) | refine xl_box rfl (fun _ => ?_) | refine xl_store rfl rfl ?_) | fail)
    exact yr_layC (Hn := []) rfl rfl rfl rfl ((Since.refl.step hm1 hn1).step hm2 hn2) (List.nil_sublist _) ⟨rfl, _, _, _, rfl, Sl.mono hS (fun _ _ => .inl) (fun _ _ _ h => h)⟩
end Go.Proofs.YtgfbieplidpebaaGreatDoor
/-
  What is found in an element: Find, under; known, failed; Equal, same; TrimPrefix.
-/
namespace Go.Eng
set_option linter.unusedSimpArgs false
set_option linter.unusedVariables false
section
variable {P : Program} {n : Nat} {E : Env} {w0 : World} {H : List (Nat × Obj)} {M : Ghost}
theorem wr_tmp3 {fn : Func} {t u q : Nat} {v v' r r' z z' : Value} (hr : fn.results = #[.tmp t, .tmp u, .tmp q]) (ht : look E t = some (true, v')) (hu : look E u = some (true, r')) (hq : look E q = some (true, z')) (hv : v' = v) (hv2 : r' = r) (hv3 : z' = z) : WR n E (St w0 [] H M) (bodyPost P fn (RetE w0 (.tuple #[v, r, z]))) := ⟨fun a w ha hw => by
  refine bodyPost_ret (v := .tuple #[v, r, z]) ?_ ha.defers ⟨rfl, hw.keep⟩
  have h1 := ha.reads t true v' ht
  have h2 := ha.reads u true r' hu
  have h3 := ha.reads q true z' hq
  simp [results, hr, h1, h2, h3, hv, hv2, hv3]⟩
theorem wr_tmp4 {fn : Func} {t u q s : Nat} {v v' r r' z z' y y' : Value} (hr : fn.results = #[.tmp t, .tmp u, .tmp q, .tmp s]) (ht : look E t = some (true, v')) (hu : look E u = some (true, r')) (hq : look E q = some (true, z')) (hs : look E s = some (true, y')) (hv : v' = v) (hv2 : r' = r) (hv3 : z' = z) (hv4 : y' = y) : WR n E (St w0 [] H M) (bodyPost P fn (RetE w0 (.tuple #[v, r, z, y]))) := ⟨fun a w ha hw => by
  refine bodyPost_ret (v := .tuple #[v, r, z, y]) ?_ ha.defers ⟨rfl, hw.keep⟩
  have h1 := ha.reads t true v' ht
  have h2 := ha.reads u true r' hu
  have h3 := ha.reads q true z' hq
  have h4 := ha.reads s true y' hs
  simp [results, hr, h1, h2, h3, h4, hv, hv2, hv3, hv4]⟩
/-- three results, the first a struct in a cell -/
theorem wr_layC3 {M0 : Ghost} {fn : Func} {t u q b : Nat} {tid : TypeId} {fs : Array Field} {l : List Value} {T : TypeId} {fz : Nat × Nat} {r z : Value} {Hn : List (Nat × Obj)} {R : Ghost → List (Nat × Obj) → Value → Prop} (hr : fn.results = #[.cell t tid, .tmp u, .tmp q]) (ht : look E t = some (true, .pointer (some ⟨b, 0, none⟩))) (hu : look E u = some (true, r)) (hq : look E q = some (true, z))
    (hty : P.underlying tid = some (.struct fs)) (hs : (P.info? tid).map (·.size) = some l.length) (hsi : Since w0 M0 M) (hH : List.Sublist Hn H) (hR : R (With M Hn) [] (.tuple #[.agg l.toArray, r, z])) (hm : (b, Obj.cells l.toArray T fz) ∈ H) : WR n E (St w0 [] H M) (bodyPost P fn (RetS M0 w0 R)) := ⟨fun a w ha hw => by
  refine bodyPost_ret (v := .tuple #[.agg l.toArray, r, z]) ?_ ha.defers (retS_lay (H' := []) hw hsi hH hR)
  have h1 := ha.reads t true _ ht
  have h2 := ha.reads u true _ hu
  have h3 := ha.reads q true _ hq
  simp [results, hr, h1, h2, h3, asAddr, loadVar, isAgg_struct hty, run_sizeOf hs, run_loadCells (o := 0) (hw.get hm) l (by simp)]⟩
end
end Go.Eng
namespace Go.Proofs.YtgfbieplidpebaaGreatDoor
open Go.Eng Go.Pct Go.Xml Go.Cas
set_option maxRecDepth 10000
set_option linter.unusedSimpArgs false
set_option linter.unusedVariables false

variable {M : Ghost} {w0 w : World} {bs : List Nat} {H : List (Nat × Obj)}
/-! ### where an element first is as asked -/
def idxN (p : Nd → Bool) : List Nd → Nat
  | [] => 0
  | x :: l => if p x = true then 0 else idxN p l + 1
theorem idxN_hit (p : Nd → Bool) : ∀ {l : List Nd} {i : Nat}, i < l.length → (∀ j, j < i → p (l.getD j nodeZ) = false) → p (l.getD i nodeZ) = true → idxN p l = i
  | x :: l, 0, _, _, h => by rw [idxN, if_pos (by simpa using h)]
  | x :: l, i + 1, hi, ha, h => by
    have hx : p x = false := by simpa using ha 0 (by omega)
    rw [idxN, if_neg (by rw [hx]; decide), idxN_hit p (l := l) (i := i) (by simpa using hi) (fun j hj => by simpa using ha (j + 1) (by omega)) (by simpa using h)]
theorem idxN_no (p : Nd → Bool) : ∀ {l : List Nd}, (∀ j, j < l.length → p (l.getD j nodeZ) = false) → idxN p l = l.length
  | [], _ => rfl
  | x :: l, h => by
    have hx : p x = false := by simpa using h 0 (by simp)
    rw [idxN, if_neg (by rw [hx]; decide), idxN_no p (l := l) (fun j hj => by simpa using h (j + 1) (by simpa using hj))]; rfl
theorem idxN_find (p : Nd → Bool) : ∀ (l : List Nd), l.find? p = if idxN p l < l.length then some (l.getD (idxN p l) nodeZ) else none
  | [] => rfl
  | x :: l => by
    rw [List.find?_cons, idxN]
    cases hx : p x with
    | true => simp
    | false =>
      simp only [Bool.false_eq_true, if_false]
      rw [idxN_find p l, List.length_cons]
      by_cases h : idxN p l < l.length
      · rw [if_pos h, if_pos (by omega)]; simp
      · rw [if_neg h, if_neg (by omega)]
def idxZN (p : Nd → Bool) (l : List Nd) : Int := if idxN p l < l.length then (idxN p l : Int) else -1
theorem getD_nd {l : List Nd} {i : Nat} (h : i < l.length) : l.getD i nodeZ = l[i] := by simp [h]
theorem ifuncN_ok (hM : Laid M w) {D : Nat} {v : Value} {l : List Nd} (hv : Sl M 4 (NodeC M D) v l) (p : Nd → Bool) (f : FuncId) (first captured : List Value) (hf : ∀ args w, (callFunc f args).run Tryz.prog w = .ok (.enter f args) w)
    (hby : ∀ x n a1 l1 c1 t a2 l2 c2 w, NodeC M D x [str n, .slice a1 l1 c1, str t, .slice a2 l2 c2] → Laid M w → Calls Tryz.prog f (first ++ [Value.agg [str n, .slice a1 l1 c1, str t, .slice a2 l2 c2].toArray] ++ captured).toArray w (RetE w (.bool (p x)))) : Calls Tryz.prog 68 #[v, .func (.func f) first.toArray captured.toArray] w (RetE w (i64 (idxZN p l))) := by
  obtain ⟨a, cap, b, o, cs, T, fz, rfl, h1, h2, h3, h4⟩ := Sl.open hv
  refine fn2 hM Tryz.func68 ?_
  repeat' (first | refine sk ?_ | (refine wc_cond rfl (fun hc => ?_) (fun hc => ?_) <;> (try (simp only [bls] at hc)) <;> (try (exfalso; first | omega | contradiction))))
  refine wc_loop (α := { i : Nat // i ≤ l.length ∧ ∀ j, j < i → p (l.getD j nodeZ) = false }) (fun x => [(0, true, .slice a l.length cap), (1, true, .func (.func f) first.toArray captured.toArray), (7, true, i64 (l.length : Int)), (8, true, i64 (x.1 : Int))]) (fun _ => St w [] [] M) (fun x => l.length - x.1) ⟨0, by omega, by intro j hj; omega⟩ pE (fun _ h => h) ?_
  rintro ⟨i, hi, hall⟩
  dsimp only
  rcases Nat.lt_or_ge i l.length with hlt | hge
  · have hne : l ≠ [] := by intro h; subst h; simp at hlt
    obtain ⟨us, hu4, hus, hcells⟩ := h4 i hlt
    obtain ⟨un, ua1, ul1, uc1, ut, ua2, ul2, uc2, rfl⟩ := node_open hus
    have hb := fun {w : World} (hw : Laid M w) => hby _ _ _ _ _ _ _ _ _ w hus hw
    have hgi := getD_nd hlt
    rw [← hgi] at hb
    obtain ⟨rfl, hMb⟩ := h3 hne
    repeat' (first | (first | refine sk ?_ | (refine gL ?_; first | refine wl_v rfl rfl rfl (by first | (show OpV _ _ _ _ (Oper.mk _ (Op.indexAddr _ _ _) _ _ _ _) _ _; exact ov_indexAddr (i := i) (b := b) (o := o) rfl rfl rfl pI pI rfl pZ (fun _ => rfl) pS) | (show OpV _ _ _ _ (Oper.mk _ (Op.load _ _) _ _ _ _) _ _; exact ov_loadSM (l := [str un, .slice ua1 ul1 uc1, str ut, .slice ua2 ul2 uc2]) rfl pI rfl pZ (fun _ => hMb) (fun _ j hj => hcells j hj)) | (show OpV _ _ _ _ (Oper.mk _ (Op.call ⟨.value (.tmp _), _, _⟩) _ _ _ _) _ _; exact ov_callV (first := first) (captured := captured) rfl hf rfl pA (by rfl) (fun _ _ h k => h.ext k) (fun hcg w hw => hb hw.laid))) ?_) | fail) | (refine wc_cond rfl (fun hc => ?_) (fun hc => ?_) <;> (try (simp only [bls] at hc)) <;> (try (exfalso; first | omega | contradiction))))
    · refine wr_tmp rfl rfl ?_
      unfold idxZN
      rw [idxN_hit p hlt hall hc, if_pos hlt]
    · refine wn_cut ⟨i + 1, by omega, ?_⟩ (by show l.length - (i + 1) < l.length - i; omega) pE (fun _ h => h)
      intro j hj
      by_cases h : j = i
      · subst h; exact hc
      · exact hall j (by omega)
  · repeat' (first | refine sk ?_ | (refine wc_cond rfl (fun hc => ?_) (fun hc => ?_) <;> (try (simp only [bls] at hc)) <;> (try (exfalso; first | omega | contradiction))))
    refine wr_tmp rfl rfl ?_
    unfold idxZN
    rw [idxN_no p (fun j hj => hall j (by omega)), if_neg (by omega)]
/-- what Find yields -/
def FndIs (M' : Ghost) (D : Nat) (x : Nd) (path : List (List UInt8)) (v : Value) : Prop := ∃ n a1 l1 c1 t a2 l2 c2, v = .tuple #[.agg [str n, .slice a1 l1 c1, str t, .slice a2 l2 c2].toArray, .bool (findN x path).isSome] ∧ NodeC M' (D + 1) (foundN x path) [str n, .slice a1 l1 c1, str t, .slice a2 l2 c2]
theorem find_step {x : Nd} {p : List UInt8} {l : List (List UInt8)} : findN x (p :: l) = if idxN (fun y => decide (nmN y = p)) (kdN x) < (kdN x).length then findN ((kdN x).getD (idxN (fun y => decide (nmN y = p)) (kdN x)) nodeZ) l else none := by
  rw [findN, idxN_find]
  by_cases h : idxN (fun y => decide (nmN y = p)) (kdN x) < (kdN x).length
  · rw [if_pos h, if_pos h]
  · rw [if_neg h, if_neg h]
/-- a node on the way -/
structure FQ (M : Ghost) (D : Nat) (x : Nd) (path : List (List UInt8)) where
  i : Nat
  hi : i ≤ path.length
  y : Nd
  n : List UInt8
  a1 : Option Addr
  l1 : Nat
  c1 : Nat
  t : List UInt8
  a2 : Option Addr
  l2 : Nat
  c2 : Nat
  node : NodeC M (D + 1) y [str n, .slice a1 l1 c1, str t, .slice a2 l2 c2]
  way : findN x path = findN y (path.drop i)
theorem node_tx {D : Nat} {x : Nd} {n t : List UInt8} {va vk : Value} (h : NodeC M D x [str n, va, str t, vk]) : txN x = t := by
  cases D with
  | zero => exact h.elim
  | succ D =>
    cases x with
    | mk n' a t' k =>
      obtain ⟨va, vk, e, _⟩ := h
      simp only [List.cons.injEq] at e
      simpa [txN] using e.2.2.1.symm
theorem node_nm {D : Nat} {x : Nd} {n t : List UInt8} {va vk : Value} (h : NodeC M D x [str n, va, str t, vk]) : nmN x = n := by
  cases D with
  | zero => exact h.elim
  | succ D =>
    cases x with
    | mk n' a t' k =>
      obtain ⟨va, vk, e, _⟩ := h
      simp only [List.cons.injEq] at e
      simpa [nmN] using e.1.symm
theorem node_at {D : Nat} {x : Nd} {n t : List UInt8} {va vk : Value} (h : NodeC M D x [str n, va, str t, vk]) : SlP M va (atN x) := by
  cases D with
  | zero => exact h.elim
  | succ D =>
    cases x with
    | mk n' a t' k =>
      obtain ⟨va, vk, e, h1, _⟩ := h
      simp only [List.cons.injEq] at e
      obtain ⟨_, rfl, _⟩ := e
      exact h1
theorem node_kd {D : Nat} {x : Nd} {n t : List UInt8} {va vk : Value} (h : NodeC M (D + 1) x [str n, va, str t, vk]) : Sl M 4 (NodeC M D) vk (kdN x) := by
  cases x with
  | mk n' a t' k =>
    obtain ⟨va, vk, e, _, h1, _⟩ := h
    simp only [List.cons.injEq] at e
    obtain ⟨_, _, _, rfl, _⟩ := e
    exact h1
theorem findFn_ok (hM : Laid M w) {b : Nat} {p : List UInt8} (hb : M b (.cells [str p].toArray 9 (0, 0))) (x : Nd) (n : List UInt8) (a1 : Option Addr) (l1 c1 : Nat) (t : List UInt8) (a2 : Option Addr) (l2 c2 : Nat) {D : Nat} (hx : NodeC M D x [str n, .slice a1 l1 c1, str t, .slice a2 l2 c2]) : Calls Tryz.prog 69 ([] ++ [Value.agg [str n, .slice a1 l1 c1, str t, .slice a2 l2 c2].toArray] ++ [Value.pointer (some ⟨b, 0, none⟩)]).toArray w (RetE w (.bool (decide (nmN x = p)))) := by
  show Calls Tryz.prog 69 #[.agg [str n, .slice a1 l1 c1, str t, .slice a2 l2 c2].toArray, .pointer (some ⟨b, 0, none⟩)] w _
  have hn : nmN x = n := by
    cases D with
    | zero => exact hx.elim
    | succ D =>
      cases x with
      | mk n' a t' k =>
        obtain ⟨va, vk, e, _⟩ := hx
        injection e with e1 e2
        injection e1 with e1
        simp only [nmN]
        simpa using e1.symm
  refine fn2 hM Tryz.func69 ?_
  repeat' (first | (first | refine sk ?_ | (refine gL ?_; first | refine wl_v rfl rfl rfl (by first | (show OpV _ _ _ _ (Oper.mk _ (Op.load _ _) _ _ _ _) _ _; exact ov_load1M rfl pI rfl rfl (fun _ => hb) (fun _ => rfl))) ?_ | refine xl_box rfl (fun _ => ?_)) | fail) | (refine wc_cond rfl (fun hc => ?_) (fun hc => ?_) <;> (try (simp only [bls] at hc)) <;> (try (exfalso; first | omega | contradiction))))
  exact wr_tmp rfl rfl (by rw [hn])
set_option maxHeartbeats 1000000 in
theorem find_ok (hM : Laid M w) {D : Nat} {x : Nd} {un a1 l1 c1 ut a2 l2 c2} (hx : NodeC M (D + 1) x [str un, .slice a1 l1 c1, str ut, .slice a2 l2 c2]) {vp : Value} {path : List (List UInt8)} (hp : SlS M vp path) : Calls Tryz.prog 52 #[.agg [str un, .slice a1 l1 c1, str ut, .slice a2 l2 c2].toArray, vp] w (RetS M w (fun M' H v => H = [] ∧ FndIs M' D x path v)) := by
  obtain ⟨a, cap, b, o, cs, T, fz, rfl, g1, g2, g3, g4⟩ := hp.open
  refine fn2 hM Tryz.func52 ?_
  repeat' (first | refine sk ?_ | (refine gL ?_; first | refine xl_alloc (fun _ => ?_) | refine xl_box rfl (fun _ => ?_) | refine xl_store rfl rfl ?_) | fail)
  rename_i b2 b4
  refine wc_loop (α := FQ M D x path) (fun x => [(2, true, .pointer (some ⟨b2, 0, none⟩)), (4, true, .pointer (some ⟨b4, 0, none⟩)), (9, true, .slice a path.length cap), (10, true, i64 (path.length : Int)), (11, true, i64 (x.i : Int))]) (fun x => St w [] [(b2, .cells [str x.n, .slice x.a1 x.l1 x.c1, str x.t, .slice x.a2 x.l2 x.c2].toArray tNd (0, 0)), (b4, .cells [str [], .slice none 0 0, str [], .slice none 0 0].toArray tNd (0, 0))] M) (fun x => path.length - x.i) ⟨0, Nat.zero_le _, x, un, a1, l1, c1, ut, a2, l2, c2, hx, rfl⟩ pE (fun _ h => h.perm (List.Perm.swap _ _ _)) ?_
  rintro ⟨i, hi, y, n, y1, m1, d1, t, y2, m2, d2, node, way⟩
  dsimp only
  rcases Nat.lt_or_ge i path.length with hlt | hge
  · have hne : path ≠ [] := by intro e; subst e; simp at hlt
    obtain ⟨rfl, hMb⟩ := g3 hne
    have gi := g4 i hlt
    have hdr : path.drop i = path.getD i default :: path.drop (i + 1) := by
      have e : path.getD i default = path[i] := by simp [hlt]
      rw [e]; exact List.drop_eq_getElem_cons hlt
    rw [hdr, find_step] at way
    generalize path.getD i default = p at *
    repeat' (first | refine sk ?_ | (refine gL ?_; first | refine xl_alloc (fun _ => ?_) | refine xl_box rfl (fun _ => ?_) | refine xl_store rfl rfl ?_) | fail)
    refine wc_cond rfl (fun hc => ?_) (fun hc => by exfalso; simp at hc; omega)
    clear hc
    repeat' (first | refine sk ?_ | (refine gL ?_; first | refine wl_v rfl rfl rfl (by first | (show OpV _ _ _ _ (Oper.mk _ (Op.indexAddr _ _ _) _ _ _ _) _ _; exact ov_indexAddr (i := i) (b := b) (o := o) rfl rfl rfl pI pI rfl pZ (fun _ => rfl) pS) | (show OpV _ _ _ _ (Oper.mk _ (Op.load _ _) _ _ _ _) _ _; exact ov_load1M rfl pI rfl rfl (fun _ => hMb) (fun _ => gi))) ?_ | refine xl_alloc (fun _ => ?_) | refine xl_box rfl (fun _ => ?_) | refine xl_store rfl rfl ?_) | fail)
    rename_i b7
    refine wl_publish (H1 := [(b7, .cells [str p].toArray 9 (0, 0))]) (fun hn7 => ?_)
    have hm7 : With M [(b7, .cells [str p].toArray 9 (0, 0))] b7 (.cells [str p].toArray 9 (0, 0)) := .inr (List.Mem.head _)
    obtain ⟨kn, kk, rfl, hkn⟩ : ∃ kn kk, y = kn ∧ Sl M 4 (NodeC M D) (.slice y2 m2 d2) kk ∧ kdN y = kk := by
      cases y with
      | mk n' a' t' k =>
        obtain ⟨va, vk, e, h1, h2, _⟩ := node
        simp only [List.cons.injEq, and_true] at e
        obtain ⟨_, _, _, rfl⟩ := e
        exact ⟨_, _, rfl, h2, rfl⟩
    obtain ⟨hsl, hkd⟩ := hkn
    have hif := fun {w : World} (h : Laid (With M [(b7, .cells [str p].toArray 9 (0, 0))]) w) => ifuncN_ok h (Sl.mono hsl (fun _ _ => .inl) (fun _ _ _ h => NodeC.mono (fun _ _ => .inl) h)) (fun y => decide (nmN y = p)) 69 [] [.pointer (some ⟨b7, 0, none⟩)] Tryz.call69 (fun x n a1 l1 c1 t a2 l2 c2 w hN hL => findFn_ok hL hm7 x n a1 l1 c1 t a2 l2 c2 hN)
    rw [hkd] at way
    obtain ⟨a3, cap3, b3, o3, cs3, T3, fz3, e3, k1, k2, k3, k4⟩ := Sl.open hsl
    cases e3
    generalize hq : idxN (fun y => decide (nmN y = p)) kk = q at *
    unfold idxZN at hif
    rw [hq] at hif
    by_cases hql : q < kk.length
    · rw [if_pos hql] at hif way
      have hne3 : kk ≠ [] := by intro e; subst e; simp at hql
      obtain ⟨rfl, hMb3⟩ := k3 hne3
      obtain ⟨us, hu4, hus, hcells⟩ := k4 q hql
      obtain ⟨un', ua1, ul1, uc1, ut', ua2, ul2, uc2, rfl⟩ := node_open hus
      have hgi := getD_nd hql
      rw [hgi] at way
      repeat' (first | refine sk ?_ | (refine gL ?_; first | refine wl_v rfl rfl rfl (by first | (exact oc 68 Tryz.call68 (h := fun hcg w hw => hif hw.laid))) ?_ | refine xl_alloc (fun _ => ?_) | refine xl_box rfl (fun _ => ?_) | refine xl_store rfl rfl ?_) | fail)
      refine wc_cond rfl (fun hc => by exfalso; simp at hc; omega) (fun hc => ?_)
      repeat' (first | refine sk ?_ | (refine gL ?_; first | refine wl_v rfl rfl rfl (by first | (show OpV _ _ _ _ (Oper.mk _ (Op.indexAddr _ _ _) _ _ _ _) _ _; exact ov_indexAddr (i := q) (b := b3) (o := o3) rfl rfl rfl pI pI rfl pZ (fun _ => rfl) pS) | (show OpV _ _ _ _ (Oper.mk _ (Op.load _ _) _ _ _ _) _ _; exact ov_loadSM (l := [str un', .slice ua1 ul1 uc1, str ut', .slice ua2 ul2 uc2]) rfl pI rfl pZ (fun _ => .inl hMb3) (fun _ j hj => hcells j hj))) ?_ | refine xl_alloc (fun _ => ?_) | refine xl_box rfl (fun _ => ?_) | refine xl_store rfl rfl ?_) | fail)
      exact wn_cut ⟨i + 1, by omega, kk[q], un', ua1, ul1, uc1, ut', ua2, ul2, uc2, NodeC.up (by omega) hus, way⟩ (by show path.length - (i + 1) < path.length - i; omega) pE (fun _ h => St.less h (fun _ _ => .inl))
    · rw [if_neg hql] at hif way
      repeat' (first | refine sk ?_ | (refine gL ?_; first | refine wl_v rfl rfl rfl (by first | (exact oc 68 Tryz.call68 (h := fun hcg w hw => hif hw.laid))) ?_ | refine xl_alloc (fun _ => ?_) | refine xl_box rfl (fun _ => ?_) | refine xl_store rfl rfl ?_) | fail)
      refine wc_cond rfl (fun hc => ?_) (fun hc => by exfalso; simp at hc)
      repeat' (first | refine sk ?_ | (refine gL ?_; first | refine xl_alloc (fun _ => ?_) | refine xl_box rfl (fun _ => ?_) | refine xl_store rfl rfl ?_) | fail)
      refine yr_layC2 (Hn := []) rfl rfl rfl rfl rfl (since_new Since.refl hn7) (List.nil_sublist _) ⟨rfl, _, _, _, _, _, _, _, _, by rw [way]; rfl, ?_⟩
      unfold foundN; rw [way]; exact nodeZ_ok
  obtain rfl : i = path.length := by omega
  rw [List.drop_length] at way
  repeat' (first | refine sk ?_ | (refine gL ?_; first | refine xl_alloc (fun _ => ?_) | refine xl_box rfl (fun _ => ?_) | refine xl_store rfl rfl ?_) | fail)
  refine wc_cond rfl (fun hc => by exfalso; simp at hc) (fun hc => ?_)
  repeat' (first | refine sk ?_ | (refine gL ?_; first | refine xl_alloc (fun _ => ?_) | refine xl_box rfl (fun _ => ?_) | refine xl_store rfl rfl ?_) | fail)
  refine yr_layC2 (Hn := []) rfl rfl rfl rfl rfl Since.refl (List.nil_sublist _) ⟨rfl, _, _, _, _, _, _, _, _, by rw [way]; rfl, ?_⟩
  unfold foundN; rw [way]; exact NodeC.mono (fun _ _ => .inl) node
theorem under_ok (hM : Laid M w) {D : Nat} {x : Nd} {un a1 l1 c1 ut a2 l2 c2} (hx : NodeC M (D + 1) x [str un, .slice a1 l1 c1, str ut, .slice a2 l2 c2]) {a : Option Addr} {l c : Nat} {path : List (List UInt8)} (hp : SlS M (.slice a l c) path) : Calls Tryz.prog 51 #[.agg [str un, .slice a1 l1 c1, str ut, .slice a2 l2 c2].toArray, .slice a l c] w (RetE w (str (txN (foundN x path)))) := by
  refine fn2 hM Tryz.func51 ?_
  repeat' (first | refine sk ?_ | (refine gL ?_; first | refine xl_alloc (fun _ => ?_) | refine xl_box rfl (fun _ => ?_) | refine xl_store rfl rfl ?_) | fail)
  refine wl_callS rfl Tryz.call52 rfl rfl rfl rfl (fun w hw => find_ok hw.laid hx hp) ?_
  rintro _ H1 M1 hm1 hn1 ⟨rfl, n, y1, m1, d1, t, y2, m2, d2, rfl, hy⟩
  have ht : txN (foundN x path) = t := node_tx hy
  rw [ht]
  repeat' (first | refine sk ?_ | (refine gL ?_; first | refine xl_alloc (fun _ => ?_) | refine xl_box rfl (fun _ => ?_) | refine xl_store rfl rfl ?_) | fail)
  exact wr_weak (fun _ h => h.drop (List.nil_sublist _)) (wr_tmp rfl rfl rfl)
/-- a code's error, and whether it is one -/
def knownT (c : List UInt8) : Int × Bool := match knownE c with | some i => (((i + 1 : Nat) : Int), true) | none => (0, false)
theorem known_hit {c : List UInt8} {i : Nat} (hi : i < 39) (hb : ∀ j, j < i → ¬ codeE ((j + 1 : Nat) : Int) = c) (h : codeE ((i + 1 : Nat) : Int) = c) : knownT c = (((i + 1 : Nat) : Int), true) := by
  unfold knownT knownE
  have : (List.range 39).find? (fun i => decide (codeE ((i + 1 : Nat) : Int) = c)) = some i := by
    rw [List.find?_range_eq_some]
    exact ⟨by simpa using h, by simpa using hi, fun j hj => by simpa using hb j hj⟩
  rw [this]
theorem known_none {c : List UInt8} (hb : ∀ j, j < 39 → ¬ codeE ((j + 1 : Nat) : Int) = c) : knownT c = (0, false) := by
  unfold knownT knownE
  have : (List.range 39).find? (fun i => decide (codeE ((i + 1 : Nat) : Int) = c)) = none := by
    rw [List.find?_range_eq_none]
    exact fun j hj => by simpa using hb j hj
  rw [this]
theorem known_ok (hM : Laid M w) (c : List UInt8) : Calls Tryz.prog 66 #[str c] w (RetE w (.tuple #[i64 (knownT c).1, .bool (knownT c).2])) := by
  refine fn1 hM Tryz.func66 ?_
  repeat' (first | refine sk ?_ | fail)
  refine wc_loop (α := { i : Nat // i ≤ 39 ∧ ∀ j, j < i → ¬ codeE ((j + 1 : Nat) : Int) = c }) (fun x => [(0, true, str c), (4, true, i64 ((x.1 + 1 : Nat) : Int))]) (fun _ => St w [] [] M) (fun x => 39 - x.1) ⟨0, by omega, by intro j hj; omega⟩ pE (fun _ h => h) ?_
  rintro ⟨i, hi, hall⟩
  dsimp only
  rcases Nat.lt_or_ge i 39 with hlt | hge
  · repeat' (first | refine sk ?_ | fail)
    refine wc_cond rfl (fun hc => ?_) (fun hc => by exfalso; simp at hc; omega)
    clear hc
    repeat' (first | refine sk ?_ | (refine gL ?_; first | refine wl_v rfl rfl rfl (by first | (exact oc 34 Tryz.call34 (h := fun hcg w hw => code_ok hw.laid _))) ?_) | fail)
    refine wc_cond rfl (fun hc => ?_) (fun hc => ?_)
    · rw [known_hit hlt hall (of_decide_eq_true hc)]
      repeat' (first | refine sk ?_ | fail)
      exact wr_tmp2 rfl rfl rfl rfl rfl
    · repeat' (first | refine sk ?_ | fail)
      refine wn_cut ⟨i + 1, by omega, ?_⟩ (by show 39 - (i + 1) < 39 - i; omega) pE (fun _ h => h)
      intro j hj
      by_cases h : j = i
      · subst h; exact of_decide_eq_false hc
      · exact hall j (by omega)
  · rw [known_none (fun j hj => hall j (by omega))]
    repeat' (first | refine sk ?_ | fail)
    refine wc_cond rfl (fun hc => by exfalso; simp at hc; omega) (fun hc => ?_)
    repeat' (first | refine sk ?_ | fail)
    exact wr_tmp2 rfl rfl rfl rfl rfl
end Go.Proofs.YtgfbieplidpebaaGreatDoor
/-
  Equal, same, TrimPrefix, failed.
-/
namespace Go.Proofs.YtgfbieplidpebaaGreatDoor
open Go.Eng Go.Pct Go.Xml Go.Cas
set_option maxRecDepth 10000
set_option linter.unusedSimpArgs false
set_option linter.unusedVariables false

variable {M : Ghost} {w0 w : World} {bs : List Nat} {H : List (Nat × Obj)}
theorem equal_ok (hM : Laid M w) {u v : Value} {l m : List Go.Pct.Pr} (hu : SlP M u l) (hv : SlP M v m) : Calls Tryz.prog 67 #[u, v] w (RetE w (.bool (decide (l = m)))) := by
  obtain ⟨a, cap, b, o, cs, T, fz, rfl, h1, h2, h3, h4⟩ := hu.open
  obtain ⟨a', cap', b', o', cs', T', fz', rfl, h1', h2', h3', h4'⟩ := hv.open
  refine fn2 hM Tryz.func67 ?_
  repeat' (first | refine sk ?_ | (refine wc_cond rfl (fun hc => ?_) (fun hc => ?_) <;> (try (simp only [bls] at hc)) <;> (try (exfalso; first | omega | contradiction))))
  · refine wr_tmp rfl rfl (congrArg Value.bool ?_)
    symm
    rw [decide_eq_false_iff_not]
    rintro rfl; exact hc rfl
  · refine wc_loop (α := { i : Nat // i ≤ l.length ∧ ∀ j, j < i → l.getD j default = m.getD j default }) (fun x => [(0, true, .slice a l.length cap), (1, true, .slice a' m.length cap'), (12, true, i64 (l.length : Int)), (13, true, i64 (x.1 : Int))]) (fun x => St w [] [] M) (fun x => l.length - x.1) ⟨0, by omega, by intro j hj; omega⟩ pE (fun _ h => h) ?_
    rintro ⟨i, hi, hall⟩
    dsimp only
    repeat' (first | refine sk ?_ | (refine wc_cond rfl (fun hc => ?_) (fun hc => ?_) <;> (try (simp only [bls] at hc)) <;> (try (exfalso; first | omega | contradiction))))
    · refine wc_weak (E' := [(0, true, .slice a l.length cap), (1, true, .slice a' m.length cap'), (5, true, i64 (i : Int)), (12, true, i64 (l.length : Int)), (13, true, i64 (i : Int))]) pE (fun _ h => h) ?_
      refine wc_draw 9 (by kernel_rfl) rfl (by kernel_rfl) (fun _ _ h k => h.ext k) ?_
      repeat' (first | (refine gD ?_; first | refine yd_v rfl rfl rfl rfl rfl rfl ?_ | refine wd_v rfl rfl rfl rfl rfl rfl (by first | (show OpV _ _ _ _ (Oper.mk _ (Op.indexAddr _ _ _) _ _ _ _) _ _; first | exact ov_indexAddr rfl rfl pK pI pI rfl pZ (fun hcg => (h3 (by intro h; subst h; simp only [List.length_nil] at *; omega)).1) pS | exact ov_indexAddr rfl rfl pK pI pI rfl pZ (fun hcg => (h3' (by intro h; subst h; simp only [List.length_nil] at *; omega)).1) pS) | (show OpV _ _ _ _ (Oper.mk _ (Op.load _ _) _ _ _ _) _ _; first | exact ov_loadSM rfl pI rfl pZ (fun hcg => (h3 (by intro h; subst h; simp only [List.length_nil] at *; omega)).2) (fun hcg => pcell (h4 i (by omega))) | exact ov_loadSM rfl pI rfl pZ (fun hcg => (h3' (by intro h; subst h; simp only [List.length_nil] at *; omega)).2) (fun hcg => pcell (h4' i (by omega))))) ?_ | refine yd_new rfl rfl rfl rfl rfl rfl ?_ | refine wd_conv rfl rfl rfl rfl rfl rfl rfl rfl rfl rfl ?_) | (refine gE ?_; first | refine wd_nil ?_ | refine wd_nilF ?_) | (first | refine sk ?_ | (refine gL ?_; first | refine wl_v rfl rfl rfl (by first | (show OpV _ _ _ _ (Oper.mk _ (Op.indexAddr _ _ _) _ _ _ _) _ _; first | exact ov_indexAddr rfl rfl pK pI pI rfl pZ (fun hcg => (h3 (by intro h; subst h; simp only [List.length_nil] at *; omega)).1) pS | exact ov_indexAddr rfl rfl pK pI pI rfl pZ (fun hcg => (h3' (by intro h; subst h; simp only [List.length_nil] at *; omega)).1) pS) | (show OpV _ _ _ _ (Oper.mk _ (Op.load _ _) _ _ _ _) _ _; first | exact ov_loadSM rfl pI rfl pZ (fun hcg => (h3 (by intro h; subst h; simp only [List.length_nil] at *; omega)).2) (fun hcg => pcell (h4 i (by omega))) | exact ov_loadSM rfl pI rfl pZ (fun hcg => (h3' (by intro h; subst h; simp only [List.length_nil] at *; omega)).2) (fun hcg => pcell (h4' i (by omega))))) ?_) | fail))
      repeat' (first | refine sk ?_ | (refine wc_cond rfl (fun hc => ?_) (fun hc => ?_) <;> (try (simp only [bls] at hc)) <;> (try (exfalso; first | omega | contradiction))))
      · refine wr_tmp rfl rfl (congrArg Value.bool ?_)
        symm
        rw [decide_eq_false_iff_not]
        rintro rfl
        simp at hc
      · have hh : l.getD i default = m.getD i default := by
          simp at hc
          exact Prod.ext hc.1 hc.2
        refine wn_cut ⟨i + 1, by omega, ?_⟩ (by show l.length - (i + 1) < l.length - i; omega) pE (fun _ h => h)
        intro j hj
        by_cases h : j = i
        · subst h; exact hh
        · exact hall j (by omega)
    · refine wr_tmp rfl rfl (congrArg Value.bool ?_)
      symm
      rw [decide_eq_true_iff]
      apply List.ext_getElem (by omega)
      intro j hj hj'
      have := hall j (by omega)
      simpa [hj, hj'] using this
theorem slS_blk {e b : Nat} {l : List (List UInt8)} (h : M b (.cells (cellsS l).toArray e (0, 0))) (hl : l.length ≤ 1000) : SlS M (.slice (some ⟨b, 0, none⟩) l.length l.length) l :=
  (OwnS.lit (e := e) (b := b) (m := 1) (l := cellsS l) (by rw [cellsS_length]) (Nat.le_trans hl (by decide))).slS (fun p hp => by
    rw [List.mem_singleton] at hp; subst hp; exact h) (by omega)
/-- a response in memory -/
def RsC (M : Ghost) (r : Rs) (st : Int) (a : Option Addr) (l c : Nat) (bd : List UInt8) : Prop := r.status = st ∧ r.body = bd ∧ SlP M (.slice a l c) r.headers
theorem same_ok (hM : Laid M w) {r q : Rs} {a l c bd a' l' c' bd'} {st st' : Int} (hr : RsC M r st a l c bd) (hq : RsC M q st' a' l' c' bd') : Calls Tryz.prog 50 #[.agg [i64 st, .slice a l c, str bd].toArray, .agg [i64 st', .slice a' l' c', str bd'].toArray] w (RetE w (.bool (sameR r q))) := by
  obtain ⟨r1, r2, r3⟩ := hr
  obtain ⟨q1, q2, q3⟩ := hq
  have he := fun {w : World} (hw : Laid M w) => equal_ok hw r3 q3
  have hfin : sameR r q = (decide (st = st') && decide (bd = bd') && decide (¬ bd = []) && decide (r.headers = q.headers)) := by
    unfold sameR
    rw [r1, r2, q1, q2]
  rw [hfin]
  clear hfin r1 r2 r3 q1 q2 q3
  generalize decide (r.headers = q.headers) = hq at *
  refine fn2 hM Tryz.func50 ?_
  repeat' (first | refine sk ?_ | (refine gL ?_; first | refine wl_v rfl rfl rfl (by first | (show OpV _ _ _ _ (Oper.mk _ (Op.call ⟨.value (.func 67), _, _⟩) _ _ _ _) _ _; exact ov_call Tryz.call67 rfl (by intro himp; simp at himp; obtain ⟨⟨h1, h2⟩, h3⟩ := himp; subst h1 h2; simp [h3]) (by rfl) (fun _ _ h k => h.ext k) (fun hcg w hw => he hw.laid))) ?_ | refine xl_box rfl (fun _ => ?_)) | fail)
  refine wr_weak (fun _ h => h.drop (List.nil_sublist _)) (wr_tmp rfl rfl (congrArg Value.bool ?_))
  by_cases hb : bd = bd'
  · subst hb; simp
  · simp [hb]
theorem trimC_pre (s : List UInt8) : (if Lib.hasPrefix s sCas = true then s.drop 4 else s) = trimC s := rfl
theorem ltrim_ok (hM : Laid M w) (s : List UInt8) : Calls Tryz.prog 70 #[str s, str sCas] w (RetE w (str (trimC s))) := by
  have hp := fun {w : World} (hw : Laid M w) => lprefix_ok hw s sCas
  rw [← trimC_pre]
  cases h : Lib.hasPrefix s sCas with
  | true =>
    rw [h] at hp
    have := hasPrefix_len h
    have e4 : sCas.length = 4 := rfl
    refine fn2 hM Tryz.func70 ?_
    repeat' (first | (first | refine sk ?_ | (refine gL ?_; first | refine wl_v rfl rfl rfl (by first | (exact oc 81 Tryz.call81 (h := fun hcg w hw => hp hw.laid)) | (show OpV _ _ _ _ (Oper.mk _ (Op.slice _ _ (some _) none none) _ _ _ _) _ _; exact ov_from (i := 4) rfl rfl rfl pI pI rfl (fun _ => by omega))) ?_) | fail) | (refine wc_cond rfl (fun hc => ?_) (fun hc => ?_) <;> (try (simp only [bls] at hc)) <;> (try (exfalso; first | omega | contradiction))))
    exact wr_tmp rfl rfl rfl
  | false =>
    rw [h] at hp
    refine fn2 hM Tryz.func70 ?_
    repeat' (first | (first | refine sk ?_ | (refine gL ?_; first | refine wl_v rfl rfl rfl (by first | (exact oc 81 Tryz.call81 (h := fun hcg w hw => hp hw.laid))) ?_) | fail) | (refine wc_cond rfl (fun hc => ?_) (fun hc => ?_) <;> (try (simp only [bls] at hc)) <;> (try (exfalso; first | omega | contradiction))))
    exact wr_tmp rfl rfl rfl
theorem trim_ok (hM : Laid M w) (s : List UInt8) : Calls Tryz.prog 53 #[str s, str sCas] w (RetE w (str (trimC s))) := by
  refine fn2 hM Tryz.func53 ?_
  repeat' (first | refine sk ?_ | (refine gL ?_; first | refine wl_v rfl rfl rfl (by first | (exact oc 70 Tryz.call70 (h := fun hcg w hw => ltrim_ok hw.laid s))) ?_) | fail)
  exact wr_tmp rfl rfl rfl
theorem failedT_no {n : Nd} {name : List UInt8} (h : ¬ ((findN n [name]).isSome = true ∧ (atN (foundN n [name])).length = 1)) : failedT n name = ([], 0, false) := by unfold failedT; rw [if_neg h]
theorem failedT_yes {n : Nd} {name : List UInt8} (h : (findN n [name]).isSome = true ∧ (atN (foundN n [name])).length = 1) : failedT n name = (((atN (foundN n [name])).getD 0 default).2, (knownT ((atN (foundN n [name])).getD 0 default).2).1, (knownT ((atN (foundN n [name])).getD 0 default).2).2) := by unfold failedT; rw [if_pos h]; rfl
set_option maxHeartbeats 1000000 in
theorem failed_ok (hM : Laid M w) {D : Nat} {x : Nd} {un a1 l1 c1 ut a2 l2 c2} (hx : NodeC M (D + 1) x [str un, .slice a1 l1 c1, str ut, .slice a2 l2 c2]) (name : List UInt8) : Calls Tryz.prog 49 #[.agg [str un, .slice a1 l1 c1, str ut, .slice a2 l2 c2].toArray, str name] w (RetE w (.tuple #[str (failedT x name).1, i64 (failedT x name).2.1, .bool (failedT x name).2.2])) := by
  refine fn2 hM Tryz.func49 ?_
  repeat' (first | refine sk ?_ | (refine gL ?_; first | refine xl_alloc (fun _ => ?_) | refine xl_box rfl (fun _ => ?_) | refine xl_store rfl rfl ?_ | refine xl_buildSlice rfl (fun _ => ?_)) | fail)
  rename_i b2 bp
  refine wl_publish (H1 := [(bp, .cells [str name].toArray 9 (0, 0))]) (fun hn => ?_)
  have hp : SlS (With M [(bp, .cells [str name].toArray 9 (0, 0))]) (.slice (some ⟨bp, 0, none⟩) 1 1) [name] := slS_blk (l := [name]) (.inr (List.Mem.head _)) (by simp)
  refine wl_callS rfl Tryz.call52 rfl rfl rfl rfl (fun w hw => find_ok hw.laid (NodeC.mono (fun _ _ => .inl) hx) hp) ?_
  rintro _ H1 M1 hm1 hn1 ⟨rfl, n, y1, m1, d1, t, y2, m2, d2, rfl, hy⟩
  have hat := node_at hy
  obtain ⟨a, cap, b, o, cs, T, fz, e, g1, g2, g3, g4⟩ := hat.open
  cases e
  repeat' (first | refine sk ?_ | (refine gL ?_; first | refine xl_alloc (fun _ => ?_) | refine xl_box rfl (fun _ => ?_) | refine xl_store rfl rfl ?_ | refine xl_buildSlice rfl (fun _ => ?_)) | fail)
  refine wc_cond rfl (fun hc => ?_) (fun hc => ?_)
  · rw [failedT_no (by
      rintro ⟨h1, h2⟩
      rw [h1, h2] at hc
      simp at hc)]
    repeat' (first | refine sk ?_ | (refine gL ?_; first | refine xl_alloc (fun _ => ?_) | refine xl_box rfl (fun _ => ?_) | refine xl_store rfl rfl ?_ | refine xl_buildSlice rfl (fun _ => ?_)) | fail)
    exact wr_weak (fun _ h => h.drop (List.nil_sublist _)) (wr_tmp3 rfl rfl rfl rfl rfl rfl rfl)
  · have hyes : (findN x [name]).isSome = true ∧ (atN (foundN x [name])).length = 1 := by
      simp at hc
      exact ⟨by simpa using hc.1, by omega⟩
    rw [failedT_yes hyes]
    obtain ⟨rfl, hMb⟩ := g3 (by intro e; rw [e] at hyes; simp at hyes)
    have gi := g4 0 (by omega)
    have h1l := hyes.2
    generalize (atN (foundN x [name])).getD 0 default = p at *
    repeat' (first | refine sk ?_ | (refine gL ?_; first | refine wl_v rfl rfl rfl (by first | (show OpV _ _ _ _ (Oper.mk _ (Op.indexAddr _ _ _) _ _ _ _) _ _; exact ov_indexAddr (i := 0) (b := b) (o := o) rfl rfl rfl pI pI rfl pZ (fun _ => rfl) (fun _ => by omega)) | (show OpV _ _ _ _ (Oper.mk _ (Op.load _ _) _ _ _ _) _ _; exact ov_load1M rfl pI rfl rfl (fun _ => hMb) (fun _ => gi.2)) | (exact oc 66 Tryz.call66 (h := fun hcg w hw => known_ok hw.laid _))) ?_ | refine xl_alloc (fun _ => ?_) | refine xl_box rfl (fun _ => ?_) | refine xl_store rfl rfl ?_ | refine xl_buildSlice rfl (fun _ => ?_)) | fail)
    exact wr_weak (fun _ h => h.drop (List.nil_sublist _)) (wr_tmp3 rfl rfl rfl rfl rfl rfl rfl)
end Go.Proofs.YtgfbieplidpebaaGreatDoor
/-
  ReadAnswer.
-/
namespace Go.Eng
set_option linter.unusedSimpArgs false
set_option linter.unusedVariables false
section
variable {P : Program} {n : Nat} {E : Env}
variable {dst : Option Tmp} {ty : TypeId} {pos : String} {af : Array Edge}
variable {w0 : World} {bs : List Nat} {H : List (Nat × Obj)} {M : Ghost}
theorem or_alloc {T : TypeId} {z : Value} {l : List Value} (hz : ∀ w, (zeroValue T).run P w = .ok z w) (hl : z.cells.toList = l) :
    OpR P n E (St w0 bs H M) (fun _ => True) ⟨dst, .alloc T, ty, pos, af, none⟩ (FreshC w0 bs H M (.cells l.toArray T (0, 0))) := ⟨fun a ha w hw _ => by
  subst hl
  have hr : (execOp a.eval ⟨dst, .alloc T, ty, pos, af, none⟩).run P w = .ok (.value (.pointer (some ⟨w.heap.size, 0, none⟩))) { w with heap := w.heap.push (.cells z.cells T (0, 0)) } := by
    simp [execOp, Instr.alloc, hz, newVar, run_newRow]
  unfold Tells
  rw [hr]
  have h2 := hw.alloc (.cells z.cells T (0, 0))
  exact ⟨⟨_, rfl, h2⟩, ⟨rfl, rfl, rfl, by simp, fun b hb _ => by simp only [Array.getElem?_push]; rw [if_neg (by omega)]⟩, h2.drop (List.sublist_cons_self _ _)⟩⟩
end
end Go.Eng
namespace Go.Cas
open Go.Pct Go.Xml Go.Proofs.YtgfbieplidpebaaGreatDoor
set_option linter.unusedSimpArgs false
/-! ### what is read is no longer than the text -/
theorem esc_ge (s : List UInt8) : s.length ≤ (esc s).length := by
  have key : ∀ c, 1 ≤ (esc1 c).length := by apply all_bytes; decide +kernel
  unfold esc
  induction s with
  | nil => simp
  | cons c s ih => rw [List.flatMap_cons, List.length_append, List.length_cons]; have := key c; omega
theorem textN_ge (x : Nd) : (nmN x).length ≤ (textN x).length ∧ (txN x).length ≤ (textN x).length ∧ (textL (kdN x)).length ≤ (textN x).length ∧ (∀ p ∈ atN x, p.2.length ≤ (textN x).length) := by
  cases x with
  | mk n a t k =>
    have := esc_ge t
    simp only [nmN, txN, kdN, atN, textN, List.length_append, List.length_cons, List.length_nil]
    refine ⟨by omega, by omega, by omega, fun p hp => ?_⟩
    have h1 : p.2.length ≤ (attrT a).length := by
      unfold attrT
      induction a with
      | nil => cases hp
      | cons q a ih =>
        rw [List.flatMap_cons, List.length_append]
        rcases List.mem_cons.1 hp with rfl | hp
        · have := esc_ge p.2
          simp only [List.length_append, List.length_cons, List.length_nil]
          omega
        · have := ih hp
          omega
    omega
theorem textL_mem : ∀ {l : List Nd} {x : Nd}, x ∈ l → (textN x).length ≤ (textL l).length
  | y :: l, x, h => by
    rw [textL, List.length_append]
    rcases List.mem_cons.1 h with rfl | h
    · omega
    · have := textL_mem h; omega
theorem find_len : ∀ {path : List (List UInt8)} {x y : Nd}, findN x path = some y → (textN y).length ≤ (textN x).length
  | [], x, y, h => by simp only [findN, Option.some.injEq] at h; subst h; exact Nat.le_refl _
  | p :: l, x, y, h => by
    rw [findN] at h
    split at h
    · rename_i z e
      have h1 := find_len h
      have h2 := textL_mem (List.mem_of_find?_eq_some e)
      have h3 := (textN_ge x).2.2.1
      omega
    · cases h
theorem nodeZ_len : (textN nodeZ).length = 5 := rfl
theorem found_len (x : Nd) (path : List (List UInt8)) : (textN (foundN x path)).length ≤ (textN x).length + 5 := by
  unfold foundN
  cases h : findN x path with
  | none => show (textN nodeZ).length ≤ _; rw [nodeZ_len]; omega
  | some y => have := find_len h; show (textN y).length ≤ _; omega
theorem rd_len (r : Rs) : (textN (rd r)).length ≤ r.body.length + 5 := by
  unfold rd
  cases h : readP r.body with
  | none => show (textN nodeZ).length ≤ _; rw [nodeZ_len]; omega
  | some y => show (textN y).length ≤ _; rw [(readP_text h).1]; omega
theorem trimC_len (s : List UInt8) : (trimC s).length ≤ s.length := by
  unfold trimC; split
  · rw [List.length_drop]; omega
  · exact Nat.le_refl _
theorem suc_sm (x : Nd) : SmS (sucOf x) ((textN x).length + 5) ((textN x).length + 5) := by
  have h1 := found_len x [sSuc, sUser]
  have h2 := found_len x [sSuc, sAttrs]
  have h3 := found_len x [sSuc, sProxies]
  have h4 := found_len x [sSuc, sIou]
  have g1 := textN_ge (foundN x [sSuc, sUser])
  have g2 := textN_ge (foundN x [sSuc, sAttrs])
  have g3 := textN_ge (foundN x [sSuc, sProxies])
  have g4 := textN_ge (foundN x [sSuc, sIou])
  have l2 := textL_length (kdN (foundN x [sSuc, sAttrs]))
  have l3 := textL_length (kdN (foundN x [sSuc, sProxies]))
  refine ⟨?_, ?_, ?_, ?_, ?_, ?_⟩
  · show (txN (foundN x [sSuc, sUser])).length ≤ _; omega
  · show (txN (foundN x [sSuc, sIou])).length ≤ _; omega
  · show (List.map _ _).length ≤ _; rw [List.length_map]; omega
  · show (List.map _ _).length ≤ _; rw [List.length_map]; omega
  · intro p hp
    obtain ⟨k, hk, rfl⟩ := List.mem_map.1 hp
    have e1 := textL_mem hk
    have e2 := textN_ge k
    have e3 := trimC_len (nmN k)
    exact ⟨by show (trimC (nmN k)).length ≤ _; omega, by show (txN k).length ≤ _; omega⟩
  · intro p hp
    obtain ⟨k, hk, rfl⟩ := List.mem_map.1 hp
    have e1 := textL_mem hk
    have e2 := textN_ge k
    omega
end Go.Cas
namespace Go.Proofs.YtgfbieplidpebaaGreatDoor
open Go.Eng Go.Pct Go.Xml Go.Cas
set_option maxRecDepth 10000
set_option linter.unusedSimpArgs false
set_option linter.unusedVariables false

variable {M : Ghost} {w0 w : World} {bs : List Nat} {H : List (Nat × Obj)}
/-- a success in memory -/
def SucC (M' : Ghost) (s : Suc) (v : Value) : Prop := ∃ a l c a' l' c', v = .agg [str s.user, .slice a l c, .slice a' l' c', str s.iou].toArray ∧ SlP M' (.slice a l c) s.attrs ∧ SlS M' (.slice a' l' c') s.proxies
theorem read_open {bd : List UInt8} {M' : Ghost} {v : Value} (h : ReadN bd M' v) : ∃ n a1 l1 c1 t a2 l2 c2 e, v = .tuple #[.agg [str n, .slice a1 l1 c1, str t, .slice a2 l2 c2].toArray, i64 e] ∧ NodeC M' 8 ((readP bd).getD nodeZ) [str n, .slice a1 l1 c1, str t, .slice a2 l2 c2] ∧ e = (if (readP bd).isSome then 0 else 10) := by
  obtain ⟨vs, rfl, hn⟩ := h
  obtain ⟨un, ua1, ul1, uc1, ut, ua2, ul2, uc2, rfl⟩ := node_open hn
  exact ⟨_, _, _, _, _, _, _, _, _, rfl, hn, rfl⟩
/-- a later world -/
structure GQ (w : World) (M M1 : Ghost) where
  M' : Ghost
  si : Since w M M'
  sub : ∀ b o, M1 b o → M' b o
/-- a list of pairs, of texts, as far as a loop has come -/
structure PQ (l : List Go.Pct.Pr) where
  i : Nat
  v : Value
  Hs : List (Nat × Obj)
  hi : i ≤ l.length
  own : OwnS 50 2 v Hs (cellsP (l.take i))
structure TQ (l : List (List UInt8)) where
  i : Nat
  v : Value
  Hs : List (Nat × Obj)
  hi : i ≤ l.length
  own : OwnS 9 1 v Hs (cellsS (l.take i))
theorem cellsP_next {l : List Go.Pct.Pr} {i : Nat} {p : Go.Pct.Pr} (h : i < l.length) (hp : l[i] = p) : cellsP (l.take (i + 1)) = cellsP (l.take i) ++ [str p.1, str p.2] := by
  rw [List.take_succ_eq_append_getElem h, hp]; simp [cellsP]
theorem cellsS_next {l : List (List UInt8)} {i : Nat} {p : List UInt8} (h : i < l.length) (hp : l[i] = p) : cellsS (l.take (i + 1)) = cellsS (l.take i) ++ [str p] := by
  rw [List.take_succ_eq_append_getElem h, hp]; simp [cellsS]
set_option maxHeartbeats 2000000 in
theorem ReadAnswer_ok (hG : Glob M) (hM : Laid M w) {r : Rs} {st : Int} {a l c bd} (hr : RsC M r st a l c bd) (hbd : bd.length ≤ 90000) : Calls Tryz.prog 22 #[.agg [i64 st, .slice a l c, str bd].toArray] w (RetS M w (fun M' H v => H = [] ∧ ∃ sv, v = .tuple #[sv, str (readAnswerP r).2.1, .bool (readAnswerP r).2.2] ∧ SucC M' (readAnswerP r).1 sv)) := by
  have hbody : r.body = bd := hr.2.1
  refine fn1 hM Tryz.func22 ?_
  repeat' (first | refine sk ?_ | (refine gL ?_; first | refine xl_alloc (fun _ => ?_) | refine xl_box rfl (fun _ => ?_) | refine xl_store rfl rfl ?_ | refine xl_buildSlice rfl (fun _ => ?_)) | fail)
  refine wl_callS rfl Tryz.call48 rfl rfl rfl rfl (fun w hw => xread_ok hG hw.laid bd (by omega)) ?_
  rintro _ H1 M1 hm1 hn1 ⟨rfl, hR⟩
  obtain ⟨n1, p1, q1, r1, t1, p1', q1', r1', e1, rfl, hx, he1⟩ := read_open hR
  have hrd : (readP bd).getD nodeZ = rd r := by unfold rd; rw [hbody]
  rw [hrd] at hx
  clear hR he1
  have hsm0 := suc_sm (rd r)
  have hrl := rd_len r
  rw [hbody] at hrl
  have hsm := hsm0.mono (N' := 100000) (K' := 100000) (by omega) (by omega)
  have hG1 := hG.mono hm1
  have hr1 : RsC M1 r st a l c bd := ⟨hr.1, hr.2.1, Sl.mono hr.2.2 hm1 (fun _ _ _ h => h)⟩
  have hsi1 : Since w M M1 := Since.refl.step hm1 hn1
  have hfa := fun {w : World} (hw : Laid M1 w) => failed_ok hw hx sAF
  clear hm1 hn1 hG hr hsm0
  repeat' (first | refine sk ?_ | (refine gL ?_; first | refine wl_v rfl rfl rfl (by first | (exact oc 49 Tryz.call49 (h := fun hcg w hw => hfa hw.laid))) ?_ | refine xl_alloc (fun _ => ?_) | refine xl_box rfl (fun _ => ?_) | refine xl_store rfl rfl ?_ | refine xl_buildSlice rfl (fun _ => ?_)) | fail)
  rename_i b1 b2 b5
  have hrp : readAnswerP r = if ((failedT (rd r) sAF).2.2 && sameR r (rsp sXml (answerN suc0 (failedT (rd r) sAF).2.1 true))) = true then (suc0, (failedT (rd r) sAF).1, true) else if sameR r (rsp sXml (answerN (sucOf (rd r)) 0 true)) = true then (sucOf (rd r), [], true) else (suc0, [], false) := by
    unfold readAnswerP
    simp only [Bool.and_eq_true]
  rw [hrp]
  clear hrp hfa
  generalize failedT (rd r) sAF = f at *
  obtain ⟨code, e, ok⟩ := f
  dsimp only
  have hz : ∀ {w : World}, Laid M1 w → Calls Tryz.prog 9 #[.agg [str [], .slice none 0 0, .slice none 0 0, str []].toArray, i64 e, .bool true] w (RetS M1 w (fun M' H v => H = [] ∧ RspK M' sXml (wr (answerN suc0 e true)) v)) := fun hw => Answer_ok hG1 hw suc0 e sl_nil sl_nil (sm_zero _ _) true
  refine wc_split (α := GQ w M M1) (fun x => [(1, true, .pointer (some ⟨b1, 0, none⟩)), (2, true, .pointer (some ⟨b2, 0, none⟩)), (5, true, .pointer (some ⟨b5, 0, none⟩)), (7, true, str code), (38, true, .bool (ok && sameR r (rsp sXml (answerN suc0 e true))))]) (fun x => St w [] [(b5, .cells [str n1, .slice p1 q1 r1, str t1, .slice p1' q1' r1'].toArray tNd (0, 0)), (b2, .cells [str [], .slice none 0 0, .slice none 0 0, str []].toArray 25 (0, 0)), (b1, .cells [i64 st, .slice a l c, str bd].toArray 31 (0, 0))] x.M') ?_ ?_
  · cases ok with
    | false =>
      refine wc_draw 6 (by kernel_rfl) rfl (by kernel_rfl) (fun _ _ h k => h.ext k) ?_
      repeat' (first | (refine gD ?_; first | refine yd_v rfl rfl rfl rfl rfl rfl ?_ | refine wd_v rfl rfl rfl rfl rfl rfl (by first | (show OpV _ _ _ _ (Oper.mk _ (Op.call _) _ _ _ _) _ _; exact ov_off (v := .bool false) rfl)) ?_ | refine yd_new rfl rfl rfl rfl rfl rfl ?_ | refine wd_conv rfl rfl rfl rfl rfl rfl rfl rfl rfl rfl ?_) | (refine gE ?_; first | refine wd_nil ?_ | refine wd_nilF ?_) | (first | refine sk ?_ | (refine gL ?_; first | refine wl_v rfl rfl rfl (by first | (show OpV _ _ _ _ (Oper.mk _ (Op.call _) _ _ _ _) _ _; exact ov_off (v := .bool false) rfl)) ?_ | refine xl_alloc (fun _ => ?_) | refine xl_box rfl (fun _ => ?_) | refine xl_store rfl rfl ?_ | refine xl_buildSlice rfl (fun _ => ?_)) | fail))
      exact wn_cut ⟨M1, hsi1, fun _ _ h => h⟩ trivial pE (fun _ h => h)
    | true =>
      refine wc_draw 6 (by kernel_rfl) rfl (by kernel_rfl) (fun _ _ h k => h.ext k) ?_
      repeat' (first | (refine gD ?_; first | refine yd_v rfl rfl rfl rfl rfl rfl ?_ | refine yd_new rfl rfl rfl rfl rfl rfl ?_ | refine wd_conv rfl rfl rfl rfl rfl rfl rfl rfl rfl rfl ?_) | (refine gE ?_; first | refine wd_nil ?_ | refine wd_nilF ?_) | (first | refine sk ?_ | (refine gL ?_; first | refine xl_alloc (fun _ => ?_) | refine xl_box rfl (fun _ => ?_) | refine xl_store rfl rfl ?_ | refine xl_buildSlice rfl (fun _ => ?_)) | fail))
      refine wd_newG rfl (by rfl) rfl rfl rfl rfl rfl steady_got (or_callS (args := #[.agg [str [], .slice none 0 0, .slice none 0 0, str []].toArray, i64 e, .bool true]) Tryz.call9 rfl rfl rfl (fun _ _ _ h => h.1) (fun w hw => hz hw.laid)) ?_
      refine wd_nil1 (wl_got fun v M2 k1 k2 hR2 => ?_)
      obtain ⟨_, a2, l2, c2, rfl, hS2⟩ := hR2
      have hsa := fun {w : World} (hw : Laid M2 w) => same_ok hw (r := r) (q := rsp sXml (answerN suc0 e true)) (st' := 200) (bd' := wr (answerN suc0 e true)) ⟨hr1.1, hr1.2.1, Sl.mono hr1.2.2 k1 (fun _ _ _ h => h)⟩ ⟨rfl, rfl, hS2⟩
      repeat' (first | refine sk ?_ | (refine gL ?_; first | refine wl_v rfl rfl rfl (by first | (exact oc 50 Tryz.call50 (h := fun hcg w hw => hsa hw.laid))) ?_ | refine xl_alloc (fun _ => ?_) | refine xl_box rfl (fun _ => ?_) | refine xl_store rfl rfl ?_ | refine xl_buildSlice rfl (fun _ => ?_)) | fail)
      exact wn_cut ⟨M2, hsi1.step k1 k2, k1⟩ trivial pE (fun _ h => h)
  rintro ⟨M2, si2, sub2⟩
  dsimp only
  generalize hgb : (ok && sameR r (rsp sXml (answerN suc0 e true))) = gb
  clear hgb hz
  have hx2 := NodeC.mono sub2 hx
  have hr2 : RsC M2 r st a l c bd := ⟨hr1.1, hr1.2.1, Sl.mono hr1.2.2 sub2 (fun _ _ _ h => h)⟩
  have hG2 := hG1.mono sub2
  clear hx hr1 hsi1 hG1 sub2
  refine wc_cond rfl (fun hc => ?_) (fun hc => ?_)
  · obtain rfl : gb = true := hc
    rw [if_pos rfl]
    repeat' (first | refine sk ?_ | (refine gL ?_; first | refine xl_alloc (fun _ => ?_) | refine xl_box rfl (fun _ => ?_) | refine xl_store rfl rfl ?_ | refine xl_buildSlice rfl (fun _ => ?_)) | fail)
    exact wr_layC3 (Hn := []) rfl rfl rfl rfl rfl rfl si2 (List.nil_sublist _) ⟨rfl, _, rfl, _, _, _, _, _, _, rfl, sl_nil, sl_nil⟩ pM
  obtain rfl : gb = false := hc
  rw [if_neg (by decide)]
  repeat' (first | refine sk ?_ | (refine gL ?_; first | refine xl_alloc (fun _ => ?_) | refine xl_box rfl (fun _ => ?_) | refine xl_store rfl rfl ?_ | refine xl_buildSlice rfl (fun _ => ?_)) | fail)
  refine wc_weak (E' := [(1, true, .pointer (some ⟨b1, 0, none⟩)), (2, true, .pointer (some ⟨b2, 0, none⟩)), (5, true, .pointer (some ⟨b5, 0, none⟩))]) pE (fun _ h => h) ?_
  have hun1 := fun (b : Nat) (w' : World) (H : List (Nat × Obj)) (hw : St w [] ((b, .cells (cellsS [sSuc, sUser]).toArray 9 (0, 0)) :: H) M2 w') => under_ok hw.with (NodeC.mono (fun _ _ => .inl) hx2) (slS_blk (l := [sSuc, sUser]) (.inr (List.Mem.head _)) (by simp))
  have hun2 := fun (b : Nat) (w' : World) (H : List (Nat × Obj)) (hw : St w [] ((b, .cells (cellsS [sSuc, sIou]).toArray 9 (0, 0)) :: H) M2 w') => under_ok hw.with (NodeC.mono (fun _ _ => .inl) hx2) (slS_blk (l := [sSuc, sIou]) (.inr (List.Mem.head _)) (by simp))
  refine wc_draw 8 (by kernel_rfl) rfl (by kernel_rfl) (fun _ _ h k => h.ext k) ?_
  repeat' (first | (refine gD ?_; first | refine yd_v rfl rfl rfl rfl rfl rfl ?_ | refine yd_new rfl rfl rfl rfl rfl rfl ?_ | refine wd_conv rfl rfl rfl rfl rfl rfl rfl rfl rfl rfl ?_) | (refine gE ?_; first | refine wd_nil ?_ | refine wd_nilF ?_) | (first | refine sk ?_ | (refine gL ?_; first | refine xl_alloc (fun _ => ?_) | refine xl_box rfl (fun _ => ?_) | refine xl_store rfl rfl ?_ | refine xl_buildSlice rfl (fun _ => ?_)) | fail))
  refine wd_rel (s := 42) rfl rfl rfl rfl rfl rfl rfl rfl (fun u => or_callN (args := fun u => #[.agg [str n1, .slice p1 q1 r1, str t1, .slice p1' q1' r1'].toArray, u]) Tryz.call51 (fun _ => rfl) (fun _ => rfl) (fun _ => rfl) (fun b w' hw' => hun1 b w' _ hw') u) (looks_of rfl) ?_
  repeat' (first | (refine gD ?_; first | refine yd_v rfl rfl rfl rfl rfl rfl ?_ | refine yd_new rfl rfl rfl rfl rfl rfl ?_ | refine wd_conv rfl rfl rfl rfl rfl rfl rfl rfl rfl rfl ?_) | (refine gE ?_; first | refine wd_nil ?_ | refine wd_nilF ?_) | (first | refine sk ?_ | (refine gL ?_; first | refine xl_alloc (fun _ => ?_) | refine xl_box rfl (fun _ => ?_) | refine xl_store rfl rfl ?_ | refine xl_buildSlice rfl (fun _ => ?_)) | fail))
  refine wd_rel (s := 45) rfl rfl rfl rfl rfl rfl rfl rfl (fun u => or_callN (args := fun u => #[.agg [str n1, .slice p1 q1 r1, str t1, .slice p1' q1' r1'].toArray, u]) Tryz.call51 (fun _ => rfl) (fun _ => rfl) (fun _ => rfl) (fun b w' hw' => hun2 b w' _ hw') u) (looks_of rfl) ?_
  repeat' (first | (refine gD ?_; first | refine yd_v rfl rfl rfl rfl rfl rfl ?_ | refine yd_new rfl rfl rfl rfl rfl rfl ?_ | refine wd_conv rfl rfl rfl rfl rfl rfl rfl rfl rfl rfl ?_) | (refine gE ?_; first | refine wd_nil ?_ | refine wd_nilF ?_) | (first | refine sk ?_ | (refine gL ?_; first | refine xl_alloc (fun _ => ?_) | refine xl_box rfl (fun _ => ?_) | refine xl_store rfl rfl ?_ | refine xl_buildSlice rfl (fun _ => ?_)) | fail))
  refine wd_new rfl rfl rfl rfl rfl rfl steady_freshC (or_alloc (fun _ => rfl) rfl) ?_
  refine wd_nilK (d := 10) rfl (wl_freshC (fun b10 => ?_))
  have hsu : txN (foundN (rd r) [sSuc, sUser]) = (sucOf (rd r)).user := rfl
  have hsi' : txN (foundN (rd r) [sSuc, sIou]) = (sucOf (rd r)).iou := rfl
  rw [hsu, hsi']
  generalize hgu : (sucOf (rd r)).user = su at *
  generalize hgi : (sucOf (rd r)).iou = si at *
  clear hun1 hun2 hsu hsi'
  repeat' (first | refine sk ?_ | (refine gL ?_; first | refine xl_alloc (fun _ => ?_) | refine xl_box rfl (fun _ => ?_) | refine xl_store rfl rfl ?_ | refine xl_buildSlice rfl (fun _ => ?_)) | fail)
  rename_i bq
  refine wl_publish (H1 := [(bq, .cells (cellsS [sSuc, sAttrs]).toArray 9 (0, 0))]) (fun hn => ?_)
  have hp : SlS (With M2 [(bq, .cells (cellsS [sSuc, sAttrs]).toArray 9 (0, 0))]) (.slice (some ⟨bq, 0, none⟩) 2 2) [sSuc, sAttrs] := slS_blk (l := [sSuc, sAttrs]) (.inr (List.Mem.head _)) (by simp)
  have si3 := since_new si2 hn
  refine wl_callS rfl Tryz.call52 rfl rfl rfl rfl (fun w hw => find_ok hw.laid (NodeC.mono (fun _ _ => .inl) hx2) hp) ?_
  rintro _ H4 M4 hm4 hn4 ⟨rfl, n4, y1, m1, d1, t4, y2, m2, d2, rfl, hy⟩
  have si4 := si3.step hm4 hn4
  have sub4 : ∀ b o, M2 b o → M4 b o := fun b o h => hm4 b o (.inl h)
  have hA : (sucOf (rd r)).attrs = (kdN (foundN (rd r) [sSuc, sAttrs])).map (fun k => (trimC (nmN k), txN k)) := rfl
  have hkd := node_kd hy
  generalize kdN (foundN (rd r) [sSuc, sAttrs]) = ks at *
  generalize hAg : (sucOf (rd r)).attrs = A at *
  have hAl : A.length = ks.length := by rw [hA, List.length_map]
  have hAn : A.length ≤ 100000 := by rw [← hAg]; exact hsm.nattrs
  obtain ⟨a4, cap4, b4, o4, cs4, T4, fz4, e4, k1, k2, k3, k4⟩ := Sl.open hkd
  cases e4
  clear hkd hy si3 hn hp hm4 hn4
  repeat' (first | refine sk ?_ | (refine gL ?_; first | refine xl_alloc (fun _ => ?_) | refine xl_box rfl (fun _ => ?_) | refine xl_store rfl rfl ?_ | refine xl_buildSlice rfl (fun _ => ?_)) | fail)
  refine wc_loop (α := PQ A) (fun x => [(1, true, .pointer (some ⟨b1, 0, none⟩)), (2, true, .pointer (some ⟨b2, 0, none⟩)), (5, true, .pointer (some ⟨b5, 0, none⟩)), (10, true, .pointer (some ⟨b10, 0, none⟩)), (55, true, .slice y2 ks.length d2), (56, true, i64 (ks.length : Int)), (57, true, i64 (x.i : Int))]) (fun x => St w [] (x.Hs ++ [(b10, .cells [str su, x.v, .slice none 0 0, str si].toArray 25 (0, 0)), (b5, .cells [str n1, .slice p1 q1 r1, str t1, .slice p1' q1' r1'].toArray tNd (0, 0)), (b2, .cells [str [], .slice none 0 0, .slice none 0 0, str []].toArray 25 (0, 0)), (b1, .cells [i64 st, .slice a l c, str bd].toArray 31 (0, 0))]) M4) (fun x => ks.length - x.i) ⟨0, .slice none 0 0, [], Nat.zero_le _, OwnS.nil⟩ pE (fun _ h => h.drop (List.sublist_cons_self _ _)) ?_
  rintro ⟨i, v, Hs, hi, own⟩
  dsimp only
  rw [hAl] at hi
  have hcl : (cellsP (A.take i)).length = i * 2 := by rw [cellsP_length, List.length_take]; omega
  obtain ⟨va, vcap, rfl⟩ := own.slice (k := i) (by decide) hcl
  rcases Nat.lt_or_ge i ks.length with hlt | hge
  · have hne : ks ≠ [] := by intro e; rw [e] at hlt; simp at hlt
    obtain ⟨rfl, hMb⟩ := k3 hne
    obtain ⟨us, hu4, hus, hcells⟩ := k4 i hlt
    obtain ⟨un, ua1, ul1, uc1, ut, ua2, ul2, uc2, rfl⟩ := node_open hus
    have hAi : A[i]'(by omega) = (trimC un, ut) := by
      simp only [hA, List.getElem_map]
      rw [node_nm hus, node_tx hus]
    have hnx := cellsP_next (by omega) hAi
    clear hAi
    repeat' (first | refine sk ?_ | (refine gL ?_; first | refine xl_alloc (fun _ => ?_) | refine xl_box rfl (fun _ => ?_) | refine xl_store rfl rfl ?_ | refine xl_buildSlice rfl (fun _ => ?_)) | fail)
    refine wc_cond rfl (fun hc => ?_) (fun hc => by exfalso; simp at hc; omega)
    repeat' (first | refine sk ?_ | (refine gL ?_; first | refine wl_v rfl rfl rfl (by first | (show OpV _ _ _ _ (Oper.mk _ (Op.indexAddr _ _ _) _ _ _ _) _ _; exact ov_indexAddr (i := i) (b := b4) (o := o4) rfl rfl rfl pI pI rfl pZ (fun _ => rfl) pS) | (show OpV _ _ _ _ (Oper.mk _ (Op.load _ _) _ _ _ _) _ _; exact ov_loadSM (l := [str un, .slice ua1 ul1 uc1, str ut, .slice ua2 ul2 uc2]) rfl pI rfl pZ (fun _ => hMb) (fun _ j hj => hcells j hj))) ?_ | refine xl_alloc (fun _ => ?_) | refine xl_box rfl (fun _ => ?_) | refine xl_store rfl rfl ?_ | refine xl_buildSlice rfl (fun _ => ?_)) | fail)
    refine wc_draw 9 (by kernel_rfl) rfl (by kernel_rfl) (fun _ _ h k => h.ext k) ?_
    repeat' (first | (refine gD ?_; first | refine yd_v rfl rfl rfl rfl rfl rfl ?_ | refine wd_v rfl rfl rfl rfl rfl rfl (by first | (exact oc 53 Tryz.call53 (h := fun hcg w hw => trim_ok hw.laid _))) ?_ | refine yd_new rfl rfl rfl rfl rfl rfl ?_ | refine wd_conv rfl rfl rfl rfl rfl rfl rfl rfl rfl rfl ?_) | (refine gE ?_; first | refine wd_nil ?_ | refine wd_nil1 (wl_fresh (fun _ => ?_))) | (first | refine sk ?_ | (refine gL ?_; first | refine wl_v rfl rfl rfl (by first | (exact oc 53 Tryz.call53 (h := fun hcg w hw => trim_ok hw.laid _))) ?_ | refine xl_alloc (fun _ => ?_) | refine xl_box rfl (fun _ => ?_) | refine xl_store rfl rfl ?_ | refine xl_buildSlice rfl (fun _ => ?_)) | fail))
    refine wl_append (H0 := [(b10, .cells [str su, .slice va i vcap, .slice none 0 0, str si].toArray 25 (0, 0)), (b5, .cells [str n1, .slice p1 q1 r1, str t1, .slice p1' q1' r1'].toArray tNd (0, 0)), (b2, .cells [str [], .slice none 0 0, .slice none 0 0, str []].toArray 25 (0, 0)), (b1, .cells [i64 st, .slice a l c, str bd].toArray 31 (0, 0))]) rfl own rfl rfl rfl rfl rfl rfl rfl rfl rfl rfl (List.Mem.head _) rfl rfl (List.Sublist.cons _ (List.sublist_cons_self _ _)) (by rw [hcl]; omega) rfl ?_
    intro v' Hs' ho'
    have ho2 : OwnS 50 2 v' Hs' (cellsP (A.take (i + 1))) := by rw [hnx]; exact ho'
    obtain ⟨va', vcap', rfl⟩ := ho2.slice (k := i + 1) (by decide) (by rw [cellsP_length, List.length_take]; omega)
    repeat' (first | refine sk ?_ | (refine gL ?_; first | refine xl_alloc (fun _ => ?_) | refine xl_box rfl (fun _ => ?_) | refine xl_store rfl rfl ?_ | refine xl_buildSlice rfl (fun _ => ?_)) | fail)
    exact wn_cut ⟨i + 1, _, Hs', by omega, ho2⟩ (by show ks.length - (i + 1) < ks.length - i; omega) pE (fun _ h => h)
  obtain rfl : i = ks.length := by omega
  repeat' (first | refine sk ?_ | (refine gL ?_; first | refine xl_alloc (fun _ => ?_) | refine xl_box rfl (fun _ => ?_) | refine xl_store rfl rfl ?_ | refine xl_buildSlice rfl (fun _ => ?_)) | fail)
  refine wc_cond rfl (fun hc => by exfalso; simp at hc) (fun hc => ?_)
  clear hc
  refine wc_weak (E' := [(1, true, .pointer (some ⟨b1, 0, none⟩)), (2, true, .pointer (some ⟨b2, 0, none⟩)), (5, true, .pointer (some ⟨b5, 0, none⟩)), (10, true, .pointer (some ⟨b10, 0, none⟩))]) pE (fun _ h => h) ?_
  rw [show A.take ks.length = A by rw [← hAl, List.take_length]] at own
  refine wc_publish (fun hn => ?_)
  have hSA : SlP (With M4 Hs) (.slice va ks.length vcap) A := own.slP (fun p hp => .inr hp) (by omega)
  have si5 := since_new si4 hn
  have sub5 : ∀ b o, M2 b o → With M4 Hs b o := fun b o h => .inl (sub4 b o h)
  clear own hn si4 sub4 hcl k1 k2 k3 k4
  generalize With M4 Hs = M5 at *
  repeat' (first | refine sk ?_ | (refine gL ?_; first | refine xl_alloc (fun _ => ?_) | refine xl_box rfl (fun _ => ?_) | refine xl_store rfl rfl ?_ | refine xl_buildSlice rfl (fun _ => ?_)) | fail)
  rename_i bq2
  refine wl_publish (H1 := [(bq2, .cells (cellsS [sSuc, sProxies]).toArray 9 (0, 0))]) (fun hn => ?_)
  have hp : SlS (With M5 [(bq2, .cells (cellsS [sSuc, sProxies]).toArray 9 (0, 0))]) (.slice (some ⟨bq2, 0, none⟩) 2 2) [sSuc, sProxies] := slS_blk (l := [sSuc, sProxies]) (.inr (List.Mem.head _)) (by simp)
  have si6 := since_new si5 hn
  refine wl_callS rfl Tryz.call52 rfl rfl rfl rfl (fun w hw => find_ok hw.laid (NodeC.mono (fun b o h => .inl (sub5 b o h)) hx2) hp) ?_
  rintro _ H7 M7 hm7 hn7 ⟨rfl, n7, y3, m3, d3, t7, y4, m4, d4, rfl, hy⟩
  have si7 := si6.step hm7 hn7
  have sub7 : ∀ b o, M2 b o → M7 b o := fun b o h => hm7 b o (.inl (sub5 b o h))
  have hSA7 : SlP M7 (.slice va ks.length vcap) A := Sl.mono hSA (fun b o h => hm7 b o (.inl h)) (fun _ _ _ h => h)
  have hB : (sucOf (rd r)).proxies = (kdN (foundN (rd r) [sSuc, sProxies])).map txN := rfl
  have hkd := node_kd hy
  generalize kdN (foundN (rd r) [sSuc, sProxies]) = qs at *
  generalize hBg : (sucOf (rd r)).proxies = B at *
  have hBl : B.length = qs.length := by rw [hB, List.length_map]
  have hBn : B.length ≤ 100000 := by rw [← hBg]; exact hsm.nprox
  obtain ⟨a7, cap7, b7, o7, cs7, T7, fz7, e7, k1, k2, k3, k4⟩ := Sl.open hkd
  cases e7
  clear hkd hy hn hp hm7 hn7 si5 si6 sub5 hSA
  repeat' (first | refine sk ?_ | (refine gL ?_; first | refine xl_alloc (fun _ => ?_) | refine xl_box rfl (fun _ => ?_) | refine xl_store rfl rfl ?_ | refine xl_buildSlice rfl (fun _ => ?_)) | fail)
  refine wc_loop (α := TQ B) (fun x => [(1, true, .pointer (some ⟨b1, 0, none⟩)), (2, true, .pointer (some ⟨b2, 0, none⟩)), (5, true, .pointer (some ⟨b5, 0, none⟩)), (10, true, .pointer (some ⟨b10, 0, none⟩)), (80, true, .slice y4 qs.length d4), (81, true, i64 (qs.length : Int)), (82, true, i64 (x.i : Int))]) (fun x => St w [] (x.Hs ++ [(b10, .cells [str su, .slice va ks.length vcap, x.v, str si].toArray 25 (0, 0)), (b5, .cells [str n1, .slice p1 q1 r1, str t1, .slice p1' q1' r1'].toArray tNd (0, 0)), (b2, .cells [str [], .slice none 0 0, .slice none 0 0, str []].toArray 25 (0, 0)), (b1, .cells [i64 st, .slice a l c, str bd].toArray 31 (0, 0))]) M7) (fun x => qs.length - x.i) ⟨0, .slice none 0 0, [], Nat.zero_le _, OwnS.nil⟩ pE (fun _ h => h.drop (List.sublist_cons_self _ _)) ?_
  rintro ⟨i, v, Hs, hi, own⟩
  dsimp only
  rw [hBl] at hi
  have hcl : (cellsS (B.take i)).length = i * 1 := by rw [cellsS_length, List.length_take]; omega
  obtain ⟨vb, vcap2, rfl⟩ := own.slice (k := i) (by decide) hcl
  rcases Nat.lt_or_ge i qs.length with hlt | hge
  · have hne : qs ≠ [] := by intro e; rw [e] at hlt; simp at hlt
    obtain ⟨rfl, hMb⟩ := k3 hne
    obtain ⟨us, hu4, hus, hcells⟩ := k4 i hlt
    obtain ⟨un, ua1, ul1, uc1, ut, ua2, ul2, uc2, rfl⟩ := node_open hus
    have hBi : B[i]'(by omega) = ut := by
      simp only [hB, List.getElem_map]
      rw [node_tx hus]
    have hnx := cellsS_next (by omega) hBi
    clear hBi
    repeat' (first | refine sk ?_ | (refine gL ?_; first | refine xl_alloc (fun _ => ?_) | refine xl_box rfl (fun _ => ?_) | refine xl_store rfl rfl ?_ | refine xl_buildSlice rfl (fun _ => ?_)) | fail)
    refine wc_cond rfl (fun hc => ?_) (fun hc => by exfalso; simp at hc; omega)
    repeat' (first | refine sk ?_ | (refine gL ?_; first | refine wl_v rfl rfl rfl (by first | (show OpV _ _ _ _ (Oper.mk _ (Op.indexAddr _ _ _) _ _ _ _) _ _; exact ov_indexAddr (i := i) (b := b7) (o := o7) rfl rfl rfl pI pI rfl pZ (fun _ => rfl) pS) | (show OpV _ _ _ _ (Oper.mk _ (Op.load _ _) _ _ _ _) _ _; exact ov_loadSM (l := [str un, .slice ua1 ul1 uc1, str ut, .slice ua2 ul2 uc2]) rfl pI rfl pZ (fun _ => hMb) (fun _ j hj => hcells j hj))) ?_ | refine xl_alloc (fun _ => ?_) | refine xl_box rfl (fun _ => ?_) | refine xl_store rfl rfl ?_ | refine xl_buildSlice rfl (fun _ => ?_)) | fail)
    refine wl_append (H0 := [(b10, .cells [str su, .slice va ks.length vcap, .slice vb i vcap2, str si].toArray 25 (0, 0)), (b5, .cells [str n1, .slice p1 q1 r1, str t1, .slice p1' q1' r1'].toArray tNd (0, 0)), (b2, .cells [str [], .slice none 0 0, .slice none 0 0, str []].toArray 25 (0, 0)), (b1, .cells [i64 st, .slice a l c, str bd].toArray 31 (0, 0))]) rfl own rfl rfl rfl rfl rfl rfl rfl rfl rfl rfl (List.Mem.head _) rfl rfl (List.Sublist.cons _ (List.sublist_cons_self _ _)) (by rw [hcl]; omega) rfl ?_
    intro v' Hs' ho'
    have ho2 : OwnS 9 1 v' Hs' (cellsS (B.take (i + 1))) := by rw [hnx]; exact ho'
    obtain ⟨vb', vcap', rfl⟩ := ho2.slice (k := i + 1) (by decide) (by rw [cellsS_length, List.length_take]; omega)
    repeat' (first | refine sk ?_ | (refine gL ?_; first | refine xl_alloc (fun _ => ?_) | refine xl_box rfl (fun _ => ?_) | refine xl_store rfl rfl ?_ | refine xl_buildSlice rfl (fun _ => ?_)) | fail)
    exact wn_cut ⟨i + 1, _, Hs', by omega, ho2⟩ (by show qs.length - (i + 1) < qs.length - i; omega) pE (fun _ h => h)
  obtain rfl : i = qs.length := by omega
  repeat' (first | refine sk ?_ | (refine gL ?_; first | refine xl_alloc (fun _ => ?_) | refine xl_box rfl (fun _ => ?_) | refine xl_store rfl rfl ?_ | refine xl_buildSlice rfl (fun _ => ?_)) | fail)
  refine wc_cond rfl (fun hc => by exfalso; simp at hc) (fun hc => ?_)
  clear hc
  refine wc_weak (E' := [(1, true, .pointer (some ⟨b1, 0, none⟩)), (2, true, .pointer (some ⟨b2, 0, none⟩)), (10, true, .pointer (some ⟨b10, 0, none⟩))]) pE (fun _ h => h) ?_
  rw [show B.take qs.length = B by rw [← hBl, List.take_length]] at own
  refine wc_publish (fun hn => ?_)
  have hSB : SlS (With M7 Hs) (.slice vb qs.length vcap2) B := own.slS (fun p hp => .inr hp) (by omega)
  have hSA8 : SlP (With M7 Hs) (.slice va ks.length vcap) A := Sl.mono hSA7 (fun b o h => .inl h) (fun _ _ _ h => h)
  have si8 := since_new si7 hn
  have sub8 : ∀ b o, M2 b o → With M7 Hs b o := fun b o h => .inl (sub7 b o h)
  clear own hn si7 sub7 hcl k1 k2 k3 k4 hSA7
  generalize With M7 Hs = M8 at *
  have hz : ∀ {w : World}, Laid M8 w → Calls Tryz.prog 9 #[.agg [str su, .slice va ks.length vcap, .slice vb qs.length vcap2, str si].toArray, i64 0, .bool true] w (RetS M8 w (fun M' H v => H = [] ∧ RspK M' sXml (wr (answerN (sucOf (rd r)) 0 true)) v)) := fun {w} hw => by
    have := Answer_ok (hG2.mono sub8) hw (sucOf (rd r)) 0 (va := .slice va ks.length vcap) (vp := .slice vb qs.length vcap2) (by rw [hAg]; exact hSA8) (by rw [hBg]; exact hSB) hsm true
    rw [hgu, hgi] at this
    exact this
  repeat' (first | refine sk ?_ | (refine gL ?_; first | refine xl_alloc (fun _ => ?_) | refine xl_box rfl (fun _ => ?_) | refine xl_store rfl rfl ?_ | refine xl_buildSlice rfl (fun _ => ?_)) | fail)
  refine wc_draw 3 (by kernel_rfl) rfl (by kernel_rfl) (fun _ _ h k => h.ext k) ?_
  repeat' (first | (refine gD ?_; first | refine yd_v rfl rfl rfl rfl rfl rfl ?_ | refine yd_new rfl rfl rfl rfl rfl rfl ?_ | refine wd_conv rfl rfl rfl rfl rfl rfl rfl rfl rfl rfl ?_) | (refine gE ?_; first | refine wd_nil ?_ | refine wd_nilF ?_) | (first | refine sk ?_ | (refine gL ?_; first | refine xl_alloc (fun _ => ?_) | refine xl_box rfl (fun _ => ?_) | refine xl_store rfl rfl ?_ | refine xl_buildSlice rfl (fun _ => ?_)) | fail))
  refine wd_newG rfl (by rfl) rfl rfl rfl rfl rfl steady_got (or_callS (args := #[.agg [str su, .slice va ks.length vcap, .slice vb qs.length vcap2, str si].toArray, i64 0, .bool true]) Tryz.call9 rfl rfl rfl (fun _ _ _ h => h.1) (fun w hw => hz hw.laid)) ?_
  refine wd_nil1 (wl_got fun v M9 j1 j2 hR9 => ?_)
  obtain ⟨_, a9, l9, c9, rfl, hS9⟩ := hR9
  have hsa := fun {w : World} (hw : Laid M9 w) => same_ok hw (r := r) (q := rsp sXml (answerN (sucOf (rd r)) 0 true)) (st' := 200) (bd' := wr (answerN (sucOf (rd r)) 0 true)) ⟨hr2.1, hr2.2.1, Sl.mono hr2.2.2 (fun b o h => j1 b o (sub8 b o h)) (fun _ _ _ h => h)⟩ ⟨rfl, rfl, hS9⟩
  repeat' (first | refine sk ?_ | (refine gL ?_; first | refine wl_v rfl rfl rfl (by first | (exact oc 50 Tryz.call50 (h := fun hcg w hw => hsa hw.laid))) ?_ | refine xl_alloc (fun _ => ?_) | refine xl_box rfl (fun _ => ?_) | refine xl_store rfl rfl ?_ | refine xl_buildSlice rfl (fun _ => ?_)) | fail)
  have si9 := si8.step j1 j2
  refine wc_cond rfl (fun hc => ?_) (fun hc => ?_)
  · have hno : ¬ sameR r (rsp sXml (answerN (sucOf (rd r)) 0 true)) = true := by simpa using hc
    rw [if_neg hno]
    repeat' (first | refine sk ?_ | (refine gL ?_; first | refine xl_alloc (fun _ => ?_) | refine xl_box rfl (fun _ => ?_) | refine xl_store rfl rfl ?_ | refine xl_buildSlice rfl (fun _ => ?_)) | fail)
    exact wr_layC3 (Hn := []) rfl rfl rfl rfl rfl rfl si9 (List.nil_sublist _) ⟨rfl, _, rfl, _, _, _, _, _, _, rfl, sl_nil, sl_nil⟩ pM
  · have hyes : sameR r (rsp sXml (answerN (sucOf (rd r)) 0 true)) = true := by simpa using hc
    rw [if_pos hyes]
    repeat' (first | refine sk ?_ | (refine gL ?_; first | refine xl_alloc (fun _ => ?_) | refine xl_box rfl (fun _ => ?_) | refine xl_store rfl rfl ?_ | refine xl_buildSlice rfl (fun _ => ?_)) | fail)
    exact wr_layC3 (Hn := []) rfl rfl rfl rfl rfl rfl si9 (List.nil_sublist _) ⟨rfl, _, rfl, _, _, _, _, _, _, by rw [hgu, hgi], by rw [hAg]; exact Sl.mono hSA8 (fun b o h => .inl (j1 b o h)) (fun _ _ _ h => h), by rw [hBg]; exact Sl.mono hSB (fun b o h => .inl (j1 b o h)) (fun _ _ _ h => h)⟩ pM
end Go.Proofs.YtgfbieplidpebaaGreatDoor
/-
  ReadProxy, ReadForm, ReadPage.
-/
namespace Go.Proofs.YtgfbieplidpebaaGreatDoor
open Go.Eng Go.Pct Go.Xml Go.Cas
set_option maxRecDepth 10000
set_option linter.unusedSimpArgs false
set_option linter.unusedVariables false

variable {M : Ghost} {w0 w : World} {bs : List Nat} {H : List (Nat × Obj)}
theorem nd_t {p : Prop} [Decidable p] (h : ¬ p) : (!decide p) = true := by simp [h]
theorem nd_f {p : Prop} [Decidable p] (h : p) : (!decide p) = false := by simp [h]
set_option maxHeartbeats 1000000 in
theorem ReadProxy_ok (hG : Glob M) (hM : Laid M w) {r : Rs} {st : Int} {a l c bd} (hr : RsC M r st a l c bd) (hbd : bd.length ≤ 90000) : Calls Tryz.prog 24 #[.agg [i64 st, .slice a l c, str bd].toArray] w (RetE w (.tuple #[str (readProxyP r).1, str (readProxyP r).2.1, .bool (readProxyP r).2.2])) := by
  have hbody : r.body = bd := hr.2.1
  refine fn1 hM Tryz.func24 ?_
  repeat' (first | refine sk ?_ | (refine gL ?_; first | refine xl_alloc (fun _ => ?_) | refine xl_box rfl (fun _ => ?_) | refine xl_store rfl rfl ?_ | refine xl_buildSlice rfl (fun _ => ?_)) | fail)
  refine wl_callS rfl Tryz.call48 rfl rfl rfl rfl (fun w hw => xread_ok hG hw.laid bd (by omega)) ?_
  rintro _ H1 M1 hm1 hn1 ⟨rfl, hR⟩
  obtain ⟨n1, p1, q1, r1, t1, p1', q1', r1', e1, rfl, hx, he1⟩ := read_open hR
  have hrd : (readP bd).getD nodeZ = rd r := by unfold rd; rw [hbody]
  rw [hrd] at hx
  clear hR he1
  have hrl := rd_len r
  rw [hbody] at hrl
  have hfl := found_len (rd r) [sPS, sPT]
  have hge := (textN_ge (foundN (rd r) [sPS, sPT])).2.1
  have hG1 := hG.mono hm1
  have hr1 : RsC M1 r st a l c bd := ⟨hr.1, hr.2.1, Sl.mono hr.2.2 hm1 (fun _ _ _ h => h)⟩
  have hfa := fun {w : World} (hw : Laid M1 w) => failed_ok hw hx sPF
  clear hm1 hn1 hG hr
  repeat' (first | refine sk ?_ | (refine gL ?_; first | refine wl_v rfl rfl rfl (by first | (exact oc 49 Tryz.call49 (h := fun hcg w hw => hfa hw.laid))) ?_ | refine xl_alloc (fun _ => ?_) | refine xl_box rfl (fun _ => ?_) | refine xl_store rfl rfl ?_ | refine xl_buildSlice rfl (fun _ => ?_)) | fail)
  rename_i b1 b5
  have hrp : readProxyP r = if ((failedT (rd r) sPF).2.2 && sameR r (rsp sXml (proxyN [] (failedT (rd r) sPF).2.1))) = true then ([], (failedT (rd r) sPF).1, true) else if sameR r (rsp sXml (proxyN (txN (foundN (rd r) [sPS, sPT])) 0)) = true then (txN (foundN (rd r) [sPS, sPT]), [], true) else ([], [], false) := by
    unfold readProxyP
    simp only [Bool.and_eq_true]
  rw [hrp]
  clear hrp hfa
  have hun := fun (b : Nat) (w' : World) (M' : Ghost) (hm' : ∀ b o, M1 b o → M' b o) (H : List (Nat × Obj)) (hw : St w [] ((b, .cells (cellsS [sPS, sPT]).toArray 9 (0, 0)) :: H) M' w') => under_ok hw.with (NodeC.mono (fun b o h => .inl (hm' b o h)) hx) (slS_blk (l := [sPS, sPT]) (.inr (List.Mem.head _)) (by simp))
  generalize failedT (rd r) sPF = f at *
  generalize txN (foundN (rd r) [sPS, sPT]) = pt at *
  obtain ⟨code, e, ok⟩ := f
  dsimp only
  have hz := fun {w : World} (hw : Laid M1 w) => Proxy_ok hG1 hw [] e (by simp)
  refine wc_split (α := GQ w M1 M1) (fun x => [(1, true, .pointer (some ⟨b1, 0, none⟩)), (5, true, .pointer (some ⟨b5, 0, none⟩)), (7, true, str code), (29, true, .bool (ok && sameR r (rsp sXml (proxyN [] e))))]) (fun x => St w [] [(b5, .cells [str n1, .slice p1 q1 r1, str t1, .slice p1' q1' r1'].toArray tNd (0, 0)), (b1, .cells [i64 st, .slice a l c, str bd].toArray 31 (0, 0))] x.M') ?_ ?_
  · cases ok with
    | false =>
      refine wc_draw 5 (by kernel_rfl) rfl (by kernel_rfl) (fun _ _ h k => h.ext k) ?_
      repeat' (first | (refine gD ?_; first | refine yd_v rfl rfl rfl rfl rfl rfl ?_ | refine wd_v rfl rfl rfl rfl rfl rfl (by first | (show OpV _ _ _ _ (Oper.mk _ (Op.call _) _ _ _ _) _ _; exact ov_off (v := .bool false) rfl)) ?_ | refine yd_new rfl rfl rfl rfl rfl rfl ?_ | refine wd_conv rfl rfl rfl rfl rfl rfl rfl rfl rfl rfl ?_) | (refine gE ?_; first | refine wd_nil ?_ | refine wd_nilF ?_) | (first | refine sk ?_ | (refine gL ?_; first | refine wl_v rfl rfl rfl (by first | (show OpV _ _ _ _ (Oper.mk _ (Op.call _) _ _ _ _) _ _; exact ov_off (v := .bool false) rfl)) ?_ | refine xl_alloc (fun _ => ?_) | refine xl_box rfl (fun _ => ?_) | refine xl_store rfl rfl ?_ | refine xl_buildSlice rfl (fun _ => ?_)) | fail))
      exact wn_cut ⟨M1, Since.refl, fun _ _ h => h⟩ trivial pE (fun _ h => h)
    | true =>
      refine wc_draw 5 (by kernel_rfl) rfl (by kernel_rfl) (fun _ _ h k => h.ext k) ?_
      repeat' (first | (refine gD ?_; first | refine yd_v rfl rfl rfl rfl rfl rfl ?_ | refine yd_new rfl rfl rfl rfl rfl rfl ?_ | refine wd_conv rfl rfl rfl rfl rfl rfl rfl rfl rfl rfl ?_) | (refine gE ?_; first | refine wd_nil ?_ | refine wd_nilF ?_) | (first | refine sk ?_ | (refine gL ?_; first | refine xl_alloc (fun _ => ?_) | refine xl_box rfl (fun _ => ?_) | refine xl_store rfl rfl ?_ | refine xl_buildSlice rfl (fun _ => ?_)) | fail))
      refine wd_newG rfl (by rfl) rfl rfl rfl rfl rfl steady_got (or_callS (args := #[str [], i64 e]) Tryz.call15 rfl rfl rfl (fun _ _ _ h => h.1) (fun w hw => hz hw.laid)) ?_
      refine wd_nil1 (wl_got fun v M2 k1 k2 hR2 => ?_)
      obtain ⟨_, a2, l2, c2, rfl, hS2⟩ := hR2
      have hsa := fun {w : World} (hw : Laid M2 w) => same_ok hw (r := r) (q := rsp sXml (proxyN [] e)) (st' := 200) (bd' := wr (proxyN [] e)) ⟨hr1.1, hr1.2.1, Sl.mono hr1.2.2 k1 (fun _ _ _ h => h)⟩ ⟨rfl, rfl, hS2⟩
      repeat' (first | refine sk ?_ | (refine gL ?_; first | refine wl_v rfl rfl rfl (by first | (exact oc 50 Tryz.call50 (h := fun hcg w hw => hsa hw.laid))) ?_ | refine xl_alloc (fun _ => ?_) | refine xl_box rfl (fun _ => ?_) | refine xl_store rfl rfl ?_ | refine xl_buildSlice rfl (fun _ => ?_)) | fail)
      exact wn_cut ⟨M2, ⟨k1, k2⟩, k1⟩ trivial pE (fun _ h => h)
  rintro ⟨M2, si2, sub2⟩
  dsimp only
  generalize hgb : (ok && sameR r (rsp sXml (proxyN [] e))) = gb
  clear hgb hz
  have hr2 : RsC M2 r st a l c bd := ⟨hr1.1, hr1.2.1, Sl.mono hr1.2.2 sub2 (fun _ _ _ h => h)⟩
  have hG2 := hG1.mono sub2
  clear hr1 hG1
  refine wc_cond rfl (fun hc => ?_) (fun hc => ?_)
  · obtain rfl : gb = true := hc
    rw [if_pos rfl]
    repeat' (first | refine sk ?_ | (refine gL ?_; first | refine xl_alloc (fun _ => ?_) | refine xl_box rfl (fun _ => ?_) | refine xl_store rfl rfl ?_ | refine xl_buildSlice rfl (fun _ => ?_)) | fail)
    exact wr_weak (fun _ h => h.drop (List.nil_sublist _)) (wr_tmp3 rfl rfl rfl rfl rfl rfl rfl)
  obtain rfl : gb = false := hc
  rw [if_neg (by decide)]
  repeat' (first | refine sk ?_ | (refine gL ?_; first | refine wl_v rfl rfl rfl (by first | (exact oc 51 Tryz.call51 (h := fun hcg w hw => hun _ _ _ sub2 _ hw))) ?_ | refine xl_alloc (fun _ => ?_) | refine xl_box rfl (fun _ => ?_) | refine xl_store rfl rfl ?_ | refine xl_buildSlice rfl (fun _ => ?_)) | fail)
  have hz := fun {w : World} (hw : Laid M2 w) => Proxy_ok hG2 hw pt 0 (by omega)
  refine wc_draw 3 (by kernel_rfl) rfl (by kernel_rfl) (fun _ _ h k => h.ext k) ?_
  repeat' (first | (refine gD ?_; first | refine yd_v rfl rfl rfl rfl rfl rfl ?_ | refine yd_new rfl rfl rfl rfl rfl rfl ?_ | refine wd_conv rfl rfl rfl rfl rfl rfl rfl rfl rfl rfl ?_) | (refine gE ?_; first | refine wd_nil ?_ | refine wd_nilF ?_) | (first | refine sk ?_ | (refine gL ?_; first | refine xl_alloc (fun _ => ?_) | refine xl_box rfl (fun _ => ?_) | refine xl_store rfl rfl ?_ | refine xl_buildSlice rfl (fun _ => ?_)) | fail))
  refine wd_newG rfl (by rfl) rfl rfl rfl rfl rfl steady_got (or_callS (args := #[str pt, i64 0]) Tryz.call15 rfl rfl rfl (fun _ _ _ h => h.1) (fun w hw => hz hw.laid)) ?_
  refine wd_nil1 (wl_got fun v M9 j1 j2 hR9 => ?_)
  obtain ⟨_, a9, l9, c9, rfl, hS9⟩ := hR9
  have hsa := fun {w : World} (hw : Laid M9 w) => same_ok hw (r := r) (q := rsp sXml (proxyN pt 0)) (st' := 200) (bd' := wr (proxyN pt 0)) ⟨hr2.1, hr2.2.1, Sl.mono hr2.2.2 j1 (fun _ _ _ h => h)⟩ ⟨rfl, rfl, hS9⟩
  repeat' (first | refine sk ?_ | (refine gL ?_; first | refine wl_v rfl rfl rfl (by first | (exact oc 50 Tryz.call50 (h := fun hcg w hw => hsa hw.laid))) ?_ | refine xl_alloc (fun _ => ?_) | refine xl_box rfl (fun _ => ?_) | refine xl_store rfl rfl ?_ | refine xl_buildSlice rfl (fun _ => ?_)) | fail)
  refine wc_cond rfl (fun hc => ?_) (fun hc => ?_)
  · have hno : ¬ sameR r (rsp sXml (proxyN pt 0)) = true := by simpa using hc
    rw [if_neg hno]
    repeat' (first | refine sk ?_ | (refine gL ?_; first | refine xl_alloc (fun _ => ?_) | refine xl_box rfl (fun _ => ?_) | refine xl_store rfl rfl ?_ | refine xl_buildSlice rfl (fun _ => ?_)) | fail)
    exact wr_weak (fun _ h => h.drop (List.nil_sublist _)) (wr_tmp3 rfl rfl rfl rfl rfl rfl rfl)
  · have hyes : sameR r (rsp sXml (proxyN pt 0)) = true := by simpa using hc
    rw [if_pos hyes]
    repeat' (first | refine sk ?_ | (refine gL ?_; first | refine xl_alloc (fun _ => ?_) | refine xl_box rfl (fun _ => ?_) | refine xl_store rfl rfl ?_ | refine xl_buildSlice rfl (fun _ => ?_)) | fail)
    exact wr_weak (fun _ h => h.drop (List.nil_sublist _)) (wr_tmp3 rfl rfl rfl rfl rfl rfl rfl)
set_option maxHeartbeats 1000000 in
theorem ReadPage_ok (hG : Glob M) (hM : Laid M w) {r : Rs} {st : Int} {a l c bd} (hr : RsC M r st a l c bd) (hbd : bd.length ≤ 90000) : Calls Tryz.prog 28 #[.agg [i64 st, .slice a l c, str bd].toArray] w (RetE w (.tuple #[str (readPageP r).1, str (readPageP r).2.1, .bool (readPageP r).2.2])) := by
  have hbody : r.body = bd := hr.2.1
  refine fn1 hM Tryz.func28 ?_
  repeat' (first | refine sk ?_ | (refine gL ?_; first | refine xl_alloc (fun _ => ?_) | refine xl_box rfl (fun _ => ?_) | refine xl_store rfl rfl ?_ | refine xl_buildSlice rfl (fun _ => ?_)) | fail)
  refine wl_callS rfl Tryz.call48 rfl rfl rfl rfl (fun w hw => xread_ok hG hw.laid bd (by omega)) ?_
  rintro _ H1 M1 hm1 hn1 ⟨rfl, hR⟩
  obtain ⟨n1, p1, q1, r1, t1, p1', q1', r1', e1, rfl, hx, he1⟩ := read_open hR
  have hrd : (readP bd).getD nodeZ = rd r := by unfold rd; rw [hbody]
  rw [hrd] at hx
  clear hR he1
  have hrl := rd_len r
  rw [hbody] at hrl
  have hfl := found_len (rd r) [sBody, sP]
  have hge := textN_ge (foundN (rd r) [sBody, sP])
  repeat' (first | refine sk ?_ | (refine gL ?_; first | refine xl_alloc (fun _ => ?_) | refine xl_box rfl (fun _ => ?_) | refine xl_store rfl rfl ?_ | refine xl_buildSlice rfl (fun _ => ?_)) | fail)
  rename_i b1 b5 bq
  refine wl_publish (H1 := [(bq, .cells (cellsS [sBody, sP]).toArray 9 (0, 0))]) (fun hn => ?_)
  have hp : SlS (With M1 [(bq, .cells (cellsS [sBody, sP]).toArray 9 (0, 0))]) (.slice (some ⟨bq, 0, none⟩) 2 2) [sBody, sP] := slS_blk (l := [sBody, sP]) (.inr (List.Mem.head _)) (by simp)
  refine wl_callS rfl Tryz.call52 rfl rfl rfl rfl (fun w hw => find_ok hw.laid (NodeC.mono (fun _ _ => .inl) hx) hp) ?_
  rintro _ H4 M4 hm4 hn4 ⟨rfl, n4, y1, m1, d1, t4, y2, m2, d2, rfl, hy⟩
  have sub4 : ∀ b o, M b o → M4 b o := fun b o h => hm4 b o (.inl (hm1 b o h))
  have hr4 : RsC M4 r st a l c bd := ⟨hr.1, hr.2.1, Sl.mono hr.2.2 sub4 (fun _ _ _ h => h)⟩
  have hG4 := hG.mono sub4
  have htx := node_tx hy
  have hat := node_at hy
  have htl : t4.length ≤ (textN (foundN (rd r) [sBody, sP])).length := by rw [← htx]; exact hge.2.1
  unfold readPageP
  rw [htx]
  generalize atN (foundN (rd r) [sBody, sP]) = at' at *
  obtain ⟨a7, cap7, b7, o7, cs7, T7, fz7, e7, k1, k2, k3, k4⟩ := SlP.open hat
  cases e7
  clear hm1 hn1 hm4 hn4 hn hp hx hy hr hG
  repeat' (first | refine sk ?_ | (refine gL ?_; first | refine xl_alloc (fun _ => ?_) | refine xl_box rfl (fun _ => ?_) | refine xl_store rfl rfl ?_ | refine xl_buildSlice rfl (fun _ => ?_)) | fail)
  by_cases h1 : at'.length = 1
  · have hne : at' ≠ [] := by intro e; rw [e] at h1; simp at h1
    obtain ⟨rfl, hMb⟩ := k3 hne
    have gi := k4 0 (by omega)
    have hpl := hge.2.2.2 (at'.getD 0 default) (getD_memP (by omega))
    generalize at'.getD 0 default = p at *
    refine wc_draw 14 (by kernel_rfl) rfl (by kernel_rfl) (fun _ _ h k => h.ext k) ?_
    repeat' (first | ((show WD _ _ (Oper.mk _ (Op.binOp BinOp.neq _ _ _ _) _ _ _ _ :: _) _ _ _ _ _ _; refine wd_v rfl rfl rfl rfl rfl rfl (opv_eq (ov_neq rfl rfl pI pI) (nd_f (by omega))) ?_)) | (refine gD ?_; first | refine yd_v rfl rfl rfl rfl rfl rfl ?_ | refine wd_v rfl rfl rfl rfl rfl rfl (by first | (show OpV _ _ _ _ (Oper.mk _ (Op.indexAddr _ _ _) _ _ _ _) _ _; exact ov_indexAddr (i := 0) (b := b7) (o := o7) rfl rfl rfl pI pI rfl pZ (fun _ => rfl) (fun _ => by omega)) | (show OpV _ _ _ _ (Oper.mk _ (Op.load _ _) _ _ _ _) _ _; exact ov_load1M rfl pI rfl rfl (fun _ => hMb) (fun _ => gi.2))) ?_ | refine yd_new rfl rfl rfl rfl rfl rfl ?_ | refine wd_conv rfl rfl rfl rfl rfl rfl rfl rfl rfl rfl ?_) | (refine gE ?_; first | refine wd_nil ?_ | refine wd_nil1 (wl_fresh (fun _ => ?_))) | (first | refine sk1 ?_ | (refine gL ?_; first | refine wl_v rfl rfl rfl (by first | (show OpV _ _ _ _ (Oper.mk _ (Op.indexAddr _ _ _) _ _ _ _) _ _; exact ov_indexAddr (i := 0) (b := b7) (o := o7) rfl rfl rfl pI pI rfl pZ (fun _ => rfl) (fun _ => by omega)) | (show OpV _ _ _ _ (Oper.mk _ (Op.load _ _) _ _ _ _) _ _; exact ov_load1M rfl pI rfl rfl (fun _ => hMb) (fun _ => gi.2))) ?_ | refine xl_alloc (fun _ => ?_) | refine xl_box rfl (fun _ => ?_) | refine xl_store rfl rfl ?_ | refine xl_buildSlice rfl (fun _ => ?_)) | fail))
    refine wd_newG rfl (by rfl) rfl rfl rfl rfl rfl steady_got (or_callS (args := #[str p.2, str t4]) Tryz.call19 rfl rfl rfl (fun _ _ _ h => h.1) (fun w hw => Page_ok hG4 hw.laid p.2 t4 (by omega) (by omega))) ?_
    refine wd_nil1 (wl_got fun v M9 j1 j2 hR9 => ?_)
    obtain ⟨_, a9, l9, c9, rfl, hS9⟩ := hR9
    have hsa := fun {w : World} (hw : Laid M9 w) => same_ok hw (r := r) (q := rsp sHtmlT (pageN p.2 t4)) (st' := 200) (bd' := wr (pageN p.2 t4)) ⟨hr4.1, hr4.2.1, Sl.mono hr4.2.2 j1 (fun _ _ _ h => h)⟩ ⟨rfl, rfl, hS9⟩
    repeat' (first | refine sk ?_ | (refine gL ?_; first | refine wl_v rfl rfl rfl (by first | (exact oc 50 Tryz.call50 (h := fun hcg w hw => hsa hw.laid))) ?_ | refine xl_alloc (fun _ => ?_) | refine xl_box rfl (fun _ => ?_) | refine xl_store rfl rfl ?_ | refine xl_buildSlice rfl (fun _ => ?_)) | fail)
    refine wc_cond rfl (fun hc => ?_) (fun hc => ?_)
    · have hno : ¬ sameR r (rsp sHtmlT (pageN p.2 t4)) = true := by simpa using hc
      rw [if_neg (fun h => hno h.2)]
      repeat' (first | refine sk ?_ | (refine gL ?_; first | refine xl_alloc (fun _ => ?_) | refine xl_box rfl (fun _ => ?_) | refine xl_store rfl rfl ?_ | refine xl_buildSlice rfl (fun _ => ?_)) | fail)
      exact wr_weak (fun _ h => h.drop (List.nil_sublist _)) (wr_tmp3 rfl rfl rfl rfl rfl rfl rfl)
    · have hyes : sameR r (rsp sHtmlT (pageN p.2 t4)) = true := by simpa using hc
      rw [if_pos ⟨h1, hyes⟩]
      repeat' (first | refine sk ?_ | (refine gL ?_; first | refine xl_alloc (fun _ => ?_) | refine xl_box rfl (fun _ => ?_) | refine xl_store rfl rfl ?_ | refine xl_buildSlice rfl (fun _ => ?_)) | fail)
      refine wc_draw 10 (by kernel_rfl) rfl (by kernel_rfl) (fun _ _ h k => h.ext k) ?_
      repeat' (first | (refine gD ?_; first | refine yd_v rfl rfl rfl rfl rfl rfl ?_ | refine wd_v rfl rfl rfl rfl rfl rfl (by first | (show OpV _ _ _ _ (Oper.mk _ (Op.indexAddr _ _ _) _ _ _ _) _ _; exact ov_indexAddr (i := 0) (b := b7) (o := o7) rfl rfl rfl pI pI rfl pZ (fun _ => rfl) (fun _ => by omega)) | (show OpV _ _ _ _ (Oper.mk _ (Op.load _ _) _ _ _ _) _ _; exact ov_load1M rfl pI rfl rfl (fun _ => j1 _ _ hMb) (fun _ => gi.2))) ?_ | refine yd_new rfl rfl rfl rfl rfl rfl ?_ | refine wd_conv rfl rfl rfl rfl rfl rfl rfl rfl rfl rfl ?_) | (refine gE ?_; first | refine wd_nil ?_ | refine wd_nilF ?_) | (first | refine sk ?_ | (refine gL ?_; first | refine wl_v rfl rfl rfl (by first | (show OpV _ _ _ _ (Oper.mk _ (Op.indexAddr _ _ _) _ _ _ _) _ _; exact ov_indexAddr (i := 0) (b := b7) (o := o7) rfl rfl rfl pI pI rfl pZ (fun _ => rfl) (fun _ => by omega)) | (show OpV _ _ _ _ (Oper.mk _ (Op.load _ _) _ _ _ _) _ _; exact ov_load1M rfl pI rfl rfl (fun _ => j1 _ _ hMb) (fun _ => gi.2))) ?_ | refine xl_alloc (fun _ => ?_) | refine xl_box rfl (fun _ => ?_) | refine xl_store rfl rfl ?_ | refine xl_buildSlice rfl (fun _ => ?_)) | fail))
      exact wr_weak (fun _ h => h.drop (List.nil_sublist _)) (wr_tmp3 rfl rfl rfl rfl rfl rfl rfl)
  · rw [if_neg (fun h => h1 h.1)]
    refine wc_draw 14 (by kernel_rfl) rfl (by kernel_rfl) (fun _ _ h k => h.ext k) ?_
    repeat' (first | ((show WD _ _ (Oper.mk _ (Op.binOp BinOp.neq _ _ _ _) _ _ _ _ :: _) _ _ _ _ _ _; refine wd_v rfl rfl rfl rfl rfl rfl (opv_eq (ov_neq rfl rfl pI pI) (nd_t (by omega))) ?_)) | (refine gD ?_; first | refine yd_v rfl rfl rfl rfl rfl rfl ?_ | refine wd_v rfl rfl rfl rfl rfl rfl (by first | (exact ov_off (v := .bool false) rfl)) ?_ | refine yd_new rfl rfl rfl rfl rfl rfl ?_ | refine wd_conv rfl rfl rfl rfl rfl rfl rfl rfl rfl rfl ?_) | (refine gE ?_; first | refine wd_nil ?_ | refine wd_nil1 (wl_fresh (fun _ => ?_))) | (first | refine sk1 ?_ | (refine gL ?_; first | refine wl_v rfl rfl rfl (by first | (exact ov_off (v := .bool false) rfl)) ?_ | refine xl_alloc (fun _ => ?_) | refine xl_box rfl (fun _ => ?_) | refine xl_store rfl rfl ?_ | refine xl_buildSlice rfl (fun _ => ?_)) | fail))
    refine wc_cond rfl (fun hc => ?_) (fun hc => by exfalso; simp at hc)
    repeat' (first | refine sk ?_ | (refine gL ?_; first | refine xl_alloc (fun _ => ?_) | refine xl_box rfl (fun _ => ?_) | refine xl_store rfl rfl ?_ | refine xl_buildSlice rfl (fun _ => ?_)) | fail)
    exact wr_weak (fun _ h => h.drop (List.nil_sublist _)) (wr_tmp3 rfl rfl rfl rfl rfl rfl rfl)
end Go.Proofs.YtgfbieplidpebaaGreatDoor
/-
  The engine at a region that draws its order and in which what is laid is filled: what a writer leaves is told of the slot that it writes to. Nothing of the program stands here.
-/
namespace Go.Eng
open Go.RowKit
set_option linter.unusedVariables false

/-- the slot that a store goes to -/
def kk (o : Oper) : Nat := match o.op with
  | .store _ (.tmp t) _ => t
  | _ => 0
/-- each writer's slot is written in the region, ahead of it -/
def keyed (ops : Array Oper) (m : Nat) : Bool := (List.range m).all fun i => match ops[i]? with
  | none => true
  | some o => o.dst.isSome || (List.range ops.size).any fun q => (edges o).contains q && (match ops[q]? with | some p => p.dst == some (kk o) | none => false)
theorem keyed_at {ops : Array Oper} {m i : Nat} {o : Oper} (h : keyed ops m = true) (hi : i < m) (ho : ops[i]? = some o) (hd : o.dst = none) : ∃ q p, ops[q]? = some p ∧ p.dst = some (kk o) ∧ q ∈ edges o := by
  unfold keyed at h
  rw [List.all_eq_true] at h
  have h := h i (List.mem_range.2 hi)
  rw [ho] at h
  simp only [hd, Option.isSome_none, Bool.false_or, List.any_eq_true, Bool.and_eq_true] at h
  obtain ⟨q, _, h1, h2⟩ := h
  split at h2
  · rename_i p hp
    exact ⟨q, p, hp, by simpa using h2, by simpa using h1⟩
  · cases h2
section
variable {P : Program} {n : Nat} {E : Env} {C : World → Prop} {k : Kont} {ops : Array Oper} {X : World → World → Prop}
structure ObK (P : Program) (ops : Array Oper) (n : Nat) (C : World → Prop) (X : World → World → Prop) (o : Oper) (G : REnv) (V : Tell) : Prop where
  run : ∀ a w, C w → a.defers = [] → a.tmps.size = n → HR G (· ∈ o.looksAt ops) a w →
    (Region.wanted o (yielded ops a.tmps) = true → o.wp P a w (fun a' w' => ∃ v, a' = a.put o.dst v ∧ (o.dst = none → v = a.tmps.getD (kk o) undef) ∧ V v w' ∧ X w w' ∧ C w') (fun _ _ _ => False)) ∧
    (Region.wanted o (yielded ops a.tmps) = false → o.dst ≠ none ∧ V undef w)
def putK (o : Oper) (V : Tell) (Q : Act → World → Prop) : Act → World → Prop := match o.dst with
  | some _ => Q
  | none => fun a w => Q a w ∧ V (a.tmps.getD (kk o) undef) w
def WDsK (P : Program) (ops : Array Oper) (n : Nat) (C : World → Prop) (X : World → World → Prop) : List Oper → REnv → (Act → World → Prop) → (REnv → (Act → World → Prop) → Prop) → Prop
  | [], G, Q, fin => fin G Q
  | o :: rest, G, Q, fin => ∃ V, (∀ d, o.dst = some d → d < n) ∧ SteadyX X V ∧ ObK P ops n C X o G V ∧ WDsK P ops n C X rest (putG o V G) (putK o V Q) fin

theorem wds_outK : ∀ (l : List Oper) (i : Nat) (G : REnv) (Q : Act → World → Prop) (fin : REnv → (Act → World → Prop) → Prop), (∀ j, j < l.length → ops[i + j]? = l[j]?) → WDsK P ops n C X l G Q fin →
    ∃ (Vs : Nat → Tell) (Q' : Act → World → Prop), (∀ j, j < l.length → ∃ o, ops[i + j]? = some o ∧ (∀ d, o.dst = some d → d < n) ∧ SteadyX X (Vs j) ∧ ObK P ops n C X o (Gam (ops.extract i ops.size) Vs G j) (Vs j)) ∧ fin (Gam (ops.extract i ops.size) Vs G l.length) Q' ∧
      ∀ a w, Q a w → (∀ j o, j < l.length → ops[i + j]? = some o → o.dst = none → Vs j (a.tmps.getD (kk o) undef) w) → Q' a w
  | [], i, G, Q, fin, _, h => ⟨fun _ => fun _ _ => True, Q, by simp, h, fun _ _ hq _ => hq⟩
  | o :: rest, i, G, Q, fin, hl, h => by
    obtain ⟨V, hdn, hst, hob, hr⟩ := h
    have hoi : ops[i]? = some o := by simpa using hl 0 (by simp)
    obtain ⟨Vs, Q', h1, h2, h3⟩ := wds_outK rest (i + 1) (putG o V G) (putK o V Q) fin (fun j hj => by have := hl (j + 1) (by simp; omega); simpa [Nat.add_assoc, Nat.add_comm 1 j] using this) hr
    have hilt : i < ops.size := by
      rcases Nat.lt_or_ge i ops.size with h' | h'
      · exact h'
      · simp [Array.getElem?_eq_none h'] at hoi
    have key : ∀ j, Gam (ops.extract i ops.size) (fun | 0 => V | q + 1 => Vs q) G (j + 1) = Gam (ops.extract (i + 1) ops.size) Vs (putG o V G) j := by
      intro j
      induction j with
      | zero =>
        have : (ops.extract i ops.size)[0]? = some o := by rw [Array.getElem?_extract, if_pos (by omega)]; simpa using hoi
        cases hd : o.dst <;> simp [Gam, this, putG, hd]
      | succ j ih =>
        have e : (ops.extract i ops.size)[j + 1]? = (ops.extract (i + 1) ops.size)[j]? := by
          simp only [Array.getElem?_extract]
          have : i + (j + 1) = i + 1 + j := by omega
          rw [this]
          by_cases h' : j < min ops.size ops.size - (i + 1)
          · rw [if_pos (by omega), if_pos h']
          · rw [if_neg (by omega), if_neg h']
        have hS : ∀ (q : Nat) (A : Array Oper) (W : Nat → Tell) (G : REnv), Gam A W G (q + 1) = match (A[q]?).bind (·.dst) with | some d => (d, W q) :: Gam A W G q | none => Gam A W G q := fun _ _ _ _ => rfl
        rw [hS (j + 1) (ops.extract i ops.size) _ G, hS j (ops.extract (i + 1) ops.size) Vs, e, ih]
    refine ⟨fun | 0 => V | q + 1 => Vs q, Q', ?_, ?_, ?_⟩
    · intro j hj
      cases j with
      | zero => exact ⟨o, by simpa using hoi, hdn, hst, hob⟩
      | succ j =>
        obtain ⟨o', ho', hdn', hst', hob'⟩ := h1 j (by simpa using hj)
        exact ⟨o', by rw [← ho']; congr 1; omega, hdn', hst', by rw [key]; exact hob'⟩
    · rw [List.length_cons, key]; exact h2
    · intro a w hq hall
      refine h3 a w ?_ (fun j p hj hp hd => ?_)
      · unfold putK
        cases hd : o.dst with
        | some d => exact hq
        | none => exact ⟨hq, hall 0 o (by simp) (by simpa using hoi) hd⟩
      · exact hall (j + 1) p (by simpa using hj) (by rw [← hp]; congr 1; omega) hd

/-- The state in the midst of the first part. -/
structure MidK (ops : Array Oper) (n m : Nat) (C : World → Prop) (Vs : Nat → Tell) (G0 : REnv) (listed : Array Bool) (a : Act) (w : World) : Prop where
  closed : Closed ops listed
  inC : C w
  defers : a.defers = []
  size : a.tmps.size = n
  few : ∀ j, On listed j → j < m
  vals : ∀ j o d, On listed j → ops[j]? = some o → o.dst = some d → ∃ u, a.tmps[d]? = some u ∧ Vs j u w
  facts : ∀ j o, On listed j → ops[j]? = some o → o.dst = none → Vs j (a.tmps.getD (kk o) undef) w
  base : ∀ s U, lookR G0 s = some U → (∀ j o, On listed j → ops[j]? = some o → o.dst ≠ some s) → ∃ u, a.tmps[s]? = some u ∧ U u w

theorem mid_allK {Q : Exit → Act → World → Prop} {m : Nat} {Vs : Nat → Tell} {G0 : REnv} (hord : orderly ops m = true) (hkey : keyed ops m = true) (hm : m ≤ ops.size) (hst0 : ∀ s U, lookR G0 s = some U → SteadyX X U) (hrefl : ∀ w, X w w)
    (hV : ∀ j, j < m → ∃ o, ops[j]? = some o ∧ (∀ d, o.dst = some d → d < n) ∧ SteadyX X (Vs j) ∧ ObK P ops n C X o (Gam ops Vs G0 j) (Vs j))
    (hfin : ∀ a w, C w → HA n (Gam ops Vs G0 m) a w → (∀ j o, j < m → ops[j]? = some o → o.dst = none → Vs j (a.tmps.getD (kk o) undef) w) → wpList P ops Q (ops.toList.drop m) a w) :
    ∀ (fuel : Nat) (listed : Array Bool) (a : Act) (w : World), left listed = fuel → MidK ops n m C Vs G0 listed a w → wpAny P .any ops Q fuel listed a w := by
  -- all of the prefix is done
  have done : ∀ (fuel : Nat) (listed : Array Bool) (a : Act) (w : World), left listed = fuel → MidK ops n m C Vs G0 listed a w → (∀ j, j < m → On listed j) → wpAny P .any ops Q fuel listed a w := by
    intro fuel listed a w hf hmid hall
    have hon : ∀ j, On listed j ↔ j < m := fun j => ⟨hmid.few j, hall j⟩
    have hlen : left listed = (ops.toList.drop m).length := by
      have : listed = Array.ofFn (n := ops.size) (fun i => decide (i.val < m)) := by
        apply Array.ext
        · simp [hmid.closed.size]
        · intro i h1 h2
          have := hon i
          simp [On, h1] at this
          simp
          cases hb : listed[i] with
          | true => simp [← this, hb]
          | false => simp [hb] at this; simp; omega
      have hc : ∀ (q : Nat), (List.ofFn (n := q) (fun i => decide (i.val < m))).countP (fun b => !b) = q - m := by
        intro q
        induction q with
        | zero => simp
        | succ q ih =>
          rw [List.ofFn_succ_last]
          simp only [List.countP_append, Fin.val_castSucc] 
          rw [ih]
          by_cases h' : q < m
          · simp [h']; omega
          · simp [h']; omega
      unfold left
      rw [this, Array.toList_ofFn, hc]
      simp
    rw [← hf, hlen]
    refine tail_any hord (ops.toList.drop m) m listed a w (Nat.le_refl _) (by simp; omega) (fun j hj => by simp) hmid.closed.size hon (hfin a w hmid.inC ⟨hmid.defers, hmid.size, ?_⟩ (fun j o hj ho hd => hmid.facts j o (hall j hj) ho hd))
    intro s U hs _
    rcases look_gam hs with ⟨j, o, hj, ho, hd, rfl⟩ | ⟨h0, hn⟩
    · exact hmid.vals j o s (hall j hj) ho hd
    · exact hmid.base s U h0 (fun j o hj ho => hn j o ((hon j).1 hj) ho)
  intro fuel
  induction fuel with
  | zero =>
    intro listed a w hf hmid
    exact done 0 listed a w hf hmid (fun j hj => left_zero hf (by rw [hmid.closed.size]; omega))
  | succ fuel ih =>
    intro listed a w hf hmid
    by_cases hall : ∀ j, j < m → On listed j
    · exact done _ listed a w hf hmid hall
    have hready : ∃ i o, i < m ∧ ops[i]? = some o ∧ ¬ On listed i ∧ ∀ l ∈ edges o, On listed l := by
      have : ∃ i, i < m ∧ ¬ On listed i := by
        rcases Classical.em (∃ i, i < m ∧ ¬ On listed i) with h' | h'
        · exact h'
        · exact absurd (fun j hj => Classical.byContradiction fun hn => h' ⟨j, hj, hn⟩) hall
      obtain ⟨i, ⟨hi, hni⟩, hleast⟩ := exists_least this
      have hilt : i < ops.size := by omega
      refine ⟨i, ops[i], hi, by simp [hilt], hni, fun l hl => ?_⟩
      have hli := (orderly_at hord (i := i) (o := ops[i]) (by simp [hilt])).1 l hl
      exact Classical.byContradiction fun hn => by have := hleast l ⟨by omega, hn⟩; omega
    refine ⟨fun h0 => ?_, fun i hi => ?_⟩
    · obtain ⟨i, o, him, ho, hno, hr⟩ := hready
      have : i ∈ Region.ready .any ops listed := (ready_iff hmid.closed.size).2 ⟨o, ho, hno, hr⟩
      rw [h0] at this; cases this
    · obtain ⟨o, ho, hno, hr⟩ := (ready_iff hmid.closed.size).1 hi
      have hord1 := orderly_at hord ho
      have him : i < m := by
        rcases Nat.lt_or_ge i m with h' | h'
        · exact h'
        · obtain ⟨q, p, hqm, hp, hnq, _⟩ := hready
          exact absurd (anc_on hmid.closed (i + 1) i o ho hr q (hord1.2.2.2 h' q (by omega))) hnq
      obtain ⟨o', ho', hdn, hst, hob⟩ := hV i him
      obtain rfl : o = o' := by rw [ho] at ho'; simpa using ho'
      have hilt : i < listed.size := by rw [hmid.closed.size]; omega
      have hHR : HR (Gam ops Vs G0 i) (· ∈ o.looksAt ops) a w := by
        intro s U hs hlook
        rcases look_gam hs with ⟨j, p, hj, hp, hd', rfl⟩ | ⟨h0, hn⟩
        · have := ((hord1.2.2.1 j p s hp (by omega) hd').2 hlook)
          rw [if_pos hj] at this
          exact hmid.vals j p s (hr j this) hp hd'
        · refine hmid.base s U h0 (fun j p hj hp hs' => ?_)
          by_cases hji : j < i
          · exact hn j p hji hp hs'
          · have hne : j ≠ i := fun e => hno (e ▸ hj)
            have := ((hord1.2.2.1 j p s hp hne hs').2 hlook)
            rw [if_neg hji] at this
            exact hno (hmid.closed.back j p hp hj i this)
      have hnext : ∀ v w', (o.dst = none → v = a.tmps.getD (kk o) undef) → Vs i v w' → X w w' → C w' → wpAny P .any ops Q fuel (listed.setIfInBounds i true) (a.put o.dst v) w' := by
        intro v w' hun hv hx hC'
        have hsz : (a.put o.dst v).tmps.size = n := by
          cases hd : o.dst <;> simp [Act.put, hmid.size]
        have hdf : (a.put o.dst v).defers = [] := by
          cases hd : o.dst <;> simp [Act.put, hmid.defers]
        have hoth : ∀ s, o.dst ≠ some s → (a.put o.dst v).tmps[s]? = a.tmps[s]? := by
          intro s hs
          cases hd : o.dst with
          | none => simp [Act.put]
          | some d =>
            have hne : d ≠ s := fun e => hs (by rw [hd, e])
            simp only [Act.put]; rw [Array.getElem?_setIfInBounds_ne hne]
        refine ih _ _ _ (by have := left_set hilt hno; omega) ⟨⟨by simpa using hmid.closed.size, ?_⟩, hC', hdf, hsz, ?_, ?_, ?_, ?_⟩
        · intro q p hp hq j hj
          rw [on_set hilt] at hq ⊢
          rcases hq with rfl | hq
          · rw [ho] at hp; obtain rfl : o = p := by simpa using hp
            exact .inr (hr j hj)
          · exact .inr (hmid.closed.back q p hp hq j hj)
        · intro j hj
          rw [on_set hilt] at hj
          rcases hj with rfl | hj
          · exact him
          · exact hmid.few j hj
        · intro j p d' hj hp hd'
          rw [on_set hilt] at hj
          by_cases e : j = i
          · subst e; rw [ho] at hp; obtain rfl : o = p := by simpa using hp
            have hdn' := hdn d' hd'
            exact ⟨v, by rw [hd']; simp [Act.put, hmid.size, hdn'], hv⟩
          · have hj : On listed j := hj.resolve_left e
            obtain ⟨u, hu, hVu⟩ := hmid.vals j p d' hj hp hd'
            have hne := (hord1.2.2.1 j p d' hp e hd').1
            obtain ⟨o2, ho2, _, hst2, _⟩ := hV j (hmid.few j hj)
            exact ⟨u, by rw [hoth d' hne]; exact hu, hst2 _ _ _ hx hVu⟩
        · intro j p hj hp hd'
          rw [on_set hilt] at hj
          by_cases e : j = i
          · subst e; rw [ho] at hp; obtain rfl : o = p := by simpa using hp
            have e2 := hun hd'
            subst e2
            rw [show (a.put o.dst (a.tmps.getD (kk o) undef)) = a by rw [hd']; rfl]
            exact hv
          · have hj : On listed j := hj.resolve_left e
            obtain ⟨o2, ho2, _, hst2, _⟩ := hV j (hmid.few j hj)
            obtain ⟨q, oq, hq, hqd, hqe⟩ := keyed_at hkey (hmid.few j hj) hp hd'
            have hql : On listed q := hmid.closed.back j p hp hj q hqe
            have hqi : q ≠ i := fun e => hno (e ▸ hql)
            have hsl : (a.put o.dst v).tmps.getD (kk p) undef = a.tmps.getD (kk p) undef := by
              have := hoth (kk p) ((hord1.2.2.1 q oq (kk p) hq hqi hqd).1)
              simp only [Array.getD_eq_getD_getElem?, this]
            rw [hsl]
            exact hst2 _ _ _ hx (hmid.facts j p hj hp hd')
        · intro s U hs hn
          have hne : o.dst ≠ some s := hn i o (by rw [on_set hilt]; exact .inl rfl) ho
          obtain ⟨u, hu, hU⟩ := hmid.base s U hs (fun j p hj hp => hn j p (by rw [on_set hilt]; exact .inr hj) hp)
          exact ⟨u, by rw [hoth s hne]; exact hu, hst0 s U hs _ _ _ hx hU⟩
      obtain ⟨h1, h2⟩ := hob.run a w hmid.inC hmid.defers hmid.size hHR
      unfold wpOp
      simp only [ho]
      split
      · rename_i hw
        refine .inl ?_
        have := h1 hw
        unfold Oper.wp at this ⊢
        generalize (execOp a.eval o).run P w = r at *
        cases r with
        | ok nx w1 =>
          cases nx <;> simp only [Oper.upon] at this ⊢
          case value u => obtain ⟨v, e, hun, h3, h4, h5⟩ := this; rw [e]; exact hnext v _ hun h3 h4 h5
          case skip => obtain ⟨v, e, hun, h3, h4, h5⟩ := this; rw [e]; exact hnext v _ hun h3 h4 h5
          case defer => obtain ⟨v, e, hun, h3, h4, h5⟩ := this; rw [e]; exact hnext v _ hun h3 h4 h5
          case enter f args =>
            refine this.mono fun e w2 he => ?_
            cases e with
            | returned u => obtain ⟨v, e, hun, h3, h4, h5⟩ := he; show wpAny P .any ops Q fuel _ (a.put o.dst u) w2; rw [e]; exact hnext v _ hun h3 h4 h5
            | panicked c => exact he.elim
            | outgrown => obtain ⟨_, _, h⟩ := he; exact h.elim
          case row row args => refine this.mono fun u w2 he => ?_; obtain ⟨v, e, hun, h3, h4, h5⟩ := he; rw [e]; exact hnext v _ hun h3 h4 h5
        | halt x w1 => cases x <;> simp only [Oper.upon] at this
      · rename_i hw
        have hw' : Region.wanted o (yielded ops a.tmps) = false := by simpa using hw
        exact hnext undef w (fun h => absurd h (h2 hw').1) (h2 hw').2 (hrefl _) hmid.inC



/-- The told part, exact entries and others apart; what writers leave; what is left is walked in the order of the text. -/
structure WK (P : Program) (ops : Array Oper) (l : List Oper) (n : Nat) (E : Env) (F : REnv) (C : World → Prop) (X : World → World → Prop) (Q : Act → World → Prop) (tail : List Oper) (k : Kont) : Prop where
  run : (∀ s, lookR F s ≠ none → look E s = none) → ∀ G, (∀ s, lookR G s = match lookR F s with | some V => some V | none => (look E s).map fun cv => exact1 cv.1 cv.2) →
    WDsK P ops n C X l G Q (fun G' Q' => ∀ a w, C w → Q' a w → HA n G' a w → wpList P ops (k.post P) tail a w)
theorem wc_drawK {id : Nat} {l : List Oper} (m : Nat) (X : World → World → Prop) (hm : P.follows .mixedOrders = true) (hml : Nat.ble m l.length = true) (hord : orderly l.toArray m = true) (hkey : keyed l.toArray m = true) (hrefl : ∀ w, X w w) (hC : ∀ w, C w → C w.drew)
    (h : WK P l.toArray (l.take m) n E [] C X (fun _ _ => True) (l.drop m) k) : WC P (.region id l.toArray true) n E C k := by
  have hml : m ≤ l.length := Nat.le_of_ble_eq_true hml
  refine ⟨fun a w ha hw => wp_region_any hm ?_⟩
  have h := h.run (by intro s hs; simp [lookR] at hs) (ofEnv E) (by intro s; simp [lookR, lookR_ofEnv])
  obtain ⟨Vs, Q', hV, hfin, hQ⟩ := wds_outK (ops := l.toArray) (l.take m) 0 _ _ _ (by intro j hj; simp at hj; simp [hj]) h
  have hex : l.toArray.extract 0 l.toArray.size = l.toArray := by simp
  rw [hex] at hV hfin
  have hlen : (l.take m).length = m := by simp; omega
  rw [hlen] at hV hfin hQ
  refine mid_allK (m := m) (C := C) (X := X) (G0 := ofEnv E) hord hkey (by simpa using hml) ?_ hrefl (fun j hj => ?_) (fun a w hCw hA hf => by simpa using hfin a w hCw (hQ a w trivial (fun j o hj ho hd => hf j o hj (by simpa using ho) hd)) hA) _ _ a _ (start_left _) ?_
  · intro s U hs
    rw [lookR_ofEnv] at hs
    obtain ⟨cv, _, rfl⟩ := Option.map_eq_some_iff.1 hs
    exact steadyX_exact _ _ _
  · obtain ⟨o, h1, h2⟩ := hV j hj
    exact ⟨o, by simpa using h1, h2⟩
  · refine ⟨⟨by simp, fun i o _ hi => absurd hi (start_on _ _)⟩, hC w hw, ha.defers, ha.size, fun j hj => absurd hj (start_on _ _), fun j o d hj => absurd hj (start_on _ _), fun j o hj => absurd hj (start_on _ _), ?_⟩
    intro s U hs _
    rw [lookR_ofEnv] at hs
    obtain ⟨cv, hcv, rfl⟩ := Option.map_eq_some_iff.1 hs
    exact ⟨_, ha.reads s cv.1 cv.2 hcv, rfl⟩
theorem wk_v {d : Nat} {cg : Bool} {v : Value} {o : Oper} {rest tail : List Oper} {F : REnv} {Q : Act → World → Prop} (hX : ∀ w w', Ext w w' → X w w') (hg : gd ops E o.guard = some cg) (ho : o.dst = some d) (hd : Nat.blt d n = true) (hb : belowN n E = true) (hsel : noSel o = true) (hF : lookR F d = none)
    (hv : OpV P n E C o cg v) (h : WK P ops rest n ((d, cg, v) :: E) F C X Q tail k) : WK P ops (o :: rest) n E F C X Q tail k := ⟨fun hdis G hG => by
  have hd : d < n := by simpa [Nat.blt_eq] using hd
  refine ⟨exact1 cg v, (fun d' hd' => by rw [ho] at hd'; cases hd'; exact hd), steadyX_exact _ _ _, ⟨fun a w hw had has hHR => ?_⟩, ?_⟩
  · obtain ⟨b, hb1, hb2, hb3⟩ := turn (ops := ops) (E := E) o had has (fun i c u hi hm => by
      have hFi : lookR F i = none := by
        cases hf : lookR F i with
        | none => rfl
        | some V => rw [hdis i (by simp [hf])] at hi; cases hi
      obtain ⟨u', h1, h2⟩ := hHR i (exact1 c u) (by rw [hG]; simp [hFi, hi]) hm
      rw [h1, h2]) (noSel_spec hsel) (belowN_look hb)
    have hwb := wanted_gd (ops := ops) hb1 hg
    rw [hb3] at hwb
    refine ⟨fun hwant => ?_, fun hno => ?_⟩
    · have hcg : cg = true := by rw [← hwb]; exact hwant
      have := hv.run hcg b hb1 w hw
      have : YAt P o a C w v := by unfold YAt at *; rw [hb2] at this; exact this
      exact this.wp hw fun w' hw' hx => ⟨v, rfl, (fun h => by rw [ho] at h; cases h), by simp [exact1, hcg], hX _ _ hx, hw'⟩
    · have hcg : cg = false := by rw [← hwb]; exact hno
      exact ⟨by rw [ho]; simp, by simp [exact1, hcg]⟩
  · unfold putG putK
    rw [ho]
    refine h.run (fun s hs => ?_) _ ?_
    · by_cases e : d = s
      · subst e; exact absurd hF hs
      · simp only [look, beq_no e, cond_false]; exact hdis s hs
    · intro s
      by_cases e : d = s
      · subst e; simp [lookR, look, hF]
      · simp only [lookR, look, beq_no e, cond_false]; exact hG s⟩

theorem yk_v {d : Nat} {cg : Bool} {v : Value} {o : Oper} {rest tail : List Oper} {F : REnv} {Q : Act → World → Prop} (hX : ∀ w w', Ext w w' → X w w') (hg : gd ops E o.guard = some cg) (ho : o.dst = some d) (hd : Nat.blt d n = true) (hb : belowN n E = true) (hsel : noSel o = true) (hF : lookR F d = none)
    (h : WK P ops rest n ((d, cg, v) :: E) F C X Q tail k) (hv : OpV P n E C o cg v := by first | (show OpV _ _ _ _ (Oper.mk _ (Op.move _) _ _ _ _) _ _; exact xo_move rfl) | (show OpV _ _ _ _ (Oper.mk _ (Op.call ⟨.builtin .len, _, _⟩) _ _ _ _) _ _; first | (apply pl_s rfl; exact xo_slen rfl) | exact xo_len rfl) | (show OpV _ _ _ _ (Oper.mk _ (Op.load _ _) _ _ _ _) _ _; first | (apply pd_st rfl; exact xo_loadS rfl) | exact xo_load1 rfl) | (show OpV _ _ _ _ (Oper.mk _ (Op.assign _) _ _ _ _) _ _; exact xo_assign rfl) | (show OpV _ _ _ _ (Oper.mk _ (Op.binOp _ _ _ _ _) _ _ _ _) _ _; first | (show OpV _ _ _ _ (Oper.mk _ (Op.binOp BinOp.eql _ _ _ _) _ _ _ _) _ _; first | (apply pb_i rfl; exact xo_eql rfl rfl) | (apply pb_s rfl; exact xo_seql rfl rfl) | (apply pb_b rfl; exact xo_beql rfl rfl) | exact xo_aeql rfl rfl) | (show OpV _ _ _ _ (Oper.mk _ (Op.binOp BinOp.neq _ _ _ _) _ _ _ _) _ _; first | (apply pb_i rfl; exact xo_neq rfl rfl) | (apply pb_s rfl; exact xo_sneq rfl rfl) | (apply pb_b rfl; exact xo_bneq rfl rfl) | exact xo_aneq rfl rfl) | (show OpV _ _ _ _ (Oper.mk _ (Op.binOp BinOp.lss _ _ _ _) _ _ _ _) _ _; exact xo_lss rfl rfl) | (show OpV _ _ _ _ (Oper.mk _ (Op.binOp BinOp.leq _ _ _ _) _ _ _ _) _ _; exact xo_leq rfl rfl) | (show OpV _ _ _ _ (Oper.mk _ (Op.binOp BinOp.gtr _ _ _ _) _ _ _ _) _ _; exact xo_gtr rfl rfl) | (show OpV _ _ _ _ (Oper.mk _ (Op.binOp BinOp.geq _ _ _ _) _ _ _ _) _ _; exact xo_geq rfl rfl) | (show OpV _ _ _ _ (Oper.mk _ (Op.binOp BinOp.add _ _ _ _) _ _ _ _) _ _; first | (apply pb_i rfl; exact xo_add rfl rfl) | exact ov_sadd rfl rfl (by first | with_reducible exact fun _ => rfl | with_reducible exact fun h => h | exact fun _ => rfl | exact fun h => h | (intro himp; simp_all; done)) (by first | with_reducible exact fun _ => rfl | with_reducible exact fun h => h | exact fun _ => rfl | exact fun h => h | (intro himp; simp_all; done)) (by intro hcg; first | omega | (simp only [List.length_append, List.length_take, List.length_drop, List.length_cons, List.length_nil, List.length_nil]; omega))) | (show OpV _ _ _ _ (Oper.mk _ (Op.binOp BinOp.sub _ _ _ _) _ _ _ _) _ _; exact xo_sub rfl rfl) | (show OpV _ _ _ _ (Oper.mk _ (Op.binOp BinOp.mul _ _ _ _) _ _ _ _) _ _; exact xo_mul rfl rfl) | (show OpV _ _ _ _ (Oper.mk _ (Op.binOp BinOp.quo _ _ _ _) _ _ _ _) _ _; exact xo_quo rfl rfl) | (show OpV _ _ _ _ (Oper.mk _ (Op.binOp BinOp.rem _ _ _ _) _ _ _ _) _ _; exact xo_rem rfl rfl) ) | (show OpV _ _ _ _ (Oper.mk _ (Op.pick _ _ _) _ _ _ _) _ _; first | exact xo_and rfl rfl | exact xo_or rfl rfl) | (show OpV _ _ _ _ (Oper.mk _ (Op.extract _ _) _ _ _ _) _ _; exact xo_extract rfl) | (show OpV _ _ _ _ (Oper.mk _ (Op.unOp _ _ _) _ _ _ _) _ _; exact xo_not rfl) | (show OpV _ _ _ _ (Oper.mk _ (Op.slice _ _ _ _ _) _ _ _ _) _ _; first | (show OpV _ _ _ _ (Oper.mk _ (Op.slice _ _ (some _) (some _) none) _ _ _ _) _ _; first | (apply ps_s rfl; exact xo_slice rfl rfl rfl) | exact xo_slcB rfl rfl rfl) | (show OpV _ _ _ _ (Oper.mk _ (Op.slice _ _ (some _) none none) _ _ _ _) _ _; first | (apply ps_s rfl; exact xo_from rfl rfl) | exact xo_slcFrom rfl rfl) | (show OpV _ _ _ _ (Oper.mk _ (Op.slice _ _ none (some _) none) _ _ _ _) _ _; first | (apply ps_s rfl; exact xo_to rfl rfl) | exact xo_slcTo rfl rfl) | (show OpV _ _ _ _ (Oper.mk _ (Op.slice _ _ none (some _) (some _)) _ _ _ _) _ _; exact xo_slc3 rfl rfl rfl) ) | (show OpV _ _ _ _ (Oper.mk _ (Op.index _ _ _) _ _ _ _) _ _; exact xo_sindex rfl rfl) | (show OpV _ _ _ _ (Oper.mk _ (Op.convert _ _ _) _ _ _ _) _ _; first | (apply pc_i rfl; exact xo_conv rfl) | exact xo_convBytes rfl) | (show OpV _ _ _ _ (Oper.mk _ (Op.fieldAddr _ _ _) _ _ _ _) _ _; exact xo_fieldAddr rfl) | (show OpV _ _ _ _ (Oper.mk _ (Op.field _ _ _) _ _ _ _) _ _; exact xo_field rfl) | (show OpV _ _ _ _ (Oper.mk _ (Op.build _ _) _ _ _ _) _ _; exact xo_build rfl) | (show OpV _ _ _ _ (Oper.mk _ (Op.makeFunc _ _ _) _ _ _ _) _ _; exact ov_makeFunc rfl rfl) | (show OpV _ _ _ _ (Oper.mk _ (Op.nilCheck _) _ _ _ _) _ _; exact xo_nilCheck rfl)) : WK P ops (o :: rest) n E F C X Q tail k := wk_v hX hg ho hd hb hsel hF hv h
/-! ### a cell that is laid and filled -/
variable {w0 : World} {bs : List Nat} {H : List (Nat × Obj)} {M : Ghost}
/-- laid, whatever is in it -/
def FreshL (w0 : World) (bs : List Nat) (H : List (Nat × Obj)) (M : Ghost) (len : Nat) (T : TypeId) : Tell := fun v w => ∃ b c, v = .pointer (some ⟨b, 0, none⟩) ∧ List.length c = len ∧ St w0 bs ((b, .cells c.toArray T (0, 0)) :: H) M w
/-- laid, with what was stored -/
def FullC (w0 : World) (bs : List Nat) (H : List (Nat × Obj)) (M : Ghost) (us : List Value) (T : TypeId) : Tell := fun v w => ∃ b, v = .pointer (some ⟨b, 0, none⟩) ∧ St w0 bs ((b, .cells us.toArray T (0, 0)) :: H) M w
structure XA (w0 : World) (bs : List Nat) (H : List (Nat × Obj)) (M : Ghost) (us : List Value) (T : TypeId) (w w' : World) : Prop where
  any : ∀ b c, List.length c = us.length → St w0 bs ((b, .cells c.toArray T (0, 0)) :: H) M w → ∃ c', List.length c' = us.length ∧ St w0 bs ((b, .cells c'.toArray T (0, 0)) :: H) M w'
  full : ∀ b, St w0 bs ((b, .cells us.toArray T (0, 0)) :: H) M w → St w0 bs ((b, .cells us.toArray T (0, 0)) :: H) M w'
theorem XA.refl {us : List Value} {T : TypeId} (w : World) : XA w0 bs H M us T w w := ⟨fun b c h1 h2 => ⟨c, h1, h2⟩, fun _ h => h⟩
theorem XA.ext {us : List Value} {T : TypeId} (w w' : World) (h : Ext w w') : XA w0 bs H M us T w w' := ⟨fun b c h1 h2 => ⟨c, h1, h2.ext h⟩, fun _ h2 => h2.ext h⟩
theorem St.join {b b' : Nat} {o o' : Obj} {w : World} (h : St w0 bs ((b, o) :: H) M w) (h' : St w0 bs ((b', o') :: H) M w) (hne : b ≠ b') : St w0 bs ((b, o) :: (b', o') :: H) M w := by
  have hn := h.nodup
  have hn' := h'.nodup
  simp only [List.map_cons, List.nodup_cons] at hn hn'
  refine ⟨h.keep, fun p hp => ?_, fun p hp => ?_, ?_, h.laid, fun q r hm p hp => ?_⟩
  · rcases List.mem_cons.1 hp with rfl | hp
    · exact h.own _ List.mem_cons_self
    · exact h'.own p hp
  · rcases List.mem_cons.1 hp with rfl | hp
    · exact h.new _ List.mem_cons_self
    · exact h'.new p hp
  · simp only [List.map_cons, List.nodup_cons, List.mem_cons, not_or]
    exact ⟨⟨hne, hn.1⟩, hn'⟩
  · rcases List.mem_cons.1 hp with rfl | hp
    · exact h.apart q r hm _ List.mem_cons_self
    · exact h'.apart q r hm p hp
/-- the store -/
theorem XA.store {b : Nat} {c us : List Value} {T : TypeId} {w w' : World} (h : St w0 bs ((b, .cells c.toArray T (0, 0)) :: H) M w) (hk : Keep [b] w w') (h' : St w0 bs ((b, .cells us.toArray T (0, 0)) :: H) M w') : XA w0 bs H M us T w w' := by
  have key : ∀ (q : Nat) (o : Obj), q ≠ b → St w0 bs ((q, o) :: H) M w → St w0 bs ((q, o) :: H) M w' := fun q o hne hq => by
    have hj := St.join h hq (fun e => hne e.symm)
    have := hj.upd (o' := .cells us.toArray T (0, 0)) Upd.here hk (h'.own _ List.mem_cons_self)
    exact this.drop (List.sublist_cons_self _ _)
  refine ⟨fun q d hd hq => ?_, fun q hq => ?_⟩
  · by_cases e : q = b
    · subst e; exact ⟨us, rfl, h'⟩
    · exact ⟨d, hd, key q _ e hq⟩
  · by_cases e : q = b
    · subst e; exact h'
    · exact key q _ e hq
theorem wk_alloc {d : Nat} {T : TypeId} {z : Value} {us : List Value} {ty : TypeId} {pos : String} {af : Array Edge} {rest tail : List Oper} {F : REnv} {Q : Act → World → Prop} (hd : Nat.blt d n = true) (hE : look E d = none) (hz : ∀ w, (zeroValue T).run P w = .ok z w) (hl : z.cells.size = us.length)
    (h : WK P ops rest n E ((d, FreshL w0 bs H M us.length T) :: F) (St w0 bs H M) (XA w0 bs H M us T) Q tail k) : WK P ops (⟨some d, .alloc T, ty, pos, af, none⟩ :: rest) n E F (St w0 bs H M) (XA w0 bs H M us T) Q tail k := ⟨fun hdis G hG => by
  have hd : d < n := by simpa [Nat.blt_eq] using hd
  refine ⟨FreshL w0 bs H M us.length T, (fun d' hd' => by cases hd'; exact hd), fun u w w' hx hv => ?_, ⟨fun a w hw had has hHR => ⟨fun _ => ?_, fun hno => by simp [Region.wanted] at hno⟩⟩, ?_⟩
  · obtain ⟨b, c, h1, h2, h3⟩ := hv
    obtain ⟨c', h4, h5⟩ := hx.any b c h2 h3
    exact ⟨b, c', h1, h4, h5⟩
  · have hr : (execOp a.eval ⟨some d, .alloc T, ty, pos, af, none⟩).run P w = .ok (.value (.pointer (some ⟨w.heap.size, 0, none⟩))) { w with heap := w.heap.push (.cells z.cells T (0, 0)) } := by
      simp [execOp, Instr.alloc, hz, newVar, run_newRow]
    unfold Oper.wp
    rw [hr, Oper.upon_value]
    have h2 := hw.alloc (.cells z.cells T (0, 0))
    refine ⟨_, rfl, (fun h => by cases h), ⟨_, z.cells.toList, rfl, by simpa using hl, h2⟩, XA.ext _ _ ⟨rfl, rfl, rfl, by simp, fun b hb _ => by simp only [Array.getElem?_push]; rw [if_neg (by omega)]⟩, h2.drop (List.sublist_cons_self _ _)⟩
  · unfold putG putK
    refine h.run (fun s hs => ?_) _ ?_
    · by_cases e : d = s
      · subst e; exact hE
      · simp only [lookR, beq_no e, cond_false] at hs; exact hdis s hs
    · intro s
      by_cases e : d = s
      · subst e; simp [lookR]
      · simp only [lookR, beq_no e, cond_false]; exact hG s⟩
theorem wk_store {d s : Nat} {T t : TypeId} {v : Value} {us : List Value} {ty : TypeId} {pos : String} {af : Array Edge} {rest tail : List Oper} {F : REnv} {Q : Act → World → Prop} (hF : lookR F d = some (FreshL w0 bs H M us.length T)) (hs : look E s = some (true, v)) (hsz : (P.info? t).map (·.size) = some v.cells.size) (hv : v.cells.toList = us) (hp : us.all plainV = true)
    (h : WK P ops rest n E F (St w0 bs H M) (XA w0 bs H M us T) (fun a w => Q a w ∧ FullC w0 bs H M us T (a.tmps.getD d undef) w) tail k) : WK P ops (⟨none, .store t (.tmp d) (.tmp s), ty, pos, af, none⟩ :: rest) n E F (St w0 bs H M) (XA w0 bs H M us T) Q tail k := ⟨fun hdis G hG => by
  refine ⟨FullC w0 bs H M us T, (fun d' hd' => by cases hd'), fun u w w' hx hv => ?_, ⟨fun a w hw had has hHR => ⟨fun _ => ?_, fun hno => by simp [Region.wanted] at hno⟩⟩, ?_⟩
  · obtain ⟨b, h1, h3⟩ := hv
    exact ⟨b, h1, hx.full b h3⟩
  · have hmd : d ∈ (⟨none, .store t (.tmp d) (.tmp s), ty, pos, af, none⟩ : Oper).looksAt ops := by
      unfold Oper.looksAt
      exact List.mem_append_left _ (List.mem_filterMap.2 ⟨.tmp d, by simp [Op.operands], rfl⟩)
    have hms : s ∈ (⟨none, .store t (.tmp d) (.tmp s), ty, pos, af, none⟩ : Oper).looksAt ops := by
      unfold Oper.looksAt
      exact List.mem_append_left _ (List.mem_filterMap.2 ⟨.tmp s, by simp [Op.operands], rfl⟩)
    obtain ⟨u, hu, b, c, rfl, hc, hst⟩ := hHR d _ (by rw [hG, hF]) hmd
    have hFs : lookR F s = none := by
      cases hf : lookR F s with
      | none => rfl
      | some V => rw [hdis s (by simp [hf])] at hs; cases hs
    obtain ⟨u', hu', he⟩ := hHR s (exact1 true v) (by rw [hG, hFs, hs]; rfl) hms
    have hx : a.eval (.tmp d) = .pointer (some ⟨b, 0, none⟩) := by show a.tmps.getD d undef = _; simp [Array.getD_eq_getD_getElem?, hu]
    have hy : a.eval (.tmp s) = v := by
      have e1 : u' = v := he
      show a.tmps.getD s undef = _; simp [Array.getD_eq_getD_getElem?, hu', e1]
    obtain ⟨w', h1, h2, h3, h4⟩ := exec_store (P := P) (ty := ty) (pos := pos) (af := af) (g := none) (t := t) (l := us) (c := c) hst hx hy hsz hv (by rw [hc]) hp
    unfold Oper.wp
    rw [h1, Oper.upon_skip]
    refine ⟨a.tmps.getD d undef, rfl, fun _ => rfl, ⟨b, hx, h3⟩, XA.store hst h2 h3, h3.drop (List.sublist_cons_self _ _)⟩
  · exact h.run hdis G hG⟩
theorem wk_nil {d : Nat} {T : TypeId} {us : List Value} {tail : List Oper} {F : REnv} {Q : Act → World → Prop} (hF : lookR F d = some (FreshL w0 bs H M us.length T)) (h : ∀ b, WL P ops tail n ((d, true, .pointer (some ⟨b, 0, none⟩)) :: E) (St w0 bs ((b, .cells us.toArray T (0, 0)) :: H) M) k) :
    WK P ops [] n E F (St w0 bs H M) X (fun a w => Q a w ∧ FullC w0 bs H M us T (a.tmps.getD d undef) w) tail k := ⟨fun hdis G hG a w hw hq hA => by
  obtain ⟨_, b, hb, hst⟩ := hq
  obtain ⟨u, hu, hU⟩ := hA.2.2 d _ (by rw [hG, hF]) trivial
  have e : a.tmps.getD d undef = u := by simp [Array.getD_eq_getD_getElem?, hu]
  rw [e] at hb
  subst hb
  refine (h b).run a w ⟨hA.1, hA.2.1, fun i c v hi => ?_⟩ hst
  simp only [look] at hi
  by_cases e : d = i
  · subst e; simp at hi; obtain ⟨rfl, rfl⟩ := hi; exact hu
  · rw [beq_no e, cond_false] at hi
    have hFi : lookR F i = none := by
      cases hf : lookR F i with
      | none => rfl
      | some V => rw [hdis i (by simp [hf])] at hi; cases hi
    obtain ⟨u', hu', hU'⟩ := hA.2.2 i (exact1 c v) (by rw [hG]; simp [hFi, hi]) trivial
    rw [hu', hU']⟩
end
end Go.Eng
/-
  What the document writes: matricularef06.text, Write; matricularef24.one, written, cas, html, input; reasons.
-/
namespace Go.Proofs.YtgfbieplidpebaaGreatDoor
open Go.Eng Go.Pct Go.Xml Go.Cas
set_option maxRecDepth 10000
set_option linter.unusedSimpArgs false
set_option linter.unusedVariables false

variable {M : Ghost} {w0 w : World} {bs : List Nat} {H : List (Nat × Obj)}
theorem attrT_at {a : List Go.Pct.Pr} {i : Nat} (h : i < a.length) : attrT (a.take (i + 1)) = attrT (a.take i) ++ ([32] ++ (a.getD i default).1 ++ [61, 34] ++ esc (a.getD i default).2 ++ [34]) := by
  have e : a.getD i default = a[i] := by simp [h]
  unfold attrT
  rw [e, List.take_succ_eq_append_getElem h, List.flatMap_append]
  simp
theorem attrT_le (a : List Go.Pct.Pr) (i : Nat) : (attrT (a.take i)).length ≤ (attrT a).length := by
  conv => rhs; rw [← List.take_append_drop i a]
  unfold attrT
  rw [List.flatMap_append, List.length_append]
  omega
theorem textL_at {k : List Nd} {i : Nat} (h : i < k.length) : textL (k.take (i + 1)) = textL (k.take i) ++ textN k[i] := by
  rw [List.take_succ_eq_append_getElem h, textL_append]
  simp [textL]
theorem textL_tkl (k : List Nd) (i : Nat) : (textL (k.take i)).length ≤ (textL k).length := by
  conv => rhs; rw [← List.take_append_drop i k]
  rw [textL_append, List.length_append]
  omega
set_option maxHeartbeats 1000000 in
theorem rtext_ok : ∀ {D : Nat} {x : Nd} {vs : List Value}, NodeC M D x vs → (textN x).length ≤ 10000000000000 → ∀ (w : World), Laid M w → Calls Tryz.prog 86 #[.agg vs.toArray] w (RetE w (str (textN x)))
  | 0, _, _, h => h.elim
  | D + 1, .mk n a t k, vs, h => by
    intro hlen w hM
    obtain ⟨va, vk, rfl, h2, h3, hb1, hb2, hb3⟩ := h
    obtain ⟨ka, kcap, kb, ko, kcs, kT, kfz, rfl, h4, h5, h6, h7⟩ := Sl.open h3
    obtain ⟨aa, acap, ab, ao, acs, aT, afz, rfl, g1, g2, g3, g4⟩ := SlP.open h2
    have htx : textN (.mk n a t k) = ([60] ++ n ++ attrT a) ++ ([62] ++ esc t) ++ textL k ++ ([60, 47] ++ n ++ [62]) := by rw [textN]
    have hle := hlen
    rw [htx] at hle
    simp only [List.length_append, List.length_cons, List.length_nil] at hle
    rw [htx]
    clear htx
    refine fn1 hM Tryz.func86 ?_
    repeat' (first | refine sk ?_ | (refine gL ?_; first | refine xl_box rfl (fun _ => ?_)) | fail)
    rename_i b1
    refine wc_loop (α := { i : Nat // i ≤ a.length }) (fun x => [(1, true, .pointer (some ⟨b1, 0, none⟩)), (3, true, str ([60] ++ n ++ attrT (a.take x.1))), (4, true, i64 (x.1 : Int))]) (fun _ => St w [] [(b1, .cells [str n, .slice aa a.length acap, str t, .slice ka k.length kcap].toArray tNd (0, 0))] M) (fun x => a.length - x.1) ⟨0, by omega⟩ (by repeat (first | exact Sub.nil _ | refine Sub.cons (by first | rfl | (simp only [look]; rw [(show [60] ++ n ++ attrT (a.take 0) = [60] ++ n from by simp [attrT])]; rfl) | (simp only [look]; rw [(show [60] ++ n ++ attrT (a.take 0) = [60] ++ n from by simp [attrT])]; simp; done)) ?_)) (fun _ h => h) ?_
    rintro ⟨i, hi⟩
    dsimp only
    rcases Nat.lt_or_ge i a.length with hlt | hge
    · obtain ⟨rfl, hMb⟩ := g3 (by intro e; rw [e] at hlt; simp at hlt)
      have gi := g4 i hlt
      have hst := attrT_at hlt
      have hp3 := hb3 (a.getD i default) (getD_memP hlt)
      have hel := esc_length (a.getD i default).2
      have hat := attrT_le a i
      have hrs := fun {w : World} (hw : Laid M w) => rescape_ok hw (a.getD i default).2 (by omega)
      generalize a.getD i default = p at *
      have hst2 : [60] ++ n ++ attrT (a.take (i + 1)) = ((((([60] ++ n ++ attrT (a.take i)) ++ [32]) ++ p.1) ++ [61, 34]) ++ esc p.2) ++ [34] := by rw [hst]; simp
      have hsl : ([60] ++ n ++ attrT (a.take i)).length ≤ 10000000000000 := by simp only [List.length_append, List.length_cons, List.length_nil]; omega
      clear hst hat
      generalize [60] ++ n ++ attrT (a.take i) = s at *
      generalize esc p.2 = ev at *
      repeat' (first | refine sk ?_ | (refine gL ?_; first | refine xl_box rfl (fun _ => ?_)) | fail)
      refine wc_cond rfl (fun hc => ?_) (fun hc => by exfalso; simp at hc; omega)
      clear hc
      repeat' (first | refine sk ?_ | (refine gL ?_; first | refine xl_box rfl (fun _ => ?_)) | fail)
      refine wc_draw 19 (by kernel_rfl) rfl (by kernel_rfl) (fun _ _ h k => h.ext k) ?_
      repeat' (first | (refine gD ?_; first | refine yd_v rfl rfl rfl rfl rfl rfl ?_ | refine wd_v rfl rfl rfl rfl rfl rfl (by first | (show OpV _ _ _ _ (Oper.mk _ (Op.indexAddr _ _ _) _ _ _ _) _ _; exact ov_indexAddr (i := i) (b := ab) (o := ao) rfl rfl rfl pI pI rfl pZ (fun _ => rfl) pS) | (show OpV _ _ _ _ (Oper.mk _ (Op.load _ _) _ _ _ _) _ _; exact ov_load1M rfl pI rfl rfl (fun _ => hMb) (fun _ => gi.1)) | (show OpV _ _ _ _ (Oper.mk _ (Op.load _ _) _ _ _ _) _ _; exact ov_load1M rfl pI rfl rfl (fun _ => hMb) (fun _ => gi.2)) | (exact oc 102 Tryz.call102 (h := fun hcg w hw => hrs hw.laid))) ?_ | refine yd_new rfl rfl rfl rfl rfl rfl ?_ | refine wd_conv rfl rfl rfl rfl rfl rfl rfl rfl rfl rfl ?_) | (refine gE ?_; first | refine wd_nil ?_ | refine wd_nilF ?_) | (first | refine sk ?_ | (refine gL ?_; first | refine wl_v rfl rfl rfl (by first | (show OpV _ _ _ _ (Oper.mk _ (Op.indexAddr _ _ _) _ _ _ _) _ _; exact ov_indexAddr (i := i) (b := ab) (o := ao) rfl rfl rfl pI pI rfl pZ (fun _ => rfl) pS) | (show OpV _ _ _ _ (Oper.mk _ (Op.load _ _) _ _ _ _) _ _; exact ov_load1M rfl pI rfl rfl (fun _ => hMb) (fun _ => gi.1)) | (show OpV _ _ _ _ (Oper.mk _ (Op.load _ _) _ _ _ _) _ _; exact ov_load1M rfl pI rfl rfl (fun _ => hMb) (fun _ => gi.2)) | (exact oc 102 Tryz.call102 (h := fun hcg w hw => hrs hw.laid))) ?_ | refine xl_box rfl (fun _ => ?_)) | fail))
      exact wn_cut ⟨i + 1, by omega⟩ (by show a.length - (i + 1) < a.length - i; omega) (by repeat (first | exact Sub.nil _ | refine Sub.cons (by first | rfl | (simp only [look]; rw [hst2]; rfl) | (simp only [look]; rw [hst2]; simp; done)) ?_)) (fun _ h => h)
    obtain rfl : i = a.length := by omega
    rw [List.take_length]
    repeat' (first | refine sk ?_ | (refine gL ?_; first | refine xl_box rfl (fun _ => ?_)) | fail)
    refine wc_cond rfl (fun hc => by exfalso; simp at hc) (fun hc => ?_)
    clear hc
    have hel := esc_length t
    have hrs := fun {w : World} (hw : Laid M w) => rescape_ok hw t (by omega)
    have hl0 : ([60] ++ n ++ attrT a).length ≤ 10000000000000 := by simp only [List.length_append, List.length_cons, List.length_nil]; omega
    have hl1 : (([60] ++ n ++ attrT a) ++ [62] ++ esc t).length ≤ 10000000000000 := by simp only [List.length_append, List.length_cons, List.length_nil]; omega
    have hl2 : (([60] ++ n ++ attrT a) ++ [62] ++ esc t).length + (textL k).length + n.length + 3 ≤ 10000000000000 := by simp only [List.length_append, List.length_cons, List.length_nil]; omega
    have hres : ([60] ++ n ++ attrT a) ++ ([62] ++ esc t) ++ textL k ++ ([60, 47] ++ n ++ [62]) = (((([60] ++ n ++ attrT a) ++ [62] ++ esc t) ++ textL k) ++ [60, 47] ++ n) ++ [62] := by simp
    rw [hres]
    generalize [60] ++ n ++ attrT a = s0 at *
    generalize hev : esc t = ev at *
    clear hle hres
    repeat' (first | refine sk ?_ | (refine gL ?_; first | refine wl_v rfl rfl rfl (by first | (exact oc 102 Tryz.call102 (h := fun hcg w hw => hrs hw.laid))) ?_ | refine xl_box rfl (fun _ => ?_)) | fail)
    generalize s0 ++ [62] ++ ev = s1 at *
    refine wc_loop (α := { i : Nat // i ≤ k.length }) (fun x => [(1, true, .pointer (some ⟨b1, 0, none⟩)), (3, true, str (s1 ++ textL (k.take x.1))), (5, true, i64 (x.1 : Int))]) (fun _ => St w [] [(b1, .cells [str n, .slice aa a.length acap, str t, .slice ka k.length kcap].toArray tNd (0, 0))] M) (fun x => k.length - x.1) ⟨0, by omega⟩ (by repeat (first | exact Sub.nil _ | refine Sub.cons (by first | rfl | (simp only [look]; rw [(show s1 ++ textL (k.take 0) = s1 from by simp [textL])]; rfl) | (simp only [look]; rw [(show s1 ++ textL (k.take 0) = s1 from by simp [textL])]; simp; done)) ?_)) (fun _ h => h) ?_
    rintro ⟨i, hi⟩
    dsimp only
    rcases Nat.lt_or_ge i k.length with hlt | hge
    · obtain ⟨us, hu4, hus, hcells⟩ := h7 i hlt
      have hne : k ≠ [] := by intro e; subst e; simp at hlt
      obtain ⟨rfl, hMb⟩ := h6 hne
      have hti := textL_tkl k (i + 1)
      have hst := textL_at hlt
      rw [hst, List.length_append] at hti
      have ih := fun {w : World} (hw : Laid M w) => rtext_ok hus (by omega) _ hw
      have hst2 : s1 ++ textL (k.take (i + 1)) = (s1 ++ textL (k.take i)) ++ textN k[i] := by rw [hst]; simp
      have hsl : (s1 ++ textL (k.take i)).length ≤ 10000000000000 := by rw [List.length_append]; omega
      clear hst
      generalize s1 ++ textL (k.take i) = s at *
      generalize textN k[i] = tx at *
      generalize k[i] = y at *
      repeat' (first | refine sk ?_ | (refine gL ?_; first | refine xl_box rfl (fun _ => ?_)) | fail)
      refine wc_cond rfl (fun hc => ?_) (fun hc => by exfalso; simp at hc; omega)
      clear hc
      repeat' (first | refine sk ?_ | (refine gL ?_; first | refine wl_v rfl rfl rfl (by first | (show OpV _ _ _ _ (Oper.mk _ (Op.indexAddr _ _ _) _ _ _ _) _ _; exact ov_indexAddr (i := i) (b := kb) (o := ko) rfl rfl rfl pI pI rfl pZ (fun _ => rfl) pS) | (show OpV _ _ _ _ (Oper.mk _ (Op.load _ _) _ _ _ _) _ _; exact ov_loadSM (l := us) rfl pI rfl (by rw [hu4]; rfl) (fun _ => hMb) (fun _ j hj => hcells j (by rw [hu4] at hj; exact hj))) | (exact oc 86 Tryz.call86 (h := fun hcg w hw => ih hw.laid))) ?_ | refine xl_box rfl (fun _ => ?_)) | fail)
      exact wn_cut ⟨i + 1, by omega⟩ (by show k.length - (i + 1) < k.length - i; omega) (by repeat (first | exact Sub.nil _ | refine Sub.cons (by first | rfl | (simp only [look]; rw [hst2]; rfl) | (simp only [look]; rw [hst2]; simp; done)) ?_)) (fun _ h => h)
    obtain rfl : i = k.length := by omega
    rw [List.take_length]
    have hsl : (s1 ++ textL k).length + n.length + 3 ≤ 10000000000000 := by rw [List.length_append]; omega
    generalize s1 ++ textL k = s at *
    repeat' (first | refine sk ?_ | (refine gL ?_; first | refine xl_box rfl (fun _ => ?_)) | fail)
    refine wc_cond rfl (fun hc => by exfalso; simp at hc) (fun hc => ?_)
    repeat' (first | refine sk ?_ | (refine gL ?_; first | refine xl_box rfl (fun _ => ?_)) | fail)
    exact wr_weak (fun _ h => h.drop (List.nil_sublist _)) (wr_tmp rfl rfl rfl)
theorem rwrite_ok (hM : Laid M w) {D : Nat} {x : Nd} {vs : List Value} (h : NodeC M D x vs) (hlen : (textN x).length ≤ 10000000000000) : Calls Tryz.prog 74 #[.agg vs.toArray] w (RetE w (.tuple #[str (wr x), i64 (if rightN x = true then 0 else 1)])) := by
  obtain ⟨v0, v1, v2, v3, e⟩ := list4 h.four
  have hr := fun {w : World} (hw : Laid M w) => rright_ok hw h
  have ht := fun {w : World} (hw : Laid M w) => rtext_ok h hlen w hw
  subst e
  unfold wr
  cases hrt : rightN x with
  | true =>
    rw [hrt] at hr
    rw [if_pos rfl, if_pos rfl]
    generalize textN x = s at *
    refine fn1 hM Tryz.func74 ?_
    repeat' (first | (first | refine sk ?_ | (refine gL ?_; first | refine wl_v rfl rfl rfl (by first | (exact oc 83 Tryz.call83 (h := fun hcg w hw => hr hw.laid)) | (exact oc 86 Tryz.call86 (h := fun hcg w hw => ht hw.laid))) ?_ | refine xl_box rfl (fun _ => ?_)) | fail) | (refine wc_cond rfl (fun hc => ?_) (fun hc => ?_) <;> (try (simp only [bls] at hc)) <;> (try (exfalso; first | omega | contradiction))))
    exact wr_tmp2 rfl rfl rfl rfl rfl
  | false =>
    rw [hrt] at hr
    rw [if_neg (by simp), if_neg (by simp)]
    generalize textN x = s at *
    refine fn1 hM Tryz.func74 ?_
    repeat' (first | (first | refine sk ?_ | (refine gL ?_; first | refine wl_v rfl rfl rfl (by first | (exact oc 83 Tryz.call83 (h := fun hcg w hw => hr hw.laid)) | (exact oc 86 Tryz.call86 (h := fun hcg w hw => ht hw.laid))) ?_ | refine xl_box rfl (fun _ => ?_)) | fail) | (refine wc_cond rfl (fun hc => ?_) (fun hc => ?_) <;> (try (simp only [bls] at hc)) <;> (try (exfalso; first | omega | contradiction))))
    exact wr_tmp2 rfl rfl rfl rfl rfl
end Go.Proofs.YtgfbieplidpebaaGreatDoor
/-
  What services and browsers read, plainly: the document's readers, by the parts of an element, read as the program's, by writing again.
-/
namespace Go.Cas
open Go.Pct Go.Xml Go.Proofs.YtgfbieplidpebaaGreatDoor
set_option linter.unusedVariables false
set_option linter.unusedSimpArgs false

/-! ### the document's readers -/
def topN : Nd → List (List UInt8) → Option Nd
  | x, [] => some x
  | x, [p] => if nmN x = p then some x else none
  | x, p :: q :: l => if nmN x = p ∧ (kdN x).length = 1 then topN ((kdN x).getD 0 nodeZ) (q :: l) else none
def hdrOk (r : Rs) (kind : List UInt8) : Prop := r.status = 200 ∧ r.headers = [(sCT, kind)]
instance (r : Rs) (kind : List UInt8) : Decidable (hdrOk r kind) := by unfold hdrOk; exact inferInstance
def topR (r : Rs) (kind : List UInt8) (names : List (List UInt8)) : Option Nd := if hdrOk r kind then (match readP r.body with | some x => topN x names | none => none) else none
def leafOk (n : Nd) (name : List UInt8) : Prop := nmN n = name ∧ atN n = [] ∧ kdN n = []
instance (n : Nd) (name : List UInt8) : Decidable (leafOk n name) := by unfold leafOk; exact inferInstanceAs (Decidable (_ ∧ (_ ∧ kdN n = [])))
def headB (r : Rs) : Bool := match readP r.body with | some x => decide (atN x = [(sNs, sSpace)]) | none => false
def codesB (s : List UInt8) : Bool := (knownE s).isSome
def valN (n : Nd) : List UInt8 := ((atN n).getD 0 default).2
def failOk (n : Nd) (text : List UInt8) : Prop := (atN n).length = 1 ∧ ((atN n).getD 0 default).1 = sCode ∧ txN n = text ∧ kdN n = []
instance (n : Nd) (t : List UInt8) : Decidable (failOk n t) := by unfold failOk; exact inferInstanceAs (Decidable (_ ∧ (_ ∧ (_ ∧ kdN n = []))))
def rfailed (r : Rs) (name text : List UInt8) : List UInt8 × Bool := match topR r sXml [sResp, name] with
  | some n => if failOk n text then (if codesB (valN n) = true then (valN n, headB r) else ([], false)) else ([], false)
  | none => ([], false)
def kidN (k : List Nd) (i : Nat) : Nd := k.getD i nodeZ
def okA (k : List Nd) (i : Nat) (name : List UInt8) : Prop := i < k.length ∧ nmN (kidN k i) = name ∧ kdN (kidN k i) ≠ [] ∧ atN (kidN k i) = []
instance (k : List Nd) (i : Nat) (name : List UInt8) : Decidable (okA k i name) := by unfold okA; exact inferInstanceAs (Decidable (_ ∧ (_ ∧ (¬ kdN (kidN k i) = [] ∧ _))))
def okI (k : List Nd) (i : Nat) : Prop := i < k.length ∧ txN (kidN k i) ≠ [] ∧ leafOk (kidN k i) sIou
instance (k : List Nd) (i : Nat) : Decidable (okI k i) := by unfold okI; exact inferInstance
def goodA (x : Nd) : Bool := decide (4 ≤ (nmN x).length) && decide ((nmN x).take 4 = sCas) && decide (leafOk x (nmN x))
def goodP (x : Nd) : Bool := decide (leafOk x sProxy)
/-- behind the user: the attributes, what stands behind -/
def at1 (k : List Nd) : Nat := if okA k 1 sAttrs then 2 else 1
def kdA (k : List Nd) : List Nd := if okA k 1 sAttrs then kdN (kidN k 1) else []
def at2' (k : List Nd) : Nat := if okI k (at1 k) then at1 k + 1 else at1 k
def txI (k : List Nd) : List UInt8 := if okI k (at1 k) then txN (kidN k (at1 k)) else []
def kdP (k : List Nd) : List Nd := if okA k (at2' k) sProxies then kdN (kidN k (at2' k)) else []
def at3 (k : List Nd) : Nat := if okA k (at2' k) sProxies then at2' k + 1 else at2' k
def parsed (k : List Nd) : Suc := ⟨txN (kidN k 0), (kdA k).map (fun x => ((nmN x).drop 4, txN x)), (kdP k).map txN, txI k⟩
def parseOk (k : List Nd) : Bool := (kdA k).all goodA && (kdP k).all goodP && decide (at3 k = k.length)
def sucOk (r : Rs) (n : Nd) : Prop := headB r = true ∧ atN n = [] ∧ kdN n ≠ [] ∧ leafOk (kidN (kdN n) 0) sUser
instance (r : Rs) (n : Nd) : Decidable (sucOk r n) := by unfold sucOk; exact inferInstanceAs (Decidable (_ ∧ (_ ∧ (¬ kdN n = [] ∧ _))))
def rreadAnswerP (r : Rs) : Suc × List UInt8 × Bool :=
  if (rfailed r sAF sNotOk).2 = true then (suc0, (rfailed r sAF sNotOk).1, true)
  else match topR r sXml [sResp, sSuc] with
    | some n => if sucOk r n then (if parseOk (kdN n) = true then (parsed (kdN n), [], true) else (suc0, [], false)) else (suc0, [], false)
    | none => (suc0, [], false)
def rreadProxyP (r : Rs) : List UInt8 × List UInt8 × Bool :=
  if (rfailed r sPF sNoPt).2 = true then ([], (rfailed r sPF sNoPt).1, true)
  else match topR r sXml [sResp, sPS, sPT] with
    | some n => if headB r = true ∧ leafOk n sPT then (if wr (proxyN (txN n) 0) = r.body then (txN n, [], true) else ([], [], false)) else ([], [], false)
    | none => ([], [], false)
def bodyR (r : Rs) : Option (List Nd) := match topR r sHtmlT [sHtml, sBody] with
  | some _ => if atN (rd r) = [] ∧ atN (kidN (kdN (rd r)) 0) = [] then some (kdN (kidN (kdN (rd r)) 0)) else none
  | none => none
def wrongOf (l : List Nd) : List UInt8 := if l.length = 2 then txN (kidN l 0) else []
def rreadFormP (r : Rs) : List UInt8 × List UInt8 × List UInt8 × Bool := match bodyR r with
  | some l => if 1 ≤ l.length ∧ l.length ≤ 2 then
      (if formOk (kidN l (l.length - 1)) then
        (if wr (formPN (at2 (kidN l (l.length - 1)) 0) (at2 (kidN l (l.length - 1)) 1) (wrongOf l)) = r.body then (at2 (kidN l (l.length - 1)) 0, at2 (kidN l (l.length - 1)) 1, wrongOf l, true) else ([], [], [], false))
      else ([], [], [], false)) else ([], [], [], false)
  | none => ([], [], [], false)
def pageOk (l : List Nd) : Prop := l.length = 1 ∧ nmN (kidN l 0) = sP ∧ (atN (kidN l 0)).length = 1 ∧ ((atN (kidN l 0)).getD 0 default).1 = sClass ∧ kdN (kidN l 0) = []
instance (l : List Nd) : Decidable (pageOk l) := by unfold pageOk; exact inferInstanceAs (Decidable (_ ∧ (_ ∧ (_ ∧ (_ ∧ kdN (kidN l 0) = [])))))
def rreadPageP (r : Rs) : List UInt8 × List UInt8 × Bool := match bodyR r with
  | some l => if pageOk l then (valN (kidN l 0), txN (kidN l 0), true) else ([], [], false)
  | none => ([], [], false)

/-! ### what is written is what is read -/
theorem Nd.eta (x : Nd) : x = .mk (nmN x) (atN x) (txN x) (kdN x) := by cases x; rfl
theorem textN_ne (x : Nd) : textN x ≠ [] := by cases x; simp [textN]
theorem same_iff (r : Rs) (kind : List UInt8) (y : Nd) : sameR r (rsp kind y) = true ↔ hdrOk r kind ∧ readP r.body = some y := by
  unfold sameR rsp hdrOk
  simp only [Bool.and_eq_true, decide_eq_true_eq]
  constructor
  · rintro ⟨⟨⟨h1, h2⟩, h3⟩, h4⟩
    refine ⟨⟨h1, h4⟩, ?_⟩
    unfold wr at h2
    split at h2
    · rename_i hr
      rw [h2]; exact readP_back hr
    · exact absurd h2 h3
  · rintro ⟨⟨h1, h4⟩, h5⟩
    obtain ⟨h6, h7⟩ := readP_text h5
    refine ⟨⟨⟨h1, ?_⟩, ?_⟩, h4⟩
    · unfold wr; rw [if_pos h7, h6]
    · rw [← h6]; exact textN_ne y
theorem wr_iff (b : List UInt8) (y : Nd) (hb : b ≠ []) : wr y = b ↔ readP b = some y := by
  constructor
  · intro h
    unfold wr at h
    split at h
    · rename_i hr
      rw [← h]; exact readP_back hr
    · exact absurd h.symm hb
  · intro h
    obtain ⟨h6, h7⟩ := readP_text h
    unfold wr; rw [if_pos h7, h6]
theorem readP_ne {b : List UInt8} {x : Nd} (h : readP b = some x) : b ≠ [] := by
  rw [← (readP_text h).1]; exact textN_ne x
theorem own_of {b : List UInt8} {x : Nd} (h : readP b = some x) : ownN x = true := by
  have := (readP_text h).2
  unfold rightN at this
  simp only [Bool.and_eq_true] at this
  exact this.2
theorem own_kids {x : Nd} (h : ownN x = true) : ownL (kdN x) = true := by
  cases x
  simp only [ownN, Bool.and_eq_true] at h
  exact h.2
theorem own_mem : ∀ {l : List Nd}, ownL l = true → ∀ x ∈ l, ownN x = true
  | [], _, x, hx => by cases hx
  | y :: l, h, x, hx => by
    simp only [ownL, Bool.and_eq_true] at h
    rcases List.mem_cons.1 hx with rfl | hx
    · exact h.1
    · exact own_mem h.2 x hx
/-- what has others in it has no text -/
theorem own_text {x : Nd} (h : ownN x = true) (hk : kdN x ≠ []) : txN x = [] := by
  cases x with
  | mk n a t k =>
    simp only [ownN, Bool.and_eq_true, Bool.or_eq_true] at h
    rcases h.1.1.2 with h | h
    · simpa [txN] using h
    · exact absurd (by simpa [kdN] using h) hk
theorem kid_mem {k : List Nd} {i : Nat} (h : i < k.length) : kidN k i ∈ k := by
  unfold kidN
  have e : k.getD i nodeZ = k[i] := by simp [h]
  rw [e]; exact List.getElem_mem _
theorem leaf_eta {x : Nd} {n : List UInt8} (h : leafOk x n) : x = leafN n (txN x) := by
  obtain ⟨h1, h2, h3⟩ := h
  rw [Nd.eta x, h1, h2, h3]; rfl
theorem one_kid {k : List Nd} (h : k.length = 1) : k = [kidN k 0] := by
  obtain ⟨x, rfl⟩ := List.length_eq_one_iff.1 h
  rfl

/-! ### failures -/
theorem code_of {v : List UInt8} {i : Nat} (h : knownE v = some i) : codeE ((i + 1 : Nat) : Int) = v := by
  unfold knownE at h
  have := List.find?_some h
  simpa using this
theorem find_one (n : List UInt8) (a : List Pr) (t : List UInt8) (y : Nd) (p : List UInt8) (l : List (List UInt8)) : findN (.mk n a t [y]) (p :: l) = if nmN y = p then findN y l else none := by
  rw [findN]
  simp only [kdN, List.find?_cons, List.find?_nil]
  by_cases h : nmN y = p
  · simp [h]
  · simp [h]
theorem failed_cas {name text v : List UInt8} {i : Nat} (h : knownE v = some i) : failedT (casN (failN name text v)) name = (v, ((i + 1 : Nat) : Int), true) := by
  have e : findN (casN (failN name text v)) [name] = some (failN name text v) := by
    unfold casN
    rw [find_one, if_pos (show nmN (failN name text v) = name from rfl)]; rfl
  unfold failedT foundN
  rw [e]
  rw [if_pos ⟨rfl, rfl⟩]
  show (v, _) = _
  show (v, match knownE v with | some i => (((i + 1 : Nat) : Int), true) | none => (0, false)) = _
  rw [h]
/-- the program's look for a failure -/
theorem fail_iff {x : Nd} {name text : List UInt8} : ((failedT x name).2.2 = true ∧ x = casN (failN name text (codeE (failedT x name).2.1))) ↔ ∃ v i, knownE v = some i ∧ x = casN (failN name text v) := by
  constructor
  · rintro ⟨h1, h2⟩
    unfold failedT at h1
    split at h1
    · rename_i hc
      simp only at h1
      split at h1
      · rename_i i hk
        have hf : (failedT x name).2.1 = ((i + 1 : Nat) : Int) := by
          unfold failedT
          rw [if_pos hc]
          simp only [hk]
        rw [hf, code_of hk] at h2
        exact ⟨_, i, hk, h2⟩
      · cases h1
    · cases h1
  · rintro ⟨v, i, hk, rfl⟩
    rw [failed_cas hk]
    exact ⟨rfl, by rw [code_of hk]⟩
/-- the document's -/
theorem rfailed_iff {r : Rs} {name text v : List UInt8} (hk1 : failN name text v ≠ nodeZ) : rfailed r name text = (v, true) ↔ hdrOk r sXml ∧ (∃ i, knownE v = some i) ∧ readP r.body = some (casN (failN name text v)) := by
  constructor
  · intro h
    unfold rfailed topR at h
    by_cases hh : hdrOk r sXml
    · rw [if_pos hh] at h
      cases hx : readP r.body with
      | none => rw [hx] at h; cases h
      | some x =>
        have ho := own_of hx
        simp only [hx, topN] at h
        by_cases h1 : nmN x = sResp ∧ (kdN x).length = 1
        · rw [if_pos h1] at h
          by_cases h2 : nmN ((kdN x).getD 0 nodeZ) = name
          · rw [if_pos h2] at h
            simp only at h
            by_cases h3 : failOk ((kdN x).getD 0 nodeZ) text
            · rw [if_pos h3] at h
              by_cases h4 : codesB (valN ((kdN x).getD 0 nodeZ)) = true
              · rw [if_pos h4] at h
                simp only [Prod.mk.injEq] at h
                obtain ⟨h5, h6⟩ := h
                refine ⟨hh, ?_, ?_⟩
                · rw [← h5]; exact Option.isSome_iff_exists.1 h4
                · unfold headB at h6
                  rw [hx] at h6
                  have h6' : atN x = [(sNs, sSpace)] := by simpa using h6
                  have hk := one_kid h1.2
                  have ht := own_text ho (by rw [hk]; simp)
                  congr 1
                  rw [Nd.eta x, h1.1, h6', ht, hk]
                  unfold casN
                  congr 2
                  show kidN (kdN x) 0 = _
                  obtain ⟨g1, g2, g3, g4⟩ := h3
                  rw [Nd.eta (kidN (kdN x) 0)]
                  unfold failN
                  have ga : atN (kidN (kdN x) 0) = [(sCode, v)] := by
                    obtain ⟨p, hp⟩ := List.length_eq_one_iff.1 g1
                    show atN ((kdN x).getD 0 nodeZ) = _
                    unfold valN at h5
                    rw [hp] at g2 h5 ⊢
                    congr 1
                    exact Prod.ext g2 h5
                  rw [show nmN (kidN (kdN x) 0) = name from h2, ga, show txN (kidN (kdN x) 0) = text from g3, show kdN (kidN (kdN x) 0) = [] from g4]
              · rw [if_neg h4] at h; cases h
            · rw [if_neg h3] at h; cases h
          · rw [if_neg h2] at h; cases h
        · rw [if_neg h1] at h; cases h
    · rw [if_neg hh] at h; cases h
  · rintro ⟨hh, ⟨i, hi⟩, hx⟩
    unfold rfailed topR headB
    rw [if_pos hh, hx]
    have e : topN (casN (failN name text v)) [sResp, name] = some (failN name text v) := by
      rw [topN, if_pos ⟨rfl, rfl⟩]
      show topN (failN name text v) [name] = _
      rw [topN, if_pos (show nmN (failN name text v) = name from rfl)]
    simp only [e]
    rw [if_pos (show failOk (failN name text v) text from ⟨rfl, rfl, rfl, rfl⟩)]
    have e2 : valN (failN name text v) = v := rfl
    rw [e2, if_pos (by unfold codesB; rw [hi]; rfl)]
    congr 1
theorem rfailed_no {r : Rs} {name text : List UInt8} (h : ¬ (rfailed r name text).2 = true) : ∀ v i, ¬ (hdrOk r sXml ∧ knownE v = some i ∧ readP r.body = some (casN (failN name text v))) := by
  rintro v i ⟨h1, h2, h3⟩
  exact h (by rw [(rfailed_iff (by simp [failN, nodeZ])).2 ⟨h1, ⟨i, h2⟩, h3⟩])

/-! ### successes -/
theorem attrK_trim (a : List Pr) : (attrK a).map (fun k => (trimC (nmN k), txN k)) = a := by
  unfold attrK
  rw [List.map_map]
  have : (fun k => (trimC (nmN k), txN k)) ∘ (fun p : Pr => leafN (sCas ++ p.1) p.2) = id := by
    funext p
    show (trimC (sCas ++ p.1), p.2) = p
    have : trimC (sCas ++ p.1) = p.1 := by
      unfold trimC
      have hp : sCas.isPrefixOf (sCas ++ p.1) = true := by simp [sCas]
      rw [if_pos hp]; rfl
    rw [this]
  rw [this, List.map_id]
theorem proxK_map (a : List (List UInt8)) : (proxK a).map txN = a := by
  unfold proxK
  rw [List.map_map]
  have : txN ∘ (fun p => leafN sProxy p) = id := rfl
  rw [this, List.map_id]
theorem sucOf_back (s : Suc) : sucOf (casN (sucN s true)) = s := by
  have e1 : ∀ p, foundN (casN (sucN s true)) [sSuc, p] = ((sucK s true).find? (fun y => decide (nmN y = p))).getD nodeZ := fun p => by
    have e0 : findN (casN (sucN s true)) [sSuc, p] = findN (sucN s true) [p] := by
      unfold casN
      rw [find_one, if_pos (show nmN (sucN s true) = sSuc from rfl)]
    unfold foundN
    rw [e0, findN]
    show Option.getD (match (sucK s true).find? (fun y => decide (nmN y = p)) with | some y => findN y [] | none => none) nodeZ = _
    cases (sucK s true).find? (fun y => decide (nmN y = p)) <;> rfl
  have n1 : ∀ n k, nmN (wrapN n k) = n := fun _ _ => rfl
  have n3 : ∀ n t, nmN (leafN n t) = n := fun _ _ => rfl
  have g1 : ∀ n k, kdN (wrapN n k) = k := fun _ _ => rfl
  have g2 : ∀ n t, kdN (leafN n t) = [] := fun _ _ => rfl
  have g5 : ∀ n k, txN (wrapN n k) = [] := fun _ _ => rfl
  have g6 : ∀ n t, txN (leafN n t) = t := fun _ _ => rfl
  have z1 : kdN nodeZ = [] := rfl
  have z2 : txN nodeZ = [] := rfl
  have d1 : ¬ sUser = sAttrs := by decide
  have d2 : ¬ sUser = sProxies := by decide
  have d3 : ¬ sUser = sIou := by decide
  have d4 : ¬ sAttrs = sProxies := by decide
  have d5 : ¬ sAttrs = sIou := by decide
  have d6 : ¬ sIou = sProxies := by decide
  have d7 : ¬ sIou = sAttrs := by decide
  have d8 : ¬ sProxies = sAttrs := by decide
  have d9 : ¬ sProxies = sIou := by decide
  unfold sucOf
  simp only [e1]
  obtain ⟨u, a, p, i⟩ := s
  by_cases h1 : a = [] <;> by_cases h2 : i = [] <;> by_cases h3 : p = [] <;>
    simp [sucK, k1, k2, k3, h1, h2, h3, n1, n3, g1, g2, g5, g6, z1, z2, d1, d2, d3, d4, d5, d6, d7, d8, d9, attrK_trim, proxK_map]
theorem attrs_back {k : List Nd} (h : k.all goodA = true) : attrK (k.map (fun x => ((nmN x).drop 4, txN x))) = k := by
  unfold attrK
  rw [List.map_map]
  conv => rhs; rw [← List.map_id k]
  refine List.map_congr_left fun x hx => ?_
  have := List.all_eq_true.1 h x hx
  unfold goodA at this
  simp only [Bool.and_eq_true, decide_eq_true_eq] at this
  obtain ⟨⟨h1, h2⟩, h3⟩ := this
  show leafN (sCas ++ (nmN x).drop 4) (txN x) = x
  rw [← h2, List.take_append_drop]
  exact (leaf_eta h3).symm
theorem prox_back {k : List Nd} (h : k.all goodP = true) : proxK (k.map txN) = k := by
  unfold proxK
  rw [List.map_map]
  conv => rhs; rw [← List.map_id k]
  refine List.map_congr_left fun x hx => ?_
  have := List.all_eq_true.1 h x hx
  unfold goodP at this
  simp only [decide_eq_true_eq] at this
  exact (leaf_eta this).symm
theorem okA_eta {k : List Nd} {i : Nat} {name : List UInt8} (h : okA k i name) (ho : ownL k = true) : kidN k i = wrapN name (kdN (kidN k i)) := by
  obtain ⟨h1, h2, h3, h4⟩ := h
  have ht := own_text (own_mem ho _ (kid_mem h1)) h3
  conv => lhs; rw [Nd.eta (kidN k i), h2, h4, ht]
  rfl
theorem drop_kid {k : List Nd} {i : Nat} (h : i < k.length) : k.drop i = kidN k i :: k.drop (i + 1) := by
  unfold kidN
  have e : k.getD i nodeZ = k[i] := by simp [h]
  rw [e]; exact List.drop_eq_getElem_cons h
/-- what the document's parts make -/
theorem parse_back {k : List Nd} (hk : k ≠ []) (ho : ownL k = true) (hu : leafOk (kidN k 0) sUser) (h : parseOk k = true) : k = sucK (parsed k) true := by
  unfold parseOk at h
  simp only [Bool.and_eq_true, decide_eq_true_eq] at h
  obtain ⟨⟨hA, hP⟩, h3⟩ := h
  have hl : 0 < k.length := List.length_pos_iff.2 hk
  have d0 : k = kidN k 0 :: k.drop 1 := by
    have := drop_kid hl
    simpa using this
  have s1 : k.drop 1 = k1 (parsed k) true ++ k.drop (at1 k) := by
    unfold k1
    by_cases h : okA k 1 sAttrs
    · have ek : kdA k = kdN (kidN k 1) := by unfold kdA; rw [if_pos h]
      have ea : (parsed k).attrs = (kdN (kidN k 1)).map (fun x => ((nmN x).drop 4, txN x)) := by unfold parsed; rw [ek]
      have e1 : at1 k = 2 := by unfold at1; rw [if_pos h]
      rw [ek] at hA
      rw [if_pos ⟨rfl, by rw [ea]; simpa using h.2.2.1⟩, ea, attrs_back hA, e1, ← okA_eta h ho, drop_kid h.1]
      rfl
    · have ek : kdA k = [] := by unfold kdA; rw [if_neg h]
      have ea : (parsed k).attrs = [] := by unfold parsed; rw [ek]; rfl
      have e1 : at1 k = 1 := by unfold at1; rw [if_neg h]
      rw [if_neg (fun h => h.2 ea), e1]; rfl
  have s2 : k.drop (at1 k) = k2 (parsed k) ++ k.drop (at2' k) := by
    unfold k2
    by_cases h : okI k (at1 k)
    · have ei : (parsed k).iou = txN (kidN k (at1 k)) := by unfold parsed txI; rw [if_pos h]
      have e1 : at2' k = at1 k + 1 := by unfold at2'; rw [if_pos h]
      rw [if_pos (by rw [ei]; exact h.2.1), ei, e1, ← leaf_eta h.2.2, drop_kid h.1]
      rfl
    · have ei : (parsed k).iou = [] := by unfold parsed txI; rw [if_neg h]
      have e1 : at2' k = at1 k := by unfold at2'; rw [if_neg h]
      rw [if_neg (fun h => h ei), e1]; rfl
  have s3 : k.drop (at2' k) = k3 (parsed k) ++ k.drop (at3 k) := by
    unfold k3
    by_cases h : okA k (at2' k) sProxies
    · have ek : kdP k = kdN (kidN k (at2' k)) := by unfold kdP; rw [if_pos h]
      have ea : (parsed k).proxies = (kdN (kidN k (at2' k))).map txN := by unfold parsed; rw [ek]
      have e1 : at3 k = at2' k + 1 := by unfold at3; rw [if_pos h]
      rw [ek] at hP
      rw [if_pos (by rw [ea]; simpa using h.2.2.1), ea, prox_back hP, e1, ← okA_eta h ho, drop_kid h.1]
      rfl
    · have ek : kdP k = [] := by unfold kdP; rw [if_neg h]
      have ea : (parsed k).proxies = [] := by unfold parsed; rw [ek]; rfl
      have e1 : at3 k = at2' k := by unfold at3; rw [if_neg h]
      rw [if_neg (fun h => h ea), e1]; rfl
  rw [h3, List.drop_length, List.append_nil] at s3
  have eu : kidN k 0 = leafN sUser (parsed k).user := leaf_eta hu
  unfold sucK
  rw [← eu, List.append_assoc, List.append_assoc, ← s3, ← s2, ← s1]
  exact d0
theorem good_attrK (a : List Pr) : (attrK a).all goodA = true := by
  refine List.all_eq_true.2 fun x hx => ?_
  obtain ⟨p, _, rfl⟩ := List.mem_map.1 hx
  unfold goodA
  simp only [Bool.and_eq_true, decide_eq_true_eq]
  refine ⟨⟨?_, ?_⟩, rfl, rfl, rfl⟩
  · show 4 ≤ (sCas ++ p.1).length
    rw [List.length_append]; have : sCas.length = 4 := rfl; omega
  · show (sCas ++ p.1).take 4 = sCas
    exact List.take_left' rfl
theorem good_proxK (a : List (List UInt8)) : (proxK a).all goodP = true := by
  refine List.all_eq_true.2 fun x hx => ?_
  obtain ⟨p, _, rfl⟩ := List.mem_map.1 hx
  unfold goodP
  simp only [decide_eq_true_eq]
  exact ⟨rfl, rfl, rfl⟩
theorem attrK_nil {a : List Pr} (h : a ≠ []) : attrK a ≠ [] := by unfold attrK; simpa using h
theorem proxK_nil {a : List (List UInt8)} (h : a ≠ []) : proxK a ≠ [] := by unfold proxK; simpa using h
theorem attrK_map (a : List Pr) : (attrK a).map (fun x => ((nmN x).drop 4, txN x)) = a := by
  unfold attrK
  rw [List.map_map]
  have : (fun x => ((nmN x).drop 4, txN x)) ∘ (fun p : Pr => leafN (sCas ++ p.1) p.2) = id := by
    funext p; rfl
  rw [this, List.map_id]
/-- of what is written the document's parts are these -/
theorem parse_forth (s : Suc) : parseOk (sucK s true) = true ∧ parsed (sucK s true) = s := by
  have d3 : ¬ sIou = sAttrs := by decide
  have d4 : ¬ sProxies = sAttrs := by decide
  have d5 : ¬ sProxies = sIou := by decide
  obtain ⟨u, a, p, i⟩ := s
  have n1 : ∀ n k, nmN (wrapN n k) = n := fun _ _ => rfl
  have n3 : ∀ n t, nmN (leafN n t) = n := fun _ _ => rfl
  have g1 : ∀ n k, kdN (wrapN n k) = k := fun _ _ => rfl
  have g2 : ∀ n t, kdN (leafN n t) = [] := fun _ _ => rfl
  have g3 : ∀ n k, atN (wrapN n k) = [] := fun _ _ => rfl
  have g4 : ∀ n t, atN (leafN n t) = [] := fun _ _ => rfl
  have g5 : ∀ n k, txN (wrapN n k) = [] := fun _ _ => rfl
  have g6 : ∀ n t, txN (leafN n t) = t := fun _ _ => rfl
  by_cases h1 : a = [] <;> by_cases h2 : i = [] <;> by_cases h3 : p = []
  all_goals
    first
    | subst h1
    | have h1' := attrK_nil h1
  all_goals
    first
    | subst h2
    | skip
  all_goals
    first
    | subst h3
    | have h3' := proxK_nil h3
  all_goals
    simp [sucK, k1, k2, k3, parseOk, parsed, at1, kdA, at2', txI, kdP, at3, okA, okI, kidN, leafOk, n1, n3, g1, g2, g3, g4, g5, g6, good_attrK, good_proxK, attrK_map, proxK_map, d3, d4, d5, *]
end Go.Cas
/-
  The two ways of reading are one; what is shown can be.
-/
namespace Go.Cas
open Go.Pct Go.Xml Go.Proofs.YtgfbieplidpebaaGreatDoor
set_option linter.unusedVariables false
set_option linter.unusedSimpArgs false

theorem rd_of {r : Rs} {x : Nd} (h : readP r.body = some x) : rd r = x := by unfold rd; rw [h]; rfl
theorem rd_none {r : Rs} (h : readP r.body = none) : rd r = nodeZ := by unfold rd; rw [h]; rfl
/-- what the program takes for a failure -/
theorem failP_iff {r : Rs} {name text : List UInt8} (F : Int → Nd) (hF : ∀ e, e ≠ 0 → F e = casN (failN name text (codeE e))) : ((failedT (rd r) name).2.2 = true ∧ sameR r (rsp sXml (F (failedT (rd r) name).2.1)) = true) ↔ ∃ v i, knownE v = some i ∧ hdrOk r sXml ∧ readP r.body = some (casN (failN name text v)) := by
  have key : (failedT (rd r) name).2.2 = true → (failedT (rd r) name).2.1 ≠ 0 := by
    intro h
    unfold failedT at h ⊢
    split at h
    · rename_i hc
      rw [if_pos hc]
      simp only at h ⊢
      split at h
      · rename_i i hk
        simp only [hk]
        omega
      · cases h
    · cases h
  constructor
  · rintro ⟨h1, h2⟩
    rw [same_iff, hF _ (key h1)] at h2
    have hr := rd_of h2.2
    obtain ⟨v, i, hk, hx⟩ := fail_iff.1 ⟨h1, hr⟩
    exact ⟨v, i, hk, h2.1, by rw [← hx, hr]; exact h2.2⟩
  · rintro ⟨v, i, hk, hh, hx⟩
    have hr := rd_of hx
    obtain ⟨h1, h2⟩ := (fail_iff (x := rd r)).2 ⟨v, i, hk, hr⟩
    refine ⟨h1, ?_⟩
    rw [same_iff, hF _ (key h1), ← h2, hr]
    exact ⟨hh, hx⟩
theorem rfailP_iff {r : Rs} {name text : List UInt8} : (rfailed r name text).2 = true ↔ ∃ v i, knownE v = some i ∧ hdrOk r sXml ∧ readP r.body = some (casN (failN name text v)) := by
  constructor
  · intro h
    obtain ⟨h1, ⟨i, h2⟩, h3⟩ := (rfailed_iff (r := r) (name := name) (text := text) (v := (rfailed r name text).1) (by simp [failN, nodeZ])).1 (Prod.ext rfl h)
    exact ⟨_, i, h2, h1, h3⟩
  · rintro ⟨v, i, hk, hh, hx⟩
    rw [(rfailed_iff (by simp [failN, nodeZ])).2 ⟨hh, ⟨i, hk⟩, hx⟩]
theorem answer_fail (e : Int) (h : e ≠ 0) (at' : Bool) (s : Suc) : answerN s e at' = casN (failN sAF sNotOk (codeE e)) := by unfold answerN; rw [if_neg h]
theorem proxy_fail (e : Int) (h : e ≠ 0) (pt : List UInt8) : proxyN pt e = casN (failN sPF sNoPt (codeE e)) := by unfold proxyN; rw [if_neg h]
theorem answer_suc (at' : Bool) (s : Suc) : answerN s 0 at' = casN (sucN s at') := by unfold answerN; rw [if_pos rfl]
theorem proxy_suc (pt : List UInt8) : proxyN pt 0 = casN (wrapN sPS [leafN sPT pt]) := by unfold proxyN; rw [if_pos rfl]
theorem top_cas {y : Nd} {n : List UInt8} {l : List (List UInt8)} : topN (casN y) (sResp :: n :: l) = topN y (n :: l) := by
  rw [topN, if_pos ⟨rfl, rfl⟩]; rfl
theorem top1 (y : Nd) (n : List UInt8) : topN y [n] = if nmN y = n then some y else none := by rw [topN]
/-- what has one kid of a name, with the one attribute -/
theorem cas_of {r : Rs} {x : Nd} {n : List UInt8} (hx : readP r.body = some x) (h1 : nmN x = sResp ∧ (kdN x).length = 1) (hh : headB r = true) : x = casN (kidN (kdN x) 0) := by
  unfold headB at hh
  rw [hx] at hh
  have h6 : atN x = [(sNs, sSpace)] := by simpa using hh
  have hk := one_kid h1.2
  have ht := own_text (own_of hx) (by rw [hk]; simp)
  conv => lhs; rw [Nd.eta x, h1.1, h6, ht, hk]
  rfl
theorem topR_some {r : Rs} {kind : List UInt8} {names : List (List UInt8)} {n : Nd} (h : topR r kind names = some n) : hdrOk r kind ∧ ∃ x, readP r.body = some x ∧ topN x names = some n := by
  unfold topR at h
  split at h
  · rename_i hh
    split at h
    · rename_i x hx
      exact ⟨hh, x, hx, h⟩
    · cases h
  · cases h
theorem top_two {x n : Nd} {p q : List UInt8} (h : topN x [p, q] = some n) : (nmN x = p ∧ (kdN x).length = 1) ∧ n = kidN (kdN x) 0 ∧ nmN n = q := by
  rw [topN] at h
  split at h
  · rename_i h1
    rw [top1] at h
    split at h
    · rename_i h2
      cases h
      exact ⟨h1, rfl, h2⟩
    · cases h
  · cases h
theorem head_cas {r : Rs} {y : Nd} (hx : readP r.body = some (casN y)) : headB r = true := by
  unfold headB; rw [hx]; simp [casN, atN]
/-- ReadAnswer -/
theorem rreadAnswer_eq (r : Rs) : rreadAnswerP r = readAnswerP r := by
  unfold rreadAnswerP readAnswerP
  by_cases hP : ∃ v i, knownE v = some i ∧ hdrOk r sXml ∧ readP r.body = some (casN (failN sAF sNotOk v))
  · rw [if_pos (rfailP_iff.2 hP), if_pos ((failP_iff (fun e => answerN suc0 e true) (fun e h => answer_fail e h true suc0)).2 hP)]
    obtain ⟨v, i, hk, hh, hx⟩ := hP
    rw [(rfailed_iff (by simp [failN, nodeZ])).2 ⟨hh, ⟨i, hk⟩, hx⟩, rd_of hx, failed_cas hk]
  · rw [if_neg (fun h => hP (rfailP_iff.1 h)), if_neg (fun h => hP ((failP_iff (fun e => answerN suc0 e true) (fun e h => answer_fail e h true suc0)).1 h))]
    simp only [answer_suc]
    by_cases hS : sameR r (rsp sXml (casN (sucN (sucOf (rd r)) true))) = true
    · rw [if_pos hS]
      rw [same_iff] at hS
      obtain ⟨hh, hx⟩ := hS
      generalize sucOf (rd r) = s at *
      have e : topR r sXml [sResp, sSuc] = some (sucN s true) := by
        unfold topR
        rw [if_pos hh, hx]
        show topN (casN (sucN s true)) _ = _
        rw [top_cas, top1, if_pos (show nmN (sucN s true) = sSuc from rfl)]
      rw [e]
      simp only
      have hk : kdN (sucN s true) = sucK s true := rfl
      rw [if_pos (show sucOk r (sucN s true) from ⟨head_cas hx, rfl, by rw [hk]; simp [sucK], by rw [hk]; exact ⟨rfl, rfl, rfl⟩⟩), hk, if_pos (parse_forth s).1, (parse_forth s).2]
    · rw [if_neg hS]
      rw [same_iff] at hS
      cases ht : topR r sXml [sResp, sSuc] with
      | none => rfl
      | some n =>
        simp only
        by_cases h1 : sucOk r n
        · rw [if_pos h1]
          by_cases h2 : parseOk (kdN n) = true
          · exfalso
            obtain ⟨hh, x, hx, htop⟩ := topR_some ht
            obtain ⟨g1, g2, g3⟩ := top_two htop
            obtain ⟨j1, j2, j3, j4⟩ := h1
            have hc := cas_of (n := sSuc) hx g1 j1
            rw [← g2] at hc
            have ho : ownN n = true := own_mem (own_kids (own_of hx)) n (by rw [g2]; exact kid_mem (by omega))
            have hb := parse_back j3 (own_kids ho) j4 h2
            have ht := own_text ho j3
            have hn : n = sucN (parsed (kdN n)) true := by
              conv => lhs; rw [Nd.eta n, g3, j2, ht, hb]
              rfl
            apply hS
            refine ⟨hh, ?_⟩
            rw [rd_of hx, hx, hc, hn, sucOf_back]
          · rw [if_neg h2]
        · rw [if_neg h1]
theorem found_pt (pt : List UInt8) : txN (foundN (casN (wrapN sPS [leafN sPT pt])) [sPS, sPT]) = pt := by
  unfold foundN
  unfold casN
  rw [find_one, if_pos (show nmN (wrapN sPS [leafN sPT pt]) = sPS from rfl)]
  unfold wrapN
  rw [find_one, if_pos (show nmN (leafN sPT pt) = sPT from rfl)]
  rfl
/-- ReadProxy -/
theorem rreadProxy_eq (r : Rs) : rreadProxyP r = readProxyP r := by
  unfold rreadProxyP readProxyP
  by_cases hP : ∃ v i, knownE v = some i ∧ hdrOk r sXml ∧ readP r.body = some (casN (failN sPF sNoPt v))
  · rw [if_pos (rfailP_iff.2 hP), if_pos ((failP_iff (fun e => proxyN [] e) (fun e h => proxy_fail e h [])).2 hP)]
    obtain ⟨v, i, hk, hh, hx⟩ := hP
    rw [(rfailed_iff (by simp [failN, nodeZ])).2 ⟨hh, ⟨i, hk⟩, hx⟩, rd_of hx, failed_cas hk]
  · rw [if_neg (fun h => hP (rfailP_iff.1 h)), if_neg (fun h => hP ((failP_iff (fun e => proxyN [] e) (fun e h => proxy_fail e h [])).1 h))]
    by_cases hS : sameR r (rsp sXml (proxyN (txN (foundN (rd r) [sPS, sPT])) 0)) = true
    · rw [if_pos hS]
      rw [same_iff] at hS
      obtain ⟨hh, hx⟩ := hS
      generalize txN (foundN (rd r) [sPS, sPT]) = pt at *
      rw [proxy_suc] at hx
      have e : topR r sXml [sResp, sPS, sPT] = some (leafN sPT pt) := by
        unfold topR
        rw [if_pos hh, hx]
        show topN (casN (wrapN sPS [leafN sPT pt])) _ = _
        rw [top_cas, topN, if_pos ⟨rfl, rfl⟩]
        show topN (leafN sPT pt) [sPT] = _
        rw [top1, if_pos (show nmN (leafN sPT pt) = sPT from rfl)]
      rw [e]
      simp only
      have ht : txN (leafN sPT pt) = pt := rfl
      rw [if_pos ⟨head_cas hx, rfl, rfl, rfl⟩, ht, if_pos ((wr_iff _ _ (readP_ne hx)).2 (by rw [proxy_suc]; exact hx))]
    · rw [if_neg hS]
      rw [same_iff] at hS
      cases ht : topR r sXml [sResp, sPS, sPT] with
      | none => rfl
      | some n =>
        simp only
        by_cases h1 : headB r = true ∧ leafOk n sPT
        · rw [if_pos h1]
          by_cases h2 : wr (proxyN (txN n) 0) = r.body
          · exfalso
            obtain ⟨hh, x, hx, htop⟩ := topR_some ht
            have hb := (wr_iff _ _ (readP_ne hx)).1 h2
            apply hS
            refine ⟨hh, ?_⟩
            have hb' := hb
            rw [proxy_suc] at hb'
            rw [rd_of hb', found_pt]
            exact hb
          · rw [if_neg h2]
        · rw [if_neg h1]

/-! ### forms, pages -/
def formK (a b c : List UInt8) : List Nd := if c = [] then [formN a b] else [leafN sP c, formN a b]
theorem form_eq (a b c : List UInt8) : formPN a b c = htmlN (formK a b c) := rfl
theorem found_html (k : List Nd) (p : List UInt8) : foundN (htmlN k) [sBody, p] = (k.find? (fun y => decide (nmN y = p))).getD nodeZ := by
  have e0 : findN (htmlN k) [sBody, p] = findN (wrapN sBody k) [p] := by
    unfold htmlN wrapN
    rw [find_one, if_pos (show nmN (Nd.mk sBody [] [] k) = sBody from rfl)]
  unfold foundN
  rw [e0, findN]
  show Option.getD (match k.find? (fun y => decide (nmN y = p)) with | some y => findN y [] | none => none) nodeZ = _
  cases k.find? (fun y => decide (nmN y = p)) <;> rfl
theorem form_found (a b c : List UInt8) : foundN (formPN a b c) [sBody, sForm] = formN a b := by
  have d1 : ¬ sP = sForm := by decide
  have n1 : nmN (formN a b) = sForm := rfl
  have n2 : nmN (leafN sP c) = sP := rfl
  rw [form_eq, found_html]
  unfold formK
  by_cases h : c = [] <;> simp [h, n1, n2, d1]
theorem form_p (a b c : List UInt8) : txN (foundN (formPN a b c) [sBody, sP]) = c := by
  have d1 : ¬ sForm = sP := by decide
  have n1 : nmN (formN a b) = sForm := rfl
  have n2 : nmN (leafN sP c) = sP := rfl
  have z : txN nodeZ = [] := rfl
  have t : txN (leafN sP c) = c := rfl
  rw [form_eq, found_html]
  unfold formK
  by_cases h : c = []
  · simp [h, n1, d1, z]
  · simp [h, n2, t]
theorem formOk_form (a b : List UInt8) : formOk (formN a b) := ⟨rfl, rfl, rfl⟩
theorem at2_form (a b : List UInt8) : at2 (formN a b) 0 = a ∧ at2 (formN a b) 1 = b := ⟨rfl, rfl⟩
theorem top_html (k : List Nd) : topN (htmlN k) [sHtml, sBody] = some (wrapN sBody k) := by
  unfold htmlN
  rw [topN, if_pos ⟨rfl, rfl⟩]
  show topN (wrapN sBody k) [sBody] = _
  rw [top1, if_pos (show nmN (wrapN sBody k) = sBody from rfl)]
theorem bodyR_html {r : Rs} {k : List Nd} (hh : hdrOk r sHtmlT) (hx : readP r.body = some (htmlN k)) : bodyR r = some k := by
  unfold bodyR topR
  rw [if_pos hh, hx]
  simp only [top_html]
  rw [rd_of hx, if_pos ⟨rfl, rfl⟩]; rfl
theorem bodyR_some {r : Rs} {k : List Nd} (h : bodyR r = some k) : hdrOk r sHtmlT ∧ ∃ x, readP r.body = some x ∧ (k ≠ [] → x = htmlN k) := by
  unfold bodyR at h
  split at h
  · rename_i n ht
    obtain ⟨hh, x, hx, htop⟩ := topR_some ht
    obtain ⟨g1, g2, g3⟩ := top_two htop
    rw [rd_of hx] at h
    split at h
    · rename_i h2
      cases h
      refine ⟨hh, x, hx, fun hk => ?_⟩
      have ho := own_of hx
      have hk1 := one_kid g1.2
      have ht := own_text ho (by rw [hk1]; simp)
      have ho2 : ownN (kidN (kdN x) 0) = true := own_mem (own_kids ho) _ (kid_mem (by omega))
      have ht2 := own_text ho2 hk
      conv => lhs; rw [Nd.eta x, g1.1, h2.1, ht, hk1]
      unfold htmlN wrapN
      congr 2
      conv => lhs; rw [Nd.eta (kidN (kdN x) 0), ← g2, g3, g2, h2.2, ht2]
    · cases h
  · cases h
/-- ReadForm -/
theorem rreadForm_eq (r : Rs) : rreadFormP r = readFormP r := by
  unfold rreadFormP readFormP
  by_cases hS : ∃ a b c, hdrOk r sHtmlT ∧ readP r.body = some (formPN a b c)
  · obtain ⟨a, b, c, hh, hx⟩ := hS
    have hw := (wr_iff _ _ (readP_ne hx)).2 hx
    have hs := (same_iff r sHtmlT (formPN a b c)).2 ⟨hh, hx⟩
    rw [bodyR_html hh (by rw [hx, form_eq]), rd_of hx, form_found, form_p, (at2_form a b).1, (at2_form a b).2]
    rw [if_pos (show formOk (formN a b) ∧ sameR r (rsp sHtmlT (formPN a b c)) = true from ⟨formOk_form a b, hs⟩)]
    simp only
    have hl : (1 ≤ (formK a b c).length ∧ (formK a b c).length ≤ 2) ∧ kidN (formK a b c) ((formK a b c).length - 1) = formN a b ∧ wrongOf (formK a b c) = c := by
      unfold formK
      split
      · rename_i h; exact ⟨⟨by simp, by simp⟩, rfl, h.symm⟩
      · exact ⟨⟨by simp, by simp⟩, rfl, rfl⟩
    rw [if_pos hl.1, hl.2.1, hl.2.2, (at2_form a b).1, (at2_form a b).2, if_pos (formOk_form a b), if_pos hw]
  · rw [if_neg (fun h => hS ⟨_, _, _, (same_iff _ _ _).1 h.2⟩)]
    cases hb : bodyR r with
    | none => rfl
    | some l =>
      simp only
      by_cases h1 : 1 ≤ l.length ∧ l.length ≤ 2
      · rw [if_pos h1]
        by_cases h2 : formOk (kidN l (l.length - 1))
        · rw [if_pos h2]
          rw [if_neg]
          intro h3
          obtain ⟨hh, x, hx, _⟩ := bodyR_some hb
          exact hS ⟨_, _, _, hh, (wr_iff _ _ (readP_ne hx)).1 h3⟩
        · rw [if_neg h2]
      · rw [if_neg h1]
theorem page_p (a b : List UInt8) : foundN (pageN a b) [sBody, sP] = .mk sP [(sClass, a)] b [] := by
  unfold pageN
  rw [found_html]
  have n1 : nmN (Nd.mk sP [(sClass, a)] b []) = sP := rfl
  simp [n1]
/-- ReadPage -/
theorem rreadPage_eq (r : Rs) : rreadPageP r = readPageP r := by
  unfold rreadPageP readPageP
  by_cases hS : ∃ a b, hdrOk r sHtmlT ∧ readP r.body = some (pageN a b)
  · obtain ⟨a, b, hh, hx⟩ := hS
    rw [bodyR_html hh (by rw [hx]; rfl), rd_of hx, page_p]
    simp only
    rw [if_pos (show pageOk [Nd.mk sP [(sClass, a)] b []] from ⟨rfl, rfl, rfl, rfl, rfl⟩), if_pos ⟨rfl, (same_iff _ _ _).2 ⟨hh, hx⟩⟩]
    rfl
  · rw [if_neg (fun h => hS ⟨_, _, (same_iff _ _ _).1 h.2⟩)]
    cases hb : bodyR r with
    | none => rfl
    | some l =>
      simp only
      by_cases h1 : pageOk l
      · exfalso
        obtain ⟨h1, h2, h3, h4, h5⟩ := h1
        obtain ⟨hh, x, hx, hk⟩ := bodyR_some hb
        have hl := one_kid h1
        refine hS ⟨valN (kidN l 0), txN (kidN l 0), hh, ?_⟩
        rw [hx, hk (by rw [hl]; simp), pageN]
        congr 2
        conv => lhs; rw [hl]
        congr 1
        obtain ⟨p, hp⟩ := List.length_eq_one_iff.1 h3
        conv => lhs; rw [Nd.eta (kidN l 0), h2, h5, hp]
        unfold valN
        rw [hp] at h4 ⊢
        congr 2
        exact Prod.ext h4 rfl
      · rw [if_neg h1]

/-! ### what is shown can be -/
theorem own_leaf {n t : List UInt8} (hn : nameB n = true) (ht : shwB t = true) : ownN (leafN n t) = true := by
  simp [leafN, ownN, ownL, attrsB, hn, ht]
theorem own_wrap {n : List UInt8} {k : List Nd} (hn : nameB n = true) (hk : ownL k = true) : ownN (wrapN n k) = true := by
  have : shwB [] = true := by decide
  simp [wrapN, ownN, attrsB, hn, hk, this]
theorem own_app {k l : List Nd} (hk : ownL k = true) (hl : ownL l = true) : ownL (k ++ l) = true := by
  induction k with
  | nil => exact hl
  | cons x k ih =>
    simp only [ownL, Bool.and_eq_true] at hk
    rw [List.cons_append]
    simp only [ownL, Bool.and_eq_true]
    exact ⟨hk.1, ih hk.2⟩
theorem own_all {l : List Nd} (h : ∀ x ∈ l, ownN x = true) : ownL l = true := by
  induction l with
  | nil => rfl
  | cons x l ih =>
    simp only [ownL, Bool.and_eq_true]
    exact ⟨h x (List.mem_cons_self ..), ih (fun y hy => h y (List.mem_cons_of_mem _ hy))⟩
theorem cnt_app (k l : List Nd) : cntL (k ++ l) = cntL k + cntL l := by
  induction k with
  | nil => simp [cntL]
  | cons x k ih => rw [List.cons_append, cntL, cntL, ih]; omega
theorem dp_app (k l : List Nd) : dpL (k ++ l) = max (dpL k) (dpL l) := by
  induction k with
  | nil => simp [dpL]
  | cons x k ih => rw [List.cons_append, dpL, dpL, ih]; omega
theorem cnt_leaf (n t : List UInt8) : cntN (leafN n t) = 1 := rfl
theorem dp_leaf (n t : List UInt8) : dpN (leafN n t) = 1 := rfl
theorem leaves {l : List Nd} (h : ∀ x ∈ l, cntN x = 1 ∧ dpN x = 1) : cntL l = l.length ∧ dpL l ≤ 1 := by
  induction l with
  | nil => simp [cntL, dpL]
  | cons x l ih =>
    have h1 := h x (List.mem_cons_self ..)
    have h2 := ih (fun y hy => h y (List.mem_cons_of_mem _ hy))
    rw [cntL, dpL, List.length_cons]
    omega
theorem right_of {x : Nd} (hd : dpN x ≤ 8) (hc : cntN x ≤ 200) (ho : ownN x = true) : rightN x = true := by
  unfold rightN
  rw [fewN_yes x 200 8 (by omega) (by omega), ho]
  simp; omega
theorem own_cas {x : Nd} (h : ownN x = true) : ownN (casN x) = true := by
  have h1 : nameB sResp = true := by decide +kernel
  have h2 : shwB ([] : List UInt8) = true := by decide
  have h3 : attrsB [(sNs, sSpace)] = true := by decide +kernel
  simp [casN, ownN, ownL, h, h1, h2, h3]
theorem cnt_cas (x : Nd) : cntN (casN x) = 1 + cntN x ∧ dpN (casN x) = 1 + dpN x := by
  unfold casN; simp [cntN, cntL, dpN, dpL]
theorem cnt_wrap (n : List UInt8) (k : List Nd) : cntN (wrapN n k) = 1 + cntL k ∧ dpN (wrapN n k) = 1 + dpL k := by
  unfold wrapN; simp [cntN, dpN]
/-- what is shown of a success -/
structure Shw (s : Suc) : Prop where
  user : shwB s.user = true
  iou : shwB s.iou = true
  attrs : ∀ p ∈ s.attrs, nameB (sCas ++ p.1) = true ∧ shwB p.2 = true
  prox : ∀ p ∈ s.proxies, shwB p = true
theorem own_suc {s : Suc} (h : Shw s) (at' : Bool) : ownN (sucN s at') = true := by
  have hA : ownL (attrK s.attrs) = true := own_all fun x hx => by
    obtain ⟨p, hp, rfl⟩ := List.mem_map.1 hx
    exact own_leaf (h.attrs p hp).1 (h.attrs p hp).2
  have hP : ownL (proxK s.proxies) = true := own_all fun x hx => by
    obtain ⟨p, hp, rfl⟩ := List.mem_map.1 hx
    exact own_leaf (by decide +kernel) (h.prox p hp)
  refine own_wrap (by decide +kernel) (own_app (own_app (own_app ?_ ?_) ?_) ?_)
  · simp [ownL, own_leaf (show nameB sUser = true by decide +kernel) h.user]
  · unfold k1; split
    · simp [ownL, own_wrap (show nameB sAttrs = true by decide +kernel) hA]
    · rfl
  · unfold k2; split
    · simp [ownL, own_leaf (show nameB sIou = true by decide +kernel) h.iou]
    · rfl
  · unfold k3; split
    · simp [ownL, own_wrap (show nameB sProxies = true by decide +kernel) hP]
    · rfl
theorem cnt_suc {s : Suc} (at' : Bool) : cntN (sucN s at') ≤ 5 + s.attrs.length + s.proxies.length ∧ dpN (sucN s at') ≤ 3 := by
  have hA := leaves (l := attrK s.attrs) (fun x hx => by
    obtain ⟨p, _, rfl⟩ := List.mem_map.1 hx
    exact ⟨rfl, rfl⟩)
  have hP := leaves (l := proxK s.proxies) (fun x hx => by
    obtain ⟨p, _, rfl⟩ := List.mem_map.1 hx
    exact ⟨rfl, rfl⟩)
  have la : (attrK s.attrs).length = s.attrs.length := by simp [attrK]
  have lp : (proxK s.proxies).length = s.proxies.length := by simp [proxK]
  have c1 : cntL (k1 s at') ≤ 1 + s.attrs.length ∧ dpL (k1 s at') ≤ 2 := by
    unfold k1; split
    · have := cnt_wrap sAttrs (attrK s.attrs)
      simp only [cntL, dpL]; omega
    · simp [cntL, dpL]
  have c2 : cntL (k2 s) ≤ 1 ∧ dpL (k2 s) ≤ 1 := by
    unfold k2; split
    · simp [cntL, dpL, cnt_leaf, dp_leaf]
    · simp [cntL, dpL]
  have c3 : cntL (k3 s) ≤ 1 + s.proxies.length ∧ dpL (k3 s) ≤ 2 := by
    unfold k3; split
    · have := cnt_wrap sProxies (proxK s.proxies)
      simp only [cntL, dpL]; omega
    · simp [cntL, dpL]
  have := cnt_wrap sSuc (sucK s at')
  unfold sucN
  rw [this.1, this.2]
  unfold sucK
  rw [cnt_app, cnt_app, cnt_app, dp_app, dp_app, dp_app]
  simp only [cntL, dpL, cnt_leaf, dp_leaf]
  omega
theorem shw_code (e : Int) : shwB (codeE e) = true := by
  unfold codeE
  repeat' split
  all_goals decide +kernel
theorem attrs_one {n v : List UInt8} (hn : nameB n = true) (hv : shwB v = true) : attrsB [(n, v)] = true := by
  simp [attrsB, attrOk, hn, hv]
theorem attrs_two {n v m u : List UInt8} (hn : nameB n = true) (hv : shwB v = true) (hm : nameB m = true) (hu : shwB u = true) (hne : n ≠ m) : attrsB [(n, v), (m, u)] = true := by
  have : List.range 2 = [0, 1] := rfl
  simp [attrsB, attrOk, hn, hv, hm, hu, this, hne]
theorem own_fail {name s c : List UInt8} (hn : nameB name = true) (hs : shwB s = true) (hc : shwB c = true) : ownN (failN name s c) = true := by
  simp [failN, ownN, ownL, hn, hs, attrs_one (show nameB sCode = true by decide +kernel) hc]
theorem right_answer {s : Suc} (h : Shw s) (hn : s.attrs.length ≤ 20) (hp : s.proxies.length ≤ 20) (e : Int) (at' : Bool) : rightN (answerN s e at') = true := by
  unfold answerN
  have hc := cnt_cas
  split
  · have := cnt_suc (s := s) at'
    have := cnt_cas (sucN s at')
    exact right_of (by omega) (by omega) (own_cas (own_suc h at'))
  · have := cnt_cas (failN sAF sNotOk (codeE e))
    have e1 : cntN (failN sAF sNotOk (codeE e)) = 1 := rfl
    have e2 : dpN (failN sAF sNotOk (codeE e)) = 1 := rfl
    exact right_of (by omega) (by omega) (own_cas (own_fail (by decide +kernel) (by decide +kernel) (shw_code e)))
theorem right_proxy {pt : List UInt8} (h : shwB pt = true) (e : Int) : rightN (proxyN pt e) = true := by
  unfold proxyN
  split
  · have := cnt_cas (wrapN sPS [leafN sPT pt])
    have := cnt_wrap sPS [leafN sPT pt]
    have e1 : cntL [leafN sPT pt] = 1 := rfl
    have e2 : dpL [leafN sPT pt] = 1 := rfl
    exact right_of (by omega) (by omega) (own_cas (own_wrap (by decide +kernel) (by simp [ownL, own_leaf (show nameB sPT = true by decide +kernel) h])))
  · have := cnt_cas (failN sPF sNoPt (codeE e))
    have e1 : cntN (failN sPF sNoPt (codeE e)) = 1 := rfl
    have e2 : dpN (failN sPF sNoPt (codeE e)) = 1 := rfl
    exact right_of (by omega) (by omega) (own_cas (own_fail (by decide +kernel) (by decide +kernel) (shw_code e)))
theorem own_html {k : List Nd} (h : ownL k = true) : ownN (htmlN k) = true :=
  own_wrap (by decide +kernel) (by simp [ownL, own_wrap (show nameB sBody = true by decide +kernel) h])
theorem cnt_html (k : List Nd) : cntN (htmlN k) = 2 + cntL k ∧ dpN (htmlN k) = 2 + dpL k := by
  unfold htmlN wrapN
  simp only [cntN, cntL, dpN, dpL]
  omega
theorem own_input {a b : List UInt8} (ha : shwB a = true) (hb : shwB b = true) : ownN (inputN a b) = true := by
  have h2 : shwB ([] : List UInt8) = true := by decide
  have h3 : nameB sInput = true := by decide +kernel
  simp [inputN, ownN, ownL, h2, h3, attrs_two (show nameB sName = true by decide +kernel) ha (show nameB sValue = true by decide +kernel) hb (by decide)]
theorem own_form {a b : List UInt8} (ha : shwB a = true) (hb : shwB b = true) : ownN (formN a b) = true := by
  have h2 : shwB ([] : List UInt8) = true := by decide
  have h3 : nameB sForm = true := by decide +kernel
  have h4 : attrsB [(sAction, sLogin), (sMethod, sPost)] = true := by decide +kernel
  have l1 : shwB sLt = true := by decide +kernel
  have l2 : shwB sService = true := by decide +kernel
  have l3 : shwB sUn = true := by decide +kernel
  have l4 : shwB sPw = true := by decide +kernel
  simp [formN, ownN, ownL, h2, h3, h4, own_input l1 ha, own_input l2 hb, own_input l3 h2, own_input l4 h2]
theorem right_form {a b c : List UInt8} (ha : shwB a = true) (hb : shwB b = true) (hc : shwB c = true) : rightN (formPN a b c) = true := by
  rw [form_eq]
  have hf := own_form ha hb
  have hp := own_leaf (show nameB sP = true by decide +kernel) hc
  have h1 : cntL (formK a b c) ≤ 6 ∧ dpL (formK a b c) ≤ 2 := by
    unfold formK
    split
    · exact ⟨by show 5 ≤ 6; omega, by show 2 ≤ 2; omega⟩
    · exact ⟨by show 6 ≤ 6; omega, by show 2 ≤ 2; omega⟩
  have := cnt_html (formK a b c)
  refine right_of (by omega) (by omega) (own_html ?_)
  unfold formK
  split <;> simp [ownL, hf, hp]
theorem right_page {a b : List UInt8} (ha : shwB a = true) (hb : shwB b = true) : rightN (pageN a b) = true := by
  unfold pageN
  have := cnt_html [.mk sP [(sClass, a)] b []]
  have e1 : cntL [Nd.mk sP [(sClass, a)] b []] = 1 := rfl
  have e2 : dpL [Nd.mk sP [(sClass, a)] b []] = 1 := rfl
  refine right_of (by omega) (by omega) (own_html ?_)
  have h3 : nameB sP = true := by decide +kernel
  simp [ownL, ownN, hb, h3, attrs_one (show nameB sClass = true by decide +kernel) ha]
end Go.Cas
/-
  matricularef21.Code, Same; matricularef24.Few, Shown; matricularef05.Texts; matricularef06.Find.
-/
namespace Go.Proofs.YtgfbieplidpebaaGreatDoor
open Go.Eng Go.Pct Go.Xml Go.Cas
set_option maxRecDepth 10000
set_option linter.unusedSimpArgs false
set_option linter.unusedVariables false

variable {M : Ghost} {w0 w : World} {bs : List Nat} {H : List (Nat × Obj)}
theorem rcode_ok (hM : Laid M w) (z : Int) : Calls Tryz.prog 38 #[i64 z] w (RetE w (str (codeE z))) := by
  refine fn1 hM Tryz.func38 ?_
  repeat' (first | refine sk ?_ | (refine wc_cond rfl (fun hc => ?_) (fun hc => ?_) <;> (try (simp only [bls] at hc)) <;> (try (exfalso; first | omega | contradiction))))
  all_goals exact wr_tmp rfl rfl (by unfold codeE; simp [*] <;> rfl)
theorem txts_ok (hM : Laid M w) {u v : Value} {l m : List (List UInt8)} (hu : SlS M u l) (hv : SlS M v m) : Calls Tryz.prog 59 #[u, v] w (RetE w (.bool (decide (l = m)))) := by
  obtain ⟨a, cap, b, o, cs, T, fz, rfl, h1, h2, h3, h4⟩ := hu.open
  obtain ⟨a', cap', b', o', cs', T', fz', rfl, h1', h2', h3', h4'⟩ := hv.open
  refine fn2 hM Tryz.func59 ?_
  repeat' (first | refine sk ?_ | (refine wc_cond rfl (fun hc => ?_) (fun hc => ?_) <;> (try (simp only [bls] at hc)) <;> (try (exfalso; first | omega | contradiction))))
  · refine wr_tmp rfl rfl (congrArg Value.bool ?_)
    symm
    rw [decide_eq_false_iff_not]
    rintro rfl; exact hc rfl
  · refine wc_loop (α := { i : Nat // i ≤ l.length ∧ ∀ j, j < i → l.getD j default = m.getD j default }) (fun x => [(0, true, .slice a l.length cap), (1, true, .slice a' m.length cap'), (5, true, i64 (x.1 : Int))]) (fun x => St w [] [] M) (fun x => l.length - x.1) ⟨0, by omega, by intro j hj; omega⟩ pE (fun _ h => h) ?_
    rintro ⟨i, hi, hall⟩
    dsimp only
    repeat' (first | refine sk ?_ | (refine wc_cond rfl (fun hc => ?_) (fun hc => ?_) <;> (try (simp only [bls] at hc)) <;> (try (exfalso; first | omega | contradiction))))
    · refine wc_weak (E' := [(0, true, .slice a l.length cap), (1, true, .slice a' m.length cap'), (5, true, i64 (i : Int))]) pE (fun _ h => h) ?_
      refine wc_draw 9 (by kernel_rfl) rfl (by kernel_rfl) (fun _ _ h k => h.ext k) ?_
      repeat' (first | (refine gD ?_; first | refine yd_v rfl rfl rfl rfl rfl rfl ?_ | refine wd_v rfl rfl rfl rfl rfl rfl (by first | (show OpV _ _ _ _ (Oper.mk _ (Op.indexAddr _ _ _) _ _ _ _) _ _; first | exact ov_indexAddr rfl rfl pK pI pI rfl pZ (fun hcg => (h3 (by intro h; subst h; simp only [List.length_nil] at *; omega)).1) pS | exact ov_indexAddr rfl rfl pK pI pI rfl pZ (fun hcg => (h3' (by intro h; subst h; simp only [List.length_nil] at *; omega)).1) pS) | (show OpV _ _ _ _ (Oper.mk _ (Op.load _ _) _ _ _ _) _ _; first | exact ov_load1M rfl pI rfl rfl (fun hcg => (h3 (by intro h; subst h; simp only [List.length_nil] at *; omega)).2) (fun hcg => h4 i (by omega)) | exact ov_load1M rfl pI rfl rfl (fun hcg => (h3' (by intro h; subst h; simp only [List.length_nil] at *; omega)).2) (fun hcg => h4' i (by omega)))) ?_ | refine yd_new rfl rfl rfl rfl rfl rfl ?_ | refine wd_conv rfl rfl rfl rfl rfl rfl rfl rfl rfl rfl ?_) | (refine gE ?_; first | refine wd_nil ?_ | refine wd_nilF ?_) | (first | refine sk ?_ | (refine gL ?_; first | refine wl_v rfl rfl rfl (by first | (show OpV _ _ _ _ (Oper.mk _ (Op.indexAddr _ _ _) _ _ _ _) _ _; first | exact ov_indexAddr rfl rfl pK pI pI rfl pZ (fun hcg => (h3 (by intro h; subst h; simp only [List.length_nil] at *; omega)).1) pS | exact ov_indexAddr rfl rfl pK pI pI rfl pZ (fun hcg => (h3' (by intro h; subst h; simp only [List.length_nil] at *; omega)).1) pS) | (show OpV _ _ _ _ (Oper.mk _ (Op.load _ _) _ _ _ _) _ _; first | exact ov_load1M rfl pI rfl rfl (fun hcg => (h3 (by intro h; subst h; simp only [List.length_nil] at *; omega)).2) (fun hcg => h4 i (by omega)) | exact ov_load1M rfl pI rfl rfl (fun hcg => (h3' (by intro h; subst h; simp only [List.length_nil] at *; omega)).2) (fun hcg => h4' i (by omega)))) ?_) | fail))
      repeat' (first | refine sk ?_ | (refine wc_cond rfl (fun hc => ?_) (fun hc => ?_) <;> (try (simp only [bls] at hc)) <;> (try (exfalso; first | omega | contradiction))))
      · refine wr_tmp rfl rfl (congrArg Value.bool ?_)
        symm
        rw [decide_eq_false_iff_not]
        rintro rfl
        simp at hc
      · refine wn_cut ⟨i + 1, by omega, ?_⟩ (by show l.length - (i + 1) < l.length - i; omega) pE (fun _ h => h)
        intro j hj
        by_cases h : j = i
        · subst h; exact hc
        · exact hall j (by omega)
    · refine wr_tmp rfl rfl (congrArg Value.bool ?_)
      symm
      rw [decide_eq_true_iff]
      apply List.ext_getElem (by omega)
      intro j hj hj'
      have := hall j (by omega)
      simpa [hj, hj'] using this
/-- are two successes one? -/
def sameSu (s t : Suc) : Bool := decide (s.user = t.user) && decide (s.iou = t.iou) && decide (s.attrs = t.attrs) && decide (s.proxies = t.proxies)
theorem sameSu_self (s : Suc) : sameSu s s = true := by simp [sameSu]
theorem rsames_ok (hM : Laid M w) {s t : Suc} {v u : Value} (hs : SucC M s v) (ht : SucC M t u) : Calls Tryz.prog 30 #[v, u] w (RetE w (.bool (sameSu s t))) := by
  obtain ⟨a, l, c, a', l', c', rfl, h1, h2⟩ := hs
  obtain ⟨b, m, d, b', m', d', rfl, g1, g2⟩ := ht
  have hp := fun {w : World} (hw : Laid M w) => pairs_ok hw h1 g1
  have hq := fun {w : World} (hw : Laid M w) => txts_ok hw h2 g2
  unfold sameSu
  generalize decide (s.attrs = t.attrs) = x at *
  generalize decide (s.proxies = t.proxies) = y at *
  refine fn2 hM Tryz.func30 ?_
  repeat' (first | refine sk ?_ | (refine gL ?_; first | refine wl_v rfl rfl rfl (by first | (exact oc 31 Tryz.call31 (h := fun hcg w hw => hp hw.laid)) | (exact oc 59 Tryz.call59 (h := fun hcg w hw => hq hw.laid))) ?_ | refine xl_box rfl (fun _ => ?_)) | fail)
  exact wr_weak (fun _ h => h.drop (List.nil_sublist _)) (wr_tmp rfl rfl rfl)
def fewPr (p : Go.Pct.Pr) : Bool := decide (p.1.length ≤ 80) && decide (p.2.length ≤ 80)
def fewSu (s : Suc) : Bool := s.attrs.all fewPr && s.proxies.all (fun p => decide (p.length ≤ 120)) && (decide (s.user.length ≤ 80) && decide (s.iou.length ≤ 80) && decide (s.attrs.length ≤ 20) && decide (s.proxies.length ≤ 20))
def shwPr (p : Go.Pct.Pr) : Bool := nameB (sCas ++ p.1) && shwB p.2
def shwSu (s : Suc) : Bool := s.attrs.all shwPr && s.proxies.all shwB && (shwB s.user && shwB s.iou)
theorem all_getD {α : Type} [Inhabited α] {l : List α} {p : α → Bool} (h : ∀ j, j < l.length → p (l.getD j default) = true) : l.all p = true := by
  rw [List.all_eq_true]
  intro x hx
  obtain ⟨j, hj, rfl⟩ := List.mem_iff_getElem.1 hx
  have := h j hj
  simpa [hj] using this
theorem all_no {α : Type} [Inhabited α] {l : List α} {p : α → Bool} {i : Nat} (hi : i < l.length) (h : p (l.getD i default) = false) : l.all p = false := by
  rw [List.all_eq_false]
  refine ⟨l[i], List.getElem_mem _, ?_⟩
  have e : l.getD i default = l[i] := by simp [hi]
  rw [← e, h]; simp
/-- so far all are -/
structure AllQ (α : Type) [Inhabited α] (l : List α) (p : α → Bool) where
  i : Nat
  hi : i ≤ l.length
  all : ∀ j, j < i → p (l.getD j default) = true
def AllQ.zero {α : Type} [Inhabited α] {l : List α} {p : α → Bool} : AllQ α l p := ⟨0, Nat.zero_le _, fun j hj => by omega⟩
theorem all_step {α : Type} [Inhabited α] {l : List α} {p : α → Bool} {i : Nat} (h : ∀ j, j < i → p (l.getD j default) = true) (hp : p (l.getD i default) = true) : ∀ j, j < i + 1 → p (l.getD j default) = true := by
  intro j hj
  by_cases e : j = i
  · subst e; exact hp
  · exact h j (by omega)
theorem fews_ok (hM : Laid M w) {s : Suc} {v : Value} (hs : SucC M s v) : Calls Tryz.prog 7 #[v] w (RetE w (.bool (fewSu s))) := by
  obtain ⟨va, vl, vc, va', vl', vc', rfl, hA, hP⟩ := hs
  obtain ⟨a, cap, b, o, cs, T, fz, e1, g1, g2, g3, g4⟩ := hA.open
  obtain ⟨a', cap', b', o', cs', T', fz', e2, f1, f2, f3, f4⟩ := hP.open
  cases e1; cases e2
  refine fn1 hM Tryz.func7 ?_
  repeat' (first | refine sk ?_ | (refine gL ?_; first | refine xl_box rfl (fun _ => ?_)) | fail)
  rename_i b1
  refine wc_loop (α := AllQ _ s.attrs fewPr) (fun x => [(1, true, .pointer (some ⟨b1, 0, none⟩)), (3, true, i64 (x.i : Int))]) (fun x => St w [] [(b1, .cells [str s.user, .slice va s.attrs.length vc, .slice va' s.proxies.length vc', str s.iou].toArray 25 (0, 0))] M) (fun x => s.attrs.length - x.i) AllQ.zero pE (fun _ h => h) ?_
  rintro ⟨i, hi, hall⟩
  dsimp only
  rcases Nat.lt_or_ge i s.attrs.length with hlt | hge
  · obtain ⟨rfl, hMb⟩ := g3 (by intro e; rw [e] at hlt; simp at hlt)
    have gi := g4 i hlt
    have hno := fun h => all_no (p := fewPr) hlt h
    have hst := fun h => all_step (p := fewPr) hall h
    unfold fewPr at hno hst
    generalize s.attrs.getD i default = p at *
    repeat' (first | (first | refine sk ?_ | (refine gL ?_; first | refine wl_v rfl rfl rfl (by first | (show OpV _ _ _ _ (Oper.mk _ (Op.indexAddr _ _ _) _ _ _ _) _ _; exact ov_indexAddr (i := i) (b := b) (o := o) rfl rfl rfl pI pI rfl pZ (fun _ => rfl) pS) | (show OpV _ _ _ _ (Oper.mk _ (Op.load _ _) _ _ _ _) _ _; first | exact ov_load1M rfl pI rfl rfl (fun _ => hMb) (fun _ => gi.1) | exact ov_load1M rfl pI rfl rfl (fun _ => hMb) (fun _ => gi.2))) ?_ | refine xl_box rfl (fun _ => ?_)) | fail) | (refine wc_cond rfl (fun hc => ?_) (fun hc => ?_) <;> (try (simp only [bls] at hc)) <;> (try (exfalso; first | omega | contradiction))))
    · refine wr_weak (fun _ h => h.drop (List.nil_sublist _)) (wr_tmp rfl rfl (congrArg Value.bool ?_))
      have : (decide (p.1.length ≤ 80) && decide (p.2.length ≤ 80)) = false := by
        rw [Bool.and_eq_false_iff, decide_eq_false_iff_not, decide_eq_false_iff_not]; omega
      unfold fewSu
      rw [show s.attrs.all fewPr = false from hno this]; rfl
    · refine wn_cut ⟨i + 1, by omega, hst (by rw [Bool.and_eq_true, decide_eq_true_eq, decide_eq_true_eq]; omega)⟩ (by show s.attrs.length - (i + 1) < s.attrs.length - i; omega) pE (fun _ h => h)
  obtain rfl : i = s.attrs.length := by omega
  have hA1 : s.attrs.all fewPr = true := all_getD hall
  repeat' (first | refine sk ?_ | (refine gL ?_; first | refine xl_box rfl (fun _ => ?_)) | fail)
  refine wc_cond rfl (fun hc => by exfalso; simp at hc) (fun hc => ?_)
  repeat' (first | refine sk ?_ | (refine gL ?_; first | refine xl_box rfl (fun _ => ?_)) | fail)
  refine wc_loop (α := AllQ _ s.proxies (fun p => decide (p.length ≤ 120))) (fun x => [(1, true, .pointer (some ⟨b1, 0, none⟩)), (4, true, i64 (x.i : Int))]) (fun x => St w [] [(b1, .cells [str s.user, .slice va s.attrs.length vc, .slice va' s.proxies.length vc', str s.iou].toArray 25 (0, 0))] M) (fun x => s.proxies.length - x.i) AllQ.zero pE (fun _ h => h) ?_
  rintro ⟨i, hi, hall2⟩
  dsimp only
  rcases Nat.lt_or_ge i s.proxies.length with hlt | hge
  · obtain ⟨rfl, hMb⟩ := f3 (by intro e; rw [e] at hlt; simp at hlt)
    have gi := f4 i hlt
    have hno := fun h => all_no (p := fun p : List UInt8 => decide (p.length ≤ 120)) hlt h
    have hst := fun h => all_step (p := fun p : List UInt8 => decide (p.length ≤ 120)) hall2 h
    generalize s.proxies.getD i default = p at *
    repeat' (first | (first | refine sk ?_ | (refine gL ?_; first | refine wl_v rfl rfl rfl (by first | (show OpV _ _ _ _ (Oper.mk _ (Op.indexAddr _ _ _) _ _ _ _) _ _; exact ov_indexAddr (i := i) (b := b') (o := o') rfl rfl rfl pI pI rfl pZ (fun _ => rfl) pS) | (show OpV _ _ _ _ (Oper.mk _ (Op.load _ _) _ _ _ _) _ _; exact ov_load1M rfl pI rfl rfl (fun _ => hMb) (fun _ => gi))) ?_ | refine xl_box rfl (fun _ => ?_)) | fail) | (refine wc_cond rfl (fun hc => ?_) (fun hc => ?_) <;> (try (simp only [bls] at hc)) <;> (try (exfalso; first | omega | contradiction))))
    · refine wr_weak (fun _ h => h.drop (List.nil_sublist _)) (wr_tmp rfl rfl (congrArg Value.bool ?_))
      unfold fewSu
      rw [hno (by rw [decide_eq_false_iff_not]; omega)]
      simp
    · refine wn_cut ⟨i + 1, by omega, hst (by rw [decide_eq_true_eq]; omega)⟩ (by show s.proxies.length - (i + 1) < s.proxies.length - i; omega) pE (fun _ h => h)
  obtain rfl : i = s.proxies.length := by omega
  have hP1 : s.proxies.all (fun p => decide (p.length ≤ 120)) = true := all_getD hall2
  repeat' (first | refine sk ?_ | (refine gL ?_; first | refine xl_box rfl (fun _ => ?_)) | fail)
  refine wc_cond rfl (fun hc => by exfalso; simp at hc) (fun hc => ?_)
  repeat' (first | refine sk ?_ | (refine gL ?_; first | refine xl_box rfl (fun _ => ?_)) | fail)
  refine wr_weak (fun _ h => h.drop (List.nil_sublist _)) (wr_tmp rfl rfl (congrArg Value.bool ?_))
  unfold fewSu
  rw [hA1, hP1, Bool.true_and, Bool.true_and]
  have c80 : ∀ n : Nat, decide ((n : Int) ≤ 80) = decide (n ≤ 80) := fun n => decide_eq_decide.2 (by omega)
  have c20 : ∀ n : Nat, decide ((n : Int) ≤ 20) = decide (n ≤ 20) := fun n => decide_eq_decide.2 (by omega)
  simp only [c80, c20]
end Go.Proofs.YtgfbieplidpebaaGreatDoor
