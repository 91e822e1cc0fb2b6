/-
  Texts of a proof, joined: CkC, EngI, CkD, CkE, CkF, CkG, CkH, CkI, CkJ, CkM, CkN, Opn, Arg, ArgC, Wld.
-/
import Derived.Deep.Slices
import Derived.ChangeSame
import Derived.SizedLaws
import Derived.WideShapes
import Derived.DataReads
import Derived.Test.YtmfelfhingmmbaaGreatDoorProg
import Derived.Test.YtmfelfhingmmbaaGreatDoorCards
import Derived.Test.YtmfelfhingmmbaaGreatDoorTie
import Derived.WalkKit
import Derived.ProofKit
import Derived.OpenShut
import Derived.ReadAgain
import Derived.MakeChecks
import Derived.LaidSub
import Derived.Deep.DeepHandedRow
import Derived.Carry
import Derived.SevenTiedAt
import Derived.Lib.LaidTab
import Derived.Lib.LaidU8
import Derived.Test.YtmfelfhingmmbaaGreatDoorJFCSets1
import Derived.Test.YtmfelfhingmmbaaGreatDoorJFCSets2
/-
  slices.DeleteFunc over cookies of one's own; a jar's methods.
-/
namespace Go.Eng
set_option linter.unusedSimpArgs false
set_option linter.unusedVariables false
/-- a call that is lent blocks, and gives back blocks of one's own -/
def RetO (w0 : World) (bs : List Nat) (H : List (Nat × Obj)) (M : Ghost) (R : Value → List (Nat × Obj) → Prop) : Ending → World → Prop := fun e w' => ∃ v Hs', e = .returned v ∧ St w0 bs (Hs' ++ H) M w' ∧ R v Hs'
section
variable {P : Program} {n : Nat} {E : Env} {k : Kont} {ops : Array Oper} {rest : List Oper} {C : World → Prop}
variable {ty : TypeId} {pos : String} {af : Array Edge} {g : Option (Nat × Bool)} {w0 : World} {bs : List Nat} {H : List (Nat × Obj)} {M : Ghost} {R : Value → List (Nat × Obj) → Prop}
theorem wl_callO {f : FuncId} {l : List Operand} {ats : Array TypeId} {vs : List (Bool × Value)} {args : Array Value} {d : Nat}
    (hg : gd ops E g = some true) (hf : ∀ args w, (callFunc f args).run P w = .ok (.enter f args) w) (hl : evg true E l = some vs) (hp : vs.all (·.1) = true) (hargs : vs.map (·.2) = args.toList) (hd : Nat.blt d n = true)
    (hc : ∀ w, C w → Calls P f args w (RetO w0 bs H M R))
    (h : ∀ v Hs', R v Hs' → WL P ops rest n ((d, true, v) :: E) (St w0 bs (Hs' ++ H) M) k) :
    WL P ops (⟨some d, .call ⟨.value (.func f), l.toArray, ats⟩, ty, pos, af, g⟩ :: rest) n E C k := by
  have hd : d < n := by simpa [Nat.blt_eq] using hd
  refine wl_op hg fun a w ha hw => ?_
  unfold Oper.wp
  rw [run_callf hf (args := args) (by rw [evg_eval ha hl (by simpa using hp), hargs]), Oper.upon_enter]
  refine (hc w hw).mono ?_
  rintro e w' ⟨v, Hs', rfl, h3, h4⟩
  exact (h v Hs' h4).run _ w' (ha.put hd rfl) h3
theorem wro_tmp {fn : Func} {t : Nat} {v' : Value} {Hs' : List (Nat × Obj)} (hr : fn.results = #[.tmp t]) (ht : look E t = some (true, v')) (hC : ∀ w, C w → St w0 bs (Hs' ++ H) M w) (hR : R v' Hs') : WR n E C (bodyPost P fn (RetO w0 bs H M R)) := ⟨fun a w ha hw => by
  have h1 := ha.reads t true v' ht
  refine bodyPost_ret (v := v') ?_ ha.defers ⟨v', Hs', rfl, hC w hw, hR⟩
  rw [results_tmp hr]
  simp [h1]⟩
theorem ov_loadSO {cg cx : Bool} {x : Operand} {dst : Option Tmp} {t : TypeId} {fs : Array Field} {b o : Nat} {cs : Array Value} {l : List Value} {T : TypeId} {fz : Nat × Nat} (hx : ev E x = some (cx, .pointer (some ⟨b, o, none⟩))) (h1 : Imp cg cx) (ht : P.underlying t = some (.struct fs))
    (hs : (P.info? t).map (·.size) = some l.length) (hm : (b, Obj.cells cs T fz) ∈ H) (hv : ∀ j, j < l.length → cs[o + j]? = l[j]?) : OpV P n E (St w0 bs H M) ⟨dst, .load t x, ty, pos, af, g⟩ cg (.agg l.toArray) :=
  ov_run fun h a ha w hw => by
    simp [execOp, ha.evalc hx (h1 h), Instr.loadAt, Instr.sureAddr, loadVar, isAgg_struct ht, run_sizeOf hs, run_loadCells (hw.get hm) l hv]
theorem zero_length (zc : Array Value) (n : Nat) : (Builtin.zeroCells zc n).toList.length = n * zc.size := by
  simp [Builtin.zeroCells]
theorem slc_pos {b i n cap m : Nat} (h1 : i < n) (h2 : n ≤ cap) : slc (some ⟨b, 0, none⟩) m i n cap = .slice (some ⟨b, i * m, none⟩) ((n - i - 1) + 1) (cap - i) := by
  unfold slc
  rw [if_neg (by omega), show n - i - 1 + 1 = n - i by omega]
  simp [Addr.add]
  exact fun h => h.symm
end
end Go.Eng
namespace Go.Proofs.YtmfelfhingmmbaaGreatDoor
open Go.Eng Go.Pct Go.Txt Go.Ck
set_option maxRecDepth 10000
set_option linter.unusedSimpArgs false
set_option linter.unusedVariables false
variable {M : Ghost} {w0 w : World} {bs : List Nat} {H : List (Nat × Obj)}
structure DS (l : List Ckie) (p : Ckie → Bool) (L : List Value) where
  j : Nat
  cur : List Value
  hj : idxC p l < j ∧ j ≤ l.length
  hK : ((l.take j).filter fun x => !p x).length < j
  len : cur.length = L.length
  kept : cur.take (((l.take j).filter fun x => !p x).length * 6) = cellsC ((l.take j).filter fun x => !p x)
  tail : cur.drop (j * 6) = L.drop (j * 6)
theorem filter_next {l : List Ckie} {p : Ckie → Bool} {j : Nat} (h : j < l.length) : (l.take (j + 1)).filter (fun x => !p x) = (l.take j).filter (fun x => !p x) ++ (if p (l.getD j default) = true then [] else [l.getD j default]) := by
  have e : l.getD j default = l[j] := by simp [h]
  rw [List.take_succ_eq_append_getElem h, List.filter_append, e]
  congr 1
  by_cases hp : p l[j] = true
  · rw [if_pos hp]; simp [hp]
  · rw [if_neg hp]; simp [hp]
theorem zero_plain (n : Nat) : (Builtin.zeroCells (Value.cells (.agg #[str [], str [], str [], i64 0, .bool false, .bool false])) n).toList.all plainV = true := by
  rw [List.all_eq_true]
  intro v hv
  simp only [Builtin.zeroCells, Array.toList_map, List.mem_map] at hv
  obtain ⟨i, _, rfl⟩ := hv
  have key : ∀ r, r < 6 → plainV ((Value.cells (.agg #[str [], str [], str [], i64 0, .bool false, .bool false]))[r]!) = true := by decide
  exact key _ (Nat.mod_lt _ (by decide))
def zCk : Value := .agg #[str [], str [], str [], i64 0, .bool false, .bool false]
set_option maxHeartbeats 1000000 in
theorem del_ok {l : List Ckie} {v : Value} {Hs : List (Nat × Obj)} (own : OwnS tCk 6 v Hs (cellsC l)) (hl : l.length ≤ 1000000) (p : Ckie → Bool) (f : FuncId) (first captured : List Value) (hf : ∀ args w, (callFunc f args).run Tryz.prog w = .ok (.enter f args) w)
    (hby : ∀ x w, Laid M w → Calls Tryz.prog f (first ++ [Value.agg (ckCells x).toArray] ++ captured).toArray w (RetE w (.bool (p x)))) (hw : St w0 bs (Hs ++ H) M w) : Calls Tryz.prog 30 #[v, .func (.func f) first.toArray captured.toArray] w (RetO w0 bs H M (fun v' Hs' => OwnS tCk 6 v' Hs' (cellsC (l.filter fun x => !p x)))) := by
  have own0 := own
  rcases own with ⟨rfl, rfl, hx⟩ | ⟨b, len, cap, cur, rfl, rfl, q1, q2, q3, q4, q5⟩
  · have hl0 : l = [] := by
      have := congrArg List.length hx
      rw [cellsC_length] at this
      exact List.eq_nil_of_length_eq_zero (by simp at this; omega)
    subst hl0
    have hif := fun {w : World} (hw : Laid M w) => ifuncC_ok hw (v := .slice none 0 0) (l := []) sl_nil p f first captured hf hby
    refine calls_lent (C := St w0 bs H M) (l := [.slice none 0 0, .func (.func f) first.toArray captured.toArray]) hw Tryz.func30 rfl rfl rfl (E0 := [(0, true, .slice none 0 0), (1, true, .func (.func f) first.toArray captured.toArray)]) (params_cons rfl (params_cons rfl (params_nil _))) ?_
    repeat' (first | refine wc_seq ?_ | refine wc_region ?_ | refine wl_nil ?_ | refine wn_seq ?_ | refine wn_blk ?_ | refine wc_skip ?_ | refine wc_scope ?_ | refine wc_label ?_ | refine wn_noGoto ?_ | refine wc_block ?_ | refine wc_exit rfl ?_ | (show WL _ _ (_ :: _) _ _ _ _; first | refine yl_v rfl rfl rfl ?_ | refine wl_v rfl rfl rfl (by first | ((show OpV _ _ _ _ (Oper.mk _ (Op.call ⟨.value (.func 51), _, _⟩) _ _ _ _) _ _; exact ov_call Tryz.call51 rfl (by intro himp; first | rfl | (simp_all; done)) (by rfl) (fun _ _ h k => h.ext k) (fun hcg w hw => hif hw.laid))) | fail) ?_ | refine xl_alloc (fun _ => ?_) | refine xl_box rfl (fun _ => ?_) | refine xl_store rfl rfl ?_ | refine xl_buildSlice rfl (fun _ => ?_) | refine wl_makeMap rfl rfl (fun _ => ?_) | refine wl_insert rfl rfl rfl rfl rfl rfl (by first | exact rfl | exact trivial) (by first | exact Upd.here | exact Upd.there Upd.here | exact Upd.there (Upd.there Upd.here) | exact Upd.there (Upd.there (Upd.there Upd.here)) | exact Upd.there (Upd.there (Upd.there (Upd.there Upd.here))) | exact Upd.app _ (Upd.here) | exact Upd.app _ (Upd.there Upd.here) | exact Upd.app _ (Upd.there (Upd.there Upd.here)) | exact Upd.app _ (Upd.there (Upd.there (Upd.there Upd.here))) | exact Upd.there (Upd.app _ (Upd.here)) | exact Upd.there (Upd.app _ (Upd.there Upd.here)) | exact Upd.there (Upd.app _ (Upd.there (Upd.there Upd.here))) | exact Upd.there (Upd.app _ (Upd.there (Upd.there (Upd.there Upd.here)))) | exact Upd.there (Upd.there (Upd.app _ (Upd.here))) | exact Upd.there (Upd.there (Upd.app _ (Upd.there Upd.here))) | exact Upd.there (Upd.there (Upd.app _ (Upd.there (Upd.there Upd.here))))) (by rfl) ?_) | refine wc_ret rfl ?_)
    refine wc_cond rfl (fun hc => ?_) (fun hc => by exfalso; cases hc)
    repeat' (first | refine wc_seq ?_ | refine wc_region ?_ | refine wl_nil ?_ | refine wn_seq ?_ | refine wn_blk ?_ | refine wc_skip ?_ | refine wc_scope ?_ | refine wc_label ?_ | refine wn_noGoto ?_ | refine wc_block ?_ | refine wc_exit rfl ?_ | (show WL _ _ (_ :: _) _ _ _ _; first | refine yl_v rfl rfl rfl ?_ | refine wl_v rfl rfl rfl (by first  | fail) ?_ | refine xl_alloc (fun _ => ?_) | refine xl_box rfl (fun _ => ?_) | refine xl_store rfl rfl ?_ | refine xl_buildSlice rfl (fun _ => ?_) | refine wl_makeMap rfl rfl (fun _ => ?_) | refine wl_insert rfl rfl rfl rfl rfl rfl (by first | exact rfl | exact trivial) (by first | exact Upd.here | exact Upd.there Upd.here | exact Upd.there (Upd.there Upd.here) | exact Upd.there (Upd.there (Upd.there Upd.here)) | exact Upd.there (Upd.there (Upd.there (Upd.there Upd.here))) | exact Upd.app _ (Upd.here) | exact Upd.app _ (Upd.there Upd.here) | exact Upd.app _ (Upd.there (Upd.there Upd.here)) | exact Upd.app _ (Upd.there (Upd.there (Upd.there Upd.here))) | exact Upd.there (Upd.app _ (Upd.here)) | exact Upd.there (Upd.app _ (Upd.there Upd.here)) | exact Upd.there (Upd.app _ (Upd.there (Upd.there Upd.here))) | exact Upd.there (Upd.app _ (Upd.there (Upd.there (Upd.there Upd.here)))) | exact Upd.there (Upd.there (Upd.app _ (Upd.here))) | exact Upd.there (Upd.there (Upd.app _ (Upd.there Upd.here))) | exact Upd.there (Upd.there (Upd.app _ (Upd.there (Upd.there Upd.here))))) (by rfl) ?_) | refine wc_ret rfl ?_)
    exact wro_tmp (Hs' := []) rfl rfl (fun _ h => h) OwnS.nil
  · obtain ⟨L, rfl⟩ : ∃ L : List Value, cur = L.toArray := ⟨cur.toList, by simp⟩
    have hlen : len = l.length := by rw [cellsC_length] at q1; omega
    subst hlen
    have q4 : L.length = cap * 6 := by simpa using q4
    have q5 : L.take (l.length * 6) = cellsC l := q5
    have hif : ∀ {w' : World}, St w0 bs ((b, .cells L.toArray tCk (0, 0)) :: H) M w' → Calls Tryz.prog 51 #[.slice (some ⟨b, 0, none⟩) l.length cap, .func (.func f) first.toArray captured.toArray] w' (RetE w' (i64 (idxZC p l))) := fun hw' =>
      ifuncC_ok (St.lay (H1 := [(b, .cells L.toArray tCk (0, 0))]) (H2 := []) (hw'.drop (List.Sublist.cons_cons _ (List.nil_sublist _)))).laid (OwnS.slC own0 (fun p hp => .inr hp) (by omega)) p f first captured hf (fun x w h => hby x w (fun b o hb => h b o (.inl hb)))
    refine calls_lent (C := St w0 bs ((b, .cells L.toArray tCk (0, 0)) :: H) M) (l := [.slice (some ⟨b, 0, none⟩) l.length cap, .func (.func f) first.toArray captured.toArray]) hw Tryz.func30 rfl rfl rfl (E0 := [(0, true, .slice (some ⟨b, 0, none⟩) l.length cap), (1, true, .func (.func f) first.toArray captured.toArray)]) (params_cons rfl (params_cons rfl (params_nil _))) ?_
    have hile := idxC_le p l
    have hbef := idxC_before p l
    unfold idxZC at hif
    by_cases hlt : idxC p l < l.length
    · rw [if_pos hlt] at hif
      have hat := idxC_at p hlt
      have hst := filter_next (p := p) hlt
      rw [if_pos hat, List.append_nil, hbef] at hst
      repeat' (first | refine wc_seq ?_ | refine wc_region ?_ | refine wl_nil ?_ | refine wn_seq ?_ | refine wn_blk ?_ | refine wc_skip ?_ | refine wc_scope ?_ | refine wc_label ?_ | refine wn_noGoto ?_ | refine wc_block ?_ | refine wc_exit rfl ?_ | (show WL _ _ (_ :: _) _ _ _ _; first | refine yl_v rfl rfl rfl ?_ | refine wl_v rfl rfl rfl (by first | ((show OpV _ _ _ _ (Oper.mk _ (Op.call ⟨.value (.func 51), _, _⟩) _ _ _ _) _ _; exact ov_call Tryz.call51 rfl (by intro himp; first | rfl | (simp_all; done)) (by rfl) (fun _ _ h k => h.ext k) (fun hcg w hw => hif hw))) | fail) ?_ | refine xl_alloc (fun _ => ?_) | refine xl_box rfl (fun _ => ?_) | refine xl_store rfl rfl ?_ | refine xl_buildSlice rfl (fun _ => ?_) | refine wl_makeMap rfl rfl (fun _ => ?_) | refine wl_insert rfl rfl rfl rfl rfl rfl (by first | exact rfl | exact trivial) (by first | exact Upd.here | exact Upd.there Upd.here | exact Upd.there (Upd.there Upd.here) | exact Upd.there (Upd.there (Upd.there Upd.here)) | exact Upd.there (Upd.there (Upd.there (Upd.there Upd.here))) | exact Upd.app _ (Upd.here) | exact Upd.app _ (Upd.there Upd.here) | exact Upd.app _ (Upd.there (Upd.there Upd.here)) | exact Upd.app _ (Upd.there (Upd.there (Upd.there Upd.here))) | exact Upd.there (Upd.app _ (Upd.here)) | exact Upd.there (Upd.app _ (Upd.there Upd.here)) | exact Upd.there (Upd.app _ (Upd.there (Upd.there Upd.here))) | exact Upd.there (Upd.app _ (Upd.there (Upd.there (Upd.there Upd.here)))) | exact Upd.there (Upd.there (Upd.app _ (Upd.here))) | exact Upd.there (Upd.there (Upd.app _ (Upd.there Upd.here))) | exact Upd.there (Upd.there (Upd.app _ (Upd.there (Upd.there Upd.here))))) (by rfl) ?_) | refine wc_ret rfl ?_)
      refine wc_cond rfl (fun hc => by exfalso; simp at hc) (fun hc => ?_)
      clear hc
      repeat' (first | refine wc_seq ?_ | refine wc_region ?_ | refine wl_nil ?_ | refine wn_seq ?_ | refine wn_blk ?_ | refine wc_skip ?_ | refine wc_scope ?_ | refine wc_label ?_ | refine wn_noGoto ?_ | refine wc_block ?_ | refine wc_exit rfl ?_ | (show WL _ _ (_ :: _) _ _ _ _; first | refine yl_v rfl rfl rfl ?_ | refine wl_v rfl rfl rfl (by first  | fail) ?_ | refine xl_alloc (fun _ => ?_) | refine xl_box rfl (fun _ => ?_) | refine xl_store rfl rfl ?_ | refine xl_buildSlice rfl (fun _ => ?_) | refine wl_makeMap rfl rfl (fun _ => ?_) | refine wl_insert rfl rfl rfl rfl rfl rfl (by first | exact rfl | exact trivial) (by first | exact Upd.here | exact Upd.there Upd.here | exact Upd.there (Upd.there Upd.here) | exact Upd.there (Upd.there (Upd.there Upd.here)) | exact Upd.there (Upd.there (Upd.there (Upd.there Upd.here))) | exact Upd.app _ (Upd.here) | exact Upd.app _ (Upd.there Upd.here) | exact Upd.app _ (Upd.there (Upd.there Upd.here)) | exact Upd.app _ (Upd.there (Upd.there (Upd.there Upd.here))) | exact Upd.there (Upd.app _ (Upd.here)) | exact Upd.there (Upd.app _ (Upd.there Upd.here)) | exact Upd.there (Upd.app _ (Upd.there (Upd.there Upd.here))) | exact Upd.there (Upd.app _ (Upd.there (Upd.there (Upd.there Upd.here)))) | exact Upd.there (Upd.there (Upd.app _ (Upd.here))) | exact Upd.there (Upd.there (Upd.app _ (Upd.there Upd.here))) | exact Upd.there (Upd.there (Upd.app _ (Upd.there (Upd.there Upd.here))))) (by rfl) ?_) | refine wc_ret rfl ?_)
      refine wc_loop (α := DS l p L) (fun x => [(0, true, .slice (some ⟨b, 0, none⟩) l.length cap), (1, true, .func (.func f) first.toArray captured.toArray), (5, true, i64 ((((l.take x.j).filter fun x => !p x).length : Nat) : Int)), (6, true, i64 (x.j : Int))]) (fun x => St w0 bs ((b, .cells x.cur.toArray tCk (0, 0)) :: H) M) (fun x => l.length - x.j)
        ⟨idxC p l + 1, L, ⟨by omega, by omega⟩, by rw [hst, List.length_take]; omega, rfl, by rw [hst, List.length_take, Nat.min_eq_left (by omega), ← cellsC_take, ← q5, List.take_take, Nat.min_eq_left (by omega)], rfl⟩ (Eng.Sub.cons rfl (Eng.Sub.cons rfl (Eng.Sub.cons (by show some (true, i64 (idxC p l : Int)) = some (true, i64 ((((l.take (idxC p l + 1)).filter fun x => !p x).length : Nat) : Int)); rw [hst, List.length_take, Nat.min_eq_left (by omega)]) (by first | exact Sub.nil _ | (repeat (first | exact Sub.nil _ | refine Sub.cons (by first | rfl | (simp [look]; done)) ?_)))))) (fun _ h => h) ?_
      rintro ⟨j, cur, ⟨hj1, hj2⟩, hK, hcl, hkept, htail⟩
      dsimp only
      by_cases hjl : j < l.length
      · have hfn := filter_next (p := p) hjl
        have hcell : ∀ k, k < (ckCells (l.getD j default)).length → cur.toArray[0 + j * 6 + k]? = (ckCells (l.getD j default))[k]? := fun k hk => by
          have e : l.getD j default = l[j] := by simp [hjl]
          rw [ckCells_length] at hk
          have e1 : (cur.drop (j * 6))[k]? = (L.drop (j * 6))[k]? := by rw [htail]
          have e2 : ((L.take (l.length * 6)).drop (j * 6))[k]? = (L.drop (j * 6))[k]? := by
            rw [List.drop_take, List.getElem?_take_of_lt (by omega)]
          rw [q5] at e2
          have e3 : (((cellsC l).drop (j * 6)).take 6)[k]? = ((cellsC l).drop (j * 6))[k]? := List.getElem?_take_of_lt hk
          rw [cellsC_at l j hjl] at e3
          rw [e, e3, e2, ← e1, List.getElem?_drop]
          simp
        repeat' (first | refine wc_seq ?_ | refine wc_region ?_ | refine wl_nil ?_ | refine wn_seq ?_ | refine wn_blk ?_ | refine wc_skip ?_ | refine wc_scope ?_ | refine wc_label ?_ | refine wn_noGoto ?_ | refine wc_block ?_ | refine wc_exit rfl ?_ | (show WL _ _ (_ :: _) _ _ _ _; first | refine yl_v rfl rfl rfl ?_ | refine wl_v rfl rfl rfl (by first  | fail) ?_ | refine xl_alloc (fun _ => ?_) | refine xl_box rfl (fun _ => ?_) | refine xl_store rfl rfl ?_ | refine xl_buildSlice rfl (fun _ => ?_) | refine wl_makeMap rfl rfl (fun _ => ?_) | refine wl_insert rfl rfl rfl rfl rfl rfl (by first | exact rfl | exact trivial) (by first | exact Upd.here | exact Upd.there Upd.here | exact Upd.there (Upd.there Upd.here) | exact Upd.there (Upd.there (Upd.there Upd.here)) | exact Upd.there (Upd.there (Upd.there (Upd.there Upd.here))) | exact Upd.app _ (Upd.here) | exact Upd.app _ (Upd.there Upd.here) | exact Upd.app _ (Upd.there (Upd.there Upd.here)) | exact Upd.app _ (Upd.there (Upd.there (Upd.there Upd.here))) | exact Upd.there (Upd.app _ (Upd.here)) | exact Upd.there (Upd.app _ (Upd.there Upd.here)) | exact Upd.there (Upd.app _ (Upd.there (Upd.there Upd.here))) | exact Upd.there (Upd.app _ (Upd.there (Upd.there (Upd.there Upd.here)))) | exact Upd.there (Upd.there (Upd.app _ (Upd.here))) | exact Upd.there (Upd.there (Upd.app _ (Upd.there Upd.here))) | exact Upd.there (Upd.there (Upd.app _ (Upd.there (Upd.there Upd.here))))) (by rfl) ?_) | refine wc_ret rfl ?_)
        refine wc_cond rfl (fun hc => ?_) (fun hc => by exfalso; simp at hc; omega)
        clear hc
        generalize l.getD j default = x at *
        obtain ⟨xn, xv, xp, xz, xa, xb⟩ := x
        have hbx : ∀ w, Laid M w → Calls Tryz.prog f (first ++ [Value.agg [str xn, str xv, str xp, i64 xz, .bool xa, .bool xb].toArray] ++ captured).toArray w (RetE w (.bool (p ⟨xn, xv, xp, xz, xa, xb⟩))) := fun w h => hby ⟨xn, xv, xp, xz, xa, xb⟩ w h
        have hcell2 : ∀ k, k < [str xn, str xv, str xp, i64 xz, .bool xa, .bool xb].length → cur.toArray[0 + j * 6 + k]? = [str xn, str xv, str xp, i64 xz, .bool xa, .bool xb][k]? := hcell
        clear hcell
        have hc6 : cellsC [⟨xn, xv, xp, xz, xa, xb⟩] = [str xn, str xv, str xp, i64 xz, .bool xa, .bool xb] := rfl
        generalize (⟨xn, xv, xp, xz, xa, xb⟩ : Ckie) = x at *
        generalize ((l.take j).filter fun x => !p x) = K at *
        repeat' (first | refine wc_seq ?_ | refine wc_region ?_ | refine wl_nil ?_ | refine wn_seq ?_ | refine wn_blk ?_ | refine wc_skip ?_ | refine wc_scope ?_ | refine wc_label ?_ | refine wn_noGoto ?_ | refine wc_block ?_ | refine wc_exit rfl ?_ | (show WL _ _ (_ :: _) _ _ _ _; first | refine yl_v rfl rfl rfl ?_ | refine wl_v rfl rfl rfl (by first | (show OpV _ _ _ _ (Oper.mk _ (Op.indexAddr _ _ _) _ _ _ _) _ _; exact ov_indexAddr (i := j) (b := b) (o := 0) rfl rfl rfl (by first | with_reducible exact fun _ => rfl | with_reducible exact fun h => h | exact fun _ => rfl | exact fun h => h | (intro himp; simp_all; done)) (by first | with_reducible exact fun _ => rfl | with_reducible exact fun h => h | exact fun _ => rfl | exact fun h => h | (intro himp; simp_all; done)) rfl (by first | exact (rfl : _ = some 1) | exact (rfl : _ = some 2) | exact (rfl : _ = some 3) | exact (rfl : _ = some 4) | exact (rfl : _ = some 6) | exact rfl) (fun _ => rfl) (by intro hcg; first | omega | (simp at hcg; omega))) | (show OpV _ _ _ _ (Oper.mk _ (Op.load _ _) _ _ _ _) _ _; exact ov_loadSO rfl (by first | with_reducible exact fun _ => rfl | with_reducible exact fun h => h | exact fun _ => rfl | exact fun h => h | (intro himp; simp_all; done)) rfl (by rfl) (List.Mem.head _) hcell2) | (show OpV _ _ _ _ (Oper.mk _ (Op.call ⟨.value (.tmp _), _, _⟩) _ _ _ _) _ _; exact ov_callV (first := first) (captured := captured) rfl hf rfl (by intro himp; first | rfl | (simp_all; done)) (by rfl) (fun _ _ h k => h.ext k) (fun hcg w hw => hbx w hw.laid)) | fail) ?_ | refine xl_alloc (fun _ => ?_) | refine xl_box rfl (fun _ => ?_) | refine xl_store rfl rfl ?_ | refine xl_buildSlice rfl (fun _ => ?_) | refine wl_makeMap rfl rfl (fun _ => ?_) | refine wl_insert rfl rfl rfl rfl rfl rfl (by first | exact rfl | exact trivial) (by first | exact Upd.here | exact Upd.there Upd.here | exact Upd.there (Upd.there Upd.here) | exact Upd.there (Upd.there (Upd.there Upd.here)) | exact Upd.there (Upd.there (Upd.there (Upd.there Upd.here))) | exact Upd.app _ (Upd.here) | exact Upd.app _ (Upd.there Upd.here) | exact Upd.app _ (Upd.there (Upd.there Upd.here)) | exact Upd.app _ (Upd.there (Upd.there (Upd.there Upd.here))) | exact Upd.there (Upd.app _ (Upd.here)) | exact Upd.there (Upd.app _ (Upd.there Upd.here)) | exact Upd.there (Upd.app _ (Upd.there (Upd.there Upd.here))) | exact Upd.there (Upd.app _ (Upd.there (Upd.there (Upd.there Upd.here)))) | exact Upd.there (Upd.there (Upd.app _ (Upd.here))) | exact Upd.there (Upd.there (Upd.app _ (Upd.there Upd.here))) | exact Upd.there (Upd.there (Upd.app _ (Upd.there (Upd.there Upd.here))))) (by rfl) ?_) | refine wc_ret rfl ?_)
        refine wc_cond rfl (fun hc => ?_) (fun hc => ?_)
        · have hpx : ¬ p x = true := by simpa using hc
          rw [if_neg hpx] at hfn
          repeat' (first | refine wc_seq ?_ | refine wc_region ?_ | refine wl_nil ?_ | refine wn_seq ?_ | refine wn_blk ?_ | refine wc_skip ?_ | refine wc_scope ?_ | refine wc_label ?_ | refine wn_noGoto ?_ | refine wc_block ?_ | refine wc_exit rfl ?_ | (show WL _ _ (_ :: _) _ _ _ _; first | refine yl_v rfl rfl rfl ?_ | refine wl_v rfl rfl rfl (by first | (show OpV _ _ _ _ (Oper.mk _ (Op.indexAddr _ _ _) _ _ _ _) _ _; exact ov_indexAddr (i := K.length) (b := b) (o := 0) rfl rfl rfl (by first | with_reducible exact fun _ => rfl | with_reducible exact fun h => h | exact fun _ => rfl | exact fun h => h | (intro himp; simp_all; done)) (by first | with_reducible exact fun _ => rfl | with_reducible exact fun h => h | exact fun _ => rfl | exact fun h => h | (intro himp; simp_all; done)) rfl (by first | exact (rfl : _ = some 1) | exact (rfl : _ = some 2) | exact (rfl : _ = some 3) | exact (rfl : _ = some 4) | exact (rfl : _ = some 6) | exact rfl) (fun _ => rfl) (fun _ => by omega)) | fail) ?_ | refine xl_alloc (fun _ => ?_) | refine xl_box rfl (fun _ => ?_) | refine xl_store rfl rfl ?_ | refine xl_buildSlice rfl (fun _ => ?_) | refine wl_makeMap rfl rfl (fun _ => ?_) | refine wl_insert rfl rfl rfl rfl rfl rfl (by first | exact rfl | exact trivial) (by first | exact Upd.here | exact Upd.there Upd.here | exact Upd.there (Upd.there Upd.here) | exact Upd.there (Upd.there (Upd.there Upd.here)) | exact Upd.there (Upd.there (Upd.there (Upd.there Upd.here))) | exact Upd.app _ (Upd.here) | exact Upd.app _ (Upd.there Upd.here) | exact Upd.app _ (Upd.there (Upd.there Upd.here)) | exact Upd.app _ (Upd.there (Upd.there (Upd.there Upd.here))) | exact Upd.there (Upd.app _ (Upd.here)) | exact Upd.there (Upd.app _ (Upd.there Upd.here)) | exact Upd.there (Upd.app _ (Upd.there (Upd.there Upd.here))) | exact Upd.there (Upd.app _ (Upd.there (Upd.there (Upd.there Upd.here)))) | exact Upd.there (Upd.there (Upd.app _ (Upd.here))) | exact Upd.there (Upd.there (Upd.app _ (Upd.there Upd.here))) | exact Upd.there (Upd.there (Upd.app _ (Upd.there (Upd.there Upd.here))))) (by rfl) ?_) | refine wc_ret rfl ?_)
          have hfit : 0 + K.length * 6 + [str xn, str xv, str xp, i64 xz, .bool xa, .bool xb].length ≤ cur.length := by simp only [List.length_cons, List.length_nil]; omega
          refine wl_store (l := cur) (o := 0 + K.length * 6) rfl rfl rfl rfl (Upd.there Upd.here) rfl (by rw [Nat.ble_eq]; exact hfit) rfl ?_
          repeat' (first | refine wc_seq ?_ | refine wc_region ?_ | refine wl_nil ?_ | refine wn_seq ?_ | refine wn_blk ?_ | refine wc_skip ?_ | refine wc_scope ?_ | refine wc_label ?_ | refine wn_noGoto ?_ | refine wc_block ?_ | refine wc_exit rfl ?_ | (show WL _ _ (_ :: _) _ _ _ _; first | refine yl_v rfl rfl rfl ?_ | refine wl_v rfl rfl rfl (by first  | fail) ?_ | refine xl_alloc (fun _ => ?_) | refine xl_box rfl (fun _ => ?_) | refine xl_store rfl rfl ?_ | refine xl_buildSlice rfl (fun _ => ?_) | refine wl_makeMap rfl rfl (fun _ => ?_) | refine wl_insert rfl rfl rfl rfl rfl rfl (by first | exact rfl | exact trivial) (by first | exact Upd.here | exact Upd.there Upd.here | exact Upd.there (Upd.there Upd.here) | exact Upd.there (Upd.there (Upd.there Upd.here)) | exact Upd.there (Upd.there (Upd.there (Upd.there Upd.here))) | exact Upd.app _ (Upd.here) | exact Upd.app _ (Upd.there Upd.here) | exact Upd.app _ (Upd.there (Upd.there Upd.here)) | exact Upd.app _ (Upd.there (Upd.there (Upd.there Upd.here))) | exact Upd.there (Upd.app _ (Upd.here)) | exact Upd.there (Upd.app _ (Upd.there Upd.here)) | exact Upd.there (Upd.app _ (Upd.there (Upd.there Upd.here))) | exact Upd.there (Upd.app _ (Upd.there (Upd.there (Upd.there Upd.here)))) | exact Upd.there (Upd.there (Upd.app _ (Upd.here))) | exact Upd.there (Upd.there (Upd.app _ (Upd.there Upd.here))) | exact Upd.there (Upd.there (Upd.app _ (Upd.there (Upd.there Upd.here))))) (by rfl) ?_) | refine wc_ret rfl ?_)
          refine wn_cut ⟨j + 1, setCells cur (0 + K.length * 6) [str xn, str xv, str xp, i64 xz, .bool xa, .bool xb], ⟨by omega, by omega⟩, by rw [hfn, List.length_append, List.length_singleton]; omega, by rw [setCells_length]; exact hcl, ?_, ?_⟩ (by show l.length - (j + 1) < l.length - j; omega) (Eng.Sub.cons rfl (Eng.Sub.cons rfl (Eng.Sub.cons (by show some (true, i64 ((K.length : Int) + 1)) = some (true, i64 ((((l.take (j + 1)).filter fun x => !p x).length : Nat) : Int)); rw [hfn, List.length_append, List.length_singleton]; rfl) (by first | exact Sub.nil _ | (repeat (first | exact Sub.nil _ | refine Sub.cons (by first | rfl | (simp [look]; done)) ?_)))))) (fun _ h => h.drop (List.sublist_cons_self _ _))
          · rw [hfn, List.length_append, List.length_singleton, cellsC_append, hc6, setCells_eq _ _ _ hfit, Nat.zero_add, ← hkept]
            rw [List.take_append_of_le_length (by simp only [List.length_append, List.length_take, List.length_cons, List.length_nil]; omega), List.take_of_length_le (by simp only [List.length_append, List.length_take, List.length_cons, List.length_nil]; omega)]
          · rw [setCells_eq _ _ _ hfit, Nat.zero_add, List.drop_append, List.drop_eq_nil_of_le (by simp only [List.length_append, List.length_take, List.length_cons, List.length_nil]; omega), List.nil_append, List.drop_drop]
            have e1 : (j + 1) * 6 = j * 6 + 6 := by omega
            have e2 : K.length * 6 + [str xn, str xv, str xp, i64 xz, .bool xa, .bool xb].length + ((j + 1) * 6 - (cur.take (K.length * 6) ++ [str xn, str xv, str xp, i64 xz, .bool xa, .bool xb]).length) = j * 6 + 6 := by
              simp only [List.length_append, List.length_take, List.length_cons, List.length_nil]; omega
            rw [e2, e1, ← List.drop_drop, ← List.drop_drop, htail]
        · have hpx : p x = true := by simpa using hc
          rw [if_pos hpx, List.append_nil] at hfn
          repeat' (first | refine wc_seq ?_ | refine wc_region ?_ | refine wl_nil ?_ | refine wn_seq ?_ | refine wn_blk ?_ | refine wc_skip ?_ | refine wc_scope ?_ | refine wc_label ?_ | refine wn_noGoto ?_ | refine wc_block ?_ | refine wc_exit rfl ?_ | (show WL _ _ (_ :: _) _ _ _ _; first | refine yl_v rfl rfl rfl ?_ | refine wl_v rfl rfl rfl (by first  | fail) ?_ | refine xl_alloc (fun _ => ?_) | refine xl_box rfl (fun _ => ?_) | refine xl_store rfl rfl ?_ | refine xl_buildSlice rfl (fun _ => ?_) | refine wl_makeMap rfl rfl (fun _ => ?_) | refine wl_insert rfl rfl rfl rfl rfl rfl (by first | exact rfl | exact trivial) (by first | exact Upd.here | exact Upd.there Upd.here | exact Upd.there (Upd.there Upd.here) | exact Upd.there (Upd.there (Upd.there Upd.here)) | exact Upd.there (Upd.there (Upd.there (Upd.there Upd.here))) | exact Upd.app _ (Upd.here) | exact Upd.app _ (Upd.there Upd.here) | exact Upd.app _ (Upd.there (Upd.there Upd.here)) | exact Upd.app _ (Upd.there (Upd.there (Upd.there Upd.here))) | exact Upd.there (Upd.app _ (Upd.here)) | exact Upd.there (Upd.app _ (Upd.there Upd.here)) | exact Upd.there (Upd.app _ (Upd.there (Upd.there Upd.here))) | exact Upd.there (Upd.app _ (Upd.there (Upd.there (Upd.there Upd.here)))) | exact Upd.there (Upd.there (Upd.app _ (Upd.here))) | exact Upd.there (Upd.there (Upd.app _ (Upd.there Upd.here))) | exact Upd.there (Upd.there (Upd.app _ (Upd.there (Upd.there Upd.here))))) (by rfl) ?_) | refine wc_ret rfl ?_)
          exact wn_cut ⟨j + 1, cur, ⟨by omega, by omega⟩, by rw [hfn]; omega, hcl, by rw [hfn]; exact hkept, by rw [show (j + 1) * 6 = j * 6 + 6 from by omega, ← List.drop_drop, ← List.drop_drop, htail]⟩ (by show l.length - (j + 1) < l.length - j; omega) (Eng.Sub.cons rfl (Eng.Sub.cons rfl (Eng.Sub.cons (by show some (true, i64 ((K.length : Nat) : Int)) = some (true, i64 ((((l.take (j + 1)).filter fun x => !p x).length : Nat) : Int)); rw [hfn]) (by first | exact Sub.nil _ | (repeat (first | exact Sub.nil _ | refine Sub.cons (by first | rfl | (simp [look]; done)) ?_)))))) (fun _ h => h.drop (List.sublist_cons_self _ _))
      obtain rfl : j = l.length := by omega
      rw [List.take_length] at hK hkept ⊢
      generalize (l.filter fun x => !p x) = K at *
      have hzl := zero_length (Value.cells zCk) (l.length - K.length - 1 + 1)
      have hz6 : (Value.cells zCk).size = 6 := rfl
      rw [hz6] at hzl
      have hfit : K.length * 6 + (Builtin.zeroCells (Value.cells zCk) (l.length - K.length - 1 + 1)).toList.length ≤ cur.length := by rw [hzl]; omega
      repeat' (first | refine wc_seq ?_ | refine wc_region ?_ | refine wl_nil ?_ | refine wn_seq ?_ | refine wn_blk ?_ | refine wc_skip ?_ | refine wc_scope ?_ | refine wc_label ?_ | refine wn_noGoto ?_ | refine wc_block ?_ | refine wc_exit rfl ?_ | (show WL _ _ (_ :: _) _ _ _ _; first | refine yl_v rfl rfl rfl ?_ | refine wl_v rfl rfl rfl (by first  | fail) ?_ | refine xl_alloc (fun _ => ?_) | refine xl_box rfl (fun _ => ?_) | refine xl_store rfl rfl ?_ | refine xl_buildSlice rfl (fun _ => ?_) | refine wl_makeMap rfl rfl (fun _ => ?_) | refine wl_insert rfl rfl rfl rfl rfl rfl (by first | exact rfl | exact trivial) (by first | exact Upd.here | exact Upd.there Upd.here | exact Upd.there (Upd.there Upd.here) | exact Upd.there (Upd.there (Upd.there Upd.here)) | exact Upd.there (Upd.there (Upd.there (Upd.there Upd.here))) | exact Upd.app _ (Upd.here) | exact Upd.app _ (Upd.there Upd.here) | exact Upd.app _ (Upd.there (Upd.there Upd.here)) | exact Upd.app _ (Upd.there (Upd.there (Upd.there Upd.here))) | exact Upd.there (Upd.app _ (Upd.here)) | exact Upd.there (Upd.app _ (Upd.there Upd.here)) | exact Upd.there (Upd.app _ (Upd.there (Upd.there Upd.here))) | exact Upd.there (Upd.app _ (Upd.there (Upd.there (Upd.there Upd.here)))) | exact Upd.there (Upd.there (Upd.app _ (Upd.here))) | exact Upd.there (Upd.there (Upd.app _ (Upd.there Upd.here))) | exact Upd.there (Upd.there (Upd.app _ (Upd.there (Upd.there Upd.here))))) (by rfl) ?_) | refine wc_ret rfl ?_)
      refine wc_cond rfl (fun hc => by exfalso; simp at hc) (fun hc => ?_)
      clear hc
      repeat' (first | refine wc_seq ?_ | refine wc_region ?_ | refine wl_nil ?_ | refine wn_seq ?_ | refine wn_blk ?_ | refine wc_skip ?_ | refine wc_scope ?_ | refine wc_label ?_ | refine wn_noGoto ?_ | refine wc_block ?_ | refine wc_exit rfl ?_ | (show WL _ _ (_ :: _) _ _ _ _; first | refine yl_v rfl rfl rfl ?_ | refine wl_v rfl rfl rfl (by first  | fail) ?_ | refine xl_alloc (fun _ => ?_) | refine xl_box rfl (fun _ => ?_) | refine xl_store rfl rfl ?_ | refine xl_buildSlice rfl (fun _ => ?_) | refine wl_makeMap rfl rfl (fun _ => ?_) | refine wl_insert rfl rfl rfl rfl rfl rfl (by first | exact rfl | exact trivial) (by first | exact Upd.here | exact Upd.there Upd.here | exact Upd.there (Upd.there Upd.here) | exact Upd.there (Upd.there (Upd.there Upd.here)) | exact Upd.there (Upd.there (Upd.there (Upd.there Upd.here))) | exact Upd.app _ (Upd.here) | exact Upd.app _ (Upd.there Upd.here) | exact Upd.app _ (Upd.there (Upd.there Upd.here)) | exact Upd.app _ (Upd.there (Upd.there (Upd.there Upd.here))) | exact Upd.there (Upd.app _ (Upd.here)) | exact Upd.there (Upd.app _ (Upd.there Upd.here)) | exact Upd.there (Upd.app _ (Upd.there (Upd.there Upd.here))) | exact Upd.there (Upd.app _ (Upd.there (Upd.there (Upd.there Upd.here)))) | exact Upd.there (Upd.there (Upd.app _ (Upd.here))) | exact Upd.there (Upd.there (Upd.app _ (Upd.there Upd.here))) | exact Upd.there (Upd.there (Upd.app _ (Upd.there (Upd.there Upd.here))))) (by rfl) ?_) | refine wc_ret rfl ?_)
      rw [slc_pos hK q2]
      refine wl_clear (z := zCk) rfl rfl rfl (fun _ => rfl) Upd.here hfit (zero_plain _) ?_
      repeat' (first | refine wc_seq ?_ | refine wc_region ?_ | refine wl_nil ?_ | refine wn_seq ?_ | refine wn_blk ?_ | refine wc_skip ?_ | refine wc_scope ?_ | refine wc_label ?_ | refine wn_noGoto ?_ | refine wc_block ?_ | refine wc_exit rfl ?_ | (show WL _ _ (_ :: _) _ _ _ _; first | refine yl_v rfl rfl rfl ?_ | refine wl_v rfl rfl rfl (by first  | fail) ?_ | refine xl_alloc (fun _ => ?_) | refine xl_box rfl (fun _ => ?_) | refine xl_store rfl rfl ?_ | refine xl_buildSlice rfl (fun _ => ?_) | refine wl_makeMap rfl rfl (fun _ => ?_) | refine wl_insert rfl rfl rfl rfl rfl rfl (by first | exact rfl | exact trivial) (by first | exact Upd.here | exact Upd.there Upd.here | exact Upd.there (Upd.there Upd.here) | exact Upd.there (Upd.there (Upd.there Upd.here)) | exact Upd.there (Upd.there (Upd.there (Upd.there Upd.here))) | exact Upd.app _ (Upd.here) | exact Upd.app _ (Upd.there Upd.here) | exact Upd.app _ (Upd.there (Upd.there Upd.here)) | exact Upd.app _ (Upd.there (Upd.there (Upd.there Upd.here))) | exact Upd.there (Upd.app _ (Upd.here)) | exact Upd.there (Upd.app _ (Upd.there Upd.here)) | exact Upd.there (Upd.app _ (Upd.there (Upd.there Upd.here))) | exact Upd.there (Upd.app _ (Upd.there (Upd.there (Upd.there Upd.here)))) | exact Upd.there (Upd.there (Upd.app _ (Upd.here))) | exact Upd.there (Upd.there (Upd.app _ (Upd.there Upd.here))) | exact Upd.there (Upd.there (Upd.app _ (Upd.there (Upd.there Upd.here))))) (by rfl) ?_) | refine wc_ret rfl ?_)
      refine wro_tmp (Hs' := [(b, .cells (setCells cur (K.length * 6) (Builtin.zeroCells zCk.cells (l.length - K.length - 1 + 1)).toList).toArray tCk (0, 0))]) rfl rfl (fun _ h => h) (.inr ⟨b, K.length, cap, _, rfl, rfl, cellsC_length K, by omega, q3, ?_, ?_⟩)
      · rw [List.size_toArray, setCells_length, hcl]; exact q4
      · show (setCells cur (K.length * 6) _).take (K.length * 6) = _
        rw [setCells_eq _ _ _ hfit, List.append_assoc, List.take_append_of_le_length (by rw [List.length_take]; omega), List.take_take, Nat.min_self, hkept]
    · have he : idxC p l = l.length := by omega
      rw [if_neg hlt] at hif
      rw [he, List.take_length] at hbef
      rw [hbef]
      repeat' (first | refine wc_seq ?_ | refine wc_region ?_ | refine wl_nil ?_ | refine wn_seq ?_ | refine wn_blk ?_ | refine wc_skip ?_ | refine wc_scope ?_ | refine wc_label ?_ | refine wn_noGoto ?_ | refine wc_block ?_ | refine wc_exit rfl ?_ | (show WL _ _ (_ :: _) _ _ _ _; first | refine yl_v rfl rfl rfl ?_ | refine wl_v rfl rfl rfl (by first | ((show OpV _ _ _ _ (Oper.mk _ (Op.call ⟨.value (.func 51), _, _⟩) _ _ _ _) _ _; exact ov_call Tryz.call51 rfl (by intro himp; first | rfl | (simp_all; done)) (by rfl) (fun _ _ h k => h.ext k) (fun hcg w hw => hif hw))) | fail) ?_ | refine xl_alloc (fun _ => ?_) | refine xl_box rfl (fun _ => ?_) | refine xl_store rfl rfl ?_ | refine xl_buildSlice rfl (fun _ => ?_) | refine wl_makeMap rfl rfl (fun _ => ?_) | refine wl_insert rfl rfl rfl rfl rfl rfl (by first | exact rfl | exact trivial) (by first | exact Upd.here | exact Upd.there Upd.here | exact Upd.there (Upd.there Upd.here) | exact Upd.there (Upd.there (Upd.there Upd.here)) | exact Upd.there (Upd.there (Upd.there (Upd.there Upd.here))) | exact Upd.app _ (Upd.here) | exact Upd.app _ (Upd.there Upd.here) | exact Upd.app _ (Upd.there (Upd.there Upd.here)) | exact Upd.app _ (Upd.there (Upd.there (Upd.there Upd.here))) | exact Upd.there (Upd.app _ (Upd.here)) | exact Upd.there (Upd.app _ (Upd.there Upd.here)) | exact Upd.there (Upd.app _ (Upd.there (Upd.there Upd.here))) | exact Upd.there (Upd.app _ (Upd.there (Upd.there (Upd.there Upd.here)))) | exact Upd.there (Upd.there (Upd.app _ (Upd.here))) | exact Upd.there (Upd.there (Upd.app _ (Upd.there Upd.here))) | exact Upd.there (Upd.there (Upd.app _ (Upd.there (Upd.there Upd.here))))) (by rfl) ?_) | refine wc_ret rfl ?_)
      refine wc_cond rfl (fun hc => ?_) (fun hc => by exfalso; simp at hc)
      repeat' (first | refine wc_seq ?_ | refine wc_region ?_ | refine wl_nil ?_ | refine wn_seq ?_ | refine wn_blk ?_ | refine wc_skip ?_ | refine wc_scope ?_ | refine wc_label ?_ | refine wn_noGoto ?_ | refine wc_block ?_ | refine wc_exit rfl ?_ | (show WL _ _ (_ :: _) _ _ _ _; first | refine yl_v rfl rfl rfl ?_ | refine wl_v rfl rfl rfl (by first  | fail) ?_ | refine xl_alloc (fun _ => ?_) | refine xl_box rfl (fun _ => ?_) | refine xl_store rfl rfl ?_ | refine xl_buildSlice rfl (fun _ => ?_) | refine wl_makeMap rfl rfl (fun _ => ?_) | refine wl_insert rfl rfl rfl rfl rfl rfl (by first | exact rfl | exact trivial) (by first | exact Upd.here | exact Upd.there Upd.here | exact Upd.there (Upd.there Upd.here) | exact Upd.there (Upd.there (Upd.there Upd.here)) | exact Upd.there (Upd.there (Upd.there (Upd.there Upd.here))) | exact Upd.app _ (Upd.here) | exact Upd.app _ (Upd.there Upd.here) | exact Upd.app _ (Upd.there (Upd.there Upd.here)) | exact Upd.app _ (Upd.there (Upd.there (Upd.there Upd.here))) | exact Upd.there (Upd.app _ (Upd.here)) | exact Upd.there (Upd.app _ (Upd.there Upd.here)) | exact Upd.there (Upd.app _ (Upd.there (Upd.there Upd.here))) | exact Upd.there (Upd.app _ (Upd.there (Upd.there (Upd.there Upd.here)))) | exact Upd.there (Upd.there (Upd.app _ (Upd.here))) | exact Upd.there (Upd.there (Upd.app _ (Upd.there Upd.here))) | exact Upd.there (Upd.there (Upd.app _ (Upd.there (Upd.there Upd.here))))) (by rfl) ?_) | refine wc_ret rfl ?_)
      exact wro_tmp (Hs' := [(b, .cells L.toArray tCk (0, 0))]) rfl rfl (fun _ h => h) own0
end Go.Proofs.YtmfelfhingmmbaaGreatDoor
/-
  The engine at a region that draws its order and in which one operation turns a block that the others do not look at: told as in EngD, the worlds before and behind related by whatever relation serves. Nothing of the program stands here.
-/
namespace Go.Eng
open Go.RowKit
set_option linter.unusedVariables false

def SteadyX (X : World → World → Prop) (V : Tell) : Prop := ∀ u w w', X w w' → V u w → V u w'
theorem steadyX_exact (X : World → World → Prop) (c : Bool) (v : Value) : SteadyX X (exact1 c v) := fun _ _ _ _ h => h
section
variable {P : Program} {n : Nat} {E : Env} {C : World → Prop} {k : Kont} {ops : Array Oper} {X : World → World → Prop}
structure ObX (P : Program) (ops : Array Oper) (n : Nat) (C : World → Prop) (X : World → World → Prop) (o : Oper) (G : REnv) (V : Tell) : Prop where
  run : ∀ a w, C w → a.defers = [] → a.tmps.size = n → HR G (· ∈ o.looksAt ops) a w →
    (Region.wanted o (yielded ops a.tmps) = true → o.wp P a w (fun a' w' => ∃ v, a' = a.put o.dst v ∧ (o.dst = none → v = undef) ∧ V v w' ∧ X w w' ∧ C w') (fun _ _ _ => False)) ∧
    (Region.wanted o (yielded ops a.tmps) = false → V undef w)
def putG (o : Oper) (V : Tell) (G : REnv) : REnv := match o.dst with
  | some d => (d, V) :: G
  | none => G
def putQ (o : Oper) (V : Tell) (Q : World → Prop) : World → Prop := match o.dst with
  | some _ => Q
  | none => fun w => Q w ∧ V undef w
def WDsX (P : Program) (ops : Array Oper) (n : Nat) (C : World → Prop) (X : World → World → Prop) : List Oper → REnv → (World → Prop) → (REnv → (World → Prop) → Prop) → Prop
  | [], G, Q, fin => fin G Q
  | o :: rest, G, Q, fin => ∃ V, (∀ d, o.dst = some d → d < n) ∧ SteadyX X V ∧ ObX P ops n C X o G V ∧ WDsX P ops n C X rest (putG o V G) (putQ o V Q) fin

theorem wds_outX : ∀ (l : List Oper) (i : Nat) (G : REnv) (Q : World → Prop) (fin : REnv → (World → Prop) → Prop), (∀ j, j < l.length → ops[i + j]? = l[j]?) → WDsX P ops n C X l G Q fin →
    ∃ (Vs : Nat → Tell) (Q' : World → Prop), (∀ j, j < l.length → ∃ o, ops[i + j]? = some o ∧ (∀ d, o.dst = some d → d < n) ∧ SteadyX X (Vs j) ∧ ObX P ops n C X o (Gam (ops.extract i ops.size) Vs G j) (Vs j)) ∧ fin (Gam (ops.extract i ops.size) Vs G l.length) Q' ∧
      ∀ w, Q w → (∀ j o, j < l.length → ops[i + j]? = some o → o.dst = none → Vs j undef w) → Q' w
  | [], i, G, Q, fin, _, h => ⟨fun _ => fun _ _ => True, Q, by simp, h, fun _ hq _ => hq⟩
  | o :: rest, i, G, Q, fin, hl, h => by
    obtain ⟨V, hdn, hst, hob, hr⟩ := h
    have hoi : ops[i]? = some o := by simpa using hl 0 (by simp)
    obtain ⟨Vs, Q', h1, h2, h3⟩ := wds_outX rest (i + 1) (putG o V G) (putQ o V Q) fin (fun j hj => by have := hl (j + 1) (by simp; omega); simpa [Nat.add_assoc, Nat.add_comm 1 j] using this) hr
    have hilt : i < ops.size := by
      rcases Nat.lt_or_ge i ops.size with h' | h'
      · exact h'
      · simp [Array.getElem?_eq_none h'] at hoi
    have key : ∀ j, Gam (ops.extract i ops.size) (fun | 0 => V | q + 1 => Vs q) G (j + 1) = Gam (ops.extract (i + 1) ops.size) Vs (putG o V G) j := by
      intro j
      induction j with
      | zero =>
        have : (ops.extract i ops.size)[0]? = some o := by rw [Array.getElem?_extract, if_pos (by omega)]; simpa using hoi
        cases hd : o.dst <;> simp [Gam, this, putG, hd]
      | succ j ih =>
        have e : (ops.extract i ops.size)[j + 1]? = (ops.extract (i + 1) ops.size)[j]? := by
          simp only [Array.getElem?_extract]
          have : i + (j + 1) = i + 1 + j := by omega
          rw [this]
          by_cases h' : j < min ops.size ops.size - (i + 1)
          · rw [if_pos (by omega), if_pos h']
          · rw [if_neg (by omega), if_neg h']
        have hS : ∀ (q : Nat) (A : Array Oper) (W : Nat → Tell) (G : REnv), Gam A W G (q + 1) = match (A[q]?).bind (·.dst) with | some d => (d, W q) :: Gam A W G q | none => Gam A W G q := fun _ _ _ _ => rfl
        rw [hS (j + 1) (ops.extract i ops.size) _ G, hS j (ops.extract (i + 1) ops.size) Vs, e, ih]
    refine ⟨fun | 0 => V | q + 1 => Vs q, Q', ?_, ?_, ?_⟩
    · intro j hj
      cases j with
      | zero => exact ⟨o, by simpa using hoi, hdn, hst, hob⟩
      | succ j =>
        obtain ⟨o', ho', hdn', hst', hob'⟩ := h1 j (by simpa using hj)
        exact ⟨o', by rw [← ho']; congr 1; omega, hdn', hst', by rw [key]; exact hob'⟩
    · rw [List.length_cons, key]; exact h2
    · intro w hq hall
      refine h3 w ?_ (fun j p hj hp hd => ?_)
      · unfold putQ
        cases hd : o.dst with
        | some d => exact hq
        | none => exact ⟨hq, hall 0 o (by simp) (by simpa using hoi) hd⟩
      · exact hall (j + 1) p (by simpa using hj) (by rw [← hp]; congr 1; omega) hd

/-- The state in the midst of the first part. -/
structure MidX (ops : Array Oper) (n m : Nat) (C : World → Prop) (Vs : Nat → Tell) (G0 : REnv) (listed : Array Bool) (a : Act) (w : World) : Prop where
  closed : Closed ops listed
  inC : C w
  defers : a.defers = []
  size : a.tmps.size = n
  few : ∀ j, On listed j → j < m
  vals : ∀ j o d, On listed j → ops[j]? = some o → o.dst = some d → ∃ u, a.tmps[d]? = some u ∧ Vs j u w
  facts : ∀ j o, On listed j → ops[j]? = some o → o.dst = none → Vs j undef w
  base : ∀ s U, lookR G0 s = some U → (∀ j o, On listed j → ops[j]? = some o → o.dst ≠ some s) → ∃ u, a.tmps[s]? = some u ∧ U u w

theorem mid_allX {Q : Exit → Act → World → Prop} {m : Nat} {Vs : Nat → Tell} {G0 : REnv} (hord : orderly ops m = true) (hm : m ≤ ops.size) (hst0 : ∀ s U, lookR G0 s = some U → SteadyX X U) (hrefl : ∀ w, X w w)
    (hV : ∀ j, j < m → ∃ o, ops[j]? = some o ∧ (∀ d, o.dst = some d → d < n) ∧ SteadyX X (Vs j) ∧ ObX P ops n C X o (Gam ops Vs G0 j) (Vs j))
    (hfin : ∀ a w, C w → HA n (Gam ops Vs G0 m) a w → (∀ j o, j < m → ops[j]? = some o → o.dst = none → Vs j undef w) → wpList P ops Q (ops.toList.drop m) a w) :
    ∀ (fuel : Nat) (listed : Array Bool) (a : Act) (w : World), left listed = fuel → MidX ops n m C Vs G0 listed a w → wpAny P .any ops Q fuel listed a w := by
  -- all of the prefix is done
  have done : ∀ (fuel : Nat) (listed : Array Bool) (a : Act) (w : World), left listed = fuel → MidX ops n m C Vs G0 listed a w → (∀ j, j < m → On listed j) → wpAny P .any ops Q fuel listed a w := by
    intro fuel listed a w hf hmid hall
    have hon : ∀ j, On listed j ↔ j < m := fun j => ⟨hmid.few j, hall j⟩
    have hlen : left listed = (ops.toList.drop m).length := by
      have : listed = Array.ofFn (n := ops.size) (fun i => decide (i.val < m)) := by
        apply Array.ext
        · simp [hmid.closed.size]
        · intro i h1 h2
          have := hon i
          simp [On, h1] at this
          simp
          cases hb : listed[i] with
          | true => simp [← this, hb]
          | false => simp [hb] at this; simp; omega
      have hc : ∀ (q : Nat), (List.ofFn (n := q) (fun i => decide (i.val < m))).countP (fun b => !b) = q - m := by
        intro q
        induction q with
        | zero => simp
        | succ q ih =>
          rw [List.ofFn_succ_last]
          simp only [List.countP_append, Fin.val_castSucc] 
          rw [ih]
          by_cases h' : q < m
          · simp [h']; omega
          · simp [h']; omega
      unfold left
      rw [this, Array.toList_ofFn, hc]
      simp
    rw [← hf, hlen]
    refine tail_any hord (ops.toList.drop m) m listed a w (Nat.le_refl _) (by simp; omega) (fun j hj => by simp) hmid.closed.size hon (hfin a w hmid.inC ⟨hmid.defers, hmid.size, ?_⟩ (fun j o hj ho hd => hmid.facts j o (hall j hj) ho hd))
    intro s U hs _
    rcases look_gam hs with ⟨j, o, hj, ho, hd, rfl⟩ | ⟨h0, hn⟩
    · exact hmid.vals j o s (hall j hj) ho hd
    · exact hmid.base s U h0 (fun j o hj ho => hn j o ((hon j).1 hj) ho)
  intro fuel
  induction fuel with
  | zero =>
    intro listed a w hf hmid
    exact done 0 listed a w hf hmid (fun j hj => left_zero hf (by rw [hmid.closed.size]; omega))
  | succ fuel ih =>
    intro listed a w hf hmid
    by_cases hall : ∀ j, j < m → On listed j
    · exact done _ listed a w hf hmid hall
    have hready : ∃ i o, i < m ∧ ops[i]? = some o ∧ ¬ On listed i ∧ ∀ l ∈ edges o, On listed l := by
      have : ∃ i, i < m ∧ ¬ On listed i := by
        rcases Classical.em (∃ i, i < m ∧ ¬ On listed i) with h' | h'
        · exact h'
        · exact absurd (fun j hj => Classical.byContradiction fun hn => h' ⟨j, hj, hn⟩) hall
      obtain ⟨i, ⟨hi, hni⟩, hleast⟩ := exists_least this
      have hilt : i < ops.size := by omega
      refine ⟨i, ops[i], hi, by simp [hilt], hni, fun l hl => ?_⟩
      have hli := (orderly_at hord (i := i) (o := ops[i]) (by simp [hilt])).1 l hl
      exact Classical.byContradiction fun hn => by have := hleast l ⟨by omega, hn⟩; omega
    refine ⟨fun h0 => ?_, fun i hi => ?_⟩
    · obtain ⟨i, o, him, ho, hno, hr⟩ := hready
      have : i ∈ Region.ready .any ops listed := (ready_iff hmid.closed.size).2 ⟨o, ho, hno, hr⟩
      rw [h0] at this; cases this
    · obtain ⟨o, ho, hno, hr⟩ := (ready_iff hmid.closed.size).1 hi
      have hord1 := orderly_at hord ho
      have him : i < m := by
        rcases Nat.lt_or_ge i m with h' | h'
        · exact h'
        · obtain ⟨q, p, hqm, hp, hnq, _⟩ := hready
          exact absurd (anc_on hmid.closed (i + 1) i o ho hr q (hord1.2.2.2 h' q (by omega))) hnq
      obtain ⟨o', ho', hdn, hst, hob⟩ := hV i him
      obtain rfl : o = o' := by rw [ho] at ho'; simpa using ho'
      have hilt : i < listed.size := by rw [hmid.closed.size]; omega
      have hHR : HR (Gam ops Vs G0 i) (· ∈ o.looksAt ops) a w := by
        intro s U hs hlook
        rcases look_gam hs with ⟨j, p, hj, hp, hd', rfl⟩ | ⟨h0, hn⟩
        · have := ((hord1.2.2.1 j p s hp (by omega) hd').2 hlook)
          rw [if_pos hj] at this
          exact hmid.vals j p s (hr j this) hp hd'
        · refine hmid.base s U h0 (fun j p hj hp hs' => ?_)
          by_cases hji : j < i
          · exact hn j p hji hp hs'
          · have hne : j ≠ i := fun e => hno (e ▸ hj)
            have := ((hord1.2.2.1 j p s hp hne hs').2 hlook)
            rw [if_neg hji] at this
            exact hno (hmid.closed.back j p hp hj i this)
      have hnext : ∀ v w', (o.dst = none → v = undef) → Vs i v w' → X w w' → C w' → wpAny P .any ops Q fuel (listed.setIfInBounds i true) (a.put o.dst v) w' := by
        intro v w' hun hv hx hC'
        have hsz : (a.put o.dst v).tmps.size = n := by
          cases hd : o.dst <;> simp [Act.put, hmid.size]
        have hdf : (a.put o.dst v).defers = [] := by
          cases hd : o.dst <;> simp [Act.put, hmid.defers]
        have hoth : ∀ s, o.dst ≠ some s → (a.put o.dst v).tmps[s]? = a.tmps[s]? := by
          intro s hs
          cases hd : o.dst with
          | none => simp [Act.put]
          | some d =>
            have hne : d ≠ s := fun e => hs (by rw [hd, e])
            simp only [Act.put]; rw [Array.getElem?_setIfInBounds_ne hne]
        refine ih _ _ _ (by have := left_set hilt hno; omega) ⟨⟨by simpa using hmid.closed.size, ?_⟩, hC', hdf, hsz, ?_, ?_, ?_, ?_⟩
        · intro q p hp hq j hj
          rw [on_set hilt] at hq ⊢
          rcases hq with rfl | hq
          · rw [ho] at hp; obtain rfl : o = p := by simpa using hp
            exact .inr (hr j hj)
          · exact .inr (hmid.closed.back q p hp hq j hj)
        · intro j hj
          rw [on_set hilt] at hj
          rcases hj with rfl | hj
          · exact him
          · exact hmid.few j hj
        · intro j p d' hj hp hd'
          rw [on_set hilt] at hj
          by_cases e : j = i
          · subst e; rw [ho] at hp; obtain rfl : o = p := by simpa using hp
            have hdn' := hdn d' hd'
            exact ⟨v, by rw [hd']; simp [Act.put, hmid.size, hdn'], hv⟩
          · have hj : On listed j := hj.resolve_left e
            obtain ⟨u, hu, hVu⟩ := hmid.vals j p d' hj hp hd'
            have hne := (hord1.2.2.1 j p d' hp e hd').1
            obtain ⟨o2, ho2, _, hst2, _⟩ := hV j (hmid.few j hj)
            exact ⟨u, by rw [hoth d' hne]; exact hu, hst2 _ _ _ hx hVu⟩
        · intro j p hj hp hd'
          rw [on_set hilt] at hj
          by_cases e : j = i
          · subst e; rw [ho] at hp; obtain rfl : o = p := by simpa using hp
            rw [← hun hd']; exact hv
          · have hj : On listed j := hj.resolve_left e
            obtain ⟨o2, ho2, _, hst2, _⟩ := hV j (hmid.few j hj)
            exact hst2 _ _ _ hx (hmid.facts j p hj hp hd')
        · intro s U hs hn
          have hne : o.dst ≠ some s := hn i o (by rw [on_set hilt]; exact .inl rfl) ho
          obtain ⟨u, hu, hU⟩ := hmid.base s U hs (fun j p hj hp => hn j p (by rw [on_set hilt]; exact .inr hj) hp)
          exact ⟨u, by rw [hoth s hne]; exact hu, hst0 s U hs _ _ _ hx hU⟩
      obtain ⟨h1, h2⟩ := hob.run a w hmid.inC hmid.defers hmid.size hHR
      unfold wpOp
      simp only [ho]
      split
      · rename_i hw
        refine .inl ?_
        have := h1 hw
        unfold Oper.wp at this ⊢
        generalize (execOp a.eval o).run P w = r at *
        cases r with
        | ok nx w1 =>
          cases nx <;> simp only [Oper.upon] at this ⊢
          case value u => obtain ⟨v, e, hun, h3, h4, h5⟩ := this; rw [e]; exact hnext v _ hun h3 h4 h5
          case skip => obtain ⟨v, e, hun, h3, h4, h5⟩ := this; rw [e]; exact hnext v _ hun h3 h4 h5
          case defer => obtain ⟨v, e, hun, h3, h4, h5⟩ := this; rw [e]; exact hnext v _ hun h3 h4 h5
          case enter f args =>
            refine this.mono fun e w2 he => ?_
            cases e with
            | returned u => obtain ⟨v, e, hun, h3, h4, h5⟩ := he; show wpAny P .any ops Q fuel _ (a.put o.dst u) w2; rw [e]; exact hnext v _ hun h3 h4 h5
            | panicked c => exact he.elim
            | outgrown => obtain ⟨_, _, h⟩ := he; exact h.elim
          case row row args => refine this.mono fun u w2 he => ?_; obtain ⟨v, e, hun, h3, h4, h5⟩ := he; rw [e]; exact hnext v _ hun h3 h4 h5
        | halt x w1 => cases x <;> simp only [Oper.upon] at this
      · rename_i hw
        have hw' : Region.wanted o (yielded ops a.tmps) = false := by simpa using hw
        exact hnext undef w (fun _ => rfl) (h2 hw') (hrefl _) hmid.inC


/-- The told part (exact entries only), the facts that its writers leave; what is left is walked in the order of the text. -/
structure WX (P : Program) (ops : Array Oper) (l : List Oper) (n : Nat) (E : Env) (C : World → Prop) (X : World → World → Prop) (Q : World → Prop) (tail : List Oper) (k : Kont) : Prop where
  run : ∀ G, (∀ s, lookR G s = (look E s).map fun cv => exact1 cv.1 cv.2) → WDsX P ops n C X l G Q (fun G' Q' => ∀ a w, C w → Q' w → HA n G' a w → wpList P ops (k.post P) tail a w)
theorem wc_drawX {id : Nat} {l : List Oper} (m : Nat) (X : World → World → Prop) (C' : World → Prop) (hm : P.follows .mixedOrders = true) (hml : Nat.ble m l.length = true) (hord : orderly l.toArray m = true) (hrefl : ∀ w, X w w) (hC : ∀ w, C w → C' w.drew)
    (h : WX P l.toArray (l.take m) n E C' X (fun _ => True) (l.drop m) k) : WC P (.region id l.toArray true) n E C k := by
  have hml : m ≤ l.length := Nat.le_of_ble_eq_true hml
  refine ⟨fun a w ha hw => wp_region_any hm ?_⟩
  have h := h.run (ofEnv E) (by intro s; rw [lookR_ofEnv])
  obtain ⟨Vs, Q', hV, hfin, hQ⟩ := wds_outX (ops := l.toArray) (l.take m) 0 _ _ _ (by intro j hj; simp at hj; simp [hj]) h
  have hex : l.toArray.extract 0 l.toArray.size = l.toArray := by simp
  rw [hex] at hV hfin
  have hlen : (l.take m).length = m := by simp; omega
  rw [hlen] at hV hfin hQ
  refine mid_allX (m := m) (C := C') (X := X) (G0 := ofEnv E) hord (by simpa using hml) ?_ hrefl (fun j hj => ?_) (fun a w hCw hA hf => by simpa using hfin a w hCw (hQ w trivial (fun j o hj ho hd => hf j o hj (by simpa using ho) hd)) hA) _ _ a _ (start_left _) ?_
  · intro s U hs
    rw [lookR_ofEnv] at hs
    obtain ⟨cv, _, rfl⟩ := Option.map_eq_some_iff.1 hs
    exact steadyX_exact _ _ _
  · obtain ⟨o, h1, h2⟩ := hV j hj
    exact ⟨o, by simpa using h1, h2⟩
  · refine ⟨⟨by simp, fun i o _ hi => absurd hi (start_on _ _)⟩, hC w hw, ha.defers, ha.size, fun j hj => absurd hj (start_on _ _), fun j o d hj => absurd hj (start_on _ _), fun j o hj => absurd hj (start_on _ _), ?_⟩
    intro s U hs _
    rw [lookR_ofEnv] at hs
    obtain ⟨cv, hcv, rfl⟩ := Option.map_eq_some_iff.1 hs
    exact ⟨_, ha.reads s cv.1 cv.2 hcv, rfl⟩
theorem wx_nil {Q : World → Prop} {tail : List Oper} (h : WL P ops tail n E (fun w => C w ∧ Q w) k) : WX P ops [] n E C X Q tail k := ⟨fun G hG a w hw hq hA => h.run a w ⟨hA.1, hA.2.1, fun i c v hi => by
  obtain ⟨u, hu, hU⟩ := hA.2.2 i (exact1 c v) (by rw [hG]; simp [hi]) trivial
  rw [hu, hU]⟩ ⟨hw, hq⟩⟩
theorem wx_v {d : Nat} {cg : Bool} {v : Value} {o : Oper} {rest tail : List Oper} {Q : World → Prop} (hX : ∀ w w', Ext w w' → X w w') (hg : gd ops E o.guard = some cg) (ho : o.dst = some d) (hd : Nat.blt d n = true) (hb : belowN n E = true) (hsel : noSel o = true)
    (hv : OpV P n E C o cg v) (h : WX P ops rest n ((d, cg, v) :: E) C X Q tail k) : WX P ops (o :: rest) n E C X Q tail k := ⟨fun G hG => by
  have hd : d < n := by simpa [Nat.blt_eq] using hd
  refine ⟨exact1 cg v, (fun d' hd' => by rw [ho] at hd'; cases hd'; exact hd), steadyX_exact _ _ _, ⟨fun a w hw had has hHR => ?_⟩, ?_⟩
  · obtain ⟨b, hb1, hb2, hb3⟩ := turn (ops := ops) (E := E) o had has (fun i c u hi hm => by
      obtain ⟨u', h1, h2⟩ := hHR i (exact1 c u) (by rw [hG]; simp [hi]) hm
      rw [h1, h2]) (noSel_spec hsel) (belowN_look hb)
    have hwb := wanted_gd (ops := ops) hb1 hg
    rw [hb3] at hwb
    refine ⟨fun hwant => ?_, fun hno => ?_⟩
    · have hcg : cg = true := by rw [← hwb]; exact hwant
      have := hv.run hcg b hb1 w hw
      have : YAt P o a C w v := by unfold YAt at *; rw [hb2] at this; exact this
      exact this.wp hw fun w' hw' hx => ⟨v, rfl, (fun h => by rw [ho] at h; cases h), by simp [exact1, hcg], hX _ _ hx, hw'⟩
    · have hcg : cg = false := by rw [← hwb]; exact hno
      simp [exact1, hcg]
  · unfold putG putQ
    rw [ho]
    refine h.run _ ?_
    intro s
    simp only [lookR, look]
    by_cases e : d = s
    · subst e; simp
    · rw [beq_no e, cond_false, cond_false]; exact hG s⟩
/-- a writer: what it leaves is a fact -/
theorem wx_w {o : Oper} {rest tail : List Oper} {Q F : World → Prop} (hg : o.guard = none) (ho : o.dst = none) (hb : belowN n E = true) (hsel : noSel o = true) (hF : ∀ w w', X w w' → F w → F w')
    (hv : ∀ a w, Holds n E a → C w → ∃ w', (execOp a.eval o).run P w = .ok .skip w' ∧ X w w' ∧ C w' ∧ F w') (h : WX P ops rest n E C X (fun w => Q w ∧ F w) tail k) : WX P ops (o :: rest) n E C X Q tail k := ⟨fun G hG => by
  refine ⟨fun _ w => F w, (fun d' hd' => by rw [ho] at hd'; cases hd'), fun _ _ _ hx hf => hF _ _ hx hf, ⟨fun a w hw had has hHR => ?_⟩, ?_⟩
  · obtain ⟨b, hb1, hb2, hb3⟩ := turn (ops := ops) (E := E) o had has (fun i c u hi hm => by
      obtain ⟨u', h1, h2⟩ := hHR i (exact1 c u) (by rw [hG]; simp [hi]) hm
      rw [h1, h2]) (noSel_spec hsel) (belowN_look hb)
    refine ⟨fun _ => ?_, fun hno => by simp [Region.wanted, hg] at hno⟩
    obtain ⟨w', h1, h2, h3, h4⟩ := hv b w hb1 hw
    unfold Oper.wp
    rw [← hb2, h1, Oper.upon_skip, ho]
    exact ⟨undef, by simp [Act.put], fun _ => rfl, h4, h2, h3⟩
  · have e1 : putG o (fun _ w => F w) G = G := by unfold putG; rw [ho]
    have e2 : putQ o (fun _ w => F w) Q = fun w => Q w ∧ F w := by unfold putQ; rw [ho]
    rw [e1, e2]
    exact h.run G hG⟩
/-- laid for good from here on; that it is new is known -/
theorem wl_publish {w0 : World} {H1 H2 : List (Nat × Obj)} {M : Ghost} {l : List Oper} (h : (∀ p ∈ H1, w0.heap.size ≤ p.1) → WL P ops l n E (St w0 [] H2 (With M H1)) k) : WL P ops l n E (St w0 [] (H1 ++ H2) M) k :=
  ⟨fun a w ha hw => (h (fun p hp => by have := hw.new p (List.mem_append_left _ hp); simpa using this)).run a w ha hw.publish⟩
theorem wc_publish {w0 : World} {H1 H2 : List (Nat × Obj)} {M : Ghost} {c : Code} (h : (∀ p ∈ H1, w0.heap.size ≤ p.1) → WC P c n E (St w0 [] H2 (With M H1)) k) : WC P c n E (St w0 [] (H1 ++ H2) M) k :=
  ⟨fun a w ha hw => (h (fun p hp => by have := hw.new p (List.mem_append_left _ hp); simpa using this)).run a w ha hw.publish⟩
theorem since_new {w0 : World} {M0 M : Ghost} {H1 : List (Nat × Obj)} (h : Since w0 M0 M) (hn : ∀ p ∈ H1, w0.heap.size ≤ p.1) : Since w0 M0 (With M H1) := h.step (fun _ _ h => .inl h) (fun b o hb => hb.elim .inl fun hm => .inr (hn (b, o) hm))
/-- a class of worlds that leaves open what one block holds -/
theorem ov_ex {α : Type} {D : α → World → Prop} {o : Oper} {cg : Bool} {v : Value} (h : ∀ x, OpV P n E (D x) o cg v) : OpV P n E (fun w => ∃ x, D x w) o cg v := ⟨fun hc a ha w ⟨x, hw⟩ => by
  have := (h x).run hc a ha w hw
  unfold YAt at *
  generalize (execOp a.eval o).run P w = r at *
  cases r with
  | ok nx w1 =>
    cases nx <;> simp only [] at this ⊢
    case value u => exact this
    case enter f args => exact ⟨this.1, this.2.mono fun e w2 ⟨h1, h2, h3⟩ => ⟨h1, h2, x, h3⟩⟩
  | halt x w1 => simp only [] at this⟩
/-- a store of a whole block of one's own, run -/
theorem exec_store {w0 : World} {bs : List Nat} {H : List (Nat × Obj)} {M : Ghost} {x y : Operand} {ty t : TypeId} {pos : String} {af : Array Edge} {g : Option (Nat × Bool)} {b : Nat} {c l : List Value} {T : TypeId} {v : Value} {a : Act} {w : World} (hw : St w0 bs ((b, .cells c.toArray T (0, 0)) :: H) M w)
    (hx : a.eval x = .pointer (some ⟨b, 0, none⟩)) (hy : a.eval y = v) (hs : (P.info? t).map (·.size) = some v.cells.size) (hv : v.cells.toList = l) (hl : l.length = c.length) (hp : l.all plainV = true) :
    ∃ w', (execOp a.eval ⟨none, .store t x y, ty, pos, af, g⟩).run P w = .ok .skip w' ∧ Keep [b] w w' ∧ St w0 bs ((b, .cells l.toArray T (0, 0)) :: H) M w' ∧ w'.heap[b]? = some (.cells l.toArray T (0, 0)) := by
  have hsz : v.cells.size = l.length := by rw [← hv]; simp
  obtain ⟨w', h1, h2, h3⟩ := run_storeCells (P := P) (b := b) (o := 0) (T := T) v.cells.toList 0 c w (hw.get List.mem_cons_self) (by rw [hv]; omega) (by rw [hv]; exact hp)
  have e : setCells c (0 + 0) v.cells.toList = l := by
    rw [hv]
    have := set_past ([] : List Value) l c (by omega)
    simp only [List.nil_append, List.length_nil] at this
    rw [this, List.drop_eq_nil_of_le (by omega), List.append_nil]
  rw [e] at h3
  refine ⟨w', ?_, h2, hw.upd (o := .cells c.toArray T (0, 0)) Upd.here h2 h3, h3⟩
  simp [execOp, hx, hy, Instr.storeAt, Instr.sureAddr, storeVar, run_sizeOf hs, h1]
/-- what is known of a block said of it -/
theorem St.known {w0 : World} {bs : List Nat} {H : List (Nat × Obj)} {M : Ghost} {b : Nat} {o o' : Obj} {w : World} (h : St w0 bs ((b, o) :: H) M w) (hb : w.heap[b]? = some o') : St w0 bs ((b, o') :: H) M w := by
  refine ⟨h.keep, fun p hp => ?_, fun p hp => ?_, by simpa using h.nodup, h.laid, fun q r hm p hp => ?_⟩
  · rcases List.mem_cons.1 hp with rfl | hp
    · exact hb
    · exact h.own p (List.mem_cons_of_mem _ hp)
  · rcases List.mem_cons.1 hp with rfl | hp
    · exact h.new (b, o) List.mem_cons_self
    · exact h.new p (List.mem_cons_of_mem _ hp)
  · rcases List.mem_cons.1 hp with rfl | hp
    · exact h.apart q r hm (b, o) List.mem_cons_self
    · exact h.apart q r hm p (List.mem_cons_of_mem _ hp)
/-- one block may turn, once, to what is said -/
def TurnsTo (b : Nat) (o : Obj) (w w' : World) : Prop := Keep [b] w w' ∧ (w.heap[b]? = some o → w'.heap[b]? = some o)
theorem TurnsTo.refl (b : Nat) (o : Obj) (w : World) : TurnsTo b o w w := ⟨Keep.refl _ _, id⟩
theorem TurnsTo.ext {b : Nat} {o : Obj} {w w' : World} (h : Ext w w') : TurnsTo b o w w' := ⟨h.to, fun hb => by rw [h.block b (lt_of_get hb) (by simp)]; exact hb⟩
end
end Go.Eng
/-
  A jar: New, Put, All, Pairs; the document's Put, Pairs, Cookies.
-/
namespace Go.Eng
set_option linter.unusedSimpArgs false
set_option linter.unusedVariables false
/-- a call that is lent a block: what is in it then, what is laid for good -/
def RetY (w0 : World) (H : List (Nat × Obj)) (M : Ghost) (b : Nat) (R : Ghost → Obj → Value → Prop) : Ending → World → Prop := fun e w' => ∃ v M' o, e = .returned v ∧ (∀ b o, M b o → M' b o) ∧ (∀ k o, M' k o → M k o ∨ w0.heap.size ≤ k) ∧ St w0 [] ((b, o) :: H) M' w' ∧ R M' o v
section
variable {P : Program} {n : Nat} {E : Env} {k : Kont} {ops : Array Oper} {rest : List Oper} {C : World → Prop}
variable {ty : TypeId} {pos : String} {af : Array Edge} {g : Option (Nat × Bool)} {w0 w : World} {H : List (Nat × Obj)} {M : Ghost} {b : Nat} {R : Ghost → Obj → Value → Prop}
theorem wl_callY {f : FuncId} {l : List Operand} {ats : Array TypeId} {vs : List (Bool × Value)} {args : Array Value} {d : Nat}
    (hg : gd ops E g = some true) (hf : ∀ args w, (callFunc f args).run P w = .ok (.enter f args) w) (hl : evg true E l = some vs) (hp : vs.all (·.1) = true) (hargs : vs.map (·.2) = args.toList) (hd : Nat.blt d n = true)
    (hc : ∀ w, C w → Calls P f args w (RetY w0 H M b R))
    (h : ∀ v M' o, (∀ b o, M b o → M' b o) → (∀ b o, M' b o → M b o ∨ w0.heap.size ≤ b) → R M' o v → WL P ops rest n ((d, true, v) :: E) (St w0 [] ((b, o) :: H) M') k) :
    WL P ops (⟨some d, .call ⟨.value (.func f), l.toArray, ats⟩, ty, pos, af, g⟩ :: rest) n E C k := by
  have hd : d < n := by simpa [Nat.blt_eq] using hd
  refine wl_op hg fun a w ha hw => ?_
  unfold Oper.wp
  rw [run_callf hf (args := args) (by rw [evg_eval ha hl (by simpa using hp), hargs]), Oper.upon_enter]
  refine (hc w hw).mono ?_
  rintro e w' ⟨v, M', o, rfl, h1, h2, h3, h4⟩
  exact (h v M' o h1 h2 h4).run _ w' (ha.put hd rfl) h3
theorem retY_lay {H1 Hn : List (Nat × Obj)} {M0 : Ghost} {o : Obj} {v : Value} (hw : St w0 [] H1 M w) (hs : Since w0 M0 M) (hH : (Hn ++ ((b, o) :: H)).Sublist H1) (hR : R (With M Hn) o v) : RetY w0 H M0 b R (.returned v) w := by
  have hw2 := hw.drop hH
  refine ⟨_, With M Hn, o, rfl, fun b o h => .inl (hs.1 b o h), fun b o h => ?_, hw2.publish, hR⟩
  rcases h with h | h
  · exact hs.2 b o h
  · rcases hw2.new (b, o) (List.mem_append_left _ h) with h3 | h3
    · exact .inr h3
    · cases h3
theorem wry_tmp {H1 Hn : List (Nat × Obj)} {M0 : Ghost} {o : Obj} {fn : Func} {t : Nat} {v' : Value} (hr : fn.results = #[.tmp t]) (ht : look E t = some (true, v')) (hs : Since w0 M0 M) (hH : (Hn ++ ((b, o) :: H)).Sublist H1) (hR : R (With M Hn) o v') : WR n E (St w0 [] H1 M) (bodyPost P fn (RetY w0 H M0 b R)) := ⟨fun a w ha hw => by
  have h1 := ha.reads t true v' ht
  refine bodyPost_ret (v := v') ?_ ha.defers (retY_lay hw hs hH hR)
  rw [results_tmp hr]
  simp [h1]⟩
end
end Go.Eng
namespace Go.Proofs.YtmfelfhingmmbaaGreatDoor
open Go.Eng Go.Pct Go.Txt Go.Ck
set_option maxRecDepth 10000
set_option linter.unusedSimpArgs false
set_option linter.unusedVariables false
variable {M : Ghost} {w0 w : World} {bs : List Nat} {H : List (Nat × Obj)}
def jarO (v : Value) : Obj := .cells [v].toArray 58 (0, 0)
theorem new_ok (hM : Laid M w) : Calls Tryz.prog 13 #[] w (RetS M w (fun _ H v => ∃ b, v = .pointer (some ⟨b, 0, none⟩) ∧ H = [(b, jarO (.slice none 0 0))])) := by
  refine calls_st (l := []) hM Tryz.func13 rfl rfl rfl (E0 := []) (params_nil _) ?_
  repeat' (first | refine wc_seq ?_ | refine wc_region ?_ | refine wl_nil ?_ | refine wn_seq ?_ | refine wn_blk ?_ | refine wc_skip ?_ | refine wc_block ?_ | refine wc_exit rfl ?_ | (show WL _ _ (_ :: _) _ _ _ _; first | refine yl_v rfl rfl rfl ?_ | refine wl_v rfl rfl rfl (by first  | fail) ?_ | refine xl_box rfl (fun _ => ?_)) | refine wc_ret rfl ?_)
  rename_i b
  exact wr_S (Hn := [(b, jarO (.slice none 0 0))]) rfl rfl Since.refl (List.Sublist.refl _) ⟨b, rfl, rfl⟩
theorem by_ok (hM : Laid M w) (x c : Ckie) {b : Nat} {T : TypeId} {fz : Nat × Nat} (hb : M b (.cells (ckCells c).toArray T fz)) : Calls Tryz.prog 32 #[.agg (ckCells x).toArray, .pointer (some ⟨b, 0, none⟩)] w (RetE w (.bool (sameC x c))) := by
  obtain ⟨n, v, p, z, a, b1⟩ := x
  obtain ⟨n', v', p', z', a', b'⟩ := c
  unfold ckCells at hb ⊢
  unfold sameC
  dsimp only at hb ⊢
  refine calls_st (l := [.agg [str n, str v, str p, i64 z, .bool a, .bool b1].toArray, .pointer (some ⟨b, 0, none⟩)]) hM Tryz.func32 rfl rfl rfl (E0 := [(0, true, .agg [str n, str v, str p, i64 z, .bool a, .bool b1].toArray), (1, true, .pointer (some ⟨b, 0, none⟩))]) (params_cons rfl (params_cons rfl (params_nil _))) ?_
  repeat' (first | refine wc_seq ?_ | refine wc_region ?_ | refine wl_nil ?_ | refine wn_seq ?_ | refine wn_blk ?_ | refine wc_skip ?_ | refine wc_block ?_ | refine wc_exit rfl ?_ | (show WL _ _ (_ :: _) _ _ _ _; first | refine yl_v rfl rfl rfl ?_ | refine wl_v rfl rfl rfl (by first | (show OpV _ _ _ _ (Oper.mk _ (Op.load _ _) _ _ _ _) _ _; exact ov_load1M rfl (by first | with_reducible exact fun _ => rfl | with_reducible exact fun h => h | exact fun _ => rfl | exact fun h => h | (intro himp; simp_all; done)) rfl rfl (fun _ => hb) (fun _ => rfl)) | fail) ?_ | refine xl_box rfl (fun _ => ?_)) | refine wc_ret rfl ?_)
  exact wr_weak (fun _ h => h.drop (List.nil_sublist _)) (wr_tmp rfl rfl rfl)
theorem laidC_length (J : List Ckie) (c : Ckie) : (laidC J c).length ≤ J.length + 1 := by
  unfold laidC
  have := List.length_filter_le (fun x => !sameC x c) J
  rw [List.length_append]
  split <;> simp <;> omega
set_option maxHeartbeats 1000000 in
theorem put_ok {jv : Value} {J : List Ckie} {b : Nat} (hJ : SlC M jv J) (hJl : J.length ≤ 100000) (c : Ckie) (hc : SmC c) (hw : St w0 [] ((b, jarO jv) :: H) M w) : Calls Tryz.prog 14 #[.pointer (some ⟨b, 0, none⟩), .agg (ckCells c).toArray] w (RetY w0 H M b (fun M' o v => v = i64 (putP J c).2 ∧ ∃ jv', o = jarO jv' ∧ SlC M' jv' (putP J c).1)) := by
  have hri := fun {w : World} (hw : Laid M w) => cright_ok hw c hc
  have hll := laidC_length J c
  have hby := fun {M : Ghost} {b3 : Nat} (hb : M b3 (.cells (ckCells c).toArray 23 (0, 0))) (x : Ckie) (w : World) (hM : Laid M w) => by_ok hM x c hb
  have hck : ckCells c = [str c.name, str c.value, str c.path, i64 c.age, .bool c.secure, .bool c.http] := rfl
  unfold putP
  refine calls_lent (C := St w0 [] ((b, jarO jv) :: H) M) (l := [.pointer (some ⟨b, 0, none⟩), .agg (ckCells c).toArray]) hw Tryz.func14 rfl rfl rfl (E0 := [(0, true, .pointer (some ⟨b, 0, none⟩)), (1, true, .agg (ckCells c).toArray)]) (params_cons rfl (params_cons rfl (params_nil _))) ?_
  clear hw
  unfold jarO
  rw [hck] at hri hby ⊢
  repeat' (first | refine wc_seq ?_ | refine wc_region ?_ | refine wl_nil ?_ | refine wn_seq ?_ | refine wn_blk ?_ | refine wc_skip ?_ | refine wc_scope ?_ | refine wc_label ?_ | refine wn_noGoto ?_ | refine wc_block ?_ | refine wc_exit rfl ?_ | (show WL _ _ (_ :: _) _ _ _ _; first | refine yl_v rfl rfl rfl ?_ | refine wl_v rfl rfl rfl (by first | ((show OpV _ _ _ _ (Oper.mk _ (Op.call ⟨.value (.func 10), _, _⟩) _ _ _ _) _ _; exact ov_call Tryz.call10 rfl (by intro himp; first | rfl | (simp_all; done)) (by rfl) (fun _ _ h k => h.ext k) (fun hcg w hw => hri hw.laid))) | fail) ?_ | refine xl_alloc (fun _ => ?_) | refine xl_box rfl (fun _ => ?_) | refine xl_store rfl rfl ?_ | refine xl_buildSlice rfl (fun _ => ?_) | refine wl_makeMap rfl rfl (fun _ => ?_) | refine wl_insert rfl rfl rfl rfl rfl rfl (by first | exact rfl | exact trivial) (by first | exact Upd.here | exact Upd.there Upd.here | exact Upd.there (Upd.there Upd.here) | exact Upd.there (Upd.there (Upd.there Upd.here)) | exact Upd.there (Upd.there (Upd.there (Upd.there Upd.here))) | exact Upd.app _ (Upd.here) | exact Upd.app _ (Upd.there Upd.here) | exact Upd.app _ (Upd.there (Upd.there Upd.here)) | exact Upd.app _ (Upd.there (Upd.there (Upd.there Upd.here))) | exact Upd.there (Upd.app _ (Upd.here)) | exact Upd.there (Upd.app _ (Upd.there Upd.here)) | exact Upd.there (Upd.app _ (Upd.there (Upd.there Upd.here))) | exact Upd.there (Upd.app _ (Upd.there (Upd.there (Upd.there Upd.here)))) | exact Upd.there (Upd.there (Upd.app _ (Upd.here))) | exact Upd.there (Upd.there (Upd.app _ (Upd.there Upd.here))) | exact Upd.there (Upd.there (Upd.app _ (Upd.there (Upd.there Upd.here))))) (by rfl) ?_) | refine wc_ret rfl ?_)
  rename_i b3
  refine wc_cond rfl (fun hc => ?_) (fun hc => ?_)
  · have hno : ¬ rightC c = true := by simpa using hc
    repeat' (first | refine wc_seq ?_ | refine wc_region ?_ | refine wl_nil ?_ | refine wn_seq ?_ | refine wn_blk ?_ | refine wc_skip ?_ | refine wc_scope ?_ | refine wc_label ?_ | refine wn_noGoto ?_ | refine wc_block ?_ | refine wc_exit rfl ?_ | (show WL _ _ (_ :: _) _ _ _ _; first | refine yl_v rfl rfl rfl ?_ | refine wl_v rfl rfl rfl (by first  | fail) ?_ | refine xl_alloc (fun _ => ?_) | refine xl_box rfl (fun _ => ?_) | refine xl_store rfl rfl ?_ | refine xl_buildSlice rfl (fun _ => ?_) | refine wl_makeMap rfl rfl (fun _ => ?_) | refine wl_insert rfl rfl rfl rfl rfl rfl (by first | exact rfl | exact trivial) (by first | exact Upd.here | exact Upd.there Upd.here | exact Upd.there (Upd.there Upd.here) | exact Upd.there (Upd.there (Upd.there Upd.here)) | exact Upd.there (Upd.there (Upd.there (Upd.there Upd.here))) | exact Upd.app _ (Upd.here) | exact Upd.app _ (Upd.there Upd.here) | exact Upd.app _ (Upd.there (Upd.there Upd.here)) | exact Upd.app _ (Upd.there (Upd.there (Upd.there Upd.here))) | exact Upd.there (Upd.app _ (Upd.here)) | exact Upd.there (Upd.app _ (Upd.there Upd.here)) | exact Upd.there (Upd.app _ (Upd.there (Upd.there Upd.here))) | exact Upd.there (Upd.app _ (Upd.there (Upd.there (Upd.there Upd.here)))) | exact Upd.there (Upd.there (Upd.app _ (Upd.here))) | exact Upd.there (Upd.there (Upd.app _ (Upd.there Upd.here))) | exact Upd.there (Upd.there (Upd.app _ (Upd.there (Upd.there Upd.here))))) (by rfl) ?_) | refine wc_ret rfl ?_)
    rw [if_neg hno]
    exact wry_tmp (Hn := []) rfl rfl Since.refl (List.sublist_cons_self _ _) ⟨rfl, jv, rfl, hJ.mono (fun _ _ => .inl) (fun _ _ _ h => h)⟩
  · have hyes : rightC c = true := by simpa using hc
    rw [if_pos hyes]
    clear hc
    repeat' (first | refine wc_seq ?_ | refine wc_region ?_ | refine wl_nil ?_ | refine wn_seq ?_ | refine wn_blk ?_ | refine wc_skip ?_ | refine wc_scope ?_ | refine wc_label ?_ | refine wn_noGoto ?_ | refine wc_block ?_ | refine wc_exit rfl ?_ | (show WL _ _ (_ :: _) _ _ _ _; first | refine yl_v rfl rfl rfl ?_ | refine wl_v rfl rfl rfl (by first  | fail) ?_ | refine xl_alloc (fun _ => ?_) | refine xl_box rfl (fun _ => ?_) | refine xl_store rfl rfl ?_ | refine xl_buildSlice rfl (fun _ => ?_) | refine wl_makeMap rfl rfl (fun _ => ?_) | refine wl_insert rfl rfl rfl rfl rfl rfl (by first | exact rfl | exact trivial) (by first | exact Upd.here | exact Upd.there Upd.here | exact Upd.there (Upd.there Upd.here) | exact Upd.there (Upd.there (Upd.there Upd.here)) | exact Upd.there (Upd.there (Upd.there (Upd.there Upd.here))) | exact Upd.app _ (Upd.here) | exact Upd.app _ (Upd.there Upd.here) | exact Upd.app _ (Upd.there (Upd.there Upd.here)) | exact Upd.app _ (Upd.there (Upd.there (Upd.there Upd.here))) | exact Upd.there (Upd.app _ (Upd.here)) | exact Upd.there (Upd.app _ (Upd.there Upd.here)) | exact Upd.there (Upd.app _ (Upd.there (Upd.there Upd.here))) | exact Upd.there (Upd.app _ (Upd.there (Upd.there (Upd.there Upd.here)))) | exact Upd.there (Upd.there (Upd.app _ (Upd.here))) | exact Upd.there (Upd.there (Upd.app _ (Upd.there Upd.here))) | exact Upd.there (Upd.there (Upd.app _ (Upd.there (Upd.there Upd.here))))) (by rfl) ?_) | refine wc_ret rfl ?_)
    refine wl_callS rfl Tryz.call31 rfl rfl rfl rfl (fun w hw => clone_ok hw.laid hJ (by omega)) ?_
    intro v1 H1 M1 hm1 hn1 own1
    repeat' (first | refine wc_seq ?_ | refine wc_region ?_ | refine wl_nil ?_ | refine wn_seq ?_ | refine wn_blk ?_ | refine wc_skip ?_ | refine wc_scope ?_ | refine wc_label ?_ | refine wn_noGoto ?_ | refine wc_block ?_ | refine wc_exit rfl ?_ | (show WL _ _ (_ :: _) _ _ _ _; first | refine yl_v rfl rfl rfl ?_ | refine wl_v rfl rfl rfl (by first  | fail) ?_ | refine xl_alloc (fun _ => ?_) | refine xl_box rfl (fun _ => ?_) | refine xl_store rfl rfl ?_ | refine xl_buildSlice rfl (fun _ => ?_) | refine wl_makeMap rfl rfl (fun _ => ?_) | refine wl_insert rfl rfl rfl rfl rfl rfl (by first | exact rfl | exact trivial) (by first | exact Upd.here | exact Upd.there Upd.here | exact Upd.there (Upd.there Upd.here) | exact Upd.there (Upd.there (Upd.there Upd.here)) | exact Upd.there (Upd.there (Upd.there (Upd.there Upd.here))) | exact Upd.app _ (Upd.here) | exact Upd.app _ (Upd.there Upd.here) | exact Upd.app _ (Upd.there (Upd.there Upd.here)) | exact Upd.app _ (Upd.there (Upd.there (Upd.there Upd.here))) | exact Upd.there (Upd.app _ (Upd.here)) | exact Upd.there (Upd.app _ (Upd.there Upd.here)) | exact Upd.there (Upd.app _ (Upd.there (Upd.there Upd.here))) | exact Upd.there (Upd.app _ (Upd.there (Upd.there (Upd.there Upd.here)))) | exact Upd.there (Upd.there (Upd.app _ (Upd.here))) | exact Upd.there (Upd.there (Upd.app _ (Upd.there Upd.here))) | exact Upd.there (Upd.there (Upd.app _ (Upd.there (Upd.there Upd.here))))) (by rfl) ?_) | refine wc_ret rfl ?_)
    refine wl_weak (Eng.Sub.refl _) (fun _ h => h.perm (H' := [(b3, .cells [str c.name, str c.value, str c.path, i64 c.age, .bool c.secure, .bool c.http].toArray 23 (0, 0))] ++ (H1 ++ ((b, .cells [jv].toArray 58 (0, 0)) :: H))) ?_) ?_
    · rw [List.singleton_append]; exact List.perm_middle.symm
    refine wl_publish fun hnew3 => ?_
    have hs2 : Since w0 M (With M1 [(b3, .cells [str c.name, str c.value, str c.path, i64 c.age, .bool c.secure, .bool c.http].toArray 23 (0, 0))]) := since_new (Since.refl.step hm1 hn1) hnew3
    have hb3 : (With M1 [(b3, .cells [str c.name, str c.value, str c.path, i64 c.age, .bool c.secure, .bool c.http].toArray 23 (0, 0))]) b3 (.cells [str c.name, str c.value, str c.path, i64 c.age, .bool c.secure, .bool c.http].toArray 23 (0, 0)) := .inr (List.mem_singleton.2 rfl)
    have hJ2 := hJ.mono hs2.1 (fun _ _ _ h => h)
    have hby2 := hby hb3
    clear hnew3 hm1 hn1
    generalize With M1 [(b3, .cells [str c.name, str c.value, str c.path, i64 c.age, .bool c.secure, .bool c.http].toArray 23 (0, 0))] = M2 at *
    refine wl_callO (R := fun v' Hs' => OwnS tCk 6 v' Hs' (cellsC (J.filter fun x => !sameC x c))) rfl Tryz.call30 rfl rfl rfl rfl (fun w hw => del_ok own1 (by omega) (fun x => sameC x c) 32 [] [.pointer (some ⟨b3, 0, none⟩)] Tryz.call32 hby2 hw) ?_
    intro v2 H2 own2
    repeat' (first | refine wc_seq ?_ | refine wc_region ?_ | refine wl_nil ?_ | refine wn_seq ?_ | refine wn_blk ?_ | refine wc_skip ?_ | refine wc_scope ?_ | refine wc_label ?_ | refine wn_noGoto ?_ | refine wc_block ?_ | refine wc_exit rfl ?_ | (show WL _ _ (_ :: _) _ _ _ _; first | refine yl_v rfl rfl rfl ?_ | refine wl_v rfl rfl rfl (by first | (show OpV _ _ _ _ (Oper.mk _ (Op.load _ _) _ _ _ _) _ _; exact ov_load1M (v := i64 c.age) rfl (by first | with_reducible exact fun _ => rfl | with_reducible exact fun h => h | exact fun _ => rfl | exact fun h => h | (intro himp; simp_all; done)) rfl rfl (fun _ => hb3) (fun _ => rfl)) | fail) ?_ | refine xl_alloc (fun _ => ?_) | refine xl_box rfl (fun _ => ?_) | refine xl_store rfl rfl ?_ | refine xl_buildSlice rfl (fun _ => ?_) | refine wl_makeMap rfl rfl (fun _ => ?_) | refine wl_insert rfl rfl rfl rfl rfl rfl (by first | exact rfl | exact trivial) (by first | exact Upd.here | exact Upd.there Upd.here | exact Upd.there (Upd.there Upd.here) | exact Upd.there (Upd.there (Upd.there Upd.here)) | exact Upd.there (Upd.there (Upd.there (Upd.there Upd.here))) | exact Upd.app _ (Upd.here) | exact Upd.app _ (Upd.there Upd.here) | exact Upd.app _ (Upd.there (Upd.there Upd.here)) | exact Upd.app _ (Upd.there (Upd.there (Upd.there Upd.here))) | exact Upd.there (Upd.app _ (Upd.here)) | exact Upd.there (Upd.app _ (Upd.there Upd.here)) | exact Upd.there (Upd.app _ (Upd.there (Upd.there Upd.here))) | exact Upd.there (Upd.app _ (Upd.there (Upd.there (Upd.there Upd.here)))) | exact Upd.there (Upd.there (Upd.app _ (Upd.here))) | exact Upd.there (Upd.there (Upd.app _ (Upd.there Upd.here))) | exact Upd.there (Upd.there (Upd.app _ (Upd.there (Upd.there Upd.here))))) (by rfl) ?_) | refine wc_ret rfl ?_)
    refine wc_split (α := { x : Value × List (Nat × Obj) // OwnS tCk 6 x.1 x.2 (cellsC (laidC J c)) }) (fun x => [(0, true, .pointer (some ⟨b, 0, none⟩)), (5, true, x.1.1)]) (fun x => St w0 [] (x.1.2 ++ ((b, .cells [jv].toArray 58 (0, 0)) :: H)) M2) ?_ ?_
    · refine wc_cond rfl (fun hc => ?_) (fun hc => ?_)
      · have hz : ¬ c.age = 0 := by simpa using hc
        have e : laidC J c = (J.filter fun x => !sameC x c) ++ [c] := by unfold laidC; rw [if_neg hz]
        have hfl := List.length_filter_le (fun x => !sameC x c) J
        repeat' (first | refine wc_seq ?_ | refine wc_region ?_ | refine wl_nil ?_ | refine wn_seq ?_ | refine wn_blk ?_ | refine wc_skip ?_ | refine wc_scope ?_ | refine wc_label ?_ | refine wn_noGoto ?_ | refine wc_block ?_ | refine wc_exit rfl ?_ | (show WL _ _ (_ :: _) _ _ _ _; first | refine yl_v rfl rfl rfl ?_ | refine wl_v rfl rfl rfl (by first | (show OpV _ _ _ _ (Oper.mk _ (Op.load _ _) _ _ _ _) _ _; exact ov_loadSM (l := [str c.name, str c.value, str c.path, i64 c.age, .bool c.secure, .bool c.http]) rfl (by first | with_reducible exact fun _ => rfl | with_reducible exact fun h => h | exact fun _ => rfl | exact fun h => h | (intro himp; simp_all; done)) rfl rfl (fun _ => hb3) (fun _ => by intro j hj; simp)) | fail) ?_ | refine xl_alloc (fun _ => ?_) | refine xl_box rfl (fun _ => ?_) | refine xl_store rfl rfl ?_ | refine xl_buildSlice rfl (fun _ => ?_) | refine wl_makeMap rfl rfl (fun _ => ?_) | refine wl_insert rfl rfl rfl rfl rfl rfl (by first | exact rfl | exact trivial) (by first | exact Upd.here | exact Upd.there Upd.here | exact Upd.there (Upd.there Upd.here) | exact Upd.there (Upd.there (Upd.there Upd.here)) | exact Upd.there (Upd.there (Upd.there (Upd.there Upd.here))) | exact Upd.app _ (Upd.here) | exact Upd.app _ (Upd.there Upd.here) | exact Upd.app _ (Upd.there (Upd.there Upd.here)) | exact Upd.app _ (Upd.there (Upd.there (Upd.there Upd.here))) | exact Upd.there (Upd.app _ (Upd.here)) | exact Upd.there (Upd.app _ (Upd.there Upd.here)) | exact Upd.there (Upd.app _ (Upd.there (Upd.there Upd.here))) | exact Upd.there (Upd.app _ (Upd.there (Upd.there (Upd.there Upd.here)))) | exact Upd.there (Upd.there (Upd.app _ (Upd.here))) | exact Upd.there (Upd.there (Upd.app _ (Upd.there Upd.here))) | exact Upd.there (Upd.there (Upd.app _ (Upd.there (Upd.there Upd.here))))) (by rfl) ?_) | refine wc_ret rfl ?_)
        rename_i b21
        refine wl_append (H0 := (b, .cells [jv].toArray 58 (0, 0)) :: H) rfl own2 rfl rfl rfl rfl rfl rfl rfl rfl rfl rfl (List.Mem.head _) rfl rfl (List.sublist_cons_self _ _) (by rw [cellsC_length]; omega) rfl ?_
        intro v3 H3 own3
        repeat' (first | refine wc_seq ?_ | refine wc_region ?_ | refine wl_nil ?_ | refine wn_seq ?_ | refine wn_blk ?_ | refine wc_skip ?_ | refine wc_scope ?_ | refine wc_label ?_ | refine wn_noGoto ?_ | refine wc_block ?_ | refine wc_exit rfl ?_ | (show WL _ _ (_ :: _) _ _ _ _; first | refine yl_v rfl rfl rfl ?_ | refine wl_v rfl rfl rfl (by first  | fail) ?_ | refine xl_alloc (fun _ => ?_) | refine xl_box rfl (fun _ => ?_) | refine xl_store rfl rfl ?_ | refine xl_buildSlice rfl (fun _ => ?_) | refine wl_makeMap rfl rfl (fun _ => ?_) | refine wl_insert rfl rfl rfl rfl rfl rfl (by first | exact rfl | exact trivial) (by first | exact Upd.here | exact Upd.there Upd.here | exact Upd.there (Upd.there Upd.here) | exact Upd.there (Upd.there (Upd.there Upd.here)) | exact Upd.there (Upd.there (Upd.there (Upd.there Upd.here))) | exact Upd.app _ (Upd.here) | exact Upd.app _ (Upd.there Upd.here) | exact Upd.app _ (Upd.there (Upd.there Upd.here)) | exact Upd.app _ (Upd.there (Upd.there (Upd.there Upd.here))) | exact Upd.there (Upd.app _ (Upd.here)) | exact Upd.there (Upd.app _ (Upd.there Upd.here)) | exact Upd.there (Upd.app _ (Upd.there (Upd.there Upd.here))) | exact Upd.there (Upd.app _ (Upd.there (Upd.there (Upd.there Upd.here)))) | exact Upd.there (Upd.there (Upd.app _ (Upd.here))) | exact Upd.there (Upd.there (Upd.app _ (Upd.there Upd.here))) | exact Upd.there (Upd.there (Upd.app _ (Upd.there (Upd.there Upd.here))))) (by rfl) ?_) | refine wc_ret rfl ?_)
        exact wn_cut ⟨(v3, H3), by rw [e, cellsC_append, cellsC_one]; exact own3⟩ trivial (by first | exact Sub.nil _ | (repeat (first | exact Sub.nil _ | refine Sub.cons (by first | rfl | (simp [look]; done)) ?_))) (fun _ h => h)
      · have hz : c.age = 0 := by simpa using hc
        have e : laidC J c = J.filter fun x => !sameC x c := by unfold laidC; rw [if_pos hz, List.append_nil]
        repeat' (first | refine wc_seq ?_ | refine wc_region ?_ | refine wl_nil ?_ | refine wn_seq ?_ | refine wn_blk ?_ | refine wc_skip ?_ | refine wc_scope ?_ | refine wc_label ?_ | refine wn_noGoto ?_ | refine wc_block ?_ | refine wc_exit rfl ?_ | (show WL _ _ (_ :: _) _ _ _ _; first | refine yl_v rfl rfl rfl ?_ | refine wl_v rfl rfl rfl (by first  | fail) ?_ | refine xl_alloc (fun _ => ?_) | refine xl_box rfl (fun _ => ?_) | refine xl_store rfl rfl ?_ | refine xl_buildSlice rfl (fun _ => ?_) | refine wl_makeMap rfl rfl (fun _ => ?_) | refine wl_insert rfl rfl rfl rfl rfl rfl (by first | exact rfl | exact trivial) (by first | exact Upd.here | exact Upd.there Upd.here | exact Upd.there (Upd.there Upd.here) | exact Upd.there (Upd.there (Upd.there Upd.here)) | exact Upd.there (Upd.there (Upd.there (Upd.there Upd.here))) | exact Upd.app _ (Upd.here) | exact Upd.app _ (Upd.there Upd.here) | exact Upd.app _ (Upd.there (Upd.there Upd.here)) | exact Upd.app _ (Upd.there (Upd.there (Upd.there Upd.here))) | exact Upd.there (Upd.app _ (Upd.here)) | exact Upd.there (Upd.app _ (Upd.there Upd.here)) | exact Upd.there (Upd.app _ (Upd.there (Upd.there Upd.here))) | exact Upd.there (Upd.app _ (Upd.there (Upd.there (Upd.there Upd.here)))) | exact Upd.there (Upd.there (Upd.app _ (Upd.here))) | exact Upd.there (Upd.there (Upd.app _ (Upd.there Upd.here))) | exact Upd.there (Upd.there (Upd.app _ (Upd.there (Upd.there Upd.here))))) (by rfl) ?_) | refine wc_ret rfl ?_)
        exact wn_cut ⟨(v2, H2), by rw [e]; exact own2⟩ trivial (by first | exact Sub.nil _ | (repeat (first | exact Sub.nil _ | refine Sub.cons (by first | rfl | (simp [look]; done)) ?_))) (fun _ h => h)
    rintro ⟨⟨v3, H3⟩, own3⟩
    dsimp only at own3 ⊢
    obtain ⟨a3, c3, rfl⟩ := own3.slice (k := (laidC J c).length) (by decide) (cellsC_length _)
    repeat' (first | refine wc_seq ?_ | refine wc_region ?_ | refine wl_nil ?_ | refine wn_seq ?_ | refine wn_blk ?_ | refine wc_skip ?_ | refine wc_scope ?_ | refine wc_label ?_ | refine wn_noGoto ?_ | refine wc_block ?_ | refine wc_exit rfl ?_ | (show WL _ _ (_ :: _) _ _ _ _; first | refine yl_v rfl rfl rfl ?_ | refine wl_v rfl rfl rfl (by first  | fail) ?_ | refine xl_alloc (fun _ => ?_) | refine xl_box rfl (fun _ => ?_) | refine xl_store rfl rfl ?_ | refine xl_buildSlice rfl (fun _ => ?_) | refine wl_makeMap rfl rfl (fun _ => ?_) | refine wl_insert rfl rfl rfl rfl rfl rfl (by first | exact rfl | exact trivial) (by first | exact Upd.here | exact Upd.there Upd.here | exact Upd.there (Upd.there Upd.here) | exact Upd.there (Upd.there (Upd.there Upd.here)) | exact Upd.there (Upd.there (Upd.there (Upd.there Upd.here))) | exact Upd.app _ (Upd.here) | exact Upd.app _ (Upd.there Upd.here) | exact Upd.app _ (Upd.there (Upd.there Upd.here)) | exact Upd.app _ (Upd.there (Upd.there (Upd.there Upd.here))) | exact Upd.there (Upd.app _ (Upd.here)) | exact Upd.there (Upd.app _ (Upd.there Upd.here)) | exact Upd.there (Upd.app _ (Upd.there (Upd.there Upd.here))) | exact Upd.there (Upd.app _ (Upd.there (Upd.there (Upd.there Upd.here)))) | exact Upd.there (Upd.there (Upd.app _ (Upd.here))) | exact Upd.there (Upd.there (Upd.app _ (Upd.there Upd.here))) | exact Upd.there (Upd.there (Upd.app _ (Upd.there (Upd.there Upd.here))))) (by rfl) ?_) | refine wc_ret rfl ?_)
    refine wc_cond rfl (fun hc => ?_) (fun hc => ?_)
    · have hbig : 20 < (laidC J c).length := by simp at hc; omega
      repeat' (first | refine wc_seq ?_ | refine wc_region ?_ | refine wl_nil ?_ | refine wn_seq ?_ | refine wn_blk ?_ | refine wc_skip ?_ | refine wc_scope ?_ | refine wc_label ?_ | refine wn_noGoto ?_ | refine wc_block ?_ | refine wc_exit rfl ?_ | (show WL _ _ (_ :: _) _ _ _ _; first | refine yl_v rfl rfl rfl ?_ | refine wl_v rfl rfl rfl (by first  | fail) ?_ | refine xl_alloc (fun _ => ?_) | refine xl_box rfl (fun _ => ?_) | refine xl_store rfl rfl ?_ | refine xl_buildSlice rfl (fun _ => ?_) | refine wl_makeMap rfl rfl (fun _ => ?_) | refine wl_insert rfl rfl rfl rfl rfl rfl (by first | exact rfl | exact trivial) (by first | exact Upd.here | exact Upd.there Upd.here | exact Upd.there (Upd.there Upd.here) | exact Upd.there (Upd.there (Upd.there Upd.here)) | exact Upd.there (Upd.there (Upd.there (Upd.there Upd.here))) | exact Upd.app _ (Upd.here) | exact Upd.app _ (Upd.there Upd.here) | exact Upd.app _ (Upd.there (Upd.there Upd.here)) | exact Upd.app _ (Upd.there (Upd.there (Upd.there Upd.here))) | exact Upd.there (Upd.app _ (Upd.here)) | exact Upd.there (Upd.app _ (Upd.there Upd.here)) | exact Upd.there (Upd.app _ (Upd.there (Upd.there Upd.here))) | exact Upd.there (Upd.app _ (Upd.there (Upd.there (Upd.there Upd.here)))) | exact Upd.there (Upd.there (Upd.app _ (Upd.here))) | exact Upd.there (Upd.there (Upd.app _ (Upd.there Upd.here))) | exact Upd.there (Upd.there (Upd.app _ (Upd.there (Upd.there Upd.here))))) (by rfl) ?_) | refine wc_ret rfl ?_)
      rw [if_pos hbig]
      exact wry_tmp (Hn := []) rfl rfl hs2 (List.sublist_append_right _ _) ⟨rfl, jv, rfl, hJ2.mono (fun _ _ => .inl) (fun _ _ _ h => h)⟩
    · have hsm : ¬ 20 < (laidC J c).length := by simp at hc; omega
      repeat' (first | refine wc_seq ?_ | refine wc_region ?_ | refine wl_nil ?_ | refine wn_seq ?_ | refine wn_blk ?_ | refine wc_skip ?_ | refine wc_scope ?_ | refine wc_label ?_ | refine wn_noGoto ?_ | refine wc_block ?_ | refine wc_exit rfl ?_ | (show WL _ _ (_ :: _) _ _ _ _; first | refine yl_v rfl rfl rfl ?_ | refine wl_v rfl rfl rfl (by first  | fail) ?_ | refine xl_alloc (fun _ => ?_) | refine xl_box rfl (fun _ => ?_) | refine xl_store rfl rfl ?_ | refine xl_buildSlice rfl (fun _ => ?_) | refine wl_makeMap rfl rfl (fun _ => ?_) | refine wl_insert rfl rfl rfl rfl rfl rfl (by first | exact rfl | exact trivial) (by first | exact Upd.here | exact Upd.there Upd.here | exact Upd.there (Upd.there Upd.here) | exact Upd.there (Upd.there (Upd.there Upd.here)) | exact Upd.there (Upd.there (Upd.there (Upd.there Upd.here))) | exact Upd.app _ (Upd.here) | exact Upd.app _ (Upd.there Upd.here) | exact Upd.app _ (Upd.there (Upd.there Upd.here)) | exact Upd.app _ (Upd.there (Upd.there (Upd.there Upd.here))) | exact Upd.there (Upd.app _ (Upd.here)) | exact Upd.there (Upd.app _ (Upd.there Upd.here)) | exact Upd.there (Upd.app _ (Upd.there (Upd.there Upd.here))) | exact Upd.there (Upd.app _ (Upd.there (Upd.there (Upd.there Upd.here)))) | exact Upd.there (Upd.there (Upd.app _ (Upd.here))) | exact Upd.there (Upd.there (Upd.app _ (Upd.there Upd.here))) | exact Upd.there (Upd.there (Upd.app _ (Upd.there (Upd.there Upd.here))))) (by rfl) ?_) | refine wc_ret rfl ?_)
      rw [if_neg hsm]
      exact wry_tmp (Hn := H3) rfl rfl hs2 (List.Sublist.refl _) ⟨rfl, _, rfl, OwnS.slC own3 (fun p hp => .inr hp) (by show (laidC J c).length ≤ _; omega)⟩
end Go.Proofs.YtmfelfhingmmbaaGreatDoor
/-
  A jar: All, Pairs; the document's Put, Pairs, Cookies.
-/
namespace Go.Proofs.YtmfelfhingmmbaaGreatDoor
open Go.Eng Go.Pct Go.Txt Go.Ck
set_option maxRecDepth 10000
set_option linter.unusedSimpArgs false
set_option linter.unusedVariables false
variable {M : Ghost} {w0 w : World} {bs : List Nat} {H : List (Nat × Obj)}
abbrev tPr : TypeId := 41
theorem pairsP_next {J : List Ckie} {path : List UInt8} {secure : Bool} {i : Nat} (h : i < J.length) : pairsP (J.take (i + 1)) path secure = pairsP (J.take i) path secure ++ (if (underP path (J.getD i default).path && (secure || !(J.getD i default).secure)) = true then [((J.getD i default).name, (J.getD i default).value)] else []) := by
  have e : J.getD i default = J[i] := by simp [h]
  unfold pairsP
  rw [List.take_succ_eq_append_getElem h, List.filter_append, List.map_append, e]
  congr 1
  by_cases hp : (underP path J[i].path && (secure || !J[i].secure)) = true
  · rw [if_pos hp]; simp only [List.filter_cons, hp, if_true, List.filter_nil, List.map_cons, List.map_nil]
  · rw [if_neg hp]; simp only [List.filter_cons, hp, List.filter_nil]; rfl
theorem pairsP_length (J : List Ckie) (path : List UInt8) (secure : Bool) : (pairsP J path secure).length ≤ J.length := by
  unfold pairsP; rw [List.length_map]; exact List.length_filter_le _ _
structure PS (J : List Ckie) (path : List UInt8) (secure : Bool) where
  i : Nat
  v : Value
  Hs : List (Nat × Obj)
  hi : i ≤ J.length
  own : OwnS tPr 2 v Hs (cellsP (pairsP (J.take i) path secure))
theorem sm_at {J : List Ckie} (h : ∀ c ∈ J, SmC c) {i : Nat} (hi : i < J.length) : SmC (J.getD i default) := by
  have e : J.getD i default = J[i] := by simp [hi]
  rw [e]; exact h _ (List.getElem_mem _)
set_option maxHeartbeats 1000000 in
theorem jpairs_ok {jv : Value} {J : List Ckie} {b : Nat} (hJ : SlC M jv J) (hJl : J.length ≤ 100000) (hsm : ∀ c ∈ J, SmC c) (path : List UInt8) (secure : Bool) (hp : path.length ≤ 9223372036854775807) (hw : St w0 [] ((b, jarO jv) :: H) M w) : Calls Tryz.prog 15 #[.pointer (some ⟨b, 0, none⟩), str path, .bool secure] w (RetY w0 H M b (fun M' o v => o = jarO jv ∧ SlP M' v (pairsP J path secure))) := by
  obtain ⟨a, cap, bb, o, cs, T, fz, rfl, h1, h2, h3, h4⟩ := hJ.open
  refine calls_lent (C := St w0 [] ((b, jarO (.slice a J.length cap)) :: H) M) (l := [.pointer (some ⟨b, 0, none⟩), str path, .bool secure]) hw Tryz.func15 rfl rfl rfl (E0 := [(0, true, .pointer (some ⟨b, 0, none⟩)), (1, true, str path), (2, true, .bool secure)]) (params_cons rfl (params_cons rfl (params_cons rfl (params_nil _)))) ?_
  clear hw
  unfold jarO
  repeat' (first | refine wc_seq ?_ | refine wc_region ?_ | refine wl_nil ?_ | refine wn_seq ?_ | refine wn_blk ?_ | refine wc_skip ?_ | refine wc_scope ?_ | refine wc_label ?_ | refine wn_noGoto ?_ | refine wc_block ?_ | refine wc_exit rfl ?_ | (show WL _ _ (_ :: _) _ _ _ _; first | refine yl_v rfl rfl rfl ?_ | refine wl_v rfl rfl rfl (by first  | fail) ?_ | refine xl_alloc (fun _ => ?_) | refine xl_box rfl (fun _ => ?_) | refine xl_store rfl rfl ?_ | refine xl_buildSlice rfl (fun _ => ?_) | refine wl_makeMap rfl rfl (fun _ => ?_) | refine wl_insert rfl rfl rfl rfl rfl rfl (by first | exact rfl | exact trivial) (by first | exact Upd.here | exact Upd.there Upd.here | exact Upd.there (Upd.there Upd.here) | exact Upd.there (Upd.there (Upd.there Upd.here)) | exact Upd.there (Upd.there (Upd.there (Upd.there Upd.here))) | exact Upd.app _ (Upd.here) | exact Upd.app _ (Upd.there Upd.here) | exact Upd.app _ (Upd.there (Upd.there Upd.here)) | exact Upd.app _ (Upd.there (Upd.there (Upd.there Upd.here))) | exact Upd.there (Upd.app _ (Upd.here)) | exact Upd.there (Upd.app _ (Upd.there Upd.here)) | exact Upd.there (Upd.app _ (Upd.there (Upd.there Upd.here))) | exact Upd.there (Upd.app _ (Upd.there (Upd.there (Upd.there Upd.here)))) | exact Upd.there (Upd.there (Upd.app _ (Upd.here))) | exact Upd.there (Upd.there (Upd.app _ (Upd.there Upd.here))) | exact Upd.there (Upd.there (Upd.app _ (Upd.there (Upd.there Upd.here))))) (by rfl) ?_) | refine wc_ret rfl ?_)
  refine wc_loop (α := PS J path secure) (fun x => [(1, true, str path), (2, true, .bool secure), (7, true, x.v), (13, true, .slice a J.length cap), (14, true, i64 (J.length : Int)), (15, true, i64 (x.i : Int))]) (fun x => St w0 [] (x.Hs ++ ((b, .cells [.slice a J.length cap].toArray 58 (0, 0)) :: H)) M) (fun x => J.length - x.i) ⟨0, .slice none 0 0, [], Nat.zero_le _, OwnS.nil⟩ (by first | exact Sub.nil _ | (repeat (first | exact Sub.nil _ | refine Sub.cons (by first | rfl | (simp [look]; done)) ?_))) (fun _ h => h) ?_
  rintro ⟨i, v, Hs, hi, own⟩
  dsimp only
  have hpl := pairsP_length (J.take i) path secure
  rw [List.length_take] at hpl
  by_cases hlt : i < J.length
  · have hne : J ≠ [] := by rintro rfl; simp at hlt
    obtain ⟨rfl, hMb⟩ := h3 hne
    have hcell := h4 i hlt
    have hnx := pairsP_next (path := path) (secure := secure) hlt
    have hs := sm_at hsm hlt
    generalize J.getD i default = x at *
    have hun := fun {w : World} (hw : Laid M w) => under_ok hw path x.path hp hs.2.2
    have hcell2 : ∀ k, k < [str x.name, str x.value, str x.path, i64 x.age, .bool x.secure, .bool x.http].length → cs[o + i * 6 + k]? = [str x.name, str x.value, str x.path, i64 x.age, .bool x.secure, .bool x.http][k]? := hcell
    clear hcell
    repeat' (first | refine wc_seq ?_ | refine wc_region ?_ | refine wl_nil ?_ | refine wn_seq ?_ | refine wn_blk ?_ | refine wc_skip ?_ | refine wc_scope ?_ | refine wc_label ?_ | refine wn_noGoto ?_ | refine wc_block ?_ | refine wc_exit rfl ?_ | (show WL _ _ (_ :: _) _ _ _ _; first | refine yl_v rfl rfl rfl ?_ | refine wl_v rfl rfl rfl (by first  | fail) ?_ | refine xl_alloc (fun _ => ?_) | refine xl_box rfl (fun _ => ?_) | refine xl_store rfl rfl ?_ | refine xl_buildSlice rfl (fun _ => ?_) | refine wl_makeMap rfl rfl (fun _ => ?_) | refine wl_insert rfl rfl rfl rfl rfl rfl (by first | exact rfl | exact trivial) (by first | exact Upd.here | exact Upd.there Upd.here | exact Upd.there (Upd.there Upd.here) | exact Upd.there (Upd.there (Upd.there Upd.here)) | exact Upd.there (Upd.there (Upd.there (Upd.there Upd.here))) | exact Upd.app _ (Upd.here) | exact Upd.app _ (Upd.there Upd.here) | exact Upd.app _ (Upd.there (Upd.there Upd.here)) | exact Upd.app _ (Upd.there (Upd.there (Upd.there Upd.here))) | exact Upd.there (Upd.app _ (Upd.here)) | exact Upd.there (Upd.app _ (Upd.there Upd.here)) | exact Upd.there (Upd.app _ (Upd.there (Upd.there Upd.here))) | exact Upd.there (Upd.app _ (Upd.there (Upd.there (Upd.there Upd.here)))) | exact Upd.there (Upd.there (Upd.app _ (Upd.here))) | exact Upd.there (Upd.there (Upd.app _ (Upd.there Upd.here))) | exact Upd.there (Upd.there (Upd.app _ (Upd.there (Upd.there Upd.here))))) (by rfl) ?_) | refine wc_ret rfl ?_)
    refine wc_cond rfl (fun hc => ?_) (fun hc => by exfalso; simp at hc; omega)
    clear hc
    repeat' (first | refine wc_seq ?_ | refine wc_region ?_ | refine wl_nil ?_ | refine wn_seq ?_ | refine wn_blk ?_ | refine wc_skip ?_ | refine wc_scope ?_ | refine wc_label ?_ | refine wn_noGoto ?_ | refine wc_block ?_ | refine wc_exit rfl ?_ | (show WL _ _ (_ :: _) _ _ _ _; first | refine yl_v rfl rfl rfl ?_ | refine wl_v rfl rfl rfl (by first | (show OpV _ _ _ _ (Oper.mk _ (Op.indexAddr _ _ _) _ _ _ _) _ _; exact ov_indexAddr (i := i) (b := bb) (o := o) rfl rfl rfl (by first | with_reducible exact fun _ => rfl | with_reducible exact fun h => h | exact fun _ => rfl | exact fun h => h | (intro himp; simp_all; done)) (by first | with_reducible exact fun _ => rfl | with_reducible exact fun h => h | exact fun _ => rfl | exact fun h => h | (intro himp; simp_all; done)) rfl (by first | exact (rfl : _ = some 1) | exact (rfl : _ = some 2) | exact (rfl : _ = some 3) | exact (rfl : _ = some 4) | exact (rfl : _ = some 6) | exact rfl) (fun _ => rfl) (by intro hcg; first | omega | (simp at hcg; omega))) | (show OpV _ _ _ _ (Oper.mk _ (Op.load _ _) _ _ _ _) _ _; exact ov_loadSM rfl (by first | with_reducible exact fun _ => rfl | with_reducible exact fun h => h | exact fun _ => rfl | exact fun h => h | (intro himp; simp_all; done)) rfl (by rfl) (fun _ => hMb) (fun _ => hcell2)) | ((show OpV _ _ _ _ (Oper.mk _ (Op.call ⟨.value (.func 33), _, _⟩) _ _ _ _) _ _; exact ov_call Tryz.call33 rfl (by intro himp; first | rfl | (simp_all; done)) (by rfl) (fun _ _ h k => h.ext k) (fun hcg w hw => hun hw.laid))) | fail) ?_ | refine xl_alloc (fun _ => ?_) | refine xl_box rfl (fun _ => ?_) | refine xl_store rfl rfl ?_ | refine xl_buildSlice rfl (fun _ => ?_) | refine wl_makeMap rfl rfl (fun _ => ?_) | refine wl_insert rfl rfl rfl rfl rfl rfl (by first | exact rfl | exact trivial) (by first | exact Upd.here | exact Upd.there Upd.here | exact Upd.there (Upd.there Upd.here) | exact Upd.there (Upd.there (Upd.there Upd.here)) | exact Upd.there (Upd.there (Upd.there (Upd.there Upd.here))) | exact Upd.app _ (Upd.here) | exact Upd.app _ (Upd.there Upd.here) | exact Upd.app _ (Upd.there (Upd.there Upd.here)) | exact Upd.app _ (Upd.there (Upd.there (Upd.there Upd.here))) | exact Upd.there (Upd.app _ (Upd.here)) | exact Upd.there (Upd.app _ (Upd.there Upd.here)) | exact Upd.there (Upd.app _ (Upd.there (Upd.there Upd.here))) | exact Upd.there (Upd.app _ (Upd.there (Upd.there (Upd.there Upd.here)))) | exact Upd.there (Upd.there (Upd.app _ (Upd.here))) | exact Upd.there (Upd.there (Upd.app _ (Upd.there Upd.here))) | exact Upd.there (Upd.there (Upd.app _ (Upd.there (Upd.there Upd.here))))) (by rfl) ?_) | refine wc_ret rfl ?_)
    refine wc_cond rfl (fun hc => ?_) (fun hc => ?_)
    · have hyes : (underP path x.path && (secure || !x.secure)) = true := hc
      rw [if_pos hyes] at hnx
      repeat' (first | refine wc_seq ?_ | refine wc_region ?_ | refine wl_nil ?_ | refine wn_seq ?_ | refine wn_blk ?_ | refine wc_skip ?_ | refine wc_scope ?_ | refine wc_label ?_ | refine wn_noGoto ?_ | refine wc_block ?_ | refine wc_exit rfl ?_ | (show WL _ _ (_ :: _) _ _ _ _; first | refine yl_v rfl rfl rfl ?_ | refine wl_v rfl rfl rfl (by first  | fail) ?_ | refine xl_alloc (fun _ => ?_) | refine xl_box rfl (fun _ => ?_) | refine xl_store rfl rfl ?_ | refine xl_buildSlice rfl (fun _ => ?_) | refine wl_makeMap rfl rfl (fun _ => ?_) | refine wl_insert rfl rfl rfl rfl rfl rfl (by first | exact rfl | exact trivial) (by first | exact Upd.here | exact Upd.there Upd.here | exact Upd.there (Upd.there Upd.here) | exact Upd.there (Upd.there (Upd.there Upd.here)) | exact Upd.there (Upd.there (Upd.there (Upd.there Upd.here))) | exact Upd.app _ (Upd.here) | exact Upd.app _ (Upd.there Upd.here) | exact Upd.app _ (Upd.there (Upd.there Upd.here)) | exact Upd.app _ (Upd.there (Upd.there (Upd.there Upd.here))) | exact Upd.there (Upd.app _ (Upd.here)) | exact Upd.there (Upd.app _ (Upd.there Upd.here)) | exact Upd.there (Upd.app _ (Upd.there (Upd.there Upd.here))) | exact Upd.there (Upd.app _ (Upd.there (Upd.there (Upd.there Upd.here)))) | exact Upd.there (Upd.there (Upd.app _ (Upd.here))) | exact Upd.there (Upd.there (Upd.app _ (Upd.there Upd.here))) | exact Upd.there (Upd.there (Upd.app _ (Upd.there (Upd.there Upd.here))))) (by rfl) ?_) | refine wc_ret rfl ?_)
      rename_i b37
      refine wl_append (H0 := (b, .cells [.slice (some ⟨bb, o, none⟩) J.length cap].toArray 58 (0, 0)) :: H) rfl own rfl rfl rfl rfl rfl rfl rfl rfl rfl rfl (List.Mem.head _) rfl rfl (List.Sublist.cons _ (List.sublist_cons_self _ _)) (by rw [cellsP_length]; omega) rfl ?_
      intro v' Hs' ho'
      have ho2 : OwnS tPr 2 v' Hs' (cellsP (pairsP (J.take (i + 1)) path secure)) := by rw [hnx, cellsP_append]; exact ho'
      repeat' (first | refine wc_seq ?_ | refine wc_region ?_ | refine wl_nil ?_ | refine wn_seq ?_ | refine wn_blk ?_ | refine wc_skip ?_ | refine wc_scope ?_ | refine wc_label ?_ | refine wn_noGoto ?_ | refine wc_block ?_ | refine wc_exit rfl ?_ | (show WL _ _ (_ :: _) _ _ _ _; first | refine yl_v rfl rfl rfl ?_ | refine wl_v rfl rfl rfl (by first  | fail) ?_ | refine xl_alloc (fun _ => ?_) | refine xl_box rfl (fun _ => ?_) | refine xl_store rfl rfl ?_ | refine xl_buildSlice rfl (fun _ => ?_) | refine wl_makeMap rfl rfl (fun _ => ?_) | refine wl_insert rfl rfl rfl rfl rfl rfl (by first | exact rfl | exact trivial) (by first | exact Upd.here | exact Upd.there Upd.here | exact Upd.there (Upd.there Upd.here) | exact Upd.there (Upd.there (Upd.there Upd.here)) | exact Upd.there (Upd.there (Upd.there (Upd.there Upd.here))) | exact Upd.app _ (Upd.here) | exact Upd.app _ (Upd.there Upd.here) | exact Upd.app _ (Upd.there (Upd.there Upd.here)) | exact Upd.app _ (Upd.there (Upd.there (Upd.there Upd.here))) | exact Upd.there (Upd.app _ (Upd.here)) | exact Upd.there (Upd.app _ (Upd.there Upd.here)) | exact Upd.there (Upd.app _ (Upd.there (Upd.there Upd.here))) | exact Upd.there (Upd.app _ (Upd.there (Upd.there (Upd.there Upd.here)))) | exact Upd.there (Upd.there (Upd.app _ (Upd.here))) | exact Upd.there (Upd.there (Upd.app _ (Upd.there Upd.here))) | exact Upd.there (Upd.there (Upd.app _ (Upd.there (Upd.there Upd.here))))) (by rfl) ?_) | refine wc_ret rfl ?_)
      exact wn_cut ⟨i + 1, v', Hs', by omega, ho2⟩ (by show J.length - (i + 1) < J.length - i; omega) (by first | exact Sub.nil _ | (repeat (first | exact Sub.nil _ | refine Sub.cons (by first | rfl | (simp [look]; done)) ?_))) (fun _ h => h)
    · have hno : ¬ (underP path x.path && (secure || !x.secure)) = true := by rw [show (underP path x.path && (secure || !x.secure)) = false from hc]; decide
      rw [if_neg hno, List.append_nil] at hnx
      repeat' (first | refine wc_seq ?_ | refine wc_region ?_ | refine wl_nil ?_ | refine wn_seq ?_ | refine wn_blk ?_ | refine wc_skip ?_ | refine wc_scope ?_ | refine wc_label ?_ | refine wn_noGoto ?_ | refine wc_block ?_ | refine wc_exit rfl ?_ | (show WL _ _ (_ :: _) _ _ _ _; first | refine yl_v rfl rfl rfl ?_ | refine wl_v rfl rfl rfl (by first  | fail) ?_ | refine xl_alloc (fun _ => ?_) | refine xl_box rfl (fun _ => ?_) | refine xl_store rfl rfl ?_ | refine xl_buildSlice rfl (fun _ => ?_) | refine wl_makeMap rfl rfl (fun _ => ?_) | refine wl_insert rfl rfl rfl rfl rfl rfl (by first | exact rfl | exact trivial) (by first | exact Upd.here | exact Upd.there Upd.here | exact Upd.there (Upd.there Upd.here) | exact Upd.there (Upd.there (Upd.there Upd.here)) | exact Upd.there (Upd.there (Upd.there (Upd.there Upd.here))) | exact Upd.app _ (Upd.here) | exact Upd.app _ (Upd.there Upd.here) | exact Upd.app _ (Upd.there (Upd.there Upd.here)) | exact Upd.app _ (Upd.there (Upd.there (Upd.there Upd.here))) | exact Upd.there (Upd.app _ (Upd.here)) | exact Upd.there (Upd.app _ (Upd.there Upd.here)) | exact Upd.there (Upd.app _ (Upd.there (Upd.there Upd.here))) | exact Upd.there (Upd.app _ (Upd.there (Upd.there (Upd.there Upd.here)))) | exact Upd.there (Upd.there (Upd.app _ (Upd.here))) | exact Upd.there (Upd.there (Upd.app _ (Upd.there Upd.here))) | exact Upd.there (Upd.there (Upd.app _ (Upd.there (Upd.there Upd.here))))) (by rfl) ?_) | refine wc_ret rfl ?_)
      exact wn_cut ⟨i + 1, v, Hs, by omega, by rw [hnx]; exact own⟩ (by show J.length - (i + 1) < J.length - i; omega) (by first | exact Sub.nil _ | (repeat (first | exact Sub.nil _ | refine Sub.cons (by first | rfl | (simp [look]; done)) ?_))) (fun _ h => h.drop (List.sublist_cons_self _ _))
  obtain rfl : i = J.length := by omega
  rw [List.take_length] at own
  have hpl2 := pairsP_length J path secure
  repeat' (first | refine wc_seq ?_ | refine wc_region ?_ | refine wl_nil ?_ | refine wn_seq ?_ | refine wn_blk ?_ | refine wc_skip ?_ | refine wc_scope ?_ | refine wc_label ?_ | refine wn_noGoto ?_ | refine wc_block ?_ | refine wc_exit rfl ?_ | (show WL _ _ (_ :: _) _ _ _ _; first | refine yl_v rfl rfl rfl ?_ | refine wl_v rfl rfl rfl (by first  | fail) ?_ | refine xl_alloc (fun _ => ?_) | refine xl_box rfl (fun _ => ?_) | refine xl_store rfl rfl ?_ | refine xl_buildSlice rfl (fun _ => ?_) | refine wl_makeMap rfl rfl (fun _ => ?_) | refine wl_insert rfl rfl rfl rfl rfl rfl (by first | exact rfl | exact trivial) (by first | exact Upd.here | exact Upd.there Upd.here | exact Upd.there (Upd.there Upd.here) | exact Upd.there (Upd.there (Upd.there Upd.here)) | exact Upd.there (Upd.there (Upd.there (Upd.there Upd.here))) | exact Upd.app _ (Upd.here) | exact Upd.app _ (Upd.there Upd.here) | exact Upd.app _ (Upd.there (Upd.there Upd.here)) | exact Upd.app _ (Upd.there (Upd.there (Upd.there Upd.here))) | exact Upd.there (Upd.app _ (Upd.here)) | exact Upd.there (Upd.app _ (Upd.there Upd.here)) | exact Upd.there (Upd.app _ (Upd.there (Upd.there Upd.here))) | exact Upd.there (Upd.app _ (Upd.there (Upd.there (Upd.there Upd.here)))) | exact Upd.there (Upd.there (Upd.app _ (Upd.here))) | exact Upd.there (Upd.there (Upd.app _ (Upd.there Upd.here))) | exact Upd.there (Upd.there (Upd.app _ (Upd.there (Upd.there Upd.here))))) (by rfl) ?_) | refine wc_ret rfl ?_)
  refine wc_cond rfl (fun hc => by exfalso; simp at hc) (fun hc => ?_)
  repeat' (first | refine wc_seq ?_ | refine wc_region ?_ | refine wl_nil ?_ | refine wn_seq ?_ | refine wn_blk ?_ | refine wc_skip ?_ | refine wc_scope ?_ | refine wc_label ?_ | refine wn_noGoto ?_ | refine wc_block ?_ | refine wc_exit rfl ?_ | (show WL _ _ (_ :: _) _ _ _ _; first | refine yl_v rfl rfl rfl ?_ | refine wl_v rfl rfl rfl (by first  | fail) ?_ | refine xl_alloc (fun _ => ?_) | refine xl_box rfl (fun _ => ?_) | refine xl_store rfl rfl ?_ | refine xl_buildSlice rfl (fun _ => ?_) | refine wl_makeMap rfl rfl (fun _ => ?_) | refine wl_insert rfl rfl rfl rfl rfl rfl (by first | exact rfl | exact trivial) (by first | exact Upd.here | exact Upd.there Upd.here | exact Upd.there (Upd.there Upd.here) | exact Upd.there (Upd.there (Upd.there Upd.here)) | exact Upd.there (Upd.there (Upd.there (Upd.there Upd.here))) | exact Upd.app _ (Upd.here) | exact Upd.app _ (Upd.there Upd.here) | exact Upd.app _ (Upd.there (Upd.there Upd.here)) | exact Upd.app _ (Upd.there (Upd.there (Upd.there Upd.here))) | exact Upd.there (Upd.app _ (Upd.here)) | exact Upd.there (Upd.app _ (Upd.there Upd.here)) | exact Upd.there (Upd.app _ (Upd.there (Upd.there Upd.here))) | exact Upd.there (Upd.app _ (Upd.there (Upd.there (Upd.there Upd.here)))) | exact Upd.there (Upd.there (Upd.app _ (Upd.here))) | exact Upd.there (Upd.there (Upd.app _ (Upd.there Upd.here))) | exact Upd.there (Upd.there (Upd.app _ (Upd.there (Upd.there Upd.here))))) (by rfl) ?_) | refine wc_ret rfl ?_)
  exact wry_tmp (Hn := Hs) rfl rfl Since.refl (List.Sublist.refl _) ⟨rfl, own.slP (fun p hp => .inr hp) (by omega)⟩
end Go.Proofs.YtmfelfhingmmbaaGreatDoor
/-
  The document's Put; are two lists of cookies one?
-/
namespace Go.Proofs.YtmfelfhingmmbaaGreatDoor
open Go.Eng Go.Pct Go.Txt Go.Ck
set_option maxRecDepth 10000
set_option linter.unusedSimpArgs false
set_option linter.unusedVariables false
variable {M : Ghost} {w0 w : World} {bs : List Nat} {H : List (Nat × Obj)}
structure QS (J : List Ckie) (c : Ckie) where
  i : Nat
  v : Value
  Hs : List (Nat × Obj)
  hi : i ≤ J.length
  own : OwnS tCk 6 v Hs (cellsC ((J.take i).filter fun x => !sameC x c))
end Go.Proofs.YtmfelfhingmmbaaGreatDoor
/-
  Headers of cookies: Sent, Line; the document's.
-/
namespace Go.Ck
open Go.Pct Go.Txt Go.Proofs.YtmfelfhingmmbaaGreatDoor
open Go.Rsp (tokC tokenB)
theorem trim1_len (s : List UInt8) : (trim1 s).length ≤ s.length := by
  have h1 := (List.dropWhile_sublist (l := s) spc).length_le
  have h2 := (List.dropWhile_sublist (l := (lf1 s).reverse) spc).length_le
  unfold trim1 rt1 lf1 at *
  rw [List.length_reverse] at *
  omega
theorem cut_eq (t : List UInt8) : cutS [61] t = if idx 61 t < t.length then some (t.take (idx 61 t), t.drop (idx 61 t + 1)) else none := by
  split
  · rename_i h
    have e := at_idx h
    have := cutS_mid (c := 61) (t := []) (a := t.take (idx 61 t)) (t.drop (idx 61 t + 1)) (idx_before 61 t)
    rw [List.append_assoc] at this
    rw [← this]
    congr 1
  · rename_i h
    refine cutS_no (fun hm => h ?_)
    rcases Nat.lt_or_ge (idx 61 t) t.length with h' | h'
    · exact h'
    · have := idx_before 61 t
      rw [List.take_of_length_le h'] at this
      exact absurd hm this
theorem sent_skip {l : List (List UInt8)} {i : Nat} {out : List Pr} (h : i < l.length) (ht : trim1 (l.getD i default) = []) : sentGo (l.drop i) out = sentGo (l.drop (i + 1)) out := by
  rw [drop_get h, sentGo, if_pos ht]
theorem sent_full {l : List (List UInt8)} {i : Nat} {out : List Pr} (h : i < l.length) (ht : ¬ trim1 (l.getD i default) = []) (hf : 20 ≤ out.length) : sentGo (l.drop i) out = ([], 5) := by
  rw [drop_get h, sentGo, if_neg ht, if_pos hf]
theorem sent_bad {l : List (List UInt8)} {i : Nat} {out : List Pr} (h : i < l.length) (ht : ¬ trim1 (l.getD i default) = []) (hf : ¬ 20 ≤ out.length) (hb : ckPair (trim1 (l.getD i default)) = none) : sentGo (l.drop i) out = ([], 10) := by
  rw [drop_get h, sentGo, if_neg ht, if_neg hf, hb]
theorem sent_one {l : List (List UInt8)} {i : Nat} {out : List Pr} {p : Pr} (h : i < l.length) (ht : ¬ trim1 (l.getD i default) = []) (hf : ¬ 20 ≤ out.length) (hb : ckPair (trim1 (l.getD i default)) = some p) : sentGo (l.drop i) out = sentGo (l.drop (i + 1)) (out ++ [p]) := by
  rw [drop_get h, sentGo, if_neg ht, if_neg hf, hb]
theorem line_snoc (l : List Pr) (p : Pr) : lineP (l ++ [p]) = lineP l ++ (if l = [] then [] else [59, 32]) ++ eqP p := by
  cases l with
  | nil => simp [lineP]
  | cons q l => simp [lineP, List.flatMap_append]
theorem line_take {l : List Pr} {i : Nat} (h : i < l.length) : lineP (l.take (i + 1)) = lineP (l.take i) ++ (if i = 0 then [] else [59, 32]) ++ eqP (l.getD i default) := by
  have e : l.getD i default = l[i] := by simp [h]
  rw [List.take_succ_eq_append_getElem h, line_snoc, e]
  congr 2
  by_cases hi : i = 0
  · subst hi; simp
  · rw [if_neg hi, if_neg (by intro e; have := congrArg List.length e; rw [List.length_take, List.length_nil] at this; omega)]
theorem line_join (l : List Pr) : Lib.join (l.map eqP) [59, 32] = lineP l := by
  cases l with
  | nil => rfl
  | cons p l =>
    rw [List.map_cons, Lib.join_cons, lineP, Lib.joinTail, List.map_map, List.flatMap_def]
    rfl
theorem line_len {l : List Pr} {m : Nat} (h : Small m l) : (lineP l).length ≤ l.length * (2 * m + 3) := by
  cases l with
  | nil => simp [lineP]
  | cons p l =>
    have key : ∀ l : List Pr, Small m l → (l.flatMap fun q => 59 :: 32 :: eqP q).length ≤ l.length * (2 * m + 3) := by
      intro l
      induction l with
      | nil => simp
      | cons q l ih =>
        intro hs
        have h1 := hs q (List.mem_cons_self ..)
        have := ih (fun x hx => hs x (List.mem_cons_of_mem _ hx))
        rw [List.flatMap_cons, List.length_append]
        simp only [eqP, List.length_cons, List.length_append] at *
        rw [Nat.add_mul]; omega
    have h1 := h p (List.mem_cons_self ..)
    have := key l (fun x hx => h x (List.mem_cons_of_mem _ hx))
    unfold lineP
    rw [List.length_append]
    simp only [eqP, List.length_cons, List.length_append] at *
    rw [Nat.add_mul]; omega
theorem line_take_len {l : List Pr} {m : Nat} (h : Small m l) {i : Nat} (hi : i ≤ l.length) : (lineP (l.take i)).length ≤ i * (2 * m + 3) := by
  have := line_len (l := l.take i) (fun p hp => h p (List.mem_of_mem_take hp))
  rwa [List.length_take, Nat.min_eq_left hi] at this
end Go.Ck
namespace Go.Proofs.YtmfelfhingmmbaaGreatDoor
open Go.Eng Go.Pct Go.Txt Go.Ck
open Go.Rsp (tokC tokenB)
set_option maxRecDepth 10000
set_option linter.unusedSimpArgs false
set_option linter.unusedVariables false
variable {M : Ghost} {w0 w : World} {bs : List Nat} {H : List (Nat × Obj)}
theorem split59 (s : List UInt8) : Lib.split s [59] = pieces 59 s := split_pieces 59 _ s (Nat.le_refl _)
structure NS (l : List (List UInt8)) where
  i : Nat
  out : List Pr
  v : Value
  Hs : List (Nat × Obj)
  hi : i ≤ l.length
  hl : out.length ≤ 20
  inv : sentGo l [] = sentGo (l.drop i) out
  own : OwnS tPr 2 v Hs (cellsP out)
set_option maxHeartbeats 1000000 in
theorem csent_ok (hG : Glob M) (hM : Laid M w) (s : List UInt8) (hs : s.length ≤ 1000000) : Calls Tryz.prog 12 #[str s] w (RetS M w (fun M' H v => H = [] ∧ ∃ sv, v = .tuple #[sv, i64 (sentP s).2] ∧ SlP M' sv (sentP s).1)) := by
  unfold sentP
  refine calls_st (l := [str s]) hM Tryz.func12 rfl rfl rfl (E0 := [(0, true, str s)]) (params_cons rfl (params_nil _)) ?_
  repeat' (first | refine wc_seq ?_ | refine wc_region ?_ | refine wl_nil ?_ | refine wn_seq ?_ | refine wn_blk ?_ | refine wc_skip ?_ | refine wc_block ?_ | refine wc_exit rfl ?_ | (show WL _ _ (_ :: _) _ _ _ _; first | refine yl_v rfl rfl rfl ?_ | refine wl_v rfl rfl rfl (by first  | fail) ?_ | refine xl_buildSlice rfl (fun _ => ?_)) | refine wc_ret rfl ?_)
  refine wl_callS rfl Tryz.call20 rfl rfl rfl rfl (fun w hw => splitM_ok hG hw.laid s [59] (by decide) (by omega)) ?_
  rintro v1 H1 M1 hm1 hn1 ⟨rfl, hS⟩
  have hG1 := hG.mono hm1
  rw [split59] at hS
  have hpl := pieces_length 59 s
  have hpt := pieces_total 59 s
  generalize pieces 59 s = l at *
  obtain ⟨a, cap, b, o, cs, T, fz, rfl, h1, h2, h3, h4⟩ := hS.open
  repeat' (first | refine wc_seq ?_ | refine wc_region ?_ | refine wl_nil ?_ | refine wn_seq ?_ | refine wn_blk ?_ | refine wc_skip ?_ | refine wc_block ?_ | refine wc_exit rfl ?_ | (show WL _ _ (_ :: _) _ _ _ _; first | refine yl_v rfl rfl rfl ?_ | refine wl_v rfl rfl rfl (by first  | fail) ?_ | refine xl_buildSlice rfl (fun _ => ?_)) | refine wc_ret rfl ?_)
  refine wc_loop (α := NS l) (fun x => [(4, true, x.v), (11, true, .slice a l.length cap), (12, true, i64 (l.length : Int)), (13, true, i64 (x.i : Int))]) (fun x => St w [] x.Hs M1) (fun x => l.length - x.i) ⟨0, [], .slice none 0 0, [], Nat.zero_le _, by simp, rfl, OwnS.nil⟩ (by first | exact Sub.nil _ | (repeat (first | exact Sub.nil _ | refine Sub.cons (by first | rfl | (simp [look]; done)) ?_))) (fun _ h => h) ?_
  rintro ⟨i, out, v, Hs, hi, hol, hinv, own⟩
  dsimp only
  have own0 := own
  obtain ⟨va, vcap, rfl⟩ := own.slice (k := out.length) (by decide) (cellsP_length _)
  by_cases hlt : i < l.length
  · have hne : l ≠ [] := by rintro rfl; simp at hlt
    obtain ⟨rfl, hMb⟩ := h3 hne
    have hcell := h4 i hlt
    have hxl := hpt (l.getD i default) (by have e : l.getD i default = l[i] := by simp [hlt]
                                           rw [e]; exact List.getElem_mem _)
    have hsk := sent_skip (out := out) hlt
    have hfu := sent_full (out := out) hlt
    have hba := sent_bad (out := out) hlt
    have hon := fun {p} => sent_one (out := out) (p := p) hlt
    have htl := trim1_len (l.getD i default)
    have htr := fun {w : World} (hw : Laid M1 w) => trim1_ok hw (l.getD i default) (by omega)
    generalize l.getD i default = x at *
    generalize trim1 x = t at *
    have hce := cut_eq t
    have hidx := idx_le 61 t
    repeat' (first | refine wc_seq ?_ | refine wc_region ?_ | refine wl_nil ?_ | refine wn_seq ?_ | refine wn_blk ?_ | refine wc_skip ?_ | refine wc_block ?_ | refine wc_exit rfl ?_ | (show WL _ _ (_ :: _) _ _ _ _; first | refine yl_v rfl rfl rfl ?_ | refine wl_v rfl rfl rfl (by first  | fail) ?_ | refine xl_buildSlice rfl (fun _ => ?_)) | refine wc_ret rfl ?_)
    refine wc_cond rfl (fun hc => ?_) (fun hc => by exfalso; simp at hc; omega)
    clear hc
    repeat' (first | refine wc_seq ?_ | refine wc_region ?_ | refine wl_nil ?_ | refine wn_seq ?_ | refine wn_blk ?_ | refine wc_skip ?_ | refine wc_block ?_ | refine wc_exit rfl ?_ | (show WL _ _ (_ :: _) _ _ _ _; first | refine yl_v rfl rfl rfl ?_ | refine wl_v rfl rfl rfl (by first | (show OpV _ _ _ _ (Oper.mk _ (Op.indexAddr _ _ _) _ _ _ _) _ _; exact ov_indexAddr (i := i) (b := b) (o := o) rfl rfl rfl (by first | with_reducible exact fun _ => rfl | with_reducible exact fun h => h | exact fun _ => rfl | exact fun h => h | (intro himp; simp_all; done)) (by first | with_reducible exact fun _ => rfl | with_reducible exact fun h => h | exact fun _ => rfl | exact fun h => h | (intro himp; simp_all; done)) rfl (by first | exact (rfl : _ = some 1) | exact (rfl : _ = some 2) | exact (rfl : _ = some 3) | exact (rfl : _ = some 4) | exact (rfl : _ = some 6) | exact rfl) (fun _ => rfl) (by intro hcg; first | omega | (simp at hcg; omega))) | (show OpV _ _ _ _ (Oper.mk _ (Op.load _ _) _ _ _ _) _ _; exact ov_load1M rfl (by first | with_reducible exact fun _ => rfl | with_reducible exact fun h => h | exact fun _ => rfl | exact fun h => h | (intro himp; simp_all; done)) rfl rfl (fun _ => hMb) (fun _ => hcell)) | ((show OpV _ _ _ _ (Oper.mk _ (Op.call ⟨.value (.func 29), _, _⟩) _ _ _ _) _ _; exact ov_call Tryz.call29 rfl (by intro himp; first | rfl | (simp_all; done)) (by rfl) (fun _ _ h k => h.ext k) (fun hcg w hw => htr hw.laid))) | fail) ?_ | refine xl_buildSlice rfl (fun _ => ?_)) | refine wc_ret rfl ?_)
    refine wc_cond rfl (fun hc => ?_) (fun hc => ?_)
    · have ht : t = [] := by simpa using hc
      repeat' (first | refine wc_seq ?_ | refine wc_region ?_ | refine wl_nil ?_ | refine wn_seq ?_ | refine wn_blk ?_ | refine wc_skip ?_ | refine wc_block ?_ | refine wc_exit rfl ?_ | (show WL _ _ (_ :: _) _ _ _ _; first | refine yl_v rfl rfl rfl ?_ | refine wl_v rfl rfl rfl (by first  | fail) ?_ | refine xl_buildSlice rfl (fun _ => ?_)) | refine wc_ret rfl ?_)
      exact wn_cut ⟨i + 1, out, _, Hs, by omega, hol, by rw [hinv, hsk ht], own0⟩ (by show l.length - (i + 1) < l.length - i; omega) (by first | exact Sub.nil _ | (repeat (first | exact Sub.nil _ | refine Sub.cons (by first | rfl | (simp [look]; done)) ?_))) (fun _ h => h)
    have ht : ¬ t = [] := by simpa using hc
    clear hc hsk
    have hfu := hfu ht
    have hba := hba ht
    have hon := fun {p} => hon (p := p) ht
    repeat' (first | refine wc_seq ?_ | refine wc_region ?_ | refine wl_nil ?_ | refine wn_seq ?_ | refine wn_blk ?_ | refine wc_skip ?_ | refine wc_block ?_ | refine wc_exit rfl ?_ | (show WL _ _ (_ :: _) _ _ _ _; first | refine yl_v rfl rfl rfl ?_ | refine wl_v rfl rfl rfl (by first  | fail) ?_ | refine xl_buildSlice rfl (fun _ => ?_)) | refine wc_ret rfl ?_)
    refine wc_cond rfl (fun hc => ?_) (fun hc => ?_)
    · have hf : 20 ≤ out.length := by simp at hc; omega
      repeat' (first | refine wc_seq ?_ | refine wc_region ?_ | refine wl_nil ?_ | refine wn_seq ?_ | refine wn_blk ?_ | refine wc_skip ?_ | refine wc_block ?_ | refine wc_exit rfl ?_ | (show WL _ _ (_ :: _) _ _ _ _; first | refine yl_v rfl rfl rfl ?_ | refine wl_v rfl rfl rfl (by first  | fail) ?_ | refine xl_buildSlice rfl (fun _ => ?_)) | refine wc_ret rfl ?_)
      rw [hinv, hfu hf]
      exact wr_S2 (Hn := []) rfl rfl rfl (Since.refl.step hm1 hn1) (List.nil_sublist _) ⟨rfl, _, rfl, sl_nil⟩
    have hf : ¬ 20 ≤ out.length := by simp at hc; omega
    clear hc hfu
    have hba := hba hf
    have hon := fun {p} => hon (p := p) hf
    unfold ckPair at hba hon
    by_cases hk : idx 61 t < t.length
    · rw [if_pos hk] at hce hba hon
      have hcu := fun {w : World} (hw : Laid M1 w) => cut_yes hG1 hw (by decide) (by omega) hce
      have hto := fun {w : World} (hw : Laid M1 w) => ctoken_ok hw (t.take (idx 61 t)) (by rw [List.length_take]; omega)
      have hva := fun {w : World} (hw : Laid M1 w) => cvalue_ok hw (t.drop (idx 61 t + 1)) (by rw [List.length_drop]; omega)
      have hl1 : (t.take (idx 61 t)).length ≤ 1000000 := by rw [List.length_take]; omega
      generalize t.take (idx 61 t) = n at *
      generalize t.drop (idx 61 t + 1) = m at *
      repeat' (first | refine wc_seq ?_ | refine wc_region ?_ | refine wl_nil ?_ | refine wn_seq ?_ | refine wn_blk ?_ | refine wc_skip ?_ | refine wc_block ?_ | refine wc_exit rfl ?_ | (show WL _ _ (_ :: _) _ _ _ _; first | refine yl_v rfl rfl rfl ?_ | refine wl_v rfl rfl rfl (by first | ((show OpV _ _ _ _ (Oper.mk _ (Op.call ⟨.value (.func 21), _, _⟩) _ _ _ _) _ _; exact ov_call Tryz.call21 rfl (by intro himp; first | rfl | (simp_all; done)) (by rfl) (fun _ _ h k => h.ext k) (fun hcg w hw => hcu hw.laid))) | ((show OpV _ _ _ _ (Oper.mk _ (Op.call ⟨.value (.func 24), _, _⟩) _ _ _ _) _ _; exact ov_call Tryz.call24 rfl (by intro himp; first | rfl | (simp_all; done)) (by rfl) (fun _ _ h k => h.ext k) (fun hcg w hw => hto hw.laid))) | ((show OpV _ _ _ _ (Oper.mk _ (Op.call ⟨.value (.func 25), _, _⟩) _ _ _ _) _ _; exact ov_call Tryz.call25 rfl (by intro himp; first | rfl | (simp_all; done)) (by rfl) (fun _ _ h k => h.ext k) (fun hcg w hw => hva hw.laid))) | fail) ?_ | refine xl_buildSlice rfl (fun _ => ?_)) | refine wc_ret rfl ?_)
      refine wc_cond rfl (fun hc => ?_) (fun hc => ?_)
      · have hno : ¬ (tokenB n = true ∧ valueB m = true) := by rintro ⟨g1, g2⟩; simp [g1, g2] at hc
        rw [if_neg hno] at hba
        repeat' (first | refine wc_seq ?_ | refine wc_region ?_ | refine wl_nil ?_ | refine wn_seq ?_ | refine wn_blk ?_ | refine wc_skip ?_ | refine wc_block ?_ | refine wc_exit rfl ?_ | (show WL _ _ (_ :: _) _ _ _ _; first | refine yl_v rfl rfl rfl ?_ | refine wl_v rfl rfl rfl (by first  | fail) ?_ | refine xl_buildSlice rfl (fun _ => ?_)) | refine wc_ret rfl ?_)
        rw [hinv, hba rfl]
        exact wr_S2 (Hn := []) rfl rfl rfl (Since.refl.step hm1 hn1) (List.nil_sublist _) ⟨rfl, _, rfl, sl_nil⟩
      · have hyes : tokenB n = true ∧ valueB m = true := by simp at hc; exact hc
        rw [if_pos hyes] at hon
        have hon := hon rfl
        repeat' (first | refine wc_seq ?_ | refine wc_region ?_ | refine wl_nil ?_ | refine wn_seq ?_ | refine wn_blk ?_ | refine wc_skip ?_ | refine wc_block ?_ | refine wc_exit rfl ?_ | (show WL _ _ (_ :: _) _ _ _ _; first | refine yl_v rfl rfl rfl ?_ | refine wl_v rfl rfl rfl (by first  | fail) ?_ | refine xl_buildSlice rfl (fun _ => ?_)) | refine wc_ret rfl ?_)
        rename_i b46
        refine wl_append (H0 := []) rfl own0 rfl rfl rfl rfl rfl rfl rfl rfl rfl rfl (List.Mem.head _) rfl rfl (by rw [List.append_nil]; exact List.sublist_cons_self _ _) (by rw [cellsP_length]; omega) rfl ?_
        intro v' Hs' ho'
        have ho2 : OwnS tPr 2 v' Hs' (cellsP (out ++ [(n, m)])) := by rw [cellsP_append]; exact ho'
        repeat' (first | refine wc_seq ?_ | refine wc_region ?_ | refine wl_nil ?_ | refine wn_seq ?_ | refine wn_blk ?_ | refine wc_skip ?_ | refine wc_block ?_ | refine wc_exit rfl ?_ | (show WL _ _ (_ :: _) _ _ _ _; first | refine yl_v rfl rfl rfl ?_ | refine wl_v rfl rfl rfl (by first  | fail) ?_ | refine xl_buildSlice rfl (fun _ => ?_)) | refine wc_ret rfl ?_)
        exact wn_cut ⟨i + 1, out ++ [(n, m)], v', Hs', by omega, by rw [List.length_append]; simp; omega, by rw [hinv, hon], ho2⟩ (by show l.length - (i + 1) < l.length - i; omega) (by first | exact Sub.nil _ | (repeat (first | exact Sub.nil _ | refine Sub.cons (by first | rfl | (simp [look]; done)) ?_))) (fun _ h => by simpa using h)
    · rw [if_neg hk] at hce hba hon
      have hcu := fun {w : World} (hw : Laid M1 w) => cut_no hG1 hw (by decide) (by omega) hce
      repeat' (first | refine wc_seq ?_ | refine wc_region ?_ | refine wl_nil ?_ | refine wn_seq ?_ | refine wn_blk ?_ | refine wc_skip ?_ | refine wc_block ?_ | refine wc_exit rfl ?_ | (show WL _ _ (_ :: _) _ _ _ _; first | refine yl_v rfl rfl rfl ?_ | refine wl_v rfl rfl rfl (by first | ((show OpV _ _ _ _ (Oper.mk _ (Op.call ⟨.value (.func 21), _, _⟩) _ _ _ _) _ _; exact ov_call Tryz.call21 rfl (by intro himp; first | rfl | (simp_all; done)) (by rfl) (fun _ _ h k => h.ext k) (fun hcg w hw => hcu hw.laid))) | ((show OpV _ _ _ _ (Oper.mk _ (Op.call ⟨.value (.func 24), _, _⟩) _ _ _ _) _ _; exact ov_call Tryz.call24 rfl (by intro himp; first | rfl | (simp_all; done)) (by rfl) (fun _ _ h k => h.ext k) (fun hcg w hw => ctoken_ok hw.laid _ (by omega)))) | ((show OpV _ _ _ _ (Oper.mk _ (Op.call ⟨.value (.func 25), _, _⟩) _ _ _ _) _ _; exact ov_call Tryz.call25 rfl (by intro himp; first | rfl | (simp_all; done)) (by rfl) (fun _ _ h k => h.ext k) (fun hcg w hw => cvalue_ok hw.laid _ (by simp)))) | fail) ?_ | refine xl_buildSlice rfl (fun _ => ?_)) | refine wc_ret rfl ?_)
      refine wc_cond rfl (fun hc => ?_) (fun hc => by exfalso; simp at hc)
      repeat' (first | refine wc_seq ?_ | refine wc_region ?_ | refine wl_nil ?_ | refine wn_seq ?_ | refine wn_blk ?_ | refine wc_skip ?_ | refine wc_block ?_ | refine wc_exit rfl ?_ | (show WL _ _ (_ :: _) _ _ _ _; first | refine yl_v rfl rfl rfl ?_ | refine wl_v rfl rfl rfl (by first  | fail) ?_ | refine xl_buildSlice rfl (fun _ => ?_)) | refine wc_ret rfl ?_)
      rw [hinv, hba rfl]
      exact wr_S2 (Hn := []) rfl rfl rfl (Since.refl.step hm1 hn1) (List.nil_sublist _) ⟨rfl, _, rfl, sl_nil⟩
  obtain rfl : i = l.length := by omega
  rw [List.drop_length, sentGo] at hinv
  rw [hinv]
  repeat' (first | refine wc_seq ?_ | refine wc_region ?_ | refine wl_nil ?_ | refine wn_seq ?_ | refine wn_blk ?_ | refine wc_skip ?_ | refine wc_block ?_ | refine wc_exit rfl ?_ | (show WL _ _ (_ :: _) _ _ _ _; first | refine yl_v rfl rfl rfl ?_ | refine wl_v rfl rfl rfl (by first  | fail) ?_ | refine xl_buildSlice rfl (fun _ => ?_)) | refine wc_ret rfl ?_)
  refine wc_cond rfl (fun hc => by exfalso; simp at hc) (fun hc => ?_)
  repeat' (first | refine wc_seq ?_ | refine wc_region ?_ | refine wl_nil ?_ | refine wn_seq ?_ | refine wn_blk ?_ | refine wc_skip ?_ | refine wc_block ?_ | refine wc_exit rfl ?_ | (show WL _ _ (_ :: _) _ _ _ _; first | refine yl_v rfl rfl rfl ?_ | refine wl_v rfl rfl rfl (by first  | fail) ?_ | refine xl_buildSlice rfl (fun _ => ?_)) | refine wc_ret rfl ?_)
  exact wr_lay2 (Hn := Hs) rfl rfl rfl (Since.refl.step hm1 hn1) (List.Sublist.refl _) ⟨rfl, _, rfl, own0.slP (fun p hp => .inr hp) (by omega)⟩
structure LW (l : List Pr) where
  i : Nat
  v : Value
  Hs : List (Nat × Obj)
  hi : i ≤ l.length
  own : OwnS tSt 1 v Hs (cellsS ((l.take i).map eqP))
end Go.Proofs.YtmfelfhingmmbaaGreatDoor
/-
  The document's Sent; cookie.Set.
-/
namespace Go.Ck
open Go.Pct Go.Txt Go.Proofs.YtmfelfhingmmbaaGreatDoor
set_option linter.unusedSimpArgs false
def ps1 (c : Ckie) : List (List UInt8) := [eqP (c.name, c.value), [80, 97, 116, 104, 61] ++ c.path]
def ps2 (c : Ckie) : List (List UInt8) := ps1 c ++ (if 0 ≤ c.age then [[77, 97, 120, 45, 65, 103, 101, 61] ++ Lib.decDigits c.age.toNat] else [])
def ps3 (c : Ckie) : List (List UInt8) := ps2 c ++ (if c.secure = true then [[83, 101, 99, 117, 114, 101]] else [])
def ps4 (c : Ckie) : List (List UInt8) := ps3 c ++ (if c.http = true then [[72, 116, 116, 112, 79, 110, 108, 121]] else [])
theorem join_one (a b : List UInt8) (l : List (List UInt8)) : Lib.join (a :: l ++ [b]) [59, 32] = Lib.join (a :: l) [59, 32] ++ 59 :: 32 :: b := by
  rw [List.cons_append, Lib.join_cons, Lib.join_cons, Lib.joinTail, Lib.joinTail]
  simp
theorem ps_join (c : Ckie) : Lib.join (ps4 c) [59, 32] = setC c := by
  obtain ⟨n, v, p, z, a, b⟩ := c
  unfold ps4 ps3 ps2 ps1 setC ageT secT hoT
  simp only
  by_cases h0 : 0 ≤ z
  · rw [if_pos h0, if_pos h0]
    cases a <;> cases b <;> simp [Lib.join_cons, Lib.joinTail, eqP, sPath, sAge, sSec, sHo]
  · rw [if_neg h0, if_neg h0]
    cases a <;> cases b <;> simp [Lib.join_cons, Lib.joinTail, eqP, sPath, sAge, sSec, sHo]
theorem ps_length (c : Ckie) : (ps1 c).length = 2 ∧ (ps2 c).length ≤ 3 ∧ (ps3 c).length ≤ 4 ∧ (ps4 c).length ≤ 5 := by
  unfold ps4 ps3 ps2 ps1
  refine ⟨rfl, ?_, ?_, ?_⟩ <;> (simp only [List.length_append]; repeat' split) <;> simp
end Go.Ck
namespace Go.Proofs.YtmfelfhingmmbaaGreatDoor
open Go.Eng Go.Pct Go.Txt Go.Ck
open Go.Rsp (tokC tokenB)
set_option maxRecDepth 10000
set_option linter.unusedSimpArgs false
set_option linter.unusedVariables false
variable {M : Ghost} {w0 w : World} {bs : List Nat} {H : List (Nat × Obj)}
/-- .. of a size that can be written -/
def SmW (c : Ckie) : Prop := c.name.length ≤ 100000000 ∧ c.value.length ≤ 100000000 ∧ c.path.length ≤ 100000000
theorem SmW.sm {c : Ckie} (h : SmW c) : SmC c := ⟨Nat.le_trans h.1 (by decide), Nat.le_trans h.2.1 (by decide), Nat.le_trans h.2.2 (by decide)⟩
theorem ageT_len (z : Int) (h : z ≤ 99999999) : (ageT z).length ≤ 18 := by
  unfold ageT
  split
  · have := Url.dec_five 7 z.toNat (by omega)
    rw [List.length_append]
    have e : sAge.length = 10 := rfl
    omega
  · simp
theorem set_len {c : Ckie} (h : SmW c) (hr : rightC c = true) : (setC c).length ≤ 300001000 := by
  obtain ⟨h1, h2, h3⟩ := h
  have h4 := ageT_len c.age (right_parts hr).2.2.2.2.2
  have h5 : (secT c.secure).length ≤ 8 := by cases c.secure <;> decide
  have h6 : (hoT c.http).length ≤ 10 := by cases c.http <;> decide
  have e : sPath.length = 7 := rfl
  unfold setC
  simp only [List.length_append, List.length_cons]
  omega
set_option maxHeartbeats 1000000 in
theorem cset_ok (hG : Glob M) (hM : Laid M w) (c : Ckie) (h : SmW c) : Calls Tryz.prog 6 #[.agg (ckCells c).toArray] w (RetE w (.tuple #[str (setP c).1, i64 (setP c).2])) := by
  have hri := fun {w : World} (hw : Laid M w) => cright_ok hw c h.sm
  have hck : ckCells c = [str c.name, str c.value, str c.path, i64 c.age, .bool c.secure, .bool c.http] := rfl
  have hpj := ps_join c
  have hsl := fun hr => set_len h hr
  have hps := ps_length c
  obtain ⟨g1, g2, g3⟩ := h
  unfold setP
  rw [hck] at hri ⊢
  refine calls_st (l := [.agg [str c.name, str c.value, str c.path, i64 c.age, .bool c.secure, .bool c.http].toArray]) hM Tryz.func6 rfl rfl rfl (E0 := [(0, true, .agg [str c.name, str c.value, str c.path, i64 c.age, .bool c.secure, .bool c.http].toArray)]) (params_cons rfl (params_nil _)) ?_
  repeat' (first | refine wc_seq ?_ | refine wc_region ?_ | refine wl_nil ?_ | refine wn_seq ?_ | refine wn_blk ?_ | refine wc_skip ?_ | refine wc_block ?_ | refine wc_exit rfl ?_ | (show WL _ _ (_ :: _) _ _ _ _; first | refine yl_v rfl rfl rfl ?_ | refine wl_v rfl rfl rfl (by first | ((show OpV _ _ _ _ (Oper.mk _ (Op.call ⟨.value (.func 10), _, _⟩) _ _ _ _) _ _; exact ov_call Tryz.call10 rfl (by intro himp; first | rfl | (simp_all; done)) (by rfl) (fun _ _ h k => h.ext k) (fun hcg w hw => hri hw.laid))) | fail) ?_ | refine xl_box rfl (fun _ => ?_) | refine xl_buildSlice rfl (fun _ => ?_)) | refine wc_ret rfl ?_)
  rename_i b1
  refine wc_cond rfl (fun hc => ?_) (fun hc => ?_)
  · have hno : ¬ rightC c = true := by simpa using hc
    repeat' (first | refine wc_seq ?_ | refine wc_region ?_ | refine wl_nil ?_ | refine wn_seq ?_ | refine wn_blk ?_ | refine wc_skip ?_ | refine wc_block ?_ | refine wc_exit rfl ?_ | (show WL _ _ (_ :: _) _ _ _ _; first | refine yl_v rfl rfl rfl ?_ | refine wl_v rfl rfl rfl (by first  | fail) ?_ | refine xl_box rfl (fun _ => ?_) | refine xl_buildSlice rfl (fun _ => ?_)) | refine wc_ret rfl ?_)
    rw [if_neg hno]
    exact wr_weak (fun _ h => h.drop (List.nil_sublist _)) (wr_tmp2 rfl rfl rfl rfl rfl)
  have hyes : rightC c = true := by simpa using hc
  rw [if_pos hyes]
  clear hc
  have hag := (right_parts hyes).2.2.2.2.2
  have hsl := hsl hyes
  repeat' (first | refine wc_seq ?_ | refine wc_region ?_ | refine wl_nil ?_ | refine wn_seq ?_ | refine wn_blk ?_ | refine wc_skip ?_ | refine wc_block ?_ | refine wc_exit rfl ?_ | (show WL _ _ (_ :: _) _ _ _ _; first | refine yl_v rfl rfl rfl ?_ | refine wl_v rfl rfl rfl (by first  | fail) ?_ | refine xl_box rfl (fun _ => ?_) | refine xl_buildSlice rfl (fun _ => ?_)) | refine wc_ret rfl ?_)
  rename_i b17
  have own1 : OwnS tSt 1 (.slice (some ⟨b17, 0, none⟩) 2 2) [(b17, .cells [str (c.name ++ [61] ++ c.value), str ([80, 97, 116, 104, 61] ++ c.path)].toArray tSt (0, 0))] (cellsS (ps1 c)) := by
    have e : cellsS (ps1 c) = [str (c.name ++ [61] ++ c.value), str ([80, 97, 116, 104, 61] ++ c.path)] := by simp [ps1, cellsS, eqP]
    rw [e]; exact OwnS.lit rfl (by decide)
  refine wc_split (α := { x : Value × List (Nat × Obj) // OwnS tSt 1 x.1 x.2 (cellsS (ps2 c)) }) (fun x => [(1, true, .pointer (some ⟨b1, 0, none⟩)), (4, true, x.1.1)]) (fun x => St w [] (x.1.2 ++ [(b1, .cells [str c.name, str c.value, str c.path, i64 c.age, .bool c.secure, .bool c.http].toArray 23 (0, 0))]) M) ?_ ?_
  · refine wc_cond rfl (fun hc => ?_) (fun hc => ?_)
    · have h0 : 0 ≤ c.age := by simpa using hc
      obtain ⟨n, hn⟩ : ∃ n : Nat, c.age = (n : Int) := ⟨c.age.toNat, by omega⟩
      have hit := fun {w : World} (hw : Laid M w) => itoa_ok hG hw n (by omega)
      rw [Lib.itoa_nonneg, ← hn] at hit
      have hdl := Url.dec_five 7 n (by omega)
      have e2 : ps2 c = ps1 c ++ [[77, 97, 120, 45, 65, 103, 101, 61] ++ Lib.decDigits n] := by unfold ps2; rw [if_pos h0, hn, Int.toNat_natCast]
      repeat' (first | refine wc_seq ?_ | refine wc_region ?_ | refine wl_nil ?_ | refine wn_seq ?_ | refine wn_blk ?_ | refine wc_skip ?_ | refine wc_block ?_ | refine wc_exit rfl ?_ | (show WL _ _ (_ :: _) _ _ _ _; first | refine yl_v rfl rfl rfl ?_ | refine wl_v rfl rfl rfl (by first | ((show OpV _ _ _ _ (Oper.mk _ (Op.call ⟨.value (.func 17), _, _⟩) _ _ _ _) _ _; exact ov_call Tryz.call17 rfl (by intro himp; first | rfl | (simp_all; done)) (by rfl) (fun _ _ h k => h.ext k) (fun hcg w hw => hit hw.laid))) | fail) ?_ | refine xl_box rfl (fun _ => ?_) | refine xl_buildSlice rfl (fun _ => ?_)) | refine wc_ret rfl ?_)
      refine wl_append (H0 := [(b1, .cells [str c.name, str c.value, str c.path, i64 c.age, .bool c.secure, .bool c.http].toArray 23 (0, 0))]) rfl own1 rfl rfl rfl rfl rfl rfl rfl rfl rfl rfl (List.Mem.head _) rfl rfl (List.sublist_cons_self _ _) (by rw [cellsS_length, hps.1]; decide) rfl ?_
      intro v' Hs' ho'
      repeat' (first | refine wc_seq ?_ | refine wc_region ?_ | refine wl_nil ?_ | refine wn_seq ?_ | refine wn_blk ?_ | refine wc_skip ?_ | refine wc_block ?_ | refine wc_exit rfl ?_ | (show WL _ _ (_ :: _) _ _ _ _; first | refine yl_v rfl rfl rfl ?_ | refine wl_v rfl rfl rfl (by first  | fail) ?_ | refine xl_box rfl (fun _ => ?_) | refine xl_buildSlice rfl (fun _ => ?_)) | refine wc_ret rfl ?_)
      exact wn_cut ⟨(v', Hs'), by rw [e2, cellsS_snoc]; exact ho'⟩ trivial (by first | exact Sub.nil _ | (repeat (first | exact Sub.nil _ | refine Sub.cons (by first | rfl | (simp [look]; done)) ?_))) (fun _ h => h)
    · have h0 : ¬ 0 ≤ c.age := by simp at hc; omega
      have e2 : ps2 c = ps1 c := by unfold ps2; rw [if_neg h0, List.append_nil]
      repeat' (first | refine wc_seq ?_ | refine wc_region ?_ | refine wl_nil ?_ | refine wn_seq ?_ | refine wn_blk ?_ | refine wc_skip ?_ | refine wc_block ?_ | refine wc_exit rfl ?_ | (show WL _ _ (_ :: _) _ _ _ _; first | refine yl_v rfl rfl rfl ?_ | refine wl_v rfl rfl rfl (by first  | fail) ?_ | refine xl_box rfl (fun _ => ?_) | refine xl_buildSlice rfl (fun _ => ?_)) | refine wc_ret rfl ?_)
      exact wn_cut ⟨(.slice (some ⟨b17, 0, none⟩) 2 2, [(b17, .cells [str (c.name ++ [61] ++ c.value), str ([80, 97, 116, 104, 61] ++ c.path)].toArray tSt (0, 0))]), by rw [e2]; exact own1⟩ trivial (by first | exact Sub.nil _ | (repeat (first | exact Sub.nil _ | refine Sub.cons (by first | rfl | (simp [look]; done)) ?_))) (fun _ h => by simpa using h)
  rintro ⟨⟨v2, H2⟩, own2⟩
  dsimp only at own2 ⊢
  repeat' (first | refine wc_seq ?_ | refine wc_region ?_ | refine wl_nil ?_ | refine wn_seq ?_ | refine wn_blk ?_ | refine wc_skip ?_ | refine wc_block ?_ | refine wc_exit rfl ?_ | (show WL _ _ (_ :: _) _ _ _ _; first | refine yl_v rfl rfl rfl ?_ | refine wl_v rfl rfl rfl (by first | (show OpV _ _ _ _ (Oper.mk _ (Op.load _ _) _ _ _ _) _ _; exact ov_load1 (v := .bool c.secure) rfl (by first | with_reducible exact fun _ => rfl | with_reducible exact fun h => h | exact fun _ => rfl | exact fun h => h | (intro himp; simp_all; done)) rfl rfl (List.mem_append_right _ (List.Mem.head _)) rfl) | fail) ?_ | refine xl_box rfl (fun _ => ?_) | refine xl_buildSlice rfl (fun _ => ?_)) | refine wc_ret rfl ?_)
  refine wc_split (α := { x : Value × List (Nat × Obj) // OwnS tSt 1 x.1 x.2 (cellsS (ps3 c)) }) (fun x => [(1, true, .pointer (some ⟨b1, 0, none⟩)), (4, true, x.1.1)]) (fun x => St w [] (x.1.2 ++ [(b1, .cells [str c.name, str c.value, str c.path, i64 c.age, .bool c.secure, .bool c.http].toArray 23 (0, 0))]) M) ?_ ?_
  · refine wc_cond rfl (fun hc => ?_) (fun hc => ?_)
    · have e3 : ps3 c = ps2 c ++ [[83, 101, 99, 117, 114, 101]] := by unfold ps3; rw [if_pos hc]
      repeat' (first | refine wc_seq ?_ | refine wc_region ?_ | refine wl_nil ?_ | refine wn_seq ?_ | refine wn_blk ?_ | refine wc_skip ?_ | refine wc_block ?_ | refine wc_exit rfl ?_ | (show WL _ _ (_ :: _) _ _ _ _; first | refine yl_v rfl rfl rfl ?_ | refine wl_v rfl rfl rfl (by first  | fail) ?_ | refine xl_box rfl (fun _ => ?_) | refine xl_buildSlice rfl (fun _ => ?_)) | refine wc_ret rfl ?_)
      refine wl_append (H0 := [(b1, .cells [str c.name, str c.value, str c.path, i64 c.age, .bool c.secure, .bool c.http].toArray 23 (0, 0))]) rfl own2 rfl rfl rfl rfl rfl rfl rfl rfl rfl rfl (List.Mem.head _) rfl rfl (List.sublist_cons_self _ _) (by rw [cellsS_length]; omega) rfl ?_
      intro v' Hs' ho'
      repeat' (first | refine wc_seq ?_ | refine wc_region ?_ | refine wl_nil ?_ | refine wn_seq ?_ | refine wn_blk ?_ | refine wc_skip ?_ | refine wc_block ?_ | refine wc_exit rfl ?_ | (show WL _ _ (_ :: _) _ _ _ _; first | refine yl_v rfl rfl rfl ?_ | refine wl_v rfl rfl rfl (by first  | fail) ?_ | refine xl_box rfl (fun _ => ?_) | refine xl_buildSlice rfl (fun _ => ?_)) | refine wc_ret rfl ?_)
      exact wn_cut ⟨(v', Hs'), by rw [e3, cellsS_snoc]; exact ho'⟩ trivial (by first | exact Sub.nil _ | (repeat (first | exact Sub.nil _ | refine Sub.cons (by first | rfl | (simp [look]; done)) ?_))) (fun _ h => h)
    · have e3 : ps3 c = ps2 c := by unfold ps3; rw [if_neg (by rw [hc]; decide), List.append_nil]
      repeat' (first | refine wc_seq ?_ | refine wc_region ?_ | refine wl_nil ?_ | refine wn_seq ?_ | refine wn_blk ?_ | refine wc_skip ?_ | refine wc_block ?_ | refine wc_exit rfl ?_ | (show WL _ _ (_ :: _) _ _ _ _; first | refine yl_v rfl rfl rfl ?_ | refine wl_v rfl rfl rfl (by first  | fail) ?_ | refine xl_box rfl (fun _ => ?_) | refine xl_buildSlice rfl (fun _ => ?_)) | refine wc_ret rfl ?_)
      exact wn_cut ⟨(v2, H2), by rw [e3]; exact own2⟩ trivial (by first | exact Sub.nil _ | (repeat (first | exact Sub.nil _ | refine Sub.cons (by first | rfl | (simp [look]; done)) ?_))) (fun _ h => h)
  rintro ⟨⟨v3, H3⟩, own3⟩
  dsimp only at own3 ⊢
  repeat' (first | refine wc_seq ?_ | refine wc_region ?_ | refine wl_nil ?_ | refine wn_seq ?_ | refine wn_blk ?_ | refine wc_skip ?_ | refine wc_block ?_ | refine wc_exit rfl ?_ | (show WL _ _ (_ :: _) _ _ _ _; first | refine yl_v rfl rfl rfl ?_ | refine wl_v rfl rfl rfl (by first | (show OpV _ _ _ _ (Oper.mk _ (Op.load _ _) _ _ _ _) _ _; exact ov_load1 (v := .bool c.http) rfl (by first | with_reducible exact fun _ => rfl | with_reducible exact fun h => h | exact fun _ => rfl | exact fun h => h | (intro himp; simp_all; done)) rfl rfl (List.mem_append_right _ (List.Mem.head _)) rfl) | fail) ?_ | refine xl_box rfl (fun _ => ?_) | refine xl_buildSlice rfl (fun _ => ?_)) | refine wc_ret rfl ?_)
  refine wc_split (α := { x : Value × List (Nat × Obj) // OwnS tSt 1 x.1 x.2 (cellsS (ps4 c)) }) (fun x => [(1, true, .pointer (some ⟨b1, 0, none⟩)), (4, true, x.1.1)]) (fun x => St w [] (x.1.2 ++ [(b1, .cells [str c.name, str c.value, str c.path, i64 c.age, .bool c.secure, .bool c.http].toArray 23 (0, 0))]) M) ?_ ?_
  · refine wc_cond rfl (fun hc => ?_) (fun hc => ?_)
    · have e3 : ps4 c = ps3 c ++ [[72, 116, 116, 112, 79, 110, 108, 121]] := by unfold ps4; rw [if_pos hc]
      repeat' (first | refine wc_seq ?_ | refine wc_region ?_ | refine wl_nil ?_ | refine wn_seq ?_ | refine wn_blk ?_ | refine wc_skip ?_ | refine wc_block ?_ | refine wc_exit rfl ?_ | (show WL _ _ (_ :: _) _ _ _ _; first | refine yl_v rfl rfl rfl ?_ | refine wl_v rfl rfl rfl (by first  | fail) ?_ | refine xl_box rfl (fun _ => ?_) | refine xl_buildSlice rfl (fun _ => ?_)) | refine wc_ret rfl ?_)
      refine wl_append (H0 := [(b1, .cells [str c.name, str c.value, str c.path, i64 c.age, .bool c.secure, .bool c.http].toArray 23 (0, 0))]) rfl own3 rfl rfl rfl rfl rfl rfl rfl rfl rfl rfl (List.Mem.head _) rfl rfl (List.sublist_cons_self _ _) (by rw [cellsS_length]; omega) rfl ?_
      intro v' Hs' ho'
      repeat' (first | refine wc_seq ?_ | refine wc_region ?_ | refine wl_nil ?_ | refine wn_seq ?_ | refine wn_blk ?_ | refine wc_skip ?_ | refine wc_block ?_ | refine wc_exit rfl ?_ | (show WL _ _ (_ :: _) _ _ _ _; first | refine yl_v rfl rfl rfl ?_ | refine wl_v rfl rfl rfl (by first  | fail) ?_ | refine xl_box rfl (fun _ => ?_) | refine xl_buildSlice rfl (fun _ => ?_)) | refine wc_ret rfl ?_)
      exact wn_cut ⟨(v', Hs'), by rw [e3, cellsS_snoc]; exact ho'⟩ trivial (by first | exact Sub.nil _ | (repeat (first | exact Sub.nil _ | refine Sub.cons (by first | rfl | (simp [look]; done)) ?_))) (fun _ h => h)
    · have e3 : ps4 c = ps3 c := by unfold ps4; rw [if_neg (by rw [hc]; decide), List.append_nil]
      repeat' (first | refine wc_seq ?_ | refine wc_region ?_ | refine wl_nil ?_ | refine wn_seq ?_ | refine wn_blk ?_ | refine wc_skip ?_ | refine wc_block ?_ | refine wc_exit rfl ?_ | (show WL _ _ (_ :: _) _ _ _ _; first | refine yl_v rfl rfl rfl ?_ | refine wl_v rfl rfl rfl (by first  | fail) ?_ | refine xl_box rfl (fun _ => ?_) | refine xl_buildSlice rfl (fun _ => ?_)) | refine wc_ret rfl ?_)
      exact wn_cut ⟨(v3, H3), by rw [e3]; exact own3⟩ trivial (by first | exact Sub.nil _ | (repeat (first | exact Sub.nil _ | refine Sub.cons (by first | rfl | (simp [look]; done)) ?_))) (fun _ h => h)
  rintro ⟨⟨v4, H4⟩, own4⟩
  dsimp only at own4 ⊢
  refine wc_publish fun hnew => ?_
  have hss : SlS (With M H4) v4 (ps4 c) := own4.slS (fun p hp => .inr hp) (by omega)
  have hjo := fun {w : World} (hw : Laid (With M H4) w) => join_ok hw hss [59, 32] (by omega) (by rw [hpj]; omega)
  rw [hpj] at hjo
  repeat' (first | refine wc_seq ?_ | refine wc_region ?_ | refine wl_nil ?_ | refine wn_seq ?_ | refine wn_blk ?_ | refine wc_skip ?_ | refine wc_block ?_ | refine wc_exit rfl ?_ | (show WL _ _ (_ :: _) _ _ _ _; first | refine yl_v rfl rfl rfl ?_ | refine wl_v rfl rfl rfl (by first | ((show OpV _ _ _ _ (Oper.mk _ (Op.call ⟨.value (.func 18), _, _⟩) _ _ _ _) _ _; exact ov_call Tryz.call18 rfl (by intro himp; first | rfl | (simp_all; done)) (by rfl) (fun _ _ h k => h.ext k) (fun hcg w hw => hjo hw.laid))) | fail) ?_ | refine xl_box rfl (fun _ => ?_) | refine xl_buildSlice rfl (fun _ => ?_)) | refine wc_ret rfl ?_)
  exact wr_weak (fun _ h => h.drop (List.nil_sublist _)) (wr_tmp2 rfl rfl rfl rfl rfl)
end Go.Proofs.YtmfelfhingmmbaaGreatDoor
/-
  cookie.Read.
-/
namespace Go.Ck
open Go.Pct Go.Txt Go.Proofs.YtmfelfhingmmbaaGreatDoor
open Go.Rsp (tokC tokenB)
open Go.Url (digC valD dec_all)
set_option linter.unusedSimpArgs false
theorem split_join : ∀ (l : List (List UInt8)) (a : List UInt8), 59 ∉ a → (∀ x ∈ l, 59 ∉ x) → Lib.split (a ++ l.flatMap fun x => 59 :: 32 :: x) [59, 32] = a :: l
  | [], a, ha, _ => by
    rw [List.flatMap_nil, List.append_nil]
    exact split_none (by decide) (cutS_no ha)
  | x :: l, a, ha, h => by
    have := cutS_mid (c := 59) (t := [32]) (a := a) (x ++ l.flatMap fun x => 59 :: 32 :: x) ha
    rw [List.flatMap_cons]
    have e : a ++ (59 :: 32 :: x ++ l.flatMap fun x => 59 :: 32 :: x) = a ++ [59, 32] ++ (x ++ l.flatMap fun x => 59 :: 32 :: x) := by simp
    rw [e, split_some (by decide) this, split_join l x (h x (List.mem_cons_self ..)) (fun y hy => h y (List.mem_cons_of_mem _ hy))]
theorem join_flat (a : List UInt8) (l : List (List UInt8)) : Lib.join (a :: l) [59, 32] = a ++ l.flatMap fun x => 59 :: 32 :: x := by
  rw [Lib.join_cons, Lib.joinTail, List.flatMap_def]
  rfl
theorem cut1_mid {a : List UInt8} (b : List UInt8) (h : 61 ∉ a) : cut1 (a ++ 61 :: b) = (a, b) := by
  have := cutS_mid (c := 61) (t := []) (a := a) b h
  rw [List.append_assoc] at this
  unfold cut1
  rw [show a ++ 61 :: b = a ++ ([61] ++ b) from rfl, this]
theorem decFrom_dig : ∀ (l : List UInt8) (acc : Nat), l.all digC = true → Lib.decFrom acc l = some (l.foldl (fun n c => 10 * n + (c.toNat - 48)) acc)
  | [], acc, _ => rfl
  | c :: l, acc, h => by
    rw [List.all_cons, Bool.and_eq_true] at h
    have hd : Lib.digitVal c = some (c.toNat - 48) := by
      have := h.1
      unfold digC at this
      simp only [Bool.and_eq_true, decide_eq_true_eq] at this
      unfold Lib.digitVal
      rw [if_pos this]
    rw [Lib.decFrom, hd, List.foldl_cons]
    simp only
    rw [decFrom_dig l _ h.2, Nat.mul_comm]
theorem atoi_dec {n : Nat} (h : n ≤ 99999999) : atoiV (Lib.decDigits n) = n := by
  obtain ⟨g1, g2, _, g4⟩ := dec_all n
  have hl := Url.dec_five 7 n (by omega)
  unfold atoiV
  rw [Lib.atoiAll_short _ (by omega)]
  have hs : Lib.atoi (Lib.decDigits n) = some (n : Int) := by
    cases hd : Lib.decDigits n with
    | nil => exact absurd hd g4
    | cons c r =>
      rw [hd] at g1 g2
      have hc : digC c = true := by rw [List.all_cons, Bool.and_eq_true] at g1; exact g1.1
      have h45 : ¬ c = 45 := by rintro rfl; revert hc; decide
      have h43 : ¬ c = 43 := by rintro rfl; revert hc; decide
      have e : Lib.decNat (c :: r) = some n := by
        unfold Lib.decNat
        rw [if_neg (by simp), decFrom_dig _ _ g1]
        exact congrArg some g2
      simp only [Lib.atoi, beq_iff_eq, h45, h43, if_false, e, Option.map_some]
  rw [hs]; rfl
theorem step_path (c : Ckie) (p : List UInt8) : stepC c ([80, 97, 116, 104, 61] ++ p) = { c with path := p } := by
  have := cut1_mid (a := [80, 97, 116, 104]) p (by decide)
  unfold stepC
  rw [show [80, 97, 116, 104, 61] ++ p = [80, 97, 116, 104] ++ 61 :: p from rfl, this, if_pos rfl]
theorem step_age (c : Ckie) {n : Nat} (h : n ≤ 99999999) : stepC c ([77, 97, 120, 45, 65, 103, 101, 61] ++ Lib.decDigits n) = { c with age := (n : Int) } := by
  have := cut1_mid (a := [77, 97, 120, 45, 65, 103, 101]) (Lib.decDigits n) (by decide)
  unfold stepC
  rw [show [77, 97, 120, 45, 65, 103, 101, 61] ++ Lib.decDigits n = [77, 97, 120, 45, 65, 103, 101] ++ 61 :: Lib.decDigits n from rfl, this, if_neg (fun e => absurd (show ([77, 97, 120, 45, 65, 103, 101] : List UInt8) = [80, 97, 116, 104] from e) (by decide)), if_pos rfl, atoi_dec h]
theorem step_path' (c : Ckie) (p : List UInt8) : stepC c (80 :: 97 :: 116 :: 104 :: 61 :: p) = { c with path := p } := step_path c p
theorem step_age' (c : Ckie) {n : Nat} (h : n ≤ 99999999) : stepC c (77 :: 97 :: 120 :: 45 :: 65 :: 103 :: 101 :: 61 :: Lib.decDigits n) = { c with age := (n : Int) } := step_age c h
theorem step_sec (c : Ckie) : stepC c [83, 101, 99, 117, 114, 101] = { c with secure := true } := rfl
theorem step_ho (c : Ckie) : stepC c [72, 116, 116, 112, 79, 110, 108, 121] = { c with http := true } := rfl
theorem pk_set {c : Ckie} (h : rightC c = true) : pkP (setC c) = c := by
  obtain ⟨p1, p2, p3, p4, p5, p6⟩ := right_parts h
  obtain ⟨n0, n1, n2, n3⟩ := token_no p1
  obtain ⟨w1, w2⟩ := value_no p4
  obtain ⟨e1, e2, e3, e4⟩ := eqP_no (p := (c.name, c.value)) p1 p2
  have hc1 : cut1 (eqP (c.name, c.value)) = (c.name, c.value) := cut1_mid c.value n1
  have hpth : (59 : UInt8) ∉ [80, 97, 116, 104, 61] ++ c.path := by
    simp only [List.mem_append, not_or]; exact ⟨by decide, w1⟩
  have hps : ps4 c = eqP (c.name, c.value) :: (ps4 c).drop 1 := by
    unfold ps4 ps3 ps2 ps1; simp
  have hno : ∀ x ∈ (ps4 c).drop 1, 59 ∉ x := by
    intro x hx
    unfold ps4 ps3 ps2 ps1 at hx
    simp only [List.cons_append, List.drop_succ_cons, List.drop_zero, List.nil_append, List.mem_cons, List.mem_append] at hx
    rcases hx with rfl | ((hx | hx) | hx)
    · exact hpth
    · split at hx
      · rw [List.mem_singleton] at hx; subst hx
        have : (59 : UInt8) ∉ [77, 97, 120, 45, 65, 103, 101, 61] ++ Lib.decDigits c.age.toNat := by
          simp only [List.mem_append, not_or]
          exact ⟨by decide, dec_no59 _⟩
        exact this
      · cases hx
    · split at hx
      · rw [List.mem_singleton] at hx; subst hx; decide
      · cases hx
    · split at hx
      · rw [List.mem_singleton] at hx; subst hx; decide
      · cases hx
  unfold pkP
  rw [← ps_join c, hps, join_flat, split_join _ _ e1 hno]
  have e5 : (eqP (c.name, c.value) :: (ps4 c).drop 1).getD 0 [] = eqP (c.name, c.value) := rfl
  rw [e5, hc1, List.drop_succ_cons, List.drop_zero]
  unfold ps4 ps3 ps2 ps1
  obtain ⟨n, v, p, z, a, b⟩ := c
  simp only [List.cons_append, List.drop_succ_cons, List.drop_zero, List.nil_append]
  simp only at p5 p6
  rw [List.foldl_cons, step_path']
  by_cases h0 : 0 ≤ z
  · obtain ⟨m, rfl⟩ : ∃ m : Nat, z = (m : Int) := ⟨z.toNat, by omega⟩
    rw [if_pos h0, Int.toNat_natCast, List.cons_append, List.cons_append, List.foldl_cons, step_age' _ (by omega)]
    cases a <;> cases b <;> rfl
  · have : z = -1 := by omega
    subst this
    cases a <;> cases b <;> rfl
theorem pk_read (s : List UInt8) : readP s = if rightC (pkP s) = true ∧ setC (pkP s) = s then some (pkP s) else none := by
  split
  · rename_i h; exact read_iff.2 h
  · rename_i h
    cases hr : readP s with
    | none => rfl
    | some c =>
      obtain ⟨h1, h2⟩ := read_iff.1 hr
      exfalso
      apply h
      rw [← h2, pk_set h1]
      exact ⟨h1, rfl⟩
theorem cut1_len (x : List UInt8) : (cut1 x).1.length ≤ x.length ∧ (cut1 x).2.length ≤ x.length := by
  unfold cut1
  cases h : cutS [61] x with
  | none => simp
  | some q =>
    obtain ⟨a, b⟩ := q
    have := cutS_length h
    simp only at *
    omega
end Go.Ck
namespace Go.Proofs.YtmfelfhingmmbaaGreatDoor
open Go.Eng Go.Pct Go.Txt Go.Ck
open Go.Rsp (tokC tokenB)
set_option maxRecDepth 10000
set_option linter.unusedSimpArgs false
set_option linter.unusedVariables false
variable {M : Ghost} {w0 w : World} {bs : List Nat} {H : List (Nat × Obj)}
theorem cut1_ok (hG : Glob M) (hM : Laid M w) (x : List UInt8) (hx : x.length ≤ 1000000) : Calls Tryz.prog 21 #[str x, str [61]] w (RetE w (.tuple #[str (cut1 x).1, str (cut1 x).2, .bool (cutS [61] x).isSome])) := by
  unfold cut1
  cases h : cutS [61] x with
  | none => exact cut_no hG hM (by decide) (by omega) h
  | some q =>
    obtain ⟨a, b⟩ := q
    exact cut_yes hG hM (by decide) (by omega) h
/-- what Read yields -/
def resCk (o : Option Ckie) : Value := .tuple #[.agg (ckCells (o.getD ⟨[], [], [], 0, false, false⟩)).toArray, i64 (if o.isSome then 0 else 10)]
theorem step_sm {c : Ckie} {x : List UInt8} (h : SmW c) (hx : x.length ≤ 1000000) : SmW (stepC c x) := by
  obtain ⟨h1, h2, h3⟩ := h
  have := cut1_len x
  unfold stepC
  repeat' split
  · exact ⟨h1, h2, by show (cut1 x).2.length ≤ _; omega⟩
  all_goals exact ⟨h1, h2, h3⟩
theorem fold_sm : ∀ (l : List (List UInt8)) (c : Ckie), SmW c → (∀ x ∈ l, x.length ≤ 1000000) → SmW (l.foldl stepC c)
  | [], c, h, _ => h
  | x :: l, c, h, hl => by
    rw [List.foldl_cons]
    exact fold_sm l _ (step_sm h (hl x (List.mem_cons_self ..))) (fun y hy => hl y (List.mem_cons_of_mem _ hy))
theorem fold_take {l : List (List UInt8)} {i : Nat} (h : i < l.length) (c : Ckie) : (l.take (i + 1)).foldl stepC c = stepC ((l.take i).foldl stepC c) (l.getD i default) := by
  have e : l.getD i default = l[i] := by simp [h]
  rw [List.take_succ_eq_append_getElem h, List.foldl_append, e]; rfl
structure CR (w : World) (M : Ghost) (l : List (List UInt8)) where
  i : Nat
  M' : Ghost
  hi : i ≤ l.length
  hs : Since w M M'
set_option maxHeartbeats 2000000 in
theorem cread_ok (hE : GlobE M) (hM : Laid M w) (s : List UInt8) (hs : s.length ≤ 1000000) : Calls Tryz.prog 8 #[str s] w (RetS M w (fun M' H v => H = [] ∧ v = resCk (readP s))) := by
  have hG := hE.glob
  rw [pk_read]
  refine calls_st (l := [str s]) hM Tryz.func8 rfl rfl rfl (E0 := [(0, true, str s)]) (params_cons rfl (params_nil _)) ?_
  repeat' (first | refine wc_seq ?_ | refine wc_region ?_ | refine wl_nil ?_ | refine wn_seq ?_ | refine wn_blk ?_ | refine wc_skip ?_ | refine wc_block ?_ | refine wc_exit rfl ?_ | (show WL _ _ (_ :: _) _ _ _ _; first | refine yl_v rfl rfl rfl ?_ | refine wl_v rfl rfl rfl (by first  | fail) ?_ | refine xl_alloc (fun _ => ?_) | refine xl_store rfl rfl ?_) | refine wc_ret rfl ?_)
  rename_i b2
  refine wl_callS rfl Tryz.call20 rfl rfl rfl rfl (fun w hw => splitM_ok hG hw.laid s [59, 32] (by decide) (by omega)) ?_
  rintro v1 H1 M1 hm1 hn1 ⟨rfl, hS⟩
  have hE1 := hE.mono hm1
  have hne := split_ne (sep := [59, 32]) (by decide) s
  have hmem := fun x (hx : x ∈ Lib.split s [59, 32]) => split_mem (sep := [59, 32]) (by decide) hx
  have hspl := split_len_le (sep := [59, 32]) (by decide) _ s (Nat.le_refl _)
  unfold pkP
  generalize Lib.split s [59, 32] = parts at *
  obtain ⟨a, cap, b, o, cs, T, fz, rfl, h1, h2, h3, h4⟩ := hS.open
  obtain ⟨rfl, hMb⟩ := h3 (by rintro rfl; simp at hne)
  have hc0 := h4 0 hne
  have hx0 : (parts.getD 0 []).length ≤ s.length := hmem _ (getD_mem (l := parts) hne)
  have hx0' : parts.getD 0 default = parts.getD 0 [] := rfl
  rw [hx0'] at hc0
  generalize parts.getD 0 [] = x0 at *
  have hcu0 := fun {w : World} (hw : Laid M1 w) => cut1_ok hE1.glob hw x0 (by omega)
  have hcl0 := cut1_len x0
  repeat' (first | refine wc_seq ?_ | refine wc_region ?_ | refine wl_nil ?_ | refine wn_seq ?_ | refine wn_blk ?_ | refine wc_skip ?_ | refine wc_block ?_ | refine wc_exit rfl ?_ | (show WL _ _ (_ :: _) _ _ _ _; first | refine yl_v rfl rfl rfl ?_ | refine wl_v rfl rfl rfl (by first | (show OpV _ _ _ _ (Oper.mk _ (Op.indexAddr _ _ _) _ _ _ _) _ _; exact ov_indexAddr (i := 0) (b := b) (o := o) rfl rfl rfl (by first | with_reducible exact fun _ => rfl | with_reducible exact fun h => h | exact fun _ => rfl | exact fun h => h | (intro himp; simp_all; done)) (by first | with_reducible exact fun _ => rfl | with_reducible exact fun h => h | exact fun _ => rfl | exact fun h => h | (intro himp; simp_all; done)) rfl (by first | exact (rfl : _ = some 1) | exact (rfl : _ = some 2) | exact (rfl : _ = some 3) | exact (rfl : _ = some 4) | exact (rfl : _ = some 6) | exact rfl) (fun _ => rfl) (fun _ => hne)) | (show OpV _ _ _ _ (Oper.mk _ (Op.load _ _) _ _ _ _) _ _; exact ov_load1M rfl (by first | with_reducible exact fun _ => rfl | with_reducible exact fun h => h | exact fun _ => rfl | exact fun h => h | (intro himp; simp_all; done)) rfl rfl (fun _ => hMb) (fun _ => hc0)) | ((show OpV _ _ _ _ (Oper.mk _ (Op.call ⟨.value (.func 21), _, _⟩) _ _ _ _) _ _; exact ov_call Tryz.call21 rfl (by intro himp; first | rfl | (simp_all; done)) (by rfl) (fun _ _ h k => h.ext k) (fun hcg w hw => hcu0 hw.laid))) | fail) ?_ | refine xl_alloc (fun _ => ?_) | refine xl_store rfl rfl ?_) | refine wc_ret rfl ?_)
  rename_i b5
  have hll : (parts.drop 1).length = parts.length - 1 := List.length_drop
  have hgd : ∀ i, (parts.drop 1).getD i default = parts.getD (i + 1) default := fun i => by
    rw [List.getD_eq_getElem?_getD, List.getD_eq_getElem?_getD, List.getElem?_drop, Nat.add_comm]
  obtain ⟨a1, hslc, ha1⟩ : ∃ a1, slc (some ⟨b, o, none⟩) 1 1 parts.length cap = .slice a1 (parts.drop 1).length (cap - 1) ∧ (1 < parts.length → a1 = some ⟨b, o + 1, none⟩) := by
    refine ⟨_, by rw [hll]; rfl, fun h => ?_⟩
    rw [if_neg (by omega)]; rfl
  rw [hslc, ← hll]
  have hc4 : ∀ i, i < (parts.drop 1).length → cs[o + 1 + i * 1]? = some (str ((parts.drop 1).getD i default)) := fun i hi => by
    have := h4 (i + 1) (by omega)
    rw [hgd i, ← this]; congr 1; omega
  have hxl : ∀ i, i < (parts.drop 1).length → ((parts.drop 1).getD i default).length ≤ s.length := fun i hi => by
    rw [hgd i]; exact hmem _ (getD_mem (by omega))
  have hxm : ∀ x ∈ parts.drop 1, x.length ≤ 1000000 := fun x hx => by have := hmem x (List.mem_of_mem_drop hx); omega
  have ha2 : 0 < (parts.drop 1).length → a1 = some ⟨b, o + 1, none⟩ := fun h => ha1 (by omega)
  clear hgd ha1 hslc h4 hmem h3 hS hc0 hx0'
  generalize hl : parts.drop 1 = l at *
  have hsm0 : SmW ⟨(cut1 x0).1, (cut1 x0).2, [], -1, false, false⟩ := ⟨by show (cut1 x0).1.length ≤ _; omega, by show (cut1 x0).2.length ≤ _; omega, by simp⟩
  obtain ⟨c0, hc0⟩ : ∃ c0 : Ckie, c0 = ⟨(cut1 x0).1, (cut1 x0).2, [], -1, false, false⟩ := ⟨_, rfl⟩
  have hcells : [str (cut1 x0).1, str (cut1 x0).2, str [], i64 (-1), .bool false, .bool false] = [str c0.name, str c0.value, str c0.path, i64 c0.age, .bool c0.secure, .bool c0.http] := by rw [hc0]
  rw [← hc0] at hsm0 ⊢
  refine wc_loop (α := CR w M1 l) (fun x => [(0, true, str s), (2, true, .pointer (some ⟨b2, 0, none⟩)), (5, true, .pointer (some ⟨b5, 0, none⟩)), (27, true, .slice a1 l.length (cap - 1)), (28, true, i64 (l.length : Int)), (29, true, i64 (x.i : Int))]) (fun x => St w [] [(b5, .cells [str ((l.take x.i).foldl stepC c0).name, str ((l.take x.i).foldl stepC c0).value, str ((l.take x.i).foldl stepC c0).path, i64 ((l.take x.i).foldl stepC c0).age, .bool ((l.take x.i).foldl stepC c0).secure, .bool ((l.take x.i).foldl stepC c0).http].toArray 23 (0, 0)), (b2, .cells [str [], str [], str [], i64 0, .bool false, .bool false].toArray 23 (0, 0))] x.M') (fun x => l.length - x.i) ⟨0, M1, Nat.zero_le _, Since.refl⟩ (by first | exact Sub.nil _ | (repeat (first | exact Sub.nil _ | refine Sub.cons (by first | rfl | (simp [look]; done)) ?_))) (fun _ h => by rw [List.take_zero, List.foldl_nil, ← hcells]; exact h) ?_
  rintro ⟨i, M2, hi, hs2⟩
  dsimp only
  have hE2 := hE1.mono hs2.1
  by_cases hlt : i < l.length
  · have ha := ha2 (by omega)
    subst ha
    have hcell := hc4 i hlt
    have hnx := fold_take hlt c0
    have hx := hxl i hlt
    have hMb2 := hs2.1 _ _ hMb
    generalize l.getD i default = x at *
    generalize (l.take i).foldl stepC c0 = c at *
    have hcu := fun {w : World} (hw : Laid M2 w) => cut1_ok hE2.glob hw x (by omega)
    have hcl := cut1_len x
    have hst0 : stepC c x = stepC c x := rfl
    conv at hst0 => rhs; unfold stepC
    generalize (cut1 x).1 = n at *
    generalize (cut1 x).2 = v at *
    repeat' (first | refine wc_seq ?_ | refine wc_region ?_ | refine wl_nil ?_ | refine wn_seq ?_ | refine wn_blk ?_ | refine wc_skip ?_ | refine wc_block ?_ | refine wc_exit rfl ?_ | (show WL _ _ (_ :: _) _ _ _ _; first | refine yl_v rfl rfl rfl ?_ | refine wl_v rfl rfl rfl (by first  | fail) ?_ | refine xl_alloc (fun _ => ?_) | refine xl_store rfl rfl ?_) | refine wc_ret rfl ?_)
    refine wc_cond rfl (fun hc => ?_) (fun hc => by exfalso; simp at hc; omega)
    clear hc
    repeat' (first | refine wc_seq ?_ | refine wc_region ?_ | refine wl_nil ?_ | refine wn_seq ?_ | refine wn_blk ?_ | refine wc_skip ?_ | refine wc_block ?_ | refine wc_exit rfl ?_ | (show WL _ _ (_ :: _) _ _ _ _; first | refine yl_v rfl rfl rfl ?_ | refine wl_v rfl rfl rfl (by first | (show OpV _ _ _ _ (Oper.mk _ (Op.indexAddr _ _ _) _ _ _ _) _ _; exact ov_indexAddr (i := i) (b := b) (o := o + 1) rfl rfl rfl (by first | with_reducible exact fun _ => rfl | with_reducible exact fun h => h | exact fun _ => rfl | exact fun h => h | (intro himp; simp_all; done)) (by first | with_reducible exact fun _ => rfl | with_reducible exact fun h => h | exact fun _ => rfl | exact fun h => h | (intro himp; simp_all; done)) rfl (by first | exact (rfl : _ = some 1) | exact (rfl : _ = some 2) | exact (rfl : _ = some 3) | exact (rfl : _ = some 4) | exact (rfl : _ = some 6) | exact rfl) (fun _ => rfl) (by intro hcg; first | omega | (simp at hcg; omega))) | (show OpV _ _ _ _ (Oper.mk _ (Op.load _ _) _ _ _ _) _ _; exact ov_load1M rfl (by first | with_reducible exact fun _ => rfl | with_reducible exact fun h => h | exact fun _ => rfl | exact fun h => h | (intro himp; simp_all; done)) rfl rfl (fun _ => hMb2) (fun _ => hcell)) | ((show OpV _ _ _ _ (Oper.mk _ (Op.call ⟨.value (.func 21), _, _⟩) _ _ _ _) _ _; exact ov_call Tryz.call21 rfl (by intro himp; first | rfl | (simp_all; done)) (by rfl) (fun _ _ h k => h.ext k) (fun hcg w hw => hcu hw.laid))) | fail) ?_ | refine xl_alloc (fun _ => ?_) | refine xl_store rfl rfl ?_) | refine wc_ret rfl ?_)
    refine wc_cond rfl (fun hc => ?_) (fun hc => ?_)
    · have h0 : n = [80, 97, 116, 104] := by simpa using hc
      have hst : stepC c x = { c with path := v } := by rw [hst0, if_pos h0]
      repeat' (first | refine wc_seq ?_ | refine wc_region ?_ | refine wl_nil ?_ | refine wn_seq ?_ | refine wn_blk ?_ | refine wc_skip ?_ | refine wc_block ?_ | refine wc_exit rfl ?_ | (show WL _ _ (_ :: _) _ _ _ _; first | refine yl_v rfl rfl rfl ?_ | refine wl_v rfl rfl rfl (by first  | fail) ?_ | refine xl_alloc (fun _ => ?_) | refine xl_store rfl rfl ?_) | refine wc_ret rfl ?_)
      exact wn_cut ⟨i + 1, M2, by omega, hs2⟩ (by show l.length - (i + 1) < l.length - i; omega) (by first | exact Sub.nil _ | (repeat (first | exact Sub.nil _ | refine Sub.cons (by first | rfl | (simp [look]; done)) ?_))) (fun _ h => by rw [hnx, hst]; exact h)
    have h0 : ¬ n = [80, 97, 116, 104] := by simpa using hc
    clear hc
    rw [if_neg h0] at hst0
    repeat' (first | refine wc_seq ?_ | refine wc_region ?_ | refine wl_nil ?_ | refine wn_seq ?_ | refine wn_blk ?_ | refine wc_skip ?_ | refine wc_block ?_ | refine wc_exit rfl ?_ | (show WL _ _ (_ :: _) _ _ _ _; first | refine yl_v rfl rfl rfl ?_ | refine wl_v rfl rfl rfl (by first  | fail) ?_ | refine xl_alloc (fun _ => ?_) | refine xl_store rfl rfl ?_) | refine wc_ret rfl ?_)
    refine wc_cond rfl (fun hc => ?_) (fun hc => ?_)
    · have h1 : n = [77, 97, 120, 45, 65, 103, 101] := by simpa using hc
      have hst : stepC c x = { c with age := atoiV v } := by rw [hst0, if_pos h1]
      repeat' (first | refine wc_seq ?_ | refine wc_region ?_ | refine wl_nil ?_ | refine wn_seq ?_ | refine wn_blk ?_ | refine wc_skip ?_ | refine wc_block ?_ | refine wc_exit rfl ?_ | (show WL _ _ (_ :: _) _ _ _ _; first | refine yl_v rfl rfl rfl ?_ | refine wl_v rfl rfl rfl (by first  | fail) ?_ | refine xl_alloc (fun _ => ?_) | refine xl_store rfl rfl ?_) | refine wc_ret rfl ?_)
      refine wl_callS rfl Tryz.call22 rfl rfl rfl rfl (fun w hw => atoi_ok hE2 hw.laid v (by omega)) ?_
      rintro _ H3 M3 hm3 hn3 ⟨rfl, er, rfl⟩
      repeat' (first | refine wc_seq ?_ | refine wc_region ?_ | refine wl_nil ?_ | refine wn_seq ?_ | refine wn_blk ?_ | refine wc_skip ?_ | refine wc_block ?_ | refine wc_exit rfl ?_ | (show WL _ _ (_ :: _) _ _ _ _; first | refine yl_v rfl rfl rfl ?_ | refine wl_v rfl rfl rfl (by first  | fail) ?_ | refine xl_alloc (fun _ => ?_) | refine xl_store rfl rfl ?_) | refine wc_ret rfl ?_)
      exact wn_cut ⟨i + 1, M3, by omega, hs2.step hm3 hn3⟩ (by show l.length - (i + 1) < l.length - i; omega) (by first | exact Sub.nil _ | (repeat (first | exact Sub.nil _ | refine Sub.cons (by first | rfl | (simp [look]; done)) ?_))) (fun _ h => by rw [hnx, hst]; exact h)
    have h1 : ¬ n = [77, 97, 120, 45, 65, 103, 101] := by simpa using hc
    clear hc
    rw [if_neg h1] at hst0
    repeat' (first | refine wc_seq ?_ | refine wc_region ?_ | refine wl_nil ?_ | refine wn_seq ?_ | refine wn_blk ?_ | refine wc_skip ?_ | refine wc_block ?_ | refine wc_exit rfl ?_ | (show WL _ _ (_ :: _) _ _ _ _; first | refine yl_v rfl rfl rfl ?_ | refine wl_v rfl rfl rfl (by first  | fail) ?_ | refine xl_alloc (fun _ => ?_) | refine xl_store rfl rfl ?_) | refine wc_ret rfl ?_)
    refine wc_cond rfl (fun hc => ?_) (fun hc => ?_)
    · have h2 : n = [83, 101, 99, 117, 114, 101] := by simpa using hc
      have hst : stepC c x = { c with secure := true } := by rw [hst0, if_pos h2]
      repeat' (first | refine wc_seq ?_ | refine wc_region ?_ | refine wl_nil ?_ | refine wn_seq ?_ | refine wn_blk ?_ | refine wc_skip ?_ | refine wc_block ?_ | refine wc_exit rfl ?_ | (show WL _ _ (_ :: _) _ _ _ _; first | refine yl_v rfl rfl rfl ?_ | refine wl_v rfl rfl rfl (by first  | fail) ?_ | refine xl_alloc (fun _ => ?_) | refine xl_store rfl rfl ?_) | refine wc_ret rfl ?_)
      exact wn_cut ⟨i + 1, M2, by omega, hs2⟩ (by show l.length - (i + 1) < l.length - i; omega) (by first | exact Sub.nil _ | (repeat (first | exact Sub.nil _ | refine Sub.cons (by first | rfl | (simp [look]; done)) ?_))) (fun _ h => by rw [hnx, hst]; exact h)
    have h2 : ¬ n = [83, 101, 99, 117, 114, 101] := by simpa using hc
    clear hc
    rw [if_neg h2] at hst0
    repeat' (first | refine wc_seq ?_ | refine wc_region ?_ | refine wl_nil ?_ | refine wn_seq ?_ | refine wn_blk ?_ | refine wc_skip ?_ | refine wc_block ?_ | refine wc_exit rfl ?_ | (show WL _ _ (_ :: _) _ _ _ _; first | refine yl_v rfl rfl rfl ?_ | refine wl_v rfl rfl rfl (by first  | fail) ?_ | refine xl_alloc (fun _ => ?_) | refine xl_store rfl rfl ?_) | refine wc_ret rfl ?_)
    refine wc_cond rfl (fun hc => ?_) (fun hc => ?_)
    · have h3 : n = [72, 116, 116, 112, 79, 110, 108, 121] := by simpa using hc
      have hst : stepC c x = { c with http := true } := by rw [hst0, if_pos h3]
      repeat' (first | refine wc_seq ?_ | refine wc_region ?_ | refine wl_nil ?_ | refine wn_seq ?_ | refine wn_blk ?_ | refine wc_skip ?_ | refine wc_block ?_ | refine wc_exit rfl ?_ | (show WL _ _ (_ :: _) _ _ _ _; first | refine yl_v rfl rfl rfl ?_ | refine wl_v rfl rfl rfl (by first  | fail) ?_ | refine xl_alloc (fun _ => ?_) | refine xl_store rfl rfl ?_) | refine wc_ret rfl ?_)
      exact wn_cut ⟨i + 1, M2, by omega, hs2⟩ (by show l.length - (i + 1) < l.length - i; omega) (by first | exact Sub.nil _ | (repeat (first | exact Sub.nil _ | refine Sub.cons (by first | rfl | (simp [look]; done)) ?_))) (fun _ h => by rw [hnx, hst]; exact h)
    · have h3 : ¬ n = [72, 116, 116, 112, 79, 110, 108, 121] := by simpa using hc
      have hst : stepC c x = c := by rw [hst0, if_neg h3]
      repeat' (first | refine wc_seq ?_ | refine wc_region ?_ | refine wl_nil ?_ | refine wn_seq ?_ | refine wn_blk ?_ | refine wc_skip ?_ | refine wc_block ?_ | refine wc_exit rfl ?_ | (show WL _ _ (_ :: _) _ _ _ _; first | refine yl_v rfl rfl rfl ?_ | refine wl_v rfl rfl rfl (by first  | fail) ?_ | refine xl_alloc (fun _ => ?_) | refine xl_store rfl rfl ?_) | refine wc_ret rfl ?_)
      exact wn_cut ⟨i + 1, M2, by omega, hs2⟩ (by show l.length - (i + 1) < l.length - i; omega) (by first | exact Sub.nil _ | (repeat (first | exact Sub.nil _ | refine Sub.cons (by first | rfl | (simp [look]; done)) ?_))) (fun _ h => by rw [hnx, hst]; exact h)
  obtain rfl : i = l.length := by omega
  have hsm := fold_sm l c0 hsm0 hxm
  rw [List.take_length]
  generalize l.foldl stepC c0 = c at *
  have hse := fun {w : World} (hw : Laid M2 w) => cset_ok hE2.glob hw c hsm
  have hck : ckCells c = [str c.name, str c.value, str c.path, i64 c.age, .bool c.secure, .bool c.http] := rfl
  rw [hck] at hse
  have hs3 : Since w M M2 := (Since.refl.step hm1 hn1).step hs2.1 hs2.2
  unfold setP at hse
  repeat' (first | refine wc_seq ?_ | refine wc_region ?_ | refine wl_nil ?_ | refine wn_seq ?_ | refine wn_blk ?_ | refine wc_skip ?_ | refine wc_block ?_ | refine wc_exit rfl ?_ | (show WL _ _ (_ :: _) _ _ _ _; first | refine yl_v rfl rfl rfl ?_ | refine wl_v rfl rfl rfl (by first  | fail) ?_ | refine xl_alloc (fun _ => ?_) | refine xl_store rfl rfl ?_) | refine wc_ret rfl ?_)
  refine wc_cond rfl (fun hc => by exfalso; simp at hc) (fun hc => ?_)
  clear hc
  by_cases hr : rightC c = true
  · rw [if_pos hr] at hse
    repeat' (first | refine wc_seq ?_ | refine wc_region ?_ | refine wl_nil ?_ | refine wn_seq ?_ | refine wn_blk ?_ | refine wc_skip ?_ | refine wc_block ?_ | refine wc_exit rfl ?_ | (show WL _ _ (_ :: _) _ _ _ _; first | refine yl_v rfl rfl rfl ?_ | refine wl_v rfl rfl rfl (by first | ((show OpV _ _ _ _ (Oper.mk _ (Op.call ⟨.value (.func 6), _, _⟩) _ _ _ _) _ _; exact ov_call Tryz.call6 rfl (by intro himp; first | rfl | (simp_all; done)) (by rfl) (fun _ _ h k => h.ext k) (fun hcg w hw => hse hw.laid))) | fail) ?_ | refine xl_alloc (fun _ => ?_) | refine xl_store rfl rfl ?_) | refine wc_ret rfl ?_)
    refine wc_cond rfl (fun hc => ?_) (fun hc => ?_)
    · have hne2 : ¬ (rightC c = true ∧ setC c = s) := by rintro ⟨_, e⟩; simp [e] at hc
      rw [if_neg hne2]
      repeat' (first | refine wc_seq ?_ | refine wc_region ?_ | refine wl_nil ?_ | refine wn_seq ?_ | refine wn_blk ?_ | refine wc_skip ?_ | refine wc_block ?_ | refine wc_exit rfl ?_ | (show WL _ _ (_ :: _) _ _ _ _; first | refine yl_v rfl rfl rfl ?_ | refine wl_v rfl rfl rfl (by first  | fail) ?_ | refine xl_alloc (fun _ => ?_) | refine xl_store rfl rfl ?_) | refine wc_ret rfl ?_)
      exact wr_layC2 (Hn := []) rfl rfl rfl rfl (List.Mem.tail _ (List.Mem.head _)) rfl hs3 (List.nil_sublist _) ⟨rfl, rfl⟩
    · have heq : rightC c = true ∧ setC c = s := ⟨hr, by simp at hc; exact hc⟩
      rw [if_pos heq]
      repeat' (first | refine wc_seq ?_ | refine wc_region ?_ | refine wl_nil ?_ | refine wn_seq ?_ | refine wn_blk ?_ | refine wc_skip ?_ | refine wc_block ?_ | refine wc_exit rfl ?_ | (show WL _ _ (_ :: _) _ _ _ _; first | refine yl_v rfl rfl rfl ?_ | refine wl_v rfl rfl rfl (by first  | fail) ?_ | refine xl_alloc (fun _ => ?_) | refine xl_store rfl rfl ?_) | refine wc_ret rfl ?_)
      exact wr_layC2 (Hn := []) rfl rfl rfl rfl (List.Mem.tail _ (List.Mem.head _)) rfl hs3 (List.nil_sublist _) ⟨rfl, rfl⟩
  · rw [if_neg hr] at hse
    rw [if_neg (fun h => hr h.1)]
    repeat' (first | refine wc_seq ?_ | refine wc_region ?_ | refine wl_nil ?_ | refine wn_seq ?_ | refine wn_blk ?_ | refine wc_skip ?_ | refine wc_block ?_ | refine wc_exit rfl ?_ | (show WL _ _ (_ :: _) _ _ _ _; first | refine yl_v rfl rfl rfl ?_ | refine wl_v rfl rfl rfl (by first | ((show OpV _ _ _ _ (Oper.mk _ (Op.call ⟨.value (.func 6), _, _⟩) _ _ _ _) _ _; exact ov_call Tryz.call6 rfl (by intro himp; first | rfl | (simp_all; done)) (by rfl) (fun _ _ h k => h.ext k) (fun hcg w hw => hse hw.laid))) | fail) ?_ | refine xl_alloc (fun _ => ?_) | refine xl_store rfl rfl ?_) | refine wc_ret rfl ?_)
    refine wc_cond rfl (fun hc => ?_) (fun hc => by exfalso; simp at hc)
    repeat' (first | refine wc_seq ?_ | refine wc_region ?_ | refine wl_nil ?_ | refine wn_seq ?_ | refine wn_blk ?_ | refine wc_skip ?_ | refine wc_block ?_ | refine wc_exit rfl ?_ | (show WL _ _ (_ :: _) _ _ _ _; first | refine yl_v rfl rfl rfl ?_ | refine wl_v rfl rfl rfl (by first  | fail) ?_ | refine xl_alloc (fun _ => ?_) | refine xl_store rfl rfl ?_) | refine wc_ret rfl ?_)
    exact wr_layC2 (Hn := []) rfl rfl rfl rfl (List.Mem.tail _ (List.Mem.head _)) rfl hs3 (List.nil_sublist _) ⟨rfl, rfl⟩
end Go.Proofs.YtmfelfhingmmbaaGreatDoor
/-
  The chapter's examples; the statements CookieSent, CookieLines, CookieBack.
-/
namespace Go.Eng
set_option linter.unusedSimpArgs false
section
variable {P : Program} {n : Nat} {E : Env} {cg cx cy : Bool} {x y : Operand} {tx tyy : TypeId}
variable {dst : Option Tmp} {ty : TypeId} {pos : String} {af : Array Edge} {g : Option (Nat × Bool)} {C : World → Prop}
theorem run_eqPtr {e : TypeId} {a0 : Addr} {w : World} (ht : P.underlying tx = some (.pointer e)) : (binOp .eql tx (.pointer (some a0)) (.pointer none)).run P w = .ok (.bool false) w ∧ (binOp .neq tx (.pointer (some a0)) (.pointer none)).run P w = .ok (.bool true) w := by
  have h : ∀ d : Nat, (Op.equalIn (d + 1) tx (.pointer (some a0)) (.pointer none)).run P w = .ok false w := fun d => by simp [Op.equalIn, run_underlying ht]
  constructor
  · simp only [binOp]
    simp [Op.equal, Op.maxDepth, h 9999]
  · simp only [binOp]
    simp [Op.equal, Op.maxDepth, h 9999]
/-- a pointer against nil -/
theorem ov_eqPtr {e : TypeId} {a0 : Addr} (hx : ev E x = some (cx, .pointer (some a0))) (hy : ev E y = some (cy, .pointer none)) (h1 : Imp cg cx) (h2 : Imp cg cy) (ht : P.underlying tx = some (.pointer e)) :
    OpV P n E C ⟨dst, .binOp .eql tx x y tyy, ty, pos, af, g⟩ cg (.bool false) :=
  ov_run fun h _ ha w _ => run_bin (ha.evalc hx (h1 h)) (ha.evalc hy (h2 h)) (by simp [eqGuard]) (run_eqPtr ht).1
theorem ov_neqPtr {e : TypeId} {a0 : Addr} (hx : ev E x = some (cx, .pointer (some a0))) (hy : ev E y = some (cy, .pointer none)) (h1 : Imp cg cx) (h2 : Imp cg cy) (ht : P.underlying tx = some (.pointer e)) :
    OpV P n E C ⟨dst, .binOp .neq tx x y tyy, ty, pos, af, g⟩ cg (.bool true) :=
  ov_run fun h _ ha w _ => run_bin (ha.evalc hx (h1 h)) (ha.evalc hy (h2 h)) (by simp [eqGuard]) (run_eqPtr ht).2
end
end Go.Eng
namespace Go.Proofs.YtmfelfhingmmbaaGreatDoor
open Go.Eng Go.Pct Go.Txt Go.Ck
open Go.Rsp (tokC tokenB)
set_option maxRecDepth 10000
set_option linter.unusedSimpArgs false
set_option linter.unusedVariables false
variable {M : Ghost} {w0 w : World} {bs : List Nat} {H : List (Nat × Obj)}
theorem slP_lit {e b : Nat} {l : List Pr} (h : M b (.cells (cellsP l).toArray e (0, 0))) (hl : l.length ≤ 1000) : SlP M (.slice (some ⟨b, 0, none⟩) l.length l.length) l :=
  (OwnS.lit (e := e) (b := b) (cellsP_length l) (Nat.le_trans hl (by decide))).slP (fun p hp => by
    rw [List.mem_singleton] at hp; subst hp; exact h) (by omega)
def exA : Ckie := ⟨[67, 65, 83, 84, 71, 67], [84, 71, 84, 45, 49], [47, 99, 97, 115], -1, true, true⟩
def exB : Ckie := ⟨[97], [49], [47, 99, 97, 115], -1, false, false⟩
theorem aw1 : setP exA = ([67, 65, 83, 84, 71, 67, 61, 84, 71, 84, 45, 49, 59, 32, 80, 97, 116, 104, 61, 47, 99, 97, 115, 59, 32, 83, 101, 99, 117, 114, 101, 59, 32, 72, 116, 116, 112, 79, 110, 108, 121], 0) := by decide +kernel
theorem aw2 : sentP [97, 61, 49, 59, 32, 98, 61, 59, 32, 59, 99, 61, 120, 61, 121] = ([([97], [49]), ([98], []), ([99], [120, 61, 121])], 0) := by decide +kernel
theorem aw3 : putP [] exB = ([exB], 0) := by decide +kernel
theorem aw4 : pairsP [exB] [47, 99, 97, 115, 47, 108, 111, 103, 105, 110] false = [([97], [49])] := by decide +kernel
theorem aw5 : pairsP [exB] [47, 99, 97, 115, 116, 108, 101] false = [] := by decide +kernel
set_option maxHeartbeats 1000000 in
theorem awake_ok (hG : Glob M) (hM : Laid M w) : Calls Tryz.prog 4 #[] w (RetE w (.bool true)) := by
  have h1 := fun {w : World} (hw : Laid M w) => cset_ok hG hw exA ⟨by decide, by decide, by decide⟩
  rw [aw1] at h1
  have hsB : ∀ c ∈ [exB], SmC c := fun c hc => by rw [List.mem_singleton] at hc; subst hc; exact ⟨by decide, by decide, by decide⟩
  refine calls_st (l := []) hM Tryz.func4 rfl rfl rfl (E0 := []) (params_nil _) ?_
  repeat' (first | refine wc_seq ?_ | refine wc_region ?_ | refine wl_nil ?_ | refine wn_seq ?_ | refine wn_blk ?_ | refine wc_skip ?_ | refine wc_block ?_ | refine wc_exit rfl ?_ | (show WL _ _ (_ :: _) _ _ _ _; first | refine yl_v rfl rfl rfl ?_ | refine wl_v rfl rfl rfl (by first | ((show OpV _ _ _ _ (Oper.mk _ (Op.call ⟨.value (.func 6), _, _⟩) _ _ _ _) _ _; exact ov_call Tryz.call6 rfl (by intro himp; first | rfl | (simp_all; done)) (by rfl) (fun _ _ h k => h.ext k) (fun hcg w hw => h1 hw.laid))) | fail) ?_ | refine xl_buildSlice rfl (fun _ => ?_)) | refine wc_ret rfl ?_)
  refine wl_callS rfl Tryz.call12 rfl rfl rfl rfl (fun w hw => csent_ok hG hw.laid [97, 61, 49, 59, 32, 98, 61, 59, 32, 59, 99, 61, 120, 61, 121] (by decide)) ?_
  rintro _ H1 M1 hm1 hn1 ⟨rfl, sv, rfl, hS⟩
  rw [aw2] at hS ⊢
  repeat' (first | refine wc_seq ?_ | refine wc_region ?_ | refine wl_nil ?_ | refine wn_seq ?_ | refine wn_blk ?_ | refine wc_skip ?_ | refine wc_block ?_ | refine wc_exit rfl ?_ | (show WL _ _ (_ :: _) _ _ _ _; first | refine yl_v rfl rfl rfl ?_ | refine wl_v rfl rfl rfl (by first  | fail) ?_ | refine xl_buildSlice rfl (fun _ => ?_)) | refine wc_ret rfl ?_)
  refine wl_callS rfl Tryz.call13 rfl rfl rfl rfl (fun w hw => new_ok hw.laid) ?_
  rintro _ H2 M2 hm2 hn2 ⟨bj, rfl, rfl⟩
  repeat' (first | refine wc_seq ?_ | refine wc_region ?_ | refine wl_nil ?_ | refine wn_seq ?_ | refine wn_blk ?_ | refine wc_skip ?_ | refine wc_block ?_ | refine wc_exit rfl ?_ | (show WL _ _ (_ :: _) _ _ _ _; first | refine yl_v rfl rfl rfl ?_ | refine wl_v rfl rfl rfl (by first | (show OpV _ _ _ _ (Oper.mk _ (Op.binOp BinOp.eql _ _ _ _) _ _ _ _) _ _; exact ov_eqPtr rfl rfl (by first | with_reducible exact fun _ => rfl | with_reducible exact fun h => h | exact fun _ => rfl | exact fun h => h | (intro himp; simp_all; done)) (by first | with_reducible exact fun _ => rfl | with_reducible exact fun h => h | exact fun _ => rfl | exact fun h => h | (intro himp; simp_all; done)) rfl) | fail) ?_ | refine xl_buildSlice rfl (fun _ => ?_)) | refine wc_ret rfl ?_)
  refine wc_cond rfl (fun hc => by exfalso; cases hc) (fun hc => ?_)
  clear hc
  repeat' (first | refine wc_seq ?_ | refine wc_region ?_ | refine wl_nil ?_ | refine wn_seq ?_ | refine wn_blk ?_ | refine wc_skip ?_ | refine wc_block ?_ | refine wc_exit rfl ?_ | (show WL _ _ (_ :: _) _ _ _ _; first | refine yl_v rfl rfl rfl ?_ | refine wl_v rfl rfl rfl (by first  | fail) ?_ | refine xl_buildSlice rfl (fun _ => ?_)) | refine wc_ret rfl ?_)
  refine wl_callY (b := bj) (H := []) rfl Tryz.call14 rfl rfl rfl rfl (fun w hw => put_ok (J := []) sl_nil (by decide) exB ⟨by decide, by decide, by decide⟩ hw) ?_
  rintro _ M3 _ hm3 hn3 ⟨rfl, jv, rfl, hJ⟩
  rw [aw3] at hJ ⊢
  repeat' (first | refine wc_seq ?_ | refine wc_region ?_ | refine wl_nil ?_ | refine wn_seq ?_ | refine wn_blk ?_ | refine wc_skip ?_ | refine wc_block ?_ | refine wc_exit rfl ?_ | (show WL _ _ (_ :: _) _ _ _ _; first | refine yl_v rfl rfl rfl ?_ | refine wl_v rfl rfl rfl (by first  | fail) ?_ | refine xl_buildSlice rfl (fun _ => ?_)) | refine wc_ret rfl ?_)
  refine wl_callY (b := bj) (H := []) rfl Tryz.call15 rfl rfl rfl rfl (fun w hw => jpairs_ok hJ (by decide) hsB [47, 99, 97, 115, 47, 108, 111, 103, 105, 110] false (by decide) hw) ?_
  rintro v4 M4 _ hm4 hn4 ⟨rfl, hP⟩
  rw [aw4] at hP
  have hJ4 := hJ.mono hm4 (fun _ _ _ h => h)
  obtain ⟨a4, c4, _, _, _, _, _, rfl, _⟩ := hP.open
  repeat' (first | refine wc_seq ?_ | refine wc_region ?_ | refine wl_nil ?_ | refine wn_seq ?_ | refine wn_blk ?_ | refine wc_skip ?_ | refine wc_block ?_ | refine wc_exit rfl ?_ | (show WL _ _ (_ :: _) _ _ _ _; first | refine yl_v rfl rfl rfl ?_ | refine wl_v rfl rfl rfl (by first  | fail) ?_ | refine xl_buildSlice rfl (fun _ => ?_)) | refine wc_ret rfl ?_)
  refine wl_callY (b := bj) (H := []) rfl Tryz.call15 rfl rfl rfl rfl (fun w hw => jpairs_ok hJ4 (by decide) hsB [47, 99, 97, 115, 116, 108, 101] false (by decide) hw) ?_
  rintro v5 M5 _ hm5 hn5 ⟨rfl, hP5⟩
  rw [aw5] at hP5
  obtain ⟨a5, c5, _, _, _, _, _, rfl, _⟩ := hP5.open
  have hS5 := ((hS.mono hm2 (fun _ _ _ h => h)).mono hm3 (fun _ _ _ h => h)).mono hm4 (fun _ _ _ h => h)
  have hS5 := hS5.mono hm5 (fun _ _ _ h => h)
  repeat' (first | refine wc_seq ?_ | refine wc_region ?_ | refine wl_nil ?_ | refine wn_seq ?_ | refine wn_blk ?_ | refine wc_skip ?_ | refine wc_block ?_ | refine wc_exit rfl ?_ | (show WL _ _ (_ :: _) _ _ _ _; first | refine yl_v rfl rfl rfl ?_ | refine wl_v rfl rfl rfl (by first  | fail) ?_ | refine xl_buildSlice rfl (fun _ => ?_)) | refine wc_ret rfl ?_)
  rename_i b43
  refine wl_weak (C' := St w [] ([(b43, .cells (cellsP [([97], [49]), ([98], []), ([99], [120, 61, 121])]).toArray 41 (0, 0))] ++ [(bj, jarO jv)]) M5) (Eng.Sub.refl _) (fun _ h => h) ?_
  refine wl_publish fun hnew => ?_
  have hL := slP_lit (M := With M5 [(b43, .cells (cellsP [([97], [49]), ([98], []), ([99], [120, 61, 121])]).toArray 41 (0, 0))]) (e := 41) (b := b43) (l := [([97], [49]), ([98], []), ([99], [120, 61, 121])]) (.inr (List.mem_singleton.2 rfl)) (by decide)
  have hS6 := hS5.mono (M' := With M5 [(b43, .cells (cellsP [([97], [49]), ([98], []), ([99], [120, 61, 121])]).toArray 41 (0, 0))]) (fun _ _ => .inl) (fun _ _ _ h => h)
  have hpr := fun {w : World} (hw : Laid (With M5 [(b43, .cells (cellsP [([97], [49]), ([98], []), ([99], [120, 61, 121])]).toArray 41 (0, 0))]) w) => pairs_ok hw hS6 hL
  rw [decide_eq_true rfl] at hpr
  repeat' (first | refine wc_seq ?_ | refine wc_region ?_ | refine wl_nil ?_ | refine wn_seq ?_ | refine wn_blk ?_ | refine wc_skip ?_ | refine wc_block ?_ | refine wc_exit rfl ?_ | (show WL _ _ (_ :: _) _ _ _ _; first | refine yl_v rfl rfl rfl ?_ | refine wl_v rfl rfl rfl (by first | ((show OpV _ _ _ _ (Oper.mk _ (Op.call ⟨.value (.func 16), _, _⟩) _ _ _ _) _ _; exact ov_call Tryz.call16 rfl (by intro himp; first | rfl | (simp_all; done)) (by rfl) (fun _ _ h k => h.ext k) (fun hcg w hw => hpr hw.laid))) | fail) ?_ | refine xl_buildSlice rfl (fun _ => ?_)) | refine wc_ret rfl ?_)
  exact wr_weak (fun _ h => h.drop (List.nil_sublist _)) (wr_tmp rfl rfl rfl)
end Go.Proofs.YtmfelfhingmmbaaGreatDoor
/-
  The document's Set, number, Read of cookies.
-/
namespace Go.Ck
open Go.Pct Go.Txt Go.Proofs.YtmfelfhingmmbaaGreatDoor
open Go.Url (digC valD)
theorem valD_nx {s : List UInt8} {i : Nat} (h : i < s.length) : valD (s.take (i + 1)) = 10 * valD (s.take i) + ((s.getD i 0).toNat - 48) := by
  rw [Txt.take_getD h, Url.valD_end]
theorem pre_len {p r : List UInt8} {n : Nat} (hp : p.length = n) : p.isPrefixOf r = true ↔ (n ≤ r.length ∧ r.take n = p) := by
  rw [List.isPrefixOf_iff_prefix]
  constructor
  · rintro ⟨t, rfl⟩
    rw [← hp]
    exact ⟨by simp, by simp⟩
  · rintro ⟨_, h⟩
    rw [← h]; exact List.take_prefix _ _
end Go.Ck
namespace Go.Proofs.YtmfelfhingmmbaaGreatDoor
open Go.Eng Go.Pct Go.Txt Go.Ck
open Go.Rsp (tokC tokenB)
open Go.Url (digC valD)
set_option maxRecDepth 10000
set_option linter.unusedSimpArgs false
set_option linter.unusedVariables false
variable {M : Ghost} {w0 w : World} {bs : List Nat} {H : List (Nat × Obj)}
theorem dig_cv (n : Nat) : 48 + (n : Int) % 10 = ((48 + n % 10 : Nat) : Int) := by omega
theorem digits_ok (hM : Laid M w) (n : Nat) (hn : n ≤ 9223372036854775807) : Calls Tryz.prog 19 #[i64 (n : Int)] w (RetE w (str (Lib.decDigits n))) := by
  refine calls_st (l := [i64 (n : Int)]) hM Tryz.func19 rfl rfl rfl (E0 := [(0, true, i64 (n : Int))]) (params_cons rfl (params_nil _)) ?_
  repeat' (first | (first | refine wc_seq ?_ | refine wc_region ?_ | refine wl_nil ?_ | refine wn_seq ?_ | refine wn_blk ?_ | refine wc_skip ?_ | refine wc_block ?_ | refine wc_exit rfl ?_ | (show WL _ _ (_ :: _) _ _ _ _; first | refine yl_v rfl rfl rfl ?_ | refine wl_v rfl rfl rfl (by first  | fail) ?_ | refine xl_buildSlice rfl (fun _ => ?_)) | refine wc_ret rfl ?_) | (show WC _ (Code.cond _ _ _) _ _ _ _; (refine wc_cond rfl (fun hc => ?_) (fun hc => ?_) <;> (try (simp only [decide_eq_true_eq, decide_eq_false_iff_not, Bool.and_eq_true, Bool.or_eq_true, Bool.and_eq_false_iff, Bool.or_eq_false_iff, Bool.not_eq_true', Bool.not_eq_false', Int.not_lt, Int.not_le] at hc)) <;> (try (exfalso; first | omega | contradiction)))))
  refine wc_loop (α := { x : Nat × List UInt8 // Lib.decDigits n = Lib.decDigits x.1 ++ x.2 ∧ x.1 * 10 ^ x.2.length ≤ n ∧ (x.2 = [] ∨ 1 ≤ x.1) }) (fun x => [(0, true, i64 (x.1.1 : Int)), (3, true, str x.1.2)]) (fun _ => St w [] [] M) (fun x => x.1.1) ⟨(n, []), by simp, by simp, .inl rfl⟩ (by first | exact Sub.nil _ | (repeat (first | exact Sub.nil _ | refine Sub.cons (by first | rfl | (simp [look]; done)) ?_))) (fun _ h => h) ?_
  rintro ⟨⟨m, s⟩, h1, h2, h3⟩
  dsimp only at h1 h2 h3 ⊢
  have hmn : m ≤ n := Nat.le_trans (Nat.le_mul_of_pos_right m (Nat.pow_pos (by decide))) h2
  have hsl : s.length ≤ 20 := by
    rcases h3 with rfl | h3
    · simp
    · rcases Nat.lt_or_ge 20 s.length with h | h
      · exfalso
        have h4 : 10 ^ 21 ≤ 10 ^ s.length := Nat.pow_le_pow_right (by decide) h
        have h5 : 1 * 10 ^ s.length ≤ m * 10 ^ s.length := Nat.mul_le_mul_right _ h3
        have h6 : (10 : Nat) ^ 21 = 1000000000000000000000 := by decide
        omega
      · exact h
  repeat' (first | (first | refine wc_seq ?_ | refine wc_region ?_ | refine wl_nil ?_ | refine wn_seq ?_ | refine wn_blk ?_ | refine wc_skip ?_ | refine wc_block ?_ | refine wc_exit rfl ?_ | (show WL _ _ (_ :: _) _ _ _ _; first | refine yl_v rfl rfl rfl ?_ | refine wl_v rfl rfl rfl (by first  | fail) ?_ | refine xl_buildSlice rfl (fun _ => ?_)) | refine wc_ret rfl ?_) | (show WC _ (Code.cond _ _ _) _ _ _ _; (refine wc_cond rfl (fun hc => ?_) (fun hc => ?_) <;> (try (simp only [decide_eq_true_eq, decide_eq_false_iff_not, Bool.and_eq_true, Bool.or_eq_true, Bool.and_eq_false_iff, Bool.or_eq_false_iff, Bool.not_eq_true', Bool.not_eq_false', Int.not_lt, Int.not_le] at hc)) <;> (try (exfalso; first | omega | contradiction)))))
  · refine wn_cut ⟨(m / 10, UInt8.ofNat (48 + m % 10) :: s), ?_, ?_, .inr (by show 1 ≤ m / 10; omega)⟩ (by show m / 10 < m; omega) (Eng.Sub.cons ?_ (Eng.Sub.cons ?_ (Eng.Sub.nil _))) (fun _ h => h.drop (by repeat (first | exact List.Sublist.refl _ | apply List.Sublist.cons)))
    · rw [h1, Lib.decDigits, dif_neg (by omega)]; simp
    · show m / 10 * 10 ^ (s.length + 1) ≤ n
      rw [Nat.pow_succ, Nat.mul_comm (10 ^ s.length) 10, ← Nat.mul_assoc]
      exact Nat.le_trans (Nat.mul_le_mul_right _ (Nat.div_mul_le_self m 10)) h2
    · simp only [look]; rfl
    · simp only [look]
      have e : UInt8.ofNat (48 + (m : Int) % 10).toNat = UInt8.ofNat (48 + m % 10) := by congr 1
      rw [e]; rfl
  · refine wr_tmp rfl rfl ?_
    rw [h1, Lib.decDigits, dif_pos (by omega)]
    have e : UInt8.ofNat (48 + (m : Int)).toNat = UInt8.ofNat (48 + m) := by congr 1
    rw [e]
set_option maxHeartbeats 1000000 in
theorem rset_ok (hM : Laid M w) (c : Ckie) (h : SmW c) : Calls Tryz.prog 7 #[.agg (ckCells c).toArray] w (RetE w (.tuple #[str (setP c).1, i64 (setP c).2])) := by
  have hri := fun {w : World} (hw : Laid M w) => rrightC_ok hw c h.sm
  have hck : ckCells c = [str c.name, str c.value, str c.path, i64 c.age, .bool c.secure, .bool c.http] := rfl
  obtain ⟨g1, g2, g3⟩ := h
  unfold setP
  rw [hck] at hri ⊢
  refine calls_st (l := [.agg [str c.name, str c.value, str c.path, i64 c.age, .bool c.secure, .bool c.http].toArray]) hM Tryz.func7 rfl rfl rfl (E0 := [(0, true, .agg [str c.name, str c.value, str c.path, i64 c.age, .bool c.secure, .bool c.http].toArray)]) (params_cons rfl (params_nil _)) ?_
  repeat' (first | refine wc_seq ?_ | refine wc_region ?_ | refine wl_nil ?_ | refine wn_seq ?_ | refine wn_blk ?_ | refine wc_skip ?_ | refine wc_block ?_ | refine wc_exit rfl ?_ | (show WL _ _ (_ :: _) _ _ _ _; first | refine yl_v rfl rfl rfl ?_ | refine wl_v rfl rfl rfl (by first | ((show OpV _ _ _ _ (Oper.mk _ (Op.call ⟨.value (.func 11), _, _⟩) _ _ _ _) _ _; exact ov_call Tryz.call11 rfl (by intro himp; first | rfl | (simp_all; done)) (by rfl) (fun _ _ h k => h.ext k) (fun hcg w hw => hri hw.laid))) | fail) ?_ | refine xl_box rfl (fun _ => ?_)) | refine wc_ret rfl ?_)
  rename_i b1
  refine wc_cond rfl (fun hc => ?_) (fun hc => ?_)
  · have hno : ¬ rightC c = true := by simpa using hc
    repeat' (first | refine wc_seq ?_ | refine wc_region ?_ | refine wl_nil ?_ | refine wn_seq ?_ | refine wn_blk ?_ | refine wc_skip ?_ | refine wc_block ?_ | refine wc_exit rfl ?_ | (show WL _ _ (_ :: _) _ _ _ _; first | refine yl_v rfl rfl rfl ?_ | refine wl_v rfl rfl rfl (by first  | fail) ?_ | refine xl_box rfl (fun _ => ?_)) | refine wc_ret rfl ?_)
    rw [if_neg hno]
    exact wr_weak (fun _ h => h.drop (List.nil_sublist _)) (wr_tmp2 rfl rfl rfl rfl rfl)
  have hyes : rightC c = true := by simpa using hc
  rw [if_pos hyes]
  clear hc
  have hag := (right_parts hyes).2.2.2.2.2
  have hal := ageT_len c.age hag
  repeat' (first | refine wc_seq ?_ | refine wc_region ?_ | refine wl_nil ?_ | refine wn_seq ?_ | refine wn_blk ?_ | refine wc_skip ?_ | refine wc_block ?_ | refine wc_exit rfl ?_ | (show WL _ _ (_ :: _) _ _ _ _; first | refine yl_v rfl rfl rfl ?_ | refine wl_v rfl rfl rfl (by first  | fail) ?_ | refine xl_box rfl (fun _ => ?_)) | refine wc_ret rfl ?_)
  refine wc_split (α := { t : List UInt8 // t = c.name ++ [61] ++ c.value ++ sPath ++ c.path ++ ageT c.age ∧ t.length ≤ 300000100 }) (fun x => [(1, true, .pointer (some ⟨b1, 0, none⟩)), (5, true, str x.1)]) (fun _ => St w [] [(b1, .cells [str c.name, str c.value, str c.path, i64 c.age, .bool c.secure, .bool c.http].toArray 23 (0, 0))] M) ?_ ?_
  · refine wc_cond rfl (fun hc => ?_) (fun hc => ?_)
    · have h0 : 0 ≤ c.age := by simpa using hc
      obtain ⟨n, hn⟩ : ∃ n : Nat, c.age = (n : Int) := ⟨c.age.toNat, by omega⟩
      have hdi := fun {w : World} (hw : Laid M w) => digits_ok hw n (by omega)
      rw [← hn] at hdi
      have hdl := Url.dec_five 7 n (by omega)
      have e2 : ageT c.age = sAge ++ Lib.decDigits n := by unfold ageT; rw [if_pos h0, hn, Int.toNat_natCast]
      repeat' (first | refine wc_seq ?_ | refine wc_region ?_ | refine wl_nil ?_ | refine wn_seq ?_ | refine wn_blk ?_ | refine wc_skip ?_ | refine wc_block ?_ | refine wc_exit rfl ?_ | (show WL _ _ (_ :: _) _ _ _ _; first | refine yl_v rfl rfl rfl ?_ | refine wl_v rfl rfl rfl (by first | ((show OpV _ _ _ _ (Oper.mk _ (Op.call ⟨.value (.func 19), _, _⟩) _ _ _ _) _ _; exact ov_call Tryz.call19 rfl (by intro himp; first | rfl | (simp_all; done)) (by rfl) (fun _ _ h k => h.ext k) (fun hcg w hw => hdi hw.laid))) | fail) ?_ | refine xl_box rfl (fun _ => ?_)) | refine wc_ret rfl ?_)
      refine wn_cut ⟨c.name ++ [61] ++ c.value ++ sPath ++ c.path ++ sAge ++ Lib.decDigits n, by rw [e2]; simp only [List.append_assoc], ?_⟩ trivial (by first | exact Sub.nil _ | (repeat (first | exact Sub.nil _ | refine Sub.cons (by first | rfl | (simp [look]; done)) ?_))) (fun _ h => h)
      have e4 : sPath.length = 7 := rfl
      have e5 : sAge.length = 10 := rfl
      simp only [List.length_append, List.length_cons, List.length_nil]; omega
    · have h0 : ¬ 0 ≤ c.age := by simp at hc; omega
      have e2 : ageT c.age = [] := by unfold ageT; rw [if_neg h0]
      repeat' (first | refine wc_seq ?_ | refine wc_region ?_ | refine wl_nil ?_ | refine wn_seq ?_ | refine wn_blk ?_ | refine wc_skip ?_ | refine wc_block ?_ | refine wc_exit rfl ?_ | (show WL _ _ (_ :: _) _ _ _ _; first | refine yl_v rfl rfl rfl ?_ | refine wl_v rfl rfl rfl (by first  | fail) ?_ | refine xl_box rfl (fun _ => ?_)) | refine wc_ret rfl ?_)
      refine wn_cut ⟨c.name ++ [61] ++ c.value ++ sPath ++ c.path, by rw [e2, List.append_nil], ?_⟩ trivial (by first | exact Sub.nil _ | (repeat (first | exact Sub.nil _ | refine Sub.cons (by first | rfl | (simp [look]; done)) ?_))) (fun _ h => h)
      have e4 : sPath.length = 7 := rfl
      simp only [List.length_append, List.length_cons, List.length_nil]; omega
  rintro ⟨t, ht, htl⟩
  dsimp only
  repeat' (first | refine wc_seq ?_ | refine wc_region ?_ | refine wl_nil ?_ | refine wn_seq ?_ | refine wn_blk ?_ | refine wc_skip ?_ | refine wc_block ?_ | refine wc_exit rfl ?_ | (show WL _ _ (_ :: _) _ _ _ _; first | refine yl_v rfl rfl rfl ?_ | refine wl_v rfl rfl rfl (by first  | fail) ?_ | refine xl_box rfl (fun _ => ?_)) | refine wc_ret rfl ?_)
  refine wc_split (α := { r : List UInt8 // r = t ++ secT c.secure ∧ r.length ≤ 300000200 }) (fun x => [(1, true, .pointer (some ⟨b1, 0, none⟩)), (5, true, str x.1)]) (fun _ => St w [] [(b1, .cells [str c.name, str c.value, str c.path, i64 c.age, .bool c.secure, .bool c.http].toArray 23 (0, 0))] M) ?_ ?_
  · refine wc_cond rfl (fun hc => ?_) (fun hc => ?_)
    · repeat' (first | refine wc_seq ?_ | refine wc_region ?_ | refine wl_nil ?_ | refine wn_seq ?_ | refine wn_blk ?_ | refine wc_skip ?_ | refine wc_block ?_ | refine wc_exit rfl ?_ | (show WL _ _ (_ :: _) _ _ _ _; first | refine yl_v rfl rfl rfl ?_ | refine wl_v rfl rfl rfl (by first  | fail) ?_ | refine xl_box rfl (fun _ => ?_)) | refine wc_ret rfl ?_)
      exact wn_cut ⟨t ++ sSec, by rw [hc]; rfl, by have e : sSec.length = 8 := rfl
                                                   rw [List.length_append]; omega⟩ trivial (by first | exact Sub.nil _ | (repeat (first | exact Sub.nil _ | refine Sub.cons (by first | rfl | (simp [look]; done)) ?_))) (fun _ h => h)
    · repeat' (first | refine wc_seq ?_ | refine wc_region ?_ | refine wl_nil ?_ | refine wn_seq ?_ | refine wn_blk ?_ | refine wc_skip ?_ | refine wc_block ?_ | refine wc_exit rfl ?_ | (show WL _ _ (_ :: _) _ _ _ _; first | refine yl_v rfl rfl rfl ?_ | refine wl_v rfl rfl rfl (by first  | fail) ?_ | refine xl_box rfl (fun _ => ?_)) | refine wc_ret rfl ?_)
      exact wn_cut ⟨t, by rw [hc]; exact (List.append_nil _).symm, by omega⟩ trivial (by first | exact Sub.nil _ | (repeat (first | exact Sub.nil _ | refine Sub.cons (by first | rfl | (simp [look]; done)) ?_))) (fun _ h => h)
  rintro ⟨r, hr, hrl⟩
  dsimp only
  have hfin : setC c = r ++ hoT c.http := by
    rw [hr, ht]; unfold setC; simp only [List.append_assoc, List.singleton_append, List.cons_append, List.nil_append]
  rw [hfin]
  repeat' (first | refine wc_seq ?_ | refine wc_region ?_ | refine wl_nil ?_ | refine wn_seq ?_ | refine wn_blk ?_ | refine wc_skip ?_ | refine wc_block ?_ | refine wc_exit rfl ?_ | (show WL _ _ (_ :: _) _ _ _ _; first | refine yl_v rfl rfl rfl ?_ | refine wl_v rfl rfl rfl (by first  | fail) ?_ | refine xl_box rfl (fun _ => ?_)) | refine wc_ret rfl ?_)
  refine wc_cond rfl (fun hc => ?_) (fun hc => ?_)
  · repeat' (first | refine wc_seq ?_ | refine wc_region ?_ | refine wl_nil ?_ | refine wn_seq ?_ | refine wn_blk ?_ | refine wc_skip ?_ | refine wc_block ?_ | refine wc_exit rfl ?_ | (show WL _ _ (_ :: _) _ _ _ _; first | refine yl_v rfl rfl rfl ?_ | refine wl_v rfl rfl rfl (by first  | fail) ?_ | refine xl_box rfl (fun _ => ?_)) | refine wc_ret rfl ?_)
    rw [hc]
    exact wr_weak (fun _ h => h.drop (List.nil_sublist _)) (wr_tmp2 rfl rfl rfl rfl rfl)
  · repeat' (first | refine wc_seq ?_ | refine wc_region ?_ | refine wl_nil ?_ | refine wn_seq ?_ | refine wn_blk ?_ | refine wc_skip ?_ | refine wc_block ?_ | refine wc_exit rfl ?_ | (show WL _ _ (_ :: _) _ _ _ _; first | refine yl_v rfl rfl rfl ?_ | refine wl_v rfl rfl rfl (by first  | fail) ?_ | refine xl_box rfl (fun _ => ?_)) | refine wc_ret rfl ?_)
    rw [hc]
    exact wr_weak (fun _ h => h.drop (List.nil_sublist _)) (wr_tmp2 rfl rfl rfl (congrArg str (List.append_nil _).symm) rfl)
theorem cdig_no (c : UInt8) : ((c.toNat : Int) < 48 ∨ 57 < (c.toNat : Int)) → digC c = false := by revert c; apply all_bytes; decide +kernel
theorem cdig_yes (c : UInt8) : (48 ≤ (c.toNat : Int) ∧ (c.toNat : Int) ≤ 57) → digC c = true := by revert c; apply all_bytes; decide +kernel
theorem number_ok (hM : Laid M w) (s : List UInt8) (hs : s.length ≤ 9223372036854775807) : Calls Tryz.prog 23 #[str s] w (RetE w (i64 (numP s))) := by
  refine calls_st (l := [str s]) hM Tryz.func23 rfl rfl rfl (E0 := [(0, true, str s)]) (params_cons rfl (params_nil _)) ?_
  repeat' (first | refine wc_seq ?_ | refine wc_region ?_ | refine wl_nil ?_ | refine wn_seq ?_ | refine wn_blk ?_ | refine wc_skip ?_ | refine wc_block ?_ | refine wc_exit rfl ?_ | (show WL _ _ (_ :: _) _ _ _ _; first | refine yl_v rfl rfl rfl ?_ | refine wl_v rfl rfl rfl (by first  | fail) ?_) | refine wc_ret rfl ?_)
  refine wc_loop (α := { i : Nat // i ≤ s.length ∧ i ≤ 9 ∧ (∀ j, j < i → digC (s.getD j 0) = true) ∧ valD (s.take i) + 1 ≤ 10 ^ i }) (fun x => [(0, true, str s), (3, true, i64 (valD (s.take x.1) : Int)), (4, true, i64 (x.1 : Int))]) (fun _ => St w [] [] M) (fun x => s.length - x.1) ⟨0, Nat.zero_le _, by decide, fun j hj => absurd hj (by omega), by simp [valD]⟩ (by first | exact Sub.nil _ | (repeat (first | exact Sub.nil _ | refine Sub.cons (by first | rfl | (simp [look]; done)) ?_))) (fun _ h => h) ?_
  rintro ⟨i, hi, hi9, hall, hv⟩
  dsimp only
  have h9 : 10 ^ i ≤ 10 ^ 9 := Nat.pow_le_pow_right (by decide) hi9
  have h99 : (10 : Nat) ^ 9 = 1000000000 := by decide
  by_cases hlt : i < s.length
  · have hnx := valD_nx hlt
    have hu := u8_lt (s.getD i 0)
    repeat' (first | refine wc_seq ?_ | refine wc_region ?_ | refine wl_nil ?_ | refine wn_seq ?_ | refine wn_blk ?_ | refine wc_skip ?_ | refine wc_block ?_ | refine wc_exit rfl ?_ | (show WL _ _ (_ :: _) _ _ _ _; first | refine yl_v rfl rfl rfl ?_ | refine wl_v rfl rfl rfl (by first  | fail) ?_) | refine wc_ret rfl ?_)
    refine wc_cond rfl (fun hc => ?_) (fun hc => by exfalso; simp at hc; omega)
    clear hc
    repeat' (first | refine wc_seq ?_ | refine wc_region ?_ | refine wl_nil ?_ | refine wn_seq ?_ | refine wn_blk ?_ | refine wc_skip ?_ | refine wc_block ?_ | refine wc_exit rfl ?_ | (show WL _ _ (_ :: _) _ _ _ _; first | refine yl_v rfl rfl rfl ?_ | refine wl_v rfl rfl rfl (by first  | fail) ?_) | refine wc_ret rfl ?_)
    refine wc_cond rfl (fun hc => ?_) (fun hc => ?_)
    · (simp only [decide_eq_true_eq, decide_eq_false_iff_not, Bool.and_eq_true, Bool.or_eq_true, Bool.and_eq_false_iff, Bool.or_eq_false_iff, Bool.not_eq_true', Bool.not_eq_false', Int.not_lt, Int.not_le] at hc)
      have hno : numP s = -1 := by
        unfold numP
        rw [if_neg]
        rintro ⟨p1, p2, _⟩
        rcases hc with hc | hc
        · rw [all_no2 (p := digC) hlt (cdig_no _ hc)] at p1; cases p1
        · omega
      rw [hno]
      repeat' (first | refine wc_seq ?_ | refine wc_region ?_ | refine wl_nil ?_ | refine wn_seq ?_ | refine wn_blk ?_ | refine wc_skip ?_ | refine wc_block ?_ | refine wc_exit rfl ?_ | (show WL _ _ (_ :: _) _ _ _ _; first | refine yl_v rfl rfl rfl ?_ | refine wl_v rfl rfl rfl (by first  | fail) ?_) | refine wc_ret rfl ?_)
      exact wr_tmp rfl rfl rfl
    · (simp only [decide_eq_true_eq, decide_eq_false_iff_not, Bool.and_eq_true, Bool.or_eq_true, Bool.and_eq_false_iff, Bool.or_eq_false_iff, Bool.not_eq_true', Bool.not_eq_false', Int.not_lt, Int.not_le] at hc)
      have hd := cdig_yes (s.getD i 0) ⟨by omega, by omega⟩
      repeat' (first | refine wc_seq ?_ | refine wc_region ?_ | refine wl_nil ?_ | refine wn_seq ?_ | refine wn_blk ?_ | refine wc_skip ?_ | refine wc_block ?_ | refine wc_exit rfl ?_ | (show WL _ _ (_ :: _) _ _ _ _; first | refine yl_v rfl rfl rfl ?_ | refine wl_v rfl rfl rfl (by first  | fail) ?_) | refine wc_ret rfl ?_)
      refine wn_cut ⟨i + 1, by omega, by omega, fun j hj => ?_, ?_⟩ (by show s.length - (i + 1) < s.length - i; omega) (Eng.Sub.cons rfl (Eng.Sub.cons ?_ (by first | exact Sub.nil _ | (repeat (first | exact Sub.nil _ | refine Sub.cons (by first | rfl | (simp [look]; done)) ?_))))) (fun _ h => h)
      · by_cases e : j = i
        · subst e; exact hd
        · exact hall j (by omega)
      · rw [hnx, Nat.pow_succ]; omega
      · show some (true, Value.int .i64 (10 * (valD (s.take i) : Int) + (((s.getD i 0).toNat : Int) - 48))) = some (true, i64 (valD (s.take (i + 1)) : Int))
        rw [hnx]
        have : (10 * (valD (s.take i) : Int) + (((s.getD i 0).toNat : Int) - 48)) = ((10 * valD (s.take i) + ((s.getD i 0).toNat - 48) : Nat) : Int) := by omega
        rw [this]
  obtain rfl : i = s.length := by omega
  rw [List.take_length]
  have hda := all_getD (p := digC) (s := s) hall
  repeat' (first | refine wc_seq ?_ | refine wc_region ?_ | refine wl_nil ?_ | refine wn_seq ?_ | refine wn_blk ?_ | refine wc_skip ?_ | refine wc_block ?_ | refine wc_exit rfl ?_ | (show WL _ _ (_ :: _) _ _ _ _; first | refine yl_v rfl rfl rfl ?_ | refine wl_v rfl rfl rfl (by first  | fail) ?_) | refine wc_ret rfl ?_)
  refine wc_cond rfl (fun hc => by exfalso; simp at hc) (fun hc => ?_)
  clear hc
  cases s with
  | nil =>
    repeat' (first | refine wc_seq ?_ | refine wc_region ?_ | refine wl_nil ?_ | refine wn_seq ?_ | refine wn_blk ?_ | refine wc_skip ?_ | refine wc_block ?_ | refine wc_exit rfl ?_ | (show WL _ _ (_ :: _) _ _ _ _; first | refine yl_v rfl rfl rfl ?_ | refine wl_v rfl rfl rfl (by first | (show OpV _ _ _ _ (Oper.mk _ (Op.index _ _ _) _ _ _ _) _ _; exact ov_off (v := byt 0) rfl) | fail) ?_) | refine wc_ret rfl ?_)
    refine wc_cond rfl (fun hc => ?_) (fun hc => by exfalso; cases hc)
    repeat' (first | refine wc_seq ?_ | refine wc_region ?_ | refine wl_nil ?_ | refine wn_seq ?_ | refine wn_blk ?_ | refine wc_skip ?_ | refine wc_block ?_ | refine wc_exit rfl ?_ | (show WL _ _ (_ :: _) _ _ _ _; first | refine yl_v rfl rfl rfl ?_ | refine wl_v rfl rfl rfl (by first  | fail) ?_) | refine wc_ret rfl ?_)
    exact wr_tmp rfl rfl rfl
  | cons x r =>
    repeat' (first | refine wc_seq ?_ | refine wc_region ?_ | refine wl_nil ?_ | refine wn_seq ?_ | refine wn_blk ?_ | refine wc_skip ?_ | refine wc_block ?_ | refine wc_exit rfl ?_ | (show WL _ _ (_ :: _) _ _ _ _; first | refine yl_v rfl rfl rfl ?_ | refine wl_v rfl rfl rfl (by first | (show OpV _ _ _ _ (Oper.mk _ (Op.index _ _ _) _ _ _ _) _ _; exact ov_sindex (s := x :: r) (i := 0) rfl rfl rfl (by first | with_reducible exact fun _ => rfl | with_reducible exact fun h => h | exact fun _ => rfl | exact fun h => h | (intro himp; simp_all; done)) (by first | with_reducible exact fun _ => rfl | with_reducible exact fun h => h | exact fun _ => rfl | exact fun h => h | (intro himp; simp_all; done)) rfl (fun _ => by simp)) | fail) ?_) | refine wc_ret rfl ?_)
    refine wc_cond rfl (fun hc => ?_) (fun hc => ?_)
    · have hno : numP (x :: r) = -1 := by
        unfold numP
        rw [if_neg]
        rintro ⟨_, _, _, p4⟩
        apply p4
        simp at hc
        exact ⟨by simp only [List.length_cons]; omega, by have := (getD_cast x 48).1 hc.2; rw [this]; rfl⟩
      rw [hno]
      repeat' (first | refine wc_seq ?_ | refine wc_region ?_ | refine wl_nil ?_ | refine wn_seq ?_ | refine wn_blk ?_ | refine wc_skip ?_ | refine wc_block ?_ | refine wc_exit rfl ?_ | (show WL _ _ (_ :: _) _ _ _ _; first | refine yl_v rfl rfl rfl ?_ | refine wl_v rfl rfl rfl (by first  | fail) ?_) | refine wc_ret rfl ?_)
      exact wr_tmp rfl rfl rfl
    · have hyes : numP (x :: r) = (valD (x :: r) : Int) := by
        unfold numP
        rw [if_pos]
        refine ⟨hda, hi9, by simp, ?_⟩
        rintro ⟨p1, p2⟩
        rw [List.head?_cons] at p2
        injection p2 with p2
        subst p2
        simp at hc p1
        omega
      rw [hyes]
      repeat' (first | refine wc_seq ?_ | refine wc_region ?_ | refine wl_nil ?_ | refine wn_seq ?_ | refine wn_blk ?_ | refine wc_skip ?_ | refine wc_block ?_ | refine wc_exit rfl ?_ | (show WL _ _ (_ :: _) _ _ _ _; first | refine yl_v rfl rfl rfl ?_ | refine wl_v rfl rfl rfl (by first  | fail) ?_) | refine wc_ret rfl ?_)
      exact wr_tmp rfl rfl rfl
end Go.Proofs.YtmfelfhingmmbaaGreatDoor
/-
  The document's Read of cookies; the statement CookieSets.
-/
namespace Go.Proofs.YtmfelfhingmmbaaGreatDoor
open Go.Eng Go.Pct Go.Txt Go.Ck
open Go.Rsp (tokC tokenB)
open Go.Url (digC valD)
set_option maxRecDepth 10000
set_option linter.unusedSimpArgs false
set_option linter.unusedVariables false
variable {M : Ghost} {w0 w : World} {bs : List Nat} {H : List (Nat × Obj)}
theorem resCk_s (c : Ckie) : resCk (some c) = .tuple #[.agg [str c.name, str c.value, str c.path, i64 c.age, .bool c.secure, .bool c.http].toArray, i64 0] := rfl
theorem resCk_n : resCk none = .tuple #[.agg [str [], str [], str [], i64 0, .bool false, .bool false].toArray, i64 10] := rfl
theorem stop_at {t : List UInt8} {k : Nat} {c : UInt8} {n : Int} (hcn : ∀ x : UInt8, (x.toNat : Int) = n ↔ x = c) (hk : k ≤ t.length) (hc : (decide ((k : Int) < (t.length : Int)) && !decide (((t.getD k 0).toNat : Int) = n)) = false) : k = t.length ∨ t.getD k 0 = c := by
  rcases Nat.lt_or_ge k t.length with h' | h'
  · right
    rw [decide_eq_true (show (k : Int) < (t.length : Int) by omega), Bool.true_and] at hc
    simp only [Bool.not_eq_false', decide_eq_true_eq] at hc
    exact (hcn _).1 hc
  · left; omega
theorem guard_lt {n m : Nat} (h : (bif true then decide ((n : Int) < (m : Int)) == false else false) = true) : m ≤ n := by
  simp at h; omega
theorem guard_le {n m : Nat} (h : (bif true then decide ((m : Int) ≤ (n : Int)) == true else false) = true) : m ≤ n := by
  simp at h; omega
set_option maxHeartbeats 4000000 in
theorem rread_ok (hM : Laid M w) (s : List UInt8) (hs : s.length ≤ 1000000) : Calls Tryz.prog 9 #[str s] w (RetE w (resCk (readP s))) := by
  refine calls_st (l := [str s]) hM Tryz.func9 rfl rfl rfl (E0 := [(0, true, str s)]) (params_cons rfl (params_nil _)) ?_
  repeat' (first | refine wc_seq ?_ | refine wc_region ?_ | refine wl_nil ?_ | refine wn_seq ?_ | refine wn_blk ?_ | refine wc_skip ?_ | refine wc_block ?_ | refine wc_exit rfl ?_ | (show WL _ _ (_ :: _) _ _ _ _; first | refine yl_v rfl rfl rfl ?_ | refine wl_v rfl rfl rfl (by first  | fail) ?_ | refine xl_alloc (fun _ => ?_) | refine xl_store rfl rfl ?_) | refine wc_ret rfl ?_)
  rename_i b2 b4
  refine wc_loop (α := { k : Nat // k ≤ s.length ∧ ∀ j, j < k → s.getD j 0 ≠ 61 }) (fun x => [(0, true, str s), (2, true, .pointer (some ⟨b2, 0, none⟩)), (4, true, .pointer (some ⟨b4, 0, none⟩)), (5, true, i64 (x.1 : Int))]) (fun _ => St w [] [(b4, .cells [str [], str [], str [], i64 (-1), .bool false, .bool false].toArray 23 (0, 0)), (b2, .cells [str [], str [], str [], i64 0, .bool false, .bool false].toArray 23 (0, 0))] M) (fun x => s.length - x.1) ⟨0, Nat.zero_le _, fun j hj => absurd hj (by omega)⟩ (by first | exact Sub.nil _ | (repeat (first | exact Sub.nil _ | refine Sub.cons (by first | rfl | (simp [look]; done)) ?_))) (fun _ h => h) ?_
  rintro ⟨k, hk, hall⟩
  dsimp only
  repeat' (first | refine wc_seq ?_ | refine wc_region ?_ | refine wl_nil ?_ | refine wn_seq ?_ | refine wn_blk ?_ | refine wc_skip ?_ | refine wc_block ?_ | refine wc_exit rfl ?_ | (show WL _ _ (_ :: _) _ _ _ _; first | refine yl_v rfl rfl rfl ?_ | refine wl_v rfl rfl rfl (by first  | fail) ?_ | refine xl_alloc (fun _ => ?_) | refine xl_store rfl rfl ?_) | refine wc_ret rfl ?_)
  refine wc_cond rfl (fun hc => ?_) (fun hc => ?_)
  · (simp only [decide_eq_true_eq, decide_eq_false_iff_not, Bool.and_eq_true, Bool.or_eq_true, Bool.and_eq_false_iff, Bool.or_eq_false_iff, Bool.not_eq_true', Bool.not_eq_false', Int.not_lt, Int.not_le] at hc)
    repeat' (first | refine wc_seq ?_ | refine wc_region ?_ | refine wl_nil ?_ | refine wn_seq ?_ | refine wn_blk ?_ | refine wc_skip ?_ | refine wc_block ?_ | refine wc_exit rfl ?_ | (show WL _ _ (_ :: _) _ _ _ _; first | refine yl_v rfl rfl rfl ?_ | refine wl_v rfl rfl rfl (by first  | fail) ?_ | refine xl_alloc (fun _ => ?_) | refine xl_store rfl rfl ?_) | refine wc_ret rfl ?_)
    refine wn_cut ⟨k + 1, by omega, fun j hj => ?_⟩ (by show s.length - (k + 1) < s.length - k; omega) (by first | exact Sub.nil _ | (repeat (first | exact Sub.nil _ | refine Sub.cons (by first | rfl | (simp [look]; done)) ?_))) (fun _ h => h)
    by_cases e : j = k
    · subst e; exact fun h => hc.2 ((getD_cast _ 61).2 h)
    · exact hall j (by omega)
  have hid := idx_eq hk hall (stop_at (fun x => getD_cast x 61) hk hc)
  clear hc hall
  unfold readP
  rw [hid]
  repeat' (first | refine wc_seq ?_ | refine wc_region ?_ | refine wl_nil ?_ | refine wn_seq ?_ | refine wn_blk ?_ | refine wc_skip ?_ | refine wc_block ?_ | refine wc_exit rfl ?_ | (show WL _ _ (_ :: _) _ _ _ _; first | refine yl_v rfl rfl rfl ?_ | refine wl_v rfl rfl rfl (by first  | fail) ?_ | refine xl_alloc (fun _ => ?_) | refine xl_store rfl rfl ?_) | refine wc_ret rfl ?_)
  refine wc_cond rfl (fun hc => ?_) (fun hc => ?_)
  · have hke : ¬ k < s.length := by simp at hc; omega
    rw [if_neg hke, resCk_n]
    repeat' (first | refine wc_seq ?_ | refine wc_region ?_ | refine wl_nil ?_ | refine wn_seq ?_ | refine wn_blk ?_ | refine wc_skip ?_ | refine wc_block ?_ | refine wc_exit rfl ?_ | (show WL _ _ (_ :: _) _ _ _ _; first | refine yl_v rfl rfl rfl ?_ | refine wl_v rfl rfl rfl (by first  | fail) ?_ | refine xl_alloc (fun _ => ?_) | refine xl_store rfl rfl ?_) | refine wc_ret rfl ?_)
    exact yr_cellS rfl rfl rfl rfl rfl rfl rfl
  have hke : k < s.length := by simp at hc; omega
  rw [if_pos hke]
  clear hc
  repeat' (first | refine wc_seq ?_ | refine wc_region ?_ | refine wl_nil ?_ | refine wn_seq ?_ | refine wn_blk ?_ | refine wc_skip ?_ | refine wc_block ?_ | refine wc_exit rfl ?_ | (show WL _ _ (_ :: _) _ _ _ _; first | refine yl_v rfl rfl rfl ?_ | refine wl_v rfl rfl rfl (by first | (show OpV _ _ _ _ (Oper.mk _ (Op.slice _ _ none (some _) none) _ _ _ _) _ _; exact ov_to (j := k) rfl rfl rfl (by first | with_reducible exact fun _ => rfl | with_reducible exact fun h => h | exact fun _ => rfl | exact fun h => h | (intro himp; simp_all; done)) (by first | with_reducible exact fun _ => rfl | with_reducible exact fun h => h | exact fun _ => rfl | exact fun h => h | (intro himp; simp_all; done)) rfl (fun _ => by omega)) | fail) ?_ | refine xl_alloc (fun _ => ?_) | refine xl_store rfl rfl ?_) | refine wc_ret rfl ?_)
  refine wc_loop (α := { m : Nat // m ≤ (s.drop (k + 1)).length ∧ ∀ j, j < m → (s.drop (k + 1)).getD j 0 ≠ 59 }) (fun x => [(0, true, str s), (2, true, .pointer (some ⟨b2, 0, none⟩)), (4, true, .pointer (some ⟨b4, 0, none⟩)), (5, true, i64 (k : Int)), (6, true, i64 ((k + 1 + x.1 : Nat) : Int))]) (fun _ => St w [] [(b4, .cells [str (s.take k), str [], str [], i64 (-1), .bool false, .bool false].toArray 23 (0, 0)), (b2, .cells [str [], str [], str [], i64 0, .bool false, .bool false].toArray 23 (0, 0))] M) (fun x => (s.drop (k + 1)).length - x.1) ⟨0, Nat.zero_le _, fun j hj => absurd hj (by omega)⟩ (by first | exact Sub.nil _ | (repeat (first | exact Sub.nil _ | refine Sub.cons (by first | rfl | (simp [look]; done)) ?_))) (fun _ h => h) ?_
  rintro ⟨m, hm, hall⟩
  dsimp only
  have hdl : (s.drop (k + 1)).length = s.length - (k + 1) := List.length_drop
  have hgd : s.getD (k + 1 + m) 0 = (s.drop (k + 1)).getD m 0 := by
    rw [List.getD_eq_getElem?_getD, List.getD_eq_getElem?_getD, List.getElem?_drop]
  have hlen : (decide (((k + 1 + m : Nat) : Int) < (s.length : Int)) : Bool) = decide ((m : Int) < ((s.drop (k + 1)).length : Int)) := decide_eq_decide.2 (by rw [hdl]; omega)
  repeat' (first | refine wc_seq ?_ | refine wc_region ?_ | refine wl_nil ?_ | refine wn_seq ?_ | refine wn_blk ?_ | refine wc_skip ?_ | refine wc_block ?_ | refine wc_exit rfl ?_ | (show WL _ _ (_ :: _) _ _ _ _; first | refine yl_v rfl rfl rfl ?_ | refine wl_v rfl rfl rfl (by first  | fail) ?_ | refine xl_alloc (fun _ => ?_) | refine xl_store rfl rfl ?_) | refine wc_ret rfl ?_)
  refine wc_cond rfl (fun hc => ?_) (fun hc => ?_)
  · (simp only [decide_eq_true_eq, decide_eq_false_iff_not, Bool.and_eq_true, Bool.or_eq_true, Bool.and_eq_false_iff, Bool.or_eq_false_iff, Bool.not_eq_true', Bool.not_eq_false', Int.not_lt, Int.not_le] at hc)
    rw [hgd] at hc
    repeat' (first | refine wc_seq ?_ | refine wc_region ?_ | refine wl_nil ?_ | refine wn_seq ?_ | refine wn_blk ?_ | refine wc_skip ?_ | refine wc_block ?_ | refine wc_exit rfl ?_ | (show WL _ _ (_ :: _) _ _ _ _; first | refine yl_v rfl rfl rfl ?_ | refine wl_v rfl rfl rfl (by first  | fail) ?_ | refine xl_alloc (fun _ => ?_) | refine xl_store rfl rfl ?_) | refine wc_ret rfl ?_)
    refine wn_cut ⟨m + 1, by rw [hdl]; omega, fun j hj => ?_⟩ (by show (s.drop (k + 1)).length - (m + 1) < (s.drop (k + 1)).length - m; rw [hdl]; omega) (by first | exact Sub.nil _ | (repeat (first | exact Sub.nil _ | refine Sub.cons (by first | rfl | (simp [look]; done)) ?_))) (fun _ h => h)
    by_cases e : j = m
    · subst e; exact fun h => hc.2 ((getD_cast _ 59).2 h)
    · exact hall j (by omega)
  rw [hlen, hgd] at hc
  have hid2 := idx_eq hm hall (stop_at (fun x => getD_cast x 59) hm hc)
  clear hc hall hlen hgd
  rw [hid2]
  have hsl : (s.drop (k + 1)).take (k + 1 + m - (k + 1)) = (s.drop (k + 1)).take m := by rw [Nat.add_sub_cancel_left]
  have hdd : s.drop (k + 1 + m) = (s.drop (k + 1)).drop m := by rw [List.drop_drop]
  have h7 : ∀ r : List UInt8, sPath.isPrefixOf r = true ↔ (7 ≤ r.length ∧ r.take 7 = sPath) := fun r => pre_len rfl
  have h10 : ∀ r : List UInt8, sAge.isPrefixOf r = true ↔ (10 ≤ r.length ∧ r.take 10 = sAge) := fun r => pre_len rfl
  have h8 : ∀ r : List UInt8, sSec.isPrefixOf r = true ↔ (8 ≤ r.length ∧ r.take 8 = sSec) := fun r => pre_len rfl
  repeat' (first | refine wc_seq ?_ | refine wc_region ?_ | refine wl_nil ?_ | refine wn_seq ?_ | refine wn_blk ?_ | refine wc_skip ?_ | refine wc_block ?_ | refine wc_exit rfl ?_ | (show WL _ _ (_ :: _) _ _ _ _; first | refine yl_v rfl rfl rfl ?_ | refine wl_v rfl rfl rfl (by first | (show OpV _ _ _ _ (Oper.mk _ (Op.slice _ _ none (some _) none) _ _ _ _) _ _; exact ov_to (j := 7) rfl rfl rfl (by first | with_reducible exact fun _ => rfl | with_reducible exact fun h => h | exact fun _ => rfl | exact fun h => h | (intro himp; simp_all; done)) (by first | with_reducible exact fun _ => rfl | with_reducible exact fun h => h | exact fun _ => rfl | exact fun h => h | (intro himp; simp_all; done)) rfl (fun hcg => guard_lt (m := 7) hcg)) | fail) ?_ | refine xl_alloc (fun _ => ?_) | refine xl_store rfl rfl ?_) | refine wc_ret rfl ?_)
  rw [hdd, hsl]
  have hl1 : (s.drop (k + 1)).length ≤ 1000000 := by rw [hdl]; omega
  have hl0 : (s.take k).length ≤ 1000000 := by rw [List.length_take]; omega
  generalize s.take k = name at *
  generalize s.drop (k + 1) = r1 at *
  have hl2 : (r1.drop m).length ≤ 1000000 := by rw [List.length_drop]; omega
  have hlv : (r1.take m).length ≤ 1000000 := by rw [List.length_take]; omega
  generalize r1.take m = val at *
  generalize r1.drop m = r2 at *
  clear hsl hdd hid2 hdl hm hl1
  refine wc_cond rfl (fun hc => ?_) (fun hc => ?_)
  · have hno : ¬ sPath.isPrefixOf r2 = true := by
      rw [h7]; rintro ⟨e1, e2⟩
      rw [e2, decide_eq_false (show ¬ (r2.length : Int) < 7 by omega)] at hc
      revert hc; decide
    rw [if_neg hno, resCk_n]
    repeat' (first | refine wc_seq ?_ | refine wc_region ?_ | refine wl_nil ?_ | refine wn_seq ?_ | refine wn_blk ?_ | refine wc_skip ?_ | refine wc_block ?_ | refine wc_exit rfl ?_ | (show WL _ _ (_ :: _) _ _ _ _; first | refine yl_v rfl rfl rfl ?_ | refine wl_v rfl rfl rfl (by first  | fail) ?_ | refine xl_alloc (fun _ => ?_) | refine xl_store rfl rfl ?_) | refine wc_ret rfl ?_)
    exact yr_cellS rfl rfl rfl rfl rfl rfl rfl
  have hyes : sPath.isPrefixOf r2 = true := by
    rw [h7]
    simp only [Bool.or_eq_false_iff, decide_eq_false_iff_not, Bool.not_eq_false', decide_eq_true_eq] at hc
    exact ⟨by omega, hc.2⟩
  have hr7 := ((h7 r2).1 hyes).1
  rw [if_pos hyes]
  clear hc hyes
  repeat' (first | refine wc_seq ?_ | refine wc_region ?_ | refine wl_nil ?_ | refine wn_seq ?_ | refine wn_blk ?_ | refine wc_skip ?_ | refine wc_block ?_ | refine wc_exit rfl ?_ | (show WL _ _ (_ :: _) _ _ _ _; first | refine yl_v rfl rfl rfl ?_ | refine wl_v rfl rfl rfl (by first | (show OpV _ _ _ _ (Oper.mk _ (Op.slice _ _ (some _) none none) _ _ _ _) _ _; exact ov_from (i := 7) rfl rfl rfl (by first | with_reducible exact fun _ => rfl | with_reducible exact fun h => h | exact fun _ => rfl | exact fun h => h | (intro himp; simp_all; done)) (by first | with_reducible exact fun _ => rfl | with_reducible exact fun h => h | exact fun _ => rfl | exact fun h => h | (intro himp; simp_all; done)) rfl (fun _ => hr7)) | fail) ?_ | refine xl_alloc (fun _ => ?_) | refine xl_store rfl rfl ?_) | refine wc_ret rfl ?_)
  have hl3 : (r2.drop 7).length ≤ 1000000 := by rw [List.length_drop]; omega
  generalize r2.drop 7 = r3 at *
  refine wc_loop (α := { m : Nat // m ≤ r3.length ∧ ∀ j, j < m → r3.getD j 0 ≠ 59 }) (fun x => [(2, true, .pointer (some ⟨b2, 0, none⟩)), (4, true, .pointer (some ⟨b4, 0, none⟩)), (6, true, i64 (x.1 : Int)), (7, true, str r3)]) (fun _ => St w [] [(b4, .cells [str name, str val, str [], i64 (-1), .bool false, .bool false].toArray 23 (0, 0)), (b2, .cells [str [], str [], str [], i64 0, .bool false, .bool false].toArray 23 (0, 0))] M) (fun x => r3.length - x.1) ⟨0, Nat.zero_le _, fun j hj => absurd hj (by omega)⟩ (by first | exact Sub.nil _ | (repeat (first | exact Sub.nil _ | refine Sub.cons (by first | rfl | (simp [look]; done)) ?_))) (fun _ h => h) ?_
  rintro ⟨m, hm, hall⟩
  dsimp only
  repeat' (first | refine wc_seq ?_ | refine wc_region ?_ | refine wl_nil ?_ | refine wn_seq ?_ | refine wn_blk ?_ | refine wc_skip ?_ | refine wc_block ?_ | refine wc_exit rfl ?_ | (show WL _ _ (_ :: _) _ _ _ _; first | refine yl_v rfl rfl rfl ?_ | refine wl_v rfl rfl rfl (by first  | fail) ?_ | refine xl_alloc (fun _ => ?_) | refine xl_store rfl rfl ?_) | refine wc_ret rfl ?_)
  refine wc_cond rfl (fun hc => ?_) (fun hc => ?_)
  · (simp only [decide_eq_true_eq, decide_eq_false_iff_not, Bool.and_eq_true, Bool.or_eq_true, Bool.and_eq_false_iff, Bool.or_eq_false_iff, Bool.not_eq_true', Bool.not_eq_false', Int.not_lt, Int.not_le] at hc)
    repeat' (first | refine wc_seq ?_ | refine wc_region ?_ | refine wl_nil ?_ | refine wn_seq ?_ | refine wn_blk ?_ | refine wc_skip ?_ | refine wc_block ?_ | refine wc_exit rfl ?_ | (show WL _ _ (_ :: _) _ _ _ _; first | refine yl_v rfl rfl rfl ?_ | refine wl_v rfl rfl rfl (by first  | fail) ?_ | refine xl_alloc (fun _ => ?_) | refine xl_store rfl rfl ?_) | refine wc_ret rfl ?_)
    refine wn_cut ⟨m + 1, by omega, fun j hj => ?_⟩ (by show r3.length - (m + 1) < r3.length - m; omega) (by first | exact Sub.nil _ | (repeat (first | exact Sub.nil _ | refine Sub.cons (by first | rfl | (simp [look]; done)) ?_))) (fun _ h => h)
    by_cases e : j = m
    · subst e; exact fun h => hc.2 ((getD_cast _ 59).2 h)
    · exact hall j (by omega)
  have hid3 := idx_eq hm hall (stop_at (fun x => getD_cast x 59) hm hc)
  clear hc hall
  rw [hid3]
  have hlp : (r3.take m).length ≤ 1000000 := by rw [List.length_take]; omega
  have hl4 : (r3.drop m).length ≤ 1000000 := by rw [List.length_drop]; omega
  repeat' (first | refine wc_seq ?_ | refine wc_region ?_ | refine wl_nil ?_ | refine wn_seq ?_ | refine wn_blk ?_ | refine wc_skip ?_ | refine wc_block ?_ | refine wc_exit rfl ?_ | (show WL _ _ (_ :: _) _ _ _ _; first | refine yl_v rfl rfl rfl ?_ | refine wl_v rfl rfl rfl (by first | (show OpV _ _ _ _ (Oper.mk _ (Op.slice _ _ none (some _) none) _ _ _ _) _ _; first | exact ov_to (j := m) rfl rfl rfl (by first | with_reducible exact fun _ => rfl | with_reducible exact fun h => h | exact fun _ => rfl | exact fun h => h | (intro himp; simp_all; done)) (by first | with_reducible exact fun _ => rfl | with_reducible exact fun h => h | exact fun _ => rfl | exact fun h => h | (intro himp; simp_all; done)) rfl (fun _ => hm) | exact ov_to (j := 10) rfl rfl rfl (by first | with_reducible exact fun _ => rfl | with_reducible exact fun h => h | exact fun _ => rfl | exact fun h => h | (intro himp; simp_all; done)) (by first | with_reducible exact fun _ => rfl | with_reducible exact fun h => h | exact fun _ => rfl | exact fun h => h | (intro himp; simp_all; done)) rfl (fun hcg => guard_le (m := 10) hcg)) | (show OpV _ _ _ _ (Oper.mk _ (Op.slice _ _ (some _) none none) _ _ _ _) _ _; exact ov_from (i := m) rfl rfl rfl (by first | with_reducible exact fun _ => rfl | with_reducible exact fun h => h | exact fun _ => rfl | exact fun h => h | (intro himp; simp_all; done)) (by first | with_reducible exact fun _ => rfl | with_reducible exact fun h => h | exact fun _ => rfl | exact fun h => h | (intro himp; simp_all; done)) rfl (fun _ => hm)) | fail) ?_ | refine xl_alloc (fun _ => ?_) | refine xl_store rfl rfl ?_) | refine wc_ret rfl ?_)
  generalize r3.take m = pth at *
  generalize r3.drop m = r4 at *
  clear hm hid3 hr7
  refine wc_split (α := { x : Int × List UInt8 // ageP r4 = some x ∧ x.2.length ≤ 1000000 }) (fun x => [(2, true, .pointer (some ⟨b2, 0, none⟩)), (4, true, .pointer (some ⟨b4, 0, none⟩)), (7, true, str x.1.2)]) (fun x => St w [] [(b4, .cells [str name, str val, str pth, i64 x.1.1, .bool false, .bool false].toArray 23 (0, 0)), (b2, .cells [str [], str [], str [], i64 0, .bool false, .bool false].toArray 23 (0, 0))] M) ?_ ?_
  · refine wc_cond rfl (fun hc => ?_) (fun hc => ?_)
    · (simp only [decide_eq_true_eq, decide_eq_false_iff_not, Bool.and_eq_true, Bool.or_eq_true, Bool.and_eq_false_iff, Bool.or_eq_false_iff, Bool.not_eq_true', Bool.not_eq_false', Int.not_lt, Int.not_le] at hc)
      have hyes : sAge.isPrefixOf r4 = true := (h10 r4).2 ⟨by omega, hc.2⟩
      have hr10 : 10 ≤ r4.length := by omega
      have hap : ageP r4 = if numP ((r4.drop 10).take (idx 59 (r4.drop 10))) < 0 then none else some (numP ((r4.drop 10).take (idx 59 (r4.drop 10))), (r4.drop 10).drop (idx 59 (r4.drop 10))) := by unfold ageP; rw [if_pos hyes]
      clear hc hyes
      repeat' (first | refine wc_seq ?_ | refine wc_region ?_ | refine wl_nil ?_ | refine wn_seq ?_ | refine wn_blk ?_ | refine wc_skip ?_ | refine wc_block ?_ | refine wc_exit rfl ?_ | (show WL _ _ (_ :: _) _ _ _ _; first | refine yl_v rfl rfl rfl ?_ | refine wl_v rfl rfl rfl (by first | (show OpV _ _ _ _ (Oper.mk _ (Op.slice _ _ (some _) none none) _ _ _ _) _ _; exact ov_from (i := 10) rfl rfl rfl (by first | with_reducible exact fun _ => rfl | with_reducible exact fun h => h | exact fun _ => rfl | exact fun h => h | (intro himp; simp_all; done)) (by first | with_reducible exact fun _ => rfl | with_reducible exact fun h => h | exact fun _ => rfl | exact fun h => h | (intro himp; simp_all; done)) rfl (fun _ => hr10)) | fail) ?_ | refine xl_alloc (fun _ => ?_) | refine xl_store rfl rfl ?_) | refine wc_ret rfl ?_)
      have hl6 : (r4.drop 10).length ≤ 1000000 := by rw [List.length_drop]; omega
      generalize r4.drop 10 = t6 at *
      refine wc_loop (α := { m : Nat // m ≤ t6.length ∧ ∀ j, j < m → t6.getD j 0 ≠ 59 }) (fun x => [(2, true, .pointer (some ⟨b2, 0, none⟩)), (4, true, .pointer (some ⟨b4, 0, none⟩)), (6, true, i64 (x.1 : Int)), (7, true, str t6)]) (fun _ => St w [] [(b4, .cells [str name, str val, str pth, i64 (-1), .bool false, .bool false].toArray 23 (0, 0)), (b2, .cells [str [], str [], str [], i64 0, .bool false, .bool false].toArray 23 (0, 0))] M) (fun x => t6.length - x.1) ⟨0, Nat.zero_le _, fun j hj => absurd hj (by omega)⟩ (by first | exact Sub.nil _ | (repeat (first | exact Sub.nil _ | refine Sub.cons (by first | rfl | (simp [look]; done)) ?_))) (fun _ h => h) ?_
      rintro ⟨m, hm, hall⟩
      dsimp only
      repeat' (first | refine wc_seq ?_ | refine wc_region ?_ | refine wl_nil ?_ | refine wn_seq ?_ | refine wn_blk ?_ | refine wc_skip ?_ | refine wc_block ?_ | refine wc_exit rfl ?_ | (show WL _ _ (_ :: _) _ _ _ _; first | refine yl_v rfl rfl rfl ?_ | refine wl_v rfl rfl rfl (by first  | fail) ?_ | refine xl_alloc (fun _ => ?_) | refine xl_store rfl rfl ?_) | refine wc_ret rfl ?_)
      refine wc_cond rfl (fun hc => ?_) (fun hc => ?_)
      · (simp only [decide_eq_true_eq, decide_eq_false_iff_not, Bool.and_eq_true, Bool.or_eq_true, Bool.and_eq_false_iff, Bool.or_eq_false_iff, Bool.not_eq_true', Bool.not_eq_false', Int.not_lt, Int.not_le] at hc)
        repeat' (first | refine wc_seq ?_ | refine wc_region ?_ | refine wl_nil ?_ | refine wn_seq ?_ | refine wn_blk ?_ | refine wc_skip ?_ | refine wc_block ?_ | refine wc_exit rfl ?_ | (show WL _ _ (_ :: _) _ _ _ _; first | refine yl_v rfl rfl rfl ?_ | refine wl_v rfl rfl rfl (by first  | fail) ?_ | refine xl_alloc (fun _ => ?_) | refine xl_store rfl rfl ?_) | refine wc_ret rfl ?_)
        refine wn_cut ⟨m + 1, by omega, fun j hj => ?_⟩ (by show t6.length - (m + 1) < t6.length - m; omega) (by first | exact Sub.nil _ | (repeat (first | exact Sub.nil _ | refine Sub.cons (by first | rfl | (simp [look]; done)) ?_))) (fun _ h => h)
        by_cases e : j = m
        · subst e; exact fun h => hc.2 ((getD_cast _ 59).2 h)
        · exact hall j (by omega)
      have hid3 := idx_eq hm hall (stop_at (fun x => getD_cast x 59) hm hc)
      clear hc hall
      rw [hid3] at hap
      have hnu := fun {w : World} (hw : Laid M w) => number_ok hw (t6.take m) (by rw [List.length_take]; omega)
      have hld : (t6.drop m).length ≤ 1000000 := by rw [List.length_drop]; omega
      repeat' (first | refine wc_seq ?_ | refine wc_region ?_ | refine wl_nil ?_ | refine wn_seq ?_ | refine wn_blk ?_ | refine wc_skip ?_ | refine wc_block ?_ | refine wc_exit rfl ?_ | (show WL _ _ (_ :: _) _ _ _ _; first | refine yl_v rfl rfl rfl ?_ | refine wl_v rfl rfl rfl (by first | (show OpV _ _ _ _ (Oper.mk _ (Op.slice _ _ none (some _) none) _ _ _ _) _ _; exact ov_to (j := m) rfl rfl rfl (by first | with_reducible exact fun _ => rfl | with_reducible exact fun h => h | exact fun _ => rfl | exact fun h => h | (intro himp; simp_all; done)) (by first | with_reducible exact fun _ => rfl | with_reducible exact fun h => h | exact fun _ => rfl | exact fun h => h | (intro himp; simp_all; done)) rfl (fun _ => hm)) | (show OpV _ _ _ _ (Oper.mk _ (Op.slice _ _ (some _) none none) _ _ _ _) _ _; exact ov_from (i := m) rfl rfl rfl (by first | with_reducible exact fun _ => rfl | with_reducible exact fun h => h | exact fun _ => rfl | exact fun h => h | (intro himp; simp_all; done)) (by first | with_reducible exact fun _ => rfl | with_reducible exact fun h => h | exact fun _ => rfl | exact fun h => h | (intro himp; simp_all; done)) rfl (fun _ => hm)) | ((show OpV _ _ _ _ (Oper.mk _ (Op.call ⟨.value (.func 23), _, _⟩) _ _ _ _) _ _; exact ov_call Tryz.call23 rfl (by intro himp; first | rfl | (simp_all; done)) (by rfl) (fun _ _ h k => h.ext k) (fun hcg w hw => hnu hw.laid))) | fail) ?_ | refine xl_alloc (fun _ => ?_) | refine xl_store rfl rfl ?_) | refine wc_ret rfl ?_)
      generalize numP (t6.take m) = z at *
      generalize t6.drop m = r5 at *
      refine wc_cond rfl (fun hc => ?_) (fun hc => ?_)
      · have hz : z < 0 := by simpa using hc
        rw [if_pos hz] at hap
        rw [hap]
        simp only
        rw [resCk_n]
        repeat' (first | refine wc_seq ?_ | refine wc_region ?_ | refine wl_nil ?_ | refine wn_seq ?_ | refine wn_blk ?_ | refine wc_skip ?_ | refine wc_block ?_ | refine wc_exit rfl ?_ | (show WL _ _ (_ :: _) _ _ _ _; first | refine yl_v rfl rfl rfl ?_ | refine wl_v rfl rfl rfl (by first  | fail) ?_ | refine xl_alloc (fun _ => ?_) | refine xl_store rfl rfl ?_) | refine wc_ret rfl ?_)
        exact yr_cellS rfl rfl rfl rfl rfl rfl rfl
      · have hz : ¬ z < 0 := by simp at hc; omega
        rw [if_neg hz] at hap
        repeat' (first | refine wc_seq ?_ | refine wc_region ?_ | refine wl_nil ?_ | refine wn_seq ?_ | refine wn_blk ?_ | refine wc_skip ?_ | refine wc_block ?_ | refine wc_exit rfl ?_ | (show WL _ _ (_ :: _) _ _ _ _; first | refine yl_v rfl rfl rfl ?_ | refine wl_v rfl rfl rfl (by first  | fail) ?_ | refine xl_alloc (fun _ => ?_) | refine xl_store rfl rfl ?_) | refine wc_ret rfl ?_)
        exact wn_cut ⟨(z, r5), hap, hld⟩ trivial (by first | exact Sub.nil _ | (repeat (first | exact Sub.nil _ | refine Sub.cons (by first | rfl | (simp [look]; done)) ?_))) (fun _ h => h)
    · have hno : ¬ sAge.isPrefixOf r4 = true := by
        rw [h10]; rintro ⟨e1, e2⟩
        rw [e2, decide_eq_true (show (10 : Int) ≤ (r4.length : Int) by omega)] at hc
        revert hc; decide
      have hap : ageP r4 = some (-1, r4) := by unfold ageP; rw [if_neg hno]
      repeat' (first | refine wc_seq ?_ | refine wc_region ?_ | refine wl_nil ?_ | refine wn_seq ?_ | refine wn_blk ?_ | refine wc_skip ?_ | refine wc_block ?_ | refine wc_exit rfl ?_ | (show WL _ _ (_ :: _) _ _ _ _; first | refine yl_v rfl rfl rfl ?_ | refine wl_v rfl rfl rfl (by first  | fail) ?_ | refine xl_alloc (fun _ => ?_) | refine xl_store rfl rfl ?_) | refine wc_ret rfl ?_)
      exact wn_cut ⟨(-1, r4), hap, hl4⟩ trivial (by first | exact Sub.nil _ | (repeat (first | exact Sub.nil _ | refine Sub.cons (by first | rfl | (simp [look]; done)) ?_))) (fun _ h => h)
  rintro ⟨⟨z, r5⟩, hz, hl5⟩
  dsimp only at hz hl5 ⊢
  rw [hz]
  simp only
  clear hz hl4 h10
  repeat' (first | refine wc_seq ?_ | refine wc_region ?_ | refine wl_nil ?_ | refine wn_seq ?_ | refine wn_blk ?_ | refine wc_skip ?_ | refine wc_block ?_ | refine wc_exit rfl ?_ | (show WL _ _ (_ :: _) _ _ _ _; first | refine yl_v rfl rfl rfl ?_ | refine wl_v rfl rfl rfl (by first | (show OpV _ _ _ _ (Oper.mk _ (Op.slice _ _ none (some _) none) _ _ _ _) _ _; exact ov_to (j := 8) rfl rfl rfl (by first | with_reducible exact fun _ => rfl | with_reducible exact fun h => h | exact fun _ => rfl | exact fun h => h | (intro himp; simp_all; done)) (by first | with_reducible exact fun _ => rfl | with_reducible exact fun h => h | exact fun _ => rfl | exact fun h => h | (intro himp; simp_all; done)) rfl (fun hcg => guard_le (m := 8) hcg)) | fail) ?_ | refine xl_alloc (fun _ => ?_) | refine xl_store rfl rfl ?_) | refine wc_ret rfl ?_)
  refine wc_split (α := { x : Bool × List UInt8 // secP r5 = x ∧ x.2.length ≤ 1000000 }) (fun x => [(2, true, .pointer (some ⟨b2, 0, none⟩)), (4, true, .pointer (some ⟨b4, 0, none⟩)), (7, true, str x.1.2)]) (fun x => St w [] [(b4, .cells [str name, str val, str pth, i64 z, .bool x.1.1, .bool false].toArray 23 (0, 0)), (b2, .cells [str [], str [], str [], i64 0, .bool false, .bool false].toArray 23 (0, 0))] M) ?_ ?_
  · refine wc_cond rfl (fun hc => ?_) (fun hc => ?_)
    · (simp only [decide_eq_true_eq, decide_eq_false_iff_not, Bool.and_eq_true, Bool.or_eq_true, Bool.and_eq_false_iff, Bool.or_eq_false_iff, Bool.not_eq_true', Bool.not_eq_false', Int.not_lt, Int.not_le] at hc)
      have hyes : sSec.isPrefixOf r5 = true := (h8 r5).2 ⟨by omega, hc.2⟩
      have hr8 : 8 ≤ r5.length := by omega
      clear hc
      repeat' (first | refine wc_seq ?_ | refine wc_region ?_ | refine wl_nil ?_ | refine wn_seq ?_ | refine wn_blk ?_ | refine wc_skip ?_ | refine wc_block ?_ | refine wc_exit rfl ?_ | (show WL _ _ (_ :: _) _ _ _ _; first | refine yl_v rfl rfl rfl ?_ | refine wl_v rfl rfl rfl (by first | (show OpV _ _ _ _ (Oper.mk _ (Op.slice _ _ (some _) none none) _ _ _ _) _ _; exact ov_from (i := 8) rfl rfl rfl (by first | with_reducible exact fun _ => rfl | with_reducible exact fun h => h | exact fun _ => rfl | exact fun h => h | (intro himp; simp_all; done)) (by first | with_reducible exact fun _ => rfl | with_reducible exact fun h => h | exact fun _ => rfl | exact fun h => h | (intro himp; simp_all; done)) rfl (fun _ => hr8)) | fail) ?_ | refine xl_alloc (fun _ => ?_) | refine xl_store rfl rfl ?_) | refine wc_ret rfl ?_)
      exact wn_cut ⟨(true, r5.drop 8), by unfold secP; rw [if_pos hyes], by show (r5.drop 8).length ≤ _; rw [List.length_drop]; omega⟩ trivial (by first | exact Sub.nil _ | (repeat (first | exact Sub.nil _ | refine Sub.cons (by first | rfl | (simp [look]; done)) ?_))) (fun _ h => h)
    · have hno : ¬ sSec.isPrefixOf r5 = true := by
        rw [h8]; rintro ⟨e1, e2⟩
        rw [e2, decide_eq_true (show (8 : Int) ≤ (r5.length : Int) by omega)] at hc
        revert hc; decide
      repeat' (first | refine wc_seq ?_ | refine wc_region ?_ | refine wl_nil ?_ | refine wn_seq ?_ | refine wn_blk ?_ | refine wc_skip ?_ | refine wc_block ?_ | refine wc_exit rfl ?_ | (show WL _ _ (_ :: _) _ _ _ _; first | refine yl_v rfl rfl rfl ?_ | refine wl_v rfl rfl rfl (by first  | fail) ?_ | refine xl_alloc (fun _ => ?_) | refine xl_store rfl rfl ?_) | refine wc_ret rfl ?_)
      exact wn_cut ⟨(false, r5), by unfold secP; rw [if_neg hno], hl5⟩ trivial (by first | exact Sub.nil _ | (repeat (first | exact Sub.nil _ | refine Sub.cons (by first | rfl | (simp [look]; done)) ?_))) (fun _ h => h)
  rintro ⟨⟨sec, r6⟩, hse, hl6⟩
  dsimp only at hse hl6 ⊢
  rw [hse]
  dsimp only
  clear hse hl5 h8
  repeat' (first | refine wc_seq ?_ | refine wc_region ?_ | refine wl_nil ?_ | refine wn_seq ?_ | refine wn_blk ?_ | refine wc_skip ?_ | refine wc_block ?_ | refine wc_exit rfl ?_ | (show WL _ _ (_ :: _) _ _ _ _; first | refine yl_v rfl rfl rfl ?_ | refine wl_v rfl rfl rfl (by first  | fail) ?_ | refine xl_alloc (fun _ => ?_) | refine xl_store rfl rfl ?_) | refine wc_ret rfl ?_)
  refine wc_split (α := { x : Bool × List UInt8 // hoP r6 = x ∧ x.2.length ≤ 1000000 }) (fun x => [(2, true, .pointer (some ⟨b2, 0, none⟩)), (4, true, .pointer (some ⟨b4, 0, none⟩)), (7, true, str x.1.2)]) (fun x => St w [] [(b4, .cells [str name, str val, str pth, i64 z, .bool sec, .bool x.1.1].toArray 23 (0, 0)), (b2, .cells [str [], str [], str [], i64 0, .bool false, .bool false].toArray 23 (0, 0))] M) ?_ ?_
  · refine wc_cond rfl (fun hc => ?_) (fun hc => ?_)
    · have hyes : r6 = sHo := of_decide_eq_true hc
      repeat' (first | refine wc_seq ?_ | refine wc_region ?_ | refine wl_nil ?_ | refine wn_seq ?_ | refine wn_blk ?_ | refine wc_skip ?_ | refine wc_block ?_ | refine wc_exit rfl ?_ | (show WL _ _ (_ :: _) _ _ _ _; first | refine yl_v rfl rfl rfl ?_ | refine wl_v rfl rfl rfl (by first  | fail) ?_ | refine xl_alloc (fun _ => ?_) | refine xl_store rfl rfl ?_) | refine wc_ret rfl ?_)
      exact wn_cut ⟨(true, []), by unfold hoP; rw [if_pos hyes], by simp⟩ trivial (by first | exact Sub.nil _ | (repeat (first | exact Sub.nil _ | refine Sub.cons (by first | rfl | (simp [look]; done)) ?_))) (fun _ h => h)
    · have hno : ¬ r6 = sHo := by
        rw [decide_eq_false_iff_not] at hc; exact hc
      repeat' (first | refine wc_seq ?_ | refine wc_region ?_ | refine wl_nil ?_ | refine wn_seq ?_ | refine wn_blk ?_ | refine wc_skip ?_ | refine wc_block ?_ | refine wc_exit rfl ?_ | (show WL _ _ (_ :: _) _ _ _ _; first | refine yl_v rfl rfl rfl ?_ | refine wl_v rfl rfl rfl (by first  | fail) ?_ | refine xl_alloc (fun _ => ?_) | refine xl_store rfl rfl ?_) | refine wc_ret rfl ?_)
      exact wn_cut ⟨(false, r6), by unfold hoP; rw [if_neg hno], hl6⟩ trivial (by first | exact Sub.nil _ | (repeat (first | exact Sub.nil _ | refine Sub.cons (by first | rfl | (simp [look]; done)) ?_))) (fun _ h => h)
  rintro ⟨⟨ho, r7⟩, hho, hl7⟩
  dsimp only at hho hl7 ⊢
  rw [hho]
  dsimp only
  have hri := fun {w : World} (hw : Laid M w) => rrightC_ok hw ⟨name, val, pth, z, sec, ho⟩ ⟨by show name.length ≤ _; omega, by show val.length ≤ _; omega, by show pth.length ≤ _; omega⟩
  rw [show ckCells ⟨name, val, pth, z, sec, ho⟩ = [str name, str val, str pth, i64 z, .bool sec, .bool ho] from rfl] at hri
  repeat' (first | refine wc_seq ?_ | refine wc_region ?_ | refine wl_nil ?_ | refine wn_seq ?_ | refine wn_blk ?_ | refine wc_skip ?_ | refine wc_block ?_ | refine wc_exit rfl ?_ | (show WL _ _ (_ :: _) _ _ _ _; first | refine yl_v rfl rfl rfl ?_ | refine wl_v rfl rfl rfl (by first | ((show OpV _ _ _ _ (Oper.mk _ (Op.call ⟨.value (.func 11), _, _⟩) _ _ _ _) _ _; exact ov_call Tryz.call11 rfl (by intro himp; first | rfl | (simp_all; done)) (by rfl) (fun _ _ h k => h.ext k) (fun hcg w hw => hri hw.laid))) | fail) ?_ | refine xl_alloc (fun _ => ?_) | refine xl_store rfl rfl ?_) | refine wc_ret rfl ?_)
  refine wc_cond rfl (fun hc => ?_) (fun hc => ?_)
  · have hno : ¬ (r7 = [] ∧ rightC ⟨name, val, pth, z, sec, ho⟩ = true) := by rintro ⟨e1, e2⟩; simp [e1, e2] at hc
    rw [if_neg hno, resCk_n]
    repeat' (first | refine wc_seq ?_ | refine wc_region ?_ | refine wl_nil ?_ | refine wn_seq ?_ | refine wn_blk ?_ | refine wc_skip ?_ | refine wc_block ?_ | refine wc_exit rfl ?_ | (show WL _ _ (_ :: _) _ _ _ _; first | refine yl_v rfl rfl rfl ?_ | refine wl_v rfl rfl rfl (by first  | fail) ?_ | refine xl_alloc (fun _ => ?_) | refine xl_store rfl rfl ?_) | refine wc_ret rfl ?_)
    exact yr_cellS rfl rfl rfl rfl rfl rfl rfl
  · have hyes : r7 = [] ∧ rightC ⟨name, val, pth, z, sec, ho⟩ = true := by simp at hc; exact hc
    rw [if_pos hyes, resCk_s]
    repeat' (first | refine wc_seq ?_ | refine wc_region ?_ | refine wl_nil ?_ | refine wn_seq ?_ | refine wn_blk ?_ | refine wc_skip ?_ | refine wc_block ?_ | refine wc_exit rfl ?_ | (show WL _ _ (_ :: _) _ _ _ _; first | refine yl_v rfl rfl rfl ?_ | refine wl_v rfl rfl rfl (by first  | fail) ?_ | refine xl_alloc (fun _ => ?_) | refine xl_store rfl rfl ?_) | refine wc_ret rfl ?_)
    exact yr_cellS rfl rfl rfl rfl rfl rfl rfl
set_option maxHeartbeats 2000000 in
theorem cookieSets_ok (hE : GlobE M) (hM : Laid M w) (c : Ckie) (s : List UInt8) (hc : SmC c) (hs : s.length ≤ 9223372036854775807) : Calls Tryz.prog 3 #[.agg (ckCells c).toArray, str s] w (RetE w (.bool true)) := by
  have hG := hE.glob
  have hck : ckCells c = [str c.name, str c.value, str c.path, i64 c.age, .bool c.secure, .bool c.http] := rfl
  have hf := fun {w : World} (hw : Laid M w) => fewC_ok hw c
  rw [hck] at hf ⊢
  refine calls_st (l := [.agg [str c.name, str c.value, str c.path, i64 c.age, .bool c.secure, .bool c.http].toArray, str s]) hM Tryz.func3 rfl rfl rfl (E0 := [(0, true, .agg [str c.name, str c.value, str c.path, i64 c.age, .bool c.secure, .bool c.http].toArray), (1, true, str s)]) (params_cons rfl (params_cons rfl (params_nil _))) ?_
  repeat' (first | refine wc_seq ?_ | refine wc_region ?_ | refine wl_nil ?_ | refine wn_seq ?_ | refine wn_blk ?_ | refine wc_skip ?_ | refine wc_block ?_ | refine wc_exit rfl ?_ | (show WL _ _ (_ :: _) _ _ _ _; first | refine yl_v rfl rfl rfl ?_ | refine wl_v rfl rfl rfl (by first | ((show OpV _ _ _ _ (Oper.mk _ (Op.call ⟨.value (.func 4), _, _⟩) _ _ _ _) _ _; exact ov_call Tryz.call4 rfl (by intro himp; first | rfl | (simp_all; done)) (by rfl) (fun _ _ h k => h.ext k) (fun hcg w hw => awake_ok hG hw.laid))) | ((show OpV _ _ _ _ (Oper.mk _ (Op.call ⟨.value (.func 5), _, _⟩) _ _ _ _) _ _; exact ov_call Tryz.call5 rfl (by intro himp; first | rfl | (simp_all; done)) (by rfl) (fun _ _ h k => h.ext k) (fun hcg w hw => hf hw.laid))) | fail) ?_ | refine xl_alloc (fun _ => ?_) | refine xl_box rfl (fun _ => ?_) | refine xl_store rfl rfl ?_) | refine wc_ret rfl ?_)
  rename_i b2
  refine wc_cond rfl (fun hc => ?_) (fun hc => ?_)
  · repeat' (first | refine wc_seq ?_ | refine wc_region ?_ | refine wl_nil ?_ | refine wn_seq ?_ | refine wn_blk ?_ | refine wc_skip ?_ | refine wc_block ?_ | refine wc_exit rfl ?_ | (show WL _ _ (_ :: _) _ _ _ _; first | refine yl_v rfl rfl rfl ?_ | refine wl_v rfl rfl rfl (by first  | fail) ?_ | refine xl_alloc (fun _ => ?_) | refine xl_box rfl (fun _ => ?_) | refine xl_store rfl rfl ?_) | refine wc_ret rfl ?_)
    exact wr_weak (fun _ h => h.drop (List.nil_sublist _)) (wr_tmp rfl rfl rfl)
  have hfew : fewC c = true := by simp at hc; exact hc.1
  have hsl : s.length ≤ 400 := by simp at hc; omega
  clear hc
  obtain ⟨g1, g2, g3⟩ := fewC_sm hfew
  have h1 := fun {w : World} (hw : Laid M w) => cset_ok hG hw c ⟨by omega, by omega, by omega⟩
  have h2 := fun {w : World} (hw : Laid M w) => rset_ok hw c ⟨by omega, by omega, by omega⟩
  rw [hck] at h1 h2
  generalize setP c = q at *
  obtain ⟨t, e⟩ := q
  dsimp only at h1 h2
  repeat' (first | refine wc_seq ?_ | refine wc_region ?_ | refine wl_nil ?_ | refine wn_seq ?_ | refine wn_blk ?_ | refine wc_skip ?_ | refine wc_block ?_ | refine wc_exit rfl ?_ | (show WL _ _ (_ :: _) _ _ _ _; first | refine yl_v rfl rfl rfl ?_ | refine wl_v rfl rfl rfl (by first | ((show OpV _ _ _ _ (Oper.mk _ (Op.call ⟨.value (.func 6), _, _⟩) _ _ _ _) _ _; exact ov_call Tryz.call6 rfl (by intro himp; first | rfl | (simp_all; done)) (by rfl) (fun _ _ h k => h.ext k) (fun hcg w hw => h1 hw.laid))) | ((show OpV _ _ _ _ (Oper.mk _ (Op.call ⟨.value (.func 7), _, _⟩) _ _ _ _) _ _; exact ov_call Tryz.call7 rfl (by intro himp; first | rfl | (simp_all; done)) (by rfl) (fun _ _ h k => h.ext k) (fun hcg w hw => h2 hw.laid))) | fail) ?_ | refine xl_alloc (fun _ => ?_) | refine xl_box rfl (fun _ => ?_) | refine xl_store rfl rfl ?_) | refine wc_ret rfl ?_)
  refine wl_callS rfl Tryz.call8 rfl rfl rfl rfl (fun w hw => cread_ok hE hw.laid s (by omega)) ?_
  rintro _ H1 M1 hm1 hn1 ⟨rfl, rfl⟩
  have h3 := fun {w : World} (hw : Laid M1 w) => rread_ok hw s (by omega)
  have h4 := fun {w : World} (hw : Laid M1 w) => cright_ok hw c hc
  have h5 := fun {w : World} (hw : Laid M1 w) => rrightC_ok hw c hc
  rw [hck] at h4 h5
  generalize rightC c = rt at *
  obtain ⟨x, ez, hx⟩ : ∃ (x : Ckie) (ez : Int), resCk (readP s) = .tuple #[.agg [str x.name, str x.value, str x.path, i64 x.age, .bool x.secure, .bool x.http].toArray, i64 ez] := ⟨_, _, rfl⟩
  rw [hx] at h3 ⊢
  repeat' (first | refine wc_seq ?_ | refine wc_region ?_ | refine wl_nil ?_ | refine wn_seq ?_ | refine wn_blk ?_ | refine wc_skip ?_ | refine wc_block ?_ | refine wc_exit rfl ?_ | (show WL _ _ (_ :: _) _ _ _ _; first | refine yl_v rfl rfl rfl ?_ | refine wl_v rfl rfl rfl (by first | ((show OpV _ _ _ _ (Oper.mk _ (Op.call ⟨.value (.func 9), _, _⟩) _ _ _ _) _ _; exact ov_call Tryz.call9 rfl (by intro himp; first | rfl | (simp_all; done)) (by rfl) (fun _ _ h k => h.ext k) (fun hcg w hw => h3 hw.laid))) | fail) ?_ | refine xl_alloc (fun _ => ?_) | refine xl_box rfl (fun _ => ?_) | refine xl_store rfl rfl ?_) | refine wc_ret rfl ?_)
  refine wc_draw 28 (by kernel_rfl) rfl (by kernel_rfl) (fun _ _ h k => h.ext k) ?_
  repeat' (first | (show WD _ _ (_ :: _) _ _ _ _ _ _; first | refine yd_v rfl rfl rfl rfl rfl rfl ?_ | refine wd_v rfl rfl rfl rfl rfl rfl (by first | ((show OpV _ _ _ _ (Oper.mk _ (Op.call ⟨.value (.func 10), _, _⟩) _ _ _ _) _ _; exact ov_call Tryz.call10 rfl (by intro himp; first | rfl | (simp_all; done)) (by rfl) (fun _ _ h k => h.ext k) (fun hcg w hw => h4 hw.laid))) | ((show OpV _ _ _ _ (Oper.mk _ (Op.call ⟨.value (.func 11), _, _⟩) _ _ _ _) _ _; exact ov_call Tryz.call11 rfl (by intro himp; first | rfl | (simp_all; done)) (by rfl) (fun _ _ h k => h.ext k) (fun hcg w hw => h5 hw.laid))) | fail) ?_ | refine yd_new rfl rfl rfl rfl rfl rfl ?_ | refine wd_conv rfl rfl rfl rfl rfl rfl rfl rfl rfl rfl ?_) | (show WD _ _ _ _ _ _ _ _ _; first | refine wd_nil ?_ | refine wd_nil1 (wl_fresh (fun _ => ?_))) | (first | refine wc_seq ?_ | refine wc_region ?_ | refine wl_nil ?_ | refine wn_seq ?_ | refine wn_blk ?_ | refine wc_skip ?_ | refine wc_block ?_ | refine wc_exit rfl ?_ | (show WL _ _ (_ :: _) _ _ _ _; first | refine yl_v rfl rfl rfl ?_ | refine wl_v rfl rfl rfl (by first | ((show OpV _ _ _ _ (Oper.mk _ (Op.call ⟨.value (.func 10), _, _⟩) _ _ _ _) _ _; exact ov_call Tryz.call10 rfl (by intro himp; first | rfl | (simp_all; done)) (by rfl) (fun _ _ h k => h.ext k) (fun hcg w hw => h4 hw.laid))) | ((show OpV _ _ _ _ (Oper.mk _ (Op.call ⟨.value (.func 11), _, _⟩) _ _ _ _) _ _; exact ov_call Tryz.call11 rfl (by intro himp; first | rfl | (simp_all; done)) (by rfl) (fun _ _ h k => h.ext k) (fun hcg w hw => h5 hw.laid))) | fail) ?_ | refine xl_alloc (fun _ => ?_) | refine xl_box rfl (fun _ => ?_) | refine xl_store rfl rfl ?_) | refine wc_ret rfl ?_))
  repeat' (first | refine wc_seq ?_ | refine wc_region ?_ | refine wl_nil ?_ | refine wn_seq ?_ | refine wn_blk ?_ | refine wc_skip ?_ | refine wc_block ?_ | refine wc_exit rfl ?_ | (show WL _ _ (_ :: _) _ _ _ _; first | refine yl_v rfl rfl rfl ?_ | refine wl_v rfl rfl rfl (by first  | fail) ?_ | refine xl_alloc (fun _ => ?_) | refine xl_box rfl (fun _ => ?_) | refine xl_store rfl rfl ?_) | refine wc_ret rfl ?_)
  exact wr_weak (fun _ h => h.drop (List.nil_sublist _)) (wr_tmp rfl rfl (congrArg Value.bool (by simp)))
end Go.Proofs.YtmfelfhingmmbaaGreatDoor
/-
  Arguments opened: what the reading of an argument says of memory, with the sizes that a row allows. Nothing of the program stands here.
-/
namespace Go.Eng
open Go.RowKit Go.ChangeShapes Go.WideShapes

/-- all that stands in a world -/
def All (W : World) : Ghost := fun b o => W.heap[b]? = some o
theorem all_laid (W : World) : Laid (All W) W := fun _ _ h => h
theorem cell_inv {W : World} {g i : Nat} {v : Value} (h : W.cell? ⟨g, i, none⟩ = some v) : ∃ cs T fz, W.heap[g]? = some (.cells cs T fz) ∧ cs[i]? = some v := by
  unfold World.cell? at h
  split at h
  · rename_i cs T fz e; exact ⟨cs, T, fz, e, by simpa using h⟩
  · cases h
/-- a datum's sizes -/
def Wt {H : Type} (P : Program) (t : TypeId) (d : DataW H) : Prop := ∀ n ∈ d.weights P t, n ≤ reachBytes
/-- how the cells of a type open -/
structure Opens (P : Program) (w : World) (t : TypeId) {α : Type} (R : α → List Value → Prop) : Prop where
  go : ∀ {H : Type} (enc : TypeId × Value → H) (fuel : Nat) (cs : List Value) (d : DataW H) (ps : List MemPlace), DataW.trod enc P w 0 (fun _ => true) true fuel t cs = some (d, ps) → Wt P t d → ∃ x, R x cs
section
variable {P : Program} {w : World} {t : TypeId}
theorem str_of (s : ByteArray) : Value.string s = str s.data.toList := by cases s; simp
theorem opens_str (ht : P.underlying t = some .string) : Opens P w t (fun s vs => vs = [str s] ∧ s.length ≤ reachBytes) := ⟨fun enc fuel cs d ps h hw => by
  obtain ⟨s, e1, e2, _⟩ := DataW.trod_string ht h
  simp only [Prod.mk.injEq] at e2
  refine ⟨s.data.toList, by rw [e1, str_of], ?_⟩
  exact hw _ (by rw [e2.1]; simp [DataW.weights])⟩
theorem opens_bool (ht : P.underlying t = some .bool) : Opens P w t (fun b vs => vs = [.bool b]) := ⟨fun enc fuel cs d ps h hw => by
  cases fuel with
  | zero => simp [DataW.trod] at h
  | succ n =>
    unfold DataW.trod at h
    rw [ht] at h
    split at h <;> simp_all⟩
theorem opens_int {k : IntKind} (ht : P.underlying t = some (.int k)) : Opens P w t (fun z vs => vs = [.int k z] ∧ k.min ≤ z ∧ z ≤ k.max) := ⟨fun enc fuel cs d ps h hw => by
  obtain ⟨z, e1, _, hwf⟩ := DataW.trod_int ht h
  refine ⟨z, e1, ?_⟩
  simpa [Lit.wf] using hwf⟩
theorem wt_all {H : Type} {e : TypeId} {d : DataW H} : ∀ {ds : List (DataW H)}, d ∈ ds → ∀ n ∈ d.weights P e, n ∈ DataW.weightsAll P e ds
  | x :: ds, hd, n, hn => by
    simp only [DataW.weightsAll, List.mem_append]
    rcases List.mem_cons.1 hd with rfl | hd
    · exact .inl hn
    · exact .inr (wt_all hd n hn)
theorem opens_slice {e : TypeId} {m : Nat} {α : Type} {R : α → List Value → Prop} (ht : P.underlying t = some (.slice e)) (hc : P.cellsOf e = m) (hm : 0 < m) (he : Opens P w e R) :
    Opens P w t (fun (l : List α) vs => ∃ v, vs = [v] ∧ Sl (All w) m R v l ∧ l.length * P.bytesOf e ≤ reachBytes) := ⟨fun enc fuel cs d ps h hw => by
  rcases Go.Deep.open_slice ht h with ⟨rfl, _⟩ | ⟨a, len, cap, q, n, D, Pl, rfl, _, hl, hcm, hq, hx, hel⟩
  · exact ⟨[], _, rfl, sl_nil, by simp⟩
  · simp only [if_true] at hq
    subst hq
    simp only [Prod.mk.injEq] at hx
    have hwt : ∀ i, i < len → Wt P e (D i) := by
      intro i hi k hk
      refine hw k ?_
      rw [hx.1]
      simp only [DataW.weights, ht, List.mem_cons, List.mem_append]
      exact .inr (.inl (wt_all (List.mem_map.2 ⟨i, by simpa using hi, rfl⟩) k hk))
    have hbytes : len * P.bytesOf e ≤ reachBytes := by
      refine Nat.le_trans (Nat.mul_le_mul_right _ (Nat.le_add_right len (q - len))) (hw ((len + (q - len)) * P.bytesOf e) ?_)
      rw [hx.1]
      simp [DataW.weights, ht]
    have each : ∀ i, i < len → ∃ y : α, ∃ cs' : List Value, cs'.length = m ∧ R y cs' ∧ ∀ j, j < m → w.cell? (a.add (i * m + j)) = cs'[j]? := by
      intro i hi
      obtain ⟨cs', h1, h2⟩ := hel i (by omega)
      rw [hc] at h1
      obtain ⟨_, hlen, hcell⟩ := World.cells?_some h1
      obtain ⟨y, hy⟩ := he.go enc n cs' (D i) (Pl i) h2 (hwt i hi)
      exact ⟨y, cs', hlen, hy, fun j hj => by rw [← hcell j hj, Go.Deep.add_add]⟩
    have hmax : len ≤ 9223372036854775807 := by unfold maxLen at hcm; omega
    by_cases h0 : len = 0
    · subst h0
      exact ⟨[], _, rfl, ⟨some a, q, rfl, Nat.zero_le _, by simp, fun h => absurd rfl h⟩, by simp⟩
    · obtain ⟨y0, cs0, hl0, _, hc0⟩ := each 0 (by omega)
      have hc00 := hc0 0 hm
      have hsome : ∃ v, cs0[0]? = some v := ⟨cs0[0]'(by omega), by simp [show 0 < cs0.length by omega]⟩
      obtain ⟨v0, hv0⟩ := hsome
      rw [hv0] at hc00
      simp only [Nat.zero_mul, Nat.add_zero, Addr.add, if_true] at hc00
      obtain ⟨b, o, spot⟩ := a
      cases spot with
      | some x =>
        simp only [World.cell?] at hc00
        split at hc00
        · simp at hc00
        · cases hc00
      | none =>
        obtain ⟨cells, T, fz, hh, _⟩ := cell_inv hc00
        have : ∀ n, n ≤ len → ∃ l : List α, l.length = n ∧ ∀ i (hi : i < l.length), ∃ vs, vs.length = m ∧ R l[i] vs ∧ ∀ j, j < m → cells[o + i * m + j]? = vs[j]? := by
          intro n
          induction n with
          | zero => intro _; exact ⟨[], rfl, fun i hi => absurd hi (by simp)⟩
          | succ n ih =>
            intro hn
            obtain ⟨l, hl', hall⟩ := ih (by omega)
            obtain ⟨y, cs', h1, h2, h3⟩ := each n (by omega)
            refine ⟨l ++ [y], by simp [hl'], fun i hi => ?_⟩
            by_cases hin : i < l.length
            · obtain ⟨vs, g1, g2, g3⟩ := hall i hin
              exact ⟨vs, g1, by rw [List.getElem_append_left hin]; exact g2, g3⟩
            · have : i = n := by simp at hi; omega
              subst this
              refine ⟨cs', h1, ?_, fun j hj => ?_⟩
              · rw [List.getElem_append_right (by omega)]; simpa using h2
              · rw [← h3 j hj]
                have hadd : ∀ k, (⟨b, o, none⟩ : Addr).add k = ⟨b, o + k, none⟩ := by
                  intro k; unfold Addr.add; split
                  · simp_all
                  · rfl
                rw [hadd, cell_of hh, Nat.add_assoc]
        obtain ⟨l, hl', hall⟩ := this len (Nat.le_refl _)
        subst hl'
        exact ⟨l, _, rfl, ⟨some ⟨b, o, none⟩, q, rfl, hl, hmax, fun _ => ⟨b, o, cells, T, fz, rfl, hh, hall⟩⟩, hbytes⟩⟩
theorem wt_each {H : Type} : ∀ {ts : List TypeId} {ds : List (DataW H)} {j : Nat} {t : TypeId} {d : DataW H}, ts[j]? = some t → ds[j]? = some d → (∀ n ∈ DataW.weightsEach P ts ds, n ≤ reachBytes) → Wt P t d :=
  fun ht hd h n hn => h n (DataW.weights_mem_each ht hd n hn)
/-- a struct whose fields are of one cell each -/
theorem open_fields {fs : Array Field} (ht : P.underlying t = some (.struct fs)) (hone : (fs.toList.zipIdx.all fun x => Nat.beq x.1.offset x.2 && Nat.beq (P.cellsOf x.1.type) 1) = true) (hct : P.cellsOf t = fs.size)
    {H : Type} (enc : TypeId × Value → H) (fuel : Nat) (cs : List Value) (d : DataW H) (ps : List MemPlace) (h : DataW.trod enc P w 0 (fun _ => true) true fuel t cs = some (d, ps)) (hw : Wt P t d) :
    cs.length = fs.size ∧ ∀ (i : Nat) (f : Field), fs[i]? = some f → ∃ v, cs[i]? = some v ∧ ∀ {α : Type} {R : α → List Value → Prop}, Opens P w f.type R → ∃ x, R x [v] := by
  obtain ⟨xs, n, rfl, e, hl, hxl, hf⟩ := DataW.trod_struct ht h
  simp only [Prod.mk.injEq] at e
  rw [hct] at hl
  refine ⟨hl, fun i f hfi => ?_⟩
  have hi : i < fs.size := by
    rcases Nat.lt_or_ge i fs.size with h' | h'
    · exact h'
    · simp [Array.getElem?_eq_none h'] at hfi
  have h1 := List.all_eq_true.1 hone (f, i) (by
    rw [List.mem_zipIdx_iff_getElem?]
    simpa using hfi)
  simp only [Bool.and_eq_true] at h1
  have ho : f.offset = i := Nat.eq_of_beq_eq_true h1.1
  have hc1 : P.cellsOf f.type = 1 := Nat.eq_of_beq_eq_true h1.2
  have hg := hf i f hfi
  have hcs : i < cs.length := by omega
  rw [ho, hc1, List.drop_eq_getElem_cons hcs, List.take_succ_cons, List.take_zero] at hg
  refine ⟨cs[i], by simp [hcs], fun {α R} hR => ?_⟩
  have hxi : i < xs.length := by omega
  rw [List.getElem?_eq_getElem hxi] at hg
  refine hR.go enc n [cs[i]] (xs[i]).1 (xs[i]).2 hg ?_
  intro k hk
  refine hw k ?_
  rw [e.1]
  simp only [DataW.weights, ht]
  exact DataW.weights_mem_each (j := i) (t := f.type) (d := (xs[i]).1) (by simp [hfi]) (by simp [hxi]) k hk
/-- a pair of texts -/
def IsPr (p : List UInt8 × List UInt8) (vs : List Value) : Prop := vs = [str p.1, str p.2] ∧ p.1.length ≤ reachBytes ∧ p.2.length ≤ reachBytes
theorem two_cells {cs : List Value} {v0 v1 : Value} (hl : cs.length = 2) (h0 : cs[0]? = some v0) (h1 : cs[1]? = some v1) : cs = [v0, v1] := by
  match cs, hl with
  | [a, b], _ => simp at h0 h1; rw [h0, h1]
theorem opens_pr {f0 f1 : Field} (ht : P.underlying t = some (.struct #[f0, f1])) (hone : ((#[f0, f1] : Array Field).toList.zipIdx.all fun x => Nat.beq x.1.offset x.2 && Nat.beq (P.cellsOf x.1.type) 1) = true) (hct : P.cellsOf t = 2)
    (t0 : P.underlying f0.type = some .string) (t1 : P.underlying f1.type = some .string) : Opens P w t IsPr := ⟨fun enc fuel cs d ps h hw => by
  obtain ⟨hl, hf⟩ := open_fields ht hone hct enc fuel cs d ps h hw
  obtain ⟨v0, e0, g0⟩ := hf 0 f0 rfl
  obtain ⟨v1, e1, g1⟩ := hf 1 f1 rfl
  obtain ⟨s0, k0, b0⟩ := g0 (opens_str t0)
  obtain ⟨s1, k1, b1⟩ := g1 (opens_str t1)
  simp only [List.cons.injEq, and_true] at k0 k1
  refine ⟨(s0, s1), ?_, b0, b1⟩
  rw [two_cells hl e0 e1, k0, k1]⟩
/-- an argument -/
theorem open_arg {α : Type} {R : α → List Value → Prop} (hR : Opens P w t R) {H : Type} {enc : TypeId × Value → H} {v : Value} {d : DataW H} {ps : List MemPlace} (h : DataW.Trod enc P w 0 (fun _ => true) true t v d ps) (hw : Wt P t d) : ∃ x, R x v.cells.toList := by
  obtain ⟨fuel, hf⟩ := h
  exact hR.go enc fuel _ d ps hf hw
theorem sl_slS {M : Ghost} {v : Value} {l : List (List UInt8)} (h : Sl M 1 (fun s vs => vs = [str s] ∧ s.length ≤ reachBytes) v l) : SlS M v l ∧ ∀ s ∈ l, s.length ≤ reachBytes := by
  refine ⟨h.mono (fun _ _ h => h) (fun _ _ _ h => h.1), fun s hs => ?_⟩
  obtain ⟨_, _, _, _, _, h4⟩ := h
  obtain ⟨b, o, cs, T, fz, _, _, h7⟩ := h4 (by rintro rfl; cases hs)
  obtain ⟨i, hi, rfl⟩ := List.mem_iff_getElem.1 hs
  obtain ⟨vs, _, hR, _⟩ := h7 i hi
  exact hR.2
theorem sl_slP {M : Ghost} {v : Value} {l : List (List UInt8 × List UInt8)} (h : Sl M 2 IsPr v l) : SlP M v l ∧ ∀ p ∈ l, p.1.length ≤ reachBytes ∧ p.2.length ≤ reachBytes := by
  refine ⟨h.mono (fun _ _ h => h) (fun _ _ _ h => h.1), fun s hs => ?_⟩
  obtain ⟨_, _, _, _, _, h4⟩ := h
  obtain ⟨b, o, cs, T, fz, _, _, h7⟩ := h4 (by rintro rfl; cases hs)
  obtain ⟨i, hi, rfl⟩ := List.mem_iff_getElem.1 hs
  obtain ⟨vs, _, hR, _⟩ := h7 i hi
  exact hR.2
end
end Go.Eng
/-
  The arguments of this program's laws, opened, with the sizes that a row allows.
-/
namespace Go.Proofs.YtmfelfhingmmbaaGreatDoor
open Go.ChangeShapes Go.WideShapes Go.RowKit Go.Eng Go.Pct
set_option maxRecDepth 100000
set_option linter.unusedVariables false
set_option linter.unusedSimpArgs false

variable {H : Type} {enc : TypeId × Value → H} {W : World} {base : Nat} {v : Value} {d : DataW H} {ps : List MemPlace}
theorem reach_le {n : Nat} (h : n ≤ reachBytes) : n ≤ 140737488355328 := Nat.le_trans h (by decide)
theorem small_of {l : List Pr} (h : ∀ p ∈ l, p.1.length ≤ reachBytes ∧ p.2.length ≤ reachBytes) : Small 140737488355328 l := fun p hp => ⟨reach_le (h p hp).1, reach_le (h p hp).2⟩
theorem opn_str : Opens Tryz.prog W 9 (fun s vs => vs = [str s] ∧ s.length ≤ reachBytes) := opens_str Tryz.underlying9
theorem opn_pr : Opens Tryz.prog W 41 IsPr := opens_pr Tryz.underlying41 (by kernel_rfl) (by kernel_rfl) Tryz.underlying9 Tryz.underlying9
theorem opn_prs : Opens Tryz.prog W 32 (fun (l : List Pr) vs => ∃ v, vs = [v] ∧ Sl (All W) 2 IsPr v l ∧ l.length * Tryz.prog.bytesOf 41 ≤ reachBytes) := opens_slice Tryz.underlying32 (by kernel_rfl) (by decide) opn_pr
theorem opn_strs : Opens Tryz.prog W 42 (fun (l : List (List UInt8)) vs => ∃ v, vs = [v] ∧ Sl (All W) 1 (fun s vs => vs = [str s] ∧ s.length ≤ reachBytes) v l ∧ l.length * Tryz.prog.bytesOf 9 ≤ reachBytes) := opens_slice Tryz.underlying42 (by kernel_rfl) (by decide) opn_str

theorem arg_str (hval : Value.okWide Tryz.prog W .any base 9 v) (hd : DataW.Trod enc Tryz.prog W 0 (fun _ => true) true 9 v d ps) (hw : Wt Tryz.prog 9 d) : ∃ s, v = str s ∧ s.length ≤ reachBytes := by
  obtain ⟨s0, rfl⟩ := okWide_string Tryz.underlying9 hval
  obtain ⟨s, hs, hl⟩ := open_arg opn_str hd hw
  simp only [Value.cells, List.cons.injEq, and_true] at hs
  exact ⟨s, hs, hl⟩
theorem arg_bool (hval : Value.okWide Tryz.prog W .any base 4 v) : ∃ b, v = .bool b := okWide_bool Tryz.underlying4 hval
theorem arg_int (hval : Value.okWide Tryz.prog W .any base 3 v) (hd : DataW.Trod enc Tryz.prog W 0 (fun _ => true) true 3 v d ps) (hw : Wt Tryz.prog 3 d) : ∃ z : Int, v = i64 z ∧ -9223372036854775808 ≤ z ∧ z ≤ 9223372036854775807 := by
  obtain ⟨z0, rfl⟩ := okWide_int Tryz.underlying3 hval
  obtain ⟨z, hz, h1, h2⟩ := open_arg (opens_int Tryz.underlying3) hd hw
  simp only [Value.cells, List.cons.injEq, and_true] at hz
  exact ⟨z, hz, h1, h2⟩
theorem arg_u8 (hval : Value.okWide Tryz.prog W .any base 5 v) (hd : DataW.Trod enc Tryz.prog W 0 (fun _ => true) true 5 v d ps) (hw : Wt Tryz.prog 5 d) : ∃ c : UInt8, v = byt c := by
  obtain ⟨z0, rfl⟩ := okWide_int Tryz.underlying5 hval
  obtain ⟨z, hz, h1, h2⟩ := open_arg (opens_int Tryz.underlying5) hd hw
  simp only [Value.cells, List.cons.injEq, and_true] at hz
  rw [hz]
  have h1 : (0 : Int) ≤ z := h1
  have h2 : z ≤ 255 := h2
  refine ⟨UInt8.ofNat z.toNat, ?_⟩
  have h3 : ((UInt8.ofNat z.toNat).toNat : Int) = z := by
    have : z.toNat < 256 := by omega
    simp [Nat.mod_eq_of_lt this]; omega
  rw [byt, h3]
theorem arg_prs (hval : Value.okWide Tryz.prog W .any base 32 v) (hd : DataW.Trod enc Tryz.prog W 0 (fun _ => true) true 32 v d ps) (hw : Wt Tryz.prog 32 d) : ∃ l : List Pr, SlP (All W) v l ∧ Small 140737488355328 l := by
  obtain ⟨a0, len, cap, rfl⟩ := okWide_slice Tryz.underlying32 hval
  obtain ⟨l, u, hu, hl, _⟩ := open_arg opn_prs hd hw
  simp only [Value.cells, List.cons.injEq, and_true] at hu
  subst hu
  exact ⟨l, (sl_slP hl).1, small_of (sl_slP hl).2⟩
theorem arg_strs (hval : Value.okWide Tryz.prog W .any base 42 v) (hd : DataW.Trod enc Tryz.prog W 0 (fun _ => true) true 42 v d ps) (hw : Wt Tryz.prog 42 d) : ∃ l : List (List UInt8), SlS (All W) v l ∧ ∀ s ∈ l, s.length ≤ 140737488355328 := by
  obtain ⟨a0, len, cap, rfl⟩ := okWide_slice Tryz.underlying42 hval
  obtain ⟨l, u, hu, hl, _⟩ := open_arg opn_strs hd hw
  simp only [Value.cells, List.cons.injEq, and_true] at hu
  subst hu
  exact ⟨l, (sl_slS hl).1, fun s hs => reach_le ((sl_slS hl).2 s hs)⟩
theorem arg_agg {t : TypeId} {fs : Array Field} (ht : Tryz.prog.underlying t = some (.struct fs)) (hval : Value.okWide Tryz.prog W .any base t v) : ∃ cs, v = .agg cs := by
  simp only [Value.okWide, ht] at hval
  obtain ⟨cs, h, _⟩ := hval
  exact ⟨cs, h⟩
theorem three_cells {cs : List Value} {v0 v1 v2 : Value} (hl : cs.length = 3) (h0 : cs[0]? = some v0) (h1 : cs[1]? = some v1) (h2 : cs[2]? = some v2) : cs = [v0, v1, v2] := by
  match cs, hl with
  | [a, b, c], _ => simp at h0 h1 h2; rw [h0, h1, h2]
theorem four_cells {cs : List Value} {v0 v1 v2 v3 : Value} (hl : cs.length = 4) (h0 : cs[0]? = some v0) (h1 : cs[1]? = some v1) (h2 : cs[2]? = some v2) (h3 : cs[3]? = some v3) : cs = [v0, v1, v2, v3] := by
  match cs, hl with
  | [a, b, c, d], _ => simp at h0 h1 h2 h3; rw [h0, h1, h2, h3]
end Go.Proofs.YtmfelfhingmmbaaGreatDoor
/-
  Arguments: cookies, slices of cookies.
-/
namespace Go.Proofs.YtmfelfhingmmbaaGreatDoor
open Go.ChangeShapes Go.WideShapes Go.RowKit Go.Eng Go.Pct Go.Ck
set_option maxRecDepth 100000
set_option linter.unusedSimpArgs false
set_option linter.unusedVariables false
variable {H : Type} {enc : TypeId × Value → H} {W : World} {base : Nat} {v : Value} {d : DataW H} {ps : List MemPlace}
theorem six_cells {cs : List Value} {v0 v1 v2 v3 v4 v5 : Value} (hl : cs.length = 6) (h0 : cs[0]? = some v0) (h1 : cs[1]? = some v1) (h2 : cs[2]? = some v2) (h3 : cs[3]? = some v3) (h4 : cs[4]? = some v4) (h5 : cs[5]? = some v5) : cs = [v0, v1, v2, v3, v4, v5] := by
  match cs, hl with
  | [a, b, c, d, e, f], _ => simp at h0 h1 h2 h3 h4 h5; rw [h0, h1, h2, h3, h4, h5]
theorem sm_reach {c : Ckie} (h : c.name.length ≤ reachBytes ∧ c.value.length ≤ reachBytes ∧ c.path.length ≤ reachBytes) : SmC c := ⟨Nat.le_trans h.1 (by decide), Nat.le_trans h.2.1 (by decide), Nat.le_trans h.2.2 (by decide)⟩
theorem opn_ck : Opens Tryz.prog W 23 (fun (c : Ckie) vs => vs = ckCells c ∧ SmC c) := ⟨fun enc fuel cs d ps h hw => by
  obtain ⟨hlen, hfs⟩ := open_fields Tryz.underlying23 (by kernel_rfl) (by kernel_rfl) enc fuel cs d ps h hw
  obtain ⟨v0, e0, g0⟩ := hfs 0 _ rfl
  obtain ⟨v1, e1, g1⟩ := hfs 1 _ rfl
  obtain ⟨v2, e2, g2⟩ := hfs 2 _ rfl
  obtain ⟨v3, e3, g3⟩ := hfs 3 _ rfl
  obtain ⟨v4, e4, g4⟩ := hfs 4 _ rfl
  obtain ⟨v5, e5, g5⟩ := hfs 5 _ rfl
  obtain ⟨a, ha, ha2⟩ := g0 opn_str
  obtain ⟨b, hb, hb2⟩ := g1 opn_str
  obtain ⟨c, hc, hc2⟩ := g2 opn_str
  obtain ⟨z, hz, _⟩ := g3 (opens_int Tryz.underlying3)
  obtain ⟨k, hk⟩ := g4 (opens_bool Tryz.underlying4)
  obtain ⟨m, hm⟩ := g5 (opens_bool Tryz.underlying4)
  simp only [List.cons.injEq, and_true] at ha hb hc hz hk hm
  have h6 := six_cells hlen e0 e1 e2 e3 e4 e5
  refine ⟨⟨a, b, c, z, k, m⟩, ?_, sm_reach ⟨ha2, hb2, hc2⟩⟩
  rw [h6, ha, hb, hc, hz, hk, hm]; rfl⟩
theorem arg_ck (hval : Value.okWide Tryz.prog W .any base 23 v) (hd : DataW.Trod enc Tryz.prog W 0 (fun _ => true) true 23 v d ps) (hw : Wt Tryz.prog 23 d) : ∃ c : Ckie, v = .agg (ckCells c).toArray ∧ SmC c := by
  obtain ⟨cs, rfl⟩ := arg_agg Tryz.underlying23 hval
  obtain ⟨c, hc, hs⟩ := open_arg opn_ck hd hw
  have hc : cs.toList = ckCells c := hc
  exact ⟨c, by rw [← hc, Array.toArray_toList], hs⟩
theorem arg_cks (hval : Value.okWide Tryz.prog W .any base 56 v) (hd : DataW.Trod enc Tryz.prog W 0 (fun _ => true) true 56 v d ps) (hw : Wt Tryz.prog 56 d) : ∃ l : List Ckie, SlC (All W) v l := by
  obtain ⟨a0, len, cap, rfl⟩ := okWide_slice Tryz.underlying56 hval
  obtain ⟨l, u, hu, hl, _⟩ := open_arg (opens_slice (m := 6) Tryz.underlying56 (by kernel_rfl) (by decide) opn_ck) hd hw
  simp only [Value.cells, List.cons.injEq, and_true] at hu
  subst hu
  exact ⟨l, hl.mono (fun _ _ h => h) (fun _ _ _ h => h.1)⟩
end Go.Proofs.YtmfelfhingmmbaaGreatDoor
/-
  The frames' common part: what a row's world holds; a world for the witness.
-/
namespace Go.Proofs.YtmfelfhingmmbaaGreatDoor
open Go.ChangeShapes Go.WideShapes Go.ChangeAt Go.RowKit Go.Eng Go.Pct
set_option maxRecDepth 100000

theorem own : ownKnob Tryz.prog.godebug = none := by kernel_rfl
theorem gPowT : (Tryz.prog.globals[3]?).map (·.type) = some 113 := by kernel_rfl
theorem cellsPow : Tryz.prog.cellsOf 113 = 20 := by kernel_rfl
theorem cellsU64 : Tryz.prog.cellsOf 94 = 1 := by kernel_rfl
/-- what is asked of a row's list -/
structure Lists (l : List (String × DataW Unit)) : Prop where
  pow : l.filter (fun x => x.1 == "internal/strconv.uint64pow10") = [("internal/strconv.uint64pow10", Lib.tabData .u64 Lib.pow10Tab)]
theorem glob_of {W : World} {l : List (String × DataW Unit)} (hl : Lists l) (h : laidMetH Tryz.prog l W) (hsh : W.ShapedOpen Tryz.prog) : Glob (All W) := by
  constructor
  · obtain ⟨m, hm⟩ := (Tryz.laysM219).s1_3 W hsh
    obtain ⟨cs, T, fz, hh, h2⟩ := cell_inv hm
    exact ⟨cs, T, fz, m, hh, h2⟩
  · have h1 := h.filter (fun x => x.1 == "internal/strconv.uint64pow10")
    rw [hl.pow, Go.MakeChecks.laidMetH_plain _ _ _ (by rfl)] at h1
    have ht := Lib.tabIs_of_head (rest := []) gPow gPowT Tryz.underlying113 Tryz.underlying94 cellsU64 cellsPow h1
    unfold Lib.TabIs World.var? at ht
    rw [gPow, Option.bind_some] at ht
    split at ht
    · rename_i cs T fz hh
      simp only [Option.some.injEq] at ht
      exact ⟨T, fz, by rw [← ht]; exact hh⟩
    · cases ht

theorem laidOut : laidOutB Tryz.prog = true := by kernel_rfl
theorem trodAll_below {H : Type} {enc : TypeId × Value → H} {P : Program} (hl : laidOutB P = true) {W W' : World} (hb : Below W.heap.size W W') : ∀ {ts : List TypeId} {vs : List Value} {ds : List (DataW H)} {ps : List MemPlace},
    (ts.all fun t => P.readableRec t && decide (t < P.types.size)) = true → DataW.TrodAll enc P W 0 (fun _ => true) true ts vs ds ps → (∀ x ∈ ps, x.block < W.heap.size) → DataW.TrodAll enc P W' 0 (fun b => decide (b < W.heap.size)) true ts vs ds ps
  | [], [], [], _, _, h, _ => h
  | _ :: _, _ :: _, _ :: _, _, hT, ⟨p, q, h1, h2, e⟩, hs => by
    simp only [List.all_cons, Bool.and_eq_true, decide_eq_true_eq] at hT
    exact ⟨p, q, Below.trod hl hT.1.1 hT.1.2 h1 hb (fun x hx => hs x (by rw [e]; exact List.mem_append_left _ hx)), trodAll_below hl hb hT.2 h2 (fun x hx => hs x (by rw [e]; exact List.mem_append_right _ hx)), e⟩
/-- what a table's datum lays -/
def cellsD : Nat → DataW Unit → List Value
  | 0, _ => []
  | n + 1, .agg l => l.flatMap (cellsD n)
  | _ + 1, .lit (.int k z) => [.int k z]
  | _ + 1, .lit (.string s) => [.string ⟨s.toArray⟩]
  | _, _ => []
def layAt (d : DataW Unit) : Obj → Obj
  | .cells _ t fz => .cells (cellsD 5 d).toArray t fz
  | o => o
/-- A world for the witness: the settled one, the tables holding what their initialisers lay. -/
noncomputable def laidWorld (os : Os) (l : List (String × DataW Unit)) : World :=
  { World.holding Tryz.prog os ⟨#[], #[], []⟩ with heap := l.foldl (fun h x => match Tryz.prog.globalNamed x.1 with | some g => h.modify g (layAt x.2) | none => h) (World.holding Tryz.prog os ⟨#[], #[], []⟩).heap }
theorem noStand (t : TypeId) (ts : Array TypeId) (h : ts.all (fun t => !Tryz.prog.wantsStandIn t) = true) (j : Nat) (ht : ts[j]? = some t) : Tryz.prog.wantsStandIn t = false := by
  have := (Array.all_eq_true'.1 h) t (Array.mem_of_getElem? ht)
  simpa using this
theorem sizes_of {H : Type} {ts us : List TypeId} {ds gs : List (DataW H)} (h : (DataW.weightsEach Tryz.prog (ts ++ us) (ds ++ gs)).all (· ≤ reachBytes) = true) {j : Nat} {t : TypeId} {d : DataW H} (ht : (ts ++ us)[j]? = some t) (hd : (ds ++ gs)[j]? = some d) : Wt Tryz.prog t d :=
  wt_each ht hd (fun n hn => by simpa using List.all_eq_true.1 h n hn)
end Go.Proofs.YtmfelfhingmmbaaGreatDoor
