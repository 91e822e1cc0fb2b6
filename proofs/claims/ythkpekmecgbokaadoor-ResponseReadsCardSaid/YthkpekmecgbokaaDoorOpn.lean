/-
  Arguments opened: what the reading of an argument says of memory, with the sizes that a row allows. Nothing of the program stands here.
-/
import Derived.Test.YthkpekmecgbokaaDoorEngF
import Derived.Deep.Slices
import Derived.ChangeSame
import Derived.SizedLaws
import Derived.WideShapes
import Derived.DataReads
namespace Go.Eng
open Go.RowKit Go.ChangeShapes Go.WideShapes

/-- all that stands in a world -/
def All (W : World) : Ghost := fun b o => W.heap[b]? = some o
theorem all_laid (W : World) : Laid (All W) W := fun _ _ h => h
theorem cell_inv {W : World} {g i : Nat} {v : Value} (h : W.cell? ⟨g, i, none⟩ = some v) : ∃ cs T fz, W.heap[g]? = some (.cells cs T fz) ∧ cs[i]? = some v := by
  unfold World.cell? at h
  split at h
  · rename_i cs T fz e; exact ⟨cs, T, fz, e, by simpa using h⟩
  · cases h
/-- a datum's sizes -/
def Wt {H : Type} (P : Program) (t : TypeId) (d : DataW H) : Prop := ∀ n ∈ d.weights P t, n ≤ reachBytes
/-- how the cells of a type open -/
structure Opens (P : Program) (w : World) (t : TypeId) {α : Type} (R : α → List Value → Prop) : Prop where
  go : ∀ {H : Type} (enc : TypeId × Value → H) (fuel : Nat) (cs : List Value) (d : DataW H) (ps : List MemPlace), DataW.trod enc P w 0 (fun _ => true) true fuel t cs = some (d, ps) → Wt P t d → ∃ x, R x cs
section
variable {P : Program} {w : World} {t : TypeId}
theorem str_of (s : ByteArray) : Value.string s = str s.data.toList := by cases s; simp
theorem opens_str (ht : P.underlying t = some .string) : Opens P w t (fun s vs => vs = [str s] ∧ s.length ≤ reachBytes) := ⟨fun enc fuel cs d ps h hw => by
  obtain ⟨s, e1, e2, _⟩ := DataW.trod_string ht h
  simp only [Prod.mk.injEq] at e2
  refine ⟨s.data.toList, by rw [e1, str_of], ?_⟩
  exact hw _ (by rw [e2.1]; simp [DataW.weights])⟩
theorem opens_bool (ht : P.underlying t = some .bool) : Opens P w t (fun b vs => vs = [.bool b]) := ⟨fun enc fuel cs d ps h hw => by
  cases fuel with
  | zero => simp [DataW.trod] at h
  | succ n =>
    unfold DataW.trod at h
    rw [ht] at h
    split at h <;> simp_all⟩
theorem opens_int {k : IntKind} (ht : P.underlying t = some (.int k)) : Opens P w t (fun z vs => vs = [.int k z] ∧ k.min ≤ z ∧ z ≤ k.max) := ⟨fun enc fuel cs d ps h hw => by
  obtain ⟨z, e1, _, hwf⟩ := DataW.trod_int ht h
  refine ⟨z, e1, ?_⟩
  simpa [Lit.wf] using hwf⟩
theorem wt_all {H : Type} {e : TypeId} {d : DataW H} : ∀ {ds : List (DataW H)}, d ∈ ds → ∀ n ∈ d.weights P e, n ∈ DataW.weightsAll P e ds
  | x :: ds, hd, n, hn => by
    simp only [DataW.weightsAll, List.mem_append]
    rcases List.mem_cons.1 hd with rfl | hd
    · exact .inl hn
    · exact .inr (wt_all hd n hn)
theorem opens_slice {e : TypeId} {m : Nat} {α : Type} {R : α → List Value → Prop} (ht : P.underlying t = some (.slice e)) (hc : P.cellsOf e = m) (hm : 0 < m) (he : Opens P w e R) :
    Opens P w t (fun (l : List α) vs => ∃ v, vs = [v] ∧ Sl (All w) m R v l ∧ l.length * P.bytesOf e ≤ reachBytes) := ⟨fun enc fuel cs d ps h hw => by
  rcases Go.Deep.open_slice ht h with ⟨rfl, _⟩ | ⟨a, len, cap, q, n, D, Pl, rfl, _, hl, hcm, hq, hx, hel⟩
  · exact ⟨[], _, rfl, sl_nil, by simp⟩
  · simp only [if_true] at hq
    subst hq
    simp only [Prod.mk.injEq] at hx
    have hwt : ∀ i, i < len → Wt P e (D i) := by
      intro i hi k hk
      refine hw k ?_
      rw [hx.1]
      simp only [DataW.weights, ht, List.mem_cons, List.mem_append]
      exact .inr (.inl (wt_all (List.mem_map.2 ⟨i, by simpa using hi, rfl⟩) k hk))
    have hbytes : len * P.bytesOf e ≤ reachBytes := by
      refine Nat.le_trans (Nat.mul_le_mul_right _ (Nat.le_add_right len (q - len))) (hw ((len + (q - len)) * P.bytesOf e) ?_)
      rw [hx.1]
      simp [DataW.weights, ht]
    have each : ∀ i, i < len → ∃ y : α, ∃ cs' : List Value, cs'.length = m ∧ R y cs' ∧ ∀ j, j < m → w.cell? (a.add (i * m + j)) = cs'[j]? := by
      intro i hi
      obtain ⟨cs', h1, h2⟩ := hel i (by omega)
      rw [hc] at h1
      obtain ⟨_, hlen, hcell⟩ := World.cells?_some h1
      obtain ⟨y, hy⟩ := he.go enc n cs' (D i) (Pl i) h2 (hwt i hi)
      exact ⟨y, cs', hlen, hy, fun j hj => by rw [← hcell j hj, Go.Deep.add_add]⟩
    have hmax : len ≤ 9223372036854775807 := by unfold maxLen at hcm; omega
    by_cases h0 : len = 0
    · subst h0
      exact ⟨[], _, rfl, ⟨some a, q, rfl, Nat.zero_le _, by simp, fun h => absurd rfl h⟩, by simp⟩
    · obtain ⟨y0, cs0, hl0, _, hc0⟩ := each 0 (by omega)
      have hc00 := hc0 0 hm
      have hsome : ∃ v, cs0[0]? = some v := ⟨cs0[0]'(by omega), by simp [show 0 < cs0.length by omega]⟩
      obtain ⟨v0, hv0⟩ := hsome
      rw [hv0] at hc00
      simp only [Nat.zero_mul, Nat.add_zero, Addr.add, if_true] at hc00
      obtain ⟨b, o, spot⟩ := a
      cases spot with
      | some x =>
        simp only [World.cell?] at hc00
        split at hc00
        · simp at hc00
        · cases hc00
      | none =>
        obtain ⟨cells, T, fz, hh, _⟩ := cell_inv hc00
        have : ∀ n, n ≤ len → ∃ l : List α, l.length = n ∧ ∀ i (hi : i < l.length), ∃ vs, vs.length = m ∧ R l[i] vs ∧ ∀ j, j < m → cells[o + i * m + j]? = vs[j]? := by
          intro n
          induction n with
          | zero => intro _; exact ⟨[], rfl, fun i hi => absurd hi (by simp)⟩
          | succ n ih =>
            intro hn
            obtain ⟨l, hl', hall⟩ := ih (by omega)
            obtain ⟨y, cs', h1, h2, h3⟩ := each n (by omega)
            refine ⟨l ++ [y], by simp [hl'], fun i hi => ?_⟩
            by_cases hin : i < l.length
            · obtain ⟨vs, g1, g2, g3⟩ := hall i hin
              exact ⟨vs, g1, by rw [List.getElem_append_left hin]; exact g2, g3⟩
            · have : i = n := by simp at hi; omega
              subst this
              refine ⟨cs', h1, ?_, fun j hj => ?_⟩
              · rw [List.getElem_append_right (by omega)]; simpa using h2
              · rw [← h3 j hj]
                have hadd : ∀ k, (⟨b, o, none⟩ : Addr).add k = ⟨b, o + k, none⟩ := by
                  intro k; unfold Addr.add; split
                  · simp_all
                  · rfl
                rw [hadd, cell_of hh, Nat.add_assoc]
        obtain ⟨l, hl', hall⟩ := this len (Nat.le_refl _)
        subst hl'
        exact ⟨l, _, rfl, ⟨some ⟨b, o, none⟩, q, rfl, hl, hmax, fun _ => ⟨b, o, cells, T, fz, rfl, hh, hall⟩⟩, hbytes⟩⟩
theorem wt_each {H : Type} : ∀ {ts : List TypeId} {ds : List (DataW H)} {j : Nat} {t : TypeId} {d : DataW H}, ts[j]? = some t → ds[j]? = some d → (∀ n ∈ DataW.weightsEach P ts ds, n ≤ reachBytes) → Wt P t d :=
  fun ht hd h n hn => h n (DataW.weights_mem_each ht hd n hn)
/-- a struct whose fields are of one cell each -/
theorem open_fields {fs : Array Field} (ht : P.underlying t = some (.struct fs)) (hone : (fs.toList.zipIdx.all fun x => Nat.beq x.1.offset x.2 && Nat.beq (P.cellsOf x.1.type) 1) = true) (hct : P.cellsOf t = fs.size)
    {H : Type} (enc : TypeId × Value → H) (fuel : Nat) (cs : List Value) (d : DataW H) (ps : List MemPlace) (h : DataW.trod enc P w 0 (fun _ => true) true fuel t cs = some (d, ps)) (hw : Wt P t d) :
    cs.length = fs.size ∧ ∀ (i : Nat) (f : Field), fs[i]? = some f → ∃ v, cs[i]? = some v ∧ ∀ {α : Type} {R : α → List Value → Prop}, Opens P w f.type R → ∃ x, R x [v] := by
  obtain ⟨xs, n, rfl, e, hl, hxl, hf⟩ := DataW.trod_struct ht h
  simp only [Prod.mk.injEq] at e
  rw [hct] at hl
  refine ⟨hl, fun i f hfi => ?_⟩
  have hi : i < fs.size := by
    rcases Nat.lt_or_ge i fs.size with h' | h'
    · exact h'
    · simp [Array.getElem?_eq_none h'] at hfi
  have h1 := List.all_eq_true.1 hone (f, i) (by
    rw [List.mem_zipIdx_iff_getElem?]
    simpa using hfi)
  simp only [Bool.and_eq_true] at h1
  have ho : f.offset = i := Nat.eq_of_beq_eq_true h1.1
  have hc1 : P.cellsOf f.type = 1 := Nat.eq_of_beq_eq_true h1.2
  have hg := hf i f hfi
  have hcs : i < cs.length := by omega
  rw [ho, hc1, List.drop_eq_getElem_cons hcs, List.take_succ_cons, List.take_zero] at hg
  refine ⟨cs[i], by simp [hcs], fun {α R} hR => ?_⟩
  have hxi : i < xs.length := by omega
  rw [List.getElem?_eq_getElem hxi] at hg
  refine hR.go enc n [cs[i]] (xs[i]).1 (xs[i]).2 hg ?_
  intro k hk
  refine hw k ?_
  rw [e.1]
  simp only [DataW.weights, ht]
  exact DataW.weights_mem_each (j := i) (t := f.type) (d := (xs[i]).1) (by simp [hfi]) (by simp [hxi]) k hk
/-- a pair of texts -/
def IsPr (p : List UInt8 × List UInt8) (vs : List Value) : Prop := vs = [str p.1, str p.2] ∧ p.1.length ≤ reachBytes ∧ p.2.length ≤ reachBytes
theorem two_cells {cs : List Value} {v0 v1 : Value} (hl : cs.length = 2) (h0 : cs[0]? = some v0) (h1 : cs[1]? = some v1) : cs = [v0, v1] := by
  match cs, hl with
  | [a, b], _ => simp at h0 h1; rw [h0, h1]
theorem opens_pr {f0 f1 : Field} (ht : P.underlying t = some (.struct #[f0, f1])) (hone : ((#[f0, f1] : Array Field).toList.zipIdx.all fun x => Nat.beq x.1.offset x.2 && Nat.beq (P.cellsOf x.1.type) 1) = true) (hct : P.cellsOf t = 2)
    (t0 : P.underlying f0.type = some .string) (t1 : P.underlying f1.type = some .string) : Opens P w t IsPr := ⟨fun enc fuel cs d ps h hw => by
  obtain ⟨hl, hf⟩ := open_fields ht hone hct enc fuel cs d ps h hw
  obtain ⟨v0, e0, g0⟩ := hf 0 f0 rfl
  obtain ⟨v1, e1, g1⟩ := hf 1 f1 rfl
  obtain ⟨s0, k0, b0⟩ := g0 (opens_str t0)
  obtain ⟨s1, k1, b1⟩ := g1 (opens_str t1)
  simp only [List.cons.injEq, and_true] at k0 k1
  refine ⟨(s0, s1), ?_, b0, b1⟩
  rw [two_cells hl e0 e1, k0, k1]⟩
/-- an argument -/
theorem open_arg {α : Type} {R : α → List Value → Prop} (hR : Opens P w t R) {H : Type} {enc : TypeId × Value → H} {v : Value} {d : DataW H} {ps : List MemPlace} (h : DataW.Trod enc P w 0 (fun _ => true) true t v d ps) (hw : Wt P t d) : ∃ x, R x v.cells.toList := by
  obtain ⟨fuel, hf⟩ := h
  exact hR.go enc fuel _ d ps hf hw
theorem sl_slS {M : Ghost} {v : Value} {l : List (List UInt8)} (h : Sl M 1 (fun s vs => vs = [str s] ∧ s.length ≤ reachBytes) v l) : SlS M v l ∧ ∀ s ∈ l, s.length ≤ reachBytes := by
  refine ⟨h.mono (fun _ _ h => h) (fun _ _ _ h => h.1), fun s hs => ?_⟩
  obtain ⟨_, _, _, _, _, h4⟩ := h
  obtain ⟨b, o, cs, T, fz, _, _, h7⟩ := h4 (by rintro rfl; cases hs)
  obtain ⟨i, hi, rfl⟩ := List.mem_iff_getElem.1 hs
  obtain ⟨vs, _, hR, _⟩ := h7 i hi
  exact hR.2
theorem sl_slP {M : Ghost} {v : Value} {l : List (List UInt8 × List UInt8)} (h : Sl M 2 IsPr v l) : SlP M v l ∧ ∀ p ∈ l, p.1.length ≤ reachBytes ∧ p.2.length ≤ reachBytes := by
  refine ⟨h.mono (fun _ _ h => h) (fun _ _ _ h => h.1), fun s hs => ?_⟩
  obtain ⟨_, _, _, _, _, h4⟩ := h
  obtain ⟨b, o, cs, T, fz, _, _, h7⟩ := h4 (by rintro rfl; cases hs)
  obtain ⟨i, hi, rfl⟩ := List.mem_iff_getElem.1 hs
  obtain ⟨vs, _, hR, _⟩ := h7 i hi
  exact hR.2
end
end Go.Eng
