/-
  The frames of the laws of chapter 1: from the walk to the given statement.
-/
import Derived.Test.YtopgbidgdfmddaaDoorCards
import Derived.Test.YtopgbidgdfmddaaDoorTie
import Derived.Test.YtopgbidgdfmddaaDoorPctL
import Derived.WalkKit
import Derived.ProofKit
import Derived.OpenShut
import Derived.ReadAgain
import Derived.MakeChecks
import Derived.LaidSub
import Derived.ChangeMaps5
import Derived.Deep.DeepHandedRow
import Derived.Carry
import Derived.SevenTiedAt
import Derived.Deep.SlicePairs
import Derived.Lib.LaidTab
namespace Go.Proofs.YtopgbidgdfmddaaDoor
open Go.ChangeShapes Go.WideShapes Go.ChangeAt Go.RowKit Go.Eng Go.Pct
open Go.ChangeMaps (open_string)
set_option maxRecDepth 100000

/-- all that stands in a world -/
def All (W : World) : Ghost := fun b o => W.heap[b]? = some o
theorem all_laid (W : World) : Laid (All W) W := fun _ _ h => h
theorem cell_inv {W : World} {g i : Nat} {v : Value} (h : W.cell? ⟨g, i, none⟩ = some v) : ∃ cs T fz, W.heap[g]? = some (.cells cs T fz) ∧ cs[i]? = some v := by
  unfold World.cell? at h
  split at h
  · rename_i cs T fz e; exact ⟨cs, T, fz, e, by simpa using h⟩
  · cases h

def digitZ : List Int := [48, 49, 50, 51, 52, 53, 54, 55, 56, 57, 65, 66, 67, 68, 69, 70]
theorem digitZ_int : ∀ i, i < 16 → digitZ.getD i 0 = ((highS.getD i 0).toNat : Int) := by decide
theorem digitZ_at (i : Nat) (h : i < 16) : Value.int .u8 (digitZ.getD i 0) = byt (highS.getD i 0) := by rw [digitZ_int i h]
theorem gDig : Tryd.prog.globalNamed "matricula/pct.digits" = some 0 := by kernel_rfl
theorem gDigT : (Tryd.prog.globals[0]?).map (·.type) = some 67 := by kernel_rfl
theorem cellsDig : Tryd.prog.cellsOf 67 = 16 := by kernel_rfl
theorem cellsU8 : Tryd.prog.cellsOf 5 = 1 := by kernel_rfl
theorem own : ownKnob Tryd.prog.godebug = none := by kernel_rfl

theorem glob_of {W : World} {l : List (String × DataW Unit)} (hl : l = Rows.pctTellsRow.laid) (h : laidMetH Tryd.prog l W) (hsh : W.ShapedOpen Tryd.prog) : Glob (All W) := by
  subst hl
  have h1 := h.filter (fun x => x.1 == "matricula/pct.digits")
  have e : Rows.pctTellsRow.laid.filter (fun x => x.1 == "matricula/pct.digits") = [("matricula/pct.digits", Lib.tabData .u8 digitZ)] := by rfl
  rw [e, Go.MakeChecks.laidMetH_plain _ _ _ (by rfl)] at h1
  have ht := Lib.tabIs_of_head (rest := []) gDig gDigT Tryd.underlying67 Tryd.underlying5 cellsU8 cellsDig h1
  constructor
  · obtain ⟨cs, T, fz, hh, _⟩ := cell_inv (ht.cell gDig 0 (by decide))
    refine ⟨cs, T, fz, hh, fun i hi => ?_⟩
    have := ht.cell gDig i (by simpa [digitZ] using hi)
    rw [← digitZ_at i hi, ← this, cell_of hh]
  · obtain ⟨m, hm⟩ := (Tryd.laysM146).s1_3 W hsh
    obtain ⟨cs, T, fz, hh, h2⟩ := cell_inv hm
    exact ⟨cs, T, fz, m, hh, h2⟩

theorem str_of (s : ByteArray) : Value.string s = str s.data.toList := congrArg Value.string (Txt.strMk s).symm
def bytesV : Value → List UInt8
  | .string s => s.data.toList
  | _ => []
/-- an argument of pairs of texts -/
theorem open_prs {H : Type} {enc : TypeId × Value → H} {W : World} {base : Nat} {v : Value} {d : DataW H} {ps : List MemPlace} (hval : Value.okWide Tryd.prog W .any base 32 v) (hd : DataW.Trod enc Tryd.prog W 0 (fun _ => true) true 32 v d ps) : ∃ l : List Pr, SlP (All W) v l := by
  obtain ⟨a0, len, cap, rfl⟩ := okWide_slice Tryd.underlying32 hval
  obtain ⟨fuel, hf⟩ := hd
  rcases Go.Deep.open_slice_pairs Tryd.underlying32 Tryd.underlying43 (by kernel_rfl) rfl rfl (by kernel_rfl) (by kernel_rfl) hf with ⟨hcs, _⟩ | ⟨a, len', cap', m, n, V0, V1, D0, D1, P0, P1, hcs, _, hl, hm, hmm, _, hcell⟩
  · simp only [Value.cells, List.cons.injEq, and_true] at hcs
    rw [hcs]; exact ⟨[], sl_nil⟩
  · simp only [Value.cells, List.cons.injEq, and_true, Value.slice.injEq] at hcs
    obtain ⟨rfl, rfl, rfl⟩ := hcs
    simp only [if_true] at hmm
    subst hmm
    have hstr : ∀ i, i < len → W.cell? (a.add (i * 2)) = some (str (bytesV (V0 i))) ∧ W.cell? (a.add (i * 2 + 1)) = some (str (bytesV (V1 i))) := by
      intro i hi
      obtain ⟨h0, h1, h2, h3⟩ := hcell i (by omega)
      obtain ⟨s0, e0, _⟩ := DataW.trod_string Tryd.underlying9 h2
      obtain ⟨s1, e1, _⟩ := DataW.trod_string Tryd.underlying9 h3
      simp only [List.cons.injEq, and_true] at e0 e1
      rw [h0, h1, e0, e1, str_of, str_of]
      exact ⟨rfl, rfl⟩
    refine ⟨(List.range len).map fun i => (bytesV (V0 i), bytesV (V1 i)), some a, _, by simp; rfl, by simpa using hl, by simp only [List.length_map, List.length_range]; unfold maxLen at hm; omega, fun hne => ?_⟩
    have hpos : 0 < len := by
      rcases Nat.eq_zero_or_pos len with h | h
      · subst h; simp at hne
      · exact h
    have h0 := (hstr 0 hpos).1
    simp only [Nat.zero_mul, Addr.add, if_true] at h0
    obtain ⟨b, o, spot⟩ := a
    cases spot with
    | some x =>
      simp only [World.cell?] at h0
      split at h0
      · simp at h0
      · cases h0
    | none =>
      obtain ⟨cs, T, fz, hh, _⟩ := cell_inv h0
      refine ⟨b, o, cs, T, fz, rfl, hh, fun i hi => ?_⟩
      simp only [List.length_map, List.length_range] at hi
      refine ⟨[str (bytesV (V0 i)), str (bytesV (V1 i))], rfl, by simp, fun j hj => ?_⟩
      obtain ⟨h1, h2⟩ := hstr i hi
      have hadd : ∀ k, (⟨b, o, none⟩ : Addr).add k = ⟨b, o + k, none⟩ := by
        intro k; unfold Addr.add; split
        · simp_all
        · rfl
      rw [hadd, cell_of hh] at h1 h2
      match j, hj with
      | 0, _ => simpa using h1
      | 1, _ => simpa [Nat.add_assoc] using h2

theorem laidOut : laidOutB Tryd.prog = true := by kernel_rfl
theorem trodAll_below {H : Type} {enc : TypeId × Value → H} {P : Program} (hl : laidOutB P = true) {W W' : World} (hb : Below W.heap.size W W') : ∀ {ts : List TypeId} {vs : List Value} {ds : List (DataW H)} {ps : List MemPlace},
    (ts.all fun t => P.readableRec t && decide (t < P.types.size)) = true → DataW.TrodAll enc P W 0 (fun _ => true) true ts vs ds ps → (∀ x ∈ ps, x.block < W.heap.size) → DataW.TrodAll enc P W' 0 (fun b => decide (b < W.heap.size)) true ts vs ds ps
  | [], [], [], _, _, h, _ => h
  | _ :: _, _ :: _, _ :: _, _, hT, ⟨p, q, h1, h2, e⟩, hs => by
    simp only [List.all_cons, Bool.and_eq_true, decide_eq_true_eq] at hT
    exact ⟨p, q, Below.trod hl hT.1.1 hT.1.2 h1 hb (fun x hx => hs x (by rw [e]; exact List.mem_append_left _ hx)), trodAll_below hl hb hT.2 h2 (fun x hx => hs x (by rw [e]; exact List.mem_append_right _ hx)), e⟩

/-- what a table's datum lays -/
def cellsD : Nat → DataW Unit → List Value
  | 0, _ => []
  | n + 1, .agg l => l.flatMap (cellsD n)
  | _ + 1, .lit (.int k z) => [.int k z]
  | _, _ => []
def layAt (d : DataW Unit) : Obj → Obj
  | .cells _ t fz => .cells (cellsD 5 d).toArray t fz
  | o => o
/-- A world for the witness: the settled one, the tables holding what their initialisers lay. -/
noncomputable def laidWorld (os : Os) : World :=
  { World.holding Tryd.prog os ⟨#[], #[], []⟩ with heap := (((World.holding Tryd.prog os ⟨#[], #[], []⟩).heap.modify 0 (layAt Rows.laid_matricula_pct_digits)).modify 2 (layAt Rows.laid_unicode_utf8_first)).modify 3 (layAt Rows.laid_unicode_utf8_acceptRanges) }
theorem noStand (t : TypeId) (ts : Array TypeId) (h : ts.all (fun t => !Tryd.prog.wantsStandIn t) = true) (j : Nat) (ht : ts[j]? = some t) : Tryd.prog.wantsStandIn t = false := by
  have := (Array.all_eq_true'.1 h) t (Array.mem_of_getElem? ht)
  simpa using this
end Go.Proofs.YtopgbidgdfmddaaDoor
