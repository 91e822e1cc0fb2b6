/-
  What the library's Split, Cut and Join do, and the contract of package matricularef01's Cut.
-/
import Derived.Test.YtopgbidgdfmddaaDoorPctE
import Derived.Test.YtopgbidgdfmddaaDoorPctT
import Derived.Test.YtopgbidgdfmddaaDoorShelf
namespace Go.Proofs.YtopgbidgdfmddaaDoor
open Go.Eng Go.Pct Go.Txt
set_option maxRecDepth 10000
set_option linter.unusedSimpArgs false
set_option linter.unusedVariables false

variable {M : Ghost} {w : World}

theorem maxLen_at (hG : Glob M) (hM : Laid M w) : ∃ m, w.cell? ⟨1, 0, none⟩ = some (.int .i64 m) := by
  obtain ⟨cs, T, fz, m, h1, h2⟩ := hG.maxLen
  exact ⟨m, by rw [cell_of (hM _ _ h1)]; exact h2⟩
theorem baSize (l : List UInt8) : (⟨l.toArray⟩ : ByteArray).size = l.length := by simp [ByteArray.size]
theorem split_ok (hG : Glob M) (hM : Laid M w) (s : List UInt8) (c : UInt8) (hs : s.length ≤ 1000000000) : Calls Tryd.prog 36 #[str s, str [c]] w (RetS M w (fun M' H v => H = [] ∧ SlS M' v (pieces c s))) := by
  obtain ⟨m, hm⟩ := maxLen_at hG hM
  refine (Tryd.strings_Split ⟨s.toArray⟩ ⟨#[c]⟩ m w (by rw [baSize]; omega) hm (Nat.le_refl 1)).mono ?_
  rintro e w' ⟨rfl, rfl⟩
  rw [split_cells, split_count]
  have hst := (St.start hM).alloc (.cells ((pieces c s).map fun p => Value.string ⟨p.toArray⟩).toArray 9 (0, 0))
  refine ⟨_, [], With M [(w.heap.size, _)], rfl, fun _ _ => .inl, fun b o h => h.imp id (fun h => ?_), St.publish (H1 := [(w.heap.size, _)]) (H2 := []) hst, rfl, ?_⟩
  · simp only [List.mem_singleton, Prod.mk.injEq] at h; omega
  · refine ⟨_, _, rfl, Nat.le_refl _, by have := pieces_length c s; omega, fun _ => ⟨_, 0, _, _, _, rfl, .inr (List.Mem.head _), fun i hi => ⟨[str ((pieces c s)[i])], rfl, rfl, fun j hj => ?_⟩⟩⟩
    obtain rfl : j = 0 := by omega
    simp [hi]
theorem cut_ok (hG : Glob M) (hM : Laid M w) (s : List UInt8) (c : UInt8) (hs : s.length ≤ 1000000000) : Calls Tryd.prog 44 #[str s, str [c]] w (RetE w (.tuple #[str (s.take (idx c s)), str (s.drop (idx c s + 1)), .bool (decide (idx c s < s.length))])) := by
  obtain ⟨m, hm⟩ := maxLen_at hG hM
  refine (Tryd.strings_Cut ⟨s.toArray⟩ ⟨#[c]⟩ m w (by rw [baSize]; omega) hm).mono ?_
  rintro e w' ⟨rfl, n, rfl⟩
  refine ⟨?_, Ext.drew w n⟩
  have h := cut_idx s c
  have e1 : (⟨s.toArray⟩ : ByteArray).data.toList = s := rfl
  have e2 : (⟨#[c]⟩ : ByteArray).data.toList = [c] := rfl
  rw [e1, e2, h]
theorem join_ok (hM : Laid M w) {v : Value} {l : List (List UInt8)} (hl : SlS M v l) (sep : List UInt8) (hn : l.length ≤ 140737488355328) (hlen : (Lib.join l sep).length ≤ 100000000000000) : Calls Tryd.prog 38 #[v, str sep] w (RetE w (str (Lib.join l sep))) := by
  obtain ⟨a, cap, b, o, cs, T, fz, rfl, h1, h2, h3, h4⟩ := hl.open
  cases l with
  | nil =>
    refine (Tryd.strings_Join_none a cap ⟨sep.toArray⟩ w).mono ?_
    rintro e w' ⟨rfl, rfl⟩
    exact ⟨rfl, Keep.refl _ _⟩
  | cons x r =>
    obtain ⟨rfl, h5⟩ := h3 (by simp)
    have e1 : (((x :: r).map fun p => (⟨p.toArray⟩ : ByteArray)).map (·.data.toList)) = x :: r := by simp [List.map_map, Function.comp_def]
    have hj := Tryd.strings_Join b o cap ((x :: r).map fun p => ⟨p.toArray⟩) ⟨sep.toArray⟩ w (fun j y hy => by
      rw [List.getElem?_map] at hy
      obtain ⟨p, hp, rfl⟩ := Option.map_eq_some_iff.1 hy
      obtain ⟨hj, rfl⟩ := List.getElem?_eq_some_iff.1 hp
      rw [cell_of (hM _ _ h5)]
      have := h4 j hj
      rw [Nat.mul_one] at this
      rw [this, List.getD_eq_getElem?_getD, List.getElem?_eq_getElem hj]; rfl) (lt_of_get (hM _ _ h5)) (by simpa using hn) (by simpa using h1) (by rw [e1]; exact Nat.le_trans hlen (by decide))
    rw [e1, List.length_map] at hj
    refine hj.mono ?_
    rintro e w' ⟨rfl, hb⟩
    exact ⟨rfl, Ext.of_below hb⟩
end Go.Proofs.YtopgbidgdfmddaaDoor
