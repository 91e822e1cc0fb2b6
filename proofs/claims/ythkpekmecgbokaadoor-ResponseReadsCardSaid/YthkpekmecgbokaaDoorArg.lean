/-
  The arguments of this program's laws, opened, with the sizes that a row allows.
-/
import Derived.Test.YthkpekmecgbokaaDoorOpn
import Derived.Test.YthkpekmecgbokaaDoorPctT
import Derived.Test.YthkpekmecgbokaaDoorProg
namespace Go.Proofs.YthkpekmecgbokaaDoor
open Go.ChangeShapes Go.WideShapes Go.RowKit Go.Eng Go.Pct
set_option maxRecDepth 100000
set_option linter.unusedVariables false
set_option linter.unusedSimpArgs false

variable {H : Type} {enc : TypeId × Value → H} {W : World} {base : Nat} {v : Value} {d : DataW H} {ps : List MemPlace}
theorem reach_le {n : Nat} (h : n ≤ reachBytes) : n ≤ 140737488355328 := Nat.le_trans h (by decide)
theorem small_of {l : List Pr} (h : ∀ p ∈ l, p.1.length ≤ reachBytes ∧ p.2.length ≤ reachBytes) : Small 140737488355328 l := fun p hp => ⟨reach_le (h p hp).1, reach_le (h p hp).2⟩
theorem opn_str : Opens Tryd.prog W 9 (fun s vs => vs = [str s] ∧ s.length ≤ reachBytes) := opens_str Tryd.underlying9
theorem opn_pr : Opens Tryd.prog W 40 IsPr := opens_pr Tryd.underlying40 (by kernel_rfl) (by kernel_rfl) Tryd.underlying9 Tryd.underlying9
theorem opn_prs : Opens Tryd.prog W 22 (fun (l : List Pr) vs => ∃ v, vs = [v] ∧ Sl (All W) 2 IsPr v l ∧ l.length * Tryd.prog.bytesOf 40 ≤ reachBytes) := opens_slice Tryd.underlying22 (by kernel_rfl) (by decide) opn_pr
theorem opn_strs : Opens Tryd.prog W 33 (fun (l : List (List UInt8)) vs => ∃ v, vs = [v] ∧ Sl (All W) 1 (fun s vs => vs = [str s] ∧ s.length ≤ reachBytes) v l ∧ l.length * Tryd.prog.bytesOf 9 ≤ reachBytes) := opens_slice Tryd.underlying33 (by kernel_rfl) (by decide) opn_str

theorem arg_str (hval : Value.okWide Tryd.prog W .any base 9 v) (hd : DataW.Trod enc Tryd.prog W 0 (fun _ => true) true 9 v d ps) (hw : Wt Tryd.prog 9 d) : ∃ s, v = str s ∧ s.length ≤ reachBytes := by
  obtain ⟨s0, rfl⟩ := okWide_string Tryd.underlying9 hval
  obtain ⟨s, hs, hl⟩ := open_arg opn_str hd hw
  simp only [Value.cells, List.cons.injEq, and_true] at hs
  exact ⟨s, hs, hl⟩
theorem arg_bool (hval : Value.okWide Tryd.prog W .any base 4 v) : ∃ b, v = .bool b := okWide_bool Tryd.underlying4 hval
theorem arg_int (hval : Value.okWide Tryd.prog W .any base 3 v) (hd : DataW.Trod enc Tryd.prog W 0 (fun _ => true) true 3 v d ps) (hw : Wt Tryd.prog 3 d) : ∃ z : Int, v = i64 z ∧ -9223372036854775808 ≤ z ∧ z ≤ 9223372036854775807 := by
  obtain ⟨z0, rfl⟩ := okWide_int Tryd.underlying3 hval
  obtain ⟨z, hz, h1, h2⟩ := open_arg (opens_int Tryd.underlying3) hd hw
  simp only [Value.cells, List.cons.injEq, and_true] at hz
  exact ⟨z, hz, h1, h2⟩
theorem arg_u8 (hval : Value.okWide Tryd.prog W .any base 5 v) (hd : DataW.Trod enc Tryd.prog W 0 (fun _ => true) true 5 v d ps) (hw : Wt Tryd.prog 5 d) : ∃ c : UInt8, v = byt c := by
  obtain ⟨z0, rfl⟩ := okWide_int Tryd.underlying5 hval
  obtain ⟨z, hz, h1, h2⟩ := open_arg (opens_int Tryd.underlying5) hd hw
  simp only [Value.cells, List.cons.injEq, and_true] at hz
  rw [hz]
  have h1 : (0 : Int) ≤ z := h1
  have h2 : z ≤ 255 := h2
  refine ⟨UInt8.ofNat z.toNat, ?_⟩
  have h3 : ((UInt8.ofNat z.toNat).toNat : Int) = z := by
    have : z.toNat < 256 := by omega
    simp [Nat.mod_eq_of_lt this]; omega
  rw [byt, h3]
theorem arg_prs (hval : Value.okWide Tryd.prog W .any base 22 v) (hd : DataW.Trod enc Tryd.prog W 0 (fun _ => true) true 22 v d ps) (hw : Wt Tryd.prog 22 d) : ∃ l : List Pr, SlP (All W) v l ∧ Small 140737488355328 l := by
  obtain ⟨a0, len, cap, rfl⟩ := okWide_slice Tryd.underlying22 hval
  obtain ⟨l, u, hu, hl, _⟩ := open_arg opn_prs hd hw
  simp only [Value.cells, List.cons.injEq, and_true] at hu
  subst hu
  exact ⟨l, (sl_slP hl).1, small_of (sl_slP hl).2⟩
theorem arg_strs (hval : Value.okWide Tryd.prog W .any base 33 v) (hd : DataW.Trod enc Tryd.prog W 0 (fun _ => true) true 33 v d ps) (hw : Wt Tryd.prog 33 d) : ∃ l : List (List UInt8), SlS (All W) v l ∧ ∀ s ∈ l, s.length ≤ 140737488355328 := by
  obtain ⟨a0, len, cap, rfl⟩ := okWide_slice Tryd.underlying33 hval
  obtain ⟨l, u, hu, hl, _⟩ := open_arg opn_strs hd hw
  simp only [Value.cells, List.cons.injEq, and_true] at hu
  subst hu
  exact ⟨l, (sl_slS hl).1, fun s hs => reach_le ((sl_slS hl).2 s hs)⟩
theorem arg_agg {t : TypeId} {fs : Array Field} (ht : Tryd.prog.underlying t = some (.struct fs)) (hval : Value.okWide Tryd.prog W .any base t v) : ∃ cs, v = .agg cs := by
  simp only [Value.okWide, ht] at hval
  obtain ⟨cs, h, _⟩ := hval
  exact ⟨cs, h⟩
theorem three_cells {cs : List Value} {v0 v1 v2 : Value} (hl : cs.length = 3) (h0 : cs[0]? = some v0) (h1 : cs[1]? = some v1) (h2 : cs[2]? = some v2) : cs = [v0, v1, v2] := by
  match cs, hl with
  | [a, b, c], _ => simp at h0 h1 h2; rw [h0, h1, h2]
theorem four_cells {cs : List Value} {v0 v1 v2 v3 : Value} (hl : cs.length = 4) (h0 : cs[0]? = some v0) (h1 : cs[1]? = some v1) (h2 : cs[2]? = some v2) (h3 : cs[3]? = some v3) : cs = [v0, v1, v2, v3] := by
  match cs, hl with
  | [a, b, c, d], _ => simp at h0 h1 h2 h3; rw [h0, h1, h2, h3]
theorem arg_rsp (hval : Value.okWide Tryd.prog W .any base 24 v) (hd : DataW.Trod enc Tryd.prog W 0 (fun _ => true) true 24 v d ps) (hw : Wt Tryd.prog 24 d) :
    ∃ (st : Int) (hv : Value) (l : List Pr) (bd : List UInt8), v = .agg #[i64 st, hv, str bd] ∧ SlP (All W) hv l ∧ Small 140737488355328 l ∧ bd.length ≤ 140737488355328 := by
  obtain ⟨cs, rfl⟩ := arg_agg Tryd.underlying24 hval
  obtain ⟨fuel, hf⟩ := hd
  obtain ⟨hlen, hfs⟩ := open_fields Tryd.underlying24 (by kernel_rfl) (by kernel_rfl) enc fuel _ d ps hf hw
  obtain ⟨v0, e0, g0⟩ := hfs 0 _ rfl
  obtain ⟨v1, e1, g1⟩ := hfs 1 _ rfl
  obtain ⟨v2, e2, g2⟩ := hfs 2 _ rfl
  obtain ⟨z, hz, _⟩ := g0 (opens_int Tryd.underlying3)
  obtain ⟨l, u, hu, hl, _⟩ := g1 opn_prs
  obtain ⟨s, hs, hb⟩ := g2 opn_str
  simp only [List.cons.injEq, and_true] at hz hu hs
  have h3 := three_cells hlen e0 e1 e2
  refine ⟨z, u, l, s, ?_, (sl_slP hl).1, small_of (sl_slP hl).2, reach_le hb⟩
  rw [hz, hu, hs] at h3
  have h4 : cs.toList = [i64 z, u, str s] := h3
  have h5 : cs = #[i64 z, u, str s] := by rw [← Array.toArray_toList (xs := cs), h4]
  rw [h5]
theorem arg_req (hval : Value.okWide Tryd.prog W .any base 46 v) (hd : DataW.Trod enc Tryd.prog W 0 (fun _ => true) true 46 v d ps) (hw : Wt Tryd.prog 46 d) :
    ∃ (m t : List UInt8) (hv : Value) (l : List Pr) (bd : List UInt8), v = .agg #[str m, str t, hv, str bd] ∧ SlP (All W) hv l ∧ Small 140737488355328 l ∧ m.length ≤ 140737488355328 ∧ t.length ≤ 140737488355328 ∧ bd.length ≤ 140737488355328 := by
  obtain ⟨cs, rfl⟩ := arg_agg Tryd.underlying46 hval
  obtain ⟨fuel, hf⟩ := hd
  obtain ⟨hlen, hfs⟩ := open_fields Tryd.underlying46 (by kernel_rfl) (by kernel_rfl) enc fuel _ d ps hf hw
  obtain ⟨v0, e0, g0⟩ := hfs 0 _ rfl
  obtain ⟨v1, e1, g1⟩ := hfs 1 _ rfl
  obtain ⟨v2, e2, g2⟩ := hfs 2 _ rfl
  obtain ⟨v3, e3, g3⟩ := hfs 3 _ rfl
  obtain ⟨m, hm, hm2⟩ := g0 opn_str
  obtain ⟨t, ht, ht2⟩ := g1 opn_str
  obtain ⟨l, u, hu, hl, _⟩ := g2 opn_prs
  obtain ⟨s, hs, hb⟩ := g3 opn_str
  simp only [List.cons.injEq, and_true] at hm ht hu hs
  have h3 := four_cells hlen e0 e1 e2 e3
  refine ⟨m, t, u, l, s, ?_, (sl_slP hl).1, small_of (sl_slP hl).2, reach_le hm2, reach_le ht2, reach_le hb⟩
  rw [hm, ht, hu, hs] at h3
  have h4 : cs.toList = [str m, str t, u, str s] := h3
  have h5 : cs = #[str m, str t, u, str s] := by rw [← Array.toArray_toList (xs := cs), h4]
  rw [h5]
end Go.Proofs.YthkpekmecgbokaaDoor
