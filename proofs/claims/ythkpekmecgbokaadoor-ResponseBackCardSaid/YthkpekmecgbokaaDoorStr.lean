/-
  The library's Cut, Split, SplitN and Atoi as the walks use them.
-/
import Derived.Test.YthkpekmecgbokaaDoorGlob
import Derived.Test.YthkpekmecgbokaaDoorTxtM
import Derived.Test.YthkpekmecgbokaaDoorPrs
import Derived.Lib.AtoiErrMem
namespace Go.Proofs.YthkpekmecgbokaaDoor
open Go.Eng Go.Pct Go.Txt
set_option maxRecDepth 10000
set_option linter.unusedVariables false

variable {M : Ghost} {w : World}
/-- what Cut yields -/
def cutV (sep s : List UInt8) : Value := match cutS sep s with
  | some p => .tuple #[str p.1, str p.2, .bool true]
  | none => .tuple #[str s, str [], .bool false]
theorem cutM_ok (hG : Glob M) (hM : Laid M w) (s sep : List UInt8) (h0 : sep ≠ []) (hs : s.length ≤ 1000000000) : Calls Tryd.prog 49 #[str s, str sep] w (RetE w (cutV sep s)) := by
  obtain ⟨m, hm⟩ := maxLen_at hG hM
  refine (Tryd.strings_Cut ⟨s.toArray⟩ ⟨sep.toArray⟩ m w (by rw [baSize]; omega) hm).mono ?_
  rintro e w' ⟨rfl, n, rfl⟩
  refine ⟨?_, Ext.drew w n⟩
  have e1 : (⟨s.toArray⟩ : ByteArray).data.toList = s := rfl
  have e2 : (⟨sep.toArray⟩ : ByteArray).data.toList = sep := rfl
  rw [e1, e2, lib_cut h0]
  unfold cutV
  cases cutS sep s <;> rfl
theorem cut_yes (hG : Glob M) (hM : Laid M w) {s sep a b : List UInt8} (h0 : sep ≠ []) (hs : s.length ≤ 1000000000) (h : cutS sep s = some (a, b)) : Calls Tryd.prog 49 #[str s, str sep] w (RetE w (.tuple #[str a, str b, .bool true])) := by
  have := cutM_ok hG hM s sep h0 hs
  unfold cutV at this
  rw [h] at this; exact this
theorem cut_no (hG : Glob M) (hM : Laid M w) {s sep : List UInt8} (h0 : sep ≠ []) (hs : s.length ≤ 1000000000) (h : cutS sep s = none) : Calls Tryd.prog 49 #[str s, str sep] w (RetE w (.tuple #[str s, str [], .bool false])) := by
  have := cutM_ok hG hM s sep h0 hs
  unfold cutV at this
  rw [h] at this; exact this
theorem mapStr (l : List ByteArray) : l.map Value.string = (l.map (·.data.toList)).map str := by
  rw [List.map_map]
  apply List.map_congr_left
  intro x _
  exact congrArg Value.string (strMk x).symm
/-- a fresh row of texts -/
theorem slS_fresh {l : List (List UInt8)} {cs : Array Value} {b cap : Nat} {T : TypeId} (hcs : ∀ i, i < l.length → cs[i]? = some (str (l.getD i default))) (hcap : l.length ≤ cap) (hl : l.length ≤ 9223372036854775807) (hM : M b (.cells cs T (0, 0))) : SlS M (.slice (some ⟨b, 0, none⟩) l.length cap) l :=
  ⟨_, _, rfl, hcap, hl, fun _ => ⟨b, 0, cs, T, (0, 0), rfl, hM, fun i hi => ⟨[str (l[i])], rfl, rfl, fun j hj => by
    obtain rfl : j = 0 := by omega
    have := hcs i hi
    simp [hi] at this
    simpa using this⟩⟩⟩
theorem retS_fresh {l : List (List UInt8)} {cs : Array Value} {cap : Nat} {T : TypeId} (hM : Laid M w) (hcs : ∀ i, i < l.length → cs[i]? = some (str (l.getD i default))) (hcap : l.length ≤ cap) (hl : l.length ≤ 9223372036854775807) :
    RetS M w (fun M' H v => H = [] ∧ SlS M' v l) (.returned (.slice (some ⟨w.heap.size, 0, none⟩) l.length cap)) (w.alloc (.cells cs T)) := by
  have hst := (St.start hM).alloc (.cells cs T (0, 0))
  refine ⟨_, [], With M [(w.heap.size, _)], rfl, fun _ _ => .inl, fun b o h => h.imp id (fun h => ?_), St.publish (H1 := [(w.heap.size, _)]) (H2 := []) hst, rfl, slS_fresh hcs hcap hl (.inr (List.Mem.head _))⟩
  simp only [List.mem_singleton, Prod.mk.injEq] at h; omega
theorem splitB_list (sep s : List UInt8) (k : Nat) : (Lib.splitB ⟨sep.toArray⟩ 0 k ⟨s.toArray⟩).map (·.data.toList) = Lib.splitK sep 0 k s := Lib.splitB_data _ 0 k _
theorem split_len_le {sep : List UInt8} (h0 : sep ≠ []) : ∀ (n : Nat) (s : List UInt8), s.length ≤ n → (Lib.split s sep).length ≤ s.length + 1
  | 0, s, h => by
    have : s = [] := List.eq_nil_of_length_eq_zero (by omega)
    subst this
    rw [split_none h0 rfl]; simp
  | n + 1, s, h => by
    cases hc : cutS sep s with
    | none => rw [split_none h0 hc]; simp
    | some p =>
      have hl := cutS_length (a := p.1) (b := p.2) hc
      have hp := List.length_pos_iff.2 h0
      have := split_len_le h0 n p.2 (by omega)
      rw [split_some (a := p.1) (b := p.2) h0 hc]
      simp; omega
theorem splitM_ok (hG : Glob M) (hM : Laid M w) (s sep : List UInt8) (h0 : sep ≠ []) (hs : s.length ≤ 1000000000) : Calls Tryd.prog 50 #[str s, str sep] w (RetS M w (fun M' H v => H = [] ∧ SlS M' v (Lib.split s sep))) := by
  obtain ⟨m, hm⟩ := maxLen_at hG hM
  have hpos := List.length_pos_iff.2 h0
  refine (Tryd.strings_Split ⟨s.toArray⟩ ⟨sep.toArray⟩ m w (by rw [baSize]; omega) hm (by rw [baSize]; omega)).mono ?_
  rintro e w' ⟨rfl, rfl⟩
  have hl := Lib.splitB_all ⟨sep.toArray⟩ (by rw [baSize]; omega) 0 _ ⟨s.toArray⟩ rfl
  have hmap := splitB_list sep s (Lib.countB ⟨s.toArray⟩ ⟨sep.toArray⟩)
  have hk : Lib.splitK sep 0 (Lib.countB ⟨s.toArray⟩ ⟨sep.toArray⟩) s = Lib.split s sep := rfl
  have hlen : (Lib.split s sep).length = Lib.countB ⟨s.toArray⟩ ⟨sep.toArray⟩ + 1 := by rw [← hk, ← hmap, List.length_map, hl]
  have hle := split_len_le h0 s.length s (Nat.le_refl _)
  rw [mapStr, hmap, hk, ← hlen]
  exact retS_fresh hM (fun i hi => by simp [hi]) (Nat.le_refl _) (by omega)
theorem splitN_ok (hG : Glob M) (hM : Laid M w) (s sep : List UInt8) (n : Nat) (h0 : sep ≠ []) (hn : 1 ≤ n) (hn2 : n ≤ 1000) (hs : s.length ≤ 1000000000) : Calls Tryd.prog 56 #[str s, str sep, i64 (n : Int)] w (RetS M w (fun M' H v => H = [] ∧ SlS M' v (Lib.splitN s sep n))) := by
  obtain ⟨m, hm⟩ := maxLen_at hG hM
  have hpos := List.length_pos_iff.2 h0
  refine (Tryd.strings_SplitN ⟨s.toArray⟩ ⟨sep.toArray⟩ n m w (by rw [baSize]; omega) hm (by rw [baSize]; omega) hn (by omega)).mono ?_
  rintro e w' ⟨rfl, rfl⟩
  have hsz : (⟨s.toArray⟩ : ByteArray).size = s.length := baSize s
  rw [hsz]
  have hmap := splitB_list sep s (min n (s.length + 1) - 1)
  have hk : Lib.splitK sep 0 (min n (s.length + 1) - 1) s = Lib.splitN s sep n := rfl
  have hle := Lib.splitB_length_le ⟨sep.toArray⟩ 0 (min n (s.length + 1) - 1) ⟨s.toArray⟩
  have hlen : (Lib.splitB ⟨sep.toArray⟩ 0 (min n (s.length + 1) - 1) ⟨s.toArray⟩).length = (Lib.splitN s sep n).length := by rw [← hk, ← hmap, List.length_map]
  generalize hB : Lib.splitB ⟨sep.toArray⟩ 0 (min n (s.length + 1) - 1) ⟨s.toArray⟩ = B at *
  rw [hlen] at hle ⊢
  refine retS_fresh hM (fun i hi => ?_) (by omega) (by omega)
  have e : Lib.splitN s sep n = B.map (·.data.toList) := by rw [← hk, ← hmap]
  have hi' : i < B.length := by omega
  unfold Lib.cellsOf
  simp only [e]
  simp [hi', List.getElem?_append]
/-- the errors' variables -/
structure GlobE (M : Ghost) : Prop where
  glob : Glob M
  syn : ∃ T fz tp p, M 2 (.cells #[.iface tp p] T fz)
  ran : ∃ T fz tp p, M 3 (.cells #[.iface tp p] T fz)
theorem GlobE.mono {M M' : Ghost} (h : GlobE M) (hm : ∀ b o, M b o → M' b o) : GlobE M' := by
  obtain ⟨g, ⟨a, b, c, d, h1⟩, ⟨a', b', c', d', h2⟩⟩ := h
  exact ⟨g.mono hm, ⟨a, b, c, d, hm _ _ h1⟩, ⟨a', b', c', d', hm _ _ h2⟩⟩
theorem gSyn : Tryd.prog.globalNamed "strconv.ErrSyntax" = some 2 := by kernel_rfl
theorem gRan : Tryd.prog.globalNamed "strconv.ErrRange" = some 3 := by kernel_rfl
theorem atoi_ok (hE : GlobE M) (hM : Laid M w) (s : List UInt8) (hs : s.length ≤ 1000000000) : Calls Tryd.prog 57 #[str s] w (RetS M w (fun M' H v => H = [] ∧ ∃ er, v = .tuple #[i64 (atoiV s), er])) := by
  have e1 : (⟨s.toArray⟩ : ByteArray).data.toList = s := rfl
  have hsz : (⟨s.toArray⟩ : ByteArray).size = s.length := baSize s
  have fin : ∀ (w' : World) (x : Value), Ext w w' → RetS M w (fun M' H v => H = [] ∧ ∃ er, v = .tuple #[i64 (atoiV s), er]) (.returned (.tuple #[i64 (atoiV s), x])) w' := fun w' x hx =>
    ⟨_, [], M, rfl, fun _ _ h => h, fun _ _ h => .inl h, (St.start hM).ext hx, rfl, x, rfl⟩
  unfold atoiV at *
  cases h : Lib.atoiAll s with
  | ok v =>
    refine (Tryd.strconv_Atoi_ok ⟨s.toArray⟩ (by rw [hsz]; omega) v (by rw [e1]; exact h) w).mono ?_
    rintro e w' ⟨rfl, hw⟩
    rw [h] at fin
    refine fin _ _ ?_
    rcases hw with rfl | ⟨t, rfl⟩
    · exact Keep.refl _ _
    · exact Ext.of_below (Lib.bytesWorld_below w _ t)
  | range =>
    obtain ⟨T, fz, tp, p, h1⟩ := hE.ran
    have hv : w.var? Tryd.prog "strconv.ErrRange" = some #[.iface tp p] := by unfold World.var?; rw [gRan, Option.bind_some, hM _ _ h1]
    refine (Any.strconv_Atoi_range_var Tryd.laysC172 ⟨s.toArray⟩ (by rw [hsz]; omega) (by rw [e1]; exact h) tp p w hv).mono ?_
    rintro e w' ⟨N, rfl, _, _, hb⟩
    rw [h] at fin
    exact fin _ _ (Ext.of_below hb)
  | _ =>
    obtain ⟨T, fz, tp, p, h1⟩ := hE.syn
    have hv : w.var? Tryd.prog "strconv.ErrSyntax" = some #[.iface tp p] := by unfold World.var?; rw [gSyn, Option.bind_some, hM _ _ h1]
    refine (Any.strconv_Atoi_syntax_var Tryd.laysC172 ⟨s.toArray⟩ (by rw [hsz]; omega) (by rw [e1]; exact h) tp p w hv).mono ?_
    rintro e w' ⟨N, rfl, _, _, hb⟩
    rw [h] at fin
    exact fin _ _ (Ext.of_below hb)
end Go.Proofs.YthkpekmecgbokaaDoor
