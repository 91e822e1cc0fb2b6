/-
  The library's contracts of strings.Builder at this program, and a class of worlds in which the call has a builder.
-/
import Derived.Shelf.Strings.BuilderK
import Derived.Test.YtopgbidgdfmddaaDoorEngF
import Derived.Test.YtopgbidgdfmddaaDoorProg
namespace Go.Proofs.YtopgbidgdfmddaaDoor
open Go.Eng Go.Shelf Go.RowKit
set_option maxRecDepth 10000

def bren167 : Go.Shelf.Ren := ⟨fun | 167 => 33 | 240 => 42 | 276 => 47 | n => n, fun | 0 => 0 | 4 => 4 | 5 => 5 | 9 => 9 | 20 => 20 | 37 => 45 | 70 => 49 | 72 => 51 | 75 => 53 | 164 => 74 | 80 => 57 | n => n, fun n => n⟩
theorem blays167 : Go.Proofs.Lays.n167 Tryd.prog bren167 := {
  mixed := by kernel_rfl
  f167 := Tryd.func33.trans (congrArg some (by kernel_rfl))
  f240 := Tryd.func42.trans (congrArg some (by kernel_rfl))
  f276 := Tryd.func47.trans (congrArg some (by kernel_rfl))
  t0 := Tryd.underlying0
  a0 := Tryd.isAgg0
  z0 := Tryd.sizeOf0
  v0 := Tryd.zeroValue0
  t4 := Tryd.underlying4
  a4 := Tryd.isAgg4
  z4 := Tryd.sizeOf4
  v4 := Tryd.zeroValue4
  t5 := Tryd.underlying5
  a5 := Tryd.isAgg5
  z5 := Tryd.sizeOf5
  v5 := Tryd.zeroValue5
  t9 := Tryd.underlying9
  a9 := Tryd.isAgg9
  z9 := Tryd.sizeOf9
  v9 := Tryd.zeroValue9
  t20 := Tryd.underlying20
  a20 := Tryd.isAgg20
  z20 := Tryd.sizeOf20
  v20 := Tryd.zeroValue20
  t37 := Tryd.underlying45
  a37 := Tryd.isAgg45
  z37 := Tryd.sizeOf45
  v37 := Tryd.zeroValue45
  t70 := Tryd.underlying49
  a70 := Tryd.isAgg49
  z70 := Tryd.sizeOf49
  v70 := Tryd.zeroValue49
  t72 := Tryd.underlying51
  a72 := Tryd.isAgg51
  z72 := Tryd.sizeOf51
  v72 := Tryd.zeroValue51
  t75 := Tryd.underlying53
  a75 := Tryd.isAgg53
  z75 := Tryd.sizeOf53
  v75 := Tryd.zeroValue53
  t164 := Tryd.underlying74
  a164 := Tryd.isAgg74
  z164 := Tryd.sizeOf74
  v164 := Tryd.zeroValue74 }
theorem bext167 : Builder.Extra Tryd.prog bren167 := {
  sizeBuilder := by kernel_rfl
  liesBuilder := by kernel_rfl
  t5 := Tryd.underlying5
  a5 := Tryd.isAgg5
  z5 := Tryd.sizeOf5
  v5 := Tryd.zeroValue5
  infoByte := by kernel_rfl
  cellsByte := by kernel_rfl
  sizeByte := by kernel_rfl
  neB5 := by decide }
def bren166 : Go.Shelf.Ren := ⟨fun | 166 => 34 | 240 => 42 | 276 => 47 | n => n, fun | 0 => 0 | 3 => 3 | 4 => 4 | 9 => 9 | 20 => 20 | 37 => 45 | 70 => 49 | 72 => 51 | 75 => 53 | 164 => 74 | 5 => 5 | 80 => 57 | n => n, fun n => n⟩
theorem blays166 : Go.Proofs.Lays.n166 Tryd.prog bren166 := {
  mixed := by kernel_rfl
  f166 := Tryd.func34.trans (congrArg some (by kernel_rfl))
  f240 := Tryd.func42.trans (congrArg some (by kernel_rfl))
  f276 := Tryd.func47.trans (congrArg some (by kernel_rfl))
  t0 := Tryd.underlying0
  a0 := Tryd.isAgg0
  z0 := Tryd.sizeOf0
  v0 := Tryd.zeroValue0
  t3 := Tryd.underlying3
  a3 := Tryd.isAgg3
  z3 := Tryd.sizeOf3
  v3 := Tryd.zeroValue3
  t4 := Tryd.underlying4
  a4 := Tryd.isAgg4
  z4 := Tryd.sizeOf4
  v4 := Tryd.zeroValue4
  t9 := Tryd.underlying9
  a9 := Tryd.isAgg9
  z9 := Tryd.sizeOf9
  v9 := Tryd.zeroValue9
  t20 := Tryd.underlying20
  a20 := Tryd.isAgg20
  z20 := Tryd.sizeOf20
  v20 := Tryd.zeroValue20
  t37 := Tryd.underlying45
  a37 := Tryd.isAgg45
  z37 := Tryd.sizeOf45
  v37 := Tryd.zeroValue45
  t70 := Tryd.underlying49
  a70 := Tryd.isAgg49
  z70 := Tryd.sizeOf49
  v70 := Tryd.zeroValue49
  t72 := Tryd.underlying51
  a72 := Tryd.isAgg51
  z72 := Tryd.sizeOf51
  v72 := Tryd.zeroValue51
  t75 := Tryd.underlying53
  a75 := Tryd.isAgg53
  z75 := Tryd.sizeOf53
  v75 := Tryd.zeroValue53
  t164 := Tryd.underlying74
  a164 := Tryd.isAgg74
  z164 := Tryd.sizeOf74
  v164 := Tryd.zeroValue74 }
theorem bext166 : Builder.Extra Tryd.prog bren166 := {
  sizeBuilder := by kernel_rfl
  liesBuilder := by kernel_rfl
  t5 := Tryd.underlying5
  a5 := Tryd.isAgg5
  z5 := Tryd.sizeOf5
  v5 := Tryd.zeroValue5
  infoByte := by kernel_rfl
  cellsByte := by kernel_rfl
  sizeByte := by kernel_rfl
  neB5 := by decide }
def bren169 : Go.Shelf.Ren := ⟨fun | 169 => 35 | n => n, fun | 0 => 0 | 3 => 3 | 9 => 9 | 37 => 45 | 70 => 49 | 72 => 51 | 127 => 69 | 5 => 5 | n => n, fun n => n⟩
theorem blays169 : Go.Proofs.Lays.n169 Tryd.prog bren169 := {
  mixed := by kernel_rfl
  f169 := Tryd.func35.trans (congrArg some (by kernel_rfl))
  t0 := Tryd.underlying0
  a0 := Tryd.isAgg0
  z0 := Tryd.sizeOf0
  v0 := Tryd.zeroValue0
  t3 := Tryd.underlying3
  a3 := Tryd.isAgg3
  z3 := Tryd.sizeOf3
  v3 := Tryd.zeroValue3
  t9 := Tryd.underlying9
  a9 := Tryd.isAgg9
  z9 := Tryd.sizeOf9
  v9 := Tryd.zeroValue9
  t37 := Tryd.underlying45
  a37 := Tryd.isAgg45
  z37 := Tryd.sizeOf45
  v37 := Tryd.zeroValue45
  t70 := Tryd.underlying49
  a70 := Tryd.isAgg49
  z70 := Tryd.sizeOf49
  v70 := Tryd.zeroValue49
  t72 := Tryd.underlying51
  a72 := Tryd.isAgg51
  z72 := Tryd.sizeOf51
  v72 := Tryd.zeroValue51
  t127 := Tryd.underlying69
  a127 := Tryd.isAgg69
  z127 := Tryd.sizeOf69
  v127 := Tryd.zeroValue69 }
theorem bext169 : Builder.Extra Tryd.prog bren169 := {
  sizeBuilder := by kernel_rfl
  liesBuilder := by kernel_rfl
  t5 := Tryd.underlying5
  a5 := Tryd.isAgg5
  z5 := Tryd.sizeOf5
  v5 := Tryd.zeroValue5
  infoByte := by kernel_rfl
  cellsByte := by kernel_rfl
  sizeByte := by kernel_rfl
  neB5 := by decide }
abbrev tB : TypeId := 51
abbrev tY : TypeId := 5

/-- The state of a call that has a builder at block b, of these bytes. -/
structure SB (w0 : World) (H : List (Nat × Obj)) (M : Ghost) (b : Nat) (l : List UInt8) (w : World) : Prop where
  st : St w0 [] H M w
  bd : Lib.IsBuilderF tB tY w0.heap.size b (Lib.byteCells l) w
  ne : ∀ p ∈ H, p.1 ≠ b ∧ ∀ c fz, p.2 ≠ .cells c tY fz
  nm : ∀ k o, M k o → k < w0.heap.size ∨ (k ≠ b ∧ ∀ c fz, o ≠ .cells c tY fz)

section
variable {w0 w w' : World} {H : List (Nat × Obj)} {M : Ghost} {b : Nat} {l : List UInt8}
theorem SB.start {hw : ∀ k o, M k o → k < w0.heap.size} (h : St w0 [] ((b, .cells [.pointer none, .slice none 0 0].toArray tB (0, 0)) :: H) M w) (hH : ∀ p ∈ H, ∀ c fz, p.2 ≠ .cells c tY fz) : SB w0 H M b [] w := by
  have h0 := h.own (b, _) (List.Mem.head _)
  have hb := h.new (b, .cells [.pointer none, .slice none 0 0].toArray tB (0, 0)) (List.Mem.head _)
  have hn := h.nodup
  refine ⟨h.drop (List.Sublist.cons _ (List.Sublist.refl _)), .inl ⟨by simpa using hb, .slice none 0 0, h0, World.ownsRowF_nil _ _ _ _, by simp [Value.ownBlock]⟩, fun p hp => ⟨?_, hH p hp⟩, fun k o hm => .inl (hw k o hm)⟩
  intro e
  simp only [List.map_cons, List.nodup_cons] at hn
  exact hn.1 (List.mem_map.2 ⟨p, hp, e⟩)
theorem SB.ext (h : SB w0 H M b l w) (k : Ext w w') : SB w0 H M b l w' := by
  have hat : ∀ p, Lib.BuilderAtF tB tY w0.heap.size b p (Lib.byteCells l) w → Lib.BuilderAtF tB tY w0.heap.size b p (Lib.byteCells l) w' := by
    intro p hp
    have hlt := hp.lt
    obtain ⟨hB, v, hb, hown, hne⟩ := hp
    exact ⟨hB, v, by rw [k.block b hlt (by simp)]; exact hb, hown.kept (row := none) ⟨k.os, k.tape, k.output, k.size, fun j hj _ => k.block j hj (by simp)⟩ (by cases hv : v.ownBlock <;> simp), hne⟩
  exact ⟨h.st.ext k, h.bd.imp (hat _) (hat _), h.ne, h.nm⟩
theorem SB.step (h : SB w0 H M b l w) {l' : List UInt8} (hb : Below w0.heap.size w w') (ho : Lib.OthersKept tY (some b) w w') (hd : Lib.IsBuilderF tB tY w0.heap.size b (Lib.byteCells l') w') : SB w0 H M b l' w' := by
  refine ⟨⟨⟨hb.os.trans h.st.keep.os, hb.tape.trans h.st.keep.tape, hb.output.trans h.st.keep.output, Nat.le_trans h.st.keep.size hb.size, fun k hk hn => (hb.block k hk).trans (h.st.keep.block k hk hn)⟩, ?_, h.st.new, h.st.nodup, ?_, h.st.apart⟩, hd, h.ne, h.nm⟩
  · intro p hp
    have := h.ne p hp
    exact ho p.1 p.2 (h.st.own p hp) (by intro e; injection e with e; exact this.1 e) this.2
  · intro k o hm
    rcases h.nm k o hm with hk | hk
    · rw [hb.block k hk]; exact h.st.laid k o hm
    · exact ho k o (h.st.laid k o hm) (by intro e; injection e with e; exact hk.1 e) hk.2
theorem SB.size (h : SB w0 H M b l w) : w0.heap.size ≤ w.heap.size := h.st.keep.size
theorem byteCells_append (l m : List UInt8) : Lib.byteCells (l ++ m) = Lib.byteCells l ++ Lib.byteCells m := by simp [Lib.byteCells]
theorem strCells_byte (m : List UInt8) : Lib.strCells ⟨m.toArray⟩ = Lib.byteCells m := by simp [Lib.strCells, Lib.byteCells]
theorem bwByte (h : SB w0 H M b l w) (c : UInt8) (hl : l.length ≤ 140737488355000) : Calls Tryd.prog 33 #[.pointer (some ⟨b, 0, none⟩), byt c] w (fun e w' => e = .returned .nilIface ∧ SB w0 H M b (l ++ [c]) w') := by
  refine (Any.Builder_WriteByte_k blays167 bext167 w0.heap.size b (Lib.byteCells l) c.toNat w h.bd (by rw [Lib.byteCells_length]; omega) h.size).mono ?_
  rintro e w' ⟨rfl, h1, h2, h3⟩
  exact ⟨rfl, h.step h2 h3 (.inr (by rw [byteCells_append]; exact h1))⟩
theorem bwString (h : SB w0 H M b l w) (s : List UInt8) (hl : l.length ≤ 100000000000000) (hs : s.length ≤ 10000000000000) : Calls Tryd.prog 34 #[.pointer (some ⟨b, 0, none⟩), str s] w (fun e w' => e = .returned (.tuple #[i64 (s.length : Int), .nilIface]) ∧ SB w0 H M b (l ++ s) w') := by
  refine (Any.Builder_WriteString_k blays166 bext166 w0.heap.size b (Lib.byteCells l) ⟨s.toArray⟩ w h.bd (by rw [Lib.byteCells_length]; simp [ByteArray.size]; omega) h.size).mono ?_
  rintro e w' ⟨rfl, h1, h2, h3⟩
  refine ⟨by simp [ByteArray.size, i64], h.step h2 h3 (.inr ?_)⟩
  rw [byteCells_append, ← strCells_byte s]; exact h1
theorem bsString (h : SB w0 H M b l w) : Calls Tryd.prog 35 #[.pointer (some ⟨b, 0, none⟩)] w (fun e w' => e = .returned (str l) ∧ SB w0 H M b l w') := by
  refine (Any.Builder_String_any_k blays169 bext169 w0.heap.size b l w h.bd h.size).mono ?_
  rintro e w' ⟨rfl, h1, h2, h3⟩
  exact ⟨rfl, h.step h2 h3 h1⟩
end

section
variable {P : Program} {n : Nat} {E : Env} {k : Kont} {ops : Array Oper} {rest : List Oper} {C C' : World → Prop}
variable {dst : Option Tmp} {ty : TypeId} {pos : String} {af : Array Edge} {g : Option (Nat × Bool)}
/-- A call that leads from one class of worlds to another. -/
theorem wl_callC {f : FuncId} {l : List Operand} {ats : Array TypeId} {vs : List (Bool × Value)} {args : Array Value} {d : Nat} {v : Value}
    (hg : gd ops E g = some true) (hf : ∀ args w, (callFunc f args).run P w = .ok (.enter f args) w) (hl : evg true E l = some vs) (hp : vs.all (·.1) = true) (hargs : vs.map (·.2) = args.toList) (hd : Nat.blt d n = true)
    (hc : ∀ w, C w → Calls P f args w (fun e w' => e = .returned v ∧ C' w'))
    (h : WL P ops rest n ((d, true, v) :: E) C' k) :
    WL P ops (⟨some d, .call ⟨.value (.func f), l.toArray, ats⟩, ty, pos, af, g⟩ :: rest) n E C k := by
  have hd : d < n := by simpa [Nat.blt_eq] using hd
  refine wl_op hg fun a w ha hw => ?_
  unfold Oper.wp
  rw [run_callf hf (args := args) (by rw [evg_eval ha hl (by simpa using hp), hargs]), Oper.upon_enter]
  refine (hc w hw).mono ?_
  rintro e w' ⟨rfl, hC⟩
  exact h.run _ w' (ha.put hd rfl) hC
end
end Go.Proofs.YtopgbidgdfmddaaDoor
