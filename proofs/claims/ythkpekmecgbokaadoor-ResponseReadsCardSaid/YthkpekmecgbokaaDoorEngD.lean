/-
  The engine at a region that draws its order: its operations are told one by one, each by what it leaves in its slot; the last ones may be walked in the order of the text. Nothing of the program stands here.
-/
import Derived.Test.YthkpekmecgbokaaDoorEngC
namespace Go.Eng
open Go.RowKit

abbrev Tell := Value → World → Prop
abbrev REnv := List (Nat × Tell)
def lookR : REnv → Nat → Option Tell
  | [], _ => none
  | (j, V) :: G, i => bif Nat.beq j i then some V else lookR G i
/-- An entry of one value. -/
def exact1 (c : Bool) (v : Value) : Tell := fun u _ => u = bif c then v else undef
def ofEnv : Env → REnv
  | [] => []
  | (j, c, v) :: E => (j, exact1 c v) :: ofEnv E
theorem lookR_ofEnv (E : Env) (i : Nat) : lookR (ofEnv E) i = (look E i).map fun cv => exact1 cv.1 cv.2 := by
  induction E with
  | nil => rfl
  | cons p E ih =>
    obtain ⟨j, c, v⟩ := p
    simp only [ofEnv, lookR, look]
    cases h : Nat.beq j i <;> simp [ih]

def Steady (V : Tell) : Prop := ∀ u w w', Ext w w' → V u w → V u w'
theorem steady_exact (c : Bool) (v : Value) : Steady (exact1 c v) := fun _ _ _ _ h => h
/-- What is known of some slots. -/
def HR (G : REnv) (S : Nat → Prop) (a : Act) (w : World) : Prop := ∀ s U, lookR G s = some U → S s → ∃ u, a.tmps[s]? = some u ∧ U u w

section
variable {P : Program} {n : Nat} {E : Env} {C : World → Prop} {k : Kont} {ops : Array Oper}

/-- What one operation does, by the slots that it looks at. -/
structure Ob (P : Program) (ops : Array Oper) (n : Nat) (C : World → Prop) (o : Oper) (G : REnv) (V : Tell) : Prop where
  run : ∀ a w, C w → a.defers = [] → a.tmps.size = n → HR G (· ∈ o.looksAt ops) a w →
    (Region.wanted o (yielded ops a.tmps) = true → o.wp P a w (fun a' w' => ∃ v, a' = a.put o.dst v ∧ V v w' ∧ Ext w w' ∧ C w') (fun _ _ _ => False)) ∧
    (Region.wanted o (yielded ops a.tmps) = false → V undef w)

/-- The first part, told in the order of the text. -/
def WDs (P : Program) (ops : Array Oper) (n : Nat) (C : World → Prop) : List Oper → REnv → (REnv → Prop) → Prop
  | [], G, fin => fin G
  | o :: rest, G, fin => ∃ d V, o.dst = some d ∧ d < n ∧ Steady V ∧ Ob P ops n C o G V ∧ WDs P ops n C rest ((d, V) :: G) fin

/-! ### the look over a region -/
def edges (o : Oper) : List Nat := (o.after.toList.filter (Region.binds .any)).map (·.on)
def anc (ops : Array Oper) : Nat → Nat → List Nat
  | 0, _ => []
  | f + 1, i => match ops[i]? with
    | none => []
    | some o => (edges o).flatMap fun j => j :: anc ops f j
/-- a later one of the first part looks at it -/
def succs (ops : Array Oper) (m j : Nat) : Bool := (List.range m).any fun k => match ops[k]? with
  | some o => (edges o).contains j
  | none => false
/-- an operation of the tail comes behind all ahead of it, plainly -/
def tailOk (ops : Array Oper) (m i : Nat) (o : Oper) : Bool := bif Nat.beq i m then (List.range m).all (fun j => (edges o).contains j || succs ops m j) else (edges o).contains (i - 1)
/-- Edges lead back; slots are written once; who reads a slot comes behind who writes it, or ahead; who stands behind the first part comes behind all ahead of it. -/
def orderly (ops : Array Oper) (m : Nat) : Bool :=
  (List.range ops.size).all fun i => match ops[i]? with
    | none => false
    | some o =>
      (edges o).all (· < i) && (match o.op with | .select _ _ => false | _ => true) &&
      ((List.range ops.size).all fun j => match ops[j]? with
        | none => false
        | some p => j == i || ((p.dst.isNone || p.dst != o.dst) && (match p.dst with
          | none => true
          | some d => !(o.looksAt ops).contains d || (if j < i then (edges o).contains j else (edges p).contains i)))) &&
      (decide (i < m) || (tailOk ops m i o || (List.range i).all fun j => (anc ops (i + 1) i).contains j))

theorem orderly_parts {m i : Nat} {o : Oper} (h : orderly ops m = true) (hi : ops[i]? = some o) :
    (∀ j ∈ edges o, j < i) ∧ (∀ cs b, o.op ≠ .select cs b) ∧
    (∀ j p d, ops[j]? = some p → j ≠ i → p.dst = some d → o.dst ≠ some d ∧ (d ∈ o.looksAt ops → if j < i then j ∈ edges o else i ∈ edges p)) ∧
    (m ≤ i → tailOk ops m i o = true ∨ ∀ j, j < i → j ∈ anc ops (i + 1) i) := by
  have hlt : i < ops.size := by
    rcases Nat.lt_or_ge i ops.size with h' | h'
    · exact h'
    · simp [Array.getElem?_eq_none h'] at hi
  unfold orderly at h
  rw [List.all_eq_true] at h
  have h := h i (List.mem_range.2 hlt)
  rw [hi] at h
  simp only [Bool.and_eq_true, List.all_eq_true, Bool.or_eq_true, decide_eq_true_eq] at h
  obtain ⟨⟨⟨h1, h2⟩, h3⟩, h4⟩ := h
  refine ⟨h1, ?_, ?_, ?_⟩
  · intro cs b e; rw [e] at h2; simp at h2
  · intro j p d hj hne hd
    have hjlt : j < ops.size := by
      rcases Nat.lt_or_ge j ops.size with h' | h'
      · exact h'
      · simp [Array.getElem?_eq_none h'] at hj
    have h5 := h3 j (List.mem_range.2 hjlt)
    rw [hj] at h5
    simp only [hd, Bool.or_eq_true, beq_iff_eq, hne, false_or, Bool.and_eq_true] at h5
    obtain ⟨h6, h7⟩ := h5
    refine ⟨?_, ?_⟩
    · simp at h6
      exact fun e => h6 e.symm
    · intro hm
      rcases h7 with h7 | h7
      · simp [hm] at h7
      · split <;> rename_i hlt' <;> simp [hlt'] at h7 <;> exact h7
  · intro hm
    rcases h4 with h4 | h4 | h4
    · omega
    · exact .inl h4
    · exact .inr fun j hj => by simpa using h4 j (List.mem_range.2 hj)
theorem anc_mono {j : Nat} : ∀ {f f' i : Nat}, f ≤ f' → j ∈ anc ops f i → j ∈ anc ops f' i
  | 0, _, _, _, h => by simp [anc] at h
  | f + 1, f' + 1, i, hf, h => by
    simp only [anc] at h ⊢
    cases hi : ops[i]? with
    | none => simp [hi] at h
    | some o =>
      simp only [hi, List.mem_flatMap, List.mem_cons] at h ⊢
      obtain ⟨k, hk, h⟩ := h
      exact ⟨k, hk, h.imp id (anc_mono (by omega))⟩
theorem anc_trans {j k : Nat} {g : Nat} (hj : j ∈ anc ops g k) : ∀ {f i : Nat}, k ∈ anc ops f i → j ∈ anc ops (f + g) i
  | 0, _, h => by simp [anc] at h
  | f + 1, i, h => by
    rw [Nat.add_right_comm]
    simp only [anc] at h ⊢
    cases hi : ops[i]? with
    | none => simp [hi] at h
    | some o =>
      simp only [hi, List.mem_flatMap, List.mem_cons] at h ⊢
      obtain ⟨l, hl, h⟩ := h
      refine ⟨l, hl, .inr ?_⟩
      rcases h with rfl | h
      · exact anc_mono (by omega) hj
      · exact anc_trans hj h
theorem anc_edge {i j : Nat} {o : Oper} (hi : ops[i]? = some o) (hj : j ∈ edges o) : j ∈ anc ops 1 i := by
  simp only [anc, hi, List.mem_flatMap, List.mem_cons]
  exact ⟨j, hj, .inl rfl⟩
theorem anc_fuel {m : Nat} (h : orderly ops m = true) {j : Nat} : ∀ {i f : Nat}, j ∈ anc ops f i → j ∈ anc ops (i + 1) i := by
  intro i
  induction i using Nat.strongRecOn with
  | ind i ih =>
    intro f hf
    cases f with
    | zero => simp [anc] at hf
    | succ f =>
      simp only [anc] at hf ⊢
      cases hi : ops[i]? with
      | none => simp [hi] at hf
      | some o =>
        simp only [hi, List.mem_flatMap, List.mem_cons] at hf ⊢
        obtain ⟨k, hk, hf⟩ := hf
        have hki := (orderly_parts h hi).1 k hk
        exact ⟨k, hk, hf.imp id (fun hf => anc_mono (by omega) (ih k hki hf))⟩
theorem orderly_tail {m : Nat} (h : orderly ops m = true) : ∀ {i : Nat} {o : Oper}, ops[i]? = some o → m ≤ i → ∀ j, j < i → j ∈ anc ops (i + 1) i := by
  intro i
  induction i using Nat.strongRecOn with
  | ind i ih =>
    intro o hi hm j hj
    rcases (orderly_parts h hi).2.2.2 hm with ht | ht
    · unfold tailOk at ht
      by_cases e : i = m
      · subst e
        rw [Nat.beq_refl, cond_true, List.all_eq_true] at ht
        -- downward
        have key : ∀ n j, i - j ≤ n → j < i → ∃ f, j ∈ anc ops f i := by
          intro n
          induction n with
          | zero => intro j h1 h2; omega
          | succ n ihn =>
            intro j h1 h2
            have h3 := ht j (List.mem_range.2 h2)
            simp only [Bool.or_eq_true] at h3
            rcases h3 with h3 | h3
            · exact ⟨1, anc_edge hi (by simpa using h3)⟩
            · unfold succs at h3
              rw [List.any_eq_true] at h3
              obtain ⟨k, hk, h3⟩ := h3
              have hk := List.mem_range.1 hk
              cases hko : ops[k]? with
              | none => simp [hko] at h3
              | some p =>
                simp only [hko] at h3
                have hjk : j ∈ edges p := by simpa using h3
                have hlt := (orderly_parts h hko).1 j hjk
                obtain ⟨f, hf⟩ := ihn k (by omega) hk
                exact ⟨f + 1, anc_trans (anc_edge hko hjk) hf⟩
        obtain ⟨f, hf⟩ := key _ j (Nat.le_refl _) hj
        exact anc_fuel h hf
      · rw [beq_no e, cond_false] at ht
        have he : i - 1 ∈ edges o := by simpa using ht
        have h1 := anc_edge hi he
        by_cases ej : j = i - 1
        · subst ej; exact anc_fuel h h1
        · have hlt : i - 1 < ops.size := by
            have : i < ops.size := by
              rcases Nat.lt_or_ge i ops.size with h' | h'
              · exact h'
              · simp [Array.getElem?_eq_none h'] at hi
            omega
          have := ih (i - 1) (by omega) (o := ops[i - 1]) (by simp [hlt]) (by omega) j (by omega)
          exact anc_fuel h (anc_trans this h1)
    · exact ht j hj
theorem orderly_at {m i : Nat} {o : Oper} (h : orderly ops m = true) (hi : ops[i]? = some o) :
    (∀ j ∈ edges o, j < i) ∧ (∀ cs b, o.op ≠ .select cs b) ∧
    (∀ j p d, ops[j]? = some p → j ≠ i → p.dst = some d → o.dst ≠ some d ∧ (d ∈ o.looksAt ops → if j < i then j ∈ edges o else i ∈ edges p)) ∧
    (m ≤ i → ∀ j, j < i → j ∈ anc ops (i + 1) i) :=
  ⟨(orderly_parts h hi).1, (orderly_parts h hi).2.1, (orderly_parts h hi).2.2.1, orderly_tail h hi⟩

/-! ### the order -/
abbrev On (listed : Array Bool) (j : Nat) : Prop := listed.getD j false = true
theorem mem_edges {o : Oper} {j : Nat} : j ∈ edges o ↔ ∃ e ∈ o.after, Region.binds .any e = true ∧ e.on = j := by
  simp [edges, and_assoc]
theorem on_set {listed : Array Bool} {i j : Nat} (hi : i < listed.size) : On (listed.setIfInBounds i true) j ↔ (j = i ∨ On listed j) := by
  by_cases e : i = j
  · subst e; simp [On, hi]
  · have : ¬ j = i := fun h => e h.symm
    simp [On, this, Array.getElem?_setIfInBounds_ne e]

structure Closed (ops : Array Oper) (listed : Array Bool) : Prop where
  size : listed.size = ops.size
  back : ∀ i o, ops[i]? = some o → On listed i → ∀ j ∈ edges o, On listed j
theorem anc_on {listed : Array Bool} (hc : Closed ops listed) : ∀ (f i : Nat) (o : Oper), ops[i]? = some o → (∀ j ∈ edges o, On listed j) → ∀ j ∈ anc ops f i, On listed j
  | 0, _, _, _, _, j, hj => by simp [anc] at hj
  | f + 1, i, o, hi, hr, j, hj => by
    simp only [anc, hi, List.mem_flatMap, List.mem_cons] at hj
    obtain ⟨l, hl, hj⟩ := hj
    rcases hj with rfl | hj
    · exact hr _ hl
    · have hon := hr l hl
      have hlt : l < ops.size := by
        rw [← hc.size]
        rcases Nat.lt_or_ge l listed.size with h' | h'
        · exact h'
        · simp [On, Array.getElem?_eq_none h'] at hon
      have hlo : ops[l]? = some ops[l] := by simp [hlt]
      exact anc_on hc f l _ hlo (hc.back l _ hlo hon) j hj

theorem ready_iff {listed : Array Bool} (hs : listed.size = ops.size) {j : Nat} : j ∈ Region.ready .any ops listed ↔ ∃ o, ops[j]? = some o ∧ ¬ On listed j ∧ ∀ l ∈ edges o, On listed l := by
  rw [mem_ready]
  constructor
  · rintro ⟨h1, o, h2, h3⟩
    refine ⟨o, h2, ?_, ?_⟩
    · intro h4
      rcases Nat.lt_or_ge j listed.size with h' | h'
      · simp [On, h'] at h1 h4; rw [h1] at h4; cases h4
      · simp [Array.getElem?_eq_none h'] at h1
    · intro l hl
      obtain ⟨e, he, hb, rfl⟩ := mem_edges.1 hl
      exact h3 e he hb
  · rintro ⟨o, h1, h2, h3⟩
    have hlt : j < ops.size := by
      rcases Nat.lt_or_ge j ops.size with h' | h'
      · exact h'
      · simp [Array.getElem?_eq_none h'] at h1
    refine ⟨?_, o, h1, fun e he hb => h3 _ (mem_edges.2 ⟨e, he, hb, rfl⟩)⟩
    have : j < listed.size := by omega
    simp [On, this] at h2 ⊢
    exact h2

/-- How many are still to come. -/
def left (listed : Array Bool) : Nat := listed.toList.countP (fun b => !b)
theorem left_set {listed : Array Bool} {i : Nat} (hi : i < listed.size) (h : ¬ On listed i) : left (listed.setIfInBounds i true) + 1 = left listed := by
  have hf : listed[i] = false := by simpa [On, hi] using h
  have hl : i < listed.toList.length := by simpa using hi
  have hm : listed.toList[i] = false := by simpa using hf
  unfold left
  have h0 : 0 < listed.toList.countP (fun b => !b) := List.countP_pos_iff.2 ⟨false, by rw [← hm]; exact List.getElem_mem hl, rfl⟩
  have h1 : (listed.toList.set i true).countP (fun b => !b) = listed.toList.countP (fun b => !b) - 1 := by
    rw [List.countP_set hl, hm]; simp
  rw [Array.toList_setIfInBounds, h1]
  omega
theorem left_zero {listed : Array Bool} (h : left listed = 0) {j : Nat} (hj : j < listed.size) : On listed j := by
  unfold left at h
  rw [List.countP_eq_zero] at h
  have := h listed[j] (by simp)
  simpa [On, hj] using this

/-- The told entries ahead of an operation. -/
def Gam (ops : Array Oper) (Vs : Nat → Tell) (G0 : REnv) : Nat → REnv
  | 0 => G0
  | i + 1 => match (ops[i]?).bind (·.dst) with
    | some d => (d, Vs i) :: Gam ops Vs G0 i
    | none => Gam ops Vs G0 i
theorem look_gam {Vs : Nat → Tell} {G0 : REnv} {s : Nat} {U : Tell} : ∀ {i : Nat}, lookR (Gam ops Vs G0 i) s = some U →
    (∃ j o, j < i ∧ ops[j]? = some o ∧ o.dst = some s ∧ U = Vs j) ∨ (lookR G0 s = some U ∧ ∀ j o, j < i → ops[j]? = some o → o.dst ≠ some s)
  | 0, h => .inr ⟨h, fun j o hj => by omega⟩
  | i + 1, h => by
    simp only [Gam] at h
    cases hd : (ops[i]?).bind (·.dst) with
    | none =>
      rw [hd] at h
      rcases look_gam h with ⟨j, o, hj, ho, hs, hU⟩ | ⟨h0, hn⟩
      · exact .inl ⟨j, o, by omega, ho, hs, hU⟩
      · refine .inr ⟨h0, fun j o hj ho => ?_⟩
        by_cases e : j = i
        · subst e; intro hs; simp [ho, hs] at hd
        · exact hn j o (by omega) ho
    | some d =>
      rw [hd] at h
      obtain ⟨oi, hoi, hdi⟩ := Option.bind_eq_some_iff.1 hd
      simp only [lookR] at h
      by_cases e : d = s
      · subst e
        simp at h
        exact .inl ⟨i, oi, by omega, hoi, hdi, h.symm⟩
      · rw [beq_no e, cond_false] at h
        rcases look_gam h with ⟨j, o, hj, ho, hs, hU⟩ | ⟨h0, hn⟩
        · exact .inl ⟨j, o, by omega, ho, hs, hU⟩
        · refine .inr ⟨h0, fun j o hj ho => ?_⟩
          by_cases e' : j = i
          · subst e'; rw [hoi] at ho; obtain rfl : oi = o := by simpa using ho
            rw [hdi]; simpa using e
          · exact hn j o (by omega) ho

theorem wds_out : ∀ (l : List Oper) (i : Nat) (G : REnv) (fin : REnv → Prop), (∀ j, j < l.length → ops[i + j]? = l[j]?) → WDs P ops n C l G fin →
    ∃ Vs : Nat → Tell, (∀ j, j < l.length → ∃ o d, ops[i + j]? = some o ∧ o.dst = some d ∧ d < n ∧ Steady (Vs j) ∧ Ob P ops n C o (Gam (ops.extract i ops.size) Vs G j) (Vs j)) ∧ fin (Gam (ops.extract i ops.size) Vs G l.length)
  | [], i, G, fin, _, h => ⟨fun _ => fun _ _ => True, by simp, h⟩
  | o :: rest, i, G, fin, hl, h => by
    obtain ⟨d, V, hd, hdn, hst, hob, hr⟩ := h
    have hoi : ops[i]? = some o := by simpa using hl 0 (by simp)
    obtain ⟨Vs, h1, h2⟩ := wds_out rest (i + 1) ((d, V) :: G) fin (fun j hj => by have := hl (j + 1) (by simp; omega); simpa [Nat.add_assoc, Nat.add_comm 1 j] using this) hr
    have hilt : i < ops.size := by
      rcases Nat.lt_or_ge i ops.size with h' | h'
      · exact h'
      · simp [Array.getElem?_eq_none h'] at hoi
    have key : ∀ j, Gam (ops.extract i ops.size) (fun | 0 => V | q + 1 => Vs q) G (j + 1) = Gam (ops.extract (i + 1) ops.size) Vs ((d, V) :: G) j := by
      intro j
      induction j with
      | zero =>
        have : (ops.extract i ops.size)[0]? = some o := by rw [Array.getElem?_extract, if_pos (by omega)]; simpa using hoi
        simp [Gam, this, hd]
      | succ j ih =>
        have e : (ops.extract i ops.size)[j + 1]? = (ops.extract (i + 1) ops.size)[j]? := by
          simp only [Array.getElem?_extract]
          have : i + (j + 1) = i + 1 + j := by omega
          rw [this]
          by_cases h' : j < min ops.size ops.size - (i + 1)
          · rw [if_pos (by omega), if_pos h']
          · rw [if_neg (by omega), if_neg h']
        have hS : ∀ (q : Nat) (A : Array Oper) (W : Nat → Tell) (G : REnv), Gam A W G (q + 1) = match (A[q]?).bind (·.dst) with | some d => (d, W q) :: Gam A W G q | none => Gam A W G q := fun _ _ _ _ => rfl
        rw [hS (j + 1) (ops.extract i ops.size) _ G, hS j (ops.extract (i + 1) ops.size) Vs, e, ih]
    refine ⟨fun | 0 => V | q + 1 => Vs q, ?_, ?_⟩
    · intro j hj
      cases j with
      | zero => exact ⟨o, d, by simpa using hoi, hd, hdn, hst, hob⟩
      | succ j =>
        obtain ⟨o', d', ho', hd', hdn', hst', hob'⟩ := h1 j (by simpa using hj)
        exact ⟨o', d', by rw [← ho']; congr 1; omega, hd', hdn', hst', by rw [key]; exact hob'⟩
    · rw [List.length_cons, key]; exact h2

/-- All told entries hold. -/
def HA (n : Nat) (G : REnv) (a : Act) (w : World) : Prop := a.defers = [] ∧ a.tmps.size = n ∧ HR G (fun _ => True) a w

theorem wpOp_tail {Q : Exit → Act → World → Prop} {K : Act → World → Prop} {i : Nat} {o : Oper} {rest : List Oper} {a : Act} {w : World} (hi : ops[i]? = some o) (h : wpList P ops Q (o :: rest) a w)
    (hK : ∀ a w, wpList P ops Q rest a w → K a w) : wpOp P ops Q i K a w := by
  unfold wpOp
  simp only [hi]
  unfold wpList at h
  split
  · rename_i hw; rw [if_pos hw] at h; exact h.imp (Oper.wp_mono hK) id
  · rename_i hw; rw [if_neg hw] at h; exact hK _ _ h
/-- The last ones come in the order of the text. -/
theorem tail_any {Q : Exit → Act → World → Prop} {m : Nat} (hord : orderly ops m = true) : ∀ (l : List Oper) (i : Nat) (listed : Array Bool) (a : Act) (w : World), m ≤ i → i + l.length = ops.size → (∀ j, j < l.length → ops[i + j]? = l[j]?) →
    listed.size = ops.size → (∀ j, On listed j ↔ j < i) → wpList P ops Q l a w → wpAny P .any ops Q l.length listed a w
  | [], i, listed, a, w, _, hN, _, hs, hon, h => by
    refine ⟨?_, h⟩
    cases hr : Region.ready .any ops listed with
    | nil => rfl
    | cons x xs =>
      have : x ∈ Region.ready .any ops listed := by rw [hr]; exact List.mem_cons_self
      obtain ⟨o, ho, hno, _⟩ := (ready_iff hs).1 this
      have : x < ops.size := by
        rcases Nat.lt_or_ge x ops.size with h' | h'
        · exact h'
        · simp [Array.getElem?_eq_none h'] at ho
      exact absurd ((hon x).2 (by simp at hN; omega)) hno
  | o :: l, i, listed, a, w, hm, hN, hl, hs, hon, h => by
    simp only [List.length_cons] at hN
    have hoi : ops[i]? = some o := by simpa using hl 0 (by simp)
    have hcl : Closed ops listed := ⟨hs, fun q p hp hq j hj => (hon j).2 (Nat.lt_trans ((orderly_at hord hp).1 j hj) ((hon q).1 hq))⟩
    have hri : i ∈ Region.ready .any ops listed := (ready_iff hs).2 ⟨o, hoi, by rw [hon]; omega, fun j hj => (hon j).2 ((orderly_at hord hoi).1 j hj)⟩
    refine ⟨fun h0 => (by rw [h0] at hri; cases hri), fun q hq => ?_⟩
    obtain ⟨p, hp, hnq, hrq⟩ := (ready_iff hs).1 hq
    have hqi : q = i := by
      rw [hon] at hnq
      by_cases e : q = i
      · exact e
      · have := anc_on hcl (q + 1) q p hp hrq i ((orderly_at hord hp).2.2.2 (by omega) i (by omega))
        rw [hon] at this; omega
    subst hqi
    refine wpOp_tail hoi h fun a' w' h' => ?_
    refine tail_any hord l (q + 1) _ a' w' (by omega) (by omega) (fun j hj => by have := hl (j + 1) (by simp; omega); simpa [Nat.add_assoc, Nat.add_comm 1 j] using this) (by simpa using hs) ?_ h'
    intro j
    rw [on_set (by omega), hon]; omega

/-- The state in the midst of the first part. -/
structure Mid (ops : Array Oper) (n m : Nat) (C : World → Prop) (Vs : Nat → Tell) (G0 : REnv) (listed : Array Bool) (a : Act) (w : World) : Prop where
  closed : Closed ops listed
  inC : C w
  defers : a.defers = []
  size : a.tmps.size = n
  few : ∀ j, On listed j → j < m
  vals : ∀ j o d, On listed j → ops[j]? = some o → o.dst = some d → ∃ u, a.tmps[d]? = some u ∧ Vs j u w
  base : ∀ s U, lookR G0 s = some U → (∀ j o, On listed j → ops[j]? = some o → o.dst ≠ some s) → ∃ u, a.tmps[s]? = some u ∧ U u w

theorem mid_all {Q : Exit → Act → World → Prop} {m : Nat} {Vs : Nat → Tell} {G0 : REnv} (hord : orderly ops m = true) (hm : m ≤ ops.size) (hst0 : ∀ s U, lookR G0 s = some U → Steady U)
    (hV : ∀ j, j < m → ∃ o d, ops[j]? = some o ∧ o.dst = some d ∧ d < n ∧ Steady (Vs j) ∧ Ob P ops n C o (Gam ops Vs G0 j) (Vs j))
    (hfin : ∀ a w, C w → HA n (Gam ops Vs G0 m) a w → wpList P ops Q (ops.toList.drop m) a w) :
    ∀ (fuel : Nat) (listed : Array Bool) (a : Act) (w : World), left listed = fuel → Mid ops n m C Vs G0 listed a w → wpAny P .any ops Q fuel listed a w := by
  -- all of the prefix is done
  have done : ∀ (fuel : Nat) (listed : Array Bool) (a : Act) (w : World), left listed = fuel → Mid ops n m C Vs G0 listed a w → (∀ j, j < m → On listed j) → wpAny P .any ops Q fuel listed a w := by
    intro fuel listed a w hf hmid hall
    have hon : ∀ j, On listed j ↔ j < m := fun j => ⟨hmid.few j, hall j⟩
    have hlen : left listed = (ops.toList.drop m).length := by
      have : listed = Array.ofFn (n := ops.size) (fun i => decide (i.val < m)) := by
        apply Array.ext
        · simp [hmid.closed.size]
        · intro i h1 h2
          have := hon i
          simp [On, h1] at this
          simp
          cases hb : listed[i] with
          | true => simp [← this, hb]
          | false => simp [hb] at this; simp; omega
      have hc : ∀ (q : Nat), (List.ofFn (n := q) (fun i => decide (i.val < m))).countP (fun b => !b) = q - m := by
        intro q
        induction q with
        | zero => simp
        | succ q ih =>
          rw [List.ofFn_succ_last]
          simp only [List.countP_append, Fin.val_castSucc] 
          rw [ih]
          by_cases h' : q < m
          · simp [h']; omega
          · simp [h']; omega
      unfold left
      rw [this, Array.toList_ofFn, hc]
      simp
    rw [← hf, hlen]
    refine tail_any hord (ops.toList.drop m) m listed a w (Nat.le_refl _) (by simp; omega) (fun j hj => by simp) hmid.closed.size hon (hfin a w hmid.inC ⟨hmid.defers, hmid.size, ?_⟩)
    intro s U hs _
    rcases look_gam hs with ⟨j, o, hj, ho, hd, rfl⟩ | ⟨h0, hn⟩
    · exact hmid.vals j o s (hall j hj) ho hd
    · exact hmid.base s U h0 (fun j o hj ho => hn j o ((hon j).1 hj) ho)
  intro fuel
  induction fuel with
  | zero =>
    intro listed a w hf hmid
    exact done 0 listed a w hf hmid (fun j hj => left_zero hf (by rw [hmid.closed.size]; omega))
  | succ fuel ih =>
    intro listed a w hf hmid
    by_cases hall : ∀ j, j < m → On listed j
    · exact done _ listed a w hf hmid hall
    have hready : ∃ i o, i < m ∧ ops[i]? = some o ∧ ¬ On listed i ∧ ∀ l ∈ edges o, On listed l := by
      have : ∃ i, i < m ∧ ¬ On listed i := by
        rcases Classical.em (∃ i, i < m ∧ ¬ On listed i) with h' | h'
        · exact h'
        · exact absurd (fun j hj => Classical.byContradiction fun hn => h' ⟨j, hj, hn⟩) hall
      obtain ⟨i, ⟨hi, hni⟩, hleast⟩ := exists_least this
      have hilt : i < ops.size := by omega
      refine ⟨i, ops[i], hi, by simp [hilt], hni, fun l hl => ?_⟩
      have hli := (orderly_at hord (i := i) (o := ops[i]) (by simp [hilt])).1 l hl
      exact Classical.byContradiction fun hn => by have := hleast l ⟨by omega, hn⟩; omega
    refine ⟨fun h0 => ?_, fun i hi => ?_⟩
    · obtain ⟨i, o, him, ho, hno, hr⟩ := hready
      have : i ∈ Region.ready .any ops listed := (ready_iff hmid.closed.size).2 ⟨o, ho, hno, hr⟩
      rw [h0] at this; cases this
    · obtain ⟨o, ho, hno, hr⟩ := (ready_iff hmid.closed.size).1 hi
      have hord1 := orderly_at hord ho
      have him : i < m := by
        rcases Nat.lt_or_ge i m with h' | h'
        · exact h'
        · obtain ⟨q, p, hqm, hp, hnq, _⟩ := hready
          exact absurd (anc_on hmid.closed (i + 1) i o ho hr q (hord1.2.2.2 h' q (by omega))) hnq
      obtain ⟨o', d, ho', hd, hdn, hst, hob⟩ := hV i him
      obtain rfl : o = o' := by rw [ho] at ho'; simpa using ho'
      have hilt : i < listed.size := by rw [hmid.closed.size]; omega
      have hHR : HR (Gam ops Vs G0 i) (· ∈ o.looksAt ops) a w := by
        intro s U hs hlook
        rcases look_gam hs with ⟨j, p, hj, hp, hd', rfl⟩ | ⟨h0, hn⟩
        · have := ((hord1.2.2.1 j p s hp (by omega) hd').2 hlook)
          rw [if_pos hj] at this
          exact hmid.vals j p s (hr j this) hp hd'
        · refine hmid.base s U h0 (fun j p hj hp hs' => ?_)
          by_cases hji : j < i
          · exact hn j p hji hp hs'
          · have hne : j ≠ i := fun e => hno (e ▸ hj)
            have := ((hord1.2.2.1 j p s hp hne hs').2 hlook)
            rw [if_neg hji] at this
            exact hno (hmid.closed.back j p hp hj i this)
      have hnext : ∀ v w', Vs i v w' → Ext w w' → C w' → wpAny P .any ops Q fuel (listed.setIfInBounds i true) (a.put (some d) v) w' := by
        intro v w' hv hx hC'
        refine ih _ _ _ (by have := left_set hilt hno; omega) ⟨⟨by simpa using hmid.closed.size, ?_⟩, hC', hmid.defers, by simp [Act.put, hmid.size], ?_, ?_, ?_⟩
        · intro q p hp hq j hj
          rw [on_set hilt] at hq ⊢
          rcases hq with rfl | hq
          · rw [ho] at hp; obtain rfl : o = p := by simpa using hp
            exact .inr (hr j hj)
          · exact .inr (hmid.closed.back q p hp hq j hj)
        · intro j hj
          rw [on_set hilt] at hj
          rcases hj with rfl | hj
          · exact him
          · exact hmid.few j hj
        · intro j p d' hj hp hd'
          rw [on_set hilt] at hj
          by_cases e : j = i
          · subst e; rw [ho] at hp; obtain rfl : o = p := by simpa using hp
            rw [hd] at hd'; obtain rfl : d = d' := by simpa using hd'
            exact ⟨v, by simp [Act.put, hmid.size, hdn], hv⟩
          · have hj : On listed j := hj.resolve_left e
            obtain ⟨u, hu, hVu⟩ := hmid.vals j p d' hj hp hd'
            have hne : d ≠ d' := fun e' => (hord1.2.2.1 j p d' hp e hd').1 (e' ▸ hd)
            obtain ⟨o2, d2, ho2, _, _, hst2, _⟩ := hV j (hmid.few j hj)
            exact ⟨u, by simp only [Act.put]; rw [Array.getElem?_setIfInBounds_ne hne]; exact hu, hst2 _ _ _ hx hVu⟩
        · intro s U hs hn
          have hne : d ≠ s := fun e => hn i o (by rw [on_set hilt]; exact .inl rfl) ho (e ▸ hd)
          obtain ⟨u, hu, hU⟩ := hmid.base s U hs (fun j p hj hp => hn j p (by rw [on_set hilt]; exact .inr hj) hp)
          exact ⟨u, by simp only [Act.put]; rw [Array.getElem?_setIfInBounds_ne hne]; exact hu, hst0 s U hs _ _ _ hx hU⟩
      obtain ⟨h1, h2⟩ := hob.run a w hmid.inC hmid.defers hmid.size hHR
      unfold wpOp
      simp only [ho]
      split
      · rename_i hw
        refine .inl ?_
        have := h1 hw
        unfold Oper.wp at this ⊢
        generalize (execOp a.eval o).run P w = r at *
        rw [hd] at this
        cases r with
        | ok nx w1 =>
          cases nx <;> simp only [Oper.upon] at this ⊢
          case value u => obtain ⟨v, e, h3, h4, h5⟩ := this; rw [e]; exact hnext v _ h3 h4 h5
          case skip => obtain ⟨v, e, h3, h4, h5⟩ := this; rw [e]; exact hnext v _ h3 h4 h5
          case defer => obtain ⟨v, e, h3, h4, h5⟩ := this; rw [e]; exact hnext v _ h3 h4 h5
          case enter f args =>
            refine this.mono fun e w2 he => ?_
            cases e with
            | returned u => obtain ⟨v, e, h3, h4, h5⟩ := he; show wpAny P .any ops Q fuel _ (a.put o.dst u) w2; rw [e]; exact hnext v _ h3 h4 h5
            | panicked c => exact he.elim
            | outgrown => obtain ⟨_, _, h⟩ := he; exact h.elim
          case row row args => refine this.mono fun u w2 he => ?_; obtain ⟨v, e, h3, h4, h5⟩ := he; rw [e]; exact hnext v _ h3 h4 h5
        | halt x w1 => cases x <;> simp only [Oper.upon] at this
      · rename_i hw
        have hw' : Region.wanted o (yielded ops a.tmps) = false := by simpa using hw
        rw [hd]
        exact hnext undef w (h2 hw') (Keep.refl _ _) hmid.inC

/-! ### the rules -/
theorem start_left (m : Nat) : left (Array.replicate m false) = m := by
  simp only [left, Array.toList_replicate]
  induction m with
  | zero => rfl
  | succ m ih => rw [List.replicate_succ]; simp [ih]
theorem start_on (m j : Nat) : ¬ On (Array.replicate m false) j := by simp [On, Array.getElem?_replicate]; split <;> rfl

/-- The told part, exact entries and others apart; what is left is walked in the order of the text. -/
structure WD (P : Program) (ops : Array Oper) (l : List Oper) (n : Nat) (E : Env) (F : REnv) (C : World → Prop) (tail : List Oper) (k : Kont) : Prop where
  run : (∀ s, lookR F s ≠ none → look E s = none) → ∀ G, (∀ s, lookR G s = match lookR F s with | some V => some V | none => (look E s).map fun cv => exact1 cv.1 cv.2) →
    WDs P ops n C l G (fun G' => ∀ a w, C w → HA n G' a w → wpList P ops (k.post P) tail a w)

theorem wc_draw {id : Nat} {l : List Oper} (m : Nat) (hm : P.follows .mixedOrders = true) (hml : Nat.ble m l.length = true) (hord : orderly l.toArray m = true) (hC : ∀ w w', C w → Ext w w' → C w') (h : WD P l.toArray (l.take m) n E [] C (l.drop m) k) :
    WC P (.region id l.toArray true) n E C k := by
  have hml : m ≤ l.length := Nat.le_of_ble_eq_true hml
  refine ⟨fun a w ha hw => wp_region_any hm ?_⟩
  have h := h.run (by intro s hs; simp [lookR] at hs) (ofEnv E) (by intro s; simp [lookR, lookR_ofEnv])
  obtain ⟨Vs, hV, hfin⟩ := wds_out (ops := l.toArray) (l.take m) 0 _ _ (by intro j hj; simp at hj; simp [hj]) h
  have hex : l.toArray.extract 0 l.toArray.size = l.toArray := by simp
  rw [hex] at hV hfin
  have hlen : (l.take m).length = m := by simp; omega
  rw [hlen] at hV hfin
  refine mid_all (m := m) (G0 := ofEnv E) hord (by simpa using hml) ?_ (fun j hj => ?_) (fun a w hCw hA => by simpa using hfin a w hCw hA) _ _ a _ (start_left _) ?_
  · intro s U hs
    rw [lookR_ofEnv] at hs
    obtain ⟨cv, _, rfl⟩ := Option.map_eq_some_iff.1 hs
    exact steady_exact _ _
  · obtain ⟨o, d, h1, h2⟩ := hV j hj
    exact ⟨o, d, by simpa using h1, h2⟩
  · refine ⟨⟨by simp, fun i o _ hi => absurd hi (start_on _ _)⟩, hC w _ hw (Ext.drew w 1), ha.defers, ha.size, fun j hj => absurd hj (start_on _ _), fun j o d hj => absurd hj (start_on _ _), ?_⟩
    intro s U hs _
    rw [lookR_ofEnv] at hs
    obtain ⟨cv, hcv, rfl⟩ := Option.map_eq_some_iff.1 hs
    exact ⟨_, ha.reads s cv.1 cv.2 hcv, rfl⟩

theorem wd_nil {tail : List Oper} (h : WL P ops tail n E C k) : WD P ops [] n E [] C tail k := ⟨fun _ G hG a w hw hA => h.run a w ⟨hA.1, hA.2.1, fun i c v hi => by
  obtain ⟨u, hu, hU⟩ := hA.2.2 i (exact1 c v) (by rw [hG]; simp [lookR, hi]) trivial
  rw [hu, hU]⟩ hw⟩
/-- .. whatever else has been told -/
theorem wd_nilF {F : REnv} {tail : List Oper} (h : WL P ops tail n E C k) : WD P ops [] n E F C tail k := ⟨fun hdis G hG a w hw hA => h.run a w ⟨hA.1, hA.2.1, fun i c v hi => by
  have hFi : lookR F i = none := by
    cases hf : lookR F i with
    | none => rfl
    | some V => rw [hdis i (by simp [hf])] at hi; cases hi
  obtain ⟨u, hu, hU⟩ := hA.2.2 i (exact1 c v) (by rw [hG]; simp [hFi, hi]) trivial
  rw [hu, hU]⟩ hw⟩
/-- .. with one entry that is told by more than a value. -/
theorem wd_nil1 {d : Nat} {V : Tell} {tail : List Oper} (h : ∀ v, WL P ops tail n ((d, true, v) :: E) (fun w => C w ∧ V v w) k) : WD P ops [] n E [(d, V)] C tail k := ⟨fun hdis G hG a w hw hA => by
  obtain ⟨u, hu, hU⟩ := hA.2.2 d V (by rw [hG]; simp [lookR]) trivial
  refine (h u).run a w ⟨hA.1, hA.2.1, fun i c v hi => ?_⟩ ⟨hw, hU⟩
  simp only [look] at hi
  by_cases e : d = i
  · subst e; simp at hi; obtain ⟨rfl, rfl⟩ := hi; exact hu
  · rw [beq_no e, cond_false] at hi
    obtain ⟨u', hu', hU'⟩ := hA.2.2 i (exact1 c v) (by rw [hG]; simp [lookR, beq_no e, hi]) trivial
    rw [hu', hU']⟩

/-- A frame turned where an operation does not look. -/
theorem turn {a : Act} (o : Oper) (_hd : a.defers = []) (hs : a.tmps.size = n) (hE : ∀ i c v, look E i = some (c, v) → i ∈ o.looksAt ops → a.tmps[i]? = some (bif c then v else undef)) (hsel : ∀ cs b, o.op ≠ .select cs b) (hlt : ∀ i c v, look E i = some (c, v) → i < n) :
    ∃ b : Act, Holds n E b ∧ execOp b.eval o = execOp a.eval o ∧ Region.wanted o (yielded ops b.tmps) = Region.wanted o (yielded ops a.tmps) := by
  let f : Nat → Value := fun i => if i ∈ o.looksAt ops then a.tmps.getD i undef else match look E i with | some cv => bif cv.1 then cv.2 else undef | none => a.tmps.getD i undef
  have hget : ∀ i, i < n → (Array.ofFn (n := n) fun i => f i.val)[i]? = some (f i) := by intro i hi; simp [hi]
  have hsame : ∀ i, i ∈ o.looksAt ops → (Array.ofFn (n := n) fun i => f i.val)[i]? = a.tmps[i]? := by
    intro i hi
    rcases Nat.lt_or_ge i n with h | h
    · have h3 : i < a.tmps.size := by rw [hs]; exact h
      rw [hget i h]
      simp [f, hi, h3]
    · have h2 : a.tmps.size ≤ i := by rw [hs]; exact h
      rw [Array.getElem?_eq_none (by simpa using h), Array.getElem?_eq_none h2]
  refine ⟨⟨Array.ofFn (n := n) fun i => f i.val, []⟩, ⟨rfl, by simp, ?_⟩, ?_, ?_⟩
  · intro i c v hi
    show (Array.ofFn (n := n) fun i => f i.val)[i]? = _
    by_cases hm : i ∈ o.looksAt ops
    · rw [hsame i hm]; exact hE i c v hi hm
    · rw [hget i (hlt i c v hi)]
      simp only [f, if_neg hm, hi]
  · refine execOp_congr o hsel fun x hx => ?_
    cases x with
    | tmp t =>
      have hm : t ∈ o.looksAt ops := by
        unfold Oper.looksAt
        exact List.mem_append_left _ (List.mem_filterMap.2 ⟨.tmp t, by simpa using hx, rfl⟩)
      show (Array.ofFn (n := n) fun i => f i.val).getD t undef = a.tmps.getD t undef
      simp only [Array.getD_eq_getD_getElem?, hsame t hm]
    | _ => rfl
  · unfold Region.wanted
    cases hg : o.guard with
    | none => rfl
    | some g =>
      obtain ⟨j, want⟩ := g
      have : yielded ops (Array.ofFn (n := n) fun i => f i.val) j = yielded ops a.tmps j := by
        unfold yielded
        cases hd : (ops[j]?).bind (·.dst) with
        | none => rfl
        | some d =>
          have hm : d ∈ o.looksAt ops := by
            unfold Oper.looksAt
            refine List.mem_append_right _ ?_
            rw [hg]; simp [hd]
          simp only [Option.bind_some, hsame d hm]
      show (yielded ops (Array.ofFn (n := n) fun i => f i.val) j == some want) = _
      rw [this]

def belowN (n : Nat) : Env → Bool
  | [] => true
  | (j, _, _) :: E => Nat.blt j n && belowN n E
theorem belowN_look : ∀ {E : Env}, belowN n E = true → ∀ i c v, look E i = some (c, v) → i < n
  | [], _, i, c, v, h => by simp [look] at h
  | (j, c', v') :: E, hb, i, c, v, h => by
    simp only [belowN, Bool.and_eq_true, Nat.blt_eq] at hb
    simp only [look] at h
    by_cases e : j = i
    · subst e; exact hb.1
    · rw [beq_no e, cond_false] at h; exact belowN_look hb.2 i c v h
def noSel (o : Oper) : Bool := match o.op with | .select _ _ => false | _ => true
theorem noSel_spec {o : Oper} (h : noSel o = true) (cs : Array SelectCase) (b : Bool) : o.op ≠ .select cs b := by intro e; unfold noSel at h; rw [e] at h; cases h

/-- An operation of one value. -/
theorem wd_v {d : Nat} {cg : Bool} {v : Value} {o : Oper} {rest tail : List Oper} {F : REnv} (hg : gd ops E o.guard = some cg) (ho : o.dst = some d) (hd : Nat.blt d n = true) (hb : belowN n E = true) (hsel : noSel o = true) (hF : lookR F d = none)
    (hv : OpV P n E C o cg v) (h : WD P ops rest n ((d, cg, v) :: E) F C tail k) : WD P ops (o :: rest) n E F C tail k := ⟨fun hdis G hG => by
  have hd : d < n := by simpa [Nat.blt_eq] using hd
  refine ⟨d, exact1 cg v, ho, hd, steady_exact _ _, ⟨fun a w hw had has hHR => ?_⟩, h.run ?_ _ ?_⟩
  · obtain ⟨b, hb1, hb2, hb3⟩ := turn (ops := ops) (E := E) o had has (fun i c u hi hm => by
      have hFi : lookR F i = none := by
        cases hf : lookR F i with
        | none => rfl
        | some V => rw [hdis i (by simp [hf])] at hi; cases hi
      obtain ⟨u', h1, h2⟩ := hHR i (exact1 c u) (by rw [hG]; simp [hFi, hi]) hm
      rw [h1, h2]) (noSel_spec hsel) (belowN_look hb)
    have hwb := wanted_gd (ops := ops) hb1 hg
    rw [hb3] at hwb
    refine ⟨fun hwant => ?_, fun hno => ?_⟩
    · have hcg : cg = true := by rw [← hwb]; exact hwant
      have := hv.run hcg b hb1 w hw
      have : YAt P o a C w v := by unfold YAt at *; rw [hb2] at this; exact this
      exact this.wp hw fun w' hw' hx => ⟨v, rfl, by simp [exact1, hcg], hx, hw'⟩
    · have hcg : cg = false := by rw [← hwb]; exact hno
      simp [exact1, hcg]
  · intro s hs
    simp only [look]
    by_cases e : d = s
    · subst e; exact absurd hF hs
    · rw [beq_no e, cond_false]; exact hdis s hs
  · intro s
    simp only [lookR, look]
    by_cases e : d = s
    · subst e; simp [hF]
    · rw [beq_no e, cond_false, cond_false]; exact hG s⟩

/-- What an operation leaves is told by more than a value. -/
def Tells (P : Program) (o : Oper) (a : Act) (w : World) (V : Tell) (C : World → Prop) : Prop :=
  match (execOp a.eval o).run P w with
  | .ok (.value v) w' => V v w' ∧ Ext w w' ∧ C w'
  | .ok (.enter f args) w' => w' = w ∧ Calls P f args w (fun e w2 => ∃ v, e = .returned v ∧ V v w2 ∧ Ext w w2 ∧ C w2)
  | _ => False
structure OpR (P : Program) (n : Nat) (E : Env) (C : World → Prop) (D : World → Prop) (o : Oper) (V : Tell) : Prop where
  run : ∀ a, Holds n E a → ∀ w, C w → D w → Tells P o a w V C
theorem Tells.wp {o : Oper} {a : Act} {w : World} {V : Tell} (h : Tells P o a w V C) : o.wp P a w (fun a' w' => ∃ v, a' = a.put o.dst v ∧ V v w' ∧ Ext w w' ∧ C w') (fun _ _ _ => False) := by
  unfold Tells at h
  unfold Oper.wp
  generalize (execOp a.eval o).run P w = r at *
  cases r with
  | ok nx w1 =>
    cases nx <;> simp only [] at h <;> simp only [Oper.upon]
    case value u => exact ⟨u, rfl, h⟩
    case enter f args => obtain ⟨rfl, h⟩ := h; exact h.mono fun e w2 ⟨v, he, h2⟩ => by subst he; exact ⟨v, rfl, h2⟩
  | halt x w1 => simp only [] at h
theorem wd_new {d : Nat} {V : Tell} {o : Oper} {rest tail : List Oper} {F : REnv} (hg : o.guard = none) (ho : o.dst = some d) (hd : Nat.blt d n = true) (hb : belowN n E = true) (hsel : noSel o = true) (hE : look E d = none) (hst : Steady V)
    (hv : OpR P n E C (fun _ => True) o V) (h : WD P ops rest n E ((d, V) :: F) C tail k) : WD P ops (o :: rest) n E F C tail k := ⟨fun hdis G hG => by
  have hd : d < n := by simpa [Nat.blt_eq] using hd
  refine ⟨d, V, ho, hd, hst, ⟨fun a w hw had has hHR => ?_⟩, h.run ?_ _ ?_⟩
  · obtain ⟨b, hb1, hb2, hb3⟩ := turn (ops := ops) (E := E) o had has (fun i c u hi hm => by
      have hFi : lookR F i = none := by
        cases hf : lookR F i with
        | none => rfl
        | some V => rw [hdis i (by simp [hf])] at hi; cases hi
      obtain ⟨u', h1, h2⟩ := hHR i (exact1 c u) (by rw [hG]; simp [hFi, hi]) hm
      rw [h1, h2]) (noSel_spec hsel) (belowN_look hb)
    refine ⟨fun _ => ?_, fun hno => by simp [Region.wanted, hg] at hno⟩
    have := hv.run b hb1 w hw trivial
    have : Tells P o a w V C := by unfold Tells at *; rw [hb2] at this; exact this
    exact this.wp
  · intro s hs
    simp only [lookR] at hs
    by_cases e : d = s
    · subst e; exact hE
    · rw [beq_no e, cond_false] at hs; exact hdis s hs
  · intro s
    simp only [lookR]
    by_cases e : d = s
    · subst e; simp
    · rw [beq_no e, cond_false, cond_false]; exact hG s⟩
/-- An operation that looks at such an entry, and yields one value. -/
theorem wd_rel {d s : Nat} {U : Tell} {v : Value} {o : Oper} {rest tail : List Oper} {F : REnv} (hg : o.guard = none) (ho : o.dst = some d) (hd : Nat.blt d n = true) (hs : Nat.blt s n = true) (hb : belowN n E = true) (hsel : noSel o = true) (hF : lookR F d = none) (hU : lookR F s = some U)
    (hv : ∀ u, OpR P n ((s, true, u) :: E) C (U u) o (exact1 true v)) (hlook : s ∈ o.looksAt ops) (h : WD P ops rest n ((d, true, v) :: E) F C tail k) : WD P ops (o :: rest) n E F C tail k := ⟨fun hdis G hG => by
  have hd : d < n := by simpa [Nat.blt_eq] using hd
  have hs : s < n := by simpa [Nat.blt_eq] using hs
  refine ⟨d, exact1 true v, ho, hd, steady_exact _ _, ⟨fun a w hw had has hHR => ?_⟩, h.run ?_ _ ?_⟩
  · obtain ⟨u, hu, hUu⟩ := hHR s U (by rw [hG]; simp [hU]) hlook
    obtain ⟨b, hb1, hb2, hb3⟩ := turn (ops := ops) (E := (s, true, u) :: E) o had has (fun i c u' hi hm => by
      simp only [look] at hi
      by_cases e : s = i
      · subst e; simp at hi; obtain ⟨rfl, rfl⟩ := hi; exact hu
      · rw [beq_no e, cond_false] at hi
        have hFi : lookR F i = none := by
          cases hf : lookR F i with
          | none => rfl
          | some V => rw [hdis i (by simp [hf])] at hi; cases hi
        obtain ⟨u2, h1, h2⟩ := hHR i (exact1 c u') (by rw [hG]; simp [hFi, hi]) hm
        rw [h1, h2]) (noSel_spec hsel) (fun i c u' hi => by
          simp only [look] at hi
          by_cases e : s = i
          · subst e; exact hs
          · rw [beq_no e, cond_false] at hi; exact belowN_look hb i c u' hi)
    refine ⟨fun _ => ?_, fun hno => by simp [Region.wanted, hg] at hno⟩
    have := (hv u).run b hb1 w hw hUu
    have : Tells P o a w (exact1 true v) C := by unfold Tells at *; rw [hb2] at this; exact this
    exact this.wp
  · intro s hs
    simp only [look]
    by_cases e : d = s
    · subst e; exact absurd hF hs
    · rw [beq_no e, cond_false]; exact hdis s hs
  · intro s
    simp only [lookR, look]
    by_cases e : d = s
    · subst e; simp [hF]
    · rw [beq_no e, cond_false, cond_false]; exact hG s⟩
end
end Go.Eng
