/-
  A small engine over the walk's rules: a frame is told by an environment (slot, is it valid, value), a world by a class; structural rules. Nothing of the program stands here.
-/
import Derived.WalkKit
import Derived.WalkLawsBesides
import Derived.Below
import Derived.Orders
import Derived.Deep.Draws
import Derived.Deep.LoopGhost
import Derived.Scope
namespace Go.Eng
open Go.RowKit

/-- An environment: slot, whether what follows is known to hold, the value. -/
abbrev Env := List (Nat × Bool × Value)

def look : Env → Nat → Option (Bool × Value)
  | [], _ => none
  | (j, c, v) :: E, i => bif Nat.beq j i then some (c, v) else look E i

/-- What is known of a frame. -/
structure Holds (n : Nat) (E : Env) (a : Act) : Prop where
  defers : a.defers = []
  size : a.tmps.size = n
  reads : ∀ i c v, look E i = some (c, v) → a.tmps[i]? = some (bif c then v else undef)

/-- An operand's entry. -/
def ev (E : Env) : Operand → Option (Bool × Value)
  | .tmp t => look E t
  | .const v => some (true, v)
  | .global g => some (true, .pointer (some ⟨g, 0, none⟩))
  | .func f => some (true, .func (.func f) #[] #[])

theorem Holds.evalc {n : Nat} {E : Env} {a : Act} (h : Holds n E a) {x : Operand} {c : Bool} {v : Value} (hx : ev E x = some (c, v)) (hc : c = true) : a.eval x = v := by
  subst hc
  cases x with
  | tmp t => have := h.reads t true v hx; simp [Act.eval, this]
  | const u => simp [ev] at hx; simp [Act.eval, hx]
  | global g => simp [ev] at hx; simp [Act.eval, hx]
  | func f => simp [ev] at hx; simp [Act.eval, hx]
theorem Holds.eval {n : Nat} {E : Env} {a : Act} (h : Holds n E a) {x : Operand} {v : Value} (hx : ev E x = some (true, v)) : a.eval x = v := h.evalc hx rfl
theorem beq_no {i j : Nat} (e : ¬ i = j) : Nat.beq i j = false := by
  cases h : Nat.beq i j
  · rfl
  · exact absurd (Nat.eq_of_beq_eq_true h) e

theorem Holds.put {n : Nat} {E : Env} {a : Act} (h : Holds n E a) {d : Nat} (hd : d < n) {c : Bool} {v v' : Value} (hc : v' = bif c then v else undef) : Holds n ((d, c, v) :: E) (a.put (some d) v') where
  defers := h.defers
  size := by simp [Act.put, h.size]
  reads := by
    intro i cu u hi
    simp only [look] at hi
    by_cases e : d = i
    · subst e
      simp at hi
      obtain ⟨rfl, rfl⟩ := hi
      simp [Act.put, h.size, hd, hc]
    · rw [beq_no e, cond_false] at hi
      have := h.reads i cu u hi
      simp only [Act.put]
      rw [Array.getElem?_setIfInBounds_ne (by omega)]
      exact this

/-- Fewer entries hold too. -/
theorem Holds.sub {n : Nat} {E E' : Env} {a : Act} (h : Holds n E a) (hs : ∀ i c v, look E' i = some (c, v) → look E i = some (c, v)) : Holds n E' a :=
  ⟨h.defers, h.size, fun i c v hi => h.reads i c v (hs i c v hi)⟩

/-- The entries of a list are met in another environment. -/
def Sub (E' E : Env) : Prop := ∀ i c v, look E' i = some (c, v) → look E i = some (c, v)
theorem Sub.nil (E : Env) : Sub [] E := by intro i c v h; simp [look] at h
theorem Sub.cons {E' E : Env} {i : Nat} {v : Value} (h : look E i = some (true, v)) (hs : Sub E' E) : Sub ((i, true, v) :: E') E := by
  intro j c u hj
  simp only [look] at hj
  by_cases e : i = j
  · subst e; simp at hj; obtain ⟨rfl, rfl⟩ := hj; exact h
  · rw [beq_no e, cond_false] at hj
    exact hs j c u hj

/-! ### What stands behind a piece of code -/
inductive Kont where
  | fin (Q : Exit → Act → World → Prop)
  | seq (y : Code) (k : Kont)
  | blk (id : Nat) (k : Kont)
  | cut (N : Act → World → Prop) (k : Kont)
  | noGoto (k : Kont)

def Kont.post (P : Program) : Kont → Exit → Act → World → Prop
  | .fin Q => Q
  | .seq y k => Exit.then (y.wp P (k.post P)) (k.post P)
  | .blk id k => Exit.inBlock id (k.post P)
  | .cut N k => Exit.then N (k.post P)
  | .noGoto k => Exit.noGoto (k.post P)

structure WC (P : Program) (c : Code) (n : Nat) (E : Env) (C : World → Prop) (k : Kont) : Prop where
  run : ∀ a w, Holds n E a → C w → c.wp P (k.post P) a w
structure WN (P : Program) (n : Nat) (E : Env) (C : World → Prop) (k : Kont) : Prop where
  run : ∀ a w, Holds n E a → C w → k.post P .normal a w
structure WL (P : Program) (ops : Array Oper) (l : List Oper) (n : Nat) (E : Env) (C : World → Prop) (k : Kont) : Prop where
  run : ∀ a w, Holds n E a → C w → wpList P ops (k.post P) l a w

section
variable {P : Program} {n : Nat} {E : Env} {C : World → Prop} {k : Kont}

theorem wc_seq {x y : Code} (h : WC P x n E C (.seq y k)) : WC P (.seq x y) n E C k := ⟨fun a w ha hw => wp_seq (h.run a w ha hw)⟩
theorem wc_skip (h : WN P n E C k) : WC P .skip n E C k := ⟨fun a w ha hw => wp_skip (h.run a w ha hw)⟩
theorem wc_label {l : Nat} (h : WN P n E C k) : WC P (.label l) n E C k := ⟨fun a w ha hw => wp_label (h.run a w ha hw)⟩
theorem wn_seq {y : Code} (h : WC P y n E C k) : WN P n E C (.seq y k) := ⟨fun a w ha hw => h.run a w ha hw⟩
theorem wn_blk {id : Nat} (h : WN P n E C k) : WN P n E C (.blk id k) := ⟨fun a w ha hw => h.run a w ha hw⟩
theorem wn_noGoto (h : WN P n E C k) : WN P n E C (.noGoto k) := ⟨fun a w ha hw => by
  have := h.run a w ha hw
  simpa [Kont.post, Exit.noGoto] using this⟩
theorem wc_scope {c : Code} (h : WC P c n E C (.noGoto k)) : WC P (.scope c) n E C k := ⟨fun a w ha hw => wp_scope_straight (h.run a w ha hw)⟩
theorem wc_block {id : Nat} {c : Code} (h : WC P c n E C (.blk id k)) : WC P (.block id c) n E C k := ⟨fun a w ha hw => wp_block (h.run a w ha hw)⟩
theorem wc_region {id : Nat} {l : List Oper} (h : WL P l.toArray l n E C k) : WC P (.region id l.toArray false) n E C k := ⟨fun a w ha hw => wp_region_lit (h.run a w ha hw)⟩
theorem wl_nil {ops : Array Oper} (h : WN P n E C k) : WL P ops [] n E C k := ⟨fun a w ha hw => wpList_nil (h.run a w ha hw)⟩

/-- Leaving a block: what stands behind it. -/
def popTo (id : Nat) : Kont → Option Kont
  | .fin _ => none
  | .seq _ k => popTo id k
  | .blk j k => bif Nat.beq id j then some k else popTo id k
  | .cut _ k => popTo id k
  | .noGoto k => popTo id k
theorem post_exit {id : Nat} {k k' : Kont} (h : popTo id k = some k') {a : Act} {w : World} (hk : k'.post P .normal a w) : k.post P (.exit id) a w := by
  induction k with
  | fin Q => simp [popTo] at h
  | seq y k ih => exact ih h
  | cut N k ih => exact ih h
  | noGoto k ih => simpa [Kont.post, Exit.noGoto] using ih h
  | blk j k ih =>
    simp only [popTo] at h
    by_cases e : id = j
    · subst e; simp at h; subst h; simpa [Kont.post, Exit.inBlock] using hk
    · rw [beq_no e, cond_false] at h
      have := ih h
      simpa [Kont.post, Exit.inBlock, e] using this
theorem wc_exit {id : Nat} {k' : Kont} (h : popTo id k = some k') (hk : WN P n E C k') : WC P (.exit id) n E C k := ⟨fun a w ha hw => wp_exit (post_exit h (hk.run a w ha hw))⟩

/-- The function's own end. -/
def base : Kont → (Exit → Act → World → Prop)
  | .fin Q => Q
  | .seq _ k | .blk _ k | .cut _ k | .noGoto k => base k
theorem post_ret {k : Kont} {a : Act} {w : World} (h : base k .ret a w) : k.post P .ret a w := by
  induction k with
  | fin Q => exact h
  | seq y k ih => exact ih h
  | cut N k ih => exact ih h
  | blk j k ih => exact ih h
  | noGoto k ih => simpa [Kont.post, Exit.noGoto] using ih h
/-- 'return': what is left to show speaks of the frame and the world. -/
structure WR (n : Nat) (E : Env) (C : World → Prop) (Q : Exit → Act → World → Prop) : Prop where
  run : ∀ a w, Holds n E a → C w → Q .ret a w
theorem wc_ret {Q : Exit → Act → World → Prop} (hb : base k = Q) (h : WR n E C Q) : WC P .ret n E C k := ⟨fun a w ha hw => wp_ret (post_ret (by rw [hb]; exact h.run a w ha hw))⟩

theorem wc_cond {c : Operand} {b : Bool} {x y : Code} (hc : ev E c = some (true, .bool b)) (ht : b = true → WC P x n E C k) (hf : b = false → WC P y n E C k) : WC P (.cond c x y) n E C k :=
  ⟨fun a w ha hw => wp_cond_split (ha.eval hc) (fun h => (ht h).run a w ha hw) (fun h => (hf h).run a w ha hw)⟩

/-- Fewer entries, a wider class. -/
theorem wc_weak {c : Code} {E' : Env} {C' : World → Prop} (hE : Sub E' E) (hC : ∀ w, C w → C' w) (h : WC P c n E' C' k) : WC P c n E C k := ⟨fun a w ha hw => h.run a w (ha.sub hE) (hC w hw)⟩
theorem wn_weak {E' : Env} {C' : World → Prop} (hE : Sub E' E) (hC : ∀ w, C w → C' w) (h : WN P n E' C' k) : WN P n E C k := ⟨fun a w ha hw => h.run a w (ha.sub hE) (hC w hw)⟩
theorem wl_weak {ops : Array Oper} {l : List Oper} {E' : Env} {C' : World → Prop} (hE : Sub E' E) (hC : ∀ w, C w → C' w) (h : WL P ops l n E' C' k) : WL P ops l n E C k := ⟨fun a w ha hw => h.run a w (ha.sub hE) (hC w hw)⟩

/-- A cut: the first piece comes to one of a family of states; the second goes on from each. -/
def Family (α : Type) (n : Nat) (EJ : α → Env) (CJ : α → World → Prop) (p : α → Prop) : Act → World → Prop := fun a w => ∃ y, p y ∧ Holds n (EJ y) a ∧ CJ y w
theorem wn_cut {α : Type} {EJ : α → Env} {CJ : α → World → Prop} {p : α → Prop} (y : α) (hp : p y) (hE : Sub (EJ y) E) (hC : ∀ w, C w → CJ y w) : WN P n E C (.cut (Family α n EJ CJ p) k) :=
  ⟨fun _ w ha hw => ⟨y, hp, ha.sub hE, hC w hw⟩⟩
theorem wc_seq_cut {α : Type} (EJ : α → Env) (CJ : α → World → Prop) {x y : Code} (h : WC P x n E C (.cut (Family α n EJ CJ (fun _ => True)) k)) (h' : ∀ z, WC P y n (EJ z) (CJ z) k) : WC P (.seq x y) n E C k :=
  ⟨fun a w ha hw => wp_seq (wp_mono (h.run a w ha hw) fun e a' w' q => by
    cases e with
    | normal => obtain ⟨z, _, hz, hc⟩ := q; exact (h' z).run a' w' hz hc
    | _ => exact q)⟩

theorem wc_split {α : Type} (EJ : α → Env) (CJ : α → World → Prop) {x y : Code} (h : WC P x n E C (.cut (Family α n EJ CJ (fun _ => True)) k)) (h' : ∀ z, WC P y n (EJ z) (CJ z) k) : WC P x n E C (.seq y k) :=
  ⟨fun a w ha hw => wp_mono (h.run a w ha hw) fun e a' w' q => by
    cases e with
    | normal => obtain ⟨z, _, hz, hc⟩ := q; exact (h' z).run a' w' hz hc
    | _ => exact q⟩

/-- A loop: a family of states, a measure. -/
theorem wc_loop {α : Type} (EJ : α → Env) (CJ : α → World → Prop) (μ : α → Nat) (x0 : α) {c : Code} (hE : Sub (EJ x0) E) (hC : ∀ w, C w → CJ x0 w)
    (h : ∀ x, WC P c n (EJ x) (CJ x) (.cut (Family α n EJ CJ (fun y => μ y < μ x)) k)) : WC P (.loop c) n E C k := by
  refine ⟨fun a w ha hw => ?_⟩
  refine wp_loop_ghost (fun m a w => ∃ x, μ x = m ∧ Holds n (EJ x) a ∧ CJ x w) (μ x0) ⟨x0, rfl, ha.sub hE, hC w hw⟩ ?_
  rintro m a w ⟨x, rfl, hx, hc⟩
  refine wp_mono ((h x).run a w hx hc) fun e a' w' q => ?_
  cases e with
  | normal => obtain ⟨z, hz, hz', hc'⟩ := q; exact ⟨_, hz, z, rfl, hz', hc'⟩
  | _ => exact q

/-! ### A guard -/
/-- Whether an operation runs. -/
def gd (ops : Array Oper) (E : Env) : Option (Nat × Bool) → Option Bool
  | none => some true
  | some (j, want) => match (ops[j]?).bind (·.dst) with
    | some d => match look E d with
      | some (c, .bool g) => some (bif c then (g == want) else false)
      | _ => none
    | none => none

end
end Go.Eng
