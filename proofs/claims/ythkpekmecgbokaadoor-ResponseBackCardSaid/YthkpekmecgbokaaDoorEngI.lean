/-
  The engine at a region that draws its order and in which one operation turns a block that the others do not look at: told as in EngD, the worlds before and behind related by whatever relation serves. Nothing of the program stands here.
-/
import Derived.Test.YthkpekmecgbokaaDoorEngH
namespace Go.Eng
open Go.RowKit
set_option linter.unusedVariables false

def SteadyX (X : World → World → Prop) (V : Tell) : Prop := ∀ u w w', X w w' → V u w → V u w'
theorem steadyX_exact (X : World → World → Prop) (c : Bool) (v : Value) : SteadyX X (exact1 c v) := fun _ _ _ _ h => h
section
variable {P : Program} {n : Nat} {E : Env} {C : World → Prop} {k : Kont} {ops : Array Oper} {X : World → World → Prop}
structure ObX (P : Program) (ops : Array Oper) (n : Nat) (C : World → Prop) (X : World → World → Prop) (o : Oper) (G : REnv) (V : Tell) : Prop where
  run : ∀ a w, C w → a.defers = [] → a.tmps.size = n → HR G (· ∈ o.looksAt ops) a w →
    (Region.wanted o (yielded ops a.tmps) = true → o.wp P a w (fun a' w' => ∃ v, a' = a.put o.dst v ∧ (o.dst = none → v = undef) ∧ V v w' ∧ X w w' ∧ C w') (fun _ _ _ => False)) ∧
    (Region.wanted o (yielded ops a.tmps) = false → V undef w)
def putG (o : Oper) (V : Tell) (G : REnv) : REnv := match o.dst with
  | some d => (d, V) :: G
  | none => G
def putQ (o : Oper) (V : Tell) (Q : World → Prop) : World → Prop := match o.dst with
  | some _ => Q
  | none => fun w => Q w ∧ V undef w
def WDsX (P : Program) (ops : Array Oper) (n : Nat) (C : World → Prop) (X : World → World → Prop) : List Oper → REnv → (World → Prop) → (REnv → (World → Prop) → Prop) → Prop
  | [], G, Q, fin => fin G Q
  | o :: rest, G, Q, fin => ∃ V, (∀ d, o.dst = some d → d < n) ∧ SteadyX X V ∧ ObX P ops n C X o G V ∧ WDsX P ops n C X rest (putG o V G) (putQ o V Q) fin

theorem wds_outX : ∀ (l : List Oper) (i : Nat) (G : REnv) (Q : World → Prop) (fin : REnv → (World → Prop) → Prop), (∀ j, j < l.length → ops[i + j]? = l[j]?) → WDsX P ops n C X l G Q fin →
    ∃ (Vs : Nat → Tell) (Q' : World → Prop), (∀ j, j < l.length → ∃ o, ops[i + j]? = some o ∧ (∀ d, o.dst = some d → d < n) ∧ SteadyX X (Vs j) ∧ ObX P ops n C X o (Gam (ops.extract i ops.size) Vs G j) (Vs j)) ∧ fin (Gam (ops.extract i ops.size) Vs G l.length) Q' ∧
      ∀ w, Q w → (∀ j o, j < l.length → ops[i + j]? = some o → o.dst = none → Vs j undef w) → Q' w
  | [], i, G, Q, fin, _, h => ⟨fun _ => fun _ _ => True, Q, by simp, h, fun _ hq _ => hq⟩
  | o :: rest, i, G, Q, fin, hl, h => by
    obtain ⟨V, hdn, hst, hob, hr⟩ := h
    have hoi : ops[i]? = some o := by simpa using hl 0 (by simp)
    obtain ⟨Vs, Q', h1, h2, h3⟩ := wds_outX rest (i + 1) (putG o V G) (putQ o V Q) fin (fun j hj => by have := hl (j + 1) (by simp; omega); simpa [Nat.add_assoc, Nat.add_comm 1 j] using this) hr
    have hilt : i < ops.size := by
      rcases Nat.lt_or_ge i ops.size with h' | h'
      · exact h'
      · simp [Array.getElem?_eq_none h'] at hoi
    have key : ∀ j, Gam (ops.extract i ops.size) (fun | 0 => V | q + 1 => Vs q) G (j + 1) = Gam (ops.extract (i + 1) ops.size) Vs (putG o V G) j := by
      intro j
      induction j with
      | zero =>
        have : (ops.extract i ops.size)[0]? = some o := by rw [Array.getElem?_extract, if_pos (by omega)]; simpa using hoi
        cases hd : o.dst <;> simp [Gam, this, putG, hd]
      | succ j ih =>
        have e : (ops.extract i ops.size)[j + 1]? = (ops.extract (i + 1) ops.size)[j]? := by
          simp only [Array.getElem?_extract]
          have : i + (j + 1) = i + 1 + j := by omega
          rw [this]
          by_cases h' : j < min ops.size ops.size - (i + 1)
          · rw [if_pos (by omega), if_pos h']
          · rw [if_neg (by omega), if_neg h']
        have hS : ∀ (q : Nat) (A : Array Oper) (W : Nat → Tell) (G : REnv), Gam A W G (q + 1) = match (A[q]?).bind (·.dst) with | some d => (d, W q) :: Gam A W G q | none => Gam A W G q := fun _ _ _ _ => rfl
        rw [hS (j + 1) (ops.extract i ops.size) _ G, hS j (ops.extract (i + 1) ops.size) Vs, e, ih]
    refine ⟨fun | 0 => V | q + 1 => Vs q, Q', ?_, ?_, ?_⟩
    · intro j hj
      cases j with
      | zero => exact ⟨o, by simpa using hoi, hdn, hst, hob⟩
      | succ j =>
        obtain ⟨o', ho', hdn', hst', hob'⟩ := h1 j (by simpa using hj)
        exact ⟨o', by rw [← ho']; congr 1; omega, hdn', hst', by rw [key]; exact hob'⟩
    · rw [List.length_cons, key]; exact h2
    · intro w hq hall
      refine h3 w ?_ (fun j p hj hp hd => ?_)
      · unfold putQ
        cases hd : o.dst with
        | some d => exact hq
        | none => exact ⟨hq, hall 0 o (by simp) (by simpa using hoi) hd⟩
      · exact hall (j + 1) p (by simpa using hj) (by rw [← hp]; congr 1; omega) hd

/-- The state in the midst of the first part. -/
structure MidX (ops : Array Oper) (n m : Nat) (C : World → Prop) (Vs : Nat → Tell) (G0 : REnv) (listed : Array Bool) (a : Act) (w : World) : Prop where
  closed : Closed ops listed
  inC : C w
  defers : a.defers = []
  size : a.tmps.size = n
  few : ∀ j, On listed j → j < m
  vals : ∀ j o d, On listed j → ops[j]? = some o → o.dst = some d → ∃ u, a.tmps[d]? = some u ∧ Vs j u w
  facts : ∀ j o, On listed j → ops[j]? = some o → o.dst = none → Vs j undef w
  base : ∀ s U, lookR G0 s = some U → (∀ j o, On listed j → ops[j]? = some o → o.dst ≠ some s) → ∃ u, a.tmps[s]? = some u ∧ U u w

theorem mid_allX {Q : Exit → Act → World → Prop} {m : Nat} {Vs : Nat → Tell} {G0 : REnv} (hord : orderly ops m = true) (hm : m ≤ ops.size) (hst0 : ∀ s U, lookR G0 s = some U → SteadyX X U) (hrefl : ∀ w, X w w)
    (hV : ∀ j, j < m → ∃ o, ops[j]? = some o ∧ (∀ d, o.dst = some d → d < n) ∧ SteadyX X (Vs j) ∧ ObX P ops n C X o (Gam ops Vs G0 j) (Vs j))
    (hfin : ∀ a w, C w → HA n (Gam ops Vs G0 m) a w → (∀ j o, j < m → ops[j]? = some o → o.dst = none → Vs j undef w) → wpList P ops Q (ops.toList.drop m) a w) :
    ∀ (fuel : Nat) (listed : Array Bool) (a : Act) (w : World), left listed = fuel → MidX ops n m C Vs G0 listed a w → wpAny P .any ops Q fuel listed a w := by
  -- all of the prefix is done
  have done : ∀ (fuel : Nat) (listed : Array Bool) (a : Act) (w : World), left listed = fuel → MidX ops n m C Vs G0 listed a w → (∀ j, j < m → On listed j) → wpAny P .any ops Q fuel listed a w := by
    intro fuel listed a w hf hmid hall
    have hon : ∀ j, On listed j ↔ j < m := fun j => ⟨hmid.few j, hall j⟩
    have hlen : left listed = (ops.toList.drop m).length := by
      have : listed = Array.ofFn (n := ops.size) (fun i => decide (i.val < m)) := by
        apply Array.ext
        · simp [hmid.closed.size]
        · intro i h1 h2
          have := hon i
          simp [On, h1] at this
          simp
          cases hb : listed[i] with
          | true => simp [← this, hb]
          | false => simp [hb] at this; simp; omega
      have hc : ∀ (q : Nat), (List.ofFn (n := q) (fun i => decide (i.val < m))).countP (fun b => !b) = q - m := by
        intro q
        induction q with
        | zero => simp
        | succ q ih =>
          rw [List.ofFn_succ_last]
          simp only [List.countP_append, Fin.val_castSucc] 
          rw [ih]
          by_cases h' : q < m
          · simp [h']; omega
          · simp [h']; omega
      unfold left
      rw [this, Array.toList_ofFn, hc]
      simp
    rw [← hf, hlen]
    refine tail_any hord (ops.toList.drop m) m listed a w (Nat.le_refl _) (by simp; omega) (fun j hj => by simp) hmid.closed.size hon (hfin a w hmid.inC ⟨hmid.defers, hmid.size, ?_⟩ (fun j o hj ho hd => hmid.facts j o (hall j hj) ho hd))
    intro s U hs _
    rcases look_gam hs with ⟨j, o, hj, ho, hd, rfl⟩ | ⟨h0, hn⟩
    · exact hmid.vals j o s (hall j hj) ho hd
    · exact hmid.base s U h0 (fun j o hj ho => hn j o ((hon j).1 hj) ho)
  intro fuel
  induction fuel with
  | zero =>
    intro listed a w hf hmid
    exact done 0 listed a w hf hmid (fun j hj => left_zero hf (by rw [hmid.closed.size]; omega))
  | succ fuel ih =>
    intro listed a w hf hmid
    by_cases hall : ∀ j, j < m → On listed j
    · exact done _ listed a w hf hmid hall
    have hready : ∃ i o, i < m ∧ ops[i]? = some o ∧ ¬ On listed i ∧ ∀ l ∈ edges o, On listed l := by
      have : ∃ i, i < m ∧ ¬ On listed i := by
        rcases Classical.em (∃ i, i < m ∧ ¬ On listed i) with h' | h'
        · exact h'
        · exact absurd (fun j hj => Classical.byContradiction fun hn => h' ⟨j, hj, hn⟩) hall
      obtain ⟨i, ⟨hi, hni⟩, hleast⟩ := exists_least this
      have hilt : i < ops.size := by omega
      refine ⟨i, ops[i], hi, by simp [hilt], hni, fun l hl => ?_⟩
      have hli := (orderly_at hord (i := i) (o := ops[i]) (by simp [hilt])).1 l hl
      exact Classical.byContradiction fun hn => by have := hleast l ⟨by omega, hn⟩; omega
    refine ⟨fun h0 => ?_, fun i hi => ?_⟩
    · obtain ⟨i, o, him, ho, hno, hr⟩ := hready
      have : i ∈ Region.ready .any ops listed := (ready_iff hmid.closed.size).2 ⟨o, ho, hno, hr⟩
      rw [h0] at this; cases this
    · obtain ⟨o, ho, hno, hr⟩ := (ready_iff hmid.closed.size).1 hi
      have hord1 := orderly_at hord ho
      have him : i < m := by
        rcases Nat.lt_or_ge i m with h' | h'
        · exact h'
        · obtain ⟨q, p, hqm, hp, hnq, _⟩ := hready
          exact absurd (anc_on hmid.closed (i + 1) i o ho hr q (hord1.2.2.2 h' q (by omega))) hnq
      obtain ⟨o', ho', hdn, hst, hob⟩ := hV i him
      obtain rfl : o = o' := by rw [ho] at ho'; simpa using ho'
      have hilt : i < listed.size := by rw [hmid.closed.size]; omega
      have hHR : HR (Gam ops Vs G0 i) (· ∈ o.looksAt ops) a w := by
        intro s U hs hlook
        rcases look_gam hs with ⟨j, p, hj, hp, hd', rfl⟩ | ⟨h0, hn⟩
        · have := ((hord1.2.2.1 j p s hp (by omega) hd').2 hlook)
          rw [if_pos hj] at this
          exact hmid.vals j p s (hr j this) hp hd'
        · refine hmid.base s U h0 (fun j p hj hp hs' => ?_)
          by_cases hji : j < i
          · exact hn j p hji hp hs'
          · have hne : j ≠ i := fun e => hno (e ▸ hj)
            have := ((hord1.2.2.1 j p s hp hne hs').2 hlook)
            rw [if_neg hji] at this
            exact hno (hmid.closed.back j p hp hj i this)
      have hnext : ∀ v w', (o.dst = none → v = undef) → Vs i v w' → X w w' → C w' → wpAny P .any ops Q fuel (listed.setIfInBounds i true) (a.put o.dst v) w' := by
        intro v w' hun hv hx hC'
        have hsz : (a.put o.dst v).tmps.size = n := by
          cases hd : o.dst <;> simp [Act.put, hmid.size]
        have hdf : (a.put o.dst v).defers = [] := by
          cases hd : o.dst <;> simp [Act.put, hmid.defers]
        have hoth : ∀ s, o.dst ≠ some s → (a.put o.dst v).tmps[s]? = a.tmps[s]? := by
          intro s hs
          cases hd : o.dst with
          | none => simp [Act.put]
          | some d =>
            have hne : d ≠ s := fun e => hs (by rw [hd, e])
            simp only [Act.put]; rw [Array.getElem?_setIfInBounds_ne hne]
        refine ih _ _ _ (by have := left_set hilt hno; omega) ⟨⟨by simpa using hmid.closed.size, ?_⟩, hC', hdf, hsz, ?_, ?_, ?_, ?_⟩
        · intro q p hp hq j hj
          rw [on_set hilt] at hq ⊢
          rcases hq with rfl | hq
          · rw [ho] at hp; obtain rfl : o = p := by simpa using hp
            exact .inr (hr j hj)
          · exact .inr (hmid.closed.back q p hp hq j hj)
        · intro j hj
          rw [on_set hilt] at hj
          rcases hj with rfl | hj
          · exact him
          · exact hmid.few j hj
        · intro j p d' hj hp hd'
          rw [on_set hilt] at hj
          by_cases e : j = i
          · subst e; rw [ho] at hp; obtain rfl : o = p := by simpa using hp
            have hdn' := hdn d' hd'
            exact ⟨v, by rw [hd']; simp [Act.put, hmid.size, hdn'], hv⟩
          · have hj : On listed j := hj.resolve_left e
            obtain ⟨u, hu, hVu⟩ := hmid.vals j p d' hj hp hd'
            have hne := (hord1.2.2.1 j p d' hp e hd').1
            obtain ⟨o2, ho2, _, hst2, _⟩ := hV j (hmid.few j hj)
            exact ⟨u, by rw [hoth d' hne]; exact hu, hst2 _ _ _ hx hVu⟩
        · intro j p hj hp hd'
          rw [on_set hilt] at hj
          by_cases e : j = i
          · subst e; rw [ho] at hp; obtain rfl : o = p := by simpa using hp
            rw [← hun hd']; exact hv
          · have hj : On listed j := hj.resolve_left e
            obtain ⟨o2, ho2, _, hst2, _⟩ := hV j (hmid.few j hj)
            exact hst2 _ _ _ hx (hmid.facts j p hj hp hd')
        · intro s U hs hn
          have hne : o.dst ≠ some s := hn i o (by rw [on_set hilt]; exact .inl rfl) ho
          obtain ⟨u, hu, hU⟩ := hmid.base s U hs (fun j p hj hp => hn j p (by rw [on_set hilt]; exact .inr hj) hp)
          exact ⟨u, by rw [hoth s hne]; exact hu, hst0 s U hs _ _ _ hx hU⟩
      obtain ⟨h1, h2⟩ := hob.run a w hmid.inC hmid.defers hmid.size hHR
      unfold wpOp
      simp only [ho]
      split
      · rename_i hw
        refine .inl ?_
        have := h1 hw
        unfold Oper.wp at this ⊢
        generalize (execOp a.eval o).run P w = r at *
        cases r with
        | ok nx w1 =>
          cases nx <;> simp only [Oper.upon] at this ⊢
          case value u => obtain ⟨v, e, hun, h3, h4, h5⟩ := this; rw [e]; exact hnext v _ hun h3 h4 h5
          case skip => obtain ⟨v, e, hun, h3, h4, h5⟩ := this; rw [e]; exact hnext v _ hun h3 h4 h5
          case defer => obtain ⟨v, e, hun, h3, h4, h5⟩ := this; rw [e]; exact hnext v _ hun h3 h4 h5
          case enter f args =>
            refine this.mono fun e w2 he => ?_
            cases e with
            | returned u => obtain ⟨v, e, hun, h3, h4, h5⟩ := he; show wpAny P .any ops Q fuel _ (a.put o.dst u) w2; rw [e]; exact hnext v _ hun h3 h4 h5
            | panicked c => exact he.elim
            | outgrown => obtain ⟨_, _, h⟩ := he; exact h.elim
          case row row args => refine this.mono fun u w2 he => ?_; obtain ⟨v, e, hun, h3, h4, h5⟩ := he; rw [e]; exact hnext v _ hun h3 h4 h5
        | halt x w1 => cases x <;> simp only [Oper.upon] at this
      · rename_i hw
        have hw' : Region.wanted o (yielded ops a.tmps) = false := by simpa using hw
        exact hnext undef w (fun _ => rfl) (h2 hw') (hrefl _) hmid.inC


/-- The told part (exact entries only), the facts that its writers leave; what is left is walked in the order of the text. -/
structure WX (P : Program) (ops : Array Oper) (l : List Oper) (n : Nat) (E : Env) (C : World → Prop) (X : World → World → Prop) (Q : World → Prop) (tail : List Oper) (k : Kont) : Prop where
  run : ∀ G, (∀ s, lookR G s = (look E s).map fun cv => exact1 cv.1 cv.2) → WDsX P ops n C X l G Q (fun G' Q' => ∀ a w, C w → Q' w → HA n G' a w → wpList P ops (k.post P) tail a w)
theorem wc_drawX {id : Nat} {l : List Oper} (m : Nat) (X : World → World → Prop) (C' : World → Prop) (hm : P.follows .mixedOrders = true) (hml : Nat.ble m l.length = true) (hord : orderly l.toArray m = true) (hrefl : ∀ w, X w w) (hC : ∀ w, C w → C' w.drew)
    (h : WX P l.toArray (l.take m) n E C' X (fun _ => True) (l.drop m) k) : WC P (.region id l.toArray true) n E C k := by
  have hml : m ≤ l.length := Nat.le_of_ble_eq_true hml
  refine ⟨fun a w ha hw => wp_region_any hm ?_⟩
  have h := h.run (ofEnv E) (by intro s; rw [lookR_ofEnv])
  obtain ⟨Vs, Q', hV, hfin, hQ⟩ := wds_outX (ops := l.toArray) (l.take m) 0 _ _ _ (by intro j hj; simp at hj; simp [hj]) h
  have hex : l.toArray.extract 0 l.toArray.size = l.toArray := by simp
  rw [hex] at hV hfin
  have hlen : (l.take m).length = m := by simp; omega
  rw [hlen] at hV hfin hQ
  refine mid_allX (m := m) (C := C') (X := X) (G0 := ofEnv E) hord (by simpa using hml) ?_ hrefl (fun j hj => ?_) (fun a w hCw hA hf => by simpa using hfin a w hCw (hQ w trivial (fun j o hj ho hd => hf j o hj (by simpa using ho) hd)) hA) _ _ a _ (start_left _) ?_
  · intro s U hs
    rw [lookR_ofEnv] at hs
    obtain ⟨cv, _, rfl⟩ := Option.map_eq_some_iff.1 hs
    exact steadyX_exact _ _ _
  · obtain ⟨o, h1, h2⟩ := hV j hj
    exact ⟨o, by simpa using h1, h2⟩
  · refine ⟨⟨by simp, fun i o _ hi => absurd hi (start_on _ _)⟩, hC w hw, ha.defers, ha.size, fun j hj => absurd hj (start_on _ _), fun j o d hj => absurd hj (start_on _ _), fun j o hj => absurd hj (start_on _ _), ?_⟩
    intro s U hs _
    rw [lookR_ofEnv] at hs
    obtain ⟨cv, hcv, rfl⟩ := Option.map_eq_some_iff.1 hs
    exact ⟨_, ha.reads s cv.1 cv.2 hcv, rfl⟩
theorem wx_nil {Q : World → Prop} {tail : List Oper} (h : WL P ops tail n E (fun w => C w ∧ Q w) k) : WX P ops [] n E C X Q tail k := ⟨fun G hG a w hw hq hA => h.run a w ⟨hA.1, hA.2.1, fun i c v hi => by
  obtain ⟨u, hu, hU⟩ := hA.2.2 i (exact1 c v) (by rw [hG]; simp [hi]) trivial
  rw [hu, hU]⟩ ⟨hw, hq⟩⟩
theorem wx_v {d : Nat} {cg : Bool} {v : Value} {o : Oper} {rest tail : List Oper} {Q : World → Prop} (hX : ∀ w w', Ext w w' → X w w') (hg : gd ops E o.guard = some cg) (ho : o.dst = some d) (hd : Nat.blt d n = true) (hb : belowN n E = true) (hsel : noSel o = true)
    (hv : OpV P n E C o cg v) (h : WX P ops rest n ((d, cg, v) :: E) C X Q tail k) : WX P ops (o :: rest) n E C X Q tail k := ⟨fun G hG => by
  have hd : d < n := by simpa [Nat.blt_eq] using hd
  refine ⟨exact1 cg v, (fun d' hd' => by rw [ho] at hd'; cases hd'; exact hd), steadyX_exact _ _ _, ⟨fun a w hw had has hHR => ?_⟩, ?_⟩
  · obtain ⟨b, hb1, hb2, hb3⟩ := turn (ops := ops) (E := E) o had has (fun i c u hi hm => by
      obtain ⟨u', h1, h2⟩ := hHR i (exact1 c u) (by rw [hG]; simp [hi]) hm
      rw [h1, h2]) (noSel_spec hsel) (belowN_look hb)
    have hwb := wanted_gd (ops := ops) hb1 hg
    rw [hb3] at hwb
    refine ⟨fun hwant => ?_, fun hno => ?_⟩
    · have hcg : cg = true := by rw [← hwb]; exact hwant
      have := hv.run hcg b hb1 w hw
      have : YAt P o a C w v := by unfold YAt at *; rw [hb2] at this; exact this
      exact this.wp hw fun w' hw' hx => ⟨v, rfl, (fun h => by rw [ho] at h; cases h), by simp [exact1, hcg], hX _ _ hx, hw'⟩
    · have hcg : cg = false := by rw [← hwb]; exact hno
      simp [exact1, hcg]
  · unfold putG putQ
    rw [ho]
    refine h.run _ ?_
    intro s
    simp only [lookR, look]
    by_cases e : d = s
    · subst e; simp
    · rw [beq_no e, cond_false, cond_false]; exact hG s⟩
/-- a writer: what it leaves is a fact -/
theorem wx_w {o : Oper} {rest tail : List Oper} {Q F : World → Prop} (hg : o.guard = none) (ho : o.dst = none) (hb : belowN n E = true) (hsel : noSel o = true) (hF : ∀ w w', X w w' → F w → F w')
    (hv : ∀ a w, Holds n E a → C w → ∃ w', (execOp a.eval o).run P w = .ok .skip w' ∧ X w w' ∧ C w' ∧ F w') (h : WX P ops rest n E C X (fun w => Q w ∧ F w) tail k) : WX P ops (o :: rest) n E C X Q tail k := ⟨fun G hG => by
  refine ⟨fun _ w => F w, (fun d' hd' => by rw [ho] at hd'; cases hd'), fun _ _ _ hx hf => hF _ _ hx hf, ⟨fun a w hw had has hHR => ?_⟩, ?_⟩
  · obtain ⟨b, hb1, hb2, hb3⟩ := turn (ops := ops) (E := E) o had has (fun i c u hi hm => by
      obtain ⟨u', h1, h2⟩ := hHR i (exact1 c u) (by rw [hG]; simp [hi]) hm
      rw [h1, h2]) (noSel_spec hsel) (belowN_look hb)
    refine ⟨fun _ => ?_, fun hno => by simp [Region.wanted, hg] at hno⟩
    obtain ⟨w', h1, h2, h3, h4⟩ := hv b w hb1 hw
    unfold Oper.wp
    rw [← hb2, h1, Oper.upon_skip, ho]
    exact ⟨undef, by simp [Act.put], fun _ => rfl, h4, h2, h3⟩
  · have e1 : putG o (fun _ w => F w) G = G := by unfold putG; rw [ho]
    have e2 : putQ o (fun _ w => F w) Q = fun w => Q w ∧ F w := by unfold putQ; rw [ho]
    rw [e1, e2]
    exact h.run G hG⟩
/-- laid for good from here on; that it is new is known -/
theorem wl_publish {w0 : World} {H1 H2 : List (Nat × Obj)} {M : Ghost} {l : List Oper} (h : (∀ p ∈ H1, w0.heap.size ≤ p.1) → WL P ops l n E (St w0 [] H2 (With M H1)) k) : WL P ops l n E (St w0 [] (H1 ++ H2) M) k :=
  ⟨fun a w ha hw => (h (fun p hp => by have := hw.new p (List.mem_append_left _ hp); simpa using this)).run a w ha hw.publish⟩
theorem wc_publish {w0 : World} {H1 H2 : List (Nat × Obj)} {M : Ghost} {c : Code} (h : (∀ p ∈ H1, w0.heap.size ≤ p.1) → WC P c n E (St w0 [] H2 (With M H1)) k) : WC P c n E (St w0 [] (H1 ++ H2) M) k :=
  ⟨fun a w ha hw => (h (fun p hp => by have := hw.new p (List.mem_append_left _ hp); simpa using this)).run a w ha hw.publish⟩
theorem since_new {w0 : World} {M0 M : Ghost} {H1 : List (Nat × Obj)} (h : Since w0 M0 M) (hn : ∀ p ∈ H1, w0.heap.size ≤ p.1) : Since w0 M0 (With M H1) := h.step (fun _ _ h => .inl h) (fun b o hb => hb.elim .inl fun hm => .inr (hn (b, o) hm))
/-- a class of worlds that leaves open what one block holds -/
theorem ov_ex {α : Type} {D : α → World → Prop} {o : Oper} {cg : Bool} {v : Value} (h : ∀ x, OpV P n E (D x) o cg v) : OpV P n E (fun w => ∃ x, D x w) o cg v := ⟨fun hc a ha w ⟨x, hw⟩ => by
  have := (h x).run hc a ha w hw
  unfold YAt at *
  generalize (execOp a.eval o).run P w = r at *
  cases r with
  | ok nx w1 =>
    cases nx <;> simp only [] at this ⊢
    case value u => exact this
    case enter f args => exact ⟨this.1, this.2.mono fun e w2 ⟨h1, h2, h3⟩ => ⟨h1, h2, x, h3⟩⟩
  | halt x w1 => simp only [] at this⟩
/-- a store of a whole block of one's own, run -/
theorem exec_store {w0 : World} {bs : List Nat} {H : List (Nat × Obj)} {M : Ghost} {x y : Operand} {ty t : TypeId} {pos : String} {af : Array Edge} {g : Option (Nat × Bool)} {b : Nat} {c l : List Value} {T : TypeId} {v : Value} {a : Act} {w : World} (hw : St w0 bs ((b, .cells c.toArray T (0, 0)) :: H) M w)
    (hx : a.eval x = .pointer (some ⟨b, 0, none⟩)) (hy : a.eval y = v) (hs : (P.info? t).map (·.size) = some v.cells.size) (hv : v.cells.toList = l) (hl : l.length = c.length) (hp : l.all plainV = true) :
    ∃ w', (execOp a.eval ⟨none, .store t x y, ty, pos, af, g⟩).run P w = .ok .skip w' ∧ Keep [b] w w' ∧ St w0 bs ((b, .cells l.toArray T (0, 0)) :: H) M w' ∧ w'.heap[b]? = some (.cells l.toArray T (0, 0)) := by
  have hsz : v.cells.size = l.length := by rw [← hv]; simp
  obtain ⟨w', h1, h2, h3⟩ := run_storeCells (P := P) (b := b) (o := 0) (T := T) v.cells.toList 0 c w (hw.get List.mem_cons_self) (by rw [hv]; omega) (by rw [hv]; exact hp)
  have e : setCells c (0 + 0) v.cells.toList = l := by
    rw [hv]
    have := set_past ([] : List Value) l c (by omega)
    simp only [List.nil_append, List.length_nil] at this
    rw [this, List.drop_eq_nil_of_le (by omega), List.append_nil]
  rw [e] at h3
  refine ⟨w', ?_, h2, hw.upd (o := .cells c.toArray T (0, 0)) Upd.here h2 h3, h3⟩
  simp [execOp, hx, hy, Instr.storeAt, Instr.sureAddr, storeVar, run_sizeOf hs, h1]
/-- what is known of a block said of it -/
theorem St.known {w0 : World} {bs : List Nat} {H : List (Nat × Obj)} {M : Ghost} {b : Nat} {o o' : Obj} {w : World} (h : St w0 bs ((b, o) :: H) M w) (hb : w.heap[b]? = some o') : St w0 bs ((b, o') :: H) M w := by
  refine ⟨h.keep, fun p hp => ?_, fun p hp => ?_, by simpa using h.nodup, h.laid, fun q r hm p hp => ?_⟩
  · rcases List.mem_cons.1 hp with rfl | hp
    · exact hb
    · exact h.own p (List.mem_cons_of_mem _ hp)
  · rcases List.mem_cons.1 hp with rfl | hp
    · exact h.new (b, o) List.mem_cons_self
    · exact h.new p (List.mem_cons_of_mem _ hp)
  · rcases List.mem_cons.1 hp with rfl | hp
    · exact h.apart q r hm (b, o) List.mem_cons_self
    · exact h.apart q r hm p (List.mem_cons_of_mem _ hp)
/-- one block may turn, once, to what is said -/
def TurnsTo (b : Nat) (o : Obj) (w w' : World) : Prop := Keep [b] w w' ∧ (w.heap[b]? = some o → w'.heap[b]? = some o)
theorem TurnsTo.refl (b : Nat) (o : Obj) (w : World) : TurnsTo b o w w := ⟨Keep.refl _ _, id⟩
theorem TurnsTo.ext {b : Nat} {o : Obj} {w w' : World} (h : Ext w w') : TurnsTo b o w w' := ⟨h.to, fun hb => by rw [h.block b (lt_of_get hb) (by simp)]; exact hb⟩
end
end Go.Eng
