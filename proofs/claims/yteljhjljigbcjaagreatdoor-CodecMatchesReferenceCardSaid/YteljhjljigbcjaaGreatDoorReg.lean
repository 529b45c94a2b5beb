/- A region that draws its order, walked operation by operation: each operation's result is told ahead, by a table; whatever order is drawn, each slot holds what the table says. -/
import Derived.ProofKit
import Derived.RegionTactic
import Derived.Below
set_option linter.unusedVariables false
namespace Go.Proofs.YteljhjljigbcjaaGreatDoor.Rg
open Go.RowKit

/-- a step of the region: below n nothing turns, and each cell reads as it did -/
structure Stp (n : Nat) (w w' : World) : Prop where
  low : Below n w w'
  cells : ∀ a v, w.cell? a = some v → w'.cell? a = some v
theorem Stp.refl (n : Nat) (w : World) : Stp n w w := ⟨Below.refl _ _, fun _ _ h => h⟩
theorem Stp.of {n : Nat} {w w' : World} (hn : n ≤ w.heap.size) (h : Below w.heap.size w w') : Stp n w w' := ⟨h.mono hn, fun a v hv => by rw [h.cell (World.block_lt_of_cell? w _ hv)]; exact hv⟩

/-- the table: what the slot of operation i holds, in the world w; it stays so while new memory is made -/
structure Tab where
  S : Nat → Value → World → Prop
  /-- true: no operation touches a block that was there before it -/
  strict : Bool
  mono : ∀ i v w w', S i v w → (∀ a v, w.cell? a = some v → w'.cell? a = some v) → (strict = true → Below w.heap.size w w') → S i v w'

/-- operation i's slot holds what the table says -/
def Got (T : Tab) (ops : Array Oper) (j : Nat) (a : Act) (w : World) : Prop := ∀ o d, ops[j]? = some o → o.dst = some d → T.S j (a.tmps.getD d undef) w
/-- the slots that no operation writes -/
def Old (ops : Array Oper) (a0 a : Act) : Prop := ∀ t, (ops.all fun o => o.dst != some t) = true → a.tmps.getD t undef = a0.tmps.getD t undef

structure Good (T : Tab) (ops us : Array Oper) (a0 : Act) (w0 : World) (listed : Array Bool) (a : Act) (w : World) : Prop where
  defs : a.defers = a0.defers
  size : a.tmps.size = a0.tmps.size
  len : listed.size = ops.size
  below : Below w0.heap.size w0 w
  old : Old us a0 a
  got : ∀ i, listed.getD i false = true → Got T ops i a w

/-- one operation, whatever has come up beside what it waits for -/
def StepOk (P : Program) (T : Tab) (ops us : Array Oper) (Q : Exit → Act → World → Prop) (a0 : Act) (w0 : World) (i : Nat) (o : Oper) : Prop :=
  ∀ (a : Act) (w : World), a.tmps.size = a0.tmps.size → Below w0.heap.size w0 w → Old us a0 a → (∀ e ∈ o.after.toList, Region.binds .any e = true → Got T ops e.on a w) →
    (Region.wanted o (yielded ops a.tmps) = true ∧ o.wp P a w (fun a' w' => ∃ v, a' = a.put o.dst v ∧ Stp w0.heap.size w w' ∧ (T.strict = true → Below w.heap.size w w') ∧ T.S i v w') Q) ∨ (Region.wanted o (yielded ops a.tmps) = false ∧ T.S i undef w)

section
variable {P : Program} {T : Tab} {ops us : Array Oper} {Q : Exit → Act → World → Prop} {a0 : Act} {w0 : World}

theorem put_defers (a : Act) (d : Option Tmp) (v : Value) : (a.put d v).defers = a.defers := by cases d <;> rfl
theorem put_size (a : Act) (d : Option Tmp) (v : Value) : (a.put d v).tmps.size = a.tmps.size := by cases d <;> simp [Act.put]
theorem put_other (a : Act) (d : Option Tmp) (v : Value) (t : Tmp) (h : d ≠ some t) : (a.put d v).tmps.getD t undef = a.tmps.getD t undef := by
  cases d with
  | none => rfl
  | some d =>
    have hne : d ≠ t := fun e => h (by rw [e])
    simp [Act.put, Array.getD_eq_getD_getElem?, hne]
theorem put_same (a : Act) (d : Tmp) (v : Value) (h : d < a.tmps.size) : (a.put (some d) v).tmps.getD d undef = v := by
  simp [Act.put, Array.getD_eq_getD_getElem?, h]

theorem Good.next {listed : Array Bool} {a : Act} {w w' : World} {i : Nat} {o : Oper} {v : Value} (h : Good T ops us a0 w0 listed a w) (hi : ops[i]? = some o) (hu : o ∈ us)
    (hdst : ∀ (i j : Nat) (o o' : Oper) (d : Tmp), ops[i]? = some o → ops[j]? = some o' → o.dst = some d → o'.dst = some d → i = j) (hsz : ∀ (i : Nat) (o : Oper) (d : Tmp), ops[i]? = some o → o.dst = some d → d < a0.tmps.size)
    (hb : Stp w0.heap.size w w') (hbs : T.strict = true → Below w.heap.size w w') (hv : T.S i v w') : Good T ops us a0 w0 (listed.setIfInBounds i true) (a.put o.dst v) w' := by
  have hbw : Below w0.heap.size w0 w' := h.below.trans hb.low
  refine ⟨by rw [put_defers]; exact h.defs, by rw [put_size]; exact h.size, by simpa using h.len, hbw, fun t ht => ?_, fun j hj => ?_⟩
  · rw [put_other, h.old t ht]
    intro e
    have := Array.all_eq_true_iff_forall_mem.1 ht o hu
    simp [e] at this
  · intro o' d ho' hd
    by_cases hij : j = i
    · subst hij
      rw [hi] at ho'; cases ho'
      rw [hd, put_same _ _ _ (by rw [h.size]; exact hsz j o d hi hd)]
      exact hv
    · rw [put_other _ _ _ _ (fun e => hij (hdst j i o' o d ho' hi hd e))]
      have hj' : listed.getD j false = true := by
        rw [Array.getD_eq_getD_getElem?, Array.getElem?_setIfInBounds, if_neg (fun e => hij e.symm)] at hj
        rw [Array.getD_eq_getD_getElem?]; exact hj
      exact T.mono _ _ _ _ (h.got j hj' o' d ho' hd) hb.cells hbs

theorem mem_ready {listed : Array Bool} {i : Nat} (h : i ∈ Region.ready .any ops listed) : ∃ o, ops[i]? = some o ∧ listed.getD i true = false ∧ ∀ e ∈ o.after.toList, Region.binds .any e = true → listed.getD e.on false = true := by
  simp only [Region.ready, List.mem_filter, Bool.and_eq_true, Bool.not_eq_true'] at h
  obtain ⟨_, h1, h2⟩ := h
  cases ho : ops[i]? with
  | none => rw [ho] at h2; simp at h2
  | some o =>
    rw [ho] at h2
    simp only [Option.map_some, Option.getD_some] at h2
    refine ⟨o, rfl, h1, fun e he hb => ?_⟩
    have := Array.all_eq_true_iff_forall_mem.1 h2 e (by simpa using he)
    rw [hb] at this
    simpa using this

theorem any_of_good (hdst : ∀ (i j : Nat) (o o' : Oper) (d : Tmp), ops[i]? = some o → ops[j]? = some o' → o.dst = some d → o'.dst = some d → i = j) (hsz : ∀ (i : Nat) (o : Oper) (d : Tmp), ops[i]? = some o → o.dst = some d → d < a0.tmps.size)
    (hstep : ∀ (i : Nat) (o : Oper), ops[i]? = some o → StepOk P T ops ops Q a0 w0 i o)
    (hdone : ∀ listed a w, Good T ops ops a0 w0 listed a w → Region.ready .any ops listed = [] → Q .normal a w) :
    ∀ (fuel : Nat) (listed : Array Bool) (a : Act) (w : World), (listed.toList.count false) ≤ fuel → Good T ops ops a0 w0 listed a w → wpAny P .any ops Q fuel listed a w := by
  intro fuel
  induction fuel with
  | zero =>
    intro listed a w hc hg
    have hr : Region.ready .any ops listed = [] := by
      rw [List.eq_nil_iff_forall_not_mem]
      intro i hi
      obtain ⟨o, ho, hl, _⟩ := mem_ready hi
      have h0 : listed.toList.count false = 0 := by omega
      rw [List.count_eq_zero] at h0
      apply h0
      rw [Array.getD_eq_getD_getElem?] at hl
      cases hq : listed[i]? with
      | none => rw [hq] at hl; simp at hl
      | some b => rw [hq] at hl; simp at hl; subst hl; exact Array.mem_toList_iff.2 (Array.mem_of_getElem? hq)
    exact ⟨hr, hdone _ _ _ hg hr⟩
  | succ fuel ih =>
    intro listed a w hc hg
    refine ⟨fun hr => hdone _ _ _ hg hr, fun i hi => ?_⟩
    obtain ⟨o, ho, hl, he⟩ := mem_ready hi
    have hcount : ((listed.setIfInBounds i true).toList.count false) ≤ fuel := by
      rw [Array.getD_eq_getD_getElem?] at hl
      cases hq : listed[i]? with
      | none => rw [hq] at hl; simp at hl
      | some b =>
        rw [hq] at hl; simp at hl; subst hl
        obtain ⟨hlt, hget⟩ := Array.getElem?_eq_some_iff.1 hq
        rw [Array.toList_setIfInBounds, List.count_set (by simpa using hlt)]
        have hgl : listed.toList[i] = false := by simpa using hget
        rw [hgl, if_pos (by rfl), if_neg (by decide)]
        have hpos : 0 < listed.toList.count false := List.count_pos_iff.2 (by rw [← hgl]; exact List.getElem_mem _)
        omega
    have hs := hstep i o ho a w hg.size hg.below hg.old (fun e hem hb => hg.got e.on (he e hem hb))
    unfold wpOp
    simp only [ho]
    rcases hs with ⟨hw, hs⟩ | ⟨hw, hs⟩
    · rw [if_pos hw]
      refine Or.inl (Oper.wp_mono ?_ hs)
      rintro a' w' ⟨v, rfl, hb, hbs, hv⟩
      exact ih _ _ _ hcount (hg.next ho (Array.mem_of_getElem? ho) hdst hsz hb hbs hv)
    · rw [if_neg (by rw [hw]; simp)]
      exact ih _ _ _ hcount (hg.next ho (Array.mem_of_getElem? ho) hdst hsz (Stp.refl _ _) (fun _ => Below.refl _ _) hs)

/-- THE LAW: the region, by its table -/
theorem region_tab {id : Nat} (hm : P.follows .mixedOrders = true) (hdst : ∀ (i j : Nat) (o o' : Oper) (d : Tmp), ops[i]? = some o → ops[j]? = some o' → o.dst = some d → o'.dst = some d → i = j) (hsz : ∀ (i : Nat) (o : Oper) (d : Tmp), ops[i]? = some o → o.dst = some d → d < a0.tmps.size)
    (hstep : ∀ (i : Nat) (o : Oper), ops[i]? = some o → StepOk P T ops ops Q a0 w0 i o)
    (hdone : ∀ listed a w, Good T ops ops a0 w0 listed a w → Region.ready .any ops listed = [] → Q .normal a w) : (Code.region id ops true).wp P Q a0 w0 := by
  refine wp_region_any hm ?_
  have hb : Below w0.heap.size w0 { w0 with drawn := w0.drawn + 1 } := ⟨rfl, rfl, rfl, Nat.le_refl _, fun _ _ => rfl⟩
  refine any_of_good (a0 := a0) (w0 := w0) hdst hsz hstep hdone _ _ _ _ ?_ ⟨rfl, rfl, by simp, hb, fun _ _ => rfl, fun i hi => ?_⟩
  · simp
  · rw [Array.getD_eq_getD_getElem?, Array.getElem?_replicate] at hi
    split at hi <;> simp at hi

/-- all operations from number k on -/
def AllOk (P : Program) (T : Tab) (ops us : Array Oper) (Q : Exit → Act → World → Prop) (a0 : Act) (w0 : World) : Nat → List Oper → Prop
  | _, [] => True
  | k, o :: r => StepOk P T ops us Q a0 w0 k o ∧ AllOk P T ops us Q a0 w0 (k + 1) r
theorem AllOk.nil {k : Nat} : AllOk P T ops us Q a0 w0 k [] := trivial
theorem AllOk.cons {k : Nat} {o : Oper} {r : List Oper} (h : StepOk P T ops us Q a0 w0 k o) (t : AllOk P T ops us Q a0 w0 (k + 1) r) : AllOk P T ops us Q a0 w0 k (o :: r) := ⟨h, t⟩
theorem AllOk.at {l : List Oper} : ∀ {k : Nat}, AllOk P T ops us Q a0 w0 k l → ∀ i o, l[i]? = some o → StepOk P T ops us Q a0 w0 (k + i) o := by
  induction l with
  | nil => intro k _ i o h; simp at h
  | cons x r ih =>
    intro k h i o ho
    cases i with
    | zero => simp at ho; subst ho; exact h.1
    | succ i =>
      simp at ho
      have := ih h.2 i o ho
      rwa [show k + 1 + i = k + (i + 1) by omega] at this
/-- the slots that are written are different ones, and lie in the frame: by looking -/
def noDup : List Nat → Bool
  | [] => true
  | x :: r => !(r.any (Nat.beq x)) && noDup r
theorem nodup_of : ∀ {l : List Nat}, noDup l = true → l.Nodup := by
  intro l
  induction l with
  | nil => intro _; exact List.nodup_nil
  | cons x r ih =>
    intro h
    simp only [noDup, Bool.and_eq_true, Bool.not_eq_true'] at h
    refine List.nodup_cons.2 ⟨fun hm => ?_, ih h.2⟩
    have := List.any_eq_false.1 h.1 x hm
    simp at this
def slotsOk (ops : List Oper) (n : Nat) : Bool := ((ops.filterMap (·.dst)).all fun d => Nat.blt d n) && noDup (ops.filterMap (·.dst))
theorem slots_lt {l : List Oper} {n : Nat} (h : slotsOk l n = true) : ∀ (i : Nat) (o : Oper) (d : Tmp), l[i]? = some o → o.dst = some d → d < n := by
  intro i o d hi hd
  simp only [slotsOk, Bool.and_eq_true] at h
  have := List.all_eq_true.1 h.1 d (List.mem_filterMap.2 ⟨o, List.mem_of_getElem? hi, hd⟩)
  simpa [Nat.blt_eq] using this
theorem slots_ne {l : List Oper} {n : Nat} (h : slotsOk l n = true) : ∀ (i j : Nat) (o o' : Oper) (d : Tmp), l[i]? = some o → l[j]? = some o' → o.dst = some d → o'.dst = some d → i = j := by
  simp only [slotsOk, Bool.and_eq_true] at h
  have hn := nodup_of h.2
  clear h
  induction l with
  | nil => intro i j o o' d hi; simp at hi
  | cons x r ih =>
    intro i j o o' d hi hj hd hd'
    have hr : (r.filterMap (·.dst)).Nodup := by
      cases hx : x.dst with
      | none => simpa [List.filterMap_cons, hx] using hn
      | some y => rw [List.filterMap_cons, hx] at hn; exact (List.nodup_cons.1 hn).2
    cases i with
    | zero =>
      cases j with
      | zero => rfl
      | succ j =>
        simp at hi hj
        subst hi
        rw [List.filterMap_cons, hd] at hn
        exact absurd (List.mem_filterMap.2 ⟨o', List.mem_of_getElem? hj, hd'⟩) (List.nodup_cons.1 hn).1
    | succ i =>
      cases j with
      | zero =>
        simp at hi hj
        subst hj
        rw [List.filterMap_cons, hd'] at hn
        exact absurd (List.mem_filterMap.2 ⟨o, List.mem_of_getElem? hi, hd⟩) (List.nodup_cons.1 hn).1
      | succ j =>
        simp at hi hj
        rw [ih hr i j o o' d hi hj hd hd']
/-- what an operation waits for stands ahead of it: by looking -/
def edgesOk : Nat → List Oper → Bool
  | _, [] => true
  | k, o :: r => (o.after.toList.all fun e => !Region.binds .any e || decide (e.on < k)) && edgesOk (k + 1) r
theorem edges_lt {l : List Oper} : ∀ {k : Nat}, edgesOk k l = true → ∀ (i : Nat) (o : Oper), l[i]? = some o → ∀ e ∈ o.after.toList, Region.binds .any e = true → e.on < k + i := by
  induction l with
  | nil => intro k _ i o h; simp at h
  | cons x r ih =>
    intro k h i o ho e he hb
    simp only [edgesOk, Bool.and_eq_true] at h
    cases i with
    | zero =>
      simp at ho; subst ho
      have := List.all_eq_true.1 h.1 e he
      rw [hb] at this
      simpa using this
    | succ i =>
      simp at ho
      have := ih h.2 i o ho e he hb
      omega
theorem all_listed {l : List Oper} (h : edgesOk 0 l = true) {listed : Array Bool} (hsz : listed.size = l.toArray.size) (hr : Region.ready .any l.toArray listed = []) : ∀ i, i < l.toArray.size → listed.getD i false = true := by
  intro i
  induction i using Nat.strongRecOn with
  | ind i ih =>
    intro hi
    cases hl : listed.getD i false with
    | true => rfl
    | false =>
      exfalso
      have hlt : i < listed.size := by omega
      have hl' : listed.getD i true = false := by
        rw [Array.getD_eq_getD_getElem?, Array.getElem?_eq_getElem hlt] at hl ⊢
        simpa using hl
      have hi' : i < l.length := by simpa using hi
      have : i ∈ Region.ready .any l.toArray listed := by
        simp only [Region.ready, List.mem_filter, List.mem_range, Bool.and_eq_true, Bool.not_eq_true']
        refine ⟨hi, hl', ?_⟩
        have ho : l.toArray[i]? = some l[i] := by simp [hi']
        rw [ho]
        simp only [Option.map_some, Option.getD_some]
        rw [← Array.all_toList, List.all_eq_true]
        intro e he
        cases hb : Region.binds .any e with
        | false => rfl
        | true =>
          have := edges_lt h i l[i] (by simp [hi']) e he hb
          rw [ih e.on (by omega) (by omega)]
          rfl
      rw [hr] at this
      cases this
/-- THE LAW AS IT IS USED -/
theorem region_by {id : Nat} (l : List Oper) (hm : P.follows .mixedOrders = true) (hs : slotsOk l a0.tmps.size = true) (hes : edgesOk 0 l = true) (hops : ops = l.toArray) (h : AllOk P T ops ops Q a0 w0 0 l)
    (hdone : ∀ a w, Good T ops ops a0 w0 (Array.replicate ops.size true) a w → Q .normal a w) : (Code.region id ops true).wp P Q a0 w0 := by
  subst hops
  refine region_tab (T := T) hm (fun i j o o' d hi hj => slots_ne hs i j o o' d (by simpa using hi) (by simpa using hj)) (fun i o d hi => slots_lt hs i o d (by simpa using hi))
    (fun i o hi => by have := h.at i o (by simpa using hi); rwa [Nat.zero_add] at this) (fun listed a w hg hr => hdone a w ?_)
  exact ⟨hg.defs, hg.size, by simp, hg.below, hg.old, fun i hi => by
    by_cases hlt : i < l.toArray.size
    · exact hg.got i (all_listed hes hg.len hr i hlt)
    · intro o d ho
      rw [Array.getElem?_eq_none (by omega)] at ho; cases ho⟩

/-! THE KINDS OF OPERATIONS -/
/-- what a slot holds: this value -/
def Is (v : Value) : Value → World → Prop := fun u _ => u = v

/-- a slot that operation j writes, j waited for -/
theorem got_of {T : Tab} {ops : Array Oper} {a : Act} {w : World} {o : Oper} {j : Nat} {oj : Oper} {d : Tmp}
    (hgot : ∀ e ∈ o.after.toList, Region.binds .any e = true → Got T ops e.on a w) (hj : ops[j]? = some oj) (hd : oj.dst = some d) (he : (o.after.toList.any fun e => e.on == j && Region.binds .any e) = true) : T.S j (a.tmps.getD d undef) w := by
  obtain ⟨e, hm, hh⟩ := List.any_eq_true.1 he
  simp only [Bool.and_eq_true, beq_iff_eq] at hh
  have := hgot e hm hh.2
  rw [hh.1] at this
  exact this oj d hj hd
theorem wanted_none {o : Oper} {f : Nat → Option Bool} (h : o.guard = none) : Region.wanted o f = true := by simp [Region.wanted, h]
theorem yielded_of {ops : Array Oper} {a : Act} {j : Nat} {oj : Oper} {d : Tmp} {b : Bool} (hj : ops[j]? = some oj) (hd : oj.dst = some d) (hv : a.tmps.getD d undef = .bool b) : yielded ops a.tmps j = some b := by
  have : a.tmps[d]? = some (.bool b) := by
    rw [Array.getD_eq_getD_getElem?] at hv
    cases h : a.tmps[d]? with
    | none => rw [h] at hv; cases hv
    | some x => rw [h] at hv; simp at hv; rw [hv]
  simp [yielded, hj, hd, this]
theorem wanted_of {ops : Array Oper} {a : Act} {o : Oper} {j : Nat} {oj : Oper} {d : Tmp} {b c : Bool} (hg : o.guard = some (j, b)) (hj : ops[j]? = some oj) (hd : oj.dst = some d) (hv : a.tmps.getD d undef = .bool c) : Region.wanted o (yielded ops a.tmps) = (c == b) := by
  simp only [Region.wanted, hg, yielded_of hj hd hv]
  rfl
/-- an operation that yields a value and may make memory -/
theorem wp_value {P : Program} {T : Tab} {Q : Exit → Act → World → Prop} {n i : Nat} {o : Oper} {a : Act} {w w' : World} {v : Value} (hn : n ≤ w.heap.size) (hr : (execOp a.eval o).run P w = .ok (.value v) w') (hb : Below w.heap.size w w') (hv : T.S i v w') :
    o.wp P a w (fun a' w' => ∃ v, a' = a.put o.dst v ∧ Stp n w w' ∧ (T.strict = true → Below w.heap.size w w') ∧ T.S i v w') Q := by
  unfold Oper.wp
  rw [hr, Oper.upon_value]
  exact ⟨v, rfl, .of hn hb, fun _ => hb, hv⟩
theorem wp_step {P : Program} {T : Tab} {Q : Exit → Act → World → Prop} {n i : Nat} {o : Oper} {a : Act} {w : World} (h : ∃ v w', (execOp a.eval o).run P w = .ok (.value v) w' ∧ Stp n w w' ∧ T.S i v w') (hst : T.strict = false := by rfl) :
    o.wp P a w (fun a' w' => ∃ v, a' = a.put o.dst v ∧ Stp n w w' ∧ (T.strict = true → Below w.heap.size w w') ∧ T.S i v w') Q := by
  obtain ⟨v, w', hr, hb, hv⟩ := h
  unfold Oper.wp
  rw [hr, Oper.upon_value]
  exact ⟨v, rfl, hb, (fun e => by rw [hst] at e; cases e), hv⟩
/-- a call by its contract -/
theorem wp_calls {P : Program} {T : Tab} {Q : Exit → Act → World → Prop} {n i : Nat} {o : Oper} {a : Act} {w : World} {f : Nat} {args : Array Value} (hn : n ≤ w.heap.size) (hr : (execOp a.eval o).run P w = .ok (.enter f args) w)
    (hc : Calls P f args w fun e w' => ∃ v, e = .returned v ∧ Below w.heap.size w w' ∧ T.S i v w') :
    o.wp P a w (fun a' w' => ∃ v, a' = a.put o.dst v ∧ Stp n w w' ∧ (T.strict = true → Below w.heap.size w w') ∧ T.S i v w') Q := by
  unfold Oper.wp
  rw [hr, Oper.upon_enter]
  refine hc.mono ?_
  rintro e w' ⟨v, rfl, hb, hv⟩
  exact ⟨v, rfl, .of hn hb, fun _ => hb, hv⟩
end
end Go.Proofs.YteljhjljigbcjaaGreatDoor.Rg
