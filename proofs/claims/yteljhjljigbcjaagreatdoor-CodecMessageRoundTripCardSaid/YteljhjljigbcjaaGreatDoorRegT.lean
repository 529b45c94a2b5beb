/- A region that draws its order and ends in one operation that waits, in the end, for all the others (a store, say): the others by a table, the last one from the table. -/
import Derived.Test.YteljhjljigbcjaaGreatDoorReg
set_option linter.unusedVariables false
namespace Go.Proofs.YteljhjljigbcjaaGreatDoor.Rg
open Go.RowKit

/-- what is listed has what it waits for listed -/
def Closed (ops : Array Oper) (listed : Array Bool) : Prop := ∀ j o, ops[j]? = some o → listed.getD j false = true → ∀ e ∈ o.after.toList, Region.binds .any e = true → listed.getD e.on false = true
/-- each operation but the last one is waited for by a later one: by looking -/
def succOk (l : List Oper) : Bool := (List.range (l.length - 1)).all fun i => (List.range l.length).any fun j => decide (i < j) && ((l[j]?).map fun o => o.after.toList.any fun e => Region.binds .any e && e.on == i).getD false

section
variable {P : Program} {T : Tab} {Q : Exit → Act → World → Prop} {a0 : Act} {w0 : World}

theorem last_all {l : List Oper} (hs : succOk l = true) {listed : Array Bool} (hc : Closed l.toArray listed) {last : Oper} (hl : l[l.length - 1]? = some last)
    (hd : ∀ e ∈ last.after.toList, Region.binds .any e = true → listed.getD e.on false = true) : ∀ d i, l.length - i ≤ d → i < l.length - 1 → listed.getD i false = true := by
  intro d
  induction d with
  | zero => intro i h1 h2; omega
  | succ d ih =>
    intro i h1 h2
    have h := List.all_eq_true.1 hs i (List.mem_range.2 h2)
    obtain ⟨j, hj, hh⟩ := List.any_eq_true.1 h
    have hj' := List.mem_range.1 hj
    simp only [Bool.and_eq_true, decide_eq_true_eq] at hh
    obtain ⟨hij, ho⟩ := hh
    cases hq : l[j]? with
    | none => rw [hq] at ho; simp at ho
    | some o =>
      rw [hq] at ho
      simp only [Option.map_some, Option.getD_some] at ho
      obtain ⟨e, he, hb⟩ := List.any_eq_true.1 ho
      simp only [Bool.and_eq_true, beq_iff_eq] at hb
      rw [← hb.2]
      by_cases hjl : j = l.length - 1
      · subst hjl
        rw [hl] at hq; cases hq
        exact hd e he hb.1
      · exact hc j o (by simpa using hq) (ih j (by omega) (by omega)) e he hb.1

theorem count_next {listed : Array Bool} {i : Nat} {fuel : Nat} (hc : listed.toList.count false ≤ fuel + 1) (hl : listed.getD i true = false) : ((listed.setIfInBounds i true).toList.count false) ≤ fuel := by
  rw [Array.getD_eq_getD_getElem?] at hl
  cases hq : listed[i]? with
  | none => rw [hq] at hl; simp at hl
  | some b =>
    rw [hq] at hl; simp at hl; subst hl
    obtain ⟨hlt, hget⟩ := Array.getElem?_eq_some_iff.1 hq
    rw [Array.toList_setIfInBounds, List.count_set (by simpa using hlt)]
    have hgl : listed.toList[i] = false := by simpa using hget
    rw [hgl, if_pos (by rfl), if_neg (by decide)]
    have hpos : 0 < listed.toList.count false := List.count_pos_iff.2 (by rw [← hgl]; exact List.getElem_mem _)
    omega
theorem listed_next {listed : Array Bool} {i j : Nat} (h : (listed.setIfInBounds i true).getD j false = true) : j = i ∨ listed.getD j false = true := by
  by_cases hij : j = i
  · exact Or.inl hij
  · right
    rw [Array.getD_eq_getD_getElem?, Array.getElem?_setIfInBounds, if_neg (fun e => hij e.symm)] at h
    rw [Array.getD_eq_getD_getElem?]; exact h
theorem listed_keep {listed : Array Bool} {i j : Nat} (h : listed.getD j false = true) : (listed.setIfInBounds i true).getD j false = true := by
  rw [Array.getD_eq_getD_getElem?] at h ⊢
  rw [Array.getElem?_setIfInBounds]
  split
  · split
    · rfl
    · rename_i h1 h2
      subst h1
      rw [Array.getElem?_eq_none (by omega)] at h; simp at h
  · exact h

theorem any_of_tail {l : List Oper} (hs : succOk l = true) (hes : edgesOk 0 l = true) {last : Oper} (hlast : l[l.length - 1]? = some last)
    (hdst : ∀ (i j : Nat) (o o' : Oper) (d : Tmp), l.toArray[i]? = some o → l.toArray[j]? = some o' → o.dst = some d → o'.dst = some d → i = j) (hsz : ∀ (i : Nat) (o : Oper) (d : Tmp), l.toArray[i]? = some o → o.dst = some d → d < a0.tmps.size)
    (hstep : ∀ (i : Nat) (o : Oper), i < l.length - 1 → l[i]? = some o → StepOk P T l.toArray Q a0 w0 i o)
    (hend : ∀ listed a w, Good T l.toArray a0 w0 listed a w → (∀ i, i < l.length - 1 → listed.getD i false = true) → Region.wanted last (yielded l.toArray a.tmps) = true ∧ last.wp P a w (fun a' w' => Q .normal a' w') Q) :
    ∀ (fuel : Nat) (listed : Array Bool) (a : Act) (w : World), (listed.toList.count false) ≤ fuel → Good T l.toArray a0 w0 listed a w → Closed l.toArray listed → listed.getD (l.length - 1) true = false → wpAny P .any l.toArray Q fuel listed a w := by
  have hlen : 0 < l.length := by
    rcases Nat.eq_zero_or_pos l.length with h | h
    · have : l = [] := List.length_eq_zero_iff.1 h
      subst this; simp at hlast
    · exact h
  have hNoReady : ∀ listed : Array Bool, listed.size = l.toArray.size → listed.getD (l.length - 1) true = false → Region.ready .any l.toArray listed ≠ [] := by
    intro listed hz hl hr
    have := all_listed hes hz hr (l.length - 1) (by simp; omega)
    have hlt : l.length - 1 < listed.size := by rw [hz]; simp; omega
    rw [Array.getD_eq_getD_getElem?, Array.getElem?_eq_getElem hlt] at this hl
    simp at this hl
    rw [this] at hl; cases hl
  intro fuel
  induction fuel with
  | zero =>
    intro listed a w hc hg hcl hl
    exfalso
    have hlt : l.length - 1 < listed.size := by rw [hg.len]; simp; omega
    rw [Array.getD_eq_getD_getElem?, Array.getElem?_eq_getElem hlt] at hl
    simp at hl
    have h0 : listed.toList.count false = 0 := by omega
    rw [List.count_eq_zero] at h0
    exact h0 (by rw [← hl]; exact Array.mem_toList_iff.2 (Array.getElem_mem hlt))
  | succ fuel ih =>
    intro listed a w hc hg hcl hl
    refine ⟨fun hr => absurd hr (hNoReady listed hg.len hl), fun i hi => ?_⟩
    obtain ⟨o, ho, hli, he⟩ := mem_ready hi
    have ho' : l[i]? = some o := by simpa using ho
    have hil : i < l.length := (List.getElem?_eq_some_iff.1 ho').1
    have hcount := count_next hc hli
    unfold wpOp
    simp only [ho]
    by_cases hq : i = l.length - 1
    · subst hq
      rw [hlast] at ho'; cases ho'
      have hall : ∀ i, i < l.length - 1 → listed.getD i false = true := fun i hi => last_all hs hcl hlast he _ i (Nat.le_refl _) hi
      obtain ⟨hw, hs'⟩ := hend listed a w hg hall
      rw [if_pos hw]
      refine Or.inl (Oper.wp_mono ?_ hs')
      intro a' w' hQ
      have hdone : Region.ready .any l.toArray (listed.setIfInBounds (l.length - 1) true) = [] := by
        rw [List.eq_nil_iff_forall_not_mem]
        intro j hj
        obtain ⟨o', ho', hlj, _⟩ := mem_ready hj
        have hjl : j < l.length := by
          have : l[j]? = some o' := by simpa using ho'
          exact (List.getElem?_eq_some_iff.1 this).1
        have hsz' : j < (listed.setIfInBounds (l.length - 1) true).size := by simp; rw [hg.len]; simpa using hjl
        have h1 : (listed.setIfInBounds (l.length - 1) true).getD j false = true := by
          by_cases hj1 : j = l.length - 1
          · subst hj1
            rw [Array.getD_eq_getD_getElem?, Array.getElem?_setIfInBounds, if_pos rfl, if_pos (by simpa using hsz')]
            rfl
          · exact listed_keep (hall j (by omega))
        rw [Array.getD_eq_getD_getElem?, Array.getElem?_eq_getElem hsz'] at h1 hlj
        simp only [Option.getD_some] at h1 hlj
        rw [h1] at hlj; cases hlj
      cases fuel with
      | zero => exact ⟨hdone, hQ⟩
      | succ f => exact ⟨fun _ => hQ, fun j hj => by rw [hdone] at hj; cases hj⟩
    · have hst := hstep i o (by omega) ho' a w hg.size hg.below hg.old (fun e hem hb => hg.got e.on (he e hem hb))
      have hcl' : Closed l.toArray (listed.setIfInBounds i true) := by
        intro j oj hoj hj e hem hb
        rcases listed_next hj with rfl | hj
        · rw [ho] at hoj; cases hoj
          exact listed_keep (he e hem hb)
        · exact listed_keep (hcl j oj hoj hj e hem hb)
      have hl' : (listed.setIfInBounds i true).getD (l.length - 1) true = false := by
        rw [Array.getD_eq_getD_getElem?, Array.getElem?_setIfInBounds, if_neg hq, ← Array.getD_eq_getD_getElem?]; exact hl
      rcases hst with ⟨hw, hst⟩ | ⟨hw, hst⟩
      · rw [if_pos hw]
        refine Or.inl (Oper.wp_mono ?_ hst)
        rintro a' w' ⟨v, rfl, hb, hbs, hv⟩
        exact ih _ _ _ hcount (hg.next ho hdst hsz hb hbs hv) hcl' hl'
      · rw [if_neg (by rw [hw]; simp)]
        exact ih _ _ _ hcount (hg.next ho hdst hsz (Stp.refl _ _) (fun _ => Below.refl _ _) hst) hcl' hl'

/-- all operations but the last one, from number k on -/
def AllBut (P : Program) (T : Tab) (ops : Array Oper) (Q : Exit → Act → World → Prop) (a0 : Act) (w0 : World) : Nat → List Oper → Prop
  | _, [] => True
  | _, [_] => True
  | k, o :: r => StepOk P T ops Q a0 w0 k o ∧ AllBut P T ops Q a0 w0 (k + 1) r
theorem AllBut.last {ops : Array Oper} {k : Nat} {o : Oper} : AllBut P T ops Q a0 w0 k [o] := trivial
theorem AllBut.cons {ops : Array Oper} {k : Nat} {o o' : Oper} {r : List Oper} (h : StepOk P T ops Q a0 w0 k o) (t : AllBut P T ops Q a0 w0 (k + 1) (o' :: r)) : AllBut P T ops Q a0 w0 k (o :: o' :: r) := ⟨h, t⟩
theorem AllBut.at {ops : Array Oper} {l : List Oper} : ∀ {k : Nat}, AllBut P T ops Q a0 w0 k l → ∀ i o, i < l.length - 1 → l[i]? = some o → StepOk P T ops Q a0 w0 (k + i) o := by
  induction l with
  | nil => intro k _ i o h; simp at h
  | cons x r ih =>
    intro k h i o hi ho
    cases r with
    | nil => simp at hi
    | cons y r =>
      cases i with
      | zero => simp at ho; subst ho; exact h.1
      | succ i =>
        simp only [List.getElem?_cons_succ] at ho
        have := ih h.2 i o (by simp at hi ⊢; omega) ho
        rwa [show k + 1 + i = k + (i + 1) by omega] at this
/-- THE LAW AS IT IS USED -/
theorem region_tail {id : Nat} {ops : Array Oper} (l : List Oper) (last : Oper) (hm : P.follows .mixedOrders = true) (hs : slotsOk l a0.tmps.size = true) (hes : edgesOk 0 l = true) (hsu : succOk l = true) (hlast : l[l.length - 1]? = some last) (hops : ops = l.toArray) (h : AllBut P T ops Q a0 w0 0 l)
    (hend : ∀ a w, a.defers = a0.defers → a.tmps.size = a0.tmps.size → Below w0.heap.size w0 w → Old ops a0 a → (∀ i, i < l.length - 1 → Got T ops i a w) → Region.wanted last (yielded ops a.tmps) = true ∧ last.wp P a w (fun a' w' => Q .normal a' w') Q) : (Code.region id ops true).wp P Q a0 w0 := by
  subst hops
  refine wp_region_any hm ?_
  have hb : Below w0.heap.size w0 { w0 with drawn := w0.drawn + 1 } := ⟨rfl, rfl, rfl, Nat.le_refl _, fun _ _ => rfl⟩
  have hlen : l.length - 1 < l.length := (List.getElem?_eq_some_iff.1 hlast).1
  refine any_of_tail (a0 := a0) (w0 := w0) hsu hes hlast (fun i j o o' d hi hj => slots_ne hs i j o o' d (by simpa using hi) (by simpa using hj)) (fun i o d hi => slots_lt hs i o d (by simpa using hi))
    (fun i o hi ho => by have := h.at i o hi ho; rwa [Nat.zero_add] at this) (fun listed a w hg hall => hend a w hg.defs hg.size hg.below hg.old (fun i hi => hg.got i (hall i hi))) _ _ _ _ ?_ ⟨rfl, rfl, by simp, hb, fun _ _ => rfl, fun i hi => ?_⟩ (fun j o _ hj => ?_) ?_
  · simp
  · rw [Array.getD_eq_getD_getElem?, Array.getElem?_replicate] at hi
    split at hi <;> simp at hi
  · rw [Array.getD_eq_getD_getElem?, Array.getElem?_replicate] at hj
    split at hj <;> simp at hj
  · rw [Array.getD_eq_getD_getElem?, Array.getElem?_replicate, if_pos (by simpa using hlen)]; rfl
end
end Go.Proofs.YteljhjljigbcjaaGreatDoor.Rg
