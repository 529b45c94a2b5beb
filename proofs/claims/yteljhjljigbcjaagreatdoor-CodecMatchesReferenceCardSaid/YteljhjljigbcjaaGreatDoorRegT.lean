/- A region that draws its order and ends in one operation that waits, in the end, for all the others (a store, say): the others by a table, the last one from the table. -/
import Derived.Test.YteljhjljigbcjaaGreatDoorReg
set_option linter.unusedVariables false
namespace Go.Proofs.YteljhjljigbcjaaGreatDoor.Rg
open Go.RowKit

/-- what is listed has what it waits for listed -/
def Closed (ops : Array Oper) (listed : Array Bool) : Prop := ∀ j o, ops[j]? = some o → listed.getD j false = true → ∀ e ∈ o.after.toList, Region.binds .any e = true → listed.getD e.on false = true
/-- each operation but the last one is waited for by a later one: by looking -/
def succOk (l : List Oper) : Bool := (List.range (l.length - 1)).all fun i => (List.range l.length).any fun j => decide (i < j) && ((l[j]?).map fun o => o.after.toList.any fun e => Region.binds .any e && e.on == i).getD false

section
variable {P : Program} {T : Tab} {Q : Exit → Act → World → Prop} {a0 : Act} {w0 : World}

theorem last_all {l : List Oper} (hs : succOk l = true) {listed : Array Bool} (hc : Closed l.toArray listed) {last : Oper} (hl : l[l.length - 1]? = some last)
    (hd : ∀ e ∈ last.after.toList, Region.binds .any e = true → listed.getD e.on false = true) : ∀ d i, l.length - i ≤ d → i < l.length - 1 → listed.getD i false = true := by
  intro d
  induction d with
  | zero => intro i h1 h2; omega
  | succ d ih =>
    intro i h1 h2
    have h := List.all_eq_true.1 hs i (List.mem_range.2 h2)
    obtain ⟨j, hj, hh⟩ := List.any_eq_true.1 h
    have hj' := List.mem_range.1 hj
    simp only [Bool.and_eq_true, decide_eq_true_eq] at hh
    obtain ⟨hij, ho⟩ := hh
    cases hq : l[j]? with
    | none => rw [hq] at ho; simp at ho
    | some o =>
      rw [hq] at ho
      simp only [Option.map_some, Option.getD_some] at ho
      obtain ⟨e, he, hb⟩ := List.any_eq_true.1 ho
      simp only [Bool.and_eq_true, beq_iff_eq] at hb
      rw [← hb.2]
      by_cases hjl : j = l.length - 1
      · subst hjl
        rw [hl] at hq; cases hq
        exact hd e he hb.1
      · exact hc j o (by simpa using hq) (ih j (by omega) (by omega)) e he hb.1

theorem count_next {listed : Array Bool} {i : Nat} {fuel : Nat} (hc : listed.toList.count false ≤ fuel + 1) (hl : listed.getD i true = false) : ((listed.setIfInBounds i true).toList.count false) ≤ fuel := by
  rw [Array.getD_eq_getD_getElem?] at hl
  cases hq : listed[i]? with
  | none => rw [hq] at hl; simp at hl
  | some b =>
    rw [hq] at hl; simp at hl; subst hl
    obtain ⟨hlt, hget⟩ := Array.getElem?_eq_some_iff.1 hq
    rw [Array.toList_setIfInBounds, List.count_set (by simpa using hlt)]
    have hgl : listed.toList[i] = false := by simpa using hget
    rw [hgl, if_pos (by rfl), if_neg (by decide)]
    have hpos : 0 < listed.toList.count false := List.count_pos_iff.2 (by rw [← hgl]; exact List.getElem_mem _)
    omega
theorem listed_next {listed : Array Bool} {i j : Nat} (h : (listed.setIfInBounds i true).getD j false = true) : j = i ∨ listed.getD j false = true := by
  by_cases hij : j = i
  · exact Or.inl hij
  · right
    rw [Array.getD_eq_getD_getElem?, Array.getElem?_setIfInBounds, if_neg (fun e => hij e.symm)] at h
    rw [Array.getD_eq_getD_getElem?]; exact h
theorem listed_keep {listed : Array Bool} {i j : Nat} (h : listed.getD j false = true) : (listed.setIfInBounds i true).getD j false = true := by
  rw [Array.getD_eq_getD_getElem?] at h ⊢
  rw [Array.getElem?_setIfInBounds]
  split
  · split
    · rfl
    · rename_i h1 h2
      subst h1
      rw [Array.getElem?_eq_none (by omega)] at h; simp at h
  · exact h

theorem any_of_tail {l : List Oper} (hs : succOk l = true) (hes : edgesOk 0 l = true) {last : Oper} (hlast : l[l.length - 1]? = some last)
    (hdst : ∀ (i j : Nat) (o o' : Oper) (d : Tmp), l.toArray[i]? = some o → l.toArray[j]? = some o' → o.dst = some d → o'.dst = some d → i = j) (hsz : ∀ (i : Nat) (o : Oper) (d : Tmp), l.toArray[i]? = some o → o.dst = some d → d < a0.tmps.size)
    (hstep : ∀ (i : Nat) (o : Oper), i < l.length - 1 → l[i]? = some o → StepOk P T l.toArray l.toArray Q a0 w0 i o)
    (hend : ∀ listed a w, Good T l.toArray l.toArray a0 w0 listed a w → (∀ i, i < l.length - 1 → listed.getD i false = true) → Region.wanted last (yielded l.toArray a.tmps) = true ∧ last.wp P a w (fun a' w' => Q .normal a' w') Q) :
    ∀ (fuel : Nat) (listed : Array Bool) (a : Act) (w : World), (listed.toList.count false) ≤ fuel → Good T l.toArray l.toArray a0 w0 listed a w → Closed l.toArray listed → listed.getD (l.length - 1) true = false → wpAny P .any l.toArray Q fuel listed a w := by
  have hlen : 0 < l.length := by
    rcases Nat.eq_zero_or_pos l.length with h | h
    · have : l = [] := List.length_eq_zero_iff.1 h
      subst this; simp at hlast
    · exact h
  have hNoReady : ∀ listed : Array Bool, listed.size = l.toArray.size → listed.getD (l.length - 1) true = false → Region.ready .any l.toArray listed ≠ [] := by
    intro listed hz hl hr
    have := all_listed hes hz hr (l.length - 1) (by simp; omega)
    have hlt : l.length - 1 < listed.size := by rw [hz]; simp; omega
    rw [Array.getD_eq_getD_getElem?, Array.getElem?_eq_getElem hlt] at this hl
    simp at this hl
    rw [this] at hl; cases hl
  intro fuel
  induction fuel with
  | zero =>
    intro listed a w hc hg hcl hl
    exfalso
    have hlt : l.length - 1 < listed.size := by rw [hg.len]; simp; omega
    rw [Array.getD_eq_getD_getElem?, Array.getElem?_eq_getElem hlt] at hl
    simp at hl
    have h0 : listed.toList.count false = 0 := by omega
    rw [List.count_eq_zero] at h0
    exact h0 (by rw [← hl]; exact Array.mem_toList_iff.2 (Array.getElem_mem hlt))
  | succ fuel ih =>
    intro listed a w hc hg hcl hl
    refine ⟨fun hr => absurd hr (hNoReady listed hg.len hl), fun i hi => ?_⟩
    obtain ⟨o, ho, hli, he⟩ := mem_ready hi
    have ho' : l[i]? = some o := by simpa using ho
    have hil : i < l.length := (List.getElem?_eq_some_iff.1 ho').1
    have hcount := count_next hc hli
    unfold wpOp
    simp only [ho]
    by_cases hq : i = l.length - 1
    · subst hq
      rw [hlast] at ho'; cases ho'
      have hall : ∀ i, i < l.length - 1 → listed.getD i false = true := fun i hi => last_all hs hcl hlast he _ i (Nat.le_refl _) hi
      obtain ⟨hw, hs'⟩ := hend listed a w hg hall
      rw [if_pos hw]
      refine Or.inl (Oper.wp_mono ?_ hs')
      intro a' w' hQ
      have hdone : Region.ready .any l.toArray (listed.setIfInBounds (l.length - 1) true) = [] := by
        rw [List.eq_nil_iff_forall_not_mem]
        intro j hj
        obtain ⟨o', ho', hlj, _⟩ := mem_ready hj
        have hjl : j < l.length := by
          have : l[j]? = some o' := by simpa using ho'
          exact (List.getElem?_eq_some_iff.1 this).1
        have hsz' : j < (listed.setIfInBounds (l.length - 1) true).size := by simp; rw [hg.len]; simpa using hjl
        have h1 : (listed.setIfInBounds (l.length - 1) true).getD j false = true := by
          by_cases hj1 : j = l.length - 1
          · subst hj1
            rw [Array.getD_eq_getD_getElem?, Array.getElem?_setIfInBounds, if_pos rfl, if_pos (by simpa using hsz')]
            rfl
          · exact listed_keep (hall j (by omega))
        rw [Array.getD_eq_getD_getElem?, Array.getElem?_eq_getElem hsz'] at h1 hlj
        simp only [Option.getD_some] at h1 hlj
        rw [h1] at hlj; cases hlj
      cases fuel with
      | zero => exact ⟨hdone, hQ⟩
      | succ f => exact ⟨fun _ => hQ, fun j hj => by rw [hdone] at hj; cases hj⟩
    · have hst := hstep i o (by omega) ho' a w hg.size hg.below hg.old (fun e hem hb => hg.got e.on (he e hem hb))
      have hcl' : Closed l.toArray (listed.setIfInBounds i true) := by
        intro j oj hoj hj e hem hb
        rcases listed_next hj with rfl | hj
        · rw [ho] at hoj; cases hoj
          exact listed_keep (he e hem hb)
        · exact listed_keep (hcl j oj hoj hj e hem hb)
      have hl' : (listed.setIfInBounds i true).getD (l.length - 1) true = false := by
        rw [Array.getD_eq_getD_getElem?, Array.getElem?_setIfInBounds, if_neg hq, ← Array.getD_eq_getD_getElem?]; exact hl
      rcases hst with ⟨hw, hst⟩ | ⟨hw, hst⟩
      · rw [if_pos hw]
        refine Or.inl (Oper.wp_mono ?_ hst)
        rintro a' w' ⟨v, rfl, hb, hbs, hv⟩
        exact ih _ _ _ hcount (hg.next ho (Array.mem_of_getElem? ho) hdst hsz hb hbs hv) hcl' hl'
      · rw [if_neg (by rw [hw]; simp)]
        exact ih _ _ _ hcount (hg.next ho (Array.mem_of_getElem? ho) hdst hsz (Stp.refl _ _) (fun _ => Below.refl _ _) hst) hcl' hl'

/-- all operations but the last one, from number k on -/
def AllBut (P : Program) (T : Tab) (ops us : Array Oper) (Q : Exit → Act → World → Prop) (a0 : Act) (w0 : World) : Nat → List Oper → Prop
  | _, [] => True
  | _, [_] => True
  | k, o :: r => StepOk P T ops us Q a0 w0 k o ∧ AllBut P T ops us Q a0 w0 (k + 1) r
theorem AllBut.last {ops us : Array Oper} {k : Nat} {o : Oper} : AllBut P T ops us Q a0 w0 k [o] := trivial
theorem AllBut.cons {ops us : Array Oper} {k : Nat} {o o' : Oper} {r : List Oper} (h : StepOk P T ops us Q a0 w0 k o) (t : AllBut P T ops us Q a0 w0 (k + 1) (o' :: r)) : AllBut P T ops us Q a0 w0 k (o :: o' :: r) := ⟨h, t⟩
theorem AllBut.at {ops us : Array Oper} {l : List Oper} : ∀ {k : Nat}, AllBut P T ops us Q a0 w0 k l → ∀ i o, i < l.length - 1 → l[i]? = some o → StepOk P T ops us Q a0 w0 (k + i) o := by
  induction l with
  | nil => intro k _ i o h; simp at h
  | cons x r ih =>
    intro k h i o hi ho
    cases r with
    | nil => simp at hi
    | cons y r =>
      cases i with
      | zero => simp at ho; subst ho; exact h.1
      | succ i =>
        simp only [List.getElem?_cons_succ] at ho
        have := ih h.2 i o (by simp at hi ⊢; omega) ho
        rwa [show k + 1 + i = k + (i + 1) by omega] at this
/-- THE LAW AS IT IS USED -/
theorem region_tail {id : Nat} {ops : Array Oper} (l : List Oper) (last : Oper) (hm : P.follows .mixedOrders = true) (hs : slotsOk l a0.tmps.size = true) (hes : edgesOk 0 l = true) (hsu : succOk l = true) (hlast : l[l.length - 1]? = some last) (hops : ops = l.toArray) (h : AllBut P T ops ops Q a0 w0 0 l)
    (hend : ∀ a w, a.defers = a0.defers → a.tmps.size = a0.tmps.size → Below w0.heap.size w0 w → Old ops a0 a → (∀ i, i < l.length - 1 → Got T ops i a w) → Region.wanted last (yielded ops a.tmps) = true ∧ last.wp P a w (fun a' w' => Q .normal a' w') Q) : (Code.region id ops true).wp P Q a0 w0 := by
  subst hops
  refine wp_region_any hm ?_
  have hb : Below w0.heap.size w0 { w0 with drawn := w0.drawn + 1 } := ⟨rfl, rfl, rfl, Nat.le_refl _, fun _ _ => rfl⟩
  have hlen : l.length - 1 < l.length := (List.getElem?_eq_some_iff.1 hlast).1
  refine any_of_tail (a0 := a0) (w0 := w0) hsu hes hlast (fun i j o o' d hi hj => slots_ne hs i j o o' d (by simpa using hi) (by simpa using hj)) (fun i o d hi => slots_lt hs i o d (by simpa using hi))
    (fun i o hi ho => by have := h.at i o hi ho; rwa [Nat.zero_add] at this) (fun listed a w hg hall => hend a w hg.defs hg.size hg.below hg.old (fun i hi => hg.got i (hall i hi))) _ _ _ _ ?_ ⟨rfl, rfl, by simp, hb, fun _ _ => rfl, fun i hi => ?_⟩ (fun j o _ hj => ?_) ?_
  · simp
  · rw [Array.getD_eq_getD_getElem?, Array.getElem?_replicate] at hi
    split at hi <;> simp at hi
  · rw [Array.getD_eq_getD_getElem?, Array.getElem?_replicate] at hj
    split at hj <;> simp at hj
  · rw [Array.getD_eq_getD_getElem?, Array.getElem?_replicate, if_pos (by simpa using hlen)]; rfl

/-! A TAIL OF SEVERAL OPERATIONS, one behind the other -/
/-- each of the first m operations is waited for by a later one, number m at the most: by looking -/
def succUpTo (l : List Oper) (m : Nat) : Bool := (List.range m).all fun i => (List.range (m + 1)).any fun j => decide (i < j) && ((l[j]?).map fun o => o.after.toList.any fun e => Region.binds .any e && e.on == i).getD false
/-- each operation behind number m waits for the one ahead of it: by looking -/
def chainOk (l : List Oper) (m : Nat) : Bool := (List.range l.length).all fun j => !decide (m < j) || ((l[j]?).map fun o => o.after.toList.any fun e => Region.binds .any e && e.on + 1 == j).getD false

theorem upto_all {l : List Oper} {m : Nat} (hs : succUpTo l m = true) {listed : Array Bool} (hc : Closed l.toArray listed) {o : Oper} (hl : l[m]? = some o)
    (hd : ∀ e ∈ o.after.toList, Region.binds .any e = true → listed.getD e.on false = true) : ∀ d i, m - i ≤ d → i < m → listed.getD i false = true := by
  intro d
  induction d with
  | zero => intro i h1 h2; omega
  | succ d ih =>
    intro i h1 h2
    have h := List.all_eq_true.1 hs i (List.mem_range.2 h2)
    obtain ⟨j, hj, hh⟩ := List.any_eq_true.1 h
    have hj' := List.mem_range.1 hj
    simp only [Bool.and_eq_true, decide_eq_true_eq] at hh
    obtain ⟨hij, ho⟩ := hh
    cases hq : l[j]? with
    | none => rw [hq] at ho; simp at ho
    | some oj =>
      rw [hq] at ho
      simp only [Option.map_some, Option.getD_some] at ho
      obtain ⟨e, he, hb⟩ := List.any_eq_true.1 ho
      simp only [Bool.and_eq_true, beq_iff_eq] at hb
      rw [← hb.2]
      by_cases hjl : j = m
      · subst hjl
        rw [hl] at hq; cases hq
        exact hd e he hb.1
      · exact hc j oj (by simpa using hq) (ih j (by omega) (by omega)) e he hb.1
theorem chain_prev {l : List Oper} {m j : Nat} (hc : chainOk l m = true) (hj : m < j) {o : Oper} (ho : l[j]? = some o) {listed : Array Bool}
    (hd : ∀ e ∈ o.after.toList, Region.binds .any e = true → listed.getD e.on false = true) : listed.getD (j - 1) false = true := by
  have hl := (List.getElem?_eq_some_iff.1 ho).1
  have h := List.all_eq_true.1 hc j (List.mem_range.2 hl)
  rw [ho] at h
  simp only [hj, decide_true, Bool.not_true, Bool.false_or, Option.map_some, Option.getD_some] at h
  obtain ⟨e, he, hb⟩ := List.any_eq_true.1 h
  simp only [Bool.and_eq_true, beq_iff_eq] at hb
  have := hd e he hb.1
  rwa [show e.on = j - 1 by omega] at this
theorem getD_flip {listed : Array Bool} {i : Nat} (h : i < listed.size) : listed.getD i true = listed.getD i false := by
  rw [Array.getD_eq_getD_getElem?, Array.getD_eq_getD_getElem?, Array.getElem?_eq_getElem h]; rfl
theorem listed_at {listed : Array Bool} {i : Nat} (h : i < listed.size) : (listed.setIfInBounds i true).getD i false = true := by
  rw [Array.getD_eq_getD_getElem?, Array.getElem?_setIfInBounds, if_pos rfl, if_pos h]; rfl
theorem listed_off {listed : Array Bool} {i j : Nat} (h : j ≠ i) : (listed.setIfInBounds i true).getD j false = listed.getD j false := by
  rw [Array.getD_eq_getD_getElem?, Array.getElem?_setIfInBounds, if_neg (fun e => h e.symm), ← Array.getD_eq_getD_getElem?]

theorem any_of_chain {l : List Oper} {m : Nat} (hes : edgesOk 0 l = true) (hch : chainOk l m = true) :
    ∀ (tl : List Oper) (n : Nat) (fuel : Nat) (listed : Array Bool) (a : Act) (w : World), m < n → l.drop n = tl → listed.size = l.length → (listed.toList.count false) ≤ fuel → (∀ i, i < n → listed.getD i false = true) → (∀ i, n ≤ i → listed.getD i false = false) →
      wpList P l.toArray Q tl a w → wpAny P .any l.toArray Q fuel listed a w := by
  intro tl
  induction tl with
  | nil =>
    intro n fuel listed a w hmn hdr hsz hc h1 h2 hw
    have hn : l.length ≤ n := List.drop_eq_nil_iff.1 hdr
    have hr : Region.ready .any l.toArray listed = [] := by
      rw [List.eq_nil_iff_forall_not_mem]
      intro j hj
      obtain ⟨o', ho', hlj, _⟩ := mem_ready hj
      have hjl : j < l.length := by
        have : l[j]? = some o' := by simpa using ho'
        exact (List.getElem?_eq_some_iff.1 this).1
      rw [getD_flip (by omega), h1 j (by omega)] at hlj; cases hlj
    cases fuel with
    | zero => exact ⟨hr, hw⟩
    | succ f => exact ⟨fun _ => hw, fun j hj => by rw [hr] at hj; cases hj⟩
  | cons o tl ih =>
    intro n fuel listed a w hmn hdr hsz hc h1 h2 hw
    have hn : n < l.length := by
      rcases Nat.lt_or_ge n l.length with h | h
      · exact h
      · rw [List.drop_eq_nil_of_le h] at hdr; cases hdr
    have hon : l[n]? = some o := by
      have := congrArg (·[0]?) hdr
      simpa using this
    have hdr' : l.drop (n + 1) = tl := by
      have := congrArg (List.drop 1) hdr
      simpa [List.drop_drop] using this
    have hNo : Region.ready .any l.toArray listed ≠ [] := by
      intro hr
      have := all_listed hes (by simpa using hsz) hr n (by simpa using hn)
      rw [h2 n (Nat.le_refl _)] at this; cases this
    cases fuel with
    | zero =>
      exfalso
      have hlt : n < listed.size := by omega
      have h0 : listed.toList.count false = 0 := by omega
      rw [List.count_eq_zero] at h0
      have := h2 n (Nat.le_refl _)
      rw [Array.getD_eq_getD_getElem?, Array.getElem?_eq_getElem hlt] at this
      simp at this
      exact h0 (by rw [← this]; exact Array.mem_toList_iff.2 (Array.getElem_mem hlt))
    | succ f =>
      refine ⟨fun hr => absurd hr hNo, fun i hi => ?_⟩
      obtain ⟨oi, hoi, hli, he⟩ := mem_ready hi
      have hoi' : l[i]? = some oi := by simpa using hoi
      have hil : i < l.length := (List.getElem?_eq_some_iff.1 hoi').1
      have hin : i = n := by
        rcases Nat.lt_trichotomy i n with h | h | h
        · rw [getD_flip (by omega), h1 i h] at hli; cases hli
        · exact h
        · have := chain_prev hch (by omega) hoi' he
          rw [h2 (i - 1) (by omega)] at this; cases this
      subst hin
      rw [hon] at hoi'; cases hoi'
      have hcount := count_next hc hli
      have hnext : ∀ a' w', wpList P l.toArray Q tl a' w' → wpAny P .any l.toArray Q f (listed.setIfInBounds i true) a' w' := fun a' w' hh =>
        ih (i + 1) f _ a' w' (by omega) hdr' (by simpa using hsz) hcount
          (fun j hj => by
            by_cases hji : j = i
            · subst hji; exact listed_at (by omega)
            · rw [listed_off hji]; exact h1 j (by omega))
          (fun j hj => by rw [listed_off (by omega)]; exact h2 j (by omega)) hh
      unfold wpOp
      simp only [hoi]
      unfold wpList at hw
      by_cases hwt : Region.wanted o (yielded l.toArray a.tmps) = true
      · rw [if_pos hwt] at hw ⊢
        rcases hw with hw | hw
        · exact Or.inl (Oper.wp_mono (fun a' w' => hnext a' w') hw)
        · exact Or.inr hw
      · rw [if_neg hwt] at hw ⊢
        exact hnext _ _ hw

theorem any_of_list {l : List Oper} {m : Nat} (hm : m < l.length) (hs : succUpTo l m = true) (hes : edgesOk 0 l = true) (hch : chainOk l m = true)
    (hdst : ∀ (i j : Nat) (o o' : Oper) (d : Tmp), l.toArray[i]? = some o → l.toArray[j]? = some o' → o.dst = some d → o'.dst = some d → i = j) (hsz : ∀ (i : Nat) (o : Oper) (d : Tmp), l.toArray[i]? = some o → o.dst = some d → d < a0.tmps.size)
    (hstep : ∀ (i : Nat) (o : Oper), i < m → l[i]? = some o → StepOk P T l.toArray (l.take m).toArray Q a0 w0 i o)
    (hend : ∀ listed a w, Good T l.toArray (l.take m).toArray a0 w0 listed a w → (∀ i, i < m → listed.getD i false = true) → wpList P l.toArray Q (l.drop m) a w) :
    ∀ (fuel : Nat) (listed : Array Bool) (a : Act) (w : World), (listed.toList.count false) ≤ fuel → Good T l.toArray (l.take m).toArray a0 w0 listed a w → Closed l.toArray listed → (∀ i, m ≤ i → listed.getD i false = false) → wpAny P .any l.toArray Q fuel listed a w := by
  obtain ⟨om, hom⟩ : ∃ om, l[m]? = some om := ⟨l[m], List.getElem?_eq_getElem hm⟩
  intro fuel
  induction fuel with
  | zero =>
    intro listed a w hc hg hcl hl
    exfalso
    have hlt : m < listed.size := by rw [hg.len]; simpa using hm
    have := hl m (Nat.le_refl _)
    rw [Array.getD_eq_getD_getElem?, Array.getElem?_eq_getElem hlt] at this
    simp at this
    have h0 : listed.toList.count false = 0 := by omega
    rw [List.count_eq_zero] at h0
    exact h0 (by rw [← this]; exact Array.mem_toList_iff.2 (Array.getElem_mem hlt))
  | succ fuel ih =>
    intro listed a w hc hg hcl hl
    have hlsz : listed.size = l.length := by rw [hg.len]; simp
    refine ⟨fun hr => ?_, fun i hi => ?_⟩
    · exfalso
      have := all_listed hes hg.len hr m (by simpa using hm)
      rw [hl m (Nat.le_refl _)] at this; cases this
    obtain ⟨o, ho, hli, he⟩ := mem_ready hi
    have ho' : l[i]? = some o := by simpa using ho
    have hil : i < l.length := (List.getElem?_eq_some_iff.1 ho').1
    have hcount := count_next hc hli
    by_cases hq : i < m
    · unfold wpOp
      simp only [ho]
      have hst := hstep i o hq ho' a w hg.size hg.below hg.old (fun e hem hb => hg.got e.on (he e hem hb))
      have hcl' : Closed l.toArray (listed.setIfInBounds i true) := by
        intro j oj hoj hj e hem hb
        rcases listed_next hj with rfl | hj
        · rw [ho] at hoj; cases hoj
          exact listed_keep (he e hem hb)
        · exact listed_keep (hcl j oj hoj hj e hem hb)
      have hl' : ∀ j, m ≤ j → (listed.setIfInBounds i true).getD j false = false := fun j hj => by rw [listed_off (by omega)]; exact hl j hj
      rcases hst with ⟨hw, hst⟩ | ⟨hw, hst⟩
      · rw [if_pos hw]
        refine Or.inl (Oper.wp_mono ?_ hst)
        rintro a' w' ⟨v, rfl, hb, hbs, hv⟩
        exact ih _ _ _ hcount (hg.next ho (by simp only [List.mem_toArray]; exact List.mem_take_iff_getElem.2 ⟨i, by omega, by rw [List.getElem?_eq_getElem hil] at ho'; exact Option.some.inj ho'⟩) hdst hsz hb hbs hv) hcl' hl'
      · rw [if_neg (by rw [hw]; simp)]
        exact ih _ _ _ hcount (hg.next ho (by simp only [List.mem_toArray]; exact List.mem_take_iff_getElem.2 ⟨i, by omega, by rw [List.getElem?_eq_getElem hil] at ho'; exact Option.some.inj ho'⟩) hdst hsz (Stp.refl _ _) (fun _ => Below.refl _ _) hst) hcl' hl'
    · have him : i = m := by
        rcases Nat.lt_or_ge m i with h | h
        · have := chain_prev hch h ho' he
          rw [hl (i - 1) (by omega)] at this; cases this
        · omega
      subst him
      rw [hom] at ho'; cases ho'
      have hall : ∀ j, j < i → listed.getD j false = true := fun j hj => upto_all hs hcl hom he _ j (Nat.le_refl _) hj
      have hw := hend listed a w hg hall
      have hdr : l.drop i = om :: l.drop (i + 1) := by
        rw [List.drop_eq_getElem_cons hil]
        rw [List.getElem?_eq_getElem hil] at hom
        rw [Option.some.inj hom]
      rw [hdr] at hw
      have hnext : ∀ a' w', wpList P l.toArray Q (l.drop (i + 1)) a' w' → wpAny P .any l.toArray Q fuel (listed.setIfInBounds i true) a' w' := fun a' w' hh =>
        any_of_chain hes hch _ (i + 1) fuel _ a' w' (by omega) rfl (by simpa using hlsz) hcount
          (fun j hj => by
            by_cases hji : j = i
            · subst hji; exact listed_at (by omega)
            · rw [listed_off hji]; exact hall j (by omega))
          (fun j hj => by rw [listed_off (by omega)]; exact hl j (by omega)) hh
      unfold wpOp
      simp only [ho]
      unfold wpList at hw
      by_cases hwt : Region.wanted om (yielded l.toArray a.tmps) = true
      · rw [if_pos hwt] at hw ⊢
        rcases hw with hw | hw
        · exact Or.inl (Oper.wp_mono (fun a' w' => hnext a' w') hw)
        · exact Or.inr hw
      · rw [if_neg hwt] at hw ⊢
        exact hnext _ _ hw

/-- the first operations, from number k on -/
def AllIn (P : Program) (T : Tab) (ops us : Array Oper) (Q : Exit → Act → World → Prop) (a0 : Act) (w0 : World) : Nat → Nat → List Oper → Prop
  | _, 0, _ => True
  | _, _ + 1, [] => True
  | k, n + 1, o :: r => StepOk P T ops us Q a0 w0 k o ∧ AllIn P T ops us Q a0 w0 (k + 1) n r
theorem AllIn.nil {ops us : Array Oper} {k : Nat} {l : List Oper} : AllIn P T ops us Q a0 w0 k 0 l := by cases l <;> trivial
theorem AllIn.cons {ops us : Array Oper} {k n : Nat} {o : Oper} {r : List Oper} (h : StepOk P T ops us Q a0 w0 k o) (t : AllIn P T ops us Q a0 w0 (k + 1) n r) : AllIn P T ops us Q a0 w0 k (n + 1) (o :: r) := ⟨h, t⟩
theorem AllIn.at {ops us : Array Oper} {l : List Oper} : ∀ {k n : Nat}, AllIn P T ops us Q a0 w0 k n l → ∀ i o, i < n → l[i]? = some o → StepOk P T ops us Q a0 w0 (k + i) o := by
  induction l with
  | nil => intro k n _ i o _ h; simp at h
  | cons x r ih =>
    intro k n h i o hi ho
    cases n with
    | zero => omega
    | succ n =>
      cases i with
      | zero => simp at ho; subst ho; exact h.1
      | succ i =>
        simp only [List.getElem?_cons_succ] at ho
        have := ih h.2 i o (by omega) ho
        rwa [show k + 1 + i = k + (i + 1) by omega] at this
/-- THE LAW AS IT IS USED: the first m operations by the table, the others one behind the other -/
theorem region_list {id : Nat} {ops : Array Oper} (m : Nat) (l : List Oper) (hm : P.follows .mixedOrders = true) (hs : slotsOk l a0.tmps.size = true) (hes : edgesOk 0 l = true) (hsu : succUpTo l m = true) (hch : chainOk l m = true) (hml : Nat.blt m l.length = true) (hops : ops = l.toArray) (h : AllIn P T ops (l.take m).toArray Q a0 w0 0 m l)
    (hend : ∀ a w, a.defers = a0.defers → a.tmps.size = a0.tmps.size → Below w0.heap.size w0 w → Old (l.take m).toArray a0 a → (∀ i, i < m → Got T ops i a w) → wpList P ops Q (l.drop m) a w) : (Code.region id ops true).wp P Q a0 w0 := by
  subst hops
  refine wp_region_any hm ?_
  have hb : Below w0.heap.size w0 { w0 with drawn := w0.drawn + 1 } := ⟨rfl, rfl, rfl, Nat.le_refl _, fun _ _ => rfl⟩
  have hml' : m < l.length := by simpa [Nat.blt_eq] using hml
  refine any_of_list (a0 := a0) (w0 := w0) hml' hsu hes hch (fun i j o o' d hi hj => slots_ne hs i j o o' d (by simpa using hi) (by simpa using hj)) (fun i o d hi => slots_lt hs i o d (by simpa using hi))
    (fun i o hi ho => by have := h.at i o hi ho; rwa [Nat.zero_add] at this) (fun listed a w hg hall => hend a w hg.defs hg.size hg.below hg.old (fun i hi => hg.got i (hall i hi))) _ _ _ _ ?_ ⟨rfl, rfl, by simp, hb, fun _ _ => rfl, fun i hi => ?_⟩ (fun j o _ hj => ?_) (fun j hj => ?_)
  · simp
  · rw [Array.getD_eq_getD_getElem?, Array.getElem?_replicate] at hi
    split at hi <;> simp at hi
  · rw [Array.getD_eq_getD_getElem?, Array.getElem?_replicate] at hj
    split at hj <;> simp at hj
  · rw [Array.getD_eq_getD_getElem?, Array.getElem?_replicate]
    split <;> rfl

/-- the frame behind a region: what the region writes, over what was there -/
theorem fold_get (a : Array Value) : ∀ (ds : List Nat) (t : Array Value) (i : Nat), i < t.size → i < a.size → (ds.foldl (fun t d => t.setIfInBounds d (a.getD d undef)) t)[i]? = if i ∈ ds then a[i]? else t[i]? := by
  intro ds
  induction ds with
  | nil => intro t i h1 h2; simp
  | cons d ds ih =>
    intro t i h1 h2
    rw [List.foldl_cons, ih _ i (by simpa using h1) h2]
    by_cases hi : i ∈ ds
    · simp [hi]
    · by_cases hd : i = d
      · subst hd
        simp only [hi, if_false, List.mem_cons, true_or, if_true]
        rw [Array.getElem?_setIfInBounds, if_pos rfl, if_pos h1, Array.getD_eq_getD_getElem?, Array.getElem?_eq_getElem h2]
        rfl
      · have : ¬ i ∈ d :: ds := by simp [hi, hd]
        rw [if_neg hi, if_neg this, Array.getElem?_setIfInBounds, if_neg (fun e => hd e.symm)]
theorem fold_size (a : Array Value) : ∀ (ds : List Nat) (t : Array Value), (ds.foldl (fun t d => t.setIfInBounds d (a.getD d undef)) t).size = t.size := by
  intro ds
  induction ds with
  | nil => intro t; rfl
  | cons d ds ih => intro t; rw [List.foldl_cons, ih]; simp
theorem Old.frame {ops : Array Oper} {a : Act} (h : Old ops a0 a) (hs : a.tmps.size = a0.tmps.size) : a.tmps = (ops.toList.filterMap (·.dst)).foldl (fun t d => t.setIfInBounds d (a.tmps.getD d undef)) a0.tmps := by
  apply Array.ext_getElem?
  intro i
  by_cases hi : i < a0.tmps.size
  · rw [fold_get _ _ _ i hi (by omega)]
    by_cases hm : i ∈ ops.toList.filterMap (·.dst)
    · rw [if_pos hm]
    · rw [if_neg hm]
      have := h i (by
        rw [← Array.all_toList, List.all_eq_true]
        intro o ho
        simp only [bne_iff_ne, ne_eq]
        intro hd
        exact hm (List.mem_filterMap.2 ⟨o, ho, hd⟩))
      rw [Array.getD_eq_getD_getElem?, Array.getD_eq_getD_getElem?, Array.getElem?_eq_getElem hi, Array.getElem?_eq_getElem (by omega)] at this
      rw [Array.getElem?_eq_getElem hi, Array.getElem?_eq_getElem (by omega)]
      exact congrArg some this
  · rw [Array.getElem?_eq_none (by omega), Array.getElem?_eq_none (by rw [fold_size]; omega)]
end
/-- what a slot holds: a value, a new block, a new row's slice, or whatever -/
inductive Sq
  | val (v : Value)
  | new (n : Nat) (z : Array Value) (T : TypeId)
  | row (n : Nat) (z : Array Value) (T : TypeId) (k c : Nat)
  | any
def Sq.ok : Sq → Value → World → Prop
  | .val v, u, _ => u = v
  | .new n z T, u, w => ∃ g, n ≤ g ∧ u = .pointer (some ⟨g, 0, none⟩) ∧ w.heap[g]? = some (.cells z T (0, 0))
  | .row n z T k c, u, w => ∃ g, n ≤ g ∧ u = .slice (some ⟨g, 0, none⟩) k c ∧ w.heap[g]? = some (.cells z T (0, 0))
  | .any, _, _ => True
theorem lt_heap {w : World} {k : Nat} {o : Obj} (h : w.heap[k]? = some o) : k < w.heap.size := by
  rcases Nat.lt_or_ge k w.heap.size with h' | h'
  · exact h'
  · rw [Array.getElem?_eq_none h'] at h; cases h
def tab2 (l : List Sq) : Tab := ⟨fun i v w => ((l[i]?).getD .any).ok v w, true, fun i v w w' h hb hs => by
  revert h
  generalize (l[i]?).getD .any = s
  intro h
  cases s with
  | val u => exact h
  | new n z T =>
    obtain ⟨g, hn, hv, hh⟩ := h
    exact ⟨g, hn, hv, by rw [(hs rfl).block _ (lt_heap hh)]; exact hh⟩
  | row n z T k c =>
    obtain ⟨g, hn, hv, hh⟩ := h
    exact ⟨g, hn, hv, by rw [(hs rfl).block _ (lt_heap hh)]; exact hh⟩
  | any => trivial⟩
end Go.Proofs.YteljhjljigbcjaaGreatDoor.Rg
