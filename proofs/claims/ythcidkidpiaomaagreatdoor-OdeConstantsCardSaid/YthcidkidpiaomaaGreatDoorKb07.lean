/- RegT OcA OdQ -/
import Derived.Test.YthcidkidpiaomaaGreatDoorChecked
import Derived.Deep.LoopGhost
import Derived.Deep.DeepCutAuto
import Derived.Deep.RegionWith
import Derived.Laws.StructEq
import Derived.Test.YthcidkidpiaomaaGreatDoorKb06
import Derived.Test.YthcidkidpiaomaaGreatDoorKb02
import Derived.Test.YthcidkidpiaomaaGreatDoorKb05
section
set_option linter.unusedVariables false
namespace Go.Proofs.YthcidkidpiaomaaGreatDoor.Rg
open Go.RowKit
def Closed (ops : Array Oper) (listed : Array Bool) : Prop := ∀ j o, ops[j]? = some o → listed.getD j false = true → ∀ e ∈ o.after.toList, Region.binds .any e = true → listed.getD e.on false = true
section
variable {P : Program} {T : Tab} {Q : Exit → Act → World → Prop} {a0 : Act} {w0 : World}
theorem count_next {listed : Array Bool} {i : Nat} {fuel : Nat} (hc : listed.toList.count false ≤ fuel + 1) (hl : listed.getD i true = false) : ((listed.setIfInBounds i true).toList.count false) ≤ fuel := by
  rw [Array.getD_eq_getD_getElem?] at hl
  cases hq : listed[i]? with
  | none => rw [hq] at hl; simp at hl
  | some b =>
    rw [hq] at hl; simp at hl; subst hl
    obtain ⟨hlt, hget⟩ := Array.getElem?_eq_some_iff.1 hq
    rw [Array.toList_setIfInBounds, List.count_set (by simpa using hlt)]
    have hgl : listed.toList[i] = false := by simpa using hget
    rw [hgl, if_pos (by rfl), if_neg (by decide)]
    have hpos : 0 < listed.toList.count false := List.count_pos_iff.2 (by rw [← hgl]; exact List.getElem_mem _)
    omega
theorem listed_next {listed : Array Bool} {i j : Nat} (h : (listed.setIfInBounds i true).getD j false = true) : j = i ∨ listed.getD j false = true := by
  by_cases hij : j = i
  · exact Or.inl hij
  · right
    rw [Array.getD_eq_getD_getElem?, Array.getElem?_setIfInBounds, if_neg (fun e => hij e.symm)] at h
    rw [Array.getD_eq_getD_getElem?]; exact h
theorem listed_keep {listed : Array Bool} {i j : Nat} (h : listed.getD j false = true) : (listed.setIfInBounds i true).getD j false = true := by
  rw [Array.getD_eq_getD_getElem?] at h ⊢
  rw [Array.getElem?_setIfInBounds]
  split
  · split
    · rfl
    · rename_i h1 h2
      subst h1
      rw [Array.getElem?_eq_none (by omega)] at h; simp at h
  · exact h
def AllBut (P : Program) (T : Tab) (ops us : Array Oper) (Q : Exit → Act → World → Prop) (a0 : Act) (w0 : World) : Nat → List Oper → Prop
  | _, [] => True
  | _, [_] => True
  | k, o :: r => StepOk P T ops us Q a0 w0 k o ∧ AllBut P T ops us Q a0 w0 (k + 1) r
theorem AllBut.cons {ops us : Array Oper} {k : Nat} {o o' : Oper} {r : List Oper} (h : StepOk P T ops us Q a0 w0 k o) (t : AllBut P T ops us Q a0 w0 (k + 1) (o' :: r)) : AllBut P T ops us Q a0 w0 k (o :: o' :: r) := ⟨h, t⟩
theorem AllBut.at {ops us : Array Oper} {l : List Oper} : ∀ {k : Nat}, AllBut P T ops us Q a0 w0 k l → ∀ i o, i < l.length - 1 → l[i]? = some o → StepOk P T ops us Q a0 w0 (k + i) o := by
  induction l with
  | nil => intro k _ i o h; simp at h
  | cons x r ih =>
    intro k h i o hi ho
    cases r with
    | nil => simp at hi
    | cons y r =>
      cases i with
      | zero => simp at ho; subst ho; exact h.1
      | succ i =>
        simp only [List.getElem?_cons_succ] at ho
        have := ih h.2 i o (by simp at hi ⊢; omega) ho
        rwa [show k + 1 + i = k + (i + 1) by omega] at this
def succUpTo (l : List Oper) (m : Nat) : Bool := (List.range m).all fun i => (List.range (m + 1)).any fun j => decide (i < j) && ((l[j]?).map fun o => o.after.toList.any fun e => Region.binds .any e && e.on == i).getD false
def chainOk (l : List Oper) (m : Nat) : Bool := (List.range l.length).all fun j => !decide (m < j) || ((l[j]?).map fun o => o.after.toList.any fun e => Region.binds .any e && e.on + 1 == j).getD false
theorem upto_all {l : List Oper} {m : Nat} (hs : succUpTo l m = true) {listed : Array Bool} (hc : Closed l.toArray listed) {o : Oper} (hl : l[m]? = some o)
    (hd : ∀ e ∈ o.after.toList, Region.binds .any e = true → listed.getD e.on false = true) : ∀ d i, m - i ≤ d → i < m → listed.getD i false = true := by
  intro d
  induction d with
  | zero => intro i h1 h2; omega
  | succ d ih =>
    intro i h1 h2
    have h := List.all_eq_true.1 hs i (List.mem_range.2 h2)
    obtain ⟨j, hj, hh⟩ := List.any_eq_true.1 h
    have hj' := List.mem_range.1 hj
    simp only [Bool.and_eq_true, decide_eq_true_eq] at hh
    obtain ⟨hij, ho⟩ := hh
    cases hq : l[j]? with
    | none => rw [hq] at ho; simp at ho
    | some oj =>
      rw [hq] at ho
      simp only [Option.map_some, Option.getD_some] at ho
      obtain ⟨e, he, hb⟩ := List.any_eq_true.1 ho
      simp only [Bool.and_eq_true, beq_iff_eq] at hb
      rw [← hb.2]
      by_cases hjl : j = m
      · subst hjl
        rw [hl] at hq; cases hq
        exact hd e he hb.1
      · exact hc j oj (by simpa using hq) (ih j (by omega) (by omega)) e he hb.1
theorem chain_prev {l : List Oper} {m j : Nat} (hc : chainOk l m = true) (hj : m < j) {o : Oper} (ho : l[j]? = some o) {listed : Array Bool}
    (hd : ∀ e ∈ o.after.toList, Region.binds .any e = true → listed.getD e.on false = true) : listed.getD (j - 1) false = true := by
  have hl := (List.getElem?_eq_some_iff.1 ho).1
  have h := List.all_eq_true.1 hc j (List.mem_range.2 hl)
  rw [ho] at h
  simp only [hj, decide_true, Bool.not_true, Bool.false_or, Option.map_some, Option.getD_some] at h
  obtain ⟨e, he, hb⟩ := List.any_eq_true.1 h
  simp only [Bool.and_eq_true, beq_iff_eq] at hb
  have := hd e he hb.1
  rwa [show e.on = j - 1 by omega] at this
theorem getD_flip {listed : Array Bool} {i : Nat} (h : i < listed.size) : listed.getD i true = listed.getD i false := by
  rw [Array.getD_eq_getD_getElem?, Array.getD_eq_getD_getElem?, Array.getElem?_eq_getElem h]; rfl
theorem listed_at {listed : Array Bool} {i : Nat} (h : i < listed.size) : (listed.setIfInBounds i true).getD i false = true := by
  rw [Array.getD_eq_getD_getElem?, Array.getElem?_setIfInBounds, if_pos rfl, if_pos h]; rfl
theorem listed_off {listed : Array Bool} {i j : Nat} (h : j ≠ i) : (listed.setIfInBounds i true).getD j false = listed.getD j false := by
  rw [Array.getD_eq_getD_getElem?, Array.getElem?_setIfInBounds, if_neg (fun e => h e.symm), ← Array.getD_eq_getD_getElem?]
theorem any_of_chain {l : List Oper} {m : Nat} (hes : edgesOk 0 l = true) (hch : chainOk l m = true) :
    ∀ (tl : List Oper) (n : Nat) (fuel : Nat) (listed : Array Bool) (a : Act) (w : World), m < n → l.drop n = tl → listed.size = l.length → (listed.toList.count false) ≤ fuel → (∀ i, i < n → listed.getD i false = true) → (∀ i, n ≤ i → listed.getD i false = false) →
      wpList P l.toArray Q tl a w → wpAny P .any l.toArray Q fuel listed a w := by
  intro tl
  induction tl with
  | nil =>
    intro n fuel listed a w hmn hdr hsz hc h1 h2 hw
    have hn : l.length ≤ n := List.drop_eq_nil_iff.1 hdr
    have hr : Region.ready .any l.toArray listed = [] := by
      rw [List.eq_nil_iff_forall_not_mem]
      intro j hj
      obtain ⟨o', ho', hlj, _⟩ := mem_ready hj
      have hjl : j < l.length := by
        have : l[j]? = some o' := by simpa using ho'
        exact (List.getElem?_eq_some_iff.1 this).1
      rw [getD_flip (by omega), h1 j (by omega)] at hlj; cases hlj
    cases fuel with
    | zero => exact ⟨hr, hw⟩
    | succ f => exact ⟨fun _ => hw, fun j hj => by rw [hr] at hj; cases hj⟩
  | cons o tl ih =>
    intro n fuel listed a w hmn hdr hsz hc h1 h2 hw
    have hn : n < l.length := by
      rcases Nat.lt_or_ge n l.length with h | h
      · exact h
      · rw [List.drop_eq_nil_of_le h] at hdr; cases hdr
    have hon : l[n]? = some o := by
      have := congrArg (·[0]?) hdr
      simpa using this
    have hdr' : l.drop (n + 1) = tl := by
      have := congrArg (List.drop 1) hdr
      simpa [List.drop_drop] using this
    have hNo : Region.ready .any l.toArray listed ≠ [] := by
      intro hr
      have := all_listed hes (by simpa using hsz) hr n (by simpa using hn)
      rw [h2 n (Nat.le_refl _)] at this; cases this
    cases fuel with
    | zero =>
      exfalso
      have hlt : n < listed.size := by omega
      have h0 : listed.toList.count false = 0 := by omega
      rw [List.count_eq_zero] at h0
      have := h2 n (Nat.le_refl _)
      rw [Array.getD_eq_getD_getElem?, Array.getElem?_eq_getElem hlt] at this
      simp at this
      exact h0 (by rw [← this]; exact Array.mem_toList_iff.2 (Array.getElem_mem hlt))
    | succ f =>
      refine ⟨fun hr => absurd hr hNo, fun i hi => ?_⟩
      obtain ⟨oi, hoi, hli, he⟩ := mem_ready hi
      have hoi' : l[i]? = some oi := by simpa using hoi
      have hil : i < l.length := (List.getElem?_eq_some_iff.1 hoi').1
      have hin : i = n := by
        rcases Nat.lt_trichotomy i n with h | h | h
        · rw [getD_flip (by omega), h1 i h] at hli; cases hli
        · exact h
        · have := chain_prev hch (by omega) hoi' he
          rw [h2 (i - 1) (by omega)] at this; cases this
      subst hin
      rw [hon] at hoi'; cases hoi'
      have hcount := count_next hc hli
      have hnext : ∀ a' w', wpList P l.toArray Q tl a' w' → wpAny P .any l.toArray Q f (listed.setIfInBounds i true) a' w' := fun a' w' hh =>
        ih (i + 1) f _ a' w' (by omega) hdr' (by simpa using hsz) hcount
          (fun j hj => by
            by_cases hji : j = i
            · subst hji; exact listed_at (by omega)
            · rw [listed_off hji]; exact h1 j (by omega))
          (fun j hj => by rw [listed_off (by omega)]; exact h2 j (by omega)) hh
      unfold wpOp
      simp only [hoi]
      unfold wpList at hw
      by_cases hwt : Region.wanted o (yielded l.toArray a.tmps) = true
      · rw [if_pos hwt] at hw ⊢
        rcases hw with hw | hw
        · exact Or.inl (Oper.wp_mono (fun a' w' => hnext a' w') hw)
        · exact Or.inr hw
      · rw [if_neg hwt] at hw ⊢
        exact hnext _ _ hw
theorem any_of_list {l : List Oper} {m : Nat} (hm : m < l.length) (hs : succUpTo l m = true) (hes : edgesOk 0 l = true) (hch : chainOk l m = true)
    (hdst : ∀ (i j : Nat) (o o' : Oper) (d : Tmp), l.toArray[i]? = some o → l.toArray[j]? = some o' → o.dst = some d → o'.dst = some d → i = j) (hsz : ∀ (i : Nat) (o : Oper) (d : Tmp), l.toArray[i]? = some o → o.dst = some d → d < a0.tmps.size)
    (hstep : ∀ (i : Nat) (o : Oper), i < m → l[i]? = some o → StepOk P T l.toArray (l.take m).toArray Q a0 w0 i o)
    (hend : ∀ listed a w, Good T l.toArray (l.take m).toArray a0 w0 listed a w → (∀ i, i < m → listed.getD i false = true) → wpList P l.toArray Q (l.drop m) a w) :
    ∀ (fuel : Nat) (listed : Array Bool) (a : Act) (w : World), (listed.toList.count false) ≤ fuel → Good T l.toArray (l.take m).toArray a0 w0 listed a w → Closed l.toArray listed → (∀ i, m ≤ i → listed.getD i false = false) → wpAny P .any l.toArray Q fuel listed a w := by
  obtain ⟨om, hom⟩ : ∃ om, l[m]? = some om := ⟨l[m], List.getElem?_eq_getElem hm⟩
  intro fuel
  induction fuel with
  | zero =>
    intro listed a w hc hg hcl hl
    exfalso
    have hlt : m < listed.size := by rw [hg.len]; simpa using hm
    have := hl m (Nat.le_refl _)
    rw [Array.getD_eq_getD_getElem?, Array.getElem?_eq_getElem hlt] at this
    simp at this
    have h0 : listed.toList.count false = 0 := by omega
    rw [List.count_eq_zero] at h0
    exact h0 (by rw [← this]; exact Array.mem_toList_iff.2 (Array.getElem_mem hlt))
  | succ fuel ih =>
    intro listed a w hc hg hcl hl
    have hlsz : listed.size = l.length := by rw [hg.len]; simp
    refine ⟨fun hr => ?_, fun i hi => ?_⟩
    · exfalso
      have := all_listed hes hg.len hr m (by simpa using hm)
      rw [hl m (Nat.le_refl _)] at this; cases this
    obtain ⟨o, ho, hli, he⟩ := mem_ready hi
    have ho' : l[i]? = some o := by simpa using ho
    have hil : i < l.length := (List.getElem?_eq_some_iff.1 ho').1
    have hcount := count_next hc hli
    by_cases hq : i < m
    · unfold wpOp
      simp only [ho]
      have hst := hstep i o hq ho' a w hg.size hg.below hg.old (fun e hem hb => hg.got e.on (he e hem hb))
      have hcl' : Closed l.toArray (listed.setIfInBounds i true) := by
        intro j oj hoj hj e hem hb
        rcases listed_next hj with rfl | hj
        · rw [ho] at hoj; cases hoj
          exact listed_keep (he e hem hb)
        · exact listed_keep (hcl j oj hoj hj e hem hb)
      have hl' : ∀ j, m ≤ j → (listed.setIfInBounds i true).getD j false = false := fun j hj => by rw [listed_off (by omega)]; exact hl j hj
      rcases hst with ⟨hw, hst⟩ | ⟨hw, hst⟩
      · rw [if_pos hw]
        refine Or.inl (Oper.wp_mono ?_ hst)
        rintro a' w' ⟨v, rfl, hb, hbs, hv⟩
        exact ih _ _ _ hcount (hg.next ho (by simp only [List.mem_toArray]; exact List.mem_take_iff_getElem.2 ⟨i, by omega, by rw [List.getElem?_eq_getElem hil] at ho'; exact Option.some.inj ho'⟩) hdst hsz hb hbs hv) hcl' hl'
      · rw [if_neg (by rw [hw]; simp)]
        exact ih _ _ _ hcount (hg.next ho (by simp only [List.mem_toArray]; exact List.mem_take_iff_getElem.2 ⟨i, by omega, by rw [List.getElem?_eq_getElem hil] at ho'; exact Option.some.inj ho'⟩) hdst hsz (Stp.refl _ _) (fun _ => Below.refl _ _) hst) hcl' hl'
    · have him : i = m := by
        rcases Nat.lt_or_ge m i with h | h
        · have := chain_prev hch h ho' he
          rw [hl (i - 1) (by omega)] at this; cases this
        · omega
      subst him
      rw [hom] at ho'; cases ho'
      have hall : ∀ j, j < i → listed.getD j false = true := fun j hj => upto_all hs hcl hom he _ j (Nat.le_refl _) hj
      have hw := hend listed a w hg hall
      have hdr : l.drop i = om :: l.drop (i + 1) := by
        rw [List.drop_eq_getElem_cons hil]
        rw [List.getElem?_eq_getElem hil] at hom
        rw [Option.some.inj hom]
      rw [hdr] at hw
      have hnext : ∀ a' w', wpList P l.toArray Q (l.drop (i + 1)) a' w' → wpAny P .any l.toArray Q fuel (listed.setIfInBounds i true) a' w' := fun a' w' hh =>
        any_of_chain hes hch _ (i + 1) fuel _ a' w' (by omega) rfl (by simpa using hlsz) hcount
          (fun j hj => by
            by_cases hji : j = i
            · subst hji; exact listed_at (by omega)
            · rw [listed_off hji]; exact hall j (by omega))
          (fun j hj => by rw [listed_off (by omega)]; exact hl j (by omega)) hh
      unfold wpOp
      simp only [ho]
      unfold wpList at hw
      by_cases hwt : Region.wanted om (yielded l.toArray a.tmps) = true
      · rw [if_pos hwt] at hw ⊢
        rcases hw with hw | hw
        · exact Or.inl (Oper.wp_mono (fun a' w' => hnext a' w') hw)
        · exact Or.inr hw
      · rw [if_neg hwt] at hw ⊢
        exact hnext _ _ hw
def AllIn (P : Program) (T : Tab) (ops us : Array Oper) (Q : Exit → Act → World → Prop) (a0 : Act) (w0 : World) : Nat → Nat → List Oper → Prop
  | _, 0, _ => True
  | _, _ + 1, [] => True
  | k, n + 1, o :: r => StepOk P T ops us Q a0 w0 k o ∧ AllIn P T ops us Q a0 w0 (k + 1) n r
theorem AllIn.nil {ops us : Array Oper} {k : Nat} {l : List Oper} : AllIn P T ops us Q a0 w0 k 0 l := by cases l <;> trivial
theorem AllIn.cons {ops us : Array Oper} {k n : Nat} {o : Oper} {r : List Oper} (h : StepOk P T ops us Q a0 w0 k o) (t : AllIn P T ops us Q a0 w0 (k + 1) n r) : AllIn P T ops us Q a0 w0 k (n + 1) (o :: r) := ⟨h, t⟩
theorem AllIn.at {ops us : Array Oper} {l : List Oper} : ∀ {k n : Nat}, AllIn P T ops us Q a0 w0 k n l → ∀ i o, i < n → l[i]? = some o → StepOk P T ops us Q a0 w0 (k + i) o := by
  induction l with
  | nil => intro k n _ i o _ h; simp at h
  | cons x r ih =>
    intro k n h i o hi ho
    cases n with
    | zero => omega
    | succ n =>
      cases i with
      | zero => simp at ho; subst ho; exact h.1
      | succ i =>
        simp only [List.getElem?_cons_succ] at ho
        have := ih h.2 i o (by omega) ho
        rwa [show k + 1 + i = k + (i + 1) by omega] at this
theorem region_list {id : Nat} {ops : Array Oper} (m : Nat) (l : List Oper) (hm : P.follows .mixedOrders = true) (hs : slotsOk l a0.tmps.size = true) (hes : edgesOk 0 l = true) (hsu : succUpTo l m = true) (hch : chainOk l m = true) (hml : Nat.blt m l.length = true) (hops : ops = l.toArray) (h : AllIn P T ops (l.take m).toArray Q a0 w0 0 m l)
    (hend : ∀ a w, a.defers = a0.defers → a.tmps.size = a0.tmps.size → Below w0.heap.size w0 w → Old (l.take m).toArray a0 a → (∀ i, i < m → Got T ops i a w) → wpList P ops Q (l.drop m) a w) : (Code.region id ops true).wp P Q a0 w0 := by
  subst hops
  refine wp_region_any hm ?_
  have hb : Below w0.heap.size w0 { w0 with drawn := w0.drawn + 1 } := ⟨rfl, rfl, rfl, Nat.le_refl _, fun _ _ => rfl⟩
  have hml' : m < l.length := by simpa [Nat.blt_eq] using hml
  refine any_of_list (a0 := a0) (w0 := w0) hml' hsu hes hch (fun i j o o' d hi hj => slots_ne hs i j o o' d (by simpa using hi) (by simpa using hj)) (fun i o d hi => slots_lt hs i o d (by simpa using hi))
    (fun i o hi ho => by have := h.at i o hi ho; rwa [Nat.zero_add] at this) (fun listed a w hg hall => hend a w hg.defs hg.size hg.below hg.old (fun i hi => hg.got i (hall i hi))) _ _ _ _ ?_ ⟨rfl, rfl, by simp, hb, fun _ _ => rfl, fun i hi => ?_⟩ (fun j o _ hj => ?_) (fun j hj => ?_)
  · simp
  · rw [Array.getD_eq_getD_getElem?, Array.getElem?_replicate] at hi
    split at hi <;> simp at hi
  · rw [Array.getD_eq_getD_getElem?, Array.getElem?_replicate] at hj
    split at hj <;> simp at hj
  · rw [Array.getD_eq_getD_getElem?, Array.getElem?_replicate]
    split <;> rfl
theorem fold_get (a : Array Value) : ∀ (ds : List Nat) (t : Array Value) (i : Nat), i < t.size → i < a.size → (ds.foldl (fun t d => t.setIfInBounds d (a.getD d undef)) t)[i]? = if i ∈ ds then a[i]? else t[i]? := by
  intro ds
  induction ds with
  | nil => intro t i h1 h2; simp
  | cons d ds ih =>
    intro t i h1 h2
    rw [List.foldl_cons, ih _ i (by simpa using h1) h2]
    by_cases hi : i ∈ ds
    · simp [hi]
    · by_cases hd : i = d
      · subst hd
        simp only [hi, if_false, List.mem_cons, true_or, if_true]
        rw [Array.getElem?_setIfInBounds, if_pos rfl, if_pos h1, Array.getD_eq_getD_getElem?, Array.getElem?_eq_getElem h2]
        rfl
      · have : ¬ i ∈ d :: ds := by simp [hi, hd]
        rw [if_neg hi, if_neg this, Array.getElem?_setIfInBounds, if_neg (fun e => hd e.symm)]
theorem fold_size (a : Array Value) : ∀ (ds : List Nat) (t : Array Value), (ds.foldl (fun t d => t.setIfInBounds d (a.getD d undef)) t).size = t.size := by
  intro ds
  induction ds with
  | nil => intro t; rfl
  | cons d ds ih => intro t; rw [List.foldl_cons, ih]; simp
theorem Old.frame {ops : Array Oper} {a : Act} (h : Old ops a0 a) (hs : a.tmps.size = a0.tmps.size) : a.tmps = (ops.toList.filterMap (·.dst)).foldl (fun t d => t.setIfInBounds d (a.tmps.getD d undef)) a0.tmps := by
  apply Array.ext_getElem?
  intro i
  by_cases hi : i < a0.tmps.size
  · rw [fold_get _ _ _ i hi (by omega)]
    by_cases hm : i ∈ ops.toList.filterMap (·.dst)
    · rw [if_pos hm]
    · rw [if_neg hm]
      have := h i (by
        rw [← Array.all_toList, List.all_eq_true]
        intro o ho
        simp only [bne_iff_ne, ne_eq]
        intro hd
        exact hm (List.mem_filterMap.2 ⟨o, ho, hd⟩))
      rw [Array.getD_eq_getD_getElem?, Array.getD_eq_getD_getElem?, Array.getElem?_eq_getElem hi, Array.getElem?_eq_getElem (by omega)] at this
      rw [Array.getElem?_eq_getElem hi, Array.getElem?_eq_getElem (by omega)]
      exact congrArg some this
  · rw [Array.getElem?_eq_none (by omega), Array.getElem?_eq_none (by rw [fold_size]; omega)]
end
inductive Sq
  | val (v : Value)
  | new (n : Nat) (z : Array Value) (T : TypeId)
  | row (n : Nat) (z : Array Value) (T : TypeId) (k c : Nat)
  | any
def Sq.ok : Sq → Value → World → Prop
  | .val v, u, _ => u = v
  | .new n z T, u, w => ∃ g, n ≤ g ∧ u = .pointer (some ⟨g, 0, none⟩) ∧ w.heap[g]? = some (.cells z T (0, 0))
  | .row n z T k c, u, w => ∃ g, n ≤ g ∧ u = .slice (some ⟨g, 0, none⟩) k c ∧ w.heap[g]? = some (.cells z T (0, 0))
  | .any, _, _ => True
theorem lt_heap {w : World} {k : Nat} {o : Obj} (h : w.heap[k]? = some o) : k < w.heap.size := by
  rcases Nat.lt_or_ge k w.heap.size with h' | h'
  · exact h'
  · rw [Array.getElem?_eq_none h'] at h; cases h
def tab2 (l : List Sq) : Tab := ⟨fun i v w => ((l[i]?).getD .any).ok v w, true, fun i v w w' h hb hs => by
  revert h
  generalize (l[i]?).getD .any = s
  intro h
  cases s with
  | val u => exact h
  | new n z T =>
    obtain ⟨g, hn, hv, hh⟩ := h
    exact ⟨g, hn, hv, by rw [(hs rfl).block _ (lt_heap hh)]; exact hh⟩
  | row n z T k c =>
    obtain ⟨g, hn, hv, hh⟩ := h
    exact ⟨g, hn, hv, by rw [(hs rfl).block _ (lt_heap hh)]; exact hh⟩
  | any => trivial⟩
end Go.Proofs.YthcidkidpiaomaaGreatDoor.Rg
end
section
set_option linter.unusedVariables false
set_option linter.unusedSimpArgs false
namespace Go.Proofs.YthcidkidpiaomaaGreatDoor.Od
open Go.RowKit Rg
theorem entire_any (w : World) : Calls Tryz.prog 74 #[] w fun e w' => e = .returned (.agg #[.int .i64 (-2147483648), .int .i64 2147483648]) ∧ Below w.heap.size w w' := by
  go_enter Tryz.func74, Tryz.ntmps74
  go_wp2_with fail
  refine bodyPost_ret (results_cell_row rfl _ _ w.heap.size 29 #[.int .i64 (-2147483648), .int .i64 2147483648] (0, 0) _ rfl (heap_alloc_last w _) Tryz.underlying29 rfl (by kernel_rfl)) rfl ⟨rfl, ?_⟩
  exact (Below.refl _ _).alloc (Nat.le_refl _) _
def isEnt (lo hi : Int) : Bool := lo == -maxV && hi == maxV
theorem eq_iv (a b c d : Int) (w : World) : (binOp .eql 29 (.agg #[.int .i64 a, .int .i64 b]) (.agg #[.int .i64 c, .int .i64 d])).run Tryz.prog w = .ok (.bool (a == c && b == d)) w := by
  by_cases h1 : a = c <;> by_cases h2 : b = d <;> simp [go_sem, h1, h2]
set_option maxRecDepth 100000 in
set_option maxHeartbeats 8000000 in
theorem isEntire_any (lo hi : Int) (w : World) : Calls Tryz.prog 117 #[.agg #[.int .i64 lo, .int .i64 hi]] w fun e w' => e = .returned (.bool (isEnt lo hi)) ∧ Below w.heap.size w w' := by
  go_enter Tryz.func117, Tryz.ntmps117
  go_wp2_with fail
  have c0 : (w.alloc (Obj.cells #[.int .i64 lo, .int .i64 hi] 29)).cell? ⟨w.heap.size, 0, none⟩ = some (.int .i64 lo) := by rw [cell_of_row _ _ 0 _ _ _ (heap_alloc_last w _)]; rfl
  have c1 : (w.alloc (Obj.cells #[.int .i64 lo, .int .i64 hi] 29)).cell? ⟨w.heap.size, 1, none⟩ = some (.int .i64 hi) := by rw [cell_of_row _ _ 1 _ _ _ (heap_alloc_last w _)]; rfl
  have hb0 : Below w.heap.size w (w.alloc (Obj.cells #[.int .i64 lo, .int .i64 hi] 29)) := (Below.refl _ _).alloc (Nat.le_refl _) _
  have hl : w.heap.size < (w.alloc (Obj.cells #[.int .i64 lo, .int .i64 hi] 29)).heap.size := heap_lt (heap_alloc_last w _)
  have HB := Aside.mk hb0
  clear hb0
  generalize w.alloc (Obj.cells #[.int .i64 lo, .int .i64 hi] 29) = W at c0 c1 HB hl ⊢
  obtain ⟨g, hg⟩ : ∃ g, w.heap.size = g := ⟨_, rfl⟩
  rw [hg] at c0 c1 hl
  simp only [hg]
  have heq := eq_iv
  go_region_with (first | (go_at_call 74; refine (entire_any _).mono ?_; rintro e w3 ⟨rfl, hb3⟩; have k0 : w3.cell? ⟨g, 0, none⟩ = some (.int .i64 lo) := (hb3.cell (p := ⟨g, 0, none⟩) hl).trans c0; have k1 : w3.cell? ⟨g, 1, none⟩ = some (.int .i64 hi) := (hb3.cell (p := ⟨g, 1, none⟩) hl).trans c1))
  all_goals
    go_wp2_with fail
    go_ret
    exact ⟨rfl, HB.out.drew.trans (hb3.mono HB.out.size)⟩
def vld (x : Int) : Bool := decide (-2147483648 < x) && decide (x < 2147483648)
theorem okIv_eq (lo hi : Int) : okIv lo hi = (isEnt lo hi || (vld lo && (vld hi && decide (lo ≤ hi)))) := by
  unfold okIv isEnt vld maxV
  by_cases h1 : lo = -2147483648 <;> by_cases h2 : hi = 2147483648 <;> simp [h1, h2, Bool.and_assoc]
theorem fxValid_any (x : Int) (w : World) : Calls Tryz.prog 141 #[.int .i64 x] w fun e w' => e = .returned (.bool (vld x)) ∧ Below w.heap.size w w' := by
  refine (Fx.Valid_any x w).mono ?_
  rintro e w' ⟨rfl, h⟩
  exact ⟨rfl, h.below⟩
set_option maxRecDepth 100000 in
set_option maxHeartbeats 8000000 in
theorem ivValid_any (lo hi : Int) (w : World) : Calls Tryz.prog 104 #[.agg #[.int .i64 lo, .int .i64 hi]] w fun e w' => e = .returned (.bool (okIv lo hi)) ∧ Below w.heap.size w w' := by
  have HV := Aside.mk (okIv_eq lo hi)
  go_enter Tryz.func104, Tryz.ntmps104
  go_wp2_with fail
  have hrow := heap_alloc_last w (Obj.cells #[.int .i64 lo, .int .i64 hi] 29)
  have hb0 : Below w.heap.size w (w.alloc (Obj.cells #[.int .i64 lo, .int .i64 hi] 29)) := (Below.refl _ _).alloc (Nat.le_refl _) _
  generalize w.alloc (Obj.cells #[.int .i64 lo, .int .i64 hi] 29) = W at hrow hb0 ⊢
  obtain ⟨g, hg⟩ : ∃ g, w.heap.size = g := ⟨_, rfl⟩
  rw [hg] at hrow hb0
  simp only [hg]
  have HR := Aside.mk hrow
  have HB := Aside.mk hb0
  clear hrow hb0
  refine (isEntire_any lo hi W).mono ?_
  rintro e w1 ⟨rfl, hb1⟩
  have HB1 := Aside.mk (HB.out.trans (hb1.mono (Nat.le_of_lt (heap_lt HR.out))))
  have HR1 := Aside.mk ((hb1.block _ (heap_lt HR.out)).trans HR.out)
  clear hb1 HR HB
  obtain ⟨b1, hb1⟩ : ∃ b, isEnt lo hi = b := ⟨_, rfl⟩
  rw [hb1] at HV ⊢
  clear hb1
  have c0 : w1.cell? ⟨g, 0, none⟩ = some (.int .i64 lo) := by rw [cell_of_row _ _ 0 _ _ _ HR1.out]; rfl
  cases b1 with
  | true =>
    go_wp2_with fail
    go_ret
    rw [HV.out]
    exact ⟨rfl, hg ▸ HB1.out⟩
  | false =>
    go_wp2_with fail
    refine (fxValid_any lo _).mono ?_
    rintro e w2 ⟨rfl, hb2⟩
    have HB2 := Aside.mk (HB1.out.trans (hb2.mono (Nat.le_of_lt (heap_lt HR1.out))))
    have HR2 := Aside.mk ((hb2.block _ (heap_lt HR1.out)).trans HR1.out)
    clear hb2 HR1 HB1 c0
    obtain ⟨b2, hb2⟩ : ∃ b, vld lo = b := ⟨_, rfl⟩
    rw [hb2] at HV ⊢
    clear hb2
    have c1 : w2.cell? ⟨g, 1, none⟩ = some (.int .i64 hi) := by rw [cell_of_row _ _ 1 _ _ _ HR2.out]; rfl
    cases b2 with
    | false =>
      go_wp2_with fail
      go_ret
      rw [HV.out]
      exact ⟨rfl, hg ▸ HB2.out⟩
    | true =>
      go_wp2_with fail
      refine (fxValid_any hi _).mono ?_
      rintro e w3 ⟨rfl, hb3⟩
      have HB3 := Aside.mk (HB2.out.trans (hb3.mono (Nat.le_of_lt (heap_lt HR2.out))))
      have HR3 := Aside.mk ((hb3.block _ (heap_lt HR2.out)).trans HR2.out)
      clear hb3 HR2 HB2 c1
      obtain ⟨b3, hb3⟩ : ∃ b, vld hi = b := ⟨_, rfl⟩
      rw [hb3] at HV ⊢
      clear hb3
      have c0 : w3.cell? ⟨g, 0, none⟩ = some (.int .i64 lo) := by rw [cell_of_row _ _ 0 _ _ _ HR3.out]; rfl
      have c1 : w3.cell? ⟨g, 1, none⟩ = some (.int .i64 hi) := by rw [cell_of_row _ _ 1 _ _ _ HR3.out]; rfl
      cases b3 with
      | false =>
        go_wp2_with fail
        go_ret
        rw [HV.out]
        exact ⟨rfl, hg ▸ HB3.out⟩
      | true =>
        go_wp2_with fail
        go_ret
        rw [HV.out]
        exact ⟨rfl, hg ▸ HB3.out⟩
end Go.Proofs.YthcidkidpiaomaaGreatDoor.Od
end
section
set_option linter.unusedVariables false
namespace Go.Proofs.YthcidkidpiaomaaGreatDoor.Od
theorem skp_ge (f : UInt8 → Bool) (L : List UInt8) (p : Nat) : p ≤ skp f L p := by unfold skp; omega
theorem skp_le (f : UInt8 → Bool) (L : List UInt8) (p : Nat) (h : p ≤ L.length) : skp f L p ≤ L.length := by
  unfold skp
  have h1 : ((L.drop p).takeWhile f).length ≤ (L.drop p).length := List.Sublist.length_le (List.takeWhile_sublist f)
  rw [List.length_drop] at h1
  omega
theorem skp_step (f : UInt8 → Bool) (L : List UInt8) (p : Nat) (h : p < L.length) (hf : f L[p] = true) : skp f L p = skp f L (p + 1) := by
  unfold skp
  rw [List.drop_eq_getElem_cons h, List.takeWhile_cons, if_pos hf, List.length_cons]
  omega
theorem skp_stop (f : UInt8 → Bool) (L : List UInt8) (p : Nat) (h : p < L.length) (hf : f L[p] = false) : skp f L p = p := by
  unfold skp
  rw [List.drop_eq_getElem_cons h, List.takeWhile_cons, if_neg (by rw [hf]; simp)]
  rfl
theorem skp_end (f : UInt8 → Bool) (L : List UInt8) (p : Nat) (h : L.length ≤ p) : skp f L p = p := by
  unfold skp
  rw [List.drop_eq_nil_of_le h]; rfl
theorem skp_first (f : UInt8 → Bool) (L : List UInt8) (p : Nat) (h : p < L.length) (hf : f L[p] = true) : p + 1 ≤ skp f L p := by
  rw [skp_step f L p h hf]; exact skp_ge f L _
theorem numEnd_bd (L : List UInt8) (q : Nat) (h : q < L.length) (hd : isDg L[q] = true) : q + 1 ≤ numEnd L q ∧ numEnd L q ≤ L.length := by
  have h1 := skp_first isDg L q h hd
  have h2 := skp_le isDg L q (by omega)
  unfold numEnd
  simp only
  split
  · rename_i hc
    have hlt : skp isDg L q + 1 ≤ L.length := by
      have := hc.2
      cases hh : L[skp isDg L q + 1]? with
      | none => rw [hh] at this; simp at this
      | some c => have := (List.getElem?_eq_some_iff.1 hh).1; omega
    exact ⟨by have := skp_ge isDg L (skp isDg L q + 1); omega, skp_le _ _ _ hlt⟩
  · exact ⟨h1, h2⟩
structure TokOk (L : List UInt8) (t : Tok) : Prop where
  le : t.lo ≤ t.hi
  len : t.hi ≤ L.length
  some : t.kind = 1 ∨ t.kind = 2 ∨ t.kind = 3 → t.lo < t.hi
  none : t.kind = 0 ∨ t.kind = 4 → t.hi = t.lo
  kinds : t.kind = 0 ∨ t.kind = 1 ∨ t.kind = 2 ∨ t.kind = 3 ∨ t.kind = 4
  fin : t.kind = 0 ↔ t.lo = L.length
theorem tokAt_ok (nl : Bool) (L : List UInt8) (q : Nat) (h : q ≤ L.length) : TokOk L (tokAt nl L q) := by
  unfold tokAt
  cases hq : L[q]? with
  | none =>
    have : L.length ≤ q := List.getElem?_eq_none_iff.1 hq
    exact ⟨Nat.le_refl _, h, by simp, fun _ => rfl, by simp, by simp; omega⟩
  | some c =>
    obtain ⟨hlt, hc⟩ := List.getElem?_eq_some_iff.1 hq
    simp only
    by_cases h1 : isLt c = true
    · rw [if_pos h1]
      have hl : isLD L[q] = true := by rw [hc]; simp [isLD, h1]
      have := skp_first isLD L q hlt hl
      exact ⟨by show q ≤ skp isLD L q; omega, skp_le _ _ _ h, fun _ => by show q < skp isLD L q; omega, by simp, by simp, by simp; omega⟩
    · rw [if_neg h1]
      by_cases h2 : isDg c = true
      · rw [if_pos h2]
        have := numEnd_bd L q hlt (by rw [hc]; exact h2)
        exact ⟨by show q ≤ numEnd L q; omega, this.2, fun _ => by show q < numEnd L q; omega, by simp, by simp, by simp; omega⟩
      · rw [if_neg h2]
        split
        · exact ⟨by show q ≤ q + 1; omega, by show q + 1 ≤ L.length; omega, fun _ => by show q < q + 1; omega, by simp, by simp, by simp; omega⟩
        · exact ⟨Nat.le_refl _, h, by simp, fun _ => rfl, by simp, by simp; omega⟩
theorem peekT_ok (nl : Bool) (L : List UInt8) (p : Nat) (h : p ≤ L.length) : TokOk L (peekT nl L p) := tokAt_ok nl L _ (skp_le _ _ _ h)
theorem tokAt_lo (nl : Bool) (L : List UInt8) (q : Nat) : (tokAt nl L q).lo = q := by
  unfold tokAt
  split
  · rfl
  · repeat (first | rfl | split)
theorem peekT_lo (nl : Bool) (L : List UInt8) (p : Nat) : (peekT nl L p).lo = skp isWs L p := tokAt_lo nl L _
theorem peekT_ge (nl : Bool) (L : List UInt8) (p : Nat) : p ≤ (peekT nl L p).lo := by rw [peekT_lo]; exact skp_ge _ _ _
theorem skp_idem (f : UInt8 → Bool) (L : List UInt8) (p : Nat) : skp f L (skp f L p) = skp f L p := by
  by_cases h : skp f L p < L.length
  · refine skp_stop f L _ h ?_
    cases hf : f L[skp f L p] with
    | false => rfl
    | true =>
      exfalso
      have h0 : (L.drop p).takeWhile f ++ (L.drop p).dropWhile f = L.drop p := List.takeWhile_append_dropWhile
      have h1 : ((L.drop p).dropWhile f) = L.drop (skp f L p) := by
        have := congrArg (List.drop ((L.drop p).takeWhile f).length) h0
        rw [List.drop_left, List.drop_drop] at this
        exact this
      have h2 : (L.drop p).dropWhile f = L[skp f L p] :: L.drop (skp f L p + 1) := by rw [h1]; exact List.drop_eq_getElem_cons h
      have h3 := List.head?_dropWhile_not f (L.drop p)
      rw [h2] at h3
      simp only [List.head?_cons] at h3
      rw [hf] at h3
      cases h3
  · exact skp_end f L _ (by omega)
theorem peekT_at (nl : Bool) (L : List UInt8) (p : Nat) : peekT nl L (peekT nl L p).lo = peekT nl L p := by
  rw [peekT_lo]; unfold peekT; rw [skp_idem]
theorem isTok_at (nl : Bool) (L : List UInt8) (t : List UInt8) (p : Nat) : isTok nl L t (peekT nl L p).lo = isTok nl L t p := by unfold isTok; rw [peekT_at]
theorem sub_len (L : List UInt8) (a b : Nat) (h : b ≤ L.length) : (sub L a b).length = b - a := by unfold sub; rw [List.length_take, List.length_drop]; omega
theorem isTok_hi {nl : Bool} {L : List UInt8} {t : List UInt8} {p : Nat} (h : p ≤ L.length) (ht : isTok nl L t p = true) : (peekT nl L p).lo + t.length = (peekT nl L p).hi ∧ (peekT nl L p).lo < (peekT nl L p).hi := by
  have ho := peekT_ok nl L p h
  unfold isTok at ht
  simp only [Bool.and_eq_true, Bool.or_eq_true, beq_iff_eq] at ht
  obtain ⟨hk, ht⟩ := ht
  have hs := ho.some (by omega)
  rw [Tok.txt, if_neg (by omega)] at ht
  have := sub_len L (peekT nl L p).lo (peekT nl L p).hi ho.len
  rw [ht] at this
  omega
section
variable {nl : Bool} {L : List UInt8}
def Goes (L : List UInt8) (d : Nat) {α : Type} (m : Pr α) : Prop := ∀ s a s', s.pos ≤ L.length → m s = .ok a s' → s.pos + d ≤ s'.pos ∧ s'.pos ≤ L.length
theorem Goes.mono {α : Type} {d d' : Nat} {m : Pr α} (h : Goes L d m) (hd : d' ≤ d) : Goes L d' m := fun s a s' hs hm => by have := h s a s' hs hm; omega
theorem Goes.ret {α : Type} (a : α) : Goes L 0 (Pr.ret a) := fun s b s' hs hm => by cases hm; exact ⟨Nat.le_refl _, hs⟩
theorem Goes.bind {α β : Type} {d d' : Nat} {m : Pr α} {f : α → Pr β} (h : Goes L d m) (k : ∀ a, Goes L d' (f a)) : Goes L (d + d') (m.bind f) := fun s b s' hs hm => by
  unfold Pr.bind at hm
  cases hc : m s with
  | err c o => rw [hc] at hm; cases hm
  | ok a s1 =>
    rw [hc] at hm
    have h1 := h s a s1 hs hc
    have h2 := k a s1 b s' h1.2 hm
    omega
theorem Goes.map {α β : Type} {d : Nat} {m : Pr α} (f : α → β) (h : Goes L d m) : Goes L d (m.map f) := h.bind fun a => Goes.ret (f a)
theorem Goes.fail {α : Type} (d : Nat) : Goes L d (fail nl L : Pr α) := fun s a s' _ hm => by cases hm
theorem Goes.accept (t : List UInt8) : Goes L 0 (Od.accept nl L t) := fun s b s' hs hm => by
  unfold Od.accept at hm
  have hg := peekT_ge nl L s.pos
  have ho := peekT_ok nl L s.pos hs
  by_cases ht : isTok nl L t s.pos = true
  · rw [if_pos ht] at hm
    cases hm
    have := isTok_hi hs ht
    exact ⟨by show s.pos + 0 ≤ (peekT nl L s.pos).lo + t.length; omega, by show (peekT nl L s.pos).lo + t.length ≤ L.length; have := ho.len; omega⟩
  · rw [if_neg ht] at hm
    cases hm
    exact ⟨by show s.pos + 0 ≤ (peekT nl L s.pos).lo; omega, by show (peekT nl L s.pos).lo ≤ L.length; have := ho.le; have := ho.len; omega⟩
theorem accept_true {t : List UInt8} {s s' : PS} (hs : s.pos ≤ L.length) (h : accept nl L t s = .ok true s') : s.pos + 1 ≤ s'.pos ∧ s'.pos ≤ L.length := by
  unfold Od.accept at h
  have hg := peekT_ge nl L s.pos
  have ho := peekT_ok nl L s.pos hs
  by_cases ht : isTok nl L t s.pos = true
  · rw [if_pos ht] at h
    cases h
    have := isTok_hi hs ht
    exact ⟨by show s.pos + 1 ≤ (peekT nl L s.pos).lo + t.length; omega, by show (peekT nl L s.pos).lo + t.length ≤ L.length; have := ho.len; omega⟩
  · rw [if_neg ht] at h
    cases h
theorem Goes.expect (t : List UInt8) : Goes L 1 (Od.expect nl L t) := fun s b s' hs hm => by
  unfold Od.expect Pr.bind at hm
  cases hc : Od.accept nl L t s with
  | err c o => rw [hc] at hm; cases hm
  | ok a s1 =>
    rw [hc] at hm
    cases a with
    | true =>
      simp only [if_true] at hm
      cases hm
      exact accept_true hs hc
    | false => simp only [Bool.false_eq_true, if_false] at hm; cases hm
theorem Goes.number : Goes L 1 (Od.number nl L) := fun s b s' hs hm => by
  unfold Od.number at hm
  simp only at hm
  have hg := peekT_ge nl L s.pos
  have ho := peekT_ok nl L s.pos hs
  split at hm
  · rename_i hk
    cases hm
    have := ho.some (Or.inr (Or.inl hk))
    exact ⟨by show s.pos + 1 ≤ (peekT nl L s.pos).hi; omega, ho.len⟩
  · cases hm
theorem Goes.signed : Goes L 1 (Od.signed nl L) := by
  have : Goes L (0 + 1) (Od.signed nl L) := (Goes.accept [45]).bind fun b => by
    cases b with
    | true => exact Goes.number.map _
    | false => exact Goes.number
  exact this.mono (by omega)
theorem Goes.paren {d : Nat} {sum : Pr Tr} (h : Goes L d sum) : Goes L 1 (Od.paren nl L sum) :=
  ((Goes.expect [40]).bind fun _ => h.bind fun e => (Goes.expect [41]).bind fun _ => Goes.ret e).mono (by omega)
theorem Goes.bounds : Goes L 1 (Od.bounds nl L) :=
  (Goes.signed.bind fun a => (Goes.expect [44]).bind fun _ => Goes.signed.bind fun b => (Goes.expect [93]).bind fun _ => Goes.ret (Tr.num a.1 b.2)).mono (by omega)
theorem Goes.atom {d : Nat} {sum : Pr Tr} (h : Goes L d sum) : Goes L 1 (Od.atom nl L sum) := fun s b s' hs hm => by
  have hg := peekT_ge nl L s.pos
  have ho := peekT_ok nl L s.pos hs
  have hlo : (peekT nl L s.pos).lo ≤ L.length := by have := ho.le; have := ho.len; omega
  unfold Od.atom at hm
  simp only at hm
  split at hm
  · have := (Goes.number.map _) _ _ _ hlo hm
    exact ⟨by have := this.1; simp only at this; omega, this.2⟩
  split at hm
  · rename_i ht
    have h1 := isTok_hi hs ht
    simp only [List.length_cons, List.length_nil] at h1
    have := Goes.bounds _ _ _ (by show (peekT nl L s.pos).lo + 1 ≤ L.length; have := ho.len; omega) hm
    exact ⟨by have := this.1; simp only at this; omega, this.2⟩
  split at hm
  · rename_i ht
    have h1 := isTok_hi hs ht
    cases hm
    simp only [wAll, List.length_cons, List.length_nil] at h1
    exact ⟨by show s.pos + 1 ≤ (peekT nl L s.pos).lo + 3; omega, by show (peekT nl L s.pos).lo + 3 ≤ L.length; have := ho.len; omega⟩
  split at hm
  · rename_i ht
    have h1 := isTok_hi hs ht
    cases hm
    simp only [wT, List.length_cons, List.length_nil] at h1
    exact ⟨by show s.pos + 1 ≤ (peekT nl L s.pos).lo + 1; omega, by show (peekT nl L s.pos).lo + 1 ≤ L.length; have := ho.len; omega⟩
  split at hm
  · rename_i ht
    have h1 := isTok_hi hs ht
    simp only [wSqr, List.length_cons, List.length_nil] at h1
    have := ((Goes.paren h).map _) _ _ _ (by show (peekT nl L s.pos).lo + 3 ≤ L.length; have := ho.len; omega) hm
    exact ⟨by have := this.1; simp only at this; omega, this.2⟩
  split at hm
  · rename_i ht
    have h1 := isTok_hi hs ht
    simp only [wSqrt, List.length_cons, List.length_nil] at h1
    have := ((Goes.paren h).map _) _ _ _ (by show (peekT nl L s.pos).lo + 4 ≤ L.length; have := ho.len; omega) hm
    exact ⟨by have := this.1; simp only at this; omega, this.2⟩
  split at hm
  · rename_i hk
    cases hm
    have := ho.some (Or.inl hk)
    exact ⟨by show s.pos + 1 ≤ (peekT nl L s.pos).hi; omega, ho.len⟩
  split at hm
  · have := (Goes.paren h) _ _ _ hlo hm
    exact ⟨by have := this.1; simp only at this; omega, this.2⟩
  · cases hm
theorem Goes.factor {d : Nat} {sum : Pr Tr} (h : Goes L d sum) : ∀ k, Goes L 1 (Od.factor nl L sum k)
  | 0 => Goes.fail _
  | k + 1 => by
    have : Goes L (0 + 1) (Od.factor nl L sum (k + 1)) := (Goes.accept [45]).bind fun b => by
      cases b with
      | true => exact (Goes.factor h k).map _
      | false => exact Goes.atom h
    exact this.mono (by omega)
theorem Goes.chain {d : Nat} {op : Pr Tr} (h : Goes L d op) (c e : List UInt8) (f g : Int) : ∀ k t, Goes L 0 (Od.chain nl L op c e f g k t)
  | 0, t => Goes.fail _
  | k + 1, t => by
    have : Goes L (0 + 0) (Od.chain nl L op c e f g (k + 1) t) := (Goes.accept c).bind fun b => by
      cases b with
      | true => exact (h.bind fun r => Goes.chain h c e f g k _).mono (by omega)
      | false =>
        refine ((Goes.accept e).bind fun b => ?_ : Goes L (0 + 0) _)
        cases b with
        | true => exact (h.bind fun r => Goes.chain h c e f g k _).mono (by omega)
        | false => exact Goes.ret t
    exact this
theorem Goes.product {d : Nat} {sum : Pr Tr} (h : Goes L d sum) (k : Nat) : Goes L 1 (Od.product nl L sum k) :=
  ((Goes.factor h k).bind fun e => Goes.chain (Goes.factor h k) [42] [47] 9 10 k e).mono (by omega)
theorem Goes.sum : ∀ n, Goes L 1 (Od.sum nl L n)
  | 0 => Goes.fail _
  | n + 1 => ((Goes.product (Goes.sum n) (L.length + 1)).bind fun e => Goes.chain (Goes.product (Goes.sum n) (L.length + 1)) [43] [45] 7 8 (L.length + 1) e).mono (by omega)
end
end Go.Proofs.YthcidkidpiaomaaGreatDoor.Od
end
