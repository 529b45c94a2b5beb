/- RegX -/
import Derived.Test.YthcidkidpiaomaaGreatDoorKb07
section
set_option linter.unusedVariables false
namespace Go.Proofs.YthcidkidpiaomaaGreatDoor.Rg
open Go.RowKit
def NewAt (P : Program) (o : Oper) : Prop := ∀ (a : Act) (w : World), ∃ w', (execOp a.eval o).run P w = .ok (.value (.pointer (some ⟨w.heap.size, 0, none⟩))) w' ∧ w'.heap.size = w.heap.size + 1
structure XD (p q : Nat) (dp dq : Tmp) (listed : Array Bool) (a : Act) (w : World) : Prop where
  hp : listed.getD p false = true → ∃ g, a.tmps.getD dp undef = .pointer (some ⟨g, 0, none⟩) ∧ g < w.heap.size
  hq : listed.getD q false = true → ∃ g, a.tmps.getD dq undef = .pointer (some ⟨g, 0, none⟩) ∧ g < w.heap.size
  ne : listed.getD p false = true → listed.getD q false = true → a.tmps.getD dp undef ≠ a.tmps.getD dq undef
section
variable {P : Program} {T : Tab} {Q : Exit → Act → World → Prop} {a0 : Act} {w0 : World}
theorem XD.start {p q : Nat} {dp dq : Tmp} {listed : Array Bool} {a : Act} {w : World} (h : ∀ i, listed.getD i false = false) : XD p q dp dq listed a w :=
  ⟨fun e => (by rw [h p] at e; cases e), fun e => (by rw [h q] at e; cases e), fun e => (by rw [h p] at e; cases e)⟩
theorem XD.keep {p q : Nat} {dp dq : Tmp} {listed : Array Bool} {a : Act} {w w' : World} {i : Nat} {d : Option Tmp} {v : Value} (h : XD p q dp dq listed a w) (h1 : ¬ i = p) (h2 : ¬ i = q) (h3 : d ≠ some dp) (h4 : d ≠ some dq) (hs : w.heap.size ≤ w'.heap.size) :
    XD p q dp dq (listed.setIfInBounds i true) (a.put d v) w' := by
  have e1 : (a.put d v).tmps.getD dp undef = a.tmps.getD dp undef := put_other a d v dp h3
  have e2 : (a.put d v).tmps.getD dq undef = a.tmps.getD dq undef := put_other a d v dq h4
  refine ⟨fun e => ?_, fun e => ?_, fun e e' => ?_⟩
  · rw [listed_off (fun x => h1 x.symm)] at e
    obtain ⟨g, hg, hl⟩ := h.hp e
    exact ⟨g, by rw [e1]; exact hg, by omega⟩
  · rw [listed_off (fun x => h2 x.symm)] at e
    obtain ⟨g, hg, hl⟩ := h.hq e
    exact ⟨g, by rw [e2]; exact hg, by omega⟩
  · rw [listed_off (fun x => h1 x.symm)] at e
    rw [listed_off (fun x => h2 x.symm)] at e'
    rw [e1, e2]; exact h.ne e e'
theorem XD.atP {p q : Nat} {dp dq : Tmp} {listed : Array Bool} {a : Act} {w w' : World} (h : XD p q dp dq listed a w) (hs : w'.heap.size = w.heap.size + 1) (hd : dp < a.tmps.size) (hne : dp ≠ dq) (hpq : p ≠ q) :
    XD p q dp dq (listed.setIfInBounds p true) (a.put (some dp) (.pointer (some ⟨w.heap.size, 0, none⟩))) w' := by
  have e1 := put_same a dp (.pointer (some ⟨w.heap.size, 0, none⟩)) hd
  have e2 : (a.put (some dp) (.pointer (some ⟨w.heap.size, 0, none⟩))).tmps.getD dq undef = a.tmps.getD dq undef := put_other a _ _ dq (fun e => hne (Option.some.inj e))
  refine ⟨fun _ => ⟨_, e1, by omega⟩, fun e => ?_, fun _ e' => ?_⟩
  · rw [listed_off (fun x => hpq x.symm)] at e
    obtain ⟨g, hg, hl⟩ := h.hq e
    exact ⟨g, by rw [e2]; exact hg, by omega⟩
  · rw [listed_off (fun x => hpq x.symm)] at e'
    obtain ⟨g, hg, hl⟩ := h.hq e'
    rw [e1, e2, hg]
    intro x
    injection x with x
    injection x with x
    injection x with x
    omega
theorem XD.atQ {p q : Nat} {dp dq : Tmp} {listed : Array Bool} {a : Act} {w w' : World} (h : XD p q dp dq listed a w) (hs : w'.heap.size = w.heap.size + 1) (hd : dq < a.tmps.size) (hne : dp ≠ dq) (hpq : p ≠ q) :
    XD p q dp dq (listed.setIfInBounds q true) (a.put (some dq) (.pointer (some ⟨w.heap.size, 0, none⟩))) w' := by
  have e1 := put_same a dq (.pointer (some ⟨w.heap.size, 0, none⟩)) hd
  have e2 : (a.put (some dq) (.pointer (some ⟨w.heap.size, 0, none⟩))).tmps.getD dp undef = a.tmps.getD dp undef := put_other a _ _ dp (fun e => hne (Option.some.inj e).symm)
  refine ⟨fun e => ?_, fun _ => ⟨_, e1, by omega⟩, fun e' _ => ?_⟩
  · rw [listed_off hpq] at e
    obtain ⟨g, hg, hl⟩ := h.hp e
    exact ⟨g, by rw [e2]; exact hg, by omega⟩
  · rw [listed_off hpq] at e'
    obtain ⟨g, hg, hl⟩ := h.hp e'
    rw [e1, e2, hg]
    intro x
    injection x with x
    injection x with x
    injection x with x
    omega
theorem any_of_listD {p q : Nat} {dp dq : Tmp} {op oq : Oper} {l : List Oper} {m : Nat} (hpm : p < m ∧ q < m ∧ p ≠ q ∧ dp ≠ dq) (hp : l[p]? = some op) (hq : l[q]? = some oq) (hpd : op.dst = some dp) (hqd : oq.dst = some dq) (hpg : op.guard = none) (hqg : oq.guard = none) (hpr : NewAt P op) (hqr : NewAt P oq) (hm : m < l.length) (hs : succUpTo l m = true) (hes : edgesOk 0 l = true) (hch : chainOk l m = true)
    (hdst : ∀ (i j : Nat) (o o' : Oper) (d : Tmp), l.toArray[i]? = some o → l.toArray[j]? = some o' → o.dst = some d → o'.dst = some d → i = j) (hsz : ∀ (i : Nat) (o : Oper) (d : Tmp), l.toArray[i]? = some o → o.dst = some d → d < a0.tmps.size)
    (hstep : ∀ (i : Nat) (o : Oper), i < m → l[i]? = some o → StepOk P T l.toArray (l.take m).toArray Q a0 w0 i o)
    (hend : ∀ listed a w, Good T l.toArray (l.take m).toArray a0 w0 listed a w → (∀ i, i < m → listed.getD i false = true) → XD p q dp dq listed a w → wpList P l.toArray Q (l.drop m) a w) :
    ∀ (fuel : Nat) (listed : Array Bool) (a : Act) (w : World), (listed.toList.count false) ≤ fuel → Good T l.toArray (l.take m).toArray a0 w0 listed a w → XD p q dp dq listed a w → Closed l.toArray listed → (∀ i, m ≤ i → listed.getD i false = false) → wpAny P .any l.toArray Q fuel listed a w := by
  obtain ⟨om, hom⟩ : ∃ om, l[m]? = some om := ⟨l[m], List.getElem?_eq_getElem hm⟩
  intro fuel
  induction fuel with
  | zero =>
    intro listed a w hc hg hx hcl hl
    exfalso
    have hlt : m < listed.size := by rw [hg.len]; simpa using hm
    have := hl m (Nat.le_refl _)
    rw [Array.getD_eq_getD_getElem?, Array.getElem?_eq_getElem hlt] at this
    simp at this
    have h0 : listed.toList.count false = 0 := by omega
    rw [List.count_eq_zero] at h0
    exact h0 (by rw [← this]; exact Array.mem_toList_iff.2 (Array.getElem_mem hlt))
  | succ fuel ih =>
    intro listed a w hc hg hx hcl hl
    have hlsz : listed.size = l.length := by rw [hg.len]; simp
    refine ⟨fun hr => ?_, fun i hi => ?_⟩
    · exfalso
      have := all_listed hes hg.len hr m (by simpa using hm)
      rw [hl m (Nat.le_refl _)] at this; cases this
    obtain ⟨o, ho, hli, he⟩ := mem_ready hi
    have ho' : l[i]? = some o := by simpa using ho
    have hil : i < l.length := (List.getElem?_eq_some_iff.1 ho').1
    have hcount := count_next hc hli
    by_cases hqm : i < m
    · unfold wpOp
      simp only [ho]
      have hst := hstep i o hqm ho' a w hg.size hg.below hg.old (fun e hem hb => hg.got e.on (he e hem hb))
      have hcl' : Closed l.toArray (listed.setIfInBounds i true) := by
        intro j oj hoj hj e hem hb
        rcases listed_next hj with rfl | hj
        · rw [ho] at hoj; cases hoj
          exact listed_keep (he e hem hb)
        · exact listed_keep (hcl j oj hoj hj e hem hb)
      have hl' : ∀ j, m ≤ j → (listed.setIfInBounds i true).getD j false = false := fun j hj => by rw [listed_off (by omega)]; exact hl j hj
      have hmem : o ∈ (l.take m).toArray := by simp only [List.mem_toArray]; exact List.mem_take_iff_getElem.2 ⟨i, by omega, by rw [List.getElem?_eq_getElem hil] at ho'; exact Option.some.inj ho'⟩
      have hlf : listed.getD i false = false := by rw [getD_flip (by omega)] at hli; exact hli
      by_cases hip : i = p
      · subst hip
        rw [hp] at ho'; cases ho'
        obtain ⟨w1, hr, hs1⟩ := hpr a w
        rcases hst with ⟨hw, hst⟩ | ⟨hw, -⟩
        · unfold Oper.wp at hst
          rw [hr, Oper.upon_value] at hst
          obtain ⟨v, ev, hb, hbs, hv⟩ := hst
          have hx' := hx.atP hs1 (by rw [hg.size]; exact hsz i op dp ho hpd) hpm.2.2.2 hpm.2.2.1
          rw [← hpd] at hx'
          rw [if_pos hw]
          refine Or.inl ?_
          unfold Oper.wp
          rw [hr, Oper.upon_value, ev]
          rw [ev] at hx'
          exact ih _ _ _ hcount (hg.next ho hmem hdst hsz hb hbs hv) hx' hcl' hl'
        · rw [wanted_none hpg] at hw; cases hw
      · by_cases hiq : i = q
        · subst hiq
          rw [hq] at ho'; cases ho'
          obtain ⟨w1, hr, hs1⟩ := hqr a w
          rcases hst with ⟨hw, hst⟩ | ⟨hw, -⟩
          · unfold Oper.wp at hst
            rw [hr, Oper.upon_value] at hst
            obtain ⟨v, ev, hb, hbs, hv⟩ := hst
            have hx' := hx.atQ hs1 (by rw [hg.size]; exact hsz i oq dq ho hqd) hpm.2.2.2 hpm.2.2.1
            rw [← hqd] at hx'
            rw [if_pos hw]
            refine Or.inl ?_
            unfold Oper.wp
            rw [hr, Oper.upon_value, ev]
            rw [ev] at hx'
            exact ih _ _ _ hcount (hg.next ho hmem hdst hsz hb hbs hv) hx' hcl' hl'
          · rw [wanted_none hqg] at hw; cases hw
        · have h1 : o.dst ≠ some dp := fun e => hip (hdst i p o op dp ho (by simpa using hp) e hpd)
          have h2 : o.dst ≠ some dq := fun e => hiq (hdst i q o oq dq ho (by simpa using hq) e hqd)
          rcases hst with ⟨hw, hst⟩ | ⟨hw, hst⟩
          · rw [if_pos hw]
            refine Or.inl (Oper.wp_mono ?_ hst)
            rintro a' w' ⟨v, rfl, hb, hbs, hv⟩
            exact ih _ _ _ hcount (hg.next ho hmem hdst hsz hb hbs hv) (hx.keep hip hiq h1 h2 hb.low.size) hcl' hl'
          · rw [if_neg (by rw [hw]; simp)]
            exact ih _ _ _ hcount (hg.next ho hmem hdst hsz (Stp.refl _ _) (fun _ => Below.refl _ _) hst) (hx.keep hip hiq h1 h2 (Nat.le_refl _)) hcl' hl'
    · have him : i = m := by
        rcases Nat.lt_or_ge m i with h | h
        · have := chain_prev hch h ho' he
          rw [hl (i - 1) (by omega)] at this; cases this
        · omega
      subst him
      rw [hom] at ho'; cases ho'
      have hall : ∀ j, j < i → listed.getD j false = true := fun j hj => upto_all hs hcl hom he _ j (Nat.le_refl _) hj
      have hw := hend listed a w hg hall hx
      have hdr : l.drop i = om :: l.drop (i + 1) := by
        rw [List.drop_eq_getElem_cons hil]
        rw [List.getElem?_eq_getElem hil] at hom
        rw [Option.some.inj hom]
      rw [hdr] at hw
      have hnext : ∀ a' w', wpList P l.toArray Q (l.drop (i + 1)) a' w' → wpAny P .any l.toArray Q fuel (listed.setIfInBounds i true) a' w' := fun a' w' hh =>
        any_of_chain hes hch _ (i + 1) fuel _ a' w' (by omega) rfl (by simpa using hlsz) hcount
          (fun j hj => by
            by_cases hji : j = i
            · subst hji; exact listed_at (by omega)
            · rw [listed_off hji]; exact hall j (by omega))
          (fun j hj => by rw [listed_off (by omega)]; exact hl j (by omega)) hh
      unfold wpOp
      simp only [ho]
      unfold wpList at hw
      by_cases hwt : Region.wanted om (yielded l.toArray a.tmps) = true
      · rw [if_pos hwt] at hw ⊢
        rcases hw with hw | hw
        · exact Or.inl (Oper.wp_mono (fun a' w' => hnext a' w') hw)
        · exact Or.inr hw
      · rw [if_neg hwt] at hw ⊢
        exact hnext _ _ hw
theorem region_listD {p q : Nat} {dp dq : Tmp} {op oq : Oper} {id : Nat} {ops : Array Oper} (m : Nat) (l : List Oper) (hpm : p < m ∧ q < m ∧ p ≠ q ∧ dp ≠ dq) (hp : l[p]? = some op) (hq : l[q]? = some oq) (hpd : op.dst = some dp) (hqd : oq.dst = some dq) (hpg : op.guard = none) (hqg : oq.guard = none) (hpr : NewAt P op) (hqr : NewAt P oq) (hm : P.follows .mixedOrders = true) (hs : slotsOk l a0.tmps.size = true) (hes : edgesOk 0 l = true) (hsu : succUpTo l m = true) (hch : chainOk l m = true) (hml : Nat.blt m l.length = true) (hops : ops = l.toArray) (h : AllIn P T ops (l.take m).toArray Q a0 w0 0 m l)
    (hend : ∀ a w, a.defers = a0.defers → a.tmps.size = a0.tmps.size → Below w0.heap.size w0 w → Old (l.take m).toArray a0 a → (∀ i, i < m → Got T ops i a w) → a.tmps.getD dp undef ≠ a.tmps.getD dq undef → wpList P ops Q (l.drop m) a w) : (Code.region id ops true).wp P Q a0 w0 := by
  subst hops
  refine wp_region_any hm ?_
  have hb : Below w0.heap.size w0 { w0 with drawn := w0.drawn + 1 } := ⟨rfl, rfl, rfl, Nat.le_refl _, fun _ _ => rfl⟩
  have hml' : m < l.length := by simpa [Nat.blt_eq] using hml
  refine any_of_listD (a0 := a0) (w0 := w0) hpm hp hq hpd hqd hpg hqg hpr hqr hml' hsu hes hch (fun i j o o' d hi hj => slots_ne hs i j o o' d (by simpa using hi) (by simpa using hj)) (fun i o d hi => slots_lt hs i o d (by simpa using hi))
    (fun i o hi ho => by have := h.at i o hi ho; rwa [Nat.zero_add] at this) (fun listed a w hg hall hx => hend a w hg.defs hg.size hg.below hg.old (fun i hi => hg.got i (hall i hi)) (hx.ne (hall p hpm.1) (hall q hpm.2.1))) _ _ _ _ ?_ ⟨rfl, rfl, by simp, hb, fun _ _ => rfl, fun i hi => ?_⟩ (XD.start fun i => ?_) (fun j o _ hj => ?_) (fun j hj => ?_)
  · simp
  · rw [Array.getD_eq_getD_getElem?, Array.getElem?_replicate] at hi
    split at hi <;> simp at hi
  · rw [Array.getD_eq_getD_getElem?, Array.getElem?_replicate]
    split <;> rfl
  · rw [Array.getD_eq_getD_getElem?, Array.getElem?_replicate] at hj
    split at hj <;> simp at hj
  · rw [Array.getD_eq_getD_getElem?, Array.getElem?_replicate]
    split <;> rfl
end
end Go.Proofs.YthcidkidpiaomaaGreatDoor.Rg
end
