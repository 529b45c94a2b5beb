/- OdI RegW OdJ OdK OcA -/
import Derived.Test.YthcidkidpiaomaaGreatDoorChecked
import Derived.Deep.LoopGhost
import Derived.Deep.DeepCutAuto
import Derived.Deep.RegionWith
import Derived.Laws.StructEq
import Derived.Test.YthcidkidpiaomaaGreatDoorKf07
import Derived.Test.YthcidkidpiaomaaGreatDoorKf04
import Derived.Test.YthcidkidpiaomaaGreatDoorKf03
import Derived.Test.YthcidkidpiaomaaGreatDoorKf01
section
set_option linter.unusedVariables false
set_option linter.unusedSimpArgs false
namespace Go.Proofs.YthcidkidpiaomaaGreatDoor.Od
open Go.RowKit Rg
theorem opd_one {w : World} {u : Value} {T : TypeId} {e : List Nd} (h : Rd w u e) (hne : e ≠ []) (hl : e.length ≤ 9000) : Opd (w.alloc (.cells #[u] T)) w.heap.size [u] [e] := by
  refine ⟨rfl, fun j x hx => ?_, fun j x f hx hf => ?_, by simp; omega⟩
  · cases j with
    | zero =>
      obtain rfl := Option.some.inj hx
      rw [cell_of_row _ _ 0 _ _ _ (heap_alloc_last _ _)]; rfl
    | succ j => cases hx
  · cases j with
    | zero =>
      obtain rfl := Option.some.inj hx
      obtain rfl := Option.some.inj hf
      exact ⟨h.below ((Below.refl _ _).alloc (Nat.le_refl _) _), hne⟩
    | succ j => cases hx
theorem Par.inL {w : World} {g : Nat} {B : Nat → Prop} {s : ByteArray} {nl : Bool} {σ : PS} (h : Par w g B s nl σ) : σ.pos ≤ s.data.toList.length := h.le
set_option maxRecDepth 100000 in
set_option maxHeartbeats 8000000 in
theorem factor_any (s : ByteArray) (nl : Bool) (sum : Pr Tr) (n : Nat) (hg : Gr s.data.toList 0 sum) (ha : Meets 167 s nl (Od.atom nl s.data.toList sum) n) :
    ∀ k, ∀ (w : World) (g : Nat) (B : Nat → Prop) (σ : PS), Par w g B s nl σ → TB B w → s.size < n + σ.pos → s.size < k + σ.pos →
      Calls Tryz.prog 154 #[.pointer (some ⟨g, 0, none⟩)] w fun e w' => GotT w g B s nl (Od.factor nl s.data.toList sum k σ) e w' := by
  intro k
  induction k with
  | zero => intro w g B σ h hT hn hk; have := h.le; omega
  | succ k ih =>
    intro w g B σ h hT hn hk
    have HP := Aside.mk h
    have HTB := Aside.mk hT
    have HG := Aside.mk hg
    have HAT := Aside.mk ha
    have HN := Aside.mk hn
    have HK := Aside.mk hk
    have IH := Aside.mk ih
    clear h hT hg ha hn hk ih
    obtain ⟨b, σ', ha⟩ := accept_eq nl s.data.toList [45] σ
    have HA := Aside.mk ha
    clear ha
    have HE : Aside (Od.factor nl s.data.toList sum (k + 1) σ = (if b then ((Od.factor nl s.data.toList sum k).map (Tr.un 4)) else Od.atom nl s.data.toList sum) σ') := ⟨by
      conv => lhs; unfold Od.factor Pr.bind
      rw [HA.out]⟩
    go_enter Tryz.func154, Tryz.ntmps154
    go_wp2_with fail
    refine (accept_any w g B s nl σ HP.out ⟨#[45]⟩).mono ?_
    rintro e w1 hg
    rw [show (⟨#[45]⟩ : ByteArray).data.toList = [45] from rfl, HA.out] at hg
    obtain ⟨hf, ⟨u, rfl, rfl⟩, hP1⟩ := hg
    have HF := Aside.mk hf
    have HP1 := Aside.mk hP1
    clear hf hP1
    cases b with
    | true =>
      have HPOS := Aside.mk (accept_true HP.out.inL HA.out)
      go_wp2_with fail
      refine (IH.out w1 g B σ' HP1.out (HTB.out.fr HF.out) (by have := HN.out; have := HPOS.out.1; omega) (by have := HK.out; have := HPOS.out.1; omega)).mono ?_
      rintro e w2 hg
      cases hx : Od.factor nl s.data.toList sum k σ' with
      | err c o =>
        have HX := Aside.mk hx
        rw [hx] at hg
        clear hx
        obtain ⟨hf, rfl⟩ := hg
        have HF2 := Aside.mk (HF.out.trans hf)
        clear hf
        go_wp2_with fail
        rw [HE.out]
        simp only [if_true]
        unfold Pr.map Pr.bind
        rw [HX.out]
        exact ⟨rfl, HF2.out, rfl⟩
      | ok t σ2 =>
        have HX := Aside.mk hx
        have hgr := Gr.factor HG.out k σ' t σ2 HP1.out.inL hx
        rw [hx] at hg
        clear hx
        obtain ⟨hf, ⟨u, rfl, ho⟩, hP2⟩ := hg
        have HF2 := Aside.mk (HF.out.trans hf)
        have HP2 := Aside.mk hP2
        have HLEN : Aside ((flat t).length ≤ 8000) := ⟨by have h1 := hP2.len; have h2 : s.data.toList.length = s.size := rfl; omega⟩
        have HO := Aside.mk (opd_one (T := 26) ho.rd (flat_ne t) (by have := HLEN.out; omega))
        obtain ⟨ao, cap, hu, -⟩ := ho.rd.out
        obtain ⟨l, hl⟩ : ∃ l, (flat t).length = l := ⟨_, rfl⟩
        rw [hl] at hu
        subst hu
        clear hf hP2 ho hgr hl
        go_wp2_with fail
        refine (apply_any _ 4 w2.heap.size [_] [flat t] 1 rfl (by omega) HO.out (by simp [flat_ne]) (by have := HLEN.out; simp; omega) _ rfl).mono ?_
        rintro e w3 ⟨v3, rfl, ho3, hb3⟩
        have hb4 : Below w2.heap.size w2 w3 := ((Below.refl w2.heap.size w2).alloc (Nat.le_refl _) _).trans (hb3.mono (by simp))
        have HO3 : Aside (OwnN w.heap.size w3 v3 (flat (Tr.un 4 t))) := ⟨by
          have := OwnN.mono ho3 (B := w.heap.size) (Nat.le_trans HF2.out.size ((Below.refl w2.heap.size w2).alloc (Nat.le_refl _) _).size)
          simpa [flat] using this⟩
        have HF3 := Aside.mk (HF2.out.trans (Fr.of hb4))
        have HP3 := Aside.mk (HP2.out.below hb4)
        clear ho3 hb3 hb4
        go_wp2_with fail
        go_ret
        rw [HE.out]
        simp only [if_true]
        unfold Pr.map Pr.bind
        rw [HX.out]
        exact ⟨HF3.out, ⟨_, rfl, HO3.out⟩, HP3.out⟩
    | false =>
      have HPOS := Aside.mk (Goes.accept (nl := nl) (L := s.data.toList) [45] σ false σ' HP.out.inL HA.out)
      go_wp2_with fail
      refine (HAT.out w1 g B σ' HP1.out (HTB.out.fr HF.out) (by have := HN.out; have := HPOS.out.1; omega)).mono ?_
      rintro e w2 hg
      cases hx : Od.atom nl s.data.toList sum σ' with
      | err c o =>
        have HX := Aside.mk hx
        rw [hx] at hg
        clear hx
        obtain ⟨hf, rfl⟩ := hg
        have HF2 := Aside.mk (HF.out.trans hf)
        clear hf
        go_wp2_with fail
        rw [HE.out]
        simp only [Bool.false_eq_true, if_false]
        rw [HX.out]
        exact ⟨rfl, HF2.out, rfl⟩
      | ok t σ2 =>
        have HX := Aside.mk hx
        rw [hx] at hg
        clear hx
        obtain ⟨hf, ⟨u, rfl, ho⟩, hP2⟩ := hg
        have HF2 := Aside.mk (HF.out.trans hf)
        have HP2 := Aside.mk hP2
        have HO := Aside.mk (OwnN.mono ho HF.out.size)
        clear hf hP2 ho
        go_wp2_with fail
        go_ret
        rw [HE.out]
        simp only [Bool.false_eq_true, if_false]
        rw [HX.out]
        exact ⟨HF2.out, ⟨_, rfl, HO.out⟩, HP2.out⟩
end Go.Proofs.YthcidkidpiaomaaGreatDoor.Od
end
section
set_option linter.unusedVariables false
namespace Go.Proofs.YthcidkidpiaomaaGreatDoor.Rg
open Go.RowKit
structure TabW where
  S : Nat → Value → World → Prop
  R : Bool → World → World → Prop
  call : Nat
  E : Nat → World → World → Prop
  comp : ∀ j b w0 w w', R b w0 w → E j w w' → R (b || j == call) w0 w'
  mono : ∀ i j v w w', i ≠ j → S i v w → E j w w' → S i v w'
def GotW (T : TabW) (ops : Array Oper) (j : Nat) (a : Act) (w : World) : Prop := ∀ o d, ops[j]? = some o → o.dst = some d → T.S j (a.tmps.getD d undef) w
structure GoodW (T : TabW) (ops us : Array Oper) (a0 : Act) (w0 : World) (listed : Array Bool) (a : Act) (w : World) : Prop where
  defs : a.defers = a0.defers
  size : a.tmps.size = a0.tmps.size
  len : listed.size = ops.size
  below : T.R (listed.getD T.call false) w0 w
  old : Old us a0 a
  got : ∀ i, listed.getD i false = true → GotW T ops i a w
def StepW (P : Program) (T : TabW) (ops us : Array Oper) (Q : Exit → Act → World → Prop) (a0 : Act) (w0 : World) (i : Nat) (o : Oper) : Prop :=
  ∀ (b : Bool) (a : Act) (w : World), (i = T.call → b = false) → a.defers = a0.defers → a.tmps.size = a0.tmps.size → T.R b w0 w → Old us a0 a → (∀ e ∈ o.after.toList, Region.binds .any e = true → GotW T ops e.on a w) →
    Region.wanted o (yielded ops a.tmps) = true ∧ o.wp P a w (fun a' w' => ∃ v, a' = a.put o.dst v ∧ T.E i w w' ∧ T.S i v w') Q
section
variable {P : Program} {T : TabW} {ops us : Array Oper} {Q : Exit → Act → World → Prop} {a0 : Act} {w0 : World}
theorem GoodW.next {listed : Array Bool} {a : Act} {w w' : World} {i : Nat} {o : Oper} {v : Value} (h : GoodW T ops us a0 w0 listed a w) (hi : ops[i]? = some o) (hu : o ∈ us)
    (hdst : ∀ (i j : Nat) (o o' : Oper) (d : Tmp), ops[i]? = some o → ops[j]? = some o' → o.dst = some d → o'.dst = some d → i = j) (hsz : ∀ (i : Nat) (o : Oper) (d : Tmp), ops[i]? = some o → o.dst = some d → d < a0.tmps.size)
    (hb : T.E i w w') (hv : T.S i v w') : GoodW T ops us a0 w0 (listed.setIfInBounds i true) (a.put o.dst v) w' := by
  have hbw : T.R ((listed.setIfInBounds i true).getD T.call false) w0 w' := by
    have h1 := T.comp i _ _ _ _ h.below hb
    have h2 : i < listed.size := by rw [h.len]; exact (Array.getElem?_eq_some_iff.1 hi).1
    by_cases he : i = T.call
    · rw [← he, listed_at h2]
      have h3 : (i == T.call) = true := by simp [he]
      rw [h3, Bool.or_true] at h1
      exact h1
    · rw [listed_off (fun e => he e.symm)]
      have h3 : (i == T.call) = false := by simp [he]
      rw [h3, Bool.or_false] at h1
      exact h1
  refine ⟨by rw [put_defers]; exact h.defs, by rw [put_size]; exact h.size, by simpa using h.len, hbw, fun t ht => ?_, fun j hj => ?_⟩
  · rw [put_other, h.old t ht]
    intro e
    have := Array.all_eq_true_iff_forall_mem.1 ht o hu
    simp [e] at this
  · intro o' d ho' hd
    by_cases hij : j = i
    · subst hij
      rw [hi] at ho'; cases ho'
      rw [hd, put_same _ _ _ (by rw [h.size]; exact hsz j o d hi hd)]
      exact hv
    · rw [put_other _ _ _ _ (fun e => hij (hdst j i o' o d ho' hi hd e))]
      have hj' : listed.getD j false = true := by
        rw [Array.getD_eq_getD_getElem?, Array.getElem?_setIfInBounds, if_neg (fun e => hij e.symm)] at hj
        rw [Array.getD_eq_getD_getElem?]; exact hj
      exact T.mono _ _ _ _ _ hij (h.got j hj' o' d ho' hd) hb
theorem any_of_listW {l : List Oper} {m : Nat} (hm : m < l.length) (hs : succUpTo l m = true) (hes : edgesOk 0 l = true) (hch : chainOk l m = true)
    (hdst : ∀ (i j : Nat) (o o' : Oper) (d : Tmp), l.toArray[i]? = some o → l.toArray[j]? = some o' → o.dst = some d → o'.dst = some d → i = j) (hsz : ∀ (i : Nat) (o : Oper) (d : Tmp), l.toArray[i]? = some o → o.dst = some d → d < a0.tmps.size)
    (hstep : ∀ (i : Nat) (o : Oper), i < m → l[i]? = some o → StepW P T l.toArray (l.take m).toArray Q a0 w0 i o)
    (hend : ∀ listed a w, GoodW T l.toArray (l.take m).toArray a0 w0 listed a w → (∀ i, i < m → listed.getD i false = true) → wpList P l.toArray Q (l.drop m) a w) :
    ∀ (fuel : Nat) (listed : Array Bool) (a : Act) (w : World), (listed.toList.count false) ≤ fuel → GoodW T l.toArray (l.take m).toArray a0 w0 listed a w → Closed l.toArray listed → (∀ i, m ≤ i → listed.getD i false = false) → wpAny P .any l.toArray Q fuel listed a w := by
  obtain ⟨om, hom⟩ : ∃ om, l[m]? = some om := ⟨l[m], List.getElem?_eq_getElem hm⟩
  intro fuel
  induction fuel with
  | zero =>
    intro listed a w hc hg hcl hl
    exfalso
    have hlt : m < listed.size := by rw [hg.len]; simpa using hm
    have := hl m (Nat.le_refl _)
    rw [Array.getD_eq_getD_getElem?, Array.getElem?_eq_getElem hlt] at this
    simp at this
    have h0 : listed.toList.count false = 0 := by omega
    rw [List.count_eq_zero] at h0
    exact h0 (by rw [← this]; exact Array.mem_toList_iff.2 (Array.getElem_mem hlt))
  | succ fuel ih =>
    intro listed a w hc hg hcl hl
    have hlsz : listed.size = l.length := by rw [hg.len]; simp
    refine ⟨fun hr => ?_, fun i hi => ?_⟩
    · exfalso
      have := all_listed hes hg.len hr m (by simpa using hm)
      rw [hl m (Nat.le_refl _)] at this; cases this
    obtain ⟨o, ho, hli, he⟩ := mem_ready hi
    have ho' : l[i]? = some o := by simpa using ho
    have hil : i < l.length := (List.getElem?_eq_some_iff.1 ho').1
    have hcount := count_next hc hli
    by_cases hq : i < m
    · unfold wpOp
      simp only [ho]
      have hst := hstep i o hq ho' _ a w (fun e => by rw [← e, ← getD_flip (by omega)]; exact hli) hg.defs hg.size hg.below hg.old (fun e hem hb => hg.got e.on (he e hem hb))
      have hcl' : Closed l.toArray (listed.setIfInBounds i true) := by
        intro j oj hoj hj e hem hb
        rcases listed_next hj with rfl | hj
        · rw [ho] at hoj; cases hoj
          exact listed_keep (he e hem hb)
        · exact listed_keep (hcl j oj hoj hj e hem hb)
      have hl' : ∀ j, m ≤ j → (listed.setIfInBounds i true).getD j false = false := fun j hj => by rw [listed_off (by omega)]; exact hl j hj
      obtain ⟨hw, hst⟩ := hst
      rw [if_pos hw]
      refine Or.inl (Oper.wp_mono ?_ hst)
      rintro a' w' ⟨v, rfl, hb, hv⟩
      exact ih _ _ _ hcount (hg.next ho (by simp only [List.mem_toArray]; exact List.mem_take_iff_getElem.2 ⟨i, by omega, by rw [List.getElem?_eq_getElem hil] at ho'; exact Option.some.inj ho'⟩) hdst hsz hb hv) hcl' hl'
    · have him : i = m := by
        rcases Nat.lt_or_ge m i with h | h
        · have := chain_prev hch h ho' he
          rw [hl (i - 1) (by omega)] at this; cases this
        · omega
      subst him
      rw [hom] at ho'; cases ho'
      have hall : ∀ j, j < i → listed.getD j false = true := fun j hj => upto_all hs hcl hom he _ j (Nat.le_refl _) hj
      have hw := hend listed a w hg hall
      have hdr : l.drop i = om :: l.drop (i + 1) := by
        rw [List.drop_eq_getElem_cons hil]
        rw [List.getElem?_eq_getElem hil] at hom
        rw [Option.some.inj hom]
      rw [hdr] at hw
      have hnext : ∀ a' w', wpList P l.toArray Q (l.drop (i + 1)) a' w' → wpAny P .any l.toArray Q fuel (listed.setIfInBounds i true) a' w' := fun a' w' hh =>
        any_of_chain hes hch _ (i + 1) fuel _ a' w' (by omega) rfl (by simpa using hlsz) hcount
          (fun j hj => by
            by_cases hji : j = i
            · subst hji; exact listed_at (by omega)
            · rw [listed_off hji]; exact hall j (by omega))
          (fun j hj => by rw [listed_off (by omega)]; exact hl j (by omega)) hh
      unfold wpOp
      simp only [ho]
      unfold wpList at hw
      by_cases hwt : Region.wanted om (yielded l.toArray a.tmps) = true
      · rw [if_pos hwt] at hw ⊢
        rcases hw with hw | hw
        · exact Or.inl (Oper.wp_mono (fun a' w' => hnext a' w') hw)
        · exact Or.inr hw
      · rw [if_neg hwt] at hw ⊢
        exact hnext _ _ hw
def AllW (P : Program) (T : TabW) (ops us : Array Oper) (Q : Exit → Act → World → Prop) (a0 : Act) (w0 : World) : Nat → Nat → List Oper → Prop
  | _, 0, _ => True
  | _, _ + 1, [] => True
  | k, n + 1, o :: r => StepW P T ops us Q a0 w0 k o ∧ AllW P T ops us Q a0 w0 (k + 1) n r
theorem AllW.nil {ops us : Array Oper} {k : Nat} {l : List Oper} : AllW P T ops us Q a0 w0 k 0 l := by cases l <;> trivial
theorem AllW.cons {ops us : Array Oper} {k n : Nat} {o : Oper} {r : List Oper} (h : StepW P T ops us Q a0 w0 k o) (t : AllW P T ops us Q a0 w0 (k + 1) n r) : AllW P T ops us Q a0 w0 k (n + 1) (o :: r) := ⟨h, t⟩
theorem AllW.at {ops us : Array Oper} {l : List Oper} : ∀ {k n : Nat}, AllW P T ops us Q a0 w0 k n l → ∀ i o, i < n → l[i]? = some o → StepW P T ops us Q a0 w0 (k + i) o := by
  induction l with
  | nil => intro k n _ i o _ h; simp at h
  | cons x r ih =>
    intro k n h i o hi ho
    cases n with
    | zero => omega
    | succ n =>
      cases i with
      | zero => simp at ho; subst ho; exact h.1
      | succ i =>
        simp only [List.getElem?_cons_succ] at ho
        have := ih h.2 i o (by omega) ho
        rwa [show k + 1 + i = k + (i + 1) by omega] at this
theorem region_listW {id : Nat} {ops : Array Oper} (m : Nat) (l : List Oper) (hm : P.follows .mixedOrders = true) (hs : slotsOk l a0.tmps.size = true) (hes : edgesOk 0 l = true) (hsu : succUpTo l m = true) (hch : chainOk l m = true) (hml : Nat.blt m l.length = true) (hops : ops = l.toArray) (hb : T.R false w0 { w0 with drawn := w0.drawn + 1 }) (h : AllW P T ops (l.take m).toArray Q a0 w0 0 m l)
    (hend : ∀ a w, a.defers = a0.defers → a.tmps.size = a0.tmps.size → (∃ b, T.R b w0 w) → Old (l.take m).toArray a0 a → (∀ i, i < m → GotW T ops i a w) → wpList P ops Q (l.drop m) a w) : (Code.region id ops true).wp P Q a0 w0 := by
  subst hops
  refine wp_region_any hm ?_
  have hml' : m < l.length := by simpa [Nat.blt_eq] using hml
  refine any_of_listW (a0 := a0) (w0 := w0) hml' hsu hes hch (fun i j o o' d hi hj => slots_ne hs i j o o' d (by simpa using hi) (by simpa using hj)) (fun i o d hi => slots_lt hs i o d (by simpa using hi))
    (fun i o hi ho => by have := h.at i o hi ho; rwa [Nat.zero_add] at this) (fun listed a w hg hall => hend a w hg.defs hg.size ⟨_, hg.below⟩ hg.old (fun i hi => hg.got i (hall i hi))) _ _ _ _ ?_ ⟨rfl, rfl, by simp, (by rw [Array.getD_eq_getD_getElem?, Array.getElem?_replicate]; split <;> exact hb), fun _ _ => rfl, fun i hi => ?_⟩ (fun j o _ hj => ?_) (fun j hj => ?_)
  · simp
  · rw [Array.getD_eq_getD_getElem?, Array.getElem?_replicate] at hi
    split at hi <;> simp at hi
  · rw [Array.getD_eq_getD_getElem?, Array.getElem?_replicate] at hj
    split at hj <;> simp at hj
  · rw [Array.getD_eq_getD_getElem?, Array.getElem?_replicate]
    split <;> rfl
theorem gotW_of {a : Act} {w : World} {o : Oper} {j : Nat} {oj : Oper} {d : Tmp}
    (hgot : ∀ e ∈ o.after.toList, Region.binds .any e = true → GotW T ops e.on a w) (hj : ops[j]? = some oj) (hd : oj.dst = some d) (he : (o.after.toList.any fun e => e.on == j && Region.binds .any e) = true) : T.S j (a.tmps.getD d undef) w := by
  obtain ⟨e, hm, hh⟩ := List.any_eq_true.1 he
  simp only [Bool.and_eq_true, beq_iff_eq] at hh
  have := hgot e hm hh.2
  rw [hh.1] at this
  exact this oj d hj hd
theorem wp_valueW {i : Nat} {o : Oper} {a : Act} {w : World} {v : Value} (hr : (execOp a.eval o).run P w = .ok (.value v) w) (he : T.E i w w) (hv : T.S i v w) :
    o.wp P a w (fun a' w' => ∃ v, a' = a.put o.dst v ∧ T.E i w w' ∧ T.S i v w') Q := by
  unfold Oper.wp
  rw [hr, Oper.upon_value]
  exact ⟨v, rfl, he, hv⟩
theorem wp_callsW {i : Nat} {o : Oper} {a : Act} {w : World} {f : Nat} {args : Array Value} (hr : (execOp a.eval o).run P w = .ok (.enter f args) w)
    (hc : Calls P f args w fun e w' => (∃ v, e = .returned v ∧ T.E i w w' ∧ T.S i v w') ∨ (∃ ch, e = .panicked ch ∧ Q (.panic ch) a w')) :
    o.wp P a w (fun a' w' => ∃ v, a' = a.put o.dst v ∧ T.E i w w' ∧ T.S i v w') Q := by
  unfold Oper.wp
  rw [hr, Oper.upon_enter]
  refine hc.mono ?_
  rintro e w' (⟨v, rfl, he, hv⟩ | ⟨ch, rfl, hq⟩)
  · exact ⟨v, rfl, he, hv⟩
  · exact hq
end
end Go.Proofs.YthcidkidpiaomaaGreatDoor.Rg
end
section
set_option linter.unusedVariables false
set_option linter.unusedSimpArgs false
namespace Go.Proofs.YthcidkidpiaomaaGreatDoor.Od
open Go.RowKit Rg
structure Opnd (F : Nat) (s : ByteArray) (nl : Bool) (op : Pr Tr) (n : Nat) : Prop where
 meets : Meets F s nl op n
 gr : Gr s.data.toList 0 op
 goes : Goes s.data.toList 0 op
 enters : ∀ args w, (callFunc F args).run Tryz.prog w = .ok (.enter F args) w
def OpAns (s : ByteArray) (nl : Bool) (op : Pr Tr) (σ2 : PS) (g : Nat) (B : Nat → Prop) (n0 : Nat) (v : Value) (w : World) : Prop := ∃ r σ3, op σ2 = .ok r σ3 ∧ OwnN n0 w v (flat r) ∧ Par w g B s nl σ3
def OpRow (op : Pr Tr) (σ2 : PS) (n0 : Nat) (ev v : Value) (w : World) : Prop := ∃ gn v4 r σ3, op σ2 = .ok r σ3 ∧ v = .slice (some ⟨gn, 0, none⟩) 2 2 ∧ w.heap[gn]? = some (.cells #[ev, v4] 26 (0, 0)) ∧ OwnN n0 w v4 (flat r)
def tabL (s : ByteArray) (nl : Bool) (op : Pr Tr) (σ2 : PS) (g : Nat) (B : Nat → Prop) (gx n0 : Nat) (f1 : Int) (i0 : Nat) (ev opf : Value) : TabW where
 S := fun i v w => match i with
  | 0 => v = .pointer (some ⟨gx, i0, none⟩)
  | 1 => v = .int .i64 f1
  | 2 => v = ev
  | 3 => v = opf
  | 4 => OpAns s nl op σ2 g B n0 v w
  | 5 => OpRow op σ2 n0 ev v w
  | _ => True
 R := fun b w0 w => FrP B w0 w ∧ (b = false → Below w0.heap.size w0 w)
 call := 4
 E := fun j w w' => match j with
  | 4 => FrP B w w'
  | 5 => Below w.heap.size w w'
  | _ => w' = w
 comp := fun j b w0 w w' h he => by
  match j, he with
  | 0, he | 1, he | 2, he | 3, he => subst he; exact ⟨h.1, fun e => h.2 (by simpa using e)⟩
  | (k + 6), he => subst he; exact ⟨h.1, fun e => h.2 (by simpa using e)⟩
  | 4, he => exact ⟨h.1.trans he, fun e => by simp at e⟩
  | 5, he => exact ⟨h.1.trans (Fr.of he), fun e => (h.2 (by simpa using e)).trans (he.mono h.1.size)⟩
 mono := fun i j v w w' hij h he => by
  match i, h with
  | 0, h | 1, h | 2, h | 3, h => exact h
  | (_ + 6), _ => trivial
  | 4, h =>
   match j, he with
   | 0, he | 1, he | 2, he | 3, he | (_ + 6), he => exact he ▸ h
   | 4, _ => exact absurd rfl hij
   | 5, he =>
    obtain ⟨r, σ3, h1, h2, h3⟩ := h
    exact ⟨r, σ3, h1, owns_below h2 he, h3.below he⟩
  | 5, h =>
   match j, he with
   | 0, he | 1, he | 2, he | 3, he | (_ + 6), he => exact he ▸ h
   | 5, _ => exact absurd rfl hij
   | 4, he =>
    obtain ⟨gn, v4, r, σ3, h1, h2, h3, h4⟩ := h
    exact ⟨gn, v4, r, σ3, h1, h2, Fr.cell he h3 (by decide), h4.frP he⟩
set_option maxRecDepth 100000 in
theorem run_callb {dst : Option Tmp} {type : TypeId} {pos : String} {after : Array Edge} {guard : Option (Nat × Bool)} {a : Act} {w : World} {f : Nat} {x : Operand} {first : Array Value} {ats : Array TypeId} (hx : a.eval x = .func (.func f) first #[]) (hf : ∀ args w, (callFunc f args).run Tryz.prog w = .ok (.enter f args) w) :
  (execOp a.eval { dst, op := .call { callee := .value x, args := #[], argTypes := ats }, type, pos, after, guard }).run Tryz.prog w = .ok (.enter f first) w := by
 show Sem.run _ (do let d ← Deferred.ofValue (a.eval x) (#[].map a.eval); invoke d.target d.args) w = _
 rw [hx, Array.map_empty]
 show Sem.run _ (callFunc f (first ++ #[] ++ #[])) w = _
 rw [Array.append_empty, Array.append_empty]
 exact hf _ _
theorem wp_newW {P : Program} {T : TabW} {Q : Exit → Act → World → Prop} {i : Nat} {o : Oper} {a : Act} {w w' : World} {v : Value} (hr : (execOp a.eval o).run P w = .ok (.value v) w') (he : T.E i w w') (hv : T.S i v w') :
  o.wp P a w (fun a' w' => ∃ v, a' = a.put o.dst v ∧ T.E i w w' ∧ T.S i v w') Q := by
 unfold Oper.wp
 rw [hr, Oper.upon_value]
 exact ⟨v, rfl, he, hv⟩
theorem opd_two {w : World} {gn : Nat} {u v : Value} {T : TypeId} {e f : List Nd} (hh : w.heap[gn]? = some (.cells #[u, v] T (0, 0))) (he : Rd w u e) (hf : Rd w v f) (hne : e ≠ []) (hnf : f ≠ []) (hl : e.length + f.length ≤ 90000) : Opd w gn [u, v] [e, f] := by
 refine ⟨rfl, fun j x hx => ?_, fun j x y hx hy => ?_, by simp; omega⟩
 ·rcases j with _ | _ | j
  ·obtain rfl := Option.some.inj hx
   rw [cell_of_row _ _ 0 _ _ _ hh]; rfl
  ·obtain rfl := Option.some.inj hx
   rw [cell_of_row _ _ 1 _ _ _ hh]; rfl
  ·cases hx
 ·rcases j with _ | _ | j
  ·obtain rfl := Option.some.inj hx
   obtain rfl := Option.some.inj hy
   exact ⟨he, hne⟩
  ·obtain rfl := Option.some.inj hx
   obtain rfl := Option.some.inj hy
   exact ⟨hf, hnf⟩
  ·cases hx
theorem chain_first {nl : Bool} {L : List UInt8} {op : Pr Tr} {c d : List UInt8} {f1 f2 : Int} {k : Nat} {t : Tr} {σ1 σ2 : PS} (h : Od.accept nl L c σ1 = .ok true σ2) : Od.chain nl L op c d f1 f2 (k + 1) t σ1 = (op.bind fun r => Od.chain nl L op c d f1 f2 k (Tr.bin f1 t r)) σ2 := by
 conv => lhs; unfold Od.chain
 simp only [Pr.bind, h]
 rfl
theorem chain_second {nl : Bool} {L : List UInt8} {op : Pr Tr} {c d : List UInt8} {f1 f2 : Int} {k : Nat} {t : Tr} {σ1 σ2 σ4 : PS} (h : Od.accept nl L c σ1 = .ok false σ2) (h2 : Od.accept nl L d σ2 = .ok true σ4) : Od.chain nl L op c d f1 f2 (k + 1) t σ1 = (op.bind fun r => Od.chain nl L op c d f1 f2 k (Tr.bin f2 t r)) σ4 := by
 conv => lhs; unfold Od.chain
 simp only [Pr.bind, h, Bool.false_eq_true, if_false, h2]
 rfl
theorem chain_last {nl : Bool} {L : List UInt8} {op : Pr Tr} {c d : List UInt8} {f1 f2 : Int} {k : Nat} {t : Tr} {σ1 σ2 σ4 : PS} (h : Od.accept nl L c σ1 = .ok false σ2) (h2 : Od.accept nl L d σ2 = .ok false σ4) : Od.chain nl L op c d f1 f2 (k + 1) t σ1 = .ok t σ4 := by
 unfold Od.chain
 simp only [Pr.bind, h, Bool.false_eq_true, if_false, h2]
 rfl
set_option maxRecDepth 100000 in
set_option maxHeartbeats 8000000 in
theorem left_any (F : Nat) (s : ByteArray) (nl : Bool) (op : Pr Tr) (n : Nat) (hop : Opnd F s nl op n) (c d : ByteArray) (f1 f2 : Int) (w : World) (g : Nat) (B : Nat → Prop) (σ : PS) (h : Par w g B s nl σ) (hT : TB B w) (hn : s.size < n + σ.pos) (kk : Nat) (hk : s.size < kk + σ.pos) :
  Calls Tryz.prog 131 #[.pointer (some ⟨g, 0, none⟩), .func (.func F) #[.pointer (some ⟨g, 0, none⟩)] #[], .string c, .string d, .agg #[.int .i64 f1, .int .i64 f2]] w
   fun e w' => GotT w g B s nl ((op.bind fun t => Od.chain nl s.data.toList op c.data.toList d.data.toList f1 f2 kk t) σ) e w' := by
 have HOP := Aside.mk hop
 have HP := Aside.mk h
 have HTB := Aside.mk hT
 have HN := Aside.mk hn
 have HK := Aside.mk hk
 have hen := hop.enters
 clear hop h hT hn hk
 go_enter Tryz.func131, Tryz.ntmps131
 go_wp2_with fail
 have hal : Below w.heap.size w (w.alloc (.cells #[.int .i64 f1, .int .i64 f2] 152)) := (Below.refl _ _).alloc (Nat.le_refl _) _
 have HBX : Aside ((w.alloc (.cells #[.int .i64 f1, .int .i64 f2] 152)).heap[w.heap.size]? = some (.cells #[.int .i64 f1, .int .i64 f2] 152 (0, 0))) := ⟨heap_alloc_last _ _⟩
 have HP0 := Aside.mk (HP.out.below hal)
 have HF0 : Aside (FrP B w (w.alloc (.cells #[.int .i64 f1, .int .i64 f2] 152))) := ⟨Fr.of hal⟩
 have HSZ0 := Aside.mk hal.size
 clear hal
 generalize (w.alloc (.cells #[.int .i64 f1, .int .i64 f2] 152)) = W at HBX HP0 HF0 HSZ0 ⊢
 obtain ⟨gx, hgx⟩ : ∃ gx, w.heap.size = gx := ⟨_, rfl⟩
 rw [hgx] at HBX
 have HGX := Aside.mk hgx
 simp only [hgx]
 clear hgx
 refine (HOP.out.meets W g B σ HP0.out (HTB.out.fr HF0.out) HN.out).mono ?_
 rintro e w1 hg
 cases hx : op σ with
 | err cc o =>
  have HX := Aside.mk hx
  rw [hx] at hg
  clear hx
  obtain ⟨hf, rfl⟩ := hg
  have HF2 := Aside.mk (HF0.out.trans hf)
  clear hf
  go_wp2_with fail
  unfold Pr.bind
  rw [HX.out]
  exact ⟨rfl, HF2.out, rfl⟩
 | ok t0 σ0 =>
  have HX := Aside.mk hx
  have hgr := HOP.out.gr σ t0 σ0 HP.out.inL hx
  rw [hx] at hg
  clear hx
  obtain ⟨hf, ⟨u0, rfl, ho⟩, hP1⟩ := hg
  have HF1 := Aside.mk (HF0.out.trans hf)
  have HP1 := Aside.mk hP1
  have HO1 := Aside.mk (OwnN.mono ho HSZ0.out)
  have HB1 : Aside (w1.heap[gx]? = some (.cells #[.int .i64 f1, .int .i64 f2] 152 (0, 0))) := ⟨hf.cell HBX.out (by decide)⟩
  have HRES : Aside ((op.bind fun t => Od.chain nl s.data.toList op c.data.toList d.data.toList f1 f2 kk t) σ = Od.chain nl s.data.toList op c.data.toList d.data.toList f1 f2 kk t0 σ0) := ⟨by unfold Pr.bind; rw [HX.out]⟩
  have HLE := Aside.mk (show σ.pos ≤ σ0.pos ∧ (flat t0).length ≤ σ0.pos by omega)
  clear hf hP1 ho hgr HBX
  clear HX
  go_wp2_with fail
  go_loopg [11] s.size (fun m v11 wr => ∃ (t : Tr) (σ1 : PS) (k : Nat), Aside (OwnN w.heap.size wr v11 (flat t)) ∧ Aside (Par wr g B s nl σ1) ∧ Aside (FrP B w wr) ∧ Aside (wr.heap[gx]? = some (.cells #[.int .i64 f1, .int .i64 f2] 152 (0, 0))) ∧
   Aside (s.size < k + σ1.pos ∧ s.size - σ1.pos ≤ m ∧ s.size < n + σ1.pos ∧ (flat t).length ≤ σ1.pos) ∧ Aside ((op.bind fun t => Od.chain nl s.data.toList op c.data.toList d.data.toList f1 f2 kk t) σ = Od.chain nl s.data.toList op c.data.toList d.data.toList f1 f2 k t σ1))
  case atStart => exact ⟨t0, σ0, kk, HO1, HP1, HF1, HB1, ⟨by have := HLE.out; have := HK.out; have := HN.out; exact ⟨by omega, by omega, by omega, HLE.out.2⟩⟩, HRES⟩
  case round =>
   clear HO1 HP1 HF1 HB1
   obtain ⟨t, σ1, k, HO1, HP1, HF1, HB1, HM, HEQ⟩ := hrel
   clear HRES
   cases k with
   | zero => exfalso; have := HM.out.1; have := HP1.out.le; omega
   | succ k =>
    obtain ⟨b, σ2, ha⟩ := accept_eq nl s.data.toList c.data.toList σ1
    have HA := Aside.mk ha
    clear ha
    go_wp2_with fail
    refine (accept_any wr g B s nl σ1 HP1.out c).mono ?_
    rintro e w2 hg
    rw [HA.out] at hg
    obtain ⟨hf, ⟨u, rfl, rfl⟩, hP2⟩ := hg
    have HF2 := Aside.mk (HF1.out.trans hf)
    have HP2 := Aside.mk hP2
    have HO2 := Aside.mk (HO1.out.frP hf)
    have HB2 : Aside (w2.heap[gx]? = some (.cells #[.int .i64 f1, .int .i64 f2] 152 (0, 0))) := ⟨hf.cell HB1.out (by decide)⟩
    clear hf hP2 HO1 HF1 HB1
    cases b with
    | true =>
     go_wp2_with fail
     have HPOS := Aside.mk (accept_true HP1.out.inL HA.out)
     have hu : ∃ ao l cap, u11 = Value.slice ao l cap := by obtain ⟨ao, cap, hv, -⟩ := HO2.out.rd.out; exact ⟨ao, _, cap, hv⟩
     refine region_listW (T := tabL s nl op σ2 g B gx w2.heap.size f1 0 u11 (.func (.func F) #[.pointer (some ⟨g, 0, none⟩)] #[])) 6
      [_, _, _, _, _, _, _, _] (by kernel_rfl) (by kernel_rfl) (by kernel_rfl) (by kernel_rfl) (by kernel_rfl) (by kernel_rfl) rfl ?_ ?_ ?_
     ·exact ⟨Fr.of ⟨rfl, rfl, rfl, Nat.le_refl _, fun _ _ => rfl⟩, fun _ => ⟨rfl, rfl, rfl, Nat.le_refl _, fun _ _ => rfl⟩⟩
     ·refine AllW.cons ?_ ?_
      ·intro b a wz hcl hd hz hb ho hg
       have e9 : a.tmps.getD 9 undef = .pointer (some ⟨gx, 0, none⟩) := ho 9 (by kernel_rfl)
       have f9 := Rg.gd e9
       exact ⟨wanted_none rfl, wp_valueW (v := .pointer (some ⟨gx, 0, none⟩)) (by simp [execOp, Act.eval, e9, f9, go_sem]) rfl rfl⟩
      refine AllW.cons ?_ ?_
      ·intro b a wz hcl hd hz hb ho hg
       have e19 : a.tmps.getD 19 undef = .pointer (some ⟨gx, 0, none⟩) := gotW_of hg (j := 0) rfl rfl rfl
       have f19 := Rg.gd e19
       have hr := Fr.cell hb.1 HB2.out (by decide)
       have q : wz.cell? ⟨gx, 0, none⟩ = some (.int .i64 f1) := by rw [cell_of_row _ _ 0 _ _ _ hr]; rfl
       exact ⟨wanted_none rfl, wp_valueW (v := .int .i64 f1) (by simp [execOp, Act.eval, e19, f19, q, go_sem]) rfl rfl⟩
      refine AllW.cons ?_ ?_
      ·intro b a wz hcl hd hz hb ho hg
       have e11 : a.tmps.getD 11 undef = u11 := ho 11 (by kernel_rfl)
       have f11 := Rg.gd e11
       exact ⟨wanted_none rfl, wp_valueW (v := u11) (by simp [execOp, Act.eval, e11, f11, go_sem]) rfl rfl⟩
      refine AllW.cons ?_ ?_
      ·intro b a wz hcl hd hz hb ho hg
       have e1 : a.tmps.getD 1 undef = .func (.func F) #[.pointer (some ⟨g, 0, none⟩)] #[] := ho 1 (by kernel_rfl)
       have f1 := Rg.gd e1
       exact ⟨wanted_none rfl, wp_valueW (v := .func (.func F) #[.pointer (some ⟨g, 0, none⟩)] #[]) (by simp [execOp, Act.eval, e1, f1, go_sem]) rfl rfl⟩
      refine AllW.cons ?_ ?_
      ·intro b a wz hcl hd hz hb ho hg
       have e22 : a.tmps.getD 22 undef = .func (.func F) #[.pointer (some ⟨g, 0, none⟩)] #[] := gotW_of hg (j := 3) rfl rfl rfl
       have hbw := hb.2 (hcl rfl)
       refine ⟨wanted_none rfl, wp_callsW (run_callb (show a.eval (.tmp 22) = _ from e22) HOP.out.enters) ((HOP.out.meets wz g B σ2 (HP2.out.below hbw) ((HTB.out.fr HF2.out).fr hb.1) (by have := HM.out.2.2.1; have := HPOS.out.1; omega)).mono ?_)⟩
       rintro e w' hgot
       cases hy : op σ2 with
       | ok r σ3 =>
        rw [hy] at hgot
        obtain ⟨hf, ⟨u, rfl, ho3⟩, hP3⟩ := hgot
        exact Or.inl ⟨u, rfl, hf, ⟨r, σ3, hy, OwnN.mono ho3 hb.1.size, hP3⟩⟩
       | err cc o =>
        rw [hy] at hgot
        obtain ⟨hf, rfl⟩ := hgot
        refine Or.inr ⟨_, rfl, ?_⟩
        have hres : (op.bind fun t => Od.chain nl s.data.toList op c.data.toList d.data.toList f1 f2 kk t) σ = .err cc o := by rw [HEQ.out, chain_first HA.out, Pr.bind, hy]
        exact (⟨hd, (HF2.out.trans hb.1).trans hf, by rw [hres]⟩ : bodyPost Tryz.prog Tryz.f131 (fun e w' => GotT w g B s nl ((op.bind fun t => Od.chain nl s.data.toList op c.data.toList d.data.toList f1 f2 kk t) σ) e w') (Exit.panic (pan o cc)) a w')
      refine AllW.cons ?_ ?_
      ·intro b a wz hcl hd hz hb ho hg
       have e21 : a.tmps.getD 21 undef = u11 := gotW_of hg (j := 2) rfl rfl rfl
       obtain ⟨r, σ3, hy, ho3, hP3⟩ := (gotW_of hg (j := 4) rfl rfl rfl : OpAns s nl op σ2 g B w2.heap.size (a.tmps.getD 23 undef) wz)
       obtain ⟨v4, e23⟩ : ∃ v, a.tmps.getD 23 undef = v := ⟨_, rfl⟩
       rw [e23] at ho3
       obtain ⟨ao3, cap3, hv3, -⟩ := ho3.rd.out
       obtain ⟨ao, l, cap, hu11⟩ := hu
       obtain ⟨l3, hl3⟩ : ∃ l, (flat r).length = l := ⟨_, rfl⟩
       rw [hl3] at hv3
       have f21 := e21; rw [Array.getD_eq_getD_getElem?, hu11] at f21
       have f23 := e23; rw [Array.getD_eq_getD_getElem?, hv3] at f23
       rw [hu11] at e21
       rw [hv3] at e23
       refine ⟨wanted_none rfl, wp_newW (v := .slice (some ⟨wz.heap.size, 0, none⟩) 2 2) (w' := wz.alloc (.cells #[.slice ao l cap, .slice ao3 l3 cap3] 26)) (by simp [execOp, Act.eval, e21, e23, f21, f23, go_sem]) ((Below.refl wz.heap.size wz).alloc (Nat.le_refl _) _) ?_⟩
       exact ⟨wz.heap.size, v4, r, σ3, hy, rfl, by rw [hu11, hv3]; exact heap_alloc_last _ _, owns_below ho3 ((Below.refl _ _).alloc (Nat.le_refl _) _)⟩
      exact AllW.nil
     ·intro a wz hd hz hb ho hg
      obtain ⟨b, hb, -⟩ := hb
      have e19 : a.tmps.getD 19 undef = .pointer (some ⟨gx, 0, none⟩) := hg 0 (by decide) _ _ rfl rfl
      have e20 : a.tmps.getD 20 undef = .int .i64 f1 := hg 1 (by decide) _ _ rfl rfl
      have e21 : a.tmps.getD 21 undef = u11 := hg 2 (by decide) _ _ rfl rfl
      have e22 : a.tmps.getD 22 undef = .func (.func F) #[.pointer (some ⟨g, 0, none⟩)] #[] := hg 3 (by decide) _ _ rfl rfl
      obtain ⟨r, σ3, hy, -, hP3⟩ := (hg 4 (by decide) _ _ rfl rfl : OpAns s nl op σ2 g B w2.heap.size (a.tmps.getD 23 undef) wz)
      obtain ⟨gn, v4, r', σ3', hy', e24, hrow, ho4⟩ := (hg 5 (by decide) _ _ rfl rfl : OpRow op σ2 w2.heap.size u11 (a.tmps.getD 24 undef) wz)
      obtain ⟨v23, e23⟩ : ∃ v, a.tmps.getD 23 undef = v := ⟨_, rfl⟩
      rw [hy] at hy'
      injection hy' with hr1 hr2
      subst hr1 hr2
      have hA := ho.frame hz
      simp only [List.take_succ_cons, List.take_zero, List.filterMap_cons, List.filterMap_nil, List.foldl_cons, List.foldl_nil, e19, e20, e21, e22, e23, e24, List.setIfInBounds_toArray, List.set_cons_zero, List.set_cons_succ] at hA
      have hgr := HOP.out.gr σ2 r σ3 HP2.out.inL hy
      have hgo := HOP.out.goes σ2 r σ3 HP2.out.inL hy
      have HLN : Aside ((flat t).length ≤ 8000 ∧ (flat r).length ≤ 8000 ∧ 1 + (flat t).length + (flat r).length ≤ σ3.pos ∧ σ1.pos + 1 ≤ σ3.pos) := ⟨by
       have h1 := hP3.len; have h2 : s.data.toList.length = s.size := rfl; have h3 := HM.out.2.2.2; have h4 := HPOS.out; omega⟩
      have HOD := Aside.mk (opd_two hrow (HO2.out.frP hb).rd ho4.rd (flat_ne t) (flat_ne r) (by have := HLN.out; omega))
      have HP3 := Aside.mk hP3
      have HF3 := Aside.mk (HF2.out.trans hb)
      have HB3 : Aside (wz.heap[gx]? = some (.cells #[.int .i64 f1, .int .i64 f2] 152 (0, 0))) := ⟨hb.cell HB2.out (by decide)⟩
      have HY := Aside.mk hy
      obtain ⟨tm, df⟩ := a
      simp only at hd hA
      subst hd
      subst hA
      simp only [List.drop_succ_cons, List.drop_zero]
      clear hz ho hg hb e19 e20 e21 e22 e23 e24 hy hP3 hrow ho4 hgr hgo
      go_wp2_with fail
      refine (apply_any wz f1 gn [u11, v4] [flat t, flat r] 2 rfl (by omega) HOD.out (by simp [flat_ne]) (by have := HLN.out; simp; omega) _ rfl).mono ?_
      rintro e w5 ⟨v5, rfl, ho5, hb5⟩
      have HO5 : Aside (OwnN w.heap.size w5 v5 (flat (Tr.bin f1 t r))) := ⟨by
       have := OwnN.mono ho5 (B := w.heap.size) HF3.out.size
       simpa [flat] using this⟩
      have HF5 := Aside.mk (HF3.out.trans (Fr.of hb5))
      have HP5 := Aside.mk (HP3.out.below hb5)
      have HB5 : Aside (w5.heap[gx]? = some (.cells #[.int .i64 f1, .int .i64 f2] 152 (0, 0))) := ⟨by rw [hb5.block _ (lt_of HB3.out)]; exact HB3.out⟩
      clear ho5 hb5
      go_wp2_with fail
      have hp3 := HP3.out.le
      obtain ⟨go, hgo⟩ : ∃ go, gk = go + 1 := ⟨gk - 1, by have := HM.out; have := HLN.out; omega⟩
      go_roundg go
      case measure => omega
      case rel => exact ⟨Tr.bin f1 t r, σ3, k, HO5, HP5, HF5, HB5, ⟨by have := HM.out; have := HLN.out; simp only [flat, List.length_cons, List.length_append]; omega⟩, ⟨by rw [HEQ.out, chain_first HA.out, Pr.bind, HY.out]⟩⟩
    | false =>
     have HG2 := Aside.mk (Goes.accept (nl := nl) (L := s.data.toList) c.data.toList σ1 false σ2 HP1.out.inL HA.out)
     obtain ⟨b2, σ4, ha2⟩ := accept_eq nl s.data.toList d.data.toList σ2
     have HA2 := Aside.mk ha2
     clear ha2
     go_wp2_with fail
     refine (accept_any w2 g B s nl σ2 HP2.out d).mono ?_
     rintro e w4 hg
     rw [HA2.out] at hg
     obtain ⟨hf, ⟨u, rfl, rfl⟩, hP4⟩ := hg
     have HF4 := Aside.mk (HF2.out.trans hf)
     have HP4 := Aside.mk hP4
     have HO4 := Aside.mk (HO2.out.frP hf)
     have HB4 : Aside (w4.heap[gx]? = some (.cells #[.int .i64 f1, .int .i64 f2] 152 (0, 0))) := ⟨hf.cell HB2.out (by decide)⟩
     have HQ2 := HP2
     clear hf hP4 HF2 HO2 HB2 HP2
     cases b2 with
     | true =>
      go_wp2_with fail
      have HPOS := Aside.mk (show σ1.pos + 1 ≤ σ4.pos ∧ σ4.pos ≤ s.data.toList.length from by have := accept_true HQ2.out.inL HA2.out; have := HG2.out; omega)
      have hu : ∃ ao l cap, u11 = Value.slice ao l cap := by obtain ⟨ao, cap, hv, -⟩ := HO4.out.rd.out; exact ⟨ao, _, cap, hv⟩
      refine region_listW (T := tabL s nl op σ4 g B gx w4.heap.size f2 1 u11 (.func (.func F) #[.pointer (some ⟨g, 0, none⟩)] #[])) 6
       [_, _, _, _, _, _, _, _] (by kernel_rfl) (by kernel_rfl) (by kernel_rfl) (by kernel_rfl) (by kernel_rfl) (by kernel_rfl) rfl ?_ ?_ ?_
      ·exact ⟨Fr.of ⟨rfl, rfl, rfl, Nat.le_refl _, fun _ _ => rfl⟩, fun _ => ⟨rfl, rfl, rfl, Nat.le_refl _, fun _ _ => rfl⟩⟩
      ·refine AllW.cons ?_ ?_
       ·intro b a wz hcl hd hz hb ho hg
        have e9 : a.tmps.getD 9 undef = .pointer (some ⟨gx, 0, none⟩) := ho 9 (by kernel_rfl)
        have f9 := Rg.gd e9
        exact ⟨wanted_none rfl, wp_valueW (v := .pointer (some ⟨gx, 1, none⟩)) (by simp [execOp, Act.eval, e9, f9, go_sem]) rfl rfl⟩
       refine AllW.cons ?_ ?_
       ·intro b a wz hcl hd hz hb ho hg
        have e30 : a.tmps.getD 30 undef = .pointer (some ⟨gx, 1, none⟩) := gotW_of hg (j := 0) rfl rfl rfl
        have f30 := Rg.gd e30
        have hr := Fr.cell hb.1 HB4.out (by decide)
        have q : wz.cell? ⟨gx, 1, none⟩ = some (.int .i64 f2) := by rw [cell_of_row _ _ 1 _ _ _ hr]; rfl
        exact ⟨wanted_none rfl, wp_valueW (v := .int .i64 f2) (by simp [execOp, Act.eval, e30, f30, q, go_sem]) rfl rfl⟩
       refine AllW.cons ?_ ?_
       ·intro b a wz hcl hd hz hb ho hg
        have e11 : a.tmps.getD 11 undef = u11 := ho 11 (by kernel_rfl)
        have f11 := Rg.gd e11
        exact ⟨wanted_none rfl, wp_valueW (v := u11) (by simp [execOp, Act.eval, e11, f11, go_sem]) rfl rfl⟩
       refine AllW.cons ?_ ?_
       ·intro b a wz hcl hd hz hb ho hg
        have e1 : a.tmps.getD 1 undef = .func (.func F) #[.pointer (some ⟨g, 0, none⟩)] #[] := ho 1 (by kernel_rfl)
        have f1 := Rg.gd e1
        exact ⟨wanted_none rfl, wp_valueW (v := .func (.func F) #[.pointer (some ⟨g, 0, none⟩)] #[]) (by simp [execOp, Act.eval, e1, f1, go_sem]) rfl rfl⟩
       refine AllW.cons ?_ ?_
       ·intro b a wz hcl hd hz hb ho hg
        have e33 : a.tmps.getD 33 undef = .func (.func F) #[.pointer (some ⟨g, 0, none⟩)] #[] := gotW_of hg (j := 3) rfl rfl rfl
        have hbw := hb.2 (hcl rfl)
        refine ⟨wanted_none rfl, wp_callsW (run_callb (show a.eval (.tmp 33) = _ from e33) HOP.out.enters) ((HOP.out.meets wz g B σ4 (HP4.out.below hbw) ((HTB.out.fr HF4.out).fr hb.1) (by have := HM.out.2.2.1; have := HPOS.out.1; omega)).mono ?_)⟩
        rintro e w' hgot
        cases hy : op σ4 with
        | ok r σ3 =>
         rw [hy] at hgot
         obtain ⟨hf, ⟨u, rfl, ho3⟩, hP3⟩ := hgot
         exact Or.inl ⟨u, rfl, hf, ⟨r, σ3, hy, OwnN.mono ho3 hb.1.size, hP3⟩⟩
        | err cc o =>
         rw [hy] at hgot
         obtain ⟨hf, rfl⟩ := hgot
         refine Or.inr ⟨_, rfl, ?_⟩
         have hres : (op.bind fun t => Od.chain nl s.data.toList op c.data.toList d.data.toList f1 f2 kk t) σ = .err cc o := by rw [HEQ.out, chain_second HA.out HA2.out, Pr.bind, hy]
         exact (⟨hd, (HF4.out.trans hb.1).trans hf, by rw [hres]⟩ : bodyPost Tryz.prog Tryz.f131 (fun e w' => GotT w g B s nl ((op.bind fun t => Od.chain nl s.data.toList op c.data.toList d.data.toList f1 f2 kk t) σ) e w') (Exit.panic (pan o cc)) a w')
       refine AllW.cons ?_ ?_
       ·intro b a wz hcl hd hz hb ho hg
        have e32 : a.tmps.getD 32 undef = u11 := gotW_of hg (j := 2) rfl rfl rfl
        obtain ⟨r, σ3, hy, ho3, hP3⟩ := (gotW_of hg (j := 4) rfl rfl rfl : OpAns s nl op σ4 g B w4.heap.size (a.tmps.getD 34 undef) wz)
        obtain ⟨v4, e34⟩ : ∃ v, a.tmps.getD 34 undef = v := ⟨_, rfl⟩
        rw [e34] at ho3
        obtain ⟨ao3, cap3, hv3, -⟩ := ho3.rd.out
        obtain ⟨ao, l, cap, hu11⟩ := hu
        obtain ⟨l3, hl3⟩ : ∃ l, (flat r).length = l := ⟨_, rfl⟩
        rw [hl3] at hv3
        have f32 := e32; rw [Array.getD_eq_getD_getElem?, hu11] at f32
        have f34 := e34; rw [Array.getD_eq_getD_getElem?, hv3] at f34
        rw [hu11] at e32
        rw [hv3] at e34
        refine ⟨wanted_none rfl, wp_newW (v := .slice (some ⟨wz.heap.size, 0, none⟩) 2 2) (w' := wz.alloc (.cells #[.slice ao l cap, .slice ao3 l3 cap3] 26)) (by simp [execOp, Act.eval, e32, e34, f32, f34, go_sem]) ((Below.refl wz.heap.size wz).alloc (Nat.le_refl _) _) ?_⟩
        exact ⟨wz.heap.size, v4, r, σ3, hy, rfl, by rw [hu11, hv3]; exact heap_alloc_last _ _, owns_below ho3 ((Below.refl _ _).alloc (Nat.le_refl _) _)⟩
       exact AllW.nil
      ·intro a wz hd hz hb ho hg
       obtain ⟨b, hb, -⟩ := hb
       have e30 : a.tmps.getD 30 undef = .pointer (some ⟨gx, 1, none⟩) := hg 0 (by decide) _ _ rfl rfl
       have e31 : a.tmps.getD 31 undef = .int .i64 f2 := hg 1 (by decide) _ _ rfl rfl
       have e32 : a.tmps.getD 32 undef = u11 := hg 2 (by decide) _ _ rfl rfl
       have e33 : a.tmps.getD 33 undef = .func (.func F) #[.pointer (some ⟨g, 0, none⟩)] #[] := hg 3 (by decide) _ _ rfl rfl
       obtain ⟨r, σ3, hy, -, hP3⟩ := (hg 4 (by decide) _ _ rfl rfl : OpAns s nl op σ4 g B w4.heap.size (a.tmps.getD 34 undef) wz)
       obtain ⟨gn, v4, r', σ3', hy', e35, hrow, ho4⟩ := (hg 5 (by decide) _ _ rfl rfl : OpRow op σ4 w4.heap.size u11 (a.tmps.getD 35 undef) wz)
       obtain ⟨v23, e34⟩ : ∃ v, a.tmps.getD 34 undef = v := ⟨_, rfl⟩
       rw [hy] at hy'
       injection hy' with hr1 hr2
       subst hr1 hr2
       have hA := ho.frame hz
       simp only [List.take_succ_cons, List.take_zero, List.filterMap_cons, List.filterMap_nil, List.foldl_cons, List.foldl_nil, e30, e31, e32, e33, e34, e35, List.setIfInBounds_toArray, List.set_cons_zero, List.set_cons_succ] at hA
       have hgr := HOP.out.gr σ4 r σ3 HP4.out.inL hy
       have hgo := HOP.out.goes σ4 r σ3 HP4.out.inL hy
       have HLN : Aside ((flat t).length ≤ 8000 ∧ (flat r).length ≤ 8000 ∧ 1 + (flat t).length + (flat r).length ≤ σ3.pos ∧ σ1.pos + 1 ≤ σ3.pos) := ⟨by
        have h1 := hP3.len; have h2 : s.data.toList.length = s.size := rfl; have h3 := HM.out.2.2.2; have h4 := HPOS.out; omega⟩
       have HOD := Aside.mk (opd_two hrow (HO4.out.frP hb).rd ho4.rd (flat_ne t) (flat_ne r) (by have := HLN.out; omega))
       have HP3 := Aside.mk hP3
       have HF3 := Aside.mk (HF4.out.trans hb)
       have HB3 : Aside (wz.heap[gx]? = some (.cells #[.int .i64 f1, .int .i64 f2] 152 (0, 0))) := ⟨hb.cell HB4.out (by decide)⟩
       have HY := Aside.mk hy
       obtain ⟨tm, df⟩ := a
       simp only at hd hA
       subst hd
       subst hA
       simp only [List.drop_succ_cons, List.drop_zero]
       clear hz ho hg hb e30 e31 e32 e33 e34 e35 hy hP3 hrow ho4 hgr hgo
       go_wp2_with fail
       refine (apply_any wz f2 gn [u11, v4] [flat t, flat r] 2 rfl (by omega) HOD.out (by simp [flat_ne]) (by have := HLN.out; simp; omega) _ rfl).mono ?_
       rintro e w5 ⟨v5, rfl, ho5, hb5⟩
       have HO5 : Aside (OwnN w.heap.size w5 v5 (flat (Tr.bin f2 t r))) := ⟨by
        have := OwnN.mono ho5 (B := w.heap.size) HF3.out.size
        simpa [flat] using this⟩
       have HF5 := Aside.mk (HF3.out.trans (Fr.of hb5))
       have HP5 := Aside.mk (HP3.out.below hb5)
       have HB5 : Aside (w5.heap[gx]? = some (.cells #[.int .i64 f1, .int .i64 f2] 152 (0, 0))) := ⟨by rw [hb5.block _ (lt_of HB3.out)]; exact HB3.out⟩
       clear ho5 hb5
       go_wp2_with fail
       have hp3 := HP3.out.le
       obtain ⟨go, hgo⟩ : ∃ go, gk = go + 1 := ⟨gk - 1, by have := HM.out; have := HLN.out; omega⟩
       go_roundg go
       case measure => omega
       case rel => exact ⟨Tr.bin f2 t r, σ3, k, HO5, HP5, HF5, HB5, ⟨by have := HM.out; have := HLN.out; simp only [flat, List.length_cons, List.length_append]; omega⟩, ⟨by rw [HEQ.out, chain_second HA.out HA2.out, Pr.bind, HY.out]⟩⟩
     | false =>
      go_wp2_with fail
      go_ret
      rw [HEQ.out, chain_last HA.out HA2.out]
      exact ⟨HF4.out, ⟨_, rfl, HO4.out⟩, HP4.out⟩
end Go.Proofs.YthcidkidpiaomaaGreatDoor.Od
end
section
set_option linter.unusedVariables false
set_option linter.unusedSimpArgs false
namespace Go.Proofs.YthcidkidpiaomaaGreatDoor.Od
open Go.RowKit Rg
theorem enters_factor : ∀ args w, (callFunc 154 args).run Tryz.prog w = .ok (.enter 154 args) w := fun args w => by kernel_rfl
theorem enters_product : ∀ args w, (callFunc 132 args).run Tryz.prog w = .ok (.enter 132 args) w := fun args w => by kernel_rfl
set_option maxRecDepth 100000 in
set_option maxHeartbeats 8000000 in
theorem product_any (s : ByteArray) (nl : Bool) (op : Pr Tr) (n kk : Nat) (hk : s.size < kk) (hop : Opnd 154 s nl op n) :
    Meets 132 s nl (op.bind fun t => Od.chain nl s.data.toList op [42] [47] 9 10 kk t) n := by
  intro w g B σ h hT hn
  have hmf : ∀ (fn : Fn) (first cap : Array Value) (w : World), (Instr.makeFunc fn first cap).run Tryz.prog w = .ok (.func fn first cap) w := fun _ _ _ _ => rfl
  have HL := Aside.mk (left_any 154 s nl op n hop ⟨#[42]⟩ ⟨#[47]⟩ 9 10 w g B σ h hT hn kk (by omega))
  clear h hT hn hop
  go_enter Tryz.func132, Tryz.ntmps132
  go_wp2_with fail
  refine HL.out.mono ?_
  rintro e w1 hg
  cases hx : (op.bind fun t => Od.chain nl s.data.toList op [42] [47] 9 10 kk t) σ with
  | err c o =>
    have HX := Aside.mk hx
    obtain ⟨hf, hr⟩ := hg
    rw [hx] at hr
    subst hr
    have HF := Aside.mk hf
    clear hf hx
    go_wp2_with fail
    rw [HX.out]
    exact ⟨rfl, HF.out, rfl⟩
  | ok t σ1 =>
    have HX := Aside.mk hx
    obtain ⟨hf, hr⟩ := hg
    rw [hx] at hr
    obtain ⟨⟨u, rfl, ho⟩, hP⟩ := hr
    have HF := Aside.mk hf
    have HO := Aside.mk ho
    have HP := Aside.mk hP
    clear hf hx ho hP
    go_wp2_with fail
    go_ret
    rw [HX.out]
    exact ⟨HF.out, ⟨_, rfl, HO.out⟩, HP.out⟩
set_option maxRecDepth 100000 in
set_option maxHeartbeats 8000000 in
theorem sum_over (s : ByteArray) (nl : Bool) (op : Pr Tr) (n kk : Nat) (hk : s.size < kk) (hop : Opnd 132 s nl op n) :
    Meets 93 s nl (op.bind fun t => Od.chain nl s.data.toList op [43] [45] 7 8 kk t) n := by
  intro w g B σ h hT hn
  have hmf : ∀ (fn : Fn) (first cap : Array Value) (w : World), (Instr.makeFunc fn first cap).run Tryz.prog w = .ok (.func fn first cap) w := fun _ _ _ _ => rfl
  have HL := Aside.mk (left_any 132 s nl op n hop ⟨#[43]⟩ ⟨#[45]⟩ 7 8 w g B σ h hT hn kk (by omega))
  clear h hT hn hop
  go_enter Tryz.func93, Tryz.ntmps93
  go_wp2_with fail
  refine HL.out.mono ?_
  rintro e w1 hg
  cases hx : (op.bind fun t => Od.chain nl s.data.toList op [43] [45] 7 8 kk t) σ with
  | err c o =>
    have HX := Aside.mk hx
    obtain ⟨hf, hr⟩ := hg
    rw [hx] at hr
    subst hr
    have HF := Aside.mk hf
    clear hf hx
    go_wp2_with fail
    rw [HX.out]
    exact ⟨rfl, HF.out, rfl⟩
  | ok t σ1 =>
    have HX := Aside.mk hx
    obtain ⟨hf, hr⟩ := hg
    rw [hx] at hr
    obtain ⟨⟨u, rfl, ho⟩, hP⟩ := hr
    have HF := Aside.mk hf
    have HO := Aside.mk ho
    have HP := Aside.mk hP
    clear hf hx ho hP
    go_wp2_with fail
    go_ret
    rw [HX.out]
    exact ⟨HF.out, ⟨_, rfl, HO.out⟩, HP.out⟩
end Go.Proofs.YthcidkidpiaomaaGreatDoor.Od
end
section
set_option linter.unusedVariables false
set_option linter.unusedSimpArgs false
namespace Go.Proofs.YthcidkidpiaomaaGreatDoor.Od
open Go.RowKit Rg
theorem entire_any (w : World) : Calls Tryz.prog 74 #[] w fun e w' => e = .returned (.agg #[.int .i64 (-2147483648), .int .i64 2147483648]) ∧ Below w.heap.size w w' := by
  go_enter Tryz.func74, Tryz.ntmps74
  go_wp2_with fail
  refine bodyPost_ret (results_cell_row rfl _ _ w.heap.size 29 #[.int .i64 (-2147483648), .int .i64 2147483648] (0, 0) _ rfl (heap_alloc_last w _) Tryz.underlying29 rfl (by kernel_rfl)) rfl ⟨rfl, ?_⟩
  exact (Below.refl _ _).alloc (Nat.le_refl _) _
def isEnt (lo hi : Int) : Bool := lo == -maxV && hi == maxV
theorem eq_iv (a b c d : Int) (w : World) : (binOp .eql 29 (.agg #[.int .i64 a, .int .i64 b]) (.agg #[.int .i64 c, .int .i64 d])).run Tryz.prog w = .ok (.bool (a == c && b == d)) w := by
  by_cases h1 : a = c <;> by_cases h2 : b = d <;> simp [go_sem, h1, h2]
set_option maxRecDepth 100000 in
set_option maxHeartbeats 8000000 in
theorem isEntire_any (lo hi : Int) (w : World) : Calls Tryz.prog 117 #[.agg #[.int .i64 lo, .int .i64 hi]] w fun e w' => e = .returned (.bool (isEnt lo hi)) ∧ Below w.heap.size w w' := by
  go_enter Tryz.func117, Tryz.ntmps117
  go_wp2_with fail
  have c0 : (w.alloc (Obj.cells #[.int .i64 lo, .int .i64 hi] 29)).cell? ⟨w.heap.size, 0, none⟩ = some (.int .i64 lo) := by rw [cell_of_row _ _ 0 _ _ _ (heap_alloc_last w _)]; rfl
  have c1 : (w.alloc (Obj.cells #[.int .i64 lo, .int .i64 hi] 29)).cell? ⟨w.heap.size, 1, none⟩ = some (.int .i64 hi) := by rw [cell_of_row _ _ 1 _ _ _ (heap_alloc_last w _)]; rfl
  have hb0 : Below w.heap.size w (w.alloc (Obj.cells #[.int .i64 lo, .int .i64 hi] 29)) := (Below.refl _ _).alloc (Nat.le_refl _) _
  have hl : w.heap.size < (w.alloc (Obj.cells #[.int .i64 lo, .int .i64 hi] 29)).heap.size := heap_lt (heap_alloc_last w _)
  have HB := Aside.mk hb0
  clear hb0
  generalize w.alloc (Obj.cells #[.int .i64 lo, .int .i64 hi] 29) = W at c0 c1 HB hl ⊢
  obtain ⟨g, hg⟩ : ∃ g, w.heap.size = g := ⟨_, rfl⟩
  rw [hg] at c0 c1 hl
  simp only [hg]
  have heq := eq_iv
  go_region_with (first | (go_at_call 74; refine (entire_any _).mono ?_; rintro e w3 ⟨rfl, hb3⟩; have k0 : w3.cell? ⟨g, 0, none⟩ = some (.int .i64 lo) := (hb3.cell (p := ⟨g, 0, none⟩) hl).trans c0; have k1 : w3.cell? ⟨g, 1, none⟩ = some (.int .i64 hi) := (hb3.cell (p := ⟨g, 1, none⟩) hl).trans c1))
  all_goals
    go_wp2_with fail
    go_ret
    exact ⟨rfl, HB.out.drew.trans (hb3.mono HB.out.size)⟩
def vld (x : Int) : Bool := decide (-2147483648 < x) && decide (x < 2147483648)
theorem okIv_eq (lo hi : Int) : okIv lo hi = (isEnt lo hi || (vld lo && (vld hi && decide (lo ≤ hi)))) := by
  unfold okIv isEnt vld maxV
  by_cases h1 : lo = -2147483648 <;> by_cases h2 : hi = 2147483648 <;> simp [h1, h2, Bool.and_assoc]
theorem fxValid_any (x : Int) (w : World) : Calls Tryz.prog 141 #[.int .i64 x] w fun e w' => e = .returned (.bool (vld x)) ∧ Below w.heap.size w w' := by
  refine (Fx.Valid_any x w).mono ?_
  rintro e w' ⟨rfl, h⟩
  exact ⟨rfl, h.below⟩
set_option maxRecDepth 100000 in
set_option maxHeartbeats 8000000 in
theorem ivValid_any (lo hi : Int) (w : World) : Calls Tryz.prog 104 #[.agg #[.int .i64 lo, .int .i64 hi]] w fun e w' => e = .returned (.bool (okIv lo hi)) ∧ Below w.heap.size w w' := by
  have HV := Aside.mk (okIv_eq lo hi)
  go_enter Tryz.func104, Tryz.ntmps104
  go_wp2_with fail
  have hrow := heap_alloc_last w (Obj.cells #[.int .i64 lo, .int .i64 hi] 29)
  have hb0 : Below w.heap.size w (w.alloc (Obj.cells #[.int .i64 lo, .int .i64 hi] 29)) := (Below.refl _ _).alloc (Nat.le_refl _) _
  generalize w.alloc (Obj.cells #[.int .i64 lo, .int .i64 hi] 29) = W at hrow hb0 ⊢
  obtain ⟨g, hg⟩ : ∃ g, w.heap.size = g := ⟨_, rfl⟩
  rw [hg] at hrow hb0
  simp only [hg]
  have HR := Aside.mk hrow
  have HB := Aside.mk hb0
  clear hrow hb0
  refine (isEntire_any lo hi W).mono ?_
  rintro e w1 ⟨rfl, hb1⟩
  have HB1 := Aside.mk (HB.out.trans (hb1.mono (Nat.le_of_lt (heap_lt HR.out))))
  have HR1 := Aside.mk ((hb1.block _ (heap_lt HR.out)).trans HR.out)
  clear hb1 HR HB
  obtain ⟨b1, hb1⟩ : ∃ b, isEnt lo hi = b := ⟨_, rfl⟩
  rw [hb1] at HV ⊢
  clear hb1
  have c0 : w1.cell? ⟨g, 0, none⟩ = some (.int .i64 lo) := by rw [cell_of_row _ _ 0 _ _ _ HR1.out]; rfl
  cases b1 with
  | true =>
    go_wp2_with fail
    go_ret
    rw [HV.out]
    exact ⟨rfl, hg ▸ HB1.out⟩
  | false =>
    go_wp2_with fail
    refine (fxValid_any lo _).mono ?_
    rintro e w2 ⟨rfl, hb2⟩
    have HB2 := Aside.mk (HB1.out.trans (hb2.mono (Nat.le_of_lt (heap_lt HR1.out))))
    have HR2 := Aside.mk ((hb2.block _ (heap_lt HR1.out)).trans HR1.out)
    clear hb2 HR1 HB1 c0
    obtain ⟨b2, hb2⟩ : ∃ b, vld lo = b := ⟨_, rfl⟩
    rw [hb2] at HV ⊢
    clear hb2
    have c1 : w2.cell? ⟨g, 1, none⟩ = some (.int .i64 hi) := by rw [cell_of_row _ _ 1 _ _ _ HR2.out]; rfl
    cases b2 with
    | false =>
      go_wp2_with fail
      go_ret
      rw [HV.out]
      exact ⟨rfl, hg ▸ HB2.out⟩
    | true =>
      go_wp2_with fail
      refine (fxValid_any hi _).mono ?_
      rintro e w3 ⟨rfl, hb3⟩
      have HB3 := Aside.mk (HB2.out.trans (hb3.mono (Nat.le_of_lt (heap_lt HR2.out))))
      have HR3 := Aside.mk ((hb3.block _ (heap_lt HR2.out)).trans HR2.out)
      clear hb3 HR2 HB2 c1
      obtain ⟨b3, hb3⟩ : ∃ b, vld hi = b := ⟨_, rfl⟩
      rw [hb3] at HV ⊢
      clear hb3
      have c0 : w3.cell? ⟨g, 0, none⟩ = some (.int .i64 lo) := by rw [cell_of_row _ _ 0 _ _ _ HR3.out]; rfl
      have c1 : w3.cell? ⟨g, 1, none⟩ = some (.int .i64 hi) := by rw [cell_of_row _ _ 1 _ _ _ HR3.out]; rfl
      cases b3 with
      | false =>
        go_wp2_with fail
        go_ret
        rw [HV.out]
        exact ⟨rfl, hg ▸ HB3.out⟩
      | true =>
        go_wp2_with fail
        go_ret
        rw [HV.out]
        exact ⟨rfl, hg ▸ HB3.out⟩
end Go.Proofs.YthcidkidpiaomaaGreatDoor.Od
end
