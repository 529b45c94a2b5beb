/- OeQ OhD RegX OiD OiC -/
import Derived.Test.YthcidkidpiaomaaGreatDoorKf14
import Derived.Test.YthcidkidpiaomaaGreatDoorKf11
import Derived.Test.YthcidkidpiaomaaGreatDoorKf01
import Derived.Test.YthcidkidpiaomaaGreatDoorKf20
import Derived.Test.YthcidkidpiaomaaGreatDoorKf19
import Derived.Test.YthcidkidpiaomaaGreatDoorKf05
import Derived.Test.YthcidkidpiaomaaGreatDoorKf06
import Derived.Test.YthcidkidpiaomaaGreatDoorKf10
import Derived.Test.YthcidkidpiaomaaGreatDoorKf25
import Derived.Test.YthcidkidpiaomaaGreatDoorKf18
section
set_option linter.unusedVariables false
namespace Go.Proofs.YthcidkidpiaomaaGreatDoor.Od
open Fx (dn up dlo dhi isq rup)
theorem rup_mono' {m n : Int} (h0 : 0 ≤ m) (h : m ≤ n) : rup m ≤ rup n := by
  have a := isq_mono' h0 h
  have b := Fx.isq_spec h0
  have c := Fx.isq_spec (n := n) (by omega)
  unfold rup
  split
  · split
    · omega
    · rename_i h1 h2
      have e : isq n * isq n = n := by omega
      rcases Int.lt_or_le (isq m) (isq n) with g | g
      · omega
      · have e2 : isq m = isq n := by omega
        rw [e2] at h1; omega
  · split <;> omega
theorem or_true' {a b : Bool} (h : (a || b) = true) : a = true ∨ b = true := by simpa using h
theorem newI_mono {l h l' h' : Int} (h1 : l' ≤ l) (h2 : l ≤ h) (h3 : h ≤ h') : SubI (newI l h) (newI l' h') := by
  by_cases hr : -maxV < l' ∧ l' < maxV ∧ -maxV < h' ∧ h' < maxV
  · unfold newI
    rw [if_pos hr, if_pos (by omega)]
    exact ⟨h1, h3⟩
  · have : newI l' h' = ent := by unfold newI; rw [if_neg hr]
    rw [this]; exact SubI.ent (newI_ok h2)
theorem negI_mono {a b : Iv} (h : SubI a b) : SubI (negI a) (negI b) := by
  obtain ⟨h1, h2⟩ := h
  exact ⟨by unfold negI; simp only; omega, by unfold negI; simp only; omega⟩
theorem addI_mono {a b c d : Iv} (ha : okI a) (hb : okI b) (hc : okI c) (hd : okI d) (h : SubI a c) (k : SubI b d) : SubI (addI a b) (addI c d) := by
  by_cases he : (isE c || isE d) = true
  · have : addI c d = ent := by unfold addI; rw [if_pos he]
    rw [this]; exact SubI.ent (addI_ok ha hb)
  · have he2 : ¬ (isE a || isE b) = true := by
      intro h'
      rcases or_true' h' with h' | h'
      · exact he (by rw [h.isE hc h']; rfl)
      · exact he (by rw [k.isE hd h', Bool.or_true])
    unfold addI
    rw [if_neg he, if_neg he2]
    obtain ⟨h1, h2⟩ := h
    obtain ⟨k1, k2⟩ := k
    have := ha.bd; have := hb.bd
    exact newI_mono (by omega) (by omega) (by omega)
theorem lin {c u v x : Int} (h1 : u ≤ x) (h2 : x ≤ v) : min (u * c) (v * c) ≤ x * c ∧ x * c ≤ max (u * c) (v * c) := by
  rcases Int.le_total 0 c with h | h
  · have a := Int.mul_le_mul_of_nonneg_right h1 h
    have b := Int.mul_le_mul_of_nonneg_right h2 h
    omega
  · have a := Int.mul_le_mul_of_nonpos_right h1 h
    have b := Int.mul_le_mul_of_nonpos_right h2 h
    omega
theorem prod_in {a1 a2 b1 b2 x y : Int} (hx : a1 ≤ x) (hx' : x ≤ a2) (hy : b1 ≤ y) (hy' : y ≤ b2) : mn4 (a1 * b1) (a1 * b2) (a2 * b1) (a2 * b2) ≤ x * y ∧ x * y ≤ mx4 (a1 * b1) (a1 * b2) (a2 * b1) (a2 * b2) := by
  have h0 := lin (c := y) hx hx'
  have h1 := lin (c := a1) hy hy'
  have h2 := lin (c := a2) hy hy'
  rw [Int.mul_comm b1 a1, Int.mul_comm b2 a1, Int.mul_comm y a1] at h1
  rw [Int.mul_comm b1 a2, Int.mul_comm b2 a2, Int.mul_comm y a2] at h2
  unfold mn4 mx4
  omega
theorem mulI_mono {a b c d : Iv} (ha : okI a) (hb : okI b) (hc : okI c) (hd : okI d) (h : SubI a c) (k : SubI b d) : SubI (mulI a b) (mulI c d) := by
  by_cases he : (isE c || isE d) = true
  · have : mulI c d = ent := by unfold mulI; rw [if_pos he]
    rw [this]; exact SubI.ent mulI_ok
  · have he2 : ¬ (isE a || isE b) = true := by
      intro h'
      rcases or_true' h' with h' | h'
      · exact he (by rw [h.isE hc h']; rfl)
      · exact he (by rw [k.isE hd h', Bool.or_true])
    unfold mulI
    rw [if_neg he, if_neg he2]
    obtain ⟨h1, h2⟩ := h
    obtain ⟨k1, k2⟩ := k
    have ba := ha.bd.2.1
    have bb := hb.bd.2.1
    have p1 := prod_in (x := a.1) (y := b.1) h1 (Int.le_trans ba h2) k1 (Int.le_trans bb k2)
    have p2 := prod_in (x := a.1) (y := b.2) h1 (Int.le_trans ba h2) (Int.le_trans k1 bb) k2
    have p3 := prod_in (x := a.2) (y := b.1) (Int.le_trans h1 ba) h2 k1 (Int.le_trans bb k2)
    have p4 := prod_in (x := a.2) (y := b.2) (Int.le_trans h1 ba) h2 (Int.le_trans k1 bb) k2
    refine newI_mono (dn_mono' (by decide) ?_) (Int.le_trans (dn_mono' (by decide) (mn4_mx4 _ _ _ _)) dn_up) (up_mono' (by decide) ?_)
    · unfold mn4 at *; omega
    · unfold mx4 at *; omega
theorem sqLo_le {a : Iv} {x : Int} (h1 : a.1 ≤ x) (h2 : x ≤ a.2) : sqLo a ≤ x * x := by
  unfold sqLo
  split
  · exact sq_nonneg x
  · rename_i hn
    rcases Int.lt_or_le 0 a.1 with h | h
    · have := Fx.sq_le (a := a.1) (b := x) (by omega) h1
      omega
    · have := Fx.sq_le (a := -a.2) (b := -x) (by omega) (by omega)
      rw [Int.neg_mul_neg, Int.neg_mul_neg] at this
      omega
theorem le_sqHi {a : Iv} {x : Int} (h1 : a.1 ≤ x) (h2 : x ≤ a.2) : x * x ≤ sqHi a := by
  unfold sqHi
  rcases Int.le_total 0 x with h | h
  · have := Fx.sq_le (a := x) (b := a.2) h h2
    omega
  · have := Fx.sq_le (a := -x) (b := -a.1) (by omega) (by omega)
    rw [Int.neg_mul_neg, Int.neg_mul_neg] at this
    omega
theorem sqrI_mono {a c : Iv} (ha : okI a) (hc : okI c) (h : SubI a c) : SubI (sqrI a) (sqrI c) := by
  by_cases he : isE c = true
  · have : sqrI c = ent := by unfold sqrI; rw [if_pos he]
    rw [this]; exact SubI.ent sqrI_ok
  · have he2 : ¬ isE a = true := fun h' => he (h.isE hc h')
    unfold sqrI
    rw [if_neg he, if_neg he2]
    obtain ⟨h1, h2⟩ := h
    have ba := ha.bd.2.1
    have l1 := sqLo_le (a := c) (x := a.1) h1 (Int.le_trans ba h2)
    have l2 := sqLo_le (a := c) (x := a.2) (Int.le_trans h1 ba) h2
    have u1 := le_sqHi (a := c) (x := a.1) h1 (Int.le_trans ba h2)
    have u2 := le_sqHi (a := c) (x := a.2) (Int.le_trans h1 ba) h2
    refine newI_mono (dn_mono' (by decide) ?_) (Int.le_trans (dn_mono' (by decide) (sqLo_hi a)) dn_up) (up_mono' (by decide) ?_)
    · generalize hs : sqLo c = s at l1 l2
      unfold sqLo
      split
      · unfold sqLo at hs
        split at hs
        · omega
        · omega
      · omega
    · generalize sqHi c = s at u1 u2 ⊢
      unfold sqHi; omega
theorem dn_den {X u v v' : Int} (hu : 0 < u) (h1 : u ≤ v) (h2 : v ≤ v') : min (dn X u) (dn X v') ≤ dn X v ∧ dn X v ≤ max (dn X u) (dn X v') := by
  have key : ∀ {p q : Int}, 0 < p → p ≤ q → (0 ≤ X → X / q ≤ X / p) ∧ (X ≤ 0 → X / p ≤ X / q) := by
    intro p q hp hpq
    constructor
    · intro hX
      rw [Int.le_ediv_iff_mul_le hp]
      have h0 : 0 ≤ X / q := Int.ediv_nonneg hX (by omega)
      have := Int.mul_le_mul_of_nonneg_left hpq h0
      have := Int.ediv_mul_le X (show q ≠ 0 by omega)
      omega
    · intro hX
      rw [Int.le_ediv_iff_mul_le (by omega)]
      have h0 : X / p ≤ 0 := by
        have := Int.ediv_le_ediv hp hX
        simpa using this
      have := Int.mul_le_mul_of_nonpos_left h0 hpq
      have := Int.ediv_mul_le X (show p ≠ 0 by omega)
      omega
  unfold dn
  have k1 := key hu h1
  have k2 := key (show 0 < v by omega) h2
  rcases Int.le_total 0 X with h | h
  · have := k1.1 h; have := k2.1 h; omega
  · have := k1.2 h; have := k2.2 h; omega
theorem up_den {X u v v' : Int} (hu : 0 < u) (h1 : u ≤ v) (h2 : v ≤ v') : min (up X u) (up X v') ≤ up X v ∧ up X v ≤ max (up X u) (up X v') := by
  rw [up_neg' hu, up_neg' (show 0 < v by omega), up_neg' (show 0 < v' by omega)]
  have := dn_den (X := -X) hu h1 h2
  omega
theorem quo_den {X b1 b2 y : Int} (hs : OneSign b1 b2) (h1 : b1 ≤ y) (h2 : y ≤ b2) : min (dlo X b1) (dlo X b2) ≤ dlo X y ∧ dhi X y ≤ max (dhi X b1) (dhi X b2) := by
  unfold dlo dhi
  rcases hs with hs | hs
  · rw [if_neg (by omega), if_neg (by omega), if_neg (by omega), if_neg (by omega), if_neg (by omega), if_neg (by omega)]
    exact ⟨(dn_den hs h1 h2).1, (up_den hs h1 h2).2⟩
  · rw [if_pos (by omega), if_pos (by omega), if_pos (by omega), if_pos (by omega), if_pos (by omega), if_pos (by omega)]
    have := (dn_den (X := -X) (u := -b2) (v := -y) (v' := -b1) (by omega) (by omega) (by omega)).1
    have := (up_den (X := -X) (u := -b2) (v := -y) (v' := -b1) (by omega) (by omega) (by omega)).2
    omega
theorem quo_num {X1 X2 X y : Int} (hy : y ≠ 0) (h1 : X1 ≤ X) (h2 : X ≤ X2) : min (dlo X1 y) (dlo X2 y) ≤ dlo X y ∧ dhi X y ≤ max (dhi X1 y) (dhi X2 y) := by
  unfold dlo dhi
  rcases Int.lt_or_le y 0 with h | h
  · rw [if_pos h, if_pos h, if_pos h, if_pos h, if_pos h, if_pos h]
    have := dn_mono' (X := -X2) (Y := -X) (u := -y) (by omega) (by omega)
    have := up_mono' (X := -X) (Y := -X1) (u := -y) (by omega) (by omega)
    omega
  · have hn : ¬ y < 0 := by omega
    rw [if_neg hn, if_neg hn, if_neg hn, if_neg hn, if_neg hn, if_neg hn]
    have := dn_mono' (X := X1) (Y := X) (u := y) (by omega) h1
    have := up_mono' (X := X) (Y := X2) (u := y) (by omega) h2
    omega
theorem quo_in {a1 a2 b1 b2 x y : Int} (hs : OneSign b1 b2) (hx : a1 ≤ x) (hx' : x ≤ a2) (hy : b1 ≤ y) (hy' : y ≤ b2) :
    mn4 (dlo (a1 * 65536) b1) (dlo (a1 * 65536) b2) (dlo (a2 * 65536) b1) (dlo (a2 * 65536) b2) ≤ dlo (x * 65536) y ∧
      dhi (x * 65536) y ≤ mx4 (dhi (a1 * 65536) b1) (dhi (a1 * 65536) b2) (dhi (a2 * 65536) b1) (dhi (a2 * 65536) b2) := by
  have h0 := quo_num (X1 := a1 * 65536) (X2 := a2 * 65536) (X := x * 65536) (y := y) (by rcases hs with hs | hs <;> omega) (by omega) (by omega)
  have h1 := quo_den (X := a1 * 65536) hs hy hy'
  have h2 := quo_den (X := a2 * 65536) hs hy hy'
  unfold mn4 mx4
  omega
theorem divI_mono {a b c d : Iv} (ha : okI a) (hb : okI b) (hc : okI c) (hd : okI d) (h : SubI a c) (k : SubI b d) : SubI (divI a b) (divI c d) := by
  by_cases he : (isE c || isE d || (decide (d.1 ≤ 0) && decide (0 ≤ d.2))) = true
  · have : divI c d = ent := by unfold divI; rw [if_pos he]
    rw [this]; exact SubI.ent divI_ok
  · have bb := hb.bd.2.1
    have he2 : ¬ (isE a || isE b || (decide (b.1 ≤ 0) && decide (0 ≤ b.2))) = true := by
      intro h'
      rcases or_true' h' with h' | h'
      · rcases or_true' h' with h' | h'
        · exact he (by rw [h.isE hc h']; rfl)
        · exact he (by rw [k.isE hd h', Bool.or_true]; rfl)
      · simp only [Bool.and_eq_true, decide_eq_true_eq] at h'
        obtain ⟨k1, k2⟩ := k
        exact he (by rw [Bool.or_eq_true]; exact Or.inr (by simp only [Bool.and_eq_true, decide_eq_true_eq]; omega))
    have hsd : OneSign d.1 d.2 := by
      rw [Bool.or_eq_true, Bool.and_eq_true, decide_eq_true_eq, decide_eq_true_eq] at he
      unfold OneSign
      omega
    unfold divI
    rw [if_neg he, if_neg he2]
    obtain ⟨h1, h2⟩ := h
    obtain ⟨k1, k2⟩ := k
    have ba := ha.bd.2.1
    have p1 := quo_in (x := a.1) (y := b.1) hsd h1 (Int.le_trans ba h2) k1 (Int.le_trans bb k2)
    have p2 := quo_in (x := a.1) (y := b.2) hsd h1 (Int.le_trans ba h2) (Int.le_trans k1 bb) k2
    have p3 := quo_in (x := a.2) (y := b.1) hsd (Int.le_trans h1 ba) h2 k1 (Int.le_trans bb k2)
    have p4 := quo_in (x := a.2) (y := b.2) hsd (Int.le_trans h1 ba) h2 (Int.le_trans k1 bb) k2
    have q := dlo_dhi (a.1 * 65536) b.1
    refine newI_mono ?_ ?_ ?_ <;> (unfold mn4 mx4 at *; omega)
theorem sqrtI_mono {a c : Iv} (ha : okI a) (h : SubI a c) : SubI (sqrtI a) (sqrtI c) := by
  by_cases hc : c.1 < 0
  · have : sqrtI c = ent := by unfold sqrtI; rw [if_pos hc]
    rw [this]; exact SubI.ent (sqrtI_ok ha)
  · obtain ⟨h1, h2⟩ := h
    have := ha.bd.2.1
    unfold sqrtI
    rw [if_neg hc, if_neg (by omega)]
    exact newI_mono (isq_mono' (by omega) (by omega)) (Int.le_trans (isq_mono' (by omega) (by omega)) (isq_rup _)) (rup_mono' (by omega) (by omega))
theorem unI_mono {op : Int} {a c : Iv} (ha : okI a) (hc : okI c) (h : SubI a c) : SubI (unI op a) (unI op c) := by
  unfold unI
  by_cases h4 : op = 4
  · rw [if_pos h4, if_pos h4]; exact negI_mono h
  · rw [if_neg h4, if_neg h4]
    by_cases h5 : op = 5
    · rw [if_pos h5, if_pos h5]; exact sqrI_mono ha hc h
    · rw [if_neg h5, if_neg h5]; exact sqrtI_mono ha h
theorem binI_mono {op : Int} {a b c d : Iv} (ha : okI a) (hb : okI b) (hc : okI c) (hd : okI d) (h : SubI a c) (k : SubI b d) : SubI (binI op a b) (binI op c d) := by
  unfold binI
  by_cases h7 : op = 7
  · rw [if_pos h7, if_pos h7]; exact addI_mono ha hb hc hd h k
  · rw [if_neg h7, if_neg h7]
    by_cases h8 : op = 8
    · rw [if_pos h8, if_pos h8]; exact addI_mono ha (negI_ok hb) hc (negI_ok hd) h (negI_mono k)
    · rw [if_neg h8, if_neg h8]
      by_cases h9 : op = 9
      · rw [if_pos h9, if_pos h9]; exact mulI_mono ha hb hc hd h k
      · rw [if_neg h9, if_neg h9]; exact divI_mono ha hb hc hd h k
def SubB (x y : List Iv) : Prop := x.length = y.length ∧ ∀ (i : Nat) (a b : Iv), x[i]? = some a → y[i]? = some b → SubI a b
theorem ev_mono {vars : List (List UInt8)} {x y : List Iv} {t s : Iv} (hx : ∀ a ∈ x, okI a) (hy : ∀ a ∈ y, okI a) (ht : okI t) (hs : okI s) (h : SubB x y) (k : SubI t s) : ∀ e, okT vars e → SubI (ev x t e) (ev y s e)
  | .num lo hi, _ => SubI.refl _
  | .var n, _ => by
    unfold ev
    rw [List.getD_eq_getElem?_getD, List.getD_eq_getElem?_getD]
    cases hn : x[n]? with
    | none =>
      have : y[n]? = none := by rw [List.getElem?_eq_none_iff] at hn ⊢; rw [← h.1]; exact hn
      rw [this]; exact SubI.refl _
    | some a =>
      have hlt : n < y.length := by rw [← h.1]; exact (List.getElem?_eq_some_iff.1 hn).1
      rw [List.getElem?_eq_getElem hlt]
      exact h.2 n a _ hn (List.getElem?_eq_getElem hlt)
  | .time, _ => k
  | .un op a, he => unI_mono (ev_ok hx ht a he.2) (ev_ok hy hs a he.2) (ev_mono hx hy ht hs h k a he.2)
  | .bin op a b, he => binI_mono (ev_ok hx ht a he.2.1) (ev_ok hx ht b he.2.2) (ev_ok hy hs a he.2.1) (ev_ok hy hs b he.2.2) (ev_mono hx hy ht hs h k a he.2.1) (ev_mono hx hy ht hs h k b he.2.2)
end Go.Proofs.YthcidkidpiaomaaGreatDoor.Od
end
section
set_option linter.unusedVariables false
set_option linter.unusedSimpArgs false
namespace Go.Proofs.YthcidkidpiaomaaGreatDoor.Od
open Go.RowKit Rg
set_option maxRecDepth 100000 in
set_option maxHeartbeats 8000000 in
theorem rSmall_ex (l h : Int) : ∃ a, okI a ∧ ∀ w, Calls Tryz.prog 67 #[.agg #[.int .i64 l, .int .i64 h]] w fun e w' => e = .returned (ivV a) ∧ Below w.heap.size w w' := by
  obtain ⟨A, hA⟩ : ∃ A, l.tmod 16777216 = A := ⟨_, rfl⟩
  obtain ⟨M, hM⟩ : ∃ M, h.tmod 16777216 = M := ⟨_, rfl⟩
  have hA1 : -16777216 < A ∧ A < 16777216 := by rw [← hA]; exact tmod_bd l 16777216 (by omega)
  have hM1 : -16777216 < M ∧ M < 16777216 := by rw [← hM]; exact tmod_bd h 16777216 (by omega)
  refine ⟨(min A M, max A M), by
    show okIv _ _ = true
    unfold okIv maxV
    simp only [Bool.or_eq_true, Bool.and_eq_true, beq_iff_eq, decide_eq_true_eq]
    omega, fun w => ?_⟩
  have HA := Aside.mk (And.intro hA hM)
  clear hA hM hA1 hM1
  go_enter Tryz.func67, Tryz.ntmps67
  go_wp2_with fail
  have hr0 : ((w.alloc (.cells #[.int .i64 l, .int .i64 h] 29)).alloc (.cells #[.int .i64 0, .int .i64 0] 29)).heap[w.heap.size]? = some (.cells #[.int .i64 l, .int .i64 h] 29 (0, 0)) := by rw [Below.heap_alloc _ _ _ (by simp)]; exact heap_alloc_last _ _
  have hr1 : ((w.alloc (.cells #[.int .i64 l, .int .i64 h] 29)).alloc (.cells #[.int .i64 0, .int .i64 0] 29)).heap[w.heap.size + 1]? = some (.cells #[.int .i64 0, .int .i64 0] 29 (0, 0)) := by
    have := heap_alloc_last (w.alloc (.cells #[.int .i64 l, .int .i64 h] 29)) (.cells #[.int .i64 0, .int .i64 0] 29)
    simpa using this
  have hbl : Below w.heap.size w ((w.alloc (.cells #[.int .i64 l, .int .i64 h] 29)).alloc (.cells #[.int .i64 0, .int .i64 0] 29)) := ((Below.refl _ _).alloc (Nat.le_refl _) _).alloc (by simp) _
  generalize (w.alloc (.cells #[.int .i64 l, .int .i64 h] 29)).alloc (.cells #[.int .i64 0, .int .i64 0] 29) = W at hr0 hr1 hbl ⊢
  have c0 : W.cell? ⟨w.heap.size, 0, none⟩ = some (.int .i64 l) := by rw [cell_of_row _ _ 0 _ _ _ hr0]; rfl
  have c1 : W.cell? ⟨w.heap.size, 1, none⟩ = some (.int .i64 h) := by rw [cell_of_row _ _ 1 _ _ _ hr0]; rfl
  obtain ⟨g, hg⟩ : ∃ g, w.heap.size = g := ⟨_, rfl⟩
  have HG := Aside.mk hg
  have HB := Aside.mk hbl
  rw [hg] at c0 c1 hr1
  have HR1 := Aside.mk hr1
  simp only [hg]
  clear hg hr0 hr1 hbl
  go_region
  simp only [HA.out.1, HA.out.2]
  go_wp2_with (first | (refine wpList_store_iv rfl (.tmp 2) (.tmp 17) rfl (g + 1) _ _ rfl rfl _ _ HR1.out ?_; intro w3 hr3 hb3 hk3 hs3))
  exact ret_iv rfl rfl hr3 ⟨rfl, HB.out.drew.trans (hb3.mono (by have := HG.out; omega))⟩
set_option maxRecDepth 100000 in
set_option maxHeartbeats 8000000 in
theorem rMadeI_ex (l h : Int) : ∃ a, okI a ∧ ∀ w, Calls Tryz.prog 21 #[.agg #[.int .i64 l, .int .i64 h]] w fun e w' => e = .returned (ivV a) ∧ Below w.heap.size w w' := by
  obtain ⟨s, hs, hsm⟩ := rSmall_ex l h
  have HSM := Aside.mk hsm
  obtain ⟨X, hX⟩ : ∃ X, bits .and .i64 l 31 = X := ⟨_, rfl⟩
  have key : ∀ (a : Iv), okI a → (okIv l h = true → a = (l, h)) → (okIv l h = false → X = 7 → a = ent) → (okIv l h = false → X ≠ 7 → a = s) →
      ∀ w, Calls Tryz.prog 21 #[.agg #[.int .i64 l, .int .i64 h]] w fun e w' => e = .returned (ivV a) ∧ Below w.heap.size w w' := by
    intro a ha e1 e2 e3 w
    have hr0 : ((w.alloc (.cells #[.int .i64 l, .int .i64 h] 29)).alloc (.cells #[.int .i64 0, .int .i64 0] 29)).heap[w.heap.size]? = some (.cells #[.int .i64 l, .int .i64 h] 29 (0, 0)) := by rw [Below.heap_alloc _ _ _ (by simp)]; exact heap_alloc_last _ _
    have hr1 : ((w.alloc (.cells #[.int .i64 l, .int .i64 h] 29)).alloc (.cells #[.int .i64 0, .int .i64 0] 29)).heap[w.heap.size + 1]? = some (.cells #[.int .i64 0, .int .i64 0] 29 (0, 0)) := by
      have := heap_alloc_last (w.alloc (.cells #[.int .i64 l, .int .i64 h] 29)) (.cells #[.int .i64 0, .int .i64 0] 29)
      simpa using this
    have hbl : Below w.heap.size w ((w.alloc (.cells #[.int .i64 l, .int .i64 h] 29)).alloc (.cells #[.int .i64 0, .int .i64 0] 29)) := ((Below.refl _ _).alloc (Nat.le_refl _) _).alloc (by simp) _
    go_enter Tryz.func21, Tryz.ntmps21
    go_wp2_with fail
    generalize (w.alloc (.cells #[.int .i64 l, .int .i64 h] 29)).alloc (.cells #[.int .i64 0, .int .i64 0] 29) = W at hr0 hr1 hbl ⊢
    obtain ⟨g, hg⟩ : ∃ g, w.heap.size = g := ⟨_, rfl⟩
    have HG := Aside.mk hg
    rw [hg] at hr0 hr1
    simp only [hg]
    clear hg
    refine (rIvValid_any l h W).mono ?_
    rintro e w2 ⟨rfl, hb2⟩
    have HR1 := Aside.mk ((hb2.block _ (heap_lt hr1)).trans hr1)
    have hr02 := (hb2.block _ (heap_lt hr0)).trans hr0
    have HB := Aside.mk (hbl.trans (hb2.mono hbl.size))
    have c0 : w2.cell? ⟨g, 0, none⟩ = some (.int .i64 l) := by rw [cell_of_row _ _ 0 _ _ _ hr02]; rfl
    have c1 : w2.cell? ⟨g, 1, none⟩ = some (.int .i64 h) := by rw [cell_of_row _ _ 1 _ _ _ hr02]; rfl
    clear hr0 hr1 hbl hb2 hr02
    cases hv : okIv l h with
    | true =>
      obtain rfl := e1 hv
      clear e1 e2 e3 hv hX
      go_wp2_with (first | (refine wpList_store_iv rfl (.tmp 2) (.tmp 5) rfl (g + 1) _ _ rfl rfl _ _ HR1.out ?_; intro w3 hr3 hb3 hk3 hs3))
      exact ret_iv rfl rfl hr3 ⟨rfl, HB.out.trans (hb3.mono (by have := HG.out; omega))⟩
    | false =>
      by_cases h7 : X = 7
      · obtain rfl := e2 hv h7
        have h7' : (X == 7) = true := by simpa using h7
        clear e1 e2 e3 hv h7
        go_wp2_with fail
        refine (rEntire_any w2).mono ?_
        rintro e w4 ⟨rfl, hb4⟩
        have HR4 := Aside.mk ((hb4.block _ (heap_lt HR1.out)).trans HR1.out)
        have HB4 := Aside.mk (HB.out.trans (hb4.mono HB.out.size))
        clear hb4 c0 c1
        unfold ivV ent
        go_wp2_with (first | (refine wpList_store_iv rfl (.tmp 2) (.tmp 10) rfl (g + 1) _ _ rfl rfl _ _ HR4.out ?_; intro w3 hr3 hb3 hk3 hs3))
        exact ret_iv rfl rfl hr3 ⟨rfl, HB4.out.trans (hb3.mono (by have := HG.out; omega))⟩
      · obtain rfl := e3 hv h7
        have h7' : (X == 7) = false := by simpa using h7
        clear e1 e2 e3 hv h7
        go_wp2_with fail
        refine (HSM.out w2).mono ?_
        rintro e w4 ⟨rfl, hb4⟩
        have HR4 := Aside.mk ((hb4.block _ (heap_lt HR1.out)).trans HR1.out)
        have HB4 := Aside.mk (HB.out.trans (hb4.mono HB.out.size))
        clear hb4 c0 c1
        unfold ivV
        go_wp2_with (first | (refine wpList_store_iv rfl (.tmp 2) (.tmp 12) rfl (g + 1) _ _ rfl rfl _ _ HR4.out ?_; intro w3 hr3 hb3 hk3 hs3))
        exact ret_iv rfl rfl hr3 ⟨rfl, HB4.out.trans (hb3.mono (by have := HG.out; omega))⟩
  cases hv : okIv l h with
  | true => exact ⟨(l, h), hv, key (l, h) hv (fun _ => rfl) (fun e => by rw [hv] at e; cases e) (fun e => by rw [hv] at e; cases e)⟩
  | false =>
    by_cases h7 : X = 7
    · exact ⟨ent, by show okIv _ _ = true; decide, key ent (by show okIv _ _ = true; decide) (fun e => by rw [hv] at e; cases e) (fun _ _ => rfl) (fun _ e => absurd h7 e)⟩
    · exact ⟨s, hs, key s hs (fun e => by rw [hv] at e; cases e) (fun _ e => absurd e h7) (fun _ _ => rfl)⟩
end Go.Proofs.YthcidkidpiaomaaGreatDoor.Od
end
section
set_option linter.unusedVariables false
namespace Go.Proofs.YthcidkidpiaomaaGreatDoor.Rg
open Go.RowKit
structure XD (D : List (Nat × Tmp)) (listed : Array Bool) (a : Act) (w : World) : Prop where
  hp : ∀ x ∈ D, listed.getD x.1 false = true → ∃ g, a.tmps.getD x.2 undef = .pointer (some ⟨g, 0, none⟩) ∧ g < w.heap.size
  ne : ∀ x ∈ D, ∀ y ∈ D, x ≠ y → listed.getD x.1 false = true → listed.getD y.1 false = true → a.tmps.getD x.2 undef ≠ a.tmps.getD y.2 undef
section
variable {P : Program} {T : Tab} {Q : Exit → Act → World → Prop} {a0 : Act} {w0 : World} {D : List (Nat × Tmp)}
theorem XD.start {listed : Array Bool} {a : Act} {w : World} (h : ∀ i, listed.getD i false = false) : XD D listed a w :=
  ⟨fun x _ e => (by rw [h x.1] at e; cases e), fun x _ y _ _ e => (by rw [h x.1] at e; cases e)⟩
theorem XD.keep {listed : Array Bool} {a : Act} {w w' : World} {i : Nat} {d : Option Tmp} {v : Value} (h : XD D listed a w) (h1 : ∀ x ∈ D, ¬ i = x.1) (h3 : ∀ x ∈ D, d ≠ some x.2) (hs : w.heap.size ≤ w'.heap.size) :
    XD D (listed.setIfInBounds i true) (a.put d v) w' := by
  have e1 : ∀ x ∈ D, (a.put d v).tmps.getD x.2 undef = a.tmps.getD x.2 undef := fun x hx => put_other a d v x.2 (h3 x hx)
  refine ⟨fun x hx e => ?_, fun x hx y hy hn e e' => ?_⟩
  · rw [listed_off (fun z => h1 x hx z.symm)] at e
    obtain ⟨g, hg, hl⟩ := h.hp x hx e
    exact ⟨g, by rw [e1 x hx]; exact hg, by omega⟩
  · rw [listed_off (fun z => h1 x hx z.symm)] at e
    rw [listed_off (fun z => h1 y hy z.symm)] at e'
    rw [e1 x hx, e1 y hy]; exact h.ne x hx y hy hn e e'
theorem XD.add {listed : Array Bool} {a : Act} {w w' : World} (h : XD D listed a w) {z : Nat × Tmp} (hz : z ∈ D) (hs : w'.heap.size = w.heap.size + 1) (hd : z.2 < a.tmps.size) (hD : ∀ x ∈ D, x ≠ z → x.1 ≠ z.1 ∧ x.2 ≠ z.2) :
    XD D (listed.setIfInBounds z.1 true) (a.put (some z.2) (.pointer (some ⟨w.heap.size, 0, none⟩))) w' := by
  have e0 := put_same a z.2 (.pointer (some ⟨w.heap.size, 0, none⟩)) hd
  have e1 : ∀ x ∈ D, x ≠ z → (a.put (some z.2) (.pointer (some ⟨w.heap.size, 0, none⟩))).tmps.getD x.2 undef = a.tmps.getD x.2 undef := fun x hx hn => put_other a _ _ x.2 (fun e => (hD x hx hn).2 (Option.some.inj e).symm)
  have key : ∀ x ∈ D, x ≠ z → (listed.setIfInBounds z.1 true).getD x.1 false = true → ∃ g, (a.put (some z.2) (.pointer (some ⟨w.heap.size, 0, none⟩))).tmps.getD x.2 undef = .pointer (some ⟨g, 0, none⟩) ∧ g < w.heap.size := fun x hx hn e => by
    rw [listed_off (hD x hx hn).1] at e
    obtain ⟨g, hg, hl⟩ := h.hp x hx e
    exact ⟨g, by rw [e1 x hx hn]; exact hg, hl⟩
  have off : ∀ g, g < w.heap.size → (.pointer (some ⟨g, 0, none⟩) : Value) ≠ .pointer (some ⟨w.heap.size, 0, none⟩) := fun g hg e => by
    injection e with e
    injection e with e
    injection e with e
    omega
  refine ⟨fun x hx e => ?_, fun x hx y hy hn e e' => ?_⟩
  · by_cases hxz : x = z
    · subst hxz; exact ⟨_, e0, by omega⟩
    · obtain ⟨g, hg, hl⟩ := key x hx hxz e
      exact ⟨g, hg, by omega⟩
  · by_cases hxz : x = z
    · subst hxz
      obtain ⟨g, hg, hl⟩ := key y hy (fun e => hn e.symm) e'
      rw [e0, hg]; exact fun e => off g hl e.symm
    · by_cases hyz : y = z
      · subst hyz
        obtain ⟨g, hg, hl⟩ := key x hx hn e
        rw [e0, hg]; exact off g hl
      · rw [e1 x hx hxz, e1 y hy hyz]
        rw [listed_off (hD x hx hxz).1] at e
        rw [listed_off (hD y hy hyz).1] at e'
        exact h.ne x hx y hy hn e e'
end
end Go.Proofs.YthcidkidpiaomaaGreatDoor.Rg
end
section
set_option linter.unusedVariables false
set_option linter.unusedSimpArgs false
namespace Go.Proofs.YthcidkidpiaomaaGreatDoor.Od
open Go.RowKit Rg
theorem row_slice {w : World} {base n sz : Nat} {T : TypeId} {v : Value} {us : List Value} (h : w.ownsRow base T sz v n us) : ∃ a l c, v = .slice a l c := by
  obtain ⟨-, h3⟩ := h
  rcases h3 with ⟨h3, -⟩ | ⟨g', cap', cur', h3, -⟩
  · exact ⟨_, _, _, h3⟩
  · exact ⟨_, _, _, h3⟩
end Go.Proofs.YthcidkidpiaomaaGreatDoor.Od
end
section
set_option linter.unusedVariables false
set_option linter.unusedSimpArgs false
namespace Go.Proofs.YthcidkidpiaomaaGreatDoor.Od
open Go.RowKit Rg Go.ChangeShapes Go.WideShapes Go.ChangeAt
def hullI (a b : Iv) : Iv := (min a.1 b.1, max a.2 b.2)
theorem two_below (w : World) (al ah bl bh : Int) : Below w.heap.size w ((w.alloc (.cells #[.int .i64 al, .int .i64 ah] 29)).alloc (.cells #[.int .i64 bl, .int .i64 bh] 29)) := ((Below.refl _ _).alloc (Nat.le_refl _) _).alloc (by simp) _
set_option maxRecDepth 100000 in
set_option maxHeartbeats 8000000 in
theorem rHullI_any (a b : Iv) (w : World) : Calls Tryz.prog 43 #[ivV a, ivV b] w fun e w' => e = .returned (ivV (hullI a b)) ∧ Below w.heap.size w w' := by
  obtain ⟨al, ah⟩ := a
  obtain ⟨bl, bh⟩ := b
  unfold ivV hullI
  simp only
  go_enter Tryz.func43, Tryz.ntmps43
  go_wp2_with fail
  refine ret_iv (g := w.heap.size + 1 + 1) rfl rfl ?_ ⟨rfl, (two_below w al ah bl bh).alloc (by simp; omega) _⟩
  have := heap_alloc_last ((w.alloc (.cells #[.int .i64 al, .int .i64 ah] 29)).alloc (.cells #[.int .i64 bl, .int .i64 bh] 29)) (.cells #[.int .i64 (min al bl), .int .i64 (max ah bh)] 29)
  rw [World.size_alloc, World.size_alloc] at this; exact this
set_option maxRecDepth 100000 in
set_option maxHeartbeats 8000000 in
theorem rSubsetI_any (a b : Iv) (h : SubI a b) (w : World) : Calls Tryz.prog 47 #[ivV a, ivV b] w fun e w' => e = .returned (.bool true) ∧ Below w.heap.size w w' := by
  obtain ⟨al, ah⟩ := a
  obtain ⟨bl, bh⟩ := b
  have h1 : bl ≤ al := h.1
  have h2 : ah ≤ bh := h.2
  unfold ivV
  simp only
  clear h
  go_enter Tryz.func47, Tryz.ntmps47
  go_wp2_with fail
  go_ret
  exact ⟨rfl, two_below w al ah bl bh⟩
theorem row_zero (w : World) : (w.alloc (.cells #[] 29)).ownsRow w.heap.size 29 2 (.slice (some ⟨w.heap.size, 0, none⟩) 0 0) 0 (ivc []) := ⟨rfl, Or.inr ⟨w.heap.size, 0, #[], rfl, Nat.le_refl _, heap_alloc_last _ _, Nat.le_refl _, by simp [maxLen], rfl, by simp [ivc]⟩⟩
theorem enters_hull : ∀ args w, (callFunc 43 args).run Tryz.prog w = .ok (.enter 43 args) w := fun args w => by kernel_rfl
theorem enters_subi : ∀ args w, (callFunc 47 args).run Tryz.prog w = .ok (.enter 47 args) w := fun args w => by kernel_rfl
theorem zip_take_succ {xs ys : List Iv} {i : Nat} {a b : Iv} (f : Iv → Iv → Iv) (hx : xs[i]? = some a) (hy : ys[i]? = some b) : (List.zipWith f xs ys).take (i + 1) = (List.zipWith f xs ys).take i ++ [f a b] := by
  rw [List.take_add_one, List.getElem?_zipWith, hx, hy]; rfl
set_option maxRecDepth 100000 in
set_option maxHeartbeats 8000000 in
theorem rSubset_any (v v' : Value) (xs ys : List Iv) (hs : SubB xs ys) (w : World) (h : Ivs w v xs) (h' : Ivs w v' ys) : Calls Tryz.prog 48 #[v, v'] w fun e w' => e = .returned (.bool true) ∧ Below w.heap.size w w' := by
  obtain ⟨a1, c1, rfl, -⟩ := h.out
  obtain ⟨a2, c2, rfl, -⟩ := h'.out
  have H1 := Aside.mk h
  have H2 := Aside.mk h'
  have hfew := h.few
  obtain ⟨N, hN⟩ : ∃ N, xs.length = N := ⟨_, rfl⟩
  have HN := Aside.mk (And.intro hN (hN ▸ hfew))
  have HS := Aside.mk hs
  have HLY : Aside (ys.length = N) := ⟨by have := hs.1; omega⟩
  have hN9 : (N : Int) ≤ 9000 := by omega
  rw [hN, HLY.out]
  clear h h' hfew hN hs
  go_enter Tryz.func48, Tryz.ntmps48
  go_wp2_with fail
  go_loopg [5] N (fun m v5 wr => ∃ i : Nat, v5 = .int .i64 (i : Nat) ∧ Aside (i ≤ N ∧ N - i ≤ m) ∧ Aside (Below w.heap.size w wr))
  case atStart => exact ⟨0, rfl, ⟨by simp⟩, ⟨Below.refl _ _⟩⟩
  case round =>
    obtain ⟨i, rfl, HI, HB⟩ := hrel
    by_cases hi : i < N
    · have hi' : (i : Int) < (N : Int) := by omega
      obtain ⟨x, hx⟩ : ∃ x, xs[i]? = some x := ⟨_, List.getElem?_eq_getElem (by rw [HN.out.1]; exact hi)⟩
      obtain ⟨y, hy⟩ : ∃ y, ys[i]? = some y := ⟨_, List.getElem?_eq_getElem (by rw [HLY.out]; exact hi)⟩
      have HSB := Aside.mk (HS.out.2 i x y hx hy)
      obtain ⟨b, o, c, hv, p0, p1⟩ := (H1.out.below HB.out).at hx
      injection hv with q1 q2 q3
      subst q1 q3
      obtain ⟨b', o', c', hv, r0, r1⟩ := (H2.out.below HB.out).at hy
      injection hv with q1 q2 q3
      subst q1 q3
      obtain ⟨xl, xh⟩ := x
      obtain ⟨yl, yh⟩ := y
      simp only at p0 p1 r0 r1
      have hi6 : (i : Int) < 9223372036854775807 := by omega
      clear hx hy hi
      go_wp2_with fail
      refine region_v [12, 13, 14, 15, 16, 17, 18, 19, 20] 9 [.slice (some ⟨b, o, none⟩) N c1, .int .i64 (i : Nat), .pointer (some ⟨b, o + i * 2, none⟩), .agg #[.int .i64 (xl), .int .i64 (xh)], .slice (some ⟨b', o', none⟩) N c2, .int .i64 (i : Nat), .pointer (some ⟨b', o' + i * 2, none⟩), .agg #[.int .i64 (yl), .int .i64 (yh)], .bool true] rfl rfl ?_ ?_
      · iterate 8 (refine AllV.val rfl (fun w hb => by simp [execOp, Act.eval, hi', kp hb p0, kp hb p1, kp hb r0, kp hb r1, go_sem]) ?_)
        refine AllV.call (fun w => run_call (args := #[.agg #[.int .i64 (xl), .int .i64 (xh)], .agg #[.int .i64 (yl), .int .i64 (yh)]]) enters_subi (by simp [Act.eval])) (fun w hb => (rSubsetI_any (xl, xh) (yl, yh) HSB.out w).mono (by rintro e w' ⟨rfl, hb2⟩; exact ⟨_, rfl, hb2, rfl⟩)) ?_
        exact AllV.nil
      intro W2 hb
      simp only [List.drop_succ_cons, List.drop_zero]
      have HH2 := Aside.mk hb
      clear hb
      have HB2 := Aside.mk (HB.out.trans (HH2.out.mono HB.out.size))
      clear p0 p1 r0 r1
      go_wp2_with fail
      obtain ⟨go, hgo⟩ : ∃ go, gk = go + 1 := ⟨gk - 1, by have := HI.out; omega⟩
      go_roundg go
      case measure => omega
      case rel => exact ⟨i + 1, rfl, ⟨by have := HI.out; omega⟩, HB2⟩
    · have hi' : ¬ ((i : Int) < (N : Int)) := by omega
      go_wp2_with fail
      go_ret
      exact ⟨rfl, HB.out⟩
theorem own_ex {w w' : World} {base n sz g : Nat} {T : TypeId} {v : Value} {us : List Value} (h : w.ownsRow base T sz v n us) (hg : v.ownBlock ≠ some g) (hk : ∀ k, k ≠ g → w'.heap[k]? = w.heap[k]?) : w'.ownsRow base T sz v n us := by
  obtain ⟨h1, h2⟩ := h
  refine ⟨h1, ?_⟩
  rcases h2 with h2 | ⟨g', cap, cur, rfl, hg', hh, r⟩
  · exact Or.inl h2
  · exact Or.inr ⟨g', cap, cur, rfl, hg', by rw [hk g' (fun e => hg (by rw [e]; rfl))]; exact hh, r⟩
theorem own_lt {w : World} {base n sz : Nat} {T : TypeId} {v : Value} {us : List Value} (h : w.ownsRow base T sz v n us) : v.ownBlock ≠ some w.heap.size := by
  obtain ⟨-, h2⟩ := h
  rcases h2 with ⟨rfl, -⟩ | ⟨g', cap, cur, rfl, -, hh, -⟩
  · intro e; cases e
  · intro e
    have := heap_lt hh
    have e' : g' = w.heap.size := Option.some.inj e
    omega
theorem RawI.at {G : Nat} {w : World} {ao : Option Addr} {L c : Nat} {e : List Iv} (h : RawI G w (.slice ao L c) e) {i : Nat} (hi : i < L) : ∃ b o x, ao = some ⟨b, o, none⟩ ∧ b < G ∧ w.cell? ⟨b, o + i * 2, none⟩ = some (.int .i64 x.1) ∧ w.cell? ⟨b, o + i * 2 + 1, none⟩ = some (.int .i64 (x : Iv).2) := by
  obtain ⟨ao', c', hv, -, -, hc, -⟩ := h
  injection hv with h1 h2 h3
  subst h1
  obtain ⟨x, hx⟩ : ∃ x, e[i]? = some x := ⟨_, List.getElem?_eq_getElem (by omega)⟩
  obtain ⟨b, o, h4, h5, h6, h7⟩ := hc i x hx
  exact ⟨b, o, x, h4, h5, h6, by rw [Nat.add_assoc]; exact h7⟩
theorem info_i64 : (Tryz.prog.info? 2).map (fun i => (i.zero, i.size, i.bytes)) = some (some (.int .i64 0), 1, 8) := by kernel_rfl
theorem wpList_append_i64 (w : World) {ops : Array Oper} {rest : List Oper} {o : Oper} {a : Act} {Q : Exit → Act → World → Prop} (hg : o.guard = none) (p x : Operand) (hop : o.op = Op.call { callee := Callee.builtin Builtin.append, args := #[p, x], argTypes := #[65, 65] })
    (base : Nat) (v : Value) (ys : List Int) (n : Nat) (hn : ys.length = n) (hs : a.eval p = v) (h : w.ownsRow base 2 1 v n (ys.map (Value.int .i64))) (u : Int) (gk : Nat) (hx : a.eval x = .slice (some ⟨gk, 0, none⟩) 1 1)
    (hr : w.heap[gk]? = some (.cells #[.int .i64 u] 2 (0, 0))) (hbd : n ≤ 9000) (hbase : base ≤ w.heap.size)
    (hK : ∀ ao2 cap w', w'.ownsRow base 2 1 (.slice ao2 (n + 1) cap) (n + 1) ((ys ++ [u]).map (Value.int .i64)) → Below base w w' → wpList Tryz.prog ops Q rest (a.put o.dst (.slice ao2 (n + 1) cap)) w') :
    wpList Tryz.prog ops Q (o :: rest) a w := by
  subst hn
  obtain ⟨i0, hi, hz0, hz1, hz2⟩ := info_parts' info_i64
  have hcell : ∀ (j : Nat) (v : Value), [Value.int .i64 u][j]? = some v → w.cell? ((⟨gk, 0, none⟩ : Addr).add j) = some v := by
    intro j v hu
    rcases j with _ | j
    · obtain rfl := Option.some.inj hu
      have := cell_of_row w gk 0 _ _ _ hr
      simpa [Addr.add] using this
    · cases hu
  have hone : ∀ v ∈ [Value.int .i64 u], v.oneCell' = true := by
    intro v hv
    obtain rfl := List.mem_singleton.1 hv
    rfl
  refine wpList_append_own_at w hg p x _ hop base 2 i0 _ 1 8 Tryz.underlying65 hi hz0 hz1 hz2 rfl (by omega) v ys.length _ hs h ⟨gk, 0, none⟩ 1 1 [Value.int .i64 u] hx rfl hcell hone (by simp only [maxLen]; omega) (by omega) hbase ?_
  intro v' w' hown' hgr _ hat
  obtain ⟨ao2, cap, rfl⟩ : ∃ ao cap, v' = .slice ao (ys.length + 1) cap := by
    obtain ⟨-, h2⟩ := hown'
    rcases h2 with ⟨rfl, hn⟩ | ⟨g', cap, cur, rfl, -⟩
    · omega
    · exact ⟨_, _, rfl⟩
  exact hK ao2 cap w' (by rw [List.map_append]; exact hown') ((Below.refl base w).grown hgr hbase (fun k hk => (World.ownsRow.lt h k hk).1))
structure Ints (w : World) (v : Value) (ps : List Int) : Prop where
  out : ∃ ao c, v = .slice ao ps.length c ∧ ∀ j p, ps[j]? = some p → ∃ b o, ao = some ⟨b, o, none⟩ ∧ w.cell? ⟨b, o + j, none⟩ = some (.int .i64 p)
  few : ps.length ≤ 9000
theorem Ints.below {w w' : World} {v : Value} {ps : List Int} (h : Ints w v ps) (hb : Below w.heap.size w w') : Ints w' v ps := by
  obtain ⟨⟨ao, c, hv, hc⟩, hf⟩ := h
  refine ⟨⟨ao, c, hv, fun j p hp => ?_⟩, hf⟩
  obtain ⟨b, o, h1, h2⟩ := hc j p hp
  exact ⟨b, o, h1, by rw [hb.cell (World.block_lt_of_cell? w _ h2)]; exact h2⟩
theorem ints_own {w : World} {base n : Nat} {v : Value} {ps : List Int} (h : w.ownsRow base 2 1 v n (ps.map (Value.int .i64))) (hn : ps.length = n) (hf : n ≤ 9000) : Ints w v ps := by
  subst hn
  have h' := h
  obtain ⟨h1, h2⟩ := h
  rcases h2 with ⟨rfl, hz⟩ | ⟨g, cap, cur, rfl, hg, hh, hcap, hm, hs, ht⟩
  · refine ⟨⟨none, 0, by rw [hz], fun j a ha => ?_⟩, hf⟩
    have := (List.getElem?_eq_some_iff.1 ha).1
    omega
  · refine ⟨⟨_, cap, rfl, fun j a ha => ?_⟩, hf⟩
    have hj := (List.getElem?_eq_some_iff.1 ha).1
    exact ⟨g, 0, rfl, by rw [Nat.zero_add, h'.cellAt j (by omega), List.getElem?_map, ha]; rfl⟩
def RawU (G : Nat) (w : World) (v : Value) (l : List Int) : Prop :=
  ∃ ao c, v = .slice ao l.length c ∧ ∀ i x, l[i]? = some x → 0 ≤ x ∧ x ≤ 65535 ∧ ∃ b o, ao = some ⟨b, o, none⟩ ∧ b < G ∧ w.cell? ⟨b, o + i, none⟩ = some (.int .u16 x)
theorem RawU.below {G : Nat} {w w' : World} {v : Value} {l : List Int} (h : RawU G w v l) (hb : Below w.heap.size w w') : RawU G w' v l := by
  obtain ⟨ao, c, hv, hc⟩ := h
  refine ⟨ao, c, hv, fun i x hx => ?_⟩
  obtain ⟨h1, h2, b, o, h3, h4, h5⟩ := hc i x hx
  exact ⟨h1, h2, b, o, h3, h4, by rw [hb.cell (World.block_lt_of_cell? w _ h5)]; exact h5⟩
theorem row_zero8 (w : World) : (w.alloc (.cells #[] 2)).ownsRow w.heap.size 2 1 (.slice (some ⟨w.heap.size, 0, none⟩) 0 0) 0 (([] : List Int).map (Value.int .i64)) := ⟨rfl, Or.inr ⟨w.heap.size, 0, #[], rfl, Nat.le_refl _, heap_alloc_last _ _, Nat.le_refl _, by simp [maxLen], rfl, by simp⟩⟩
theorem frac {xl xh n q : Int} (h : xl ≤ xh) (h0 : 0 ≤ n) (h1 : n ≤ 65535) (hq : ((xh - xl) * n).tdiv 65535 = q) : 0 ≤ q ∧ xl + q ≤ xh ∧ 0 ≤ (xh - xl) * n ∧ (xh - xl) * n ≤ (xh - xl) * 65535 := by
  have a1 : 0 ≤ (xh - xl) * n := Int.mul_nonneg (by omega) h0
  have a2 : (xh - xl) * n ≤ (xh - xl) * 65535 := Int.mul_le_mul_of_nonneg_left h1 (by omega)
  rw [Int.tdiv_eq_ediv_of_nonneg a1] at hq
  have a3 : 0 ≤ q := by rw [← hq]; exact Int.ediv_nonneg a1 (by omega)
  have a4 : q ≤ xh - xl := by
    rw [← hq]
    have := Int.ediv_le_ediv (c := 65535) (by omega) a2
    rw [Int.mul_ediv_cancel _ (by omega)] at this
    exact this
  exact ⟨a3, by omega, a1, a2⟩
set_option maxRecDepth 100000 in
set_option maxHeartbeats 16000000 in
theorem rPointIn_any (v v' : Value) (xs : List Iv) (hxs : ∀ a ∈ xs, okI a) (l : List Int) (w : World) (G : Nat) (h : Ivs w v xs) (hu : RawU G w v' l) : Calls Tryz.prog 45 #[v, v'] w fun e w' => ∃ vo ps, e = .returned vo ∧ Ints w' vo ps ∧ ps.length = xs.length ∧ (∀ (i : Nat) (a : Iv) (p : Int), xs[i]? = some a → ps[i]? = some p → a.1 ≤ p ∧ p ≤ a.2) ∧ Below w.heap.size w w' := by
  obtain ⟨a1, c1, rfl, -⟩ := h.out
  have HRU := Aside.mk hu
  obtain ⟨a2, c2, rfl, -⟩ := hu
  have H1 := Aside.mk h
  have HXS := Aside.mk hxs
  have hfew := h.few
  obtain ⟨N, hN⟩ : ∃ N, xs.length = N := ⟨_, rfl⟩
  obtain ⟨L, hL⟩ : ∃ L, l.length = L := ⟨_, rfl⟩
  have HN := Aside.mk (And.intro hN (hN ▸ hfew))
  have HLL := Aside.mk hL
  have hN9 : (N : Int) ≤ 9000 := by omega
  rw [hL] at HRU
  rw [hN, hL]
  clear h hfew hN hL hxs
  go_enter Tryz.func45, Tryz.ntmps45
  go_wp2_with fail
  have HB0 : Aside (Below w.heap.size w (w.alloc (.cells #[] 2))) := ⟨(Below.refl _ _).alloc (Nat.le_refl _) _⟩
  have HO0 := Aside.mk (row_zero8 w)
  generalize w.alloc (.cells #[] 2) = W at HB0 HO0 ⊢
  go_loopg [5, 6, 7] N (fun m v5 v6 v7 wr => ∃ (i : Nat) (ps : List Int) (vz : Value), v5 = vz ∧ v6 = .int .i64 (i : Nat) ∧ Aside (i ≤ N ∧ N - i ≤ m) ∧ Aside (wr.ownsRow w.heap.size 2 1 vz i (ps.map (Value.int .i64))) ∧ Aside (ps.length = i ∧ ∀ (i : Nat) (a : Iv) (p : Int), xs[i]? = some a → ps[i]? = some p → a.1 ≤ p ∧ p ≤ a.2) ∧ Aside (Below w.heap.size w wr))
  case atStart => exact ⟨0, [], _, rfl, rfl, ⟨by simp⟩, HO0, ⟨rfl, fun i a p _ hp => by simp at hp⟩, HB0⟩
  case round =>
    clear HO0 HB0
    obtain ⟨i, ps, vz, rfl, rfl, HI, HO, HZ, HB⟩ := hrel
    obtain ⟨va, vl, vc, rfl⟩ := row_slice HO.out
    by_cases hi : i < N
    · have hi' : (i : Int) < (N : Int) := by omega
      have hi6 : (i : Int) < 9223372036854775807 := by omega
      obtain ⟨x, hx⟩ : ∃ x, xs[i]? = some x := ⟨_, List.getElem?_eq_getElem (by rw [HN.out.1]; exact hi)⟩
      have HX := Aside.mk hx
      have hok := (HXS.out x (List.mem_of_getElem? hx)).bd
      simp only [maxV] at hok
      obtain ⟨b, o, c, hv, p0, p1⟩ := (H1.out.below HB.out).at hx
      injection hv with q1 q2 q3
      subst q1 q3
      obtain ⟨xl, xh⟩ := x
      simp only at p0 p1 hok
      have HOK := Aside.mk hok
      have HGO : Aside (∃ go, gk = go + 1) := ⟨⟨gk - 1, by have := HI.out; omega⟩⟩
      have HADD : ∀ p, xl ≤ p → p ≤ xh → Aside ((ps ++ [p]).length = i + 1 ∧ ∀ (k : Nat) (a : Iv) (z : Int), xs[k]? = some a → (ps ++ [p])[k]? = some z → a.1 ≤ z ∧ z ≤ a.2) := fun p hp hp' => ⟨by simp [HZ.out.1], fun k a z hk hz => by
        by_cases hki : k < i
        · rw [List.getElem?_append_left (by rw [HZ.out.1]; exact hki)] at hz
          exact HZ.out.2 k a z hk hz
        · have := (List.getElem?_eq_some_iff.1 hz).1
          rw [List.length_append, HZ.out.1, List.length_singleton] at this
          obtain rfl : k = i := by omega
          rw [List.getElem?_append_right (by rw [HZ.out.1]; omega), HZ.out.1, Nat.sub_self] at hz
          obtain rfl := Option.some.inj hz
          rw [HX.out] at hk
          obtain rfl := Option.some.inj hk
          exact ⟨hp, hp'⟩⟩
      have HAD := Aside.mk HADD
      clear hx hi hok HADD
      by_cases hL : i < L
      · have hL' : (i : Int) < (L : Int) := by omega
        obtain ⟨ao', c', hv, hc⟩ := (HRU.out.below HB.out)
        injection hv with q1 q2 q3
        subst q1
        obtain ⟨n, hn⟩ : ∃ n, l[i]? = some n := ⟨_, List.getElem?_eq_getElem (by rw [HLL.out]; exact hL)⟩
        obtain ⟨n0, n1, b', o', rfl, -, pu⟩ := hc i n hn
        have HNB := Aside.mk (And.intro n0 n1)
        have hnw : wrap64 n = n := by unfold wrap64; omega
        clear hc hn hL q2 q3
        go_wp2_with fail
        clear hnw pu hL'
        refine (rIsEntire_any xl xh wr).mono ?_
        rintro e w2 ⟨rfl, hb2⟩
        have HO2 := Aside.mk (owns_below HO.out hb2)
        have HB2 := Aside.mk (HB.out.trans (hb2.mono HB.out.size))
        replace p0 := (hb2.cell (World.block_lt_of_cell? wr _ p0)).trans p0
        replace p1 := (hb2.cell (World.block_lt_of_cell? wr _ p1)).trans p1
        obtain ⟨bE, hbE⟩ : ∃ b, isEnt xl xh = b := ⟨_, rfl⟩
        have HBE := Aside.mk hbE
        rw [hbE]
        clear hb2 hbE
        cases bE with
        | true =>
          have hal : Below w2.heap.size w2 (w2.alloc (.cells #[.int .i64 n] 2)) := (Below.refl _ _).alloc (Nat.le_refl _) _
          have HO3 := Aside.mk (owns_below HO2.out hal)
          have HB3 := Aside.mk (HB2.out.trans (hal.mono HB2.out.size))
          have HRK := Aside.mk (heap_alloc_last w2 (.cells #[.int .i64 n] 2))
          have HAE : Aside (xl ≤ n ∧ n ≤ xh) := ⟨by
            have h1 := HBE.out
            unfold isEnt maxV at h1
            simp only [Bool.and_eq_true, beq_iff_eq] at h1
            have := HNB.out
            omega⟩
          clear hal p0 p1
          go_wp2_with (first | (at_builtin; refine wpList_append_i64 _ rfl (.tmp 29) (.tmp 31) rfl w.heap.size _ ps i HZ.out.1 rfl HO3.out _ _ rfl HRK.out (by have := HN.out; have := HI.out; omega) HB3.out.size ?_; intro ao2 cap w5 ho5 hb5; have HO5 := Aside.mk ho5; have HB5 := Aside.mk (HB3.out.trans hb5); clear ho5 hb5))
          obtain ⟨go, hgo⟩ := HGO.out
          go_roundg go
          case measure => omega
          case rel => exact ⟨i + 1, ps ++ [n], _, rfl, rfl, ⟨by have := HI.out; omega⟩, HO5, HAD.out _ HAE.out.1 HAE.out.2, HB5⟩
        | false =>
          obtain ⟨q, hq⟩ : ∃ q, ((xh - xl) * n).tdiv 65535 = q := ⟨_, rfl⟩
          obtain ⟨f1, f2, f3, f4⟩ := frac HOK.out.2.1 HNB.out.1 HNB.out.2 hq
          have HFR := Aside.mk (And.intro f1 f2)
          have hbd := HOK.out
          have hw1 : IntKind.i64.wrap (xh - xl) = xh - xl := IntWalk.i64_in _ (by omega)
          have hw2 : IntKind.i64.wrap ((xh - xl) * n) = (xh - xl) * n := by generalize (xh - xl) * n = z at *; exact IntWalk.i64_in _ (by omega)
          have hw3 : IntKind.i64.wrap (xl + q) = xl + q := IntWalk.i64_in _ (by omega)
          have hw4 : IntKind.i64.wrap q = q := IntWalk.i64_in _ (by omega)
          clear f1 f2 f3 f4 hbd
          go_wp2_with fail
          refine region_u (T := tab2 [Sq.val (.slice va vl vc), Sq.val (.slice (some ⟨b, o, none⟩) N c1), Sq.val (.int .i64 (i : Nat)), Sq.val (.pointer (some ⟨b, o + i * 2, none⟩)), Sq.val (.pointer (some ⟨b, o + i * 2, none⟩)), Sq.val (.int .i64 xl), Sq.val (.slice (some ⟨b, o, none⟩) N c1), Sq.val (.int .i64 (i : Nat)), Sq.val (.pointer (some ⟨b, o + i * 2, none⟩)), Sq.val (.pointer (some ⟨b, o + i * 2 + 1, none⟩)), Sq.val (.int .i64 xh), Sq.val (.slice (some ⟨b, o, none⟩) N c1), Sq.val (.int .i64 (i : Nat)), Sq.val (.pointer (some ⟨b, o + i * 2, none⟩)), Sq.val (.pointer (some ⟨b, o + i * 2, none⟩)), Sq.val (.int .i64 xl), Sq.val (.int .i64 (xh - xl)), Sq.val (.int .i64 n), Sq.val (.int .i64 ((xh - xl) * n)), Sq.val (.int .i64 q), Sq.val (.int .i64 (xl + q)), Sq.row w2.heap.size #[.int .i64 (xl + q)] 2 1 1]) [33, 34, 35, 36, 37, 38, 39, 40, 41, 42, 43, 44, 45, 46, 47, 48, 49, 50, 51, 52, 53, 54] 22 (tells_q _) rfl rfl ?_ ?_
          · iterate 21 (refine AllV.val rfl (fun w hb => by simp [execOp, Act.eval, hi', kp hb p0, kp hb p1, hw1, hw2, hq, hw4, hw3, go_sem]) ?_)
            refine AllV.make (fun w hb => ⟨_, _, by simp [execOp, Act.eval, go_sem], ((Below.refl _ _).alloc (Nat.le_refl _) _), ⟨_, hb.size, rfl, heap_alloc_last _ _⟩⟩) ?_
            exact AllV.nil
          intro us W2 hb hus fu hfu
          obtain ⟨g54, G54, e54, R54⟩ := hus 21 (by decide)
          rw [mrg_of (by kernel_rfl)] at hfu
          simp only [mrg, List.map_cons, List.map_nil, Sq.told, Option.getD_some, Option.getD_none, Nat.reduceAdd, Nat.reduceEqDiff, ↓reduceIte, e54] at hfu
          subst hfu
          clear hus e54
          simp only [List.drop_succ_cons, List.drop_zero]
          have HH2 := Aside.mk hb
          clear hb
          have HO3 := Aside.mk (owns_below HO2.out HH2.out)
          have HB3 := Aside.mk (HB2.out.trans (HH2.out.mono HB2.out.size))
          have HR2 := Aside.mk R54
          clear p0 p1 R54 G54 hw1 hw2 hw3 hq
          refine wpList_append_i64 _ rfl (.tmp 33) (.tmp 54) rfl w.heap.size _ ps i HZ.out.1 rfl HO3.out _ g54 rfl HR2.out (by have := HN.out; have := HI.out; omega) HB3.out.size ?_
          intro ao2 cap w5 ho5 hb5
          have HO5 := Aside.mk ho5
          have HB5 := Aside.mk (HB3.out.trans hb5)
          clear ho5 hb5
          go_wp2_with fail
          obtain ⟨go, hgo⟩ := HGO.out
          go_roundg go
          case measure => omega
          case rel => exact ⟨i + 1, ps ++ [xl + q], _, rfl, rfl, ⟨by have := HI.out; omega⟩, HO5, HAD.out _ (by have := HFR.out; omega) HFR.out.2, HB5⟩
      · have hL' : ¬ (i : Int) < (L : Int) := by omega
        have HNB : Aside (0 ≤ (0 : Int) ∧ (0 : Int) ≤ 65535) := ⟨by omega⟩
        clear hL
        go_wp2_with fail
        clear hL'
        refine (rIsEntire_any xl xh wr).mono ?_
        rintro e w2 ⟨rfl, hb2⟩
        have HO2 := Aside.mk (owns_below HO.out hb2)
        have HB2 := Aside.mk (HB.out.trans (hb2.mono HB.out.size))
        replace p0 := (hb2.cell (World.block_lt_of_cell? wr _ p0)).trans p0
        replace p1 := (hb2.cell (World.block_lt_of_cell? wr _ p1)).trans p1
        obtain ⟨bE, hbE⟩ : ∃ b, isEnt xl xh = b := ⟨_, rfl⟩
        have HBE := Aside.mk hbE
        rw [hbE]
        clear hb2 hbE
        cases bE with
        | true =>
          have hal : Below w2.heap.size w2 (w2.alloc (.cells #[.int .i64 (0 : Int)] 2)) := (Below.refl _ _).alloc (Nat.le_refl _) _
          have HO3 := Aside.mk (owns_below HO2.out hal)
          have HB3 := Aside.mk (HB2.out.trans (hal.mono HB2.out.size))
          have HRK := Aside.mk (heap_alloc_last w2 (.cells #[.int .i64 (0 : Int)] 2))
          have HAE : Aside (xl ≤ (0 : Int) ∧ (0 : Int) ≤ xh) := ⟨by
            have h1 := HBE.out
            unfold isEnt maxV at h1
            simp only [Bool.and_eq_true, beq_iff_eq] at h1
            have := HNB.out
            omega⟩
          clear hal p0 p1
          go_wp2_with (first | (at_builtin; refine wpList_append_i64 _ rfl (.tmp 29) (.tmp 31) rfl w.heap.size _ ps i HZ.out.1 rfl HO3.out _ _ rfl HRK.out (by have := HN.out; have := HI.out; omega) HB3.out.size ?_; intro ao2 cap w5 ho5 hb5; have HO5 := Aside.mk ho5; have HB5 := Aside.mk (HB3.out.trans hb5); clear ho5 hb5))
          obtain ⟨go, hgo⟩ := HGO.out
          go_roundg go
          case measure => omega
          case rel => exact ⟨i + 1, ps ++ [(0 : Int)], _, rfl, rfl, ⟨by have := HI.out; omega⟩, HO5, HAD.out _ HAE.out.1 HAE.out.2, HB5⟩
        | false =>
          have HFR : Aside (xl ≤ xh) := ⟨HOK.out.2.1⟩
          have hbd := HOK.out
          have hw1 : IntKind.i64.wrap (xh - xl) = xh - xl := IntWalk.i64_in _ (by omega)
          have hw2 : IntKind.i64.wrap 0 = 0 := rfl
          have hw3 : IntKind.i64.wrap xl = xl := IntWalk.i64_in _ (by omega)
          clear hbd
          go_wp2_with fail
          refine region_u (T := tab2 [Sq.val (.slice va vl vc), Sq.val (.slice (some ⟨b, o, none⟩) N c1), Sq.val (.int .i64 (i : Nat)), Sq.val (.pointer (some ⟨b, o + i * 2, none⟩)), Sq.val (.pointer (some ⟨b, o + i * 2, none⟩)), Sq.val (.int .i64 xl), Sq.val (.slice (some ⟨b, o, none⟩) N c1), Sq.val (.int .i64 (i : Nat)), Sq.val (.pointer (some ⟨b, o + i * 2, none⟩)), Sq.val (.pointer (some ⟨b, o + i * 2 + 1, none⟩)), Sq.val (.int .i64 xh), Sq.val (.slice (some ⟨b, o, none⟩) N c1), Sq.val (.int .i64 (i : Nat)), Sq.val (.pointer (some ⟨b, o + i * 2, none⟩)), Sq.val (.pointer (some ⟨b, o + i * 2, none⟩)), Sq.val (.int .i64 xl), Sq.val (.int .i64 (xh - xl)), Sq.val (.int .i64 0), Sq.val (.int .i64 0), Sq.val (.int .i64 0), Sq.val (.int .i64 xl), Sq.row w2.heap.size #[.int .i64 xl] 2 1 1]) [33, 34, 35, 36, 37, 38, 39, 40, 41, 42, 43, 44, 45, 46, 47, 48, 49, 50, 51, 52, 53, 54] 22 (tells_q _) rfl rfl ?_ ?_
          · iterate 21 (refine AllV.val rfl (fun w hb => by simp [execOp, Act.eval, hi', kp hb p0, kp hb p1, hw1, hw2, hw3, go_sem]) ?_)
            refine AllV.make (fun w hb => ⟨_, _, by simp [execOp, Act.eval, go_sem], ((Below.refl _ _).alloc (Nat.le_refl _) _), ⟨_, hb.size, rfl, heap_alloc_last _ _⟩⟩) ?_
            exact AllV.nil
          intro us W2 hb hus fu hfu
          obtain ⟨g54, G54, e54, R54⟩ := hus 21 (by decide)
          rw [mrg_of (by kernel_rfl)] at hfu
          simp only [mrg, List.map_cons, List.map_nil, Sq.told, Option.getD_some, Option.getD_none, Nat.reduceAdd, Nat.reduceEqDiff, ↓reduceIte, e54] at hfu
          subst hfu
          clear hus e54
          simp only [List.drop_succ_cons, List.drop_zero]
          have HH2 := Aside.mk hb
          clear hb
          have HO3 := Aside.mk (owns_below HO2.out HH2.out)
          have HB3 := Aside.mk (HB2.out.trans (HH2.out.mono HB2.out.size))
          have HR2 := Aside.mk R54
          clear p0 p1 R54 G54 hw1 hw2 hw3
          refine wpList_append_i64 _ rfl (.tmp 33) (.tmp 54) rfl w.heap.size _ ps i HZ.out.1 rfl HO3.out _ g54 rfl HR2.out (by have := HN.out; have := HI.out; omega) HB3.out.size ?_
          intro ao2 cap w5 ho5 hb5
          have HO5 := Aside.mk ho5
          have HB5 := Aside.mk (HB3.out.trans hb5)
          clear ho5 hb5
          go_wp2_with fail
          obtain ⟨go, hgo⟩ := HGO.out
          go_roundg go
          case measure => omega
          case rel => exact ⟨i + 1, ps ++ [xl], _, rfl, rfl, ⟨by have := HI.out; omega⟩, HO5, HAD.out _ (Int.le_refl _) HFR.out, HB5⟩
    · have hi' : ¬ ((i : Int) < (N : Int)) := by omega
      have him : i = N := by have := HI.out; omega
      subst him
      have HIV : Aside (Ints wr (.slice va vl vc) ps) := ⟨ints_own HO.out HZ.out.1 HN.out.2⟩
      clear hi
      go_wp2_with fail
      go_ret
      exact ⟨_, rfl, _, HIV.out, HZ.out.1, fun i a b p => HZ.out.2 i (a, b) p, HB.out⟩
set_option maxRecDepth 100000 in
set_option maxHeartbeats 8000000 in
theorem rPointB_any (v : Value) (ps : List Int) (w : World) (h : Ints w v ps) : Calls Tryz.prog 44 #[v] w fun e w' => ∃ vo, e = .returned vo ∧ Ivs w' vo (ps.map fun p => newI p p) ∧ Below w.heap.size w w' := by
  obtain ⟨a1, c1, rfl, -⟩ := h.out
  have H1 := Aside.mk h
  have hfew := h.few
  obtain ⟨N, hN⟩ : ∃ N, ps.length = N := ⟨_, rfl⟩
  have HN := Aside.mk (And.intro hN (hN ▸ hfew))
  have hN9 : (N : Int) ≤ 9000 := by omega
  rw [hN]
  clear h hfew hN
  go_enter Tryz.func44, Tryz.ntmps44
  go_wp2_with fail
  have HB0 : Aside (Below w.heap.size w (w.alloc (.cells #[] 29))) := ⟨(Below.refl _ _).alloc (Nat.le_refl _) _⟩
  have HO0 := Aside.mk (row_zero w)
  generalize w.alloc (.cells #[] 29) = W at HB0 HO0 ⊢
  go_loopg [3, 4] N (fun m v3 v4 wr => ∃ (i : Nat) (vz : Value), v3 = vz ∧ v4 = .int .i64 (i : Nat) ∧ Aside (i ≤ N ∧ N - i ≤ m) ∧ Aside (wr.ownsRow w.heap.size 29 2 vz i (ivc ((ps.take i).map fun p => newI p p))) ∧ Aside (Below w.heap.size w wr))
  case atStart => exact ⟨0, _, rfl, rfl, ⟨by simp⟩, HO0, HB0⟩
  case round =>
    clear HO0 HB0
    obtain ⟨i, vz, rfl, rfl, HI, HO, HB⟩ := hrel
    obtain ⟨va, vl, vc, rfl⟩ := row_slice HO.out
    by_cases hi : i < N
    · have hi' : (i : Int) < (N : Int) := by omega
      have hi6 : (i : Int) < 9223372036854775807 := by omega
      obtain ⟨x, hx⟩ : ∃ x, ps[i]? = some x := ⟨_, List.getElem?_eq_getElem (by rw [HN.out.1]; exact hi)⟩
      have HTK : Aside ((ps.take (i + 1)).map (fun p => newI p p) = (ps.take i).map (fun p => newI p p) ++ [newI x x]) := ⟨take_map_succ _ ps i x hx⟩
      have HLN : Aside (((ps.take i).map fun p => newI p p).length = i) := ⟨by rw [List.length_map, List.length_take, HN.out.1]; omega⟩
      obtain ⟨ao, c, hv, hc⟩ := (H1.out.below HB.out).out
      injection hv with q1 q2 q3
      subst q1
      obtain ⟨b, o, rfl, p0⟩ := hc i x hx
      clear hx hi hc q2 q3
      go_wp2_with fail
      refine (rPoint_any x wr).mono ?_
      rintro e w2 ⟨rfl, hb2⟩
      have HO2 := Aside.mk (owns_below HO.out hb2)
      have HB2 := Aside.mk (HB.out.trans (hb2.mono HB.out.size))
      obtain ⟨⟨yl, yh⟩, hy⟩ : ∃ y, newI x x = y := ⟨_, rfl⟩
      rw [hy] at HTK ⊢
      have hal : Below w2.heap.size w2 (w2.alloc (.cells #[.int .i64 yl, .int .i64 yh] 29)) := (Below.refl _ _).alloc (Nat.le_refl _) _
      have HO3 := Aside.mk (owns_below HO2.out hal)
      have HB3 := Aside.mk (HB2.out.trans (hal.mono HB2.out.size))
      have HRK := Aside.mk (heap_alloc_last w2 (.cells #[.int .i64 yl, .int .i64 yh] 29))
      unfold ivV
      simp only
      clear hb2 hy hal p0
      go_wp2_with (first | (at_builtin; refine wpList_append_iv _ rfl (.tmp 12) (.tmp 18) rfl w.heap.size _ _ i HLN.out rfl HO3.out _ _ _ rfl HRK.out (by have := HN.out; have := HI.out; omega) HB3.out.size ?_; intro ao2 cap w5 ho5 hb5; have HO5 := Aside.mk ho5; have HB5 := Aside.mk (HB3.out.trans hb5); clear ho5 hb5))
      obtain ⟨go, hgo⟩ : ∃ go, gk = go + 1 := ⟨gk - 1, by have := HI.out; omega⟩
      go_roundg go
      case measure => omega
      case rel => exact ⟨i + 1, _, rfl, rfl, ⟨by have := HI.out; omega⟩, ⟨by rw [HTK.out]; exact HO5.out⟩, HB5⟩
    · have hi' : ¬ ((i : Int) < (N : Int)) := by omega
      have him : i = N := by have := HI.out; omega
      subst him
      have hz : (ps.map fun p => newI p p).length = i := by rw [List.length_map, HN.out.1]
      have ho := HO.out
      rw [List.take_of_length_le (by rw [HN.out.1]; exact Nat.le_refl _)] at ho
      have HIV : Aside (Ivs wr (.slice va vl vc) (ps.map fun p => newI p p)) := ⟨ivs_own (by rw [hz]; exact ho) (by rw [hz]; exact HN.out.2)⟩
      clear hz ho hi
      go_wp2_with fail
      go_ret
      exact ⟨_, rfl, HIV.out, HB.out⟩
section
variable {H : Type} {enc : TypeId × Value → H} {W : World} {n : Nat}
theorem z_u16 : Tryz.prog.cellsOf 73 = 1 := by kernel_rfl
set_option maxRecDepth 100000 in
theorem u16s_of {v : Value} {x : DataW H × List MemPlace} (h : DataW.trod enc Tryz.prog W 0 (fun _ => true) true n 61 [v] = some x) : ∃ e, RawU W.heap.size W v e := by
  obtain ⟨ao, len, c, rfl, hl, hm, h0, hel⟩ := slice_of Tryz.underlying61 h
  have key : ∀ i, i < len → ∃ x : Int, 0 ≤ x ∧ x ≤ 65535 ∧ ∃ b o, ao = some ⟨b, o, none⟩ ∧ b < W.heap.size ∧ W.cell? ⟨b, o + i, none⟩ = some (.int .u16 x) := by
    intro i hi
    obtain ⟨a0, cs0, m0, y0, e0, l0, t0, c0⟩ := hel 0 (by omega)
    obtain ⟨a, cs, m, y, e1, l1, t1, c1⟩ := hel i hi
    rw [z_u16] at l0 l1 c0 c1
    match cs0, l0, cs, l1 with
    | [u0], _, [u], _ =>
      obtain ⟨z, q1, _, w1⟩ := DataW.trod_int (cs := [u]) Tryz.underlying73 t1
      cases q1
      rw [e0] at e1
      obtain rfl := Option.some.inj e1
      have hz : ∃ u0, W.cell? a0 = some u0 := ⟨_, by have := c0 0 _ rfl; simpa [Addr.add] using this⟩
      have hw : 0 ≤ z ∧ z ≤ 65535 := by simp [Lit.wf, IntKind.min, IntKind.max, IntKind.signed, IntKind.bits] at w1; omega
      refine ⟨z, hw.1, hw.2, a0.block, a0.off, ?_, (addr_at (c0 0 _ rfl) hz).2, ?_⟩
      · rw [e0]
        rw [← addr_zero hz]
      · have := c1 0 _ rfl
        rw [(addr_at this hz).1] at this
        rw [Nat.mul_one, Nat.add_zero] at this
        exact this
  obtain ⟨e, he, hp⟩ := exists_list len key
  exact ⟨e, ao, c, by rw [he], fun i x hx => hp i x hx⟩
set_option maxRecDepth 100000 in
theorem open_u16s {r : Reach} {b0 : Nat} {v : Value} {d : DataW H} {p : List MemPlace} (hv : Value.okWide Tryz.prog W r b0 61 v) (h : DataW.Trod enc Tryz.prog W 0 (fun _ => true) true 61 v d p) : ∃ e, RawU W.heap.size W v e := by
  obtain ⟨a, len, cap, rfl⟩ := okWide_slice Tryz.underlying61 hv
  obtain ⟨n, hn⟩ := h
  exact u16s_of (n := n) (x := (d, p)) hn
end
end Go.Proofs.YthcidkidpiaomaaGreatDoor.Od
end
