/- OfB OfC OfE OfF OhD -/
import Derived.Test.YthcidkidpiaomaaGreatDoorKf19
import Derived.Test.YthcidkidpiaomaaGreatDoorKf07
section
set_option linter.unusedVariables false
set_option linter.unusedSimpArgs false
namespace Go.Proofs.YthcidkidpiaomaaGreatDoor.Od
open Go.RowKit Rg
set_option maxRecDepth 100000 in
set_option maxHeartbeats 8000000 in
theorem rIsEntire_any (lo hi : Int) (w : World) : Calls Tryz.prog 53 #[.agg #[.int .i64 lo, .int .i64 hi]] w fun e w' => e = .returned (.bool (isEnt lo hi)) ∧ Below w.heap.size w w' := by
  have hal : Below w.heap.size w (w.alloc (.cells #[.int .i64 lo, .int .i64 hi] 29)) := (Below.refl _ _).alloc (Nat.le_refl _) _
  have HB := Aside.mk hal
  clear hal
  by_cases h1 : lo = -2147483648
  · have HE : Aside (isEnt lo hi = (hi == 2147483648)) := ⟨by unfold isEnt maxV; rw [h1]; rfl⟩
    have h1' : (lo == -2147483648) = true := by simpa using h1
    clear h1
    go_enter Tryz.func53, Tryz.ntmps53
    go_wp2_with fail
    go_ret
    rw [HE.out]
    exact ⟨by first | rfl | simp [h1'], HB.out⟩
  · have h1' : (lo == -2147483648) = false := by simpa using h1
    have HE : Aside (isEnt lo hi = false) := ⟨by unfold isEnt maxV; rw [h1']; rfl⟩
    clear h1
    go_enter Tryz.func53, Tryz.ntmps53
    go_wp2_with fail
    go_ret
    rw [HE.out]
    exact ⟨by first | rfl | simp [h1'], HB.out⟩
set_option maxRecDepth 100000 in
theorem rNumber_any (x : Int) (w : World) : Calls Tryz.prog 101 #[.int .i64 x] w fun e w' => e = .returned (.bool (vld x)) ∧ w' = w := by
  by_cases h1 : -2147483648 < x
  · have HV : Aside (vld x = decide (x < 2147483648)) := ⟨by unfold vld; rw [decide_eq_true h1]; rfl⟩
    go_enter Tryz.func101, Tryz.ntmps101
    go_wp2_with fail
    go_ret
    rw [HV.out]
    exact ⟨by first | rfl | simp [h1], rfl⟩
  · have HV : Aside (vld x = false) := ⟨by unfold vld; rw [decide_eq_false h1]; rfl⟩
    go_enter Tryz.func101, Tryz.ntmps101
    go_wp2_with fail
    go_ret
    rw [HV.out]
    exact ⟨by first | rfl | simp [h1], rfl⟩
set_option maxRecDepth 100000 in
set_option maxHeartbeats 8000000 in
theorem rIvValid_any (lo hi : Int) (w : World) : Calls Tryz.prog 46 #[.agg #[.int .i64 lo, .int .i64 hi]] w fun e w' => e = .returned (.bool (okIv lo hi)) ∧ Below w.heap.size w w' := by
  have HV := Aside.mk (okIv_eq lo hi)
  have hrow := heap_alloc_last w (Obj.cells #[.int .i64 lo, .int .i64 hi] 29)
  have hb0 : Below w.heap.size w (w.alloc (Obj.cells #[.int .i64 lo, .int .i64 hi] 29)) := (Below.refl _ _).alloc (Nat.le_refl _) _
  have HR := Aside.mk hrow
  have HB := Aside.mk hb0
  clear hrow hb0
  go_enter Tryz.func46, Tryz.ntmps46
  go_wp2_with fail
  obtain ⟨g, hg⟩ : ∃ g, w.heap.size = g := ⟨_, rfl⟩
  rw [hg] at HR HB
  simp only [hg]
  generalize w.alloc (Obj.cells #[.int .i64 lo, .int .i64 hi] 29) = W at HR HB ⊢
  refine (rIsEntire_any lo hi W).mono ?_
  rintro e w1 ⟨rfl, hb1⟩
  have HB1 := Aside.mk (HB.out.trans (hb1.mono (Nat.le_of_lt (heap_lt HR.out))))
  have HR1 := Aside.mk ((hb1.block _ (heap_lt HR.out)).trans HR.out)
  clear hb1 HR HB
  obtain ⟨b1, hb1⟩ : ∃ b, isEnt lo hi = b := ⟨_, rfl⟩
  rw [hb1] at HV ⊢
  clear hb1
  have c0 : w1.cell? ⟨g, 0, none⟩ = some (.int .i64 lo) := by rw [cell_of_row _ _ 0 _ _ _ HR1.out]; rfl
  have c1 : w1.cell? ⟨g, 1, none⟩ = some (.int .i64 hi) := by rw [cell_of_row _ _ 1 _ _ _ HR1.out]; rfl
  cases b1 with
  | true =>
    go_wp2_with fail
    go_ret
    rw [HV.out]
    exact ⟨rfl, hg ▸ HB1.out⟩
  | false =>
    go_wp2_with fail
    refine (rNumber_any lo w1).mono ?_
    rintro e w2 ⟨rfl, hw2⟩
    have hw2' := hw2.symm
    subst hw2'
    obtain ⟨b2, hb2⟩ : ∃ b, vld lo = b := ⟨_, rfl⟩
    rw [hb2] at HV ⊢
    clear hb2
    cases b2 with
    | false =>
      go_wp2_with fail
      go_ret
      rw [HV.out]
      exact ⟨rfl, hg ▸ HB1.out⟩
    | true =>
      go_wp2_with fail
      refine (rNumber_any hi w1).mono ?_
      rintro e w3 ⟨rfl, hw3⟩
      have hw3' := hw3.symm
      subst hw3'
      obtain ⟨b3, hb3⟩ : ∃ b, vld hi = b := ⟨_, rfl⟩
      rw [hb3] at HV ⊢
      clear hb3
      cases b3 with
      | false =>
        go_wp2_with fail
        go_ret
        rw [HV.out]
        exact ⟨rfl, hg ▸ HB1.out⟩
      | true =>
        go_wp2_with fail
        go_ret
        rw [HV.out]
        exact ⟨rfl, hg ▸ HB1.out⟩
def rNd (n : Int) (x : Nd) : Bool :=
  if x.op = 1 then x.n == 0 && okIv x.lo x.hi
  else if x.op = 2 then decide (0 ≤ x.n) && decide (x.n < n) && (x.lo == 0 && x.hi == 0)
  else x.n == 0 && (x.lo == 0 && x.hi == 0)
theorem okNd_rNd (n : Int) (x : Nd) : okNd n x = (rNd n x && decide (0 ≤ arity x.op)) := by
  unfold okNd rNd
  split
  · rename_i h; rw [h]; simp [arity]
  · split
    · rename_i h; rw [h]; simp [arity, Bool.and_assoc]
    · simp only [Bool.and_assoc, Bool.and_comm, Bool.and_left_comm]
def rEx (n : Int) (e : List Nd) : Bool := decide (0 < e.length) && decide (e.length ≤ 200) && e.all (rNd n) && (rlV (rlen e 1) == (e.length : Int))
theorem rEx_eq (n : Int) (e : List Nd) : rEx n e = okEx n e := by
  unfold rEx okEx
  by_cases h1 : 0 < e.length
  · by_cases h2 : e.length ≤ 200
    · rw [decide_eq_true h1, decide_eq_true h2]
      simp only [Bool.true_and]
      cases hr : e.all (rNd n) with
      | false =>
        have : e.all (okNd n) = false := by
          rw [List.all_eq_false] at hr ⊢
          obtain ⟨x, hx, hn⟩ := hr
          exact ⟨x, hx, by rw [okNd_rNd]; simp only [Bool.and_eq_true, not_and]; intro h; exact absurd h hn⟩
        rw [this]; rfl
      | true =>
        rw [List.all_eq_true] at hr
        rw [Bool.true_and]
        by_cases ha : ∀ x ∈ e, 0 ≤ arity x.op
        · have : e.all (okNd n) = true := by
            rw [List.all_eq_true]
            intro x hx
            rw [okNd_rNd, hr x hx, decide_eq_true (ha x hx)]; rfl
          rw [this, Bool.true_and]
          have hx := exLen_rlen e 1 ha (Nat.le_refl _)
          rw [show ((1 : Nat) : Int) = 1 from rfl] at hx
          rw [hx]
          cases hl : rlen e 1 with
          | none =>
            rw [rlV_none]
            rw [show ((-1 : Int) == (e.length : Int)) = false by simp]
            simp
          | some k =>
            rw [rlV_some]
            simp only [Option.getD_some]
            by_cases hk : k = e.length
            · simp [hk]
            · have h3 : ¬ ((k : Int) = (e.length : Int)) := by omega
              rw [show ((k : Int) == (e.length : Int)) = false by simpa using h3, show (k == e.length) = false by simpa using hk]
        · have : e.all (okNd n) = false := by
            rw [List.all_eq_false]
            obtain ⟨x, hx⟩ := Classical.not_forall.1 ha
            obtain ⟨hm, hx⟩ := Classical.not_imp.1 hx
            exact ⟨x, hm, by rw [okNd_rNd, decide_eq_false hx]; simp⟩
          rw [this, Bool.false_and]
          cases hl : rlen e 1 with
          | none => rw [rlV_none]; simp
          | some k =>
            rw [rlV_some]
            have : ¬ ((k : Int) = (e.length : Int)) := fun hk => ha (rlen_all e 1 (by rw [hl]; congr 1; omega))
            simpa using this
    · rw [decide_eq_false h2]; simp
  · rw [decide_eq_false h1]; simp
theorem neq_iv (a b c d : Int) (w : World) : (binOp .neq 29 (.agg #[.int .i64 a, .int .i64 b]) (.agg #[.int .i64 c, .int .i64 d])).run Tryz.prog w = .ok (.bool (!(a == c && b == d))) w := by
  by_cases h1 : a = c <;> by_cases h2 : b = d <;> simp [go_sem, h1, h2]
set_option maxRecDepth 100000 in
set_option maxHeartbeats 16000000 in
theorem rValidExpr_any (v : Value) (e : List Nd) (n : Int) (w : World) (h : RdN w v e) : Calls Tryz.prog 15 #[v, .int .i64 n] w fun e' w' => e' = .returned (.bool (okEx n e)) ∧ Below w.heap.size w w' := by
  rw [← rEx_eq]
  have HV : Aside (rEx n e = (decide (0 < e.length) && decide (e.length ≤ 200) && e.all (rNd n) && (rlV (rlen e 1) == (e.length : Int)))) := ⟨rfl⟩
  have HRD := Aside.mk h
  obtain ⟨ao, c, rfl⟩ := h.slice
  obtain ⟨N, hN⟩ : ∃ N, e.length = N := ⟨_, rfl⟩
  have HNN := Aside.mk hN
  rw [hN] at HV ⊢
  have hfew := h.few
  rw [hN] at hfew
  have HF := Aside.mk hfew
  clear h hN hfew
  by_cases h0 : N = 0
  · have HV : Aside (rEx n e = false) := ⟨by rw [HV.out, h0]; rfl⟩
    have h0' : ((N : Int) == 0) = true := by rw [h0]; rfl
    clear h0
    go_enter Tryz.func15, Tryz.ntmps15
    go_wp2_with fail
    go_ret
    rw [HV.out]
    exact ⟨rfl, Below.refl _ _⟩
  · have h0' : ((N : Int) == 0) = false := by simpa using h0
    by_cases h200 : N ≤ 200
    · have h200' : decide ((200 : Int) < (N : Int)) = false := by simp; omega
      have hg200 : ¬ ((200 : Int) < (N : Int)) := by omega
      have H200 := Aside.mk h200
      have HV : Aside (rEx n e = (e.all (rNd n) && (rlV (rlen e 1) == (N : Int)))) := ⟨by rw [HV.out, decide_eq_true (show 0 < N by omega), decide_eq_true h200]; rfl⟩
      rcases HRD.out.out with ⟨hnil, -⟩ | ⟨b, o, c', hv, hcp, hc⟩
      · rw [hnil] at HNN; exact absurd HNN.out.symm (by simpa using h0)
      injection hv with q1 q2 q3
      subst q1 q3
      have HC := Aside.mk hc
      clear h0 h200 hc hcp q2
      go_enter Tryz.func15, Tryz.ntmps15
      go_wp2_with fail
      go_loopg [5, 6] N (fun m v5 v6 wr => ∃ i : Nat, v5 = .int .i64 (i : Nat) ∧ Aside (i ≤ N ∧ N - i ≤ m) ∧ Aside ((e.take i).all (rNd n) = true) ∧ Aside (Below w.heap.size w wr))
      case atStart => exact ⟨0, rfl, ⟨by simp⟩, ⟨rfl⟩, ⟨Below.refl _ _⟩⟩
      case round =>
        obtain ⟨i, rfl, HI, HA, HB⟩ := hrel
        by_cases hi : i < N
        · have hi' : (i : Int) < (N : Int) := by omega
          have hi9 : (i : Int) < 9000 := by have := HF.out; omega
          obtain ⟨x, hx⟩ : ∃ x, e[i]? = some x := ⟨_, List.getElem?_eq_getElem (by rw [HNN.out]; exact hi)⟩
          obtain ⟨xo, xn, xl, xh⟩ := x
          have nc : ∀ r, r < 4 → ∀ u, (nd4 ⟨xo, xn, xl, xh⟩)[r]? = some u → wr.cell? ⟨b, o + (i * 4 + r), none⟩ = some u := fun r hr u hu => by
            have := HC.out (i * 4 + r) u (by rw [nds_get e i _ r hx hr]; exact hu)
            rw [HB.out.cell (p := ⟨b, o + (i * 4 + r), none⟩) (World.block_lt_of_cell? w _ this)]; exact this
          have n0 := nc 0 (by decide) _ rfl
          have n1 := nc 1 (by decide) _ rfl
          have n2 := nc 2 (by decide) _ rfl
          have n3 := nc 3 (by decide) _ rfl
          simp only [Nat.add_zero, ← Nat.add_assoc] at n0 n1 n2 n3
          have HBAD : Aside (rNd n ⟨xo, xn, xl, xh⟩ = false → rEx n e = false) := ⟨fun hb => by
            rw [HV.out, show e.all (rNd n) = false by rw [List.all_eq_false]; exact ⟨_, List.mem_of_getElem? hx, by rw [hb]; simp⟩]; rfl⟩
          have HGOOD : Aside (rNd n ⟨xo, xn, xl, xh⟩ = true → (e.take (i + 1)).all (rNd n) = true) := ⟨fun hb => by
            rw [List.take_add_one, hx]; simp only [Option.toList_some, List.all_append, HA.out, List.all_cons, hb, List.all_nil, Bool.and_self]⟩
          have hal : Below wr.heap.size wr (wr.alloc (.cells #[.int .i64 xo, .int .i64 xn, .int .i64 xl, .int .i64 xh] 79)) := (Below.refl _ _).alloc (Nat.le_refl _) _
          have HBA := Aside.mk (HB.out.trans (hal.mono HB.out.size))
          have HRW := Aside.mk (heap_alloc_last wr (.cells #[.int .i64 xo, .int .i64 xn, .int .i64 xl, .int .i64 xh] 79))
          have hne := neq_iv
          obtain ⟨go, hgo⟩ : ∃ go, gk = go + 1 := ⟨gk - 1, by have := HI.out; omega⟩
          clear nc hx hal hi
          by_cases h1 : xo = 1
          · subst h1
            by_cases hz : xn = 0
            · subst hz
              go_wp2_with fail
              refine (rIvValid_any xl xh _).mono ?_
              rintro e' w3 ⟨rfl, hb3⟩
              have HB3 := Aside.mk (HBA.out.trans (hb3.mono HBA.out.size))
              have hrw := (hb3.block _ (heap_lt HRW.out)).trans HRW.out
              have k0 : w3.cell? ⟨wr.heap.size, 0, none⟩ = some (.int .i64 1) := by rw [cell_of_row _ _ 0 _ _ _ hrw]; rfl
              have k1 : w3.cell? ⟨wr.heap.size, 1, none⟩ = some (.int .i64 0) := by rw [cell_of_row _ _ 1 _ _ _ hrw]; rfl
              clear hb3 hrw
              cases hok : okIv xl xh with
              | false =>
                have HX := Aside.mk (HBAD.out (by unfold rNd; rw [if_pos rfl, hok]; rfl))
                go_wp2_with fail
                go_ret
                rw [HX.out]
                exact ⟨rfl, HB3.out⟩
              | true =>
                have HX := Aside.mk (HGOOD.out (by unfold rNd; rw [if_pos rfl, hok]; rfl))
                go_wp2_with fail
                go_roundg go
                case measure => omega
                case rel => exact ⟨i + 1, by go_num, ⟨by have := HI.out; have := hi'; omega⟩, HX, HB3⟩
            · have hz' : (xn == 0) = false := by simpa using hz
              have HX := Aside.mk (HBAD.out (by unfold rNd; rw [if_pos rfl, hz']; rfl))
              go_wp2_with fail
              go_ret
              rw [HX.out]
              exact ⟨rfl, HBA.out⟩
          · have h1' : (xo == 1) = false := by simpa using h1
            cases hiv : (xl == 0 && xh == 0) with
            | false =>
              have HX := Aside.mk (HBAD.out (by unfold rNd; rw [if_neg h1]; split <;> simp [hiv]))
              go_wp2_with fail
              go_ret
              rw [HX.out]
              exact ⟨rfl, HBA.out⟩
            | true =>
              by_cases h2 : xo = 2
              · subst h2
                by_cases hl : xn < 0
                · have hl2 : ¬ (0 ≤ xn) := by omega
                  have HX := Aside.mk (HBAD.out (by unfold rNd; rw [if_neg (show ¬ ((2 : Int) = 1) by decide), if_pos rfl, decide_eq_false hl2]; simp))
                  go_wp2_with fail
                  go_ret
                  rw [HX.out]
                  exact ⟨rfl, HBA.out⟩
                · have hl2 : 0 ≤ xn := by omega
                  by_cases hu : n ≤ xn
                  · have hu2 : ¬ (xn < n) := by omega
                    have HX := Aside.mk (HBAD.out (by unfold rNd; rw [if_neg (show ¬ ((2 : Int) = 1) by decide), if_pos rfl, decide_eq_false hu2]; simp))
                    go_wp2_with fail
                    go_ret
                    rw [HX.out]
                    exact ⟨rfl, HBA.out⟩
                  · have hu2 : xn < n := by omega
                    have HX := Aside.mk (HGOOD.out (by unfold rNd; rw [if_neg (show ¬ ((2 : Int) = 1) by decide), if_pos rfl, decide_eq_true hl2, decide_eq_true hu2, hiv]; rfl))
                    go_wp2_with fail
                    go_roundg go
                    case measure => omega
                    case rel => exact ⟨i + 1, by go_num, ⟨by have := HI.out; have := hi'; omega⟩, HX, HBA⟩
              · have h2' : (xo == 2) = false := by simpa using h2
                by_cases hz : xn = 0
                · subst hz
                  have HX := Aside.mk (HGOOD.out (by unfold rNd; rw [if_neg h1, if_neg h2, hiv]; rfl))
                  go_wp2_with fail
                  go_roundg go
                  case measure => omega
                  case rel => exact ⟨i + 1, by go_num, ⟨by have := HI.out; have := hi'; omega⟩, HX, HBA⟩
                · have hz' : (xn == 0) = false := by simpa using hz
                  have HZ := Aside.mk hz'
                  have hz2 : (xn != 0) = true := by simpa using hz
                  have h22 : (xo != 2) = true := by simpa using h2
                  have HX := Aside.mk (HBAD.out (by unfold rNd; rw [if_neg h1, if_neg h2, HZ.out]; rfl))
                  go_wp2_with fail
                  go_ret
                  rw [HX.out]
                  exact ⟨rfl, HBA.out⟩
        · have hi' : ¬ ((i : Int) < (N : Int)) := by omega
          have him : i = N := by have := HI.out; omega
          subst him
          have hall : e.all (rNd n) = true := by
            have := HA.out
            rwa [List.take_of_length_le (by rw [HNN.out]; exact Nat.le_refl _)] at this
          have HV2 : Aside (rEx n e = (rlV (rlen e 1) == (i : Int))) := ⟨by rw [HV.out, hall, Bool.true_and]⟩
          clear hall
          have hrd : RdN wr (.slice (some ⟨b, o, none⟩) i c) e := by
            have := HRD.out.below HB.out
            rw [HNN.out] at this; exact this
          go_wp2_with fail
          refine (rLen_any _ e (Nat.le_refl _) _ wr hrd).mono ?_
          rintro e' w2 ⟨rfl, hb2⟩
          have HB2 := Aside.mk (HB.out.trans (hb2.mono HB.out.size))
          clear hb2 hrd
          generalize rlV (rlen e 1) = rl at HV2 ⊢
          go_wp2_with fail
          go_ret
          rw [HV2.out]
          exact ⟨rfl, HB2.out⟩
    · have h200' : (200 : Int) < (N : Int) := by omega
      have HV : Aside (rEx n e = false) := ⟨by rw [HV.out, decide_eq_false h200]; simp⟩
      clear h200
      go_enter Tryz.func15, Tryz.ntmps15
      go_wp2_with fail
      go_ret
      rw [HV.out]
      exact ⟨rfl, Below.refl _ _⟩
end Go.Proofs.YthcidkidpiaomaaGreatDoor.Od
end
section
set_option linter.unusedVariables false
set_option linter.unusedSimpArgs false
namespace Go.Proofs.YthcidkidpiaomaaGreatDoor.Od
open Go.RowKit Rg
set_option maxRecDepth 100000 in
set_option maxHeartbeats 8000000 in
theorem rKeyword_any (s : ByteArray) (w : World) : Calls Tryz.prog 109 #[.string s] w fun e w' => e = .returned (.bool (keyword s.data.toList)) ∧ w' = w := by
  go_enter Tryz.func109, Tryz.ntmps109
  go_wp2_with fail
  all_goals
    go_ret
    refine ⟨?_, rfl⟩
    simp_all [keyword, wT, wSqr, wSqrt, wAll, ByteArray.toList_eq]
set_option maxRecDepth 100000 in
theorem rLetter_any (c : UInt8) (w : World) : Calls Tryz.prog 110 #[.int .u8 c.toNat] w fun e w' => e = .returned (.bool (isLt c)) ∧ w' = w := by
  rw [isLt_nat]
  obtain ⟨X, hX⟩ : ∃ X : Nat, c.toNat = X := ⟨_, rfl⟩
  rw [hX]
  by_cases h : (97 : Int) ≤ X
  · go_enter Tryz.func110, Tryz.ntmps110
    go_wp2_with fail
    go_ret
    exact ⟨by first | rfl | (rw [decide_eq_true h]; rfl), rfl⟩
  · have d := decide_eq_false h
    clear h
    go_enter Tryz.func110, Tryz.ntmps110
    go_wp2_with fail
    go_ret
    exact ⟨by first | rfl | (rw [d]; rfl), rfl⟩
set_option maxRecDepth 100000 in
theorem rDigit_any (c : UInt8) (w : World) : Calls Tryz.prog 111 #[.int .u8 c.toNat] w fun e w' => e = .returned (.bool (isDg c)) ∧ w' = w := by
  rw [isDg_nat]
  obtain ⟨X, hX⟩ : ∃ X : Nat, c.toNat = X := ⟨_, rfl⟩
  rw [hX]
  by_cases h : (48 : Int) ≤ X
  · go_enter Tryz.func111, Tryz.ntmps111
    go_wp2_with fail
    go_ret
    exact ⟨by first | rfl | (rw [decide_eq_true h]; rfl), rfl⟩
  · have d := decide_eq_false h
    clear h
    go_enter Tryz.func111, Tryz.ntmps111
    go_wp2_with fail
    go_ret
    exact ⟨by first | rfl | (rw [d]; rfl), rfl⟩
set_option maxRecDepth 100000 in
set_option maxHeartbeats 8000000 in
theorem rValidName_any (s : ByteArray) (hs : s.size ≤ 140737488351232) (w : World) : Calls Tryz.prog 63 #[.string s] w fun e w' => e = .returned (.bool (okName s.data.toList)) ∧ w' = w := by
  have hsz : s.data.toList.length = s.size := rfl
  have HN : Aside (okName s.data.toList = (decide (0 < s.size) && decide (s.size ≤ 12) && (s.data.toList.head?).any isLt && !keyword s.data.toList && s.data.toList.all isLD)) := ⟨rfl⟩
  have HSZ := Aside.mk hsz
  clear hsz
  by_cases h0 : s.size = 0
  · have HN : Aside (okName s.data.toList = false) := ⟨by rw [HN.out, h0]; rfl⟩
    go_enter Tryz.func63, Tryz.ntmps63
    go_wp2_with fail
    go_ret
    rw [HN.out]; exact ⟨rfl, rfl⟩
  · have h0b : ((s.size : Int) == 0) = false := by simpa using h0
    by_cases h12 : s.size ≤ 12
    · have h12b : decide ((12 : Int) < (s.size : Int)) = false := by simp; omega
      have hpos : (0 : Int) < (s.size : Int) := by omega
      have hposn : 0 < s.size := by omega
      have hg12 : ¬ ((12 : Int) < (s.size : Int)) := by omega
      have hhd : s.data.toList.head? = some s[0] := by
        rw [List.head?_eq_getElem?]; exact List.getElem?_eq_getElem (by rw [HSZ.out]; exact hposn)
      have HN : Aside (okName s.data.toList = (isLt s[0] && !keyword s.data.toList && s.data.toList.all isLD)) := ⟨by
        rw [HN.out, decide_eq_true hposn, decide_eq_true h12, hhd]; rfl⟩
      have H12 := Aside.mk h12
      obtain ⟨k, hk⟩ : ∃ k, keyword s.data.toList = k := ⟨_, rfl⟩
      have HK := Aside.mk hk
      have HKY := Aside.mk (rKeyword_any s)
      rw [hk] at HKY HN
      clear hk h0 h12 hhd
      go_enter Tryz.func63, Tryz.ntmps63
      go_wp2_with fail
      refine (HKY.out w).mono ?_
      rintro e w1 ⟨rfl, hw1⟩
      have hw1' := hw1.symm
      subst hw1'
      cases k with
      | true =>
        have HN : Aside (okName s.data.toList = false) := ⟨by rw [HN.out]; simp⟩
        go_wp2_with fail
        go_ret
        rw [HN.out]; exact ⟨rfl, rfl⟩
      | false =>
        go_wp2_with fail
        refine (rLetter_any s[0] w).mono ?_
        rintro e w1 ⟨rfl, hw1⟩
        have hw1' := hw1.symm
        subst hw1'
        cases hl : isLt s[0] with
        | false =>
          have HN : Aside (okName s.data.toList = false) := ⟨by rw [HN.out, hl]; rfl⟩
          go_wp2_with fail
          go_ret
          rw [HN.out]; exact ⟨rfl, rfl⟩
        | true =>
          have HN : Aside (okName s.data.toList = s.data.toList.all isLD) := ⟨by rw [HN.out, hl]; rfl⟩
          clear hl
          go_wp2_with fail
          go_loopg [3] s.size (fun m v3 wr => ∃ i : Nat, v3 = .int .i64 (i : Nat) ∧ Aside (i ≤ s.size ∧ s.size - i ≤ m) ∧ Aside ((s.data.toList.take i).all isLD = true) ∧ wr = w)
          case atStart => exact ⟨0, rfl, ⟨by simp⟩, ⟨rfl⟩, rfl⟩
          case round =>
            obtain ⟨i, rfl, HI, HA, hwr⟩ := hrel
            have hwr' := hwr.symm
            subst hwr'
            by_cases hi : i < s.size
            · have hi' : (i : Int) < (s.size : Int) := by omega
              have hi9 : (i : Int) < 9000 := by have := H12.out; omega
              have hget : s.data.toList[i]? = some s[i] := List.getElem?_eq_getElem (by rw [HSZ.out]; exact hi)
              have HBAD : Aside (isLD s[i] = false → okName s.data.toList = false) := ⟨fun hb => by
                rw [HN.out, List.all_eq_false]; exact ⟨_, List.mem_of_getElem? hget, by rw [hb]; simp⟩⟩
              have HGOOD : Aside (isLD s[i] = true → (s.data.toList.take (i + 1)).all isLD = true) := ⟨fun hb => by
                rw [List.take_add_one, hget]; simp only [Option.toList_some, List.all_append, HA.out, List.all_cons, hb, List.all_nil, Bool.and_self]⟩
              obtain ⟨go, hgo⟩ : ∃ go, gk = go + 1 := ⟨gk - 1, by have := HI.out; omega⟩
              clear hget
              have HCL := Aside.mk (rLetter_any s[i] w)
              have HCD := Aside.mk (rDigit_any s[i] w)
              obtain ⟨b1, hb1⟩ : ∃ b, isLt s[i] = b := ⟨_, rfl⟩
              obtain ⟨b2, hb2⟩ : ∃ b, isDg s[i] = b := ⟨_, rfl⟩
              have HLD : Aside (isLD s[i] = (b1 || b2)) := ⟨by unfold isLD; rw [hb1, hb2]⟩
              rw [hb1] at HCL
              rw [hb2] at HCD
              clear hb1 hb2
              go_wp2_with fail
              refine HCL.out.mono ?_
              rintro e w1 ⟨rfl, hw1⟩
              have hw1' := hw1.symm
              subst hw1'
              cases b1 with
              | true =>
                have HX := Aside.mk (HGOOD.out (by rw [HLD.out]; rfl))
                go_wp2_with fail
                go_roundg go
                case measure => omega
                case rel => exact ⟨i + 1, by go_num, ⟨by have := HI.out; omega⟩, HX, rfl⟩
              | false =>
                go_wp2_with fail
                refine HCD.out.mono ?_
                rintro e w1 ⟨rfl, hw1⟩
                have hw1' := hw1.symm
                subst hw1'
                cases b2 with
                | true =>
                  have HX := Aside.mk (HGOOD.out (by rw [HLD.out]; rfl))
                  go_wp2_with fail
                  go_roundg go
                  case measure => omega
                  case rel => exact ⟨i + 1, by go_num, ⟨by have := HI.out; omega⟩, HX, rfl⟩
                | false =>
                  have HX := Aside.mk (HBAD.out (by rw [HLD.out]; rfl))
                  go_wp2_with fail
                  go_ret
                  rw [HX.out]; exact ⟨rfl, rfl⟩
            · have hi' : ¬ ((i : Int) < (s.size : Int)) := by omega
              have hall : s.data.toList.all isLD = true := by
                have := HA.out
                rwa [List.take_of_length_le (by rw [HSZ.out]; omega)] at this
              have HX : Aside (okName s.data.toList = true) := ⟨by rw [HN.out, hall]⟩
              clear hall
              go_wp2_with fail
              go_ret
              rw [HX.out]; exact ⟨rfl, rfl⟩
    · have h12' : (12 : Int) < (s.size : Int) := by omega
      have HN : Aside (okName s.data.toList = false) := ⟨by rw [HN.out, decide_eq_false h12]; simp⟩
      clear h12
      go_enter Tryz.func63, Tryz.ntmps63
      go_wp2_with fail
      go_ret
      rw [HN.out]; exact ⟨rfl, rfl⟩
theorem idxOf_step {vars : List (List UInt8)} {x y : List UInt8} {i : Nat} (h : vars[i]? = some y) (hpre : ∀ z ∈ vars.take i, z ≠ x) (hy : y = x) : idxOf vars x = some i := by
  subst hy
  unfold idxOf
  obtain ⟨hi, rfl⟩ := List.getElem?_eq_some_iff.1 h
  rw [List.findIdx?_eq_some_iff_getElem]
  refine ⟨hi, by simp, fun j hj => ?_⟩
  have := hpre vars[j] (by rw [List.mem_take_iff_getElem]; exact ⟨j, by omega, rfl⟩)
  simpa using this
theorem idxOf_none {vars : List (List UInt8)} {x : List UInt8} (h : ∀ z ∈ vars, z ≠ x) : idxOf vars x = none := by
  unfold idxOf
  rw [List.findIdx?_eq_none_iff]
  intro z hz
  simpa using h z hz
set_option maxRecDepth 100000 in
set_option maxHeartbeats 8000000 in
theorem rIndex_any (v : Value) (xs : List ByteArray) (x : ByteArray) (w : World) (h : Strs w v xs) : Calls Tryz.prog 64 #[v, .string x] w fun e w' => e = .returned (.int .i64 (idxV (idxOf (strL xs) x.data.toList))) ∧ w' = w := by
  obtain ⟨ao, c, rfl, hat⟩ := h.at
  have HAT := Aside.mk hat
  have hfew := h.few
  obtain ⟨N, hN⟩ : ∃ N, xs.length = N := ⟨_, rfl⟩
  have HN := Aside.mk hN
  rw [hN] at hfew ⊢
  have HF := Aside.mk hfew
  have hN9 : (N : Int) ≤ 90000 := by omega
  clear h hat hN hfew
  go_enter Tryz.func64, Tryz.ntmps64
  go_wp2_with fail
  go_loopg [5] N (fun m v5 wr => ∃ i : Nat, v5 = .int .i64 (i : Nat) ∧ Aside (i ≤ N ∧ N - i ≤ m) ∧ Aside (∀ z ∈ (strL xs).take i, z ≠ x.data.toList) ∧ wr = w)
  case atStart => exact ⟨0, rfl, ⟨by simp⟩, ⟨by simp⟩, rfl⟩
  case round =>
    obtain ⟨i, rfl, HI, HA, hwr⟩ := hrel
    have hwr' := hwr.symm
    subst hwr'
    by_cases hi : i < N
    · have hi' : (i : Int) < (N : Int) := by omega
      obtain ⟨y, hy⟩ : ∃ y, xs[i]? = some y := ⟨_, List.getElem?_eq_getElem (by rw [HN.out]; exact hi)⟩
      obtain ⟨b, o, rfl, cy⟩ := HAT.out i y hy
      have hyl : (strL xs)[i]? = some y.data.toList := by unfold strL; rw [List.getElem?_map, hy]; rfl
      have HYL := Aside.mk hyl
      obtain ⟨go, hgo⟩ : ∃ go, gk = go + 1 := ⟨gk - 1, by have := HI.out; omega⟩
      clear hy hyl
      by_cases heq : y.toList = x.toList
      · have HX : Aside (idxOf (strL xs) x.data.toList = some i) := ⟨idxOf_step HYL.out HA.out (by rw [← ByteArray.toList_eq, ← ByteArray.toList_eq]; exact heq)⟩
        go_wp2_with fail
        go_ret
        rw [HX.out]
        exact ⟨rfl, rfl⟩
      · have HX : Aside (∀ z ∈ (strL xs).take (i + 1), z ≠ x.data.toList) := ⟨fun z hz => by
          rw [List.take_add_one, HYL.out] at hz
          rcases List.mem_append.1 hz with hz | hz
          · exact HA.out z hz
          · simp only [Option.toList_some, List.mem_singleton] at hz
            rw [hz, ← ByteArray.toList_eq, ← ByteArray.toList_eq]; exact heq⟩
        have hq : (y.toList == x.toList) = false := by simpa using heq
        clear heq
        go_wp2_with fail
        go_roundg go
        case measure => omega
        case rel => exact ⟨i + 1, by go_num, ⟨by have := HI.out; omega⟩, HX, rfl⟩
    · have hi' : ¬ ((i : Int) < (N : Int)) := by omega
      have HX : Aside (idxOf (strL xs) x.data.toList = none) := ⟨by
        refine idxOf_none fun z hz => HA.out z ?_
        rw [List.take_of_length_le (by unfold strL; rw [List.length_map, HN.out]; omega)]; exact hz⟩
      go_wp2_with fail
      go_ret
      rw [HX.out]
      exact ⟨rfl, rfl⟩
end Go.Proofs.YthcidkidpiaomaaGreatDoor.Od
end
section
set_option linter.unusedVariables false
set_option linter.unusedSimpArgs false
namespace Go.Proofs.YthcidkidpiaomaaGreatDoor.Od
open Go.RowKit Rg
theorem neq_nd (a b c d : Int) (w : World) : (binOp .neq 79 (.agg #[.int .i64 a, .int .i64 b, .int .i64 c, .int .i64 d]) (.agg #[.int .i64 a, .int .i64 b, .int .i64 c, .int .i64 d])).run Tryz.prog w = .ok (.bool false) w := by
  simp [go_sem]
theorem neq_iv0 (a b : Int) (w : World) : (binOp .neq 29 (.agg #[.int .i64 a, .int .i64 b]) (.agg #[.int .i64 a, .int .i64 b])).run Tryz.prog w = .ok (.bool false) w := by
  rw [neq_iv]; simp
theorem RdN.node {w : World} {v : Value} {e : List Nd} (h : RdN w v e) {i : Nat} {x : Nd} (hx : e[i]? = some x) : ∃ b o c, v = .slice (some ⟨b, o, none⟩) e.length c ∧ w.cell? ⟨b, o + i * 4, none⟩ = some (.int .i64 x.op) ∧ w.cell? ⟨b, o + i * 4 + 1, none⟩ = some (.int .i64 x.n) ∧ w.cell? ⟨b, o + i * 4 + 2, none⟩ = some (.int .i64 x.lo) ∧ w.cell? ⟨b, o + i * 4 + 3, none⟩ = some (.int .i64 x.hi) := by
  rcases h.out with ⟨rfl, -⟩ | ⟨b, o, c, rfl, -, hc⟩
  · simp at hx
  · have nc : ∀ r, r < 4 → ∀ u, (nd4 x)[r]? = some u → w.cell? ⟨b, o + (i * 4 + r), none⟩ = some u := fun r hr u hu => hc (i * 4 + r) u (by rw [nds_get e i x r hx hr]; exact hu)
    exact ⟨b, o, c, rfl, nc 0 (by decide) _ rfl, nc 1 (by decide) _ rfl, nc 2 (by decide) _ rfl, nc 3 (by decide) _ rfl⟩
set_option maxRecDepth 100000 in
set_option maxHeartbeats 8000000 in
theorem rSame_any (v v' : Value) (e : List Nd) (w : World) (h : RdN w v e) (h' : RdN w v' e) : Calls Tryz.prog 24 #[v, v'] w fun e' w' => e' = .returned (.bool true) ∧ Below w.heap.size w w' := by
  obtain ⟨a1, c1, rfl⟩ := h.slice
  obtain ⟨a2, c2, rfl⟩ := h'.slice
  have H1 := Aside.mk h
  have H2 := Aside.mk h'
  have hfew := h.few
  obtain ⟨N, hN⟩ : ∃ N, e.length = N := ⟨_, rfl⟩
  have HN := Aside.mk (And.intro hN (hN ▸ hfew))
  have hN9 : (N : Int) ≤ 9000 := by omega
  rw [hN]
  clear h h' hfew hN
  go_enter Tryz.func24, Tryz.ntmps24
  go_wp2_with fail
  go_loopg [5] N (fun m v5 wr => ∃ i : Nat, v5 = .int .i64 (i : Nat) ∧ Aside (i ≤ N ∧ N - i ≤ m) ∧ Aside (Below w.heap.size w wr))
  case atStart => exact ⟨0, rfl, ⟨by simp⟩, ⟨Below.refl _ _⟩⟩
  case round =>
    obtain ⟨i, rfl, HI, HB⟩ := hrel
    by_cases hi : i < N
    · have hi' : (i : Int) < (N : Int) := by omega
      obtain ⟨x, hx⟩ : ∃ x, e[i]? = some x := ⟨_, List.getElem?_eq_getElem (by rw [HN.out.1]; exact hi)⟩
      obtain ⟨b, o, c, hv, p0, p1, p2, p3⟩ := (H1.out.below HB.out).node hx
      injection hv with q1 q2 q3
      subst q1 q3
      obtain ⟨b', o', c', hv, r0, r1, r2, r3⟩ := (H2.out.below HB.out).node hx
      injection hv with q1 q2 q3
      subst q1 q3
      obtain ⟨xo, xn, xl, xh⟩ := x
      have hne := neq_nd
      obtain ⟨go, hgo⟩ : ∃ go, gk = go + 1 := ⟨gk - 1, by have := HI.out; omega⟩
      clear hx hi
      go_wp2_with fail
      go_quiet (fail)
      go_wp2_with fail
      go_roundg go
      case measure => omega
      case rel => exact ⟨i + 1, by go_num, ⟨by have := HI.out; omega⟩, ⟨HB.out.trans ⟨rfl, rfl, rfl, Nat.le_refl _, fun _ _ => rfl⟩⟩⟩
    · have hi' : ¬ ((i : Int) < (N : Int)) := by omega
      go_wp2_with fail
      go_ret
      exact ⟨rfl, HB.out⟩
theorem Ivs.at {w : World} {v : Value} {xs : List Iv} (h : Ivs w v xs) {i : Nat} {a : Iv} (ha : xs[i]? = some a) : ∃ b o c, v = .slice (some ⟨b, o, none⟩) xs.length c ∧ w.cell? ⟨b, o + i * 2, none⟩ = some (.int .i64 a.1) ∧ w.cell? ⟨b, o + i * 2 + 1, none⟩ = some (.int .i64 a.2) := by
  obtain ⟨ax, cx, hv, hc⟩ := h.out
  obtain ⟨b, o, rfl, h1, h2⟩ := hc i a ha
  exact ⟨b, o, cx, hv, h1, h2⟩
set_option maxRecDepth 100000 in
set_option maxHeartbeats 8000000 in
theorem rBoxSame_any (v v' : Value) (xs : List Iv) (w : World) (h : Ivs w v xs) (h' : Ivs w v' xs) : Calls Tryz.prog 27 #[v, v'] w fun e' w' => e' = .returned (.bool true) ∧ Below w.heap.size w w' := by
  obtain ⟨a1, c1, rfl, -⟩ := h.out
  obtain ⟨a2, c2, rfl, -⟩ := h'.out
  have H1 := Aside.mk h
  have H2 := Aside.mk h'
  have hfew := h.few
  obtain ⟨N, hN⟩ : ∃ N, xs.length = N := ⟨_, rfl⟩
  have HN := Aside.mk (And.intro hN (hN ▸ hfew))
  have hN9 : (N : Int) ≤ 9000 := by omega
  rw [hN]
  clear h h' hfew hN
  go_enter Tryz.func27, Tryz.ntmps27
  go_wp2_with fail
  go_loopg [5] N (fun m v5 wr => ∃ i : Nat, v5 = .int .i64 (i : Nat) ∧ Aside (i ≤ N ∧ N - i ≤ m) ∧ Aside (Below w.heap.size w wr))
  case atStart => exact ⟨0, rfl, ⟨by simp⟩, ⟨Below.refl _ _⟩⟩
  case round =>
    obtain ⟨i, rfl, HI, HB⟩ := hrel
    by_cases hi : i < N
    · have hi' : (i : Int) < (N : Int) := by omega
      obtain ⟨x, hx⟩ : ∃ x, xs[i]? = some x := ⟨_, List.getElem?_eq_getElem (by rw [HN.out.1]; exact hi)⟩
      obtain ⟨b, o, c, hv, p0, p1⟩ := (H1.out.below HB.out).at hx
      injection hv with q1 q2 q3
      subst q1 q3
      obtain ⟨b', o', c', hv, r0, r1⟩ := (H2.out.below HB.out).at hx
      injection hv with q1 q2 q3
      subst q1 q3
      obtain ⟨xl, xh⟩ := x
      have hne := neq_iv0
      obtain ⟨go, hgo⟩ : ∃ go, gk = go + 1 := ⟨gk - 1, by have := HI.out; omega⟩
      clear hx hi
      go_wp2_with fail
      go_quiet (fail)
      go_wp2_with fail
      go_roundg go
      case measure => omega
      case rel => exact ⟨i + 1, by go_num, ⟨by have := HI.out; omega⟩, ⟨HB.out.trans ⟨rfl, rfl, rfl, Nat.le_refl _, fun _ _ => rfl⟩⟩⟩
    · have hi' : ¬ ((i : Int) < (N : Int)) := by omega
      go_wp2_with fail
      go_ret
      exact ⟨rfl, HB.out⟩
set_option maxRecDepth 100000 in
set_option maxHeartbeats 8000000 in
theorem rEntire_any (w : World) : Calls Tryz.prog 66 #[] w fun e w' => e = .returned (ivV ent) ∧ Below w.heap.size w w' := by
  go_enter Tryz.func66, Tryz.ntmps66
  go_wp2_with fail
  exact ret_iv rfl rfl (heap_alloc_last w _) ⟨rfl, (Below.refl _ _).alloc (Nat.le_refl _) _⟩
theorem newI_vld (lo hi : Int) : newI lo hi = if vld lo = true ∧ vld hi = true then (lo, hi) else ent := by
  unfold newI vld maxV
  simp only [Bool.and_eq_true, decide_eq_true_eq, and_assoc]
set_option maxRecDepth 100000 in
set_option maxHeartbeats 8000000 in
theorem rNew_any (lo hi : Int) (w : World) : Calls Tryz.prog 102 #[.int .i64 lo, .int .i64 hi] w fun e w' => e = .returned (ivV (newI lo hi)) ∧ Below w.heap.size w w' := by
  have HN := Aside.mk (newI_vld lo hi)
  have hal := heap_alloc_last w (.cells #[.int .i64 0, .int .i64 0] 29)
  have hbl : Below w.heap.size w (w.alloc (.cells #[.int .i64 0, .int .i64 0] 29)) := (Below.refl _ _).alloc (Nat.le_refl _) _
  have HAL := Aside.mk hal
  have HBL := Aside.mk hbl
  clear hal hbl
  obtain ⟨b1, hb1⟩ : ∃ b, vld lo = b := ⟨_, rfl⟩
  obtain ⟨b2, hb2⟩ : ∃ b, vld hi = b := ⟨_, rfl⟩
  have HC1 := Aside.mk (rNumber_any lo)
  have HC2 := Aside.mk (rNumber_any hi)
  rw [hb1] at HC1 HN
  rw [hb2] at HC2 HN
  clear hb1 hb2
  go_enter Tryz.func102, Tryz.ntmps102
  go_wp2_with fail
  obtain ⟨g, hg⟩ : ∃ g, w.heap.size = g := ⟨_, rfl⟩
  have HG := Aside.mk hg
  rw [hg] at HAL HBL
  simp only [hg]
  clear hg
  generalize w.alloc (.cells #[.int .i64 0, .int .i64 0] 29) = W at HAL HBL ⊢
  refine (HC1.out W).mono ?_
  rintro e w1 ⟨rfl, hw1⟩
  have hw1' := hw1.symm
  subst hw1'
  cases b1 with
  | false =>
    go_wp2_with fail
    refine (rEntire_any W).mono ?_
    rintro e w2 ⟨rfl, hb2⟩
    have HR2 := Aside.mk ((hb2.block _ (heap_lt HAL.out)).trans HAL.out)
    have HB2 := Aside.mk (HBL.out.trans (hb2.mono (Nat.le_of_lt (heap_lt HAL.out))))
    clear hb2
    unfold ivV
    go_wp2_with (first | (refine wpList_store_iv rfl (.tmp 4) (.tmp 13) rfl g _ _ rfl rfl _ _ HR2.out ?_; intro w3 hr3 hb3 hk3 hs3))
    have HN2 : Aside (newI lo hi = ent) := ⟨by rw [HN.out, if_neg (by simp)]⟩
    rw [HN2.out]
    exact ret_iv rfl rfl hr3 ⟨rfl, HG.out ▸ HB2.out.trans hb3⟩
  | true =>
    go_wp2_with fail
    refine (HC2.out W).mono ?_
    rintro e w1 ⟨rfl, hw1⟩
    have hw1' := hw1.symm
    subst hw1'
    cases b2 with
    | false =>
      go_wp2_with fail
      refine (rEntire_any W).mono ?_
      rintro e w2 ⟨rfl, hb2⟩
      have HR2 := Aside.mk ((hb2.block _ (heap_lt HAL.out)).trans HAL.out)
      have HB2 := Aside.mk (HBL.out.trans (hb2.mono (Nat.le_of_lt (heap_lt HAL.out))))
      clear hb2
      unfold ivV
      go_wp2_with (first | (refine wpList_store_iv rfl (.tmp 4) (.tmp 13) rfl g _ _ rfl rfl _ _ HR2.out ?_; intro w3 hr3 hb3 hk3 hs3))
      have HN2 : Aside (newI lo hi = ent) := ⟨by rw [HN.out, if_neg (by simp)]⟩
      rw [HN2.out]
      exact ret_iv rfl rfl hr3 ⟨rfl, HG.out ▸ HB2.out.trans hb3⟩
    | true =>
      go_wp2_with (first | (refine wpList_store_iv rfl (.tmp 4) (.tmp 16) rfl g _ _ rfl rfl _ _ HAL.out ?_; intro w3 hr3 hb3 hk3 hs3))
      have HN2 : Aside (newI lo hi = (lo, hi)) := ⟨by rw [HN.out, if_pos (by simp)]⟩
      rw [HN2.out]
      exact ret_iv rfl rfl hr3 ⟨rfl, HG.out ▸ HBL.out.trans hb3⟩
set_option maxRecDepth 100000 in
set_option maxHeartbeats 8000000 in
theorem rPoint_any (x : Int) (w : World) : Calls Tryz.prog 51 #[.int .i64 x] w fun e w' => e = .returned (ivV (newI x x)) ∧ Below w.heap.size w w' := by
  have hal := heap_alloc_last w (.cells #[.int .i64 0, .int .i64 0] 29)
  have hbl : Below w.heap.size w (w.alloc (.cells #[.int .i64 0, .int .i64 0] 29)) := (Below.refl _ _).alloc (Nat.le_refl _) _
  have HAL := Aside.mk hal
  have HBL := Aside.mk hbl
  clear hal hbl
  go_enter Tryz.func51, Tryz.ntmps51
  go_wp2_with fail
  obtain ⟨g, hg⟩ : ∃ g, w.heap.size = g := ⟨_, rfl⟩
  have HG := Aside.mk hg
  rw [hg] at HAL HBL
  simp only [hg]
  clear hg
  generalize w.alloc (.cells #[.int .i64 0, .int .i64 0] 29) = W at HAL HBL ⊢
  refine (rNew_any x x W).mono ?_
  rintro e w2 ⟨rfl, hb2⟩
  have HR2 := Aside.mk ((hb2.block _ (heap_lt HAL.out)).trans HAL.out)
  have HB2 := Aside.mk (HBL.out.trans (hb2.mono (Nat.le_of_lt (heap_lt HAL.out))))
  clear hb2
  unfold ivV
  go_wp2_with (first | (refine wpList_store_iv rfl (.tmp 2) (.tmp 5) rfl g _ _ rfl rfl _ _ HR2.out ?_; intro w3 hr3 hb3 hk3 hs3))
  exact ret_iv rfl rfl hr3 ⟨rfl, HG.out ▸ HB2.out.trans hb3⟩
set_option maxRecDepth 100000 in
set_option maxHeartbeats 8000000 in
theorem rConst_any (a : Iv) (w : World) : Calls Tryz.prog 52 #[ivV a] w fun e w' => ∃ v, e = .returned v ∧ OwnN w.heap.size w' v [⟨1, 0, a.1, a.2⟩] ∧ Below w.heap.size w w' := by
  unfold ivV
  go_enter Tryz.func52, Tryz.ntmps52
  go_wp2_with fail
  go_ret
  refine ⟨_, rfl, ?_, ?_⟩
  · refine own_one ?_ ?_ rfl
    · have := heap_alloc_last (w.alloc (.cells #[.int .i64 a.1, .int .i64 a.2] 29)) (.cells #[.int .i64 1, .int .i64 0, .int .i64 a.1, .int .i64 a.2] 79)
      simpa using this
    · simp
  · exact ((Below.refl _ _).alloc (Nat.le_refl _) _).alloc (by simp) _
end Go.Proofs.YthcidkidpiaomaaGreatDoor.Od
end
section
set_option linter.unusedVariables false
set_option linter.unusedSimpArgs false
namespace Go.Proofs.YthcidkidpiaomaaGreatDoor.Od
open Go.RowKit Rg
set_option maxRecDepth 100000 in
set_option maxHeartbeats 8000000 in
theorem rUnary_any (w : World) (op : Int) (v : Value) (e : List Nd) (h : Rd w v e) (hne : e ≠ []) (hl : e.length ≤ 90000) :
    Calls Tryz.prog 41 #[.int .i64 op, v] w fun e' w' => ∃ v', e' = .returned v' ∧ OwnN w.heap.size w' v' (⟨op, 0, 0, 0⟩ :: e) ∧ Below w.heap.size w w' := by
  have hal : Below w.heap.size w (w.alloc (.cells #[.int .i64 op, .int .i64 0, .int .i64 0, .int .i64 0] 79)) := (Below.refl _ _).alloc (Nat.le_refl _) _
  have HAL := Aside.mk hal
  have HR := Aside.mk (h.below hal)
  have HNE := Aside.mk hne
  have HL : Aside ([(⟨op, 0, 0, 0⟩ : Nd)].length + e.length ≤ 100000) := ⟨by simp only [List.length_cons, List.length_nil]; omega⟩
  have HOW : Aside (OwnN w.heap.size (w.alloc (.cells #[.int .i64 op, .int .i64 0, .int .i64 0, .int .i64 0] 79)) (.slice (some ⟨w.heap.size, 0, none⟩) 1 1) [⟨op, 0, 0, 0⟩]) := ⟨own_one (heap_alloc_last _ _) (Nat.le_refl _) rfl⟩
  obtain ⟨ao, cap, rfl, -⟩ := h.out
  clear h hne hl hal
  go_enter Tryz.func41, Tryz.ntmps41
  go_wp2_with (first | (at_builtin; refine wpList_append_nodes _ rfl (.tmp 9) (.tmp 10) rfl w.heap.size _ [⟨op, 0, 0, 0⟩] rfl HOW.out _ e rfl HR.out HNE.out HL.out HAL.out.size ?_; intro v3 w3 ho3 hb3))
  go_ret
  exact ⟨_, rfl, ho3, HAL.out.trans hb3⟩
set_option maxRecDepth 100000 in
set_option maxHeartbeats 8000000 in
theorem rBinary_any (w : World) (op : Int) (v u : Value) (e f : List Nd) (h : Rd w v e) (hne : e ≠ []) (h' : Rd w u f) (hnf : f ≠ []) (hl : e.length + f.length ≤ 90000) :
    Calls Tryz.prog 40 #[.int .i64 op, v, u] w fun e' w' => ∃ v', e' = .returned v' ∧ OwnN w.heap.size w' v' (⟨op, 0, 0, 0⟩ :: (e ++ f)) ∧ Below w.heap.size w w' := by
  have hal : Below w.heap.size w (w.alloc (.cells #[.int .i64 op, .int .i64 0, .int .i64 0, .int .i64 0] 79)) := (Below.refl _ _).alloc (Nat.le_refl _) _
  have HAL := Aside.mk hal
  have HR := Aside.mk (h.below hal)
  have HR' := Aside.mk (h'.below hal)
  have H0 := Aside.mk h'
  have HNE := Aside.mk hne
  have HNF := Aside.mk hnf
  have HL : Aside ([(⟨op, 0, 0, 0⟩ : Nd)].length + e.length ≤ 100000) := ⟨by simp only [List.length_cons, List.length_nil]; omega⟩
  have HL2 : Aside (([(⟨op, 0, 0, 0⟩ : Nd)] ++ e).length + f.length ≤ 100000) := ⟨by simp only [List.length_append, List.length_cons, List.length_nil]; omega⟩
  have HOW : Aside (OwnN w.heap.size (w.alloc (.cells #[.int .i64 op, .int .i64 0, .int .i64 0, .int .i64 0] 79)) (.slice (some ⟨w.heap.size, 0, none⟩) 1 1) [⟨op, 0, 0, 0⟩]) := ⟨own_one (heap_alloc_last _ _) (Nat.le_refl _) rfl⟩
  obtain ⟨ao, cap, rfl, -⟩ := h.out
  obtain ⟨ao', cap', rfl, -⟩ := h'.out
  clear h hne hl hal h' hnf
  go_enter Tryz.func40, Tryz.ntmps40
  go_wp2_with (first | (at_builtin; refine wpList_append_nodes _ rfl (.tmp 11) (.tmp 12) rfl w.heap.size _ [⟨op, 0, 0, 0⟩] rfl HOW.out _ e rfl HR.out HNE.out HL.out HAL.out.size ?_; intro v3 w3 ho3 hb3; have HO3 := Aside.mk ho3; have HB3 := Aside.mk (HAL.out.trans hb3); have HF3 := Aside.mk (H0.out.below HB3.out); clear ho3 hb3) | (at_builtin; refine wpList_append_nodes _ rfl (.tmp 14) (.tmp 15) rfl w.heap.size _ _ rfl HO3.out _ f rfl HF3.out HNF.out HL2.out HB3.out.size ?_; intro v4 w4 ho4 hb4))
  go_ret
  exact ⟨_, rfl, by simpa using ho4, HB3.out.trans hb4⟩
theorem enters_same : ∀ args w, (callFunc 24 args).run Tryz.prog w = .ok (.enter 24 args) w := fun args w => by kernel_rfl
set_option maxRecDepth 100000 in
set_option maxHeartbeats 16000000 in
theorem rSameSys_any (vn vf vn' vf' : Value) (xs : List ByteArray) (fs : List (List Nd)) (w : World) (hn : Strs w vn xs) (hf : Fs w vf fs) (hn' : Strs w vn' xs) (hf' : Fs w vf' fs) :
    Calls Tryz.prog 35 #[.agg #[vn, vf], .agg #[vn', vf']] w fun e' w' => e' = .returned (.bool true) ∧ Below w.heap.size w w' := by
  obtain ⟨an, cn, rfl, hna⟩ := hn.at
  obtain ⟨af, cf, rfl, hfa⟩ := hf.at
  obtain ⟨an', cn', rfl, hna'⟩ := hn'.at
  obtain ⟨af', cf', rfl, hfa'⟩ := hf'.at
  have HNA := Aside.mk hna
  have HFA := Aside.mk hfa
  have HNA' := Aside.mk hna'
  have HFA' := Aside.mk hfa'
  obtain ⟨N, hN⟩ : ∃ N, xs.length = N := ⟨_, rfl⟩
  obtain ⟨M, hM⟩ : ∃ M, fs.length = M := ⟨_, rfl⟩
  have HN := Aside.mk hN
  have HM := Aside.mk hM
  have hn9 : (N : Int) ≤ 90000 := by have := hn.few; omega
  have hm9 : (M : Int) ≤ 90000 := by have := hf.few; omega
  rw [hN, hM]
  have hb1 : Below w.heap.size w (w.alloc (.cells #[.slice an N cn, .slice af M cf] 25)) := (Below.refl _ _).alloc (Nat.le_refl _) _
  have hr1 := heap_alloc_last w (.cells #[.slice an N cn, .slice af M cf] 25)
  have e1 : (w.alloc (.cells #[.slice an N cn, .slice af M cf] 25)).heap.size = w.heap.size + 1 := World.size_alloc ..
  have hr2 := heap_alloc_last (w.alloc (.cells #[.slice an N cn, .slice af M cf] 25)) (.cells #[.slice an' N cn', .slice af' M cf'] 25)
  have hb2 : Below (w.heap.size + 1) (w.alloc (.cells #[.slice an N cn, .slice af M cf] 25)) ((w.alloc (.cells #[.slice an N cn, .slice af M cf] 25)).alloc (.cells #[.slice an' N cn', .slice af' M cf'] 25)) := (Below.refl _ _).alloc (by omega) _
  rw [e1] at hr2
  have hr1' := (hb2.block w.heap.size (by omega)).trans hr1
  have HB := Aside.mk (hb1.trans (hb2.mono (by omega)))
  have HR1 := Aside.mk hr1'
  have HR2 := Aside.mk hr2
  clear hn hf hn' hf' hna hfa hna' hfa' hN hM hb1 hr1 e1 hr2 hb2 hr1'
  go_enter Tryz.func35, Tryz.ntmps35
  go_wp2_with fail
  obtain ⟨g, hg⟩ : ∃ g, w.heap.size = g := ⟨_, rfl⟩
  have HG := Aside.mk hg
  rw [hg] at HB HR1 HR2
  simp only [hg]
  clear hg
  generalize (w.alloc (.cells #[.slice an N cn, .slice af M cf] 25)).alloc (.cells #[.slice an' N cn', .slice af' M cf'] 25) = W at HB HR1 HR2 ⊢
  go_loopg [5] N (fun m v5 wr => ∃ i : Nat, v5 = .int .i64 (i : Nat) ∧ Aside (i ≤ N ∧ N - i ≤ m) ∧ Aside (Below W.heap.size W wr))
  case atStart => exact ⟨0, rfl, ⟨by simp⟩, ⟨Below.refl _ _⟩⟩
  case round =>
    obtain ⟨i, rfl, HI, HBW⟩ := hrel
    have hrr := (HBW.out.block _ (heap_lt HR1.out)).trans HR1.out
    have hrr2 := (HBW.out.block _ (heap_lt HR2.out)).trans HR2.out
    have k0 : wr.cell? ⟨g, 0, none⟩ = some (.slice an N cn) := by rw [cell_of_row _ _ 0 _ _ _ hrr]; rfl
    have k0' : wr.cell? ⟨g + 1, 0, none⟩ = some (.slice an' N cn') := by rw [cell_of_row _ _ 0 _ _ _ hrr2]; rfl
    have hwr : Below w.heap.size w wr := HG.out ▸ HB.out.trans (HBW.out.mono (Nat.le_of_lt (heap_lt HR1.out)))
    by_cases hi : i < N
    · have hi' : (i : Int) < (N : Int) := by omega
      obtain ⟨x, hx⟩ : ∃ x, xs[i]? = some x := ⟨_, List.getElem?_eq_getElem (by rw [HN.out]; exact hi)⟩
      obtain ⟨bn, on, rfl, hcx⟩ := HNA.out i x hx
      obtain ⟨bn', on', rfl, hcx'⟩ := HNA'.out i x hx
      have cx : wr.cell? ⟨bn, on + i, none⟩ = some (.string x) := by rw [hwr.cell (p := ⟨bn, on + i, none⟩) (World.block_lt_of_cell? w _ hcx)]; exact hcx
      have cx' : wr.cell? ⟨bn', on' + i, none⟩ = some (.string x) := by rw [hwr.cell (p := ⟨bn', on' + i, none⟩) (World.block_lt_of_cell? w _ hcx')]; exact hcx'
      obtain ⟨go, hgo⟩ : ∃ go, gk = go + 1 := ⟨gk - 1, by have := HI.out; omega⟩
      clear hx hcx hcx' hi hrr hrr2 hwr
      go_wp2_with fail
      go_quiet (fail)
      go_wp2_with fail
      go_roundg go
      case measure => omega
      case rel => exact ⟨i + 1, by go_num, ⟨by have := HI.out; omega⟩, ⟨HBW.out.trans ⟨rfl, rfl, rfl, Nat.le_refl _, fun _ _ => rfl⟩⟩⟩
    · have hi' : ¬ ((i : Int) < (N : Int)) := by omega
      have k1 : wr.cell? ⟨g, 1, none⟩ = some (.slice af M cf) := by rw [cell_of_row _ _ 1 _ _ _ hrr]; rfl
      have HBW0 := HBW
      clear hrr hrr2 hwr HBW
      go_wp2_with fail
      clear k0 k0' k1
      go_loopg [6] M (fun m v6 wr => ∃ i : Nat, v6 = .int .i64 (i : Nat) ∧ Aside (i ≤ M ∧ M - i ≤ m) ∧ Aside (Below W.heap.size W wr))
      case atStart => exact ⟨0, rfl, ⟨by simp⟩, HBW0⟩
      case round =>
        obtain ⟨j, rfl, HJ, HBW⟩ := hrel
        have hrr := (HBW.out.block _ (heap_lt HR1.out)).trans HR1.out
        have hrr2 := (HBW.out.block _ (heap_lt HR2.out)).trans HR2.out
        have hwr2 : Below w.heap.size w wr := HG.out ▸ HB.out.trans (HBW.out.mono (Nat.le_of_lt (heap_lt HR1.out)))
        have k1 : wr.cell? ⟨g, 1, none⟩ = some (.slice af M cf) := by rw [cell_of_row _ _ 1 _ _ _ hrr]; rfl
        have k1' : wr.cell? ⟨g + 1, 1, none⟩ = some (.slice af' M cf') := by rw [cell_of_row _ _ 1 _ _ _ hrr2]; rfl
        by_cases hj : j < M
        · have hj' : (j : Int) < (M : Int) := by omega
          obtain ⟨f, hfj⟩ : ∃ f, fs[j]? = some f := ⟨_, List.getElem?_eq_getElem (by rw [HM.out]; exact hj)⟩
          obtain ⟨bf, of', u, rfl, hcu, hru⟩ := HFA.out j f hfj
          obtain ⟨bf', of2, u', rfl, hcu', hru'⟩ := HFA'.out j f hfj
          have cu : wr.cell? ⟨bf, of' + j, none⟩ = some u := by rw [hwr2.cell (p := ⟨bf, of' + j, none⟩) (World.block_lt_of_cell? w _ hcu)]; exact hcu
          have cu' : wr.cell? ⟨bf', of2 + j, none⟩ = some u' := by rw [hwr2.cell (p := ⟨bf', of2 + j, none⟩) (World.block_lt_of_cell? w _ hcu')]; exact hcu'
          obtain ⟨au, lu, ru, rfl⟩ : ∃ au lu ru, u = .slice au lu ru := by obtain ⟨a, c, h⟩ := hru.slice; exact ⟨a, _, c, h⟩
          obtain ⟨au', lu', ru', rfl⟩ : ∃ au lu ru, u' = .slice au lu ru := by obtain ⟨a, c, h⟩ := hru'.slice; exact ⟨a, _, c, h⟩
          have HRU := Aside.mk (hru.below hwr2)
          have HRU' := Aside.mk (hru'.below hwr2)
          have hl1 := heap_lt hrr
          have hl2 := heap_lt hrr2
          have hl3 : bf < wr.heap.size := World.block_lt_of_cell? wr _ cu
          have hl4 : bf' < wr.heap.size := World.block_lt_of_cell? wr _ cu'
          obtain ⟨go, hgo⟩ : ∃ go, gk = go + 1 := ⟨gk - 1, by have := HJ.out; omega⟩
          clear hfj hcu hru hcu' hru' hj hrr hrr2
          go_wp2_with fail
          refine region_v [48, 49, 50, 51, 52, 53, 54, 55, 56, 57, 58] 11 [.pointer (some ⟨g, 1, none⟩), .slice (some ⟨bf, of', none⟩) M cf, .int .i64 (j : Nat), .pointer (some ⟨bf, of' + j, none⟩), .slice au lu ru, .pointer (some ⟨g + 1, 1, none⟩), .slice (some ⟨bf', of2, none⟩) M cf', .int .i64 (j : Nat), .pointer (some ⟨bf', of2 + j, none⟩), .slice au' lu' ru', .bool true] rfl rfl ?_ ?_
          · iterate 10 (refine AllV.val rfl (fun w hb => by simp [execOp, Act.eval, kp hb k1, hj', kp hb cu, kp hb k1', kp hb cu', go_sem]) ?_)
            refine AllV.cons ?_ ?_
            · intro a w hz hb ho hg
              have e52 : a.tmps.getD 52 undef = .slice au lu ru := got_of hg (j := 4) rfl rfl rfl
              have e57 : a.tmps.getD 57 undef = .slice au' lu' ru' := got_of hg (j := 9) rfl rfl rfl
              have f52 := Rg.gd e52
              have f57 := Rg.gd e57
              exact Or.inl ⟨wanted_none rfl, wp_calls hb.size (run_call (args := #[.slice au lu ru, .slice au' lu' ru']) enters_same (by simp [Act.eval, f52, f57])) ((rSame_any _ _ f w (HRU.out.below hb) (HRU'.out.below hb)).mono (by rintro e w' ⟨rfl, hb2⟩; exact ⟨_, rfl, hb2, rfl⟩))⟩
            exact AllV.nil
          intro w2 hb
          simp only [List.drop_succ_cons, List.drop_zero]
          have HH2 := Aside.mk hb
          clear hb
          have HB2 := Aside.mk (HBW.out.trans (HH2.out.mono HBW.out.size))
          go_wp2_with fail
          go_roundg go
          case measure => omega
          case rel => exact ⟨j + 1, by go_num, ⟨by have := HJ.out; have := hj'; omega⟩, HB2⟩
        · have hj' : ¬ ((j : Int) < (M : Int)) := by omega
          go_wp2_with fail
          go_ret
          exact ⟨rfl, hwr2⟩
end Go.Proofs.YthcidkidpiaomaaGreatDoor.Od
end
section
set_option linter.unusedVariables false
set_option linter.unusedSimpArgs false
namespace Go.Proofs.YthcidkidpiaomaaGreatDoor.Od
open Go.RowKit Rg
theorem tmod_bd (x y : Int) (h : 0 < y) : -y < x.tmod y ∧ x.tmod y < y := by
  have h1 := Int.tmod_lt_of_pos x h
  refine ⟨?_, h1⟩
  have h2 := Int.tmod_lt_of_pos (-x) h
  rw [Int.neg_tmod] at h2
  omega
set_option maxRecDepth 100000 in
set_option maxHeartbeats 8000000 in
theorem rNear_any (l h wd : Int) (w1 : 1 ≤ wd) (w2 : wd ≤ 256) (w : World) : Calls Tryz.prog 112 #[.agg #[.int .i64 l, .int .i64 h], .int .i64 wd] w fun e w' => ∃ a, e = .returned (ivV a) ∧ okI a ∧ Below w.heap.size w w' := by
  have HW := Aside.mk (And.intro w1 w2)
  have hne : wd ≠ 0 := by omega
  clear w1 w2
  go_enter Tryz.func112, Tryz.ntmps112
  go_wp2_with fail
  have hr0 : ((w.alloc (.cells #[.int .i64 l, .int .i64 h] 29)).alloc (.cells #[.int .i64 0, .int .i64 0] 29)).heap[w.heap.size]? = some (.cells #[.int .i64 l, .int .i64 h] 29 (0, 0)) := by rw [Below.heap_alloc _ _ _ (by simp)]; exact heap_alloc_last _ _
  have hr1 : ((w.alloc (.cells #[.int .i64 l, .int .i64 h] 29)).alloc (.cells #[.int .i64 0, .int .i64 0] 29)).heap[w.heap.size + 1]? = some (.cells #[.int .i64 0, .int .i64 0] 29 (0, 0)) := by
    have := heap_alloc_last (w.alloc (.cells #[.int .i64 l, .int .i64 h] 29)) (.cells #[.int .i64 0, .int .i64 0] 29)
    simpa using this
  have hbl : Below w.heap.size w ((w.alloc (.cells #[.int .i64 l, .int .i64 h] 29)).alloc (.cells #[.int .i64 0, .int .i64 0] 29)) := ((Below.refl _ _).alloc (Nat.le_refl _) _).alloc (by simp) _
  generalize (w.alloc (.cells #[.int .i64 l, .int .i64 h] 29)).alloc (.cells #[.int .i64 0, .int .i64 0] 29) = W at hr0 hr1 hbl ⊢
  have c0 : W.cell? ⟨w.heap.size, 0, none⟩ = some (.int .i64 l) := by rw [cell_of_row _ _ 0 _ _ _ hr0]; rfl
  have c1 : W.cell? ⟨w.heap.size, 1, none⟩ = some (.int .i64 h) := by rw [cell_of_row _ _ 1 _ _ _ hr0]; rfl
  obtain ⟨g, hg⟩ : ∃ g, w.heap.size = g := ⟨_, rfl⟩
  have HG := Aside.mk hg
  have HB := Aside.mk hbl
  rw [hg] at c0 c1 hr1
  have HR1 := Aside.mk hr1
  simp only [hg]
  clear hg hr0 hr1 hbl
  go_region
  obtain ⟨A, hA⟩ : ∃ A, l.tmod 1048576 = A := ⟨_, rfl⟩
  obtain ⟨M, hM⟩ : ∃ M, (wrap64 (h.tmod wd + wd)).tmod wd = M := ⟨_, rfl⟩
  have hA1 : -1048576 < A ∧ A < 1048576 := by rw [← hA]; have := tmod_bd l 1048576 (by omega); omega
  have hM1 : 0 ≤ M ∧ M < wd := by
    have h1 := tmod_bd h wd (by have := HW.out.1; omega)
    have h2 : wrap64 (h.tmod wd + wd) = h.tmod wd + wd := by
      have := HW.out
      first | (rw [← IntKind.wrap_i64]; exact IntKind.wrap_of _ _ (by decide) (by decide)) | (unfold wrap64; omega)
    rw [h2] at hM
    rw [← hM, Int.tmod_eq_emod_of_nonneg (by omega)]
    exact ⟨Int.emod_nonneg _ (by omega), Int.emod_lt_of_pos _ (by omega)⟩
  have HO : Aside (okI (A, A + M)) := ⟨by
    have := HW.out
    show okIv _ _ = true
    unfold okIv maxV
    simp only [Bool.or_eq_true, Bool.and_eq_true, beq_iff_eq, decide_eq_true_eq]
    omega⟩
  have b1 : -9223372036854775808 ≤ A + M := by omega
  have b2 : A + M ≤ 9223372036854775807 := by have := HW.out; omega
  simp only [hA, hM]
  clear hA hM hA1 hM1
  go_wp2_with (first | (refine wpList_store_iv rfl (.tmp 4) (.tmp 22) rfl (g + 1) _ _ rfl rfl _ _ HR1.out ?_; intro w3 hr3 hb3 hk3 hs3))
  exact ret_iv rfl rfl hr3 ⟨(A, A + M), rfl, HO.out, HB.out.drew.trans (hb3.mono (by have := HG.out; omega))⟩
end Go.Proofs.YthcidkidpiaomaaGreatDoor.Od
end
