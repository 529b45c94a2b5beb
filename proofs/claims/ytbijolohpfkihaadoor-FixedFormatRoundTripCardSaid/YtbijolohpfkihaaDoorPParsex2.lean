-- PRINTED BY print.sh 35421559b90ae4d0a3588c463048766b98c2df88dd9212a6774a882060cdf62d: not written by this session
import Derived.Test.YtbijolohpfkihaaDoorPParsex0
import Derived.Test.YtbijolohpfkihaaDoorPParsex1
namespace Go.Proofs.YtbijolohpfkihaaDoor.PParse
open Go.RowKit Go.Proofs.YtbijolohpfkihaaDoorW.PrintWords Go.Proofs.YtbijolohpfkihaaDoorW.PrintLast Go.Proofs.YtbijolohpfkihaaDoorW.PrintMore
attribute [local go_sem] max2_int min2_int max_two min_two max_three min_three max_four min_four   -- for this text's walks alone
set_option linter.unusedVariables false
set_option linter.unusedSimpArgs false

/-! ### armillaryref01_Parse: function 25 -/
mutual
def armillaryref01_Parse.j0 : Nat → ByteArray → Int → Int → Int → Option (Int × Int × Int × Int)
  | 0, _, _, _, _ => none
  | k + 1, x0, x8, x9, x10 => armillaryref01_Parse.l0 k x0 x8 x9 x10 x9
def armillaryref01_Parse.l0 : Nat → ByteArray → Int → Int → Int → Int → Option (Int × Int × Int × Int)
  | 0, _, _, _, _, _ => none
  | k + 1, x0, x8, x9, x10, x11 => if x11 < x8 then (if 0 ≤ x11 then (if x11 < (x0.size : Int) then (armillaryref01_Parse.l0 k x0 x8 x9 (mn (wrap64 ((wrap64 (x10 * 10)) + (((bt x0 x11) - 48) % 256))) 1000000) (wrap64 (x11 + 1))) else (none)) else (none)) else (if 0 ≤ (mn (wrap64 (x8 + 1)) (x0.size : Int)) then (if (mn (wrap64 (x8 + 1)) (x0.size : Int)) ≤ (x0.size : Int) then ((armillaryref01_scaleFraction.f k (x0.extract ((mn (wrap64 (x8 + 1)) (x0.size : Int)) : Int).toNat x0.size)).bind fun bt115 => (armillaryref01_Parse.l1 k x9 bt115.1 (wrap64 ((wrap64 (x10 * 65536)) + bt115.2)) (wrap64 ((wrap64 (x10 * 65536)) + bt115.2)) 0)) else (none)) else (none))
def armillaryref01_Parse.l1 : Nat → Int → List Int → Int → Int → Int → Option (Int × Int × Int × Int)
  | 0, _, _, _, _, _ => none
  | k + 1, x9, x12, x14, x15, x16 => if x16 < (x12.length : Int) then (if 0 ≤ x16 then (if (rd x12 x16) > 0 then (armillaryref01_Parse.l1 k x9 x12 x14 (wrap64 (x14 + 1)) (wrap64 (x16 + 1))) else (armillaryref01_Parse.l1 k x9 x12 x14 x15 (wrap64 (x16 + 1)))) else (none)) else ((armillaryref01_Valid.f x15).bind fun t120 => (if t120 = true then (if x9 = 1 then (some (wrap64 (-x15), wrap64 (-x14), 0, 0)) else (some (x14, x15, 0, 0))) else (some (0, 0, 0, 2))))
end
def armillaryref01_Parse.f (k : Nat) (a0 : ByteArray) : Option (Int × Int × Int × Int) := (armillaryref01_ScanDecimal.f k a0).bind fun bt112 => (if bt112.1 = true then (if 0 < (a0.size : Int) then (if (bt a0 0) = 45 then (armillaryref01_Parse.j0 k a0 bt112.2.2 1 0) else (armillaryref01_Parse.j0 k a0 bt112.2.2 0 0)) else (none)) else (some (0, 0, bt112.2.1, 10)))
theorem armillaryref01_Parse.mono_l : ∀ k, (∀ y0 y1 y2 y3, LeO (armillaryref01_Parse.j0 k y0 y1 y2 y3) (armillaryref01_Parse.j0 (k + 1) y0 y1 y2 y3)) ∧ (∀ y0 y1 y2 y3 y4, LeO (armillaryref01_Parse.l0 k y0 y1 y2 y3 y4) (armillaryref01_Parse.l0 (k + 1) y0 y1 y2 y3 y4)) ∧ (∀ y0 y1 y2 y3 y4, LeO (armillaryref01_Parse.l1 k y0 y1 y2 y3 y4) (armillaryref01_Parse.l1 (k + 1) y0 y1 y2 y3 y4))
  | 0 => ⟨fun _ _ _ _ r h => by simp [armillaryref01_Parse.j0] at h, fun _ _ _ _ _ r h => by simp [armillaryref01_Parse.l0] at h, fun _ _ _ _ _ r h => by simp [armillaryref01_Parse.l1] at h⟩
  | k + 1 => by
    obtain ⟨ih0, ih1, ih2⟩ := armillaryref01_Parse.mono_l k
    refine ⟨?_, ?_, ?_⟩
    · intro y0 y1 y2 y3
      unfold armillaryref01_Parse.j0
      repeat' first
      | (with_reducible exact ih0 _ _ _ _)
      | (with_reducible exact ih1 _ _ _ _ _)
      | (with_reducible exact ih2 _ _ _ _ _)
      | (with_reducible exact armillaryref01_ScanDecimal.mono _ _)
      | (with_reducible exact armillaryref01_scaleFraction.mono _ _)
      | (with_reducible exact LeO.refl _)
      | (with_reducible exact LeO.none _)
      | (with_reducible refine LeO.ite ?_ ?_)
      | (with_reducible refine LeO.bind ?_ (fun _ => ?_))
      | exact ih0 _ _ _ _
      | exact ih1 _ _ _ _ _
      | exact ih2 _ _ _ _ _
      | exact armillaryref01_ScanDecimal.mono _ _
      | exact armillaryref01_scaleFraction.mono _ _
      | exact LeO.none _
      | refine LeO.ite ?_ ?_
      | refine LeO.bind ?_ (fun _ => ?_)
    · intro y0 y1 y2 y3 y4
      unfold armillaryref01_Parse.l0
      repeat' first
      | (with_reducible exact ih0 _ _ _ _)
      | (with_reducible exact ih1 _ _ _ _ _)
      | (with_reducible exact ih2 _ _ _ _ _)
      | (with_reducible exact armillaryref01_ScanDecimal.mono _ _)
      | (with_reducible exact armillaryref01_scaleFraction.mono _ _)
      | (with_reducible exact LeO.refl _)
      | (with_reducible exact LeO.none _)
      | (with_reducible refine LeO.ite ?_ ?_)
      | (with_reducible refine LeO.bind ?_ (fun _ => ?_))
      | exact ih0 _ _ _ _
      | exact ih1 _ _ _ _ _
      | exact ih2 _ _ _ _ _
      | exact armillaryref01_ScanDecimal.mono _ _
      | exact armillaryref01_scaleFraction.mono _ _
      | exact LeO.none _
      | refine LeO.ite ?_ ?_
      | refine LeO.bind ?_ (fun _ => ?_)
    · intro y0 y1 y2 y3 y4
      unfold armillaryref01_Parse.l1
      repeat' first
      | (with_reducible exact ih0 _ _ _ _)
      | (with_reducible exact ih1 _ _ _ _ _)
      | (with_reducible exact ih2 _ _ _ _ _)
      | (with_reducible exact armillaryref01_ScanDecimal.mono _ _)
      | (with_reducible exact armillaryref01_scaleFraction.mono _ _)
      | (with_reducible exact LeO.refl _)
      | (with_reducible exact LeO.none _)
      | (with_reducible refine LeO.ite ?_ ?_)
      | (with_reducible refine LeO.bind ?_ (fun _ => ?_))
      | exact ih0 _ _ _ _
      | exact ih1 _ _ _ _ _
      | exact ih2 _ _ _ _ _
      | exact armillaryref01_ScanDecimal.mono _ _
      | exact armillaryref01_scaleFraction.mono _ _
      | exact LeO.none _
      | refine LeO.ite ?_ ?_
      | refine LeO.bind ?_ (fun _ => ?_)
theorem armillaryref01_Parse.mono : ∀ a0 k, LeO (armillaryref01_Parse.f k a0) (armillaryref01_Parse.f (k + 1) a0) := by
  intro a0 k
  obtain ⟨ih0, ih1, ih2⟩ := armillaryref01_Parse.mono_l k
  unfold armillaryref01_Parse.f
  repeat' first
      | (with_reducible exact ih0 _ _ _ _)
      | (with_reducible exact ih1 _ _ _ _ _)
      | (with_reducible exact ih2 _ _ _ _ _)
      | (with_reducible exact armillaryref01_ScanDecimal.mono _ _)
      | (with_reducible exact armillaryref01_scaleFraction.mono _ _)
      | (with_reducible exact LeO.refl _)
      | (with_reducible exact LeO.none _)
      | (with_reducible refine LeO.ite ?_ ?_)
      | (with_reducible refine LeO.bind ?_ (fun _ => ?_))
      | exact ih0 _ _ _ _
      | exact ih1 _ _ _ _ _
      | exact ih2 _ _ _ _ _
      | exact armillaryref01_ScanDecimal.mono _ _
      | exact armillaryref01_scaleFraction.mono _ _
      | exact LeO.none _
      | refine LeO.ite ?_ ?_
      | refine LeO.bind ?_ (fun _ => ?_)
set_option maxHeartbeats 8000000 in
set_option maxRecDepth 100000 in
theorem armillaryref01_Parse.calls (k : Nat) (a0 : ByteArray) (r1 : Int) (r2 : Int) (r3 : Int) (r4 : Int) (w : World) (h : armillaryref01_Parse.f k a0 = some (r1, r2, r3, r4)) :
    Calls Tryd.prog 25 #[.string a0] w fun e w' => e = .returned (.tuple #[.int .i64 r1, .int .i64 r2, .int .i64 r3, .int .i64 r4]) ∧ Below w.heap.size w w' := by
  have HB := Aside0.mk (Below.refl w.heap.size w)
  have H : ((armillaryref01_ScanDecimal.f k a0).bind fun bt112 => (if bt112.1 = true then (if 0 < (a0.size : Int) then (if (bt a0 0) = 45 then (armillaryref01_Parse.j0 k a0 bt112.2.2 1 0) else (armillaryref01_Parse.j0 k a0 bt112.2.2 0 0)) else (none)) else (some (0, 0, bt112.2.1, 10)))) = some (r1, r2, r3, r4) := h
  clear h
  replace H := Option.bind_eq_some_iff.mp H
  obtain ⟨⟨t112, t113, t114⟩, A20, H⟩ := H
  replace H : (if t112 = true then (if 0 < (a0.size : Int) then (if (bt a0 0) = 45 then (armillaryref01_Parse.j0 k a0 t114 1 0) else (armillaryref01_Parse.j0 k a0 t114 0 0)) else (none)) else (some (0, 0, t113, 10))) = some (r1, r2, r3, r4) := H
  have A2 := Aside0.mk A20
  clear A20
  by_cases c3 : t112 = true
  · subst c3
    have H1 : (if 0 < (a0.size : Int) then (if (bt a0 0) = 45 then (armillaryref01_Parse.j0 k a0 t114 1 0) else (armillaryref01_Parse.j0 k a0 t114 0 0)) else (none)) = some (r1, r2, r3, r4) := by rw [if_pos rfl] at H; exact H
    clear H
    have H := H1
    clear H1
    by_cases c4 : 0 < (a0.size : Int)
    · rw [if_pos c4] at H
      have c4b0 : decide (0 < (a0.size : Int)) = true := decide_eq_true c4
      have c4b1 : decide (0 < a0.size) = true := decide_eq_true (by omega)
      clear c4
      have HC6 := Aside0.mk H
      clear H
      go_enter Tryd.func25, Tryd.ntmps25
      go_upto_if 28 with (first | ((with_reducible refine gate_callee (f := 29) rfl ?_); refine goesL_ (some 19) rfl rfl Tryd.func29 (by kernel_rfl) rfl #[.string a0] rfl (by (try simp only [List.map_toArray, List.map_cons, List.map_nil]); first | done | rfl | (simp only [List.length_drop, List.length_take]; rfl)) ?_; (with_reducible refine (armillaryref01_ScanDecimal.calls k a0 true t113 t114 _ A2.out).mono ?_); rintro e w' ⟨rfl, ⟨nd, rfl⟩⟩; refine ⟨_, rfl, ?_⟩; have p5 : 0 ≤ (0 : Int) := (by omega); have q5 : 0 < a0.size := (by have : (0 : Int) < (a0.size : Int) := of_decide_eq_true (by first | (with_reducible assumption) | assumption); omega); have hx5 : ∀ h : 0 < a0.size, ((a0[0]'h).toNat : Int) = bt a0 0 := bt_at a0 0; clear p5; have qi5 : (0 < (a0.size : Int)) = True := eq_true (of_decide_eq_true (by first | (with_reducible assumption) | assumption)); replace q5 := eq_true q5))
      (try simp only [Act.put, List.setIfInBounds_toArray, List.set_cons_zero, List.set_cons_succ])
      go_cut [9] (fun v9 wc => ∃ (kq : Nat) (x9_5 : Int), v9 = .int .i64 x9_5 ∧ Aside0 (armillaryref01_Parse.j0 kq a0 t114 x9_5 0 = some (r1, r2, r3, r4)) ∧ Aside0 (kq ≤ k) ∧ Aside0 (Below w.heap.size w wc))
      case first =>
        have H := HC6.out
        clear HC6
        by_cases c7 : (bt a0 0) = 45
        · rw [if_pos c7] at H
          have c7b0 : ((bt a0 0) == 45) = true := beq_iff_eq.mpr c7
          have c7b1 : ((bt a0 0) != 45) = false := bne_eq_false_iff_eq.mpr c7
          clear c7
          (first | rw [c7b0] | (simp only [i64_w, i32_w]; rw [c7b0]) | skip)
          have H' := Aside0.mk H
          clear H
          go_wp2
          go_meet
          case rel => exact ⟨_, (1), (by first | rfl | (simp; done) | (simp [*]; done)), H', ⟨by first | omega | exact Nat.le_refl _⟩, ⟨by repeat (first | (with_reducible first | exact HB.out | apply below_alloc | apply pw_below_drewN | apply below_drew1) | exact HB.out)⟩⟩
        · rw [if_neg c7] at H
          have c7b0 : ((bt a0 0) == 45) = false := beq_eq_false_iff_ne.mpr c7
          have c7b1 : ((bt a0 0) != 45) = true := bne_iff_ne.mpr c7
          (first | rw [c7b0] | (simp only [i64_w, i32_w]; rw [c7b0]) | skip)
          have H' := Aside0.mk H
          clear H
          go_wp2
          go_meet
          case rel => exact ⟨_, (0), (by first | rfl | (simp; done) | (simp [*]; done)), H', ⟨by first | omega | exact Nat.le_refl _⟩, ⟨by repeat (first | (with_reducible first | exact HB.out | apply below_alloc | apply pw_below_drewN | apply below_drew1) | exact HB.out)⟩⟩
      case rest =>
        clear HC6
        try clear c2
        try clear p2
        try clear c3
        try clear c4
        try clear c4b0
        try clear c4b1
        try clear p5
        try clear q5
        try clear hx5
        try clear qi5
        try clear c7
        try clear c7b0
        try clear c7b1
        try clear p5
        try clear q5
        obtain ⟨kq, x9_5, rfl, HA, HJ5, HB⟩ := hcut
        cases kq with
        | zero => exact absurd HA.out (by simp [armillaryref01_Parse.j0])
        | succ kj5 =>
          have H := HA.out
          clear HA
          simp only [armillaryref01_Parse.j0] at H
          have H' := Aside0.mk H
          clear H
          go_wp2
          go_loopg [10, 11] kj5 (fun kq v10 v11 w' => ∃ (x10_2 : Int) (x11_2 : Int), v10 = .int .i64 x10_2 ∧ v11 = .int .i64 x11_2 ∧ Aside0 (armillaryref01_Parse.l0 kq a0 t114 x9_5 x10_2 x11_2 = some (r1, r2, r3, r4)) ∧ Aside0 (kq ≤ kj5) ∧ Aside0 (Below w.heap.size w w'))
          case atStart => exact ⟨(0), (x9_5), (by first | rfl | (simp; done) | (simp [*]; done)), (by first | rfl | (simp; done) | (simp [*]; done)), H', ⟨Nat.le_refl _⟩, ⟨by repeat (first | (with_reducible first | exact HB.out | apply below_alloc | apply pw_below_drewN | apply below_drew1) | exact HB.out)⟩⟩
          case round =>
            clear H'
            try clear c2
            try clear p2
            try clear c3
            try clear c4
            try clear c4b0
            try clear c4b1
            try clear p5
            try clear q5
            try clear hx5
            try clear qi5
            try clear c7
            try clear c7b0
            try clear c7b1
            try clear p2
            try clear p5
            try clear q5
            obtain ⟨x10_2, x11_2, rfl, rfl, HA, HK2, HB⟩ := hrel
            cases gk with
            | zero => exact absurd HA.out (by simp [armillaryref01_Parse.l0])
            | succ k2 =>
              have H := HA.out
              clear HA
              simp only [armillaryref01_Parse.l0] at H
              by_cases c8 : x11_2 < t114
              · rw [if_pos c8] at H
                have c8b0 : decide (x11_2 < t114) = true := decide_eq_true c8
                clear c8
                by_cases c9 : 0 ≤ x11_2
                · rw [if_pos c9] at H
                  have c9b0 : decide (0 ≤ x11_2) = true := decide_eq_true c9
                  clear c9
                  by_cases c10 : x11_2 < (a0.size : Int)
                  · rw [if_pos c10] at H
                    have c10b0 : decide (x11_2 < (a0.size : Int)) = true := decide_eq_true c10
                    clear c10
                    obtain ⟨ji12, hji12⟩ : ∃ j_ : Int, (mn (wrap64 ((wrap64 (x10_2 * 10)) + (((bt a0 x11_2) - 48) % 256))) 1000000) = j_ := ⟨_, rfl⟩
                    replace H : (armillaryref01_Parse.l0 k2 a0 t114 x9_5 ji12 (wrap64 (x11_2 + 1))) = some (r1, r2, r3, r4) := by first | (rw [hji12] at H; exact H) | (simp only [hji12] at H ⊢; exact H)
                    have hji12_ : (if 1000000 < (wrap64 ((wrap64 (x10_2 * 10)) + (((bt a0 x11_2) - 48) % 256))) then 1000000 else (wrap64 ((wrap64 (x10_2 * 10)) + (((bt a0 x11_2) - 48) % 256)))) = ji12 := hji12
                    have H' := Aside0.mk H
                    clear H
                    have p11 : 0 ≤ (x11_2 : Int) := of_decide_eq_true (by first | (with_reducible assumption) | assumption)
                    have q11 : x11_2 < (a0.size : Int) := of_decide_eq_true (by first | (with_reducible assumption) | assumption)
                    have hx11 := bt_at a0 x11_2
                    replace p11 := eq_true p11
                    replace q11 := eq_true q11
                    go_wp2
                    go_roundg k2
                    case measure => have := HJ5.out; have := HK2.out; omega
                    case rel => exact ⟨(ji12), (wrap64 (x11_2 + 1)), (by first | rfl | (simp; done) | (simp only [← hji12] <;> (first | rfl | simp)) | (simp [*]; done)), (by first | rfl | (simp; done) | (simp [*]; done)), H', ⟨by have := HJ5.out; have := HK2.out; omega⟩, ⟨by repeat (first | (with_reducible first | exact HB.out | apply below_alloc | apply pw_below_drewN | apply below_drew1) | exact HB.out)⟩⟩
                  · rw [if_neg c10] at H
                    exact absurd H (by simp)
                · rw [if_neg c9] at H
                  exact absurd H (by simp)
              · rw [if_neg c8] at H
                have c8b0 : decide (x11_2 < t114) = false := decide_eq_false c8
                clear c8
                obtain ⟨ji13, hji13⟩ : ∃ j_ : Int, (mn (wrap64 (t114 + 1)) (a0.size : Int)) = j_ := ⟨_, rfl⟩
                replace H : (if 0 ≤ (ji13) then (if (ji13) ≤ (a0.size : Int) then ((armillaryref01_scaleFraction.f k2 (a0.extract ((ji13) : Int).toNat a0.size)).bind fun bt115 => (armillaryref01_Parse.l1 k2 x9_5 bt115.1 (wrap64 ((wrap64 (x10_2 * 65536)) + bt115.2)) (wrap64 ((wrap64 (x10_2 * 65536)) + bt115.2)) 0)) else (none)) else (none)) = some (r1, r2, r3, r4) := by first | (rw [hji13] at H; exact H) | (simp only [hji13] at H ⊢; exact H)
                have hji13_ : (if (a0.size : Int) < (wrap64 (t114 + 1)) then (a0.size : Int) else (wrap64 (t114 + 1))) = ji13 := hji13
                by_cases c14 : 0 ≤ (ji13)
                · rw [if_pos c14] at H
                  have c14b0 := eq_true c14
                  have c14b1 : decide (0 ≤ (ji13)) = true := decide_eq_true c14
                  clear c14
                  by_cases c15 : (ji13) ≤ (a0.size : Int)
                  · rw [if_pos c15] at H
                    have c15b0 := eq_true c15
                    have c15b1 : decide ((ji13) ≤ (a0.size : Int)) = true := decide_eq_true c15
                    clear c15
                    replace H := Option.bind_eq_some_iff.mp H
                    obtain ⟨⟨t115, t116⟩, A160, H⟩ := H
                    replace H : (armillaryref01_Parse.l1 k2 x9_5 t115 (wrap64 ((wrap64 (x10_2 * 65536)) + t116)) (wrap64 ((wrap64 (x10_2 * 65536)) + t116)) 0) = some (r1, r2, r3, r4) := H
                    have A16 := Aside0.mk A160
                    clear A160
                    have H' := Aside0.mk H
                    clear H
                    go_wp2_with (first | ((with_reducible refine gate_callee (f := 39) rfl ?_); refine goesL_ (some 52) rfl rfl Tryd.func39 (by kernel_rfl) rfl #[.string (a0.extract ((ji13) : Int).toNat a0.size)] rfl (by (try simp only [List.map_toArray, List.map_cons, List.map_nil]); first | done | (simp only [hji13]; rfl) | rfl | (simp only [List.length_drop, List.length_take]; rfl)) ?_; (with_reducible refine (armillaryref01_scaleFraction.calls k2 (a0.extract ((ji13) : Int).toNat a0.size) t115 t116 _ A16.out).mono ?_); rintro e w17 ⟨v117, rfl, ho0, hb⟩; refine ⟨_, rfl, ?_⟩; have n0_ := Aside0.mk (Kd.R_lower ho0 (below_size (by repeat (first | (with_reducible first | exact HB.out | apply below_alloc | apply pw_below_drewN | apply below_drew1) | exact HB.out)))); have n1_ := Aside0.mk (below_step (by repeat (first | (with_reducible first | exact HB.out | apply below_alloc | apply pw_below_drewN | apply below_drew1) | exact HB.out)) hb); clear HB; have HO118 := n0_; have HB := n1_; clear n0_ n1_; (try clear hb); (try clear hb2); (try clear hk); (try clear hi); (try clear ho0)))
                    go_loopg [15, 16] k2 (fun kq v15 v16 w' => ∃ (x15_3 : Int) (x16_3 : Int), v15 = .int .i64 x15_3 ∧ v16 = .int .i64 x16_3 ∧ Aside0 (armillaryref01_Parse.l1 kq x9_5 t115 (wrap64 ((wrap64 (x10_2 * 65536)) + t116)) x15_3 x16_3 = some (r1, r2, r3, r4)) ∧ Aside0 (kq ≤ k2) ∧ Aside0 (Kd.R (Kd.int .i64) 3 w' w.heap.size (fun _ => True) v117 t115) ∧ Aside0 (Below w.heap.size w w'))
                    case atStart => exact ⟨(wrap64 ((wrap64 (x10_2 * 65536)) + t116)), (0), (by first | rfl | (simp; done) | (simp [*]; done)), (by first | rfl | (simp; done) | (simp [*]; done)), H', ⟨Nat.le_refl _⟩, ⟨by (with_reducible repeat (first | apply Kd.R_alloc | apply Kd.R_drewN | apply Kd.R_drew)); exact HO118.out⟩, ⟨by repeat (first | (with_reducible first | exact HB.out | apply below_alloc | apply pw_below_drewN | apply below_drew1) | exact HB.out)⟩⟩
                    case round =>
                      clear H'
                      try clear c1
                      try clear p1
                      try clear q1
                      try clear hx1
                      try clear c2
                      try clear p2
                      try clear c3
                      try clear c4
                      try clear c4b0
                      try clear c4b1
                      try clear p5
                      try clear q5
                      try clear hx5
                      try clear qi5
                      try clear p6
                      try clear c7
                      try clear c7b0
                      try clear c7b1
                      try clear c8
                      try clear c8b0
                      try clear c9
                      try clear c9b0
                      try clear c10
                      try clear c10b0
                      try clear p11
                      try clear q11
                      try clear hx11
                      try clear c14
                      try clear c14b0
                      try clear c14b1
                      try clear c15
                      try clear c15b0
                      try clear c15b1
                      try clear p11
                      try clear p2
                      try clear p5
                      try clear q11
                      try clear q5
                      obtain ⟨x15_3, x16_3, rfl, rfl, HA, HK3, HO_12, HB⟩ := hrel
                      cases gk with
                      | zero => exact absurd HA.out (by simp [armillaryref01_Parse.l1])
                      | succ k3 =>
                        have H := HA.out
                        clear HA
                        simp only [armillaryref01_Parse.l1] at H
                        by_cases c18 : x16_3 < (t115.length : Int)
                        · rw [if_pos c18] at H
                          have c18b0 : decide (x16_3 < (t115.length : Int)) = true := decide_eq_true c18
                          clear c18
                          by_cases c19 : 0 ≤ x16_3
                          · rw [if_pos c19] at H
                            have c19b0 : decide (0 ≤ x16_3) = true := decide_eq_true c19
                            clear c19
                            by_cases c20 : (rd t115 x16_3) > 0
                            · rw [if_pos c20] at H
                              have c20b0 : decide (0 < (rd t115 x16_3)) = true := decide_eq_true c20
                              clear c20
                              have H' := Aside0.mk H
                              clear H
                              obtain ⟨Ao21, co21, eo21⟩ := Kd.R_slice HO_12.out
                              subst eo21
                              have p119 : 0 ≤ (x16_3 : Int) := of_decide_eq_true (by first | (with_reducible assumption) | assumption)
                              have q119 : x16_3 < (t115.length : Int) := of_decide_eq_true (by first | (with_reducible assumption) | assumption)
                              obtain ⟨ad119, e119, hx119_0⟩ := Kd.at_int (Kd.R_reads' HO_12.out).2.2 x16_3 p119 q119
                              cases e119
                              replace p119 := eq_true p119
                              replace q119 := eq_true q119
                              go_wp2
                              go_roundg k3
                              case measure => have := HJ5.out; have := HK2.out; have := HK3.out; omega
                              case rel => exact ⟨(wrap64 ((wrap64 ((wrap64 (x10_2 * 65536)) + t116)) + 1)), (wrap64 (x16_3 + 1)), (by first | rfl | (simp; done) | (simp [*]; done)), (by first | rfl | (simp; done) | (simp [*]; done)), H', ⟨by have := HJ5.out; have := HK2.out; have := HK3.out; omega⟩, ⟨by (with_reducible repeat (first | apply Kd.R_alloc | apply Kd.R_drewN | apply Kd.R_drew)); exact HO_12.out⟩, ⟨by repeat (first | (with_reducible first | exact HB.out | apply below_alloc | apply pw_below_drewN | apply below_drew1) | exact HB.out)⟩⟩
                            · rw [if_neg c20] at H
                              have c20b0 : decide (0 < (rd t115 x16_3)) = false := decide_eq_false c20
                              clear c20
                              have H' := Aside0.mk H
                              clear H
                              obtain ⟨Ao22, co22, eo22⟩ := Kd.R_slice HO_12.out
                              subst eo22
                              have p119 : 0 ≤ (x16_3 : Int) := of_decide_eq_true (by first | (with_reducible assumption) | assumption)
                              have q119 : x16_3 < (t115.length : Int) := of_decide_eq_true (by first | (with_reducible assumption) | assumption)
                              obtain ⟨ad119, e119, hx119_0⟩ := Kd.at_int (Kd.R_reads' HO_12.out).2.2 x16_3 p119 q119
                              cases e119
                              replace p119 := eq_true p119
                              replace q119 := eq_true q119
                              go_wp2
                              go_roundg k3
                              case measure => have := HJ5.out; have := HK2.out; have := HK3.out; omega
                              case rel => exact ⟨(x15_3), (wrap64 (x16_3 + 1)), (by first | rfl | (simp; done) | (simp [*]; done)), (by first | rfl | (simp; done) | (simp [*]; done)), H', ⟨by have := HJ5.out; have := HK2.out; have := HK3.out; omega⟩, ⟨by (with_reducible repeat (first | apply Kd.R_alloc | apply Kd.R_drewN | apply Kd.R_drew)); exact HO_12.out⟩, ⟨by repeat (first | (with_reducible first | exact HB.out | apply below_alloc | apply pw_below_drewN | apply below_drew1) | exact HB.out)⟩⟩
                          · rw [if_neg c19] at H
                            exact absurd H (by simp)
                        · rw [if_neg c18] at H
                          have c18b0 : decide (x16_3 < (t115.length : Int)) = false := decide_eq_false c18
                          clear c18
                          replace H := Option.bind_eq_some_iff.mp H
                          obtain ⟨t120, A230, H⟩ := H
                          replace H : (if t120 = true then (if x9_5 = 1 then (some (wrap64 (-x15_3), wrap64 (-(wrap64 ((wrap64 (x10_2 * 65536)) + t116))), 0, 0)) else (some ((wrap64 ((wrap64 (x10_2 * 65536)) + t116)), x15_3, 0, 0))) else (some (0, 0, 0, 2))) = some (r1, r2, r3, r4) := H
                          have A23 := Aside0.mk A230
                          clear A230
                          by_cases c24 : t120 = true
                          · subst c24
                            have H1 : (if x9_5 = 1 then (some (wrap64 (-x15_3), wrap64 (-(wrap64 ((wrap64 (x10_2 * 65536)) + t116))), 0, 0)) else (some ((wrap64 ((wrap64 (x10_2 * 65536)) + t116)), x15_3, 0, 0))) = some (r1, r2, r3, r4) := by rw [if_pos rfl] at H; exact H
                            clear H
                            have H := H1
                            clear H1
                            by_cases c25 : x9_5 = 1
                            · rw [if_pos c25] at H
                              have c25b0 : (x9_5 == 1) = true := beq_iff_eq.mpr c25
                              have c25b1 : (x9_5 != 1) = false := bne_eq_false_iff_eq.mpr c25
                              clear c25
                              simp only [Option.some.injEq, Prod.mk.injEq] at H
                              obtain ⟨rfl, rfl, rfl, rfl⟩ := H
                              obtain ⟨Ao26, co26, eo26⟩ := Kd.R_slice HO_12.out
                              subst eo26
                              go_wp2_with (first | ((with_reducible refine gate_callee (f := 14) rfl ?_); refine goesL_ (some 74) rfl rfl Tryd.func14 (by kernel_rfl) rfl #[.int .i64 x15_3] rfl (by (try simp only [List.map_toArray, List.map_cons, List.map_nil]); first | done | rfl | (simp only [List.length_drop, List.length_take]; rfl)) ?_; (with_reducible refine (armillaryref01_Valid.calls x15_3 true _ A23.out).mono ?_); rintro e w' ⟨rfl, ⟨nd, rfl⟩⟩; refine ⟨_, rfl, ?_⟩))
                              refine bodyPost_ret (results_list (rs := [.tmp 2, .tmp 3, .tmp 4, .tmp 5]) rfl (by simp) (.tmp (.tmp (.tmp (.tmp .nil))))) rfl ?_
                              exact ⟨by first | rfl | (simp [errW_none, errW_some] <;> rfl) | (simp only [← hji13]; first | rfl | (simp [errW_none, errW_some] <;> rfl)) | (simp [*, errW_none, errW_some] <;> rfl), by repeat (first | (with_reducible first | exact HB.out | apply below_alloc | apply pw_below_drewN | apply below_drew1) | exact HB.out)⟩
                            · rw [if_neg c25] at H
                              have c25b0 : (x9_5 == 1) = false := beq_eq_false_iff_ne.mpr c25
                              have c25b1 : (x9_5 != 1) = true := bne_iff_ne.mpr c25
                              simp only [Option.some.injEq, Prod.mk.injEq] at H
                              obtain ⟨rfl, rfl, rfl, rfl⟩ := H
                              obtain ⟨Ao27, co27, eo27⟩ := Kd.R_slice HO_12.out
                              subst eo27
                              go_wp2_with (first | ((with_reducible refine gate_callee (f := 14) rfl ?_); refine goesL_ (some 74) rfl rfl Tryd.func14 (by kernel_rfl) rfl #[.int .i64 x15_3] rfl (by (try simp only [List.map_toArray, List.map_cons, List.map_nil]); first | done | rfl | (simp only [List.length_drop, List.length_take]; rfl)) ?_; (with_reducible refine (armillaryref01_Valid.calls x15_3 true _ A23.out).mono ?_); rintro e w' ⟨rfl, ⟨nd, rfl⟩⟩; refine ⟨_, rfl, ?_⟩))
                              refine bodyPost_ret (results_list (rs := [.tmp 2, .tmp 3, .tmp 4, .tmp 5]) rfl (by simp) (.tmp (.tmp (.tmp (.tmp .nil))))) rfl ?_
                              exact ⟨by first | rfl | (simp [errW_none, errW_some] <;> rfl) | (simp only [← hji13]; first | rfl | (simp [errW_none, errW_some] <;> rfl)) | (simp [*, errW_none, errW_some] <;> rfl), by repeat (first | (with_reducible first | exact HB.out | apply below_alloc | apply pw_below_drewN | apply below_drew1) | exact HB.out)⟩
                          · replace c24 := Bool.eq_false_iff.mpr c24
                            subst c24
                            have H1 : (some (0, 0, 0, 2)) = some (r1, r2, r3, r4) := by rw [if_neg (show ¬ (false = true) by decide)] at H; exact H
                            clear H
                            have H := H1
                            clear H1
                            simp only [Option.some.injEq, Prod.mk.injEq] at H
                            obtain ⟨rfl, rfl, rfl, rfl⟩ := H
                            obtain ⟨Ao28, co28, eo28⟩ := Kd.R_slice HO_12.out
                            subst eo28
                            go_wp2_with (first | ((with_reducible refine gate_callee (f := 14) rfl ?_); refine goesL_ (some 74) rfl rfl Tryd.func14 (by kernel_rfl) rfl #[.int .i64 x15_3] rfl (by (try simp only [List.map_toArray, List.map_cons, List.map_nil]); first | done | rfl | (simp only [List.length_drop, List.length_take]; rfl)) ?_; (with_reducible refine (armillaryref01_Valid.calls x15_3 false _ A23.out).mono ?_); rintro e w' ⟨rfl, ⟨nd, rfl⟩⟩; refine ⟨_, rfl, ?_⟩))
                            refine bodyPost_ret (results_list (rs := [.tmp 2, .tmp 3, .tmp 4, .tmp 5]) rfl (by simp) (.tmp (.tmp (.tmp (.tmp .nil))))) rfl ?_
                            exact ⟨by first | rfl | (simp [errW_none, errW_some] <;> rfl) | (simp only [← hji13]; first | rfl | (simp [errW_none, errW_some] <;> rfl)) | (simp [*, errW_none, errW_some] <;> rfl), by repeat (first | (with_reducible first | exact HB.out | apply below_alloc | apply pw_below_drewN | apply below_drew1) | exact HB.out)⟩
                  · rw [if_neg c15] at H
                    exact absurd H (by simp)
                · rw [if_neg c14] at H
                  exact absurd H (by simp)
    · rw [if_neg c4] at H
      exact absurd H (by simp)
  · replace c3 := Bool.eq_false_iff.mpr c3
    subst c3
    have H1 : (some (0, 0, t113, 10)) = some (r1, r2, r3, r4) := by rw [if_neg (show ¬ (false = true) by decide)] at H; exact H
    clear H
    have H := H1
    clear H1
    simp only [Option.some.injEq, Prod.mk.injEq] at H
    obtain ⟨rfl, rfl, rfl, rfl⟩ := H
    go_enter Tryd.func25, Tryd.ntmps25
    go_wp2_with (first | ((with_reducible refine gate_callee (f := 29) rfl ?_); refine goesL_ (some 19) rfl rfl Tryd.func29 (by kernel_rfl) rfl #[.string a0] rfl (by (try simp only [List.map_toArray, List.map_cons, List.map_nil]); first | done | rfl | (simp only [List.length_drop, List.length_take]; rfl)) ?_; (with_reducible refine (armillaryref01_ScanDecimal.calls k a0 false t113 t114 _ A2.out).mono ?_); rintro e w' ⟨rfl, ⟨nd, rfl⟩⟩; refine ⟨_, rfl, ?_⟩))
    refine bodyPost_ret (results_list (rs := [.tmp 2, .tmp 3, .tmp 4, .tmp 5]) rfl (by simp) (.tmp (.tmp (.tmp (.tmp .nil))))) rfl ?_
    exact ⟨by first | rfl | (simp [errW_none, errW_some] <;> rfl) | (simp [*, errW_none, errW_some] <;> rfl), by repeat (first | (with_reducible first | exact HB.out | apply below_alloc | apply pw_below_drewN | apply below_drew1) | exact HB.out)⟩

end Go.Proofs.YtbijolohpfkihaaDoor.PParse
