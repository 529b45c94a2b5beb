/- OeL OeP OeR -/
import Derived.Test.YthcidkidpiaomaaGreatDoorKb26
import Derived.Test.YthcidkidpiaomaaGreatDoorKb09
import Derived.Test.YthcidkidpiaomaaGreatDoorKb23
section
set_option linter.unusedVariables false
set_option linter.unusedSimpArgs false
namespace Go.Proofs.YthcidkidpiaomaaGreatDoor.Od
open Go.RowKit Rg
set_option maxRecDepth 100000 in
set_option maxHeartbeats 16000000 in
theorem FormatExpr_n {vars : List ByteArray} (hnm : ∀ x ∈ strL vars, okName x = true) : ∀ (n : Nat) (t : Tr), (flat t).length ≤ n → okT (strL vars) t → ∀ (v vn : Value) (w : World), RdN w v (flat t) → Strs w vn vars → Fx.Tabs w →
    Calls Tryz.prog 37 #[v, vn] w fun e' w' => (∃ s, e' = .returned (.string s) ∧ s.data.toList = fmtT (strL vars) t) ∧ Below w.heap.size w w'
  | 0, t, hn, _ => absurd (List.length_eq_zero_iff.1 (Nat.le_zero.1 hn)) (flat_ne t)
  | n + 1, t, hn, hok => by
    intro v vn w hrd hsv htab
    have IH : Aside (∀ k ∈ kids t, ∀ (v vn : Value) (w : World), RdN w v (flat k) → Strs w vn vars → Fx.Tabs w →
      Calls Tryz.prog 37 #[v, vn] w fun e' w' => (∃ s, e' = .returned (.string s) ∧ s.data.toList = fmtT (strL vars) k) ∧ Below w.heap.size w w') := ⟨fun k hk => FormatExpr_n hnm n k (by have := kid_len hk; omega) (kids_ok hok k hk)⟩
    have HOK := Aside.mk hok
    have HNM := Aside.mk hnm
    have HRD := Aside.mk hrd
    have HSV := Aside.mk hsv
    have HT := Aside.mk htab
    have HAR := Aside.mk (kids_arity hok)
    have HKL : Aside (∀ k ∈ kids t, (fmtT (strL vars) k).length ≤ 252022) := ⟨fun k hk => by
      have h1 := fmtT_len hnm k (kids_ok hok k hk)
      have h2 := kid_len hk
      have h3 := hrd.few
      omega⟩
    clear hn hok hnm hrd hsv htab
    go_enter Tryz.func37, Tryz.ntmps37
    go_wp2_with fail
    refine (Operands_any t HOK.out v w HRD.out).mono ?_
    rintro e' w1 ⟨vo, rfl, hfs, hb1⟩
    have HB1 := Aside.mk hb1
    obtain ⟨ao, c, rfl, hat⟩ := hfs.at
    have HFS := Aside.mk hfs
    have HAT := Aside.mk hat
    rw [List.length_map]
    obtain ⟨M, hM⟩ : ∃ M, (kids t).length = M := ⟨_, rfl⟩
    have hM2 : M ≤ 2 := by rw [← hM]; cases t <;> simp [kids]
    have HM := Aside.mk (And.intro hM hM2)
    rw [hM]
    clear hM hfs hat hb1
    go_wp2_with fail
    go_loopg [5, 13] M (fun m v5 v13 wr => ∃ (i : Nat) (xs : List ByteArray), v13 = .int .i64 (i : Nat) ∧ Aside (i ≤ M ∧ M - i ≤ m ∧ xs.length = i) ∧ Aside (∀ j, j < i → ∃ k y, (kids t)[j]? = some k ∧ xs[j]? = some y ∧ y.data.toList = fmtT (strL vars) k) ∧ Aside (wr.ownsRow w1.heap.size 9 1 v5 i (xs.map Value.string)) ∧ Aside (Below w1.heap.size w1 wr))
    case atStart => exact ⟨0, [], rfl, ⟨by simp⟩, ⟨fun j hj => by omega⟩, ⟨⟨rfl, Or.inl ⟨rfl, rfl⟩⟩⟩, ⟨Below.refl _ _⟩⟩
    case round =>
      obtain ⟨i, xs, rfl, HI, HX, HO, HB⟩ := hrel
      by_cases hi : i < M
      · have hi' : (i : Int) < (M : Int) := by omega
        have hi2 : i < M := hi
        obtain ⟨k, hk⟩ : ∃ k, (kids t)[i]? = some k := ⟨_, List.getElem?_eq_getElem (by rw [HM.out.1]; exact hi)⟩
        have HK := Aside.mk hk
        obtain ⟨b, o, u, rfl, hu, hru⟩ := HAT.out i (flat k) (by rw [List.getElem?_map, hk]; rfl)
        have hu' : wr.cell? ⟨b, o + i, none⟩ = some u := by rw [HB.out.cell (p := ⟨b, o + i, none⟩) (World.block_lt_of_cell? w1 _ hu)]; exact hu
        obtain ⟨au, cu, rfl⟩ := hru.slice
        have HRU := Aside.mk (hru.below HB.out)
        clear hk hu hru hi
        go_wp2_with fail
        have hbw : Below w.heap.size w wr := HB1.out.trans (HB.out.mono HB1.out.size)
        refine (IH.out k (List.mem_of_getElem? HK.out) _ vn wr HRU.out (HSV.out.below hbw) (HT.out.below hbw)).mono ?_
        rintro e' w2 ⟨⟨y, rfl, hy⟩, hb2⟩
        have HY := Aside.mk hy
        have HO2 := Aside.mk (owns_below HO.out hb2)
        have HB2 := Aside.mk (HB.out.trans (hb2.mono HB.out.size))
        have hal : Below w2.heap.size w2 (w2.alloc (.cells #[.string y] 9)) := (Below.refl _ _).alloc (Nat.le_refl _) _
        have HRK := Aside.mk (heap_alloc_last w2 (.cells #[.string y] 9))
        have HO3 := Aside.mk (owns_below HO2.out hal)
        have HB3 := Aside.mk (HB2.out.trans (hal.mono HB2.out.size))
        clear hb2 hal hy hbw
        go_wp2_with (first | (at_builtin; refine wpList_append_str _ rfl (.tmp 17) (.tmp 21) rfl w1.heap.size _ xs i HI.out.2.2 rfl HO3.out _ _ rfl HRK.out (by have := HI.out; have := HM.out.2; omega) HB3.out.size ?_; intro ao2 cap w4 ho4 hb4))
        obtain ⟨go, hgo⟩ : ∃ go, gk = go + 1 := ⟨gk - 1, by have := HI.out; omega⟩
        have HX4 : Aside (∀ j, j < i + 1 → ∃ k z, (kids t)[j]? = some k ∧ (xs ++ [y])[j]? = some z ∧ z.data.toList = fmtT (strL vars) k) := ⟨fun j hj => by
          have hul := HI.out.2.2
          by_cases hji : j < i
          · obtain ⟨k2, z, h1, h2, h3⟩ := HX.out j hji
            exact ⟨k2, z, h1, by rw [List.getElem?_append_left (by omega)]; exact h2, h3⟩
          · have hje : j = i := by omega
            subst hje
            exact ⟨k, y, HK.out, by rw [List.getElem?_append_right (by omega), hul, Nat.sub_self]; rfl, HY.out⟩⟩
        have HO4 := Aside.mk ho4
        have HB4 := Aside.mk (HB3.out.trans hb4)
        clear ho4 hb4
        go_roundg go
        case measure => omega
        case rel => exact ⟨i + 1, xs ++ [y], rfl, ⟨by have := HI.out; simp; omega⟩, HX4, HO4, HB4⟩
      · have hi' : ¬ ((i : Int) < (M : Int)) := by omega
        have him : i = M := by have := HI.out; omega
        subst him
        have hfew := HRD.out.few
        rcases HRD.out.out with ⟨h0, -⟩ | ⟨b, o, c2, rfl, hcp, hc⟩
        · exact absurd h0 (flat_ne t)
        have hbw : Below w.heap.size w wr := HB1.out.trans (HB.out.mono HB1.out.size)
        have HBW := Aside.mk hbw
        have hx0 : (flat t)[0]? = some (hdN t) := by rw [flat_kids]; rfl
        have cell : ∀ r, r < 4 → ∀ u, (nd4 (hdN t))[r]? = some u → wr.cell? ⟨b, o + (0 * 4 + r), none⟩ = some u := fun r hr u hu => by
          have := hc (0 * 4 + r) u (by rw [nds_get _ 0 _ r hx0 hr]; exact hu)
          rw [hbw.cell (p := ⟨b, o + (0 * 4 + r), none⟩) (World.block_lt_of_cell? w _ this)]; exact this
        have c0 := cell 0 (by decide) _ rfl
        have c1 := cell 1 (by decide) _ rfl
        have c2' := cell 2 (by decide) _ rfl
        have c3 := cell 3 (by decide) _ rfl
        simp only [Nat.zero_mul, Nat.zero_add, Nat.add_zero] at c0 c1 c2' c3
        have HT2 := Aside.mk (HT.out.below hbw)
        have HSV2 := Aside.mk (HSV.out.below hbw)
        obtain ⟨nn, hnn⟩ : ∃ nn, (flat t).length = nn := ⟨_, rfl⟩
        have hnpos : (0 : Int) < (nn : Int) := by have := flat_pos t; omega
        rw [hnn]
        clear hc hx0 cell hbw hcp hfew HRD IH hnn
        simp only [kids] at HM HX HKL
        cases t with
        | num lo hi =>
            simp only [hdN] at c0 c1 c2' c3
            have hal : Below wr.heap.size wr (wr.alloc (.cells #[.int .i64 1, .int .i64 0, .int .i64 lo, .int .i64 hi] 79)) := (Below.refl _ _).alloc (Nat.le_refl _) _
            have HAL := Aside.mk hal
            have HRW := Aside.mk (heap_alloc_last wr (.cells #[.int .i64 1, .int .i64 0, .int .i64 lo, .int .i64 hi] 79))
            have hgl : wr.heap.size < (wr.alloc (.cells #[.int .i64 1, .int .i64 0, .int .i64 lo, .int .i64 hi] 79)).heap.size := lt_of HRW.out
            have HBA := Aside.mk (HBW.out.trans (hal.mono HBW.out.size))
            clear hal
            go_wp2_with fail
            refine (formatInterval_any lo hi _ HOK.out (HT2.out.below HAL.out)).mono ?_
            rintro e' w5 ⟨⟨y, rfl, hy⟩, hb5⟩
            go_wp2_with fail
            go_ret
            exact ⟨⟨_, rfl, hy⟩, HBA.out.trans (hb5.mono HBA.out.size)⟩
        | var m =>
            simp only [hdN] at c0 c1 c2' c3
            have hal : Below wr.heap.size wr (wr.alloc (.cells #[.int .i64 2, .int .i64 (m : Nat), .int .i64 0, .int .i64 0] 79)) := (Below.refl _ _).alloc (Nat.le_refl _) _
            have HAL := Aside.mk hal
            have HRW := Aside.mk (heap_alloc_last wr (.cells #[.int .i64 2, .int .i64 (m : Nat), .int .i64 0, .int .i64 0] 79))
            have hgl : wr.heap.size < (wr.alloc (.cells #[.int .i64 2, .int .i64 (m : Nat), .int .i64 0, .int .i64 0] 79)).heap.size := lt_of HRW.out
            have HBA := Aside.mk (HBW.out.trans (hal.mono HBW.out.size))
            have hm : m < vars.length := by have : m < (strL vars).length := HOK.out; simpa [strL] using this
            obtain ⟨y, hy⟩ : ∃ y, vars[m]? = some y := ⟨_, List.getElem?_eq_getElem hm⟩
            obtain ⟨av, cv, rfl, hv⟩ := HSV2.out.at
            obtain ⟨bv, ov, rfl, cy⟩ := hv m y hy
            have HY : Aside (y.data.toList = fmtT (strL vars) (.var m)) := ⟨by unfold fmtT strL; rw [List.getD_eq_getElem?_getD, List.getElem?_map, hy]; rfl⟩
            have hbvl := World.block_lt_of_cell? wr _ cy
            have cy2 : (wr.alloc (.cells #[.int .i64 2, .int .i64 (m : Nat), .int .i64 0, .int .i64 0] 79)).cell? ⟨bv, ov + m, none⟩ = some (.string y) := (hal.cell (p := ⟨bv, ov + m, none⟩) hbvl).trans cy
            have hm0 : (0 : Int) ≤ (m : Int) := by omega
            obtain ⟨nv, hnv⟩ : ∃ nv, vars.length = nv := ⟨_, rfl⟩
            rw [hnv] at hm ⊢
            have hm1 : (m : Int) < (nv : Int) := by omega
            clear hal hy hv cy hnv
            go_wp2_with fail
            go_ret
            exact ⟨⟨_, rfl, HY.out⟩, HBA.out⟩
        | time =>
            simp only [hdN] at c0 c1 c2' c3
            have hal : Below wr.heap.size wr (wr.alloc (.cells #[.int .i64 3, .int .i64 0, .int .i64 0, .int .i64 0] 79)) := (Below.refl _ _).alloc (Nat.le_refl _) _
            have HAL := Aside.mk hal
            have HRW := Aside.mk (heap_alloc_last wr (.cells #[.int .i64 3, .int .i64 0, .int .i64 0, .int .i64 0] 79))
            have hgl : wr.heap.size < (wr.alloc (.cells #[.int .i64 3, .int .i64 0, .int .i64 0, .int .i64 0] 79)).heap.size := lt_of HRW.out
            have HBA := Aside.mk (HBW.out.trans (hal.mono HBW.out.size))
            clear hal
            go_wp2_with fail
            go_ret
            exact ⟨⟨_, rfl, rfl⟩, HBA.out⟩
        | un op a =>
            simp only [hdN] at c0 c1 c2' c3
            obtain rfl : 1 = i := HM.out.1
            obtain ⟨k, y, hk, hxy, hy⟩ := HX.out 0 (by decide)
            obtain rfl : a = k := Option.some.inj hk
            have HY := Aside.mk hy
            have hys : y.size ≤ 252022 := by
              have := HKL.out a (List.mem_singleton.2 rfl)
              rw [← hy] at this; exact this
            obtain ⟨b5, c5, rfl, h5⟩ := strs_own HO.out HI.out.2.2 (by decide)
            have cy := h5 0 y hxy
            have hb5 := World.block_lt_of_cell? wr _ cy
            have hop := HOK.out.1
            clear hk hxy hy h5
            rcases (show op = 4 ∨ op = 5 ∨ op = 6 by omega) with rfl | rfl | rfl
            ·
              have hal : Below wr.heap.size wr (wr.alloc (.cells #[.int .i64 4, .int .i64 0, .int .i64 0, .int .i64 0] 79)) := (Below.refl _ _).alloc (Nat.le_refl _) _
              have HAL := Aside.mk hal
              have HRW := Aside.mk (heap_alloc_last wr (.cells #[.int .i64 4, .int .i64 0, .int .i64 0, .int .i64 0] 79))
              have hgl : wr.heap.size < (wr.alloc (.cells #[.int .i64 4, .int .i64 0, .int .i64 0, .int .i64 0] 79)).heap.size := lt_of HRW.out
              have HBA := Aside.mk (HBW.out.trans (hal.mono HBW.out.size))
              have cy2 : (wr.alloc (.cells #[.int .i64 4, .int .i64 0, .int .i64 0, .int .i64 0] 79)).cell? ⟨b5, 0, none⟩ = some (.string y) := (hal.cell (p := ⟨b5, 0, none⟩) hb5).trans cy
              clear hal cy
              go_wp2_with fail
              go_ret
              refine ⟨⟨_, rfl, ?_⟩, HBA.out⟩
              simp [fmtT, ← HY.out, wSqr, wSqrt, ByteArray.data_append]
            ·
              have hal : Below wr.heap.size wr (wr.alloc (.cells #[.int .i64 5, .int .i64 0, .int .i64 0, .int .i64 0] 79)) := (Below.refl _ _).alloc (Nat.le_refl _) _
              have HAL := Aside.mk hal
              have HRW := Aside.mk (heap_alloc_last wr (.cells #[.int .i64 5, .int .i64 0, .int .i64 0, .int .i64 0] 79))
              have hgl : wr.heap.size < (wr.alloc (.cells #[.int .i64 5, .int .i64 0, .int .i64 0, .int .i64 0] 79)).heap.size := lt_of HRW.out
              have HBA := Aside.mk (HBW.out.trans (hal.mono HBW.out.size))
              have cy2 : (wr.alloc (.cells #[.int .i64 5, .int .i64 0, .int .i64 0, .int .i64 0] 79)).cell? ⟨b5, 0, none⟩ = some (.string y) := (hal.cell (p := ⟨b5, 0, none⟩) hb5).trans cy
              clear hal cy
              go_wp2_with fail
              go_ret
              refine ⟨⟨_, rfl, ?_⟩, HBA.out⟩
              simp [fmtT, ← HY.out, wSqr, wSqrt, ByteArray.data_append]
            ·
              have hal : Below wr.heap.size wr (wr.alloc (.cells #[.int .i64 6, .int .i64 0, .int .i64 0, .int .i64 0] 79)) := (Below.refl _ _).alloc (Nat.le_refl _) _
              have HAL := Aside.mk hal
              have HRW := Aside.mk (heap_alloc_last wr (.cells #[.int .i64 6, .int .i64 0, .int .i64 0, .int .i64 0] 79))
              have hgl : wr.heap.size < (wr.alloc (.cells #[.int .i64 6, .int .i64 0, .int .i64 0, .int .i64 0] 79)).heap.size := lt_of HRW.out
              have HBA := Aside.mk (HBW.out.trans (hal.mono HBW.out.size))
              have cy2 : (wr.alloc (.cells #[.int .i64 6, .int .i64 0, .int .i64 0, .int .i64 0] 79)).cell? ⟨b5, 0, none⟩ = some (.string y) := (hal.cell (p := ⟨b5, 0, none⟩) hb5).trans cy
              clear hal cy
              go_wp2_with fail
              go_ret
              refine ⟨⟨_, rfl, ?_⟩, HBA.out⟩
              simp [fmtT, ← HY.out, wSqr, wSqrt, ByteArray.data_append]
        | bin op a z =>
            simp only [hdN] at c0 c1 c2' c3
            obtain rfl : 2 = i := HM.out.1
            obtain ⟨k, y, hk, hxy, hy⟩ := HX.out 0 (by decide)
            obtain rfl : a = k := Option.some.inj hk
            obtain ⟨k, yz, hk2, hxz, hz⟩ := HX.out 1 (by decide)
            obtain rfl : z = k := Option.some.inj hk2
            have HY := Aside.mk hy
            have HZ := Aside.mk hz
            have hys : y.size ≤ 252022 := by
              have := HKL.out a (by simp)
              rw [← hy] at this; exact this
            have hzs : yz.size ≤ 252022 := by
              have := HKL.out z (by simp)
              rw [← hz] at this; exact this
            obtain ⟨b5, c5, rfl, h5⟩ := strs_own HO.out HI.out.2.2 (by decide)
            have cy := h5 0 y hxy
            have cz := h5 1 yz hxz
            have hb5 := World.block_lt_of_cell? wr _ cy
            have hbb := World.block_lt_of_cell? wr _ c0
            have hop := HOK.out.1
            have HCELL := Aside.mk (And.intro cy (And.intro cz (And.intro hb5 (And.intro c0 hbb))))
            have hmm := @run_makeMap Tryz.prog
            clear hk hxy hy h5 hk2 hxz hz cy cz hb5 hbb
            rcases (show op = 7 ∨ op = 8 ∨ op = 9 ∨ op = 10 by omega) with rfl | rfl | rfl | rfl
            ·
              have hal : Below wr.heap.size wr (wr.alloc (.cells #[.int .i64 7, .int .i64 0, .int .i64 0, .int .i64 0] 79)) := (Below.refl _ _).alloc (Nat.le_refl _) _
              have HAL := Aside.mk hal
              have HRW := Aside.mk (heap_alloc_last wr (.cells #[.int .i64 7, .int .i64 0, .int .i64 0, .int .i64 0] 79))
              have hgl : wr.heap.size < (wr.alloc (.cells #[.int .i64 7, .int .i64 0, .int .i64 0, .int .i64 0] 79)).heap.size := lt_of HRW.out
              have HBA := Aside.mk (HBW.out.trans (hal.mono HBW.out.size))
              have HBM : Aside (Below (wr.alloc (.cells #[.int .i64 7, .int .i64 0, .int .i64 0, .int .i64 0] 79)).heap.size (wr.alloc (.cells #[.int .i64 7, .int .i64 0, .int .i64 0, .int .i64 0] 79)) ((wr.alloc (.cells #[.int .i64 7, .int .i64 0, .int .i64 0, .int .i64 0] 79)).alloc (.map #[] 0))) := ⟨(Below.refl _ _).alloc (Nat.le_refl _) _⟩
              have HM0 := Aside.mk (IsM.nil (wr.alloc (.cells #[.int .i64 7, .int .i64 0, .int .i64 0, .int .i64 0] 79)))
              clear hal
              obtain ⟨W0, hW0⟩ : ∃ W0, (wr.alloc (.cells #[.int .i64 7, .int .i64 0, .int .i64 0, .int .i64 0] 79)) = W0 := ⟨_, rfl⟩
              have HW0 := Aside.mk hW0
              rw [hW0] at HBM HM0 HAL HRW HBA
              obtain ⟨gm, hgm⟩ : ∃ gm, wr.heap.size + 1 = gm := ⟨_, rfl⟩
              have HGM := Aside.mk hgm
              have HS0 : Aside (W0.heap.size = gm) := ⟨by rw [← hW0, World.size_alloc]; exact hgm⟩
              rw [HS0.out] at HBM HM0
              clear hgm hW0
              have hmz := HM0.out
              have hbz : gm ≤ gm := Nat.le_refl _
              go_wp2_with (first | ((try simp only [HW0.out, HGM.out]); refine wpList_ins _ rfl 132 _ _ _ rfl 9 (by kernel_rfl) gm _ rfl (by assumption) _ rfl _ rfl (by simp) gm hbz ?_; intro wx hmx hbx; replace HBM := Aside.mk (HBM.out.trans hbx); clear hbx))
              have hmw : Below wr.heap.size wr wx := HAL.out.trans (HBM.out.mono (by have := HGM.out; omega))
              have hb5 := HCELL.out.2.2.1
              have hbb := HCELL.out.2.2.2.2
              have k5 := (hmw.cell (p := ⟨b5, 0, none⟩) hb5).trans HCELL.out.1
              have k6 := (hmw.cell (p := ⟨b5, 1, none⟩) hb5).trans HCELL.out.2.1
              have k0 := (hmw.cell (p := ⟨b, o, none⟩) hbb).trans HCELL.out.2.2.2.1
              have hlk := fun n => run_look (wx.drewN n) 132 9 (by kernel_rfl) (hmx.below (w' := wx.drewN n) ⟨rfl, rfl, rfl, Nat.le_refl _, fun _ _ => rfl⟩) 7 (.string ⟨#[43]⟩) rfl
              have HBX := Aside.mk (HBA.out.trans (HBM.out.mono (by have := HS0.out; have := HBA.out.size; omega)))
              clear hmw hb5 hbb hmx c0 c1 c2' c3 hgl
              go_quiet (fail)
              go_wp2_with fail
              go_ret
              refine ⟨⟨_, rfl, ?_⟩, HBX.out.trans ⟨rfl, rfl, rfl, Nat.le_refl _, fun _ _ => rfl⟩⟩
              simp [fmtT, ← HY.out, ← HZ.out, opCh, ByteArray.data_append]
            ·
              have hal : Below wr.heap.size wr (wr.alloc (.cells #[.int .i64 8, .int .i64 0, .int .i64 0, .int .i64 0] 79)) := (Below.refl _ _).alloc (Nat.le_refl _) _
              have HAL := Aside.mk hal
              have HRW := Aside.mk (heap_alloc_last wr (.cells #[.int .i64 8, .int .i64 0, .int .i64 0, .int .i64 0] 79))
              have hgl : wr.heap.size < (wr.alloc (.cells #[.int .i64 8, .int .i64 0, .int .i64 0, .int .i64 0] 79)).heap.size := lt_of HRW.out
              have HBA := Aside.mk (HBW.out.trans (hal.mono HBW.out.size))
              have HBM : Aside (Below (wr.alloc (.cells #[.int .i64 8, .int .i64 0, .int .i64 0, .int .i64 0] 79)).heap.size (wr.alloc (.cells #[.int .i64 8, .int .i64 0, .int .i64 0, .int .i64 0] 79)) ((wr.alloc (.cells #[.int .i64 8, .int .i64 0, .int .i64 0, .int .i64 0] 79)).alloc (.map #[] 0))) := ⟨(Below.refl _ _).alloc (Nat.le_refl _) _⟩
              have HM0 := Aside.mk (IsM.nil (wr.alloc (.cells #[.int .i64 8, .int .i64 0, .int .i64 0, .int .i64 0] 79)))
              clear hal
              obtain ⟨W0, hW0⟩ : ∃ W0, (wr.alloc (.cells #[.int .i64 8, .int .i64 0, .int .i64 0, .int .i64 0] 79)) = W0 := ⟨_, rfl⟩
              have HW0 := Aside.mk hW0
              rw [hW0] at HBM HM0 HAL HRW HBA
              obtain ⟨gm, hgm⟩ : ∃ gm, wr.heap.size + 1 = gm := ⟨_, rfl⟩
              have HGM := Aside.mk hgm
              have HS0 : Aside (W0.heap.size = gm) := ⟨by rw [← hW0, World.size_alloc]; exact hgm⟩
              rw [HS0.out] at HBM HM0
              clear hgm hW0
              have hmz := HM0.out
              have hbz : gm ≤ gm := Nat.le_refl _
              go_wp2_with (first | ((try simp only [HW0.out, HGM.out]); refine wpList_ins _ rfl 132 _ _ _ rfl 9 (by kernel_rfl) gm _ rfl (by assumption) _ rfl _ rfl (by simp) gm hbz ?_; intro wx hmx hbx; replace HBM := Aside.mk (HBM.out.trans hbx); clear hbx))
              have hmw : Below wr.heap.size wr wx := HAL.out.trans (HBM.out.mono (by have := HGM.out; omega))
              have hb5 := HCELL.out.2.2.1
              have hbb := HCELL.out.2.2.2.2
              have k5 := (hmw.cell (p := ⟨b5, 0, none⟩) hb5).trans HCELL.out.1
              have k6 := (hmw.cell (p := ⟨b5, 1, none⟩) hb5).trans HCELL.out.2.1
              have k0 := (hmw.cell (p := ⟨b, o, none⟩) hbb).trans HCELL.out.2.2.2.1
              have hlk := fun n => run_look (wx.drewN n) 132 9 (by kernel_rfl) (hmx.below (w' := wx.drewN n) ⟨rfl, rfl, rfl, Nat.le_refl _, fun _ _ => rfl⟩) 8 (.string ⟨#[45]⟩) rfl
              have HBX := Aside.mk (HBA.out.trans (HBM.out.mono (by have := HS0.out; have := HBA.out.size; omega)))
              clear hmw hb5 hbb hmx c0 c1 c2' c3 hgl
              go_quiet (fail)
              go_wp2_with fail
              go_ret
              refine ⟨⟨_, rfl, ?_⟩, HBX.out.trans ⟨rfl, rfl, rfl, Nat.le_refl _, fun _ _ => rfl⟩⟩
              simp [fmtT, ← HY.out, ← HZ.out, opCh, ByteArray.data_append]
            ·
              have hal : Below wr.heap.size wr (wr.alloc (.cells #[.int .i64 9, .int .i64 0, .int .i64 0, .int .i64 0] 79)) := (Below.refl _ _).alloc (Nat.le_refl _) _
              have HAL := Aside.mk hal
              have HRW := Aside.mk (heap_alloc_last wr (.cells #[.int .i64 9, .int .i64 0, .int .i64 0, .int .i64 0] 79))
              have hgl : wr.heap.size < (wr.alloc (.cells #[.int .i64 9, .int .i64 0, .int .i64 0, .int .i64 0] 79)).heap.size := lt_of HRW.out
              have HBA := Aside.mk (HBW.out.trans (hal.mono HBW.out.size))
              have HBM : Aside (Below (wr.alloc (.cells #[.int .i64 9, .int .i64 0, .int .i64 0, .int .i64 0] 79)).heap.size (wr.alloc (.cells #[.int .i64 9, .int .i64 0, .int .i64 0, .int .i64 0] 79)) ((wr.alloc (.cells #[.int .i64 9, .int .i64 0, .int .i64 0, .int .i64 0] 79)).alloc (.map #[] 0))) := ⟨(Below.refl _ _).alloc (Nat.le_refl _) _⟩
              have HM0 := Aside.mk (IsM.nil (wr.alloc (.cells #[.int .i64 9, .int .i64 0, .int .i64 0, .int .i64 0] 79)))
              clear hal
              obtain ⟨W0, hW0⟩ : ∃ W0, (wr.alloc (.cells #[.int .i64 9, .int .i64 0, .int .i64 0, .int .i64 0] 79)) = W0 := ⟨_, rfl⟩
              have HW0 := Aside.mk hW0
              rw [hW0] at HBM HM0 HAL HRW HBA
              obtain ⟨gm, hgm⟩ : ∃ gm, wr.heap.size + 1 = gm := ⟨_, rfl⟩
              have HGM := Aside.mk hgm
              have HS0 : Aside (W0.heap.size = gm) := ⟨by rw [← hW0, World.size_alloc]; exact hgm⟩
              rw [HS0.out] at HBM HM0
              clear hgm hW0
              have hmz := HM0.out
              have hbz : gm ≤ gm := Nat.le_refl _
              go_wp2_with (first | ((try simp only [HW0.out, HGM.out]); refine wpList_ins _ rfl 132 _ _ _ rfl 9 (by kernel_rfl) gm _ rfl (by assumption) _ rfl _ rfl (by simp) gm hbz ?_; intro wx hmx hbx; replace HBM := Aside.mk (HBM.out.trans hbx); clear hbx))
              have hmw : Below wr.heap.size wr wx := HAL.out.trans (HBM.out.mono (by have := HGM.out; omega))
              have hb5 := HCELL.out.2.2.1
              have hbb := HCELL.out.2.2.2.2
              have k5 := (hmw.cell (p := ⟨b5, 0, none⟩) hb5).trans HCELL.out.1
              have k6 := (hmw.cell (p := ⟨b5, 1, none⟩) hb5).trans HCELL.out.2.1
              have k0 := (hmw.cell (p := ⟨b, o, none⟩) hbb).trans HCELL.out.2.2.2.1
              have hlk := fun n => run_look (wx.drewN n) 132 9 (by kernel_rfl) (hmx.below (w' := wx.drewN n) ⟨rfl, rfl, rfl, Nat.le_refl _, fun _ _ => rfl⟩) 9 (.string ⟨#[42]⟩) rfl
              have HBX := Aside.mk (HBA.out.trans (HBM.out.mono (by have := HS0.out; have := HBA.out.size; omega)))
              clear hmw hb5 hbb hmx c0 c1 c2' c3 hgl
              go_quiet (fail)
              go_wp2_with fail
              go_ret
              refine ⟨⟨_, rfl, ?_⟩, HBX.out.trans ⟨rfl, rfl, rfl, Nat.le_refl _, fun _ _ => rfl⟩⟩
              simp [fmtT, ← HY.out, ← HZ.out, opCh, ByteArray.data_append]
            ·
              have hal : Below wr.heap.size wr (wr.alloc (.cells #[.int .i64 10, .int .i64 0, .int .i64 0, .int .i64 0] 79)) := (Below.refl _ _).alloc (Nat.le_refl _) _
              have HAL := Aside.mk hal
              have HRW := Aside.mk (heap_alloc_last wr (.cells #[.int .i64 10, .int .i64 0, .int .i64 0, .int .i64 0] 79))
              have hgl : wr.heap.size < (wr.alloc (.cells #[.int .i64 10, .int .i64 0, .int .i64 0, .int .i64 0] 79)).heap.size := lt_of HRW.out
              have HBA := Aside.mk (HBW.out.trans (hal.mono HBW.out.size))
              have HBM : Aside (Below (wr.alloc (.cells #[.int .i64 10, .int .i64 0, .int .i64 0, .int .i64 0] 79)).heap.size (wr.alloc (.cells #[.int .i64 10, .int .i64 0, .int .i64 0, .int .i64 0] 79)) ((wr.alloc (.cells #[.int .i64 10, .int .i64 0, .int .i64 0, .int .i64 0] 79)).alloc (.map #[] 0))) := ⟨(Below.refl _ _).alloc (Nat.le_refl _) _⟩
              have HM0 := Aside.mk (IsM.nil (wr.alloc (.cells #[.int .i64 10, .int .i64 0, .int .i64 0, .int .i64 0] 79)))
              clear hal
              obtain ⟨W0, hW0⟩ : ∃ W0, (wr.alloc (.cells #[.int .i64 10, .int .i64 0, .int .i64 0, .int .i64 0] 79)) = W0 := ⟨_, rfl⟩
              have HW0 := Aside.mk hW0
              rw [hW0] at HBM HM0 HAL HRW HBA
              obtain ⟨gm, hgm⟩ : ∃ gm, wr.heap.size + 1 = gm := ⟨_, rfl⟩
              have HGM := Aside.mk hgm
              have HS0 : Aside (W0.heap.size = gm) := ⟨by rw [← hW0, World.size_alloc]; exact hgm⟩
              rw [HS0.out] at HBM HM0
              clear hgm hW0
              have hmz := HM0.out
              have hbz : gm ≤ gm := Nat.le_refl _
              go_wp2_with (first | ((try simp only [HW0.out, HGM.out]); refine wpList_ins _ rfl 132 _ _ _ rfl 9 (by kernel_rfl) gm _ rfl (by assumption) _ rfl _ rfl (by simp) gm hbz ?_; intro wx hmx hbx; replace HBM := Aside.mk (HBM.out.trans hbx); clear hbx))
              have hmw : Below wr.heap.size wr wx := HAL.out.trans (HBM.out.mono (by have := HGM.out; omega))
              have hb5 := HCELL.out.2.2.1
              have hbb := HCELL.out.2.2.2.2
              have k5 := (hmw.cell (p := ⟨b5, 0, none⟩) hb5).trans HCELL.out.1
              have k6 := (hmw.cell (p := ⟨b5, 1, none⟩) hb5).trans HCELL.out.2.1
              have k0 := (hmw.cell (p := ⟨b, o, none⟩) hbb).trans HCELL.out.2.2.2.1
              have hlk := fun n => run_look (wx.drewN n) 132 9 (by kernel_rfl) (hmx.below (w' := wx.drewN n) ⟨rfl, rfl, rfl, Nat.le_refl _, fun _ _ => rfl⟩) 10 (.string ⟨#[47]⟩) rfl
              have HBX := Aside.mk (HBA.out.trans (HBM.out.mono (by have := HS0.out; have := HBA.out.size; omega)))
              clear hmw hb5 hbb hmx c0 c1 c2' c3 hgl
              go_quiet (fail)
              go_wp2_with fail
              go_ret
              refine ⟨⟨_, rfl, ?_⟩, HBX.out.trans ⟨rfl, rfl, rfl, Nat.le_refl _, fun _ _ => rfl⟩⟩
              simp [fmtT, ← HY.out, ← HZ.out, opCh, ByteArray.data_append]
set_option maxRecDepth 100000 in
theorem FormatExpr_any {vars : List ByteArray} (hnm : ∀ x ∈ strL vars, okName x = true) (t : Tr) (hok : okT (strL vars) t) (v vn : Value) (w : World) (h : RdN w v (flat t)) (hv : Strs w vn vars) (ht : Fx.Tabs w) :
    Calls Tryz.prog 37 #[v, vn] w fun e' w' => (∃ s, e' = .returned (.string s) ∧ s.data.toList = fmtT (strL vars) t) ∧ Below w.heap.size w w' :=
  FormatExpr_n hnm _ t (Nat.le_refl _) hok v vn w h hv ht
end Go.Proofs.YthcidkidpiaomaaGreatDoor.Od
end
section
set_option linter.unusedVariables false
namespace Go.Proofs.YthcidkidpiaomaaGreatDoor.Od
structure Ln where
  x : List UInt8
  t : Tr
  w1 : List UInt8
  w2 : List UInt8
  w3 : List UInt8
  w4 : List UInt8
  w5 : List UInt8
  k : Nat
def Ln.body (vars : List (List UInt8)) (l : Ln) : List UInt8 := l.x ++ (l.w2 ++ 39 :: (l.w3 ++ 61 :: (l.w4 ++ (fmtT vars l.t ++ (l.w5 ++ List.replicate (l.k + 1) 10)))))
def Ln.text (vars : List (List UInt8)) (l : Ln) : List UInt8 := l.w1 ++ l.body vars
structure Ln.ok (vars : List (List UInt8)) (l : Ln) : Prop where
  name : okName l.x = true
  tree : okT vars l.t
  ws : ∀ c, c ∈ l.w1 ++ l.w2 ++ l.w3 ++ l.w4 ++ l.w5 → isWs c = true
section
variable {L : List UInt8} {vars : List (List UInt8)} {p q : Nat} {R : List UInt8}
end
end Go.Proofs.YthcidkidpiaomaaGreatDoor.Od
end
section
set_option linter.unusedVariables false
namespace Go.Proofs.YthcidkidpiaomaaGreatDoor.Od
theorem fmtS_cons (x : List UInt8) (xs : List (List UInt8)) (vars : List (List UInt8)) (t : Tr) (ts : List Tr) : fmtS (x :: xs) vars (t :: ts) = x ++ [39, 32, 61, 32] ++ fmtT vars t ++ [10] ++ fmtS xs vars ts := rfl
theorem fmtS_len {vars : List (List UInt8)} (hv : ∀ x ∈ vars, okName x = true) : ∀ (xs : List (List UInt8)) (ts : List Tr), (∀ x ∈ xs, okName x = true) → (∀ t ∈ ts, okT vars t) → (fmtS xs vars ts).length ≤ 28 * (ts.map fun t => (flat t).length).sum + 39 * ts.length
  | xs, [], _, _ => by simp [fmtS]
  | [], t :: ts, _, _ => by simp [fmtS]
  | x :: xs, t :: ts, hx, ht => by
    have ih := fmtS_len hv xs ts (fun y hy => hx y (List.mem_cons_of_mem _ hy)) (fun y hy => ht y (List.mem_cons_of_mem _ hy))
    have h1 := fmtT_len hv t (ht t (List.mem_cons_self ..))
    have h2 : x.length ≤ 12 := by
      have := hx x (List.mem_cons_self ..)
      unfold okName at this
      simp only [Bool.and_eq_true, decide_eq_true_eq] at this
      omega
    rw [fmtS_cons]
    simp only [List.length_append, List.map_cons, List.sum_cons, List.length_cons, List.length_nil]
    omega
end Go.Proofs.YthcidkidpiaomaaGreatDoor.Od
end
