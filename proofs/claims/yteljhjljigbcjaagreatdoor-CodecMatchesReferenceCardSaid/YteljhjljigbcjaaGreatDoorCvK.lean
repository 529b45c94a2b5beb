/- Contracts of codec.appendBytes, validEntry, zeroEntry, EncodeEntry. -/
import Derived.Test.YteljhjljigbcjaaGreatDoorCvG
import Derived.Lib.ConvBytes
import Derived.Deep.RegionWith
set_option linter.unusedVariables false
namespace Go.Proofs.YteljhjljigbcjaaGreatDoor.Cv
open Go.RowKit

set_option maxRecDepth 100000 in
set_option maxHeartbeats 1000000 in
theorem appendBytes_txt (v u : Value) (X Y : List UInt8) (w : World) (h : Txt w v X) (k : Txt w u Y) (hX : Aside (X.length ≤ 1000000000)) (hY : Aside (Y.length ≤ 900000000)) :
    Calls Tryz.prog 31 #[v, u] w fun e w' => ∃ v', e = .returned v' ∧ Own w.heap.size w' v' (X ++ bytesOf Y) ∧ Below w.heap.size w w' := by
  have kT := k
  obtain ⟨ao, cap, rfl, -, -, -, -⟩ := k
  have hlen : in64 (Y.length : Int) := ⟨by omega, by have := hY.out; omega⟩
  have HI := Aside.mk hlen
  have hvl := (vint_len (Y.length : Int) hlen.1 hlen.2).2
  have HV := Aside.mk hvl
  clear hlen hvl
  go_enter Tryz.func31, Tryz.ntmps31
  go_wp2_with fail
  refine (AppendVarint_txt _ X (Y.length : Int) _ h HI.out hX.out).mono ?_
  rintro e w1 ⟨v1, rfl, ho1, hb1⟩
  have kT1 := kT.below hb1
  have HO := Aside.mk ho1
  have HT := Aside.mk kT1
  clear ho1 kT1 kT h
  go_wp2_with (first | (at_builtin; refine wpList_append_txt _ rfl (.tmp 8) (.tmp 9) rfl w.heap.size _ _ rfl HO.out _ Y rfl HT.out ⟨by have := hX.out; have := hY.out; have := HV.out; simp only [List.length_append]; omega⟩ hb1.size ?_; intro v' w2 hown hb2))
  go_ret
  exact ⟨v', rfl, by rw [bytesOf, ← List.append_assoc]; exact hown, hb1.trans hb2⟩

theorem bytes_below (w : World) (s : ByteArray) : Below w.heap.size w (Lib.bytesWorld w 5 s) :=
  ⟨rfl, rfl, rfl, by rw [Lib.bytesWorld_size]; omega, fun k hk => Lib.bytesWorld_at_old w _ s k hk⟩
theorem bytes_txt (w : World) (s : ByteArray) (hs : s.size ≤ 1000000) : Txt (Lib.bytesWorld w 5 s) (.slice (some ⟨w.heap.size, 0, none⟩) s.size (grownCap w s.size 0 5)) s.data.toList := by
  have hl : s.data.toList.length = s.size := rfl
  refine ⟨some ⟨w.heap.size, 0, none⟩, grownCap w s.size 0 5, by rw [hl], by simp, by rw [hl]; exact grownCap_ge w _ _ _, grownCap_le_maxLen w _ _ _ (by simp only [maxLen]; omega), fun b hb j u hu => ?_⟩
  obtain rfl := Option.some.inj hb
  have hj : j < s.size := by
    have := (List.getElem?_eq_some_iff.1 hu).1
    rw [len_cells, hl] at this; exact this
  rw [show (⟨w.heap.size, 0, none⟩ : Addr).add j = ⟨w.heap.size, j, none⟩ from by unfold Addr.add; split <;> simp_all]
  rw [Lib.bytesWorld_cell w _ s j hj, ← hu]
  simp only [Lib.byteCells, List.getElem?_map, List.getD]
  rw [List.getElem?_eq_getElem (by rw [hl]; exact hj)]
  rfl

/-- the value of an entry -/
def entV (k : Int) (s : ByteArray) (b : Value) : Value := .agg #[.int .i64 k, .string s, b]

set_option maxRecDepth 100000 in
set_option maxHeartbeats 1000000 in
theorem validEntry_txt (k : Int) (s : ByteArray) (b : Value) (B : List UInt8) (w : World) (h : Txt w b B) :
    Calls Tryz.prog 30 #[entV k s b] w fun e w' => e = .returned (.bool (decide (1 ≤ k) && decide (k ≤ 4) && decide ((1 : Int) ≤ s.size) && decide ((s.size : Int) ≤ 40) && decide ((B.length : Int) ≤ 20000))) ∧ Below w.heap.size w w' := by
  obtain ⟨ao, cap, rfl, -, -, -, -⟩ := h
  unfold entV
  by_cases h1 : 1 ≤ k
  · by_cases h2 : k ≤ 4
    · by_cases h3 : (1 : Int) ≤ s.size
      · by_cases h4 : (s.size : Int) ≤ 40
        · go_enter Tryz.func30, Tryz.ntmps30
          go_wp2_with fail
          go_ret
          exact ⟨by simp [*], (Below.refl _ _).alloc (Nat.le_refl _) _⟩
        · have d3 := decide_eq_false h4
          go_enter Tryz.func30, Tryz.ntmps30
          go_wp2_with fail
          go_ret
          exact ⟨by first | rfl | (rw [d3]; simp), (Below.refl _ _).alloc (Nat.le_refl _) _⟩
      · have d2 := decide_eq_false h3
        go_enter Tryz.func30, Tryz.ntmps30
        go_wp2_with fail
        go_ret
        exact ⟨by first | rfl | (rw [d2]; simp), (Below.refl _ _).alloc (Nat.le_refl _) _⟩
    · have d1 := decide_eq_false h2
      go_enter Tryz.func30, Tryz.ntmps30
      go_wp2_with fail
      go_ret
      exact ⟨by first | rfl | (rw [d1]; simp), (Below.refl _ _).alloc (Nat.le_refl _) _⟩
  · have d0 := decide_eq_false h1
    go_enter Tryz.func30, Tryz.ntmps30
    go_wp2_with fail
    go_ret
    exact ⟨by first | rfl | (rw [d0]; simp), (Below.refl _ _).alloc (Nat.le_refl _) _⟩

set_option maxRecDepth 100000 in
set_option maxHeartbeats 1000000 in
theorem zeroEntry_txt (k : Int) (s : ByteArray) (b : Value) (B : List UInt8) (w : World) (h : Txt w b B) :
    Calls Tryz.prog 35 #[entV k s b] w fun e w' => e = .returned (.bool (decide (k = 0) && decide ((s.size : Int) = 0) && decide ((B.length : Int) = 0))) ∧ Below w.heap.size w w' := by
  obtain ⟨ao, cap, rfl, -, -, -, -⟩ := h
  unfold entV
  have hE : s.toList.isEmpty = decide ((s.size : Int) = 0) := by
    rw [ByteArray.toList_eq s]
    have : s.size = s.data.toList.length := rfl
    rw [this]
    cases s.data.toList with
    | nil => rfl
    | cons a r => simp; omega
  by_cases h1 : k = 0
  · subst h1
    by_cases h2 : (s.size : Int) = 0
    · rw [decide_eq_true h2] at hE
      have d2 := decide_eq_true h2
      have HD := Aside.mk d2
      clear h2 d2
      go_enter Tryz.func35, Tryz.ntmps35
      go_wp2_with fail
      go_ret
      refine ⟨?_, (Below.refl _ _).alloc (Nat.le_refl _) _⟩
      rw [HD.out]
      cases B with
      | nil => rfl
      | cons a r =>
        have e1 : ((((a :: r).length : Nat) : Int) == 0) = false := by rw [beq_eq_false_iff_ne]; simp only [List.length_cons]; omega
        have e2 : decide ((((a :: r).length : Nat) : Int) = 0) = false := by rw [decide_eq_false_iff_not]; simp only [List.length_cons]; omega
        rw [e2]
        show Ending.returned (.bool (((((a :: r).length : Nat) : Int) == 0))) = _
        rw [e1]; rfl
    · rw [decide_eq_false h2] at hE
      have d2 := decide_eq_false h2
      have HD := Aside.mk d2
      clear h2 d2
      go_enter Tryz.func35, Tryz.ntmps35
      go_wp2_with fail
      go_ret
      refine ⟨?_, (Below.refl _ _).alloc (Nat.le_refl _) _⟩
      rw [HD.out]
      simp
  · have hk : (k == 0) = false := by simpa using h1
    have d1 := decide_eq_false h1
    clear hE
    go_enter Tryz.func35, Tryz.ntmps35
    go_wp2_with fail
    go_ret
    refine ⟨?_, (Below.refl _ _).alloc (Nat.le_refl _) _⟩
    rw [d1]
    simp

theorem not_run : ∀ (x : Bool) (w : World), (Op.unary .not (.bool x)).run Tryz.prog w = .ok (.bool (!x)) w := fun _ _ => rfl
set_option maxRecDepth 100000 in
set_option maxHeartbeats 2000000 in
theorem EncodeEntry_txt (k : Int) (s : ByteArray) (b : Value) (B : List UInt8) (w : World) (h : Txt w b B) :
    Calls Tryz.prog 11 #[entV k s b] w fun e w' => Below w.heap.size w w' ∧
      if okE ⟨k, s.data.toList, B⟩ then ∃ v', e = .returned (.tuple #[v', .int .i64 0]) ∧ Own w.heap.size w' v' (encE ⟨k, s.data.toList, B⟩)
      else e = .returned (.tuple #[.slice none 0 0, .int .i64 1]) := by
  have hT := h
  have hve := validEntry_txt k s b B (w.alloc (.cells #[.int .i64 k, .string s, b] 24)) (h.below ((Below.refl _ _).alloc (Nat.le_refl _) _))
  obtain ⟨ao, cap, rfl, -, -, -, -⟩ := h
  unfold entV at hve ⊢
  obtain ⟨W, hW⟩ : ∃ W, W = w.alloc (.cells #[.int .i64 k, .string s, .slice ao B.length cap] 24) := ⟨_, rfl⟩
  have hbW : Below w.heap.size w W := by rw [hW]; exact (Below.refl _ _).alloc (Nat.le_refl _) _
  have hrow : W.heap[w.heap.size]? = some (.cells #[.int .i64 k, .string s, .slice ao B.length cap] 24 (0, 0)) := by rw [hW]; exact heap_alloc_last _ _
  by_cases hok : okE ⟨k, s.data.toList, B⟩
  · simp only [if_pos hok]
    obtain ⟨⟨a0, a1⟩, ⟨a2, a3⟩, a4⟩ := hok
    simp only at a0 a1 a2 a3 a4
    have hl : s.data.toList.length = s.size := rfl
    rw [hl] at a2 a3
    have hbool : (decide (1 ≤ k) && decide (k ≤ 4) && decide ((1 : Int) ≤ s.size) && decide ((s.size : Int) ≤ 40) && decide ((B.length : Int) ≤ 20000)) = true := by simp; omega
    rw [hbool] at hve
    go_enter Tryz.func11, Tryz.ntmps11
    go_wp2_with fail
    refine hve.mono ?_
    rintro e w1 ⟨rfl, hb1⟩
    go_wp2_with fail
    rw [← hW] at hb1
    have hr1 : w1.heap[w.heap.size]? = some (.cells #[.int .i64 k, .string s, .slice ao B.length cap] 24 (0, 0)) := by rw [hb1.block _ (lt_of_heap hrow)]; exact hrow
    have hlt1 := lt_of_heap hr1
    have c0 : w1.cell? ⟨w.heap.size, 0, none⟩ = some (.int .i64 k) := by rw [cell_of_row w1 _ 0 _ _ _ hr1]; rfl
    have c1 : w1.cell? ⟨w.heap.size, 1, none⟩ = some (.string s) := by rw [cell_of_row w1 _ 1 _ _ _ hr1]; rfl
    have hb0 : Below w.heap.size w w1 := hbW.trans (hb1.mono hbW.size)
    obtain ⟨BW, CP, hcv, HBB, HBT⟩ : ∃ (BW : World → World) (CP : World → Nat), (∀ w, (convert 9 22 (.string s)).run Tryz.prog w = .ok (.slice (some ⟨w.heap.size, 0, none⟩) s.size (CP w)) (BW w)) ∧ Aside (∀ w, Below w.heap.size w (BW w)) ∧ Aside (∀ w, Txt (BW w) (.slice (some ⟨w.heap.size, 0, none⟩) s.size (CP w)) s.data.toList) :=
      ⟨fun w => Lib.bytesWorld w 5 s, fun w => grownCap w s.size 0 5, fun w => Lib.run_convert_string_bytes w _ _ _ s Tryz.underlying9 Tryz.underlying22 Tryz.underlying5, ⟨fun w => bytes_below w s⟩, ⟨fun w => bytes_txt w s (by omega)⟩⟩
    have hk64 : Aside (in64 k) := ⟨⟨by omega, by omega⟩⟩
    have hX : Aside ((([] : List UInt8) ++ vint k).length ≤ 1000000000) := ⟨by have := (vint_len k (by omega) (by omega)).2; simp; omega⟩
    have hY : Aside (s.data.toList.length ≤ 900000000) := ⟨by rw [hl]; omega⟩
    have hb1' := HBB.out w1.drew
    have kb0 : (BW w1.drew).cell? ⟨w.heap.size, 0, none⟩ = some (.int .i64 k) := (hb1'.cell (p := ⟨w.heap.size, 0, none⟩) hlt1).trans c0
    have kb1 : (BW w1.drew).cell? ⟨w.heap.size, 1, none⟩ = some (.string s) := (hb1'.cell (p := ⟨w.heap.size, 1, none⟩) hlt1).trans c1
    have hl2 : w.heap.size < (BW w1.drew).heap.size := Nat.lt_of_lt_of_le hlt1 hb1'.size
    have HR := Aside.mk hr1
    have HOK := Aside.mk a4
    have HT := Aside.mk hT
    have hl' := hl
    have a3' := a3
    clear a0 a1 a2 a3 a4 hr1 hbool hve hl hT hW hrow hb1'
    obtain ⟨L, hL⟩ : ∃ L, s.data.toList = L := ⟨_, rfl⟩
    rw [hL] at HBT hY
    have HY40 : Aside (L.length ≤ 40 ∧ (vint k).length ≤ 10) := ⟨by rw [← hL, hl']; omega, (vint_len k hk64.out.1 hk64.out.2).2⟩
    clear a3' hl'
    have HVK : Aside ((vint (L.length : Int)).length ≤ 10) := ⟨(vint_len _ (by omega) (by have := hY.out; omega)).2⟩
    go_region_with (first
      | (go_at_call 15; refine (AppendVarint_txt (.slice none 0 0) [] k _ (Txt.nil _) hk64.out (by simp)).mono ?_; rintro e w2 ⟨v2, rfl, ho2, hb2⟩; have k0 : w2.cell? ⟨w.heap.size, 0, none⟩ = some (.int .i64 k) := (by first | exact (hb2.cell (p := ⟨w.heap.size, 0, none⟩) hlt1).trans c0 | exact (hb2.cell (p := ⟨w.heap.size, 0, none⟩) hl2).trans kb0); have k1 : w2.cell? ⟨w.heap.size, 1, none⟩ = some (.string s) := (by first | exact (hb2.cell (p := ⟨w.heap.size, 1, none⟩) hlt1).trans c1 | exact (hb2.cell (p := ⟨w.heap.size, 1, none⟩) hl2).trans kb1); have hl3 : w.heap.size < w2.heap.size := World.block_lt_of_cell? w2 _ k0; have k2 := ((HBB.out w2).cell (p := ⟨w.heap.size, 0, none⟩) hl3).trans k0; have k3 := ((HBB.out w2).cell (p := ⟨w.heap.size, 1, none⟩) hl3).trans k1)
      | (go_at_call_of 31 (Value.slice (some ⟨w2.heap.size, 0, none⟩) s.size (CP w2)); refine (appendBytes_txt v2 _ (([] : List UInt8) ++ vint k) L (BW w2) (ho2.txt.below (HBB.out w2)) (HBT.out w2) hX hY).mono ?_; rintro e w4 ⟨v4, rfl, ho4, hb4⟩; have hbb : Below w1.heap.size w1 w4 := (((Below.refl _ _).drew.trans hb2).trans ((HBB.out w2).mono hb2.size)).trans (hb4.mono (Nat.le_trans hb2.size (HBB.out w2).size)); have hoo : Own w1.heap.size w4 v4 _ := ho4.mono (Nat.le_trans hb2.size (HBB.out w2).size); have k4 := (hbb.cell (p := ⟨w.heap.size, 0, none⟩) hlt1).trans c0; have k5 := (hbb.cell (p := ⟨w.heap.size, 1, none⟩) hlt1).trans c1; clear ho4 hb4 ho2 hb2 k0 k1 k2 k3)
      | (go_at_call_of 31 (Value.slice (some ⟨w1.heap.size, 0, none⟩) s.size (CP w1.drew)); refine (appendBytes_txt v2 _ (([] : List UInt8) ++ vint k) L w2 ho2.txt ((HBT.out w1.drew).below hb2) hX hY).mono ?_; rintro e w4 ⟨v4, rfl, ho4, hb4⟩; have hbb : Below w1.heap.size w1 w4 := (((Below.refl _ _).drew.trans (HBB.out w1.drew)).trans (hb2.mono (HBB.out w1.drew).size)).trans (hb4.mono (Nat.le_trans (HBB.out w1.drew).size hb2.size)); have hoo : Own w1.heap.size w4 v4 _ := ho4.mono (Nat.le_trans (HBB.out w1.drew).size hb2.size); have k4 := (hbb.cell (p := ⟨w.heap.size, 0, none⟩) hlt1).trans c0; have k5 := (hbb.cell (p := ⟨w.heap.size, 1, none⟩) hlt1).trans c1; clear ho4 hb4 ho2 hb2 k0 k1 k2 k3))
    all_goals
      have k6 : w4.cell? ⟨w.heap.size, 2, none⟩ = some (.slice ao B.length cap) := (hbb.cell (p := ⟨w.heap.size, 2, none⟩) hlt1).trans (by rw [cell_of_row w1 _ 2 _ _ _ HR.out]; rfl)
      have htB := (HT.out.below hb0).below hbb
      go_wp2_with fail
      refine (appendBytes_txt v4 _ _ B w4 hoo.txt htB ⟨by have := HY40.out; have := HVK.out; simp only [List.length_append, bytesOf, List.length_nil]; omega⟩ ⟨by have := HOK.out; omega⟩).mono ?_
      rintro e w5 ⟨v5, rfl, ho5, hb5⟩
      go_wp2_with fail
      go_ret2
      refine ⟨hb0.trans ((hbb.mono hb0.size).trans (hb5.mono (Nat.le_trans hb0.size hbb.size))), v5, rfl, ?_⟩
      rw [hL]
      exact (by simpa [encE] using ho5 : Own w4.heap.size w5 v5 (encE ⟨k, L, B⟩)).mono (Nat.le_trans hb0.size hbb.size)
  · simp only [if_neg hok]
    have hbool : (decide (1 ≤ k) && decide (k ≤ 4) && decide ((1 : Int) ≤ s.size) && decide ((s.size : Int) ≤ 40) && decide ((B.length : Int) ≤ 20000)) = false := by
      rw [Bool.eq_false_iff]
      intro hh
      apply hok
      simp at hh
      refine ⟨⟨by simp; omega, by simp; omega⟩, ⟨?_, ?_⟩, by simp; omega⟩
      · show 1 ≤ s.size; omega
      · show s.size ≤ 40; omega
    rw [hbool] at hve
    go_enter Tryz.func11, Tryz.ntmps11
    go_wp2_with fail
    refine hve.mono ?_
    rintro e w1 ⟨rfl, hb1⟩
    go_wp2_with fail
    go_ret2
    rw [← hW] at hb1
    exact ⟨hbW.trans (hb1.mono hbW.size), rfl⟩
end Go.Proofs.YteljhjljigbcjaaGreatDoor.Cv
