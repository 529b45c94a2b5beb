/- Contracts of the reference's ValidEntry, ZeroEntry, EncodeEntry, inRange, Encodable, EncodeMessage. -/
import Derived.Test.YteljhjljigbcjaaGreatDoorCwA
import Derived.Deep.DeepCutAuto
set_option linter.unusedVariables false
set_option linter.unusedSimpArgs false
namespace Go.Proofs.YteljhjljigbcjaaGreatDoor.Cv
open Go.RowKit

set_option maxRecDepth 100000 in
set_option maxHeartbeats 1000000 in
theorem rValidEntry_txt (k : Int) (s : ByteArray) (b : Value) (B : List UInt8) (w : World) (h : Txt w b B) :
    Calls Tryz.prog 32 #[entV k s b] w fun e w' => e = .returned (.bool (decide (1 ≤ k) && decide (k ≤ 4) && decide ((1 : Int) ≤ s.size) && decide ((s.size : Int) ≤ 40) && decide ((B.length : Int) ≤ 20000))) ∧ Below w.heap.size w w' := by
  obtain ⟨ao, cap, rfl, -, -, -, -⟩ := h
  unfold entV
  by_cases h1 : 1 ≤ k
  · by_cases h2 : k ≤ 4
    · by_cases h3 : (1 : Int) ≤ s.size
      · by_cases h4 : (s.size : Int) ≤ 40
        · go_enter Tryz.func32, Tryz.ntmps32
          go_wp2_with fail
          go_ret
          exact ⟨by simp [*], (Below.refl _ _).alloc (Nat.le_refl _) _⟩
        · have d3 := decide_eq_false h4
          go_enter Tryz.func32, Tryz.ntmps32
          go_wp2_with fail
          go_ret
          exact ⟨by first | rfl | (rw [d3]; simp), (Below.refl _ _).alloc (Nat.le_refl _) _⟩
      · have d2 := decide_eq_false h3
        go_enter Tryz.func32, Tryz.ntmps32
        go_wp2_with fail
        go_ret
        exact ⟨by first | rfl | (rw [d2]; simp), (Below.refl _ _).alloc (Nat.le_refl _) _⟩
    · have d1 := decide_eq_false h2
      go_enter Tryz.func32, Tryz.ntmps32
      go_wp2_with fail
      go_ret
      exact ⟨by first | rfl | (rw [d1]; simp), (Below.refl _ _).alloc (Nat.le_refl _) _⟩
  · have d0 := decide_eq_false h1
    go_enter Tryz.func32, Tryz.ntmps32
    go_wp2_with fail
    go_ret
    exact ⟨by first | rfl | (rw [d0]; simp), (Below.refl _ _).alloc (Nat.le_refl _) _⟩

theorem size_list (s : ByteArray) : s.data.toList.length = s.size := rfl
set_option maxRecDepth 100000 in
set_option maxHeartbeats 1000000 in
theorem rZeroEntry_txt (k : Int) (s : ByteArray) (b : Value) (B : List UInt8) (w : World) (h : Txt w b B) :
    Calls Tryz.prog 37 #[entV k s b] w fun e w' => e = .returned (.bool (decide (isZ ⟨k, s.data.toList, B⟩))) ∧ Below w.heap.size w w' := by
  obtain ⟨ao, cap, rfl, -, -, -, -⟩ := h
  unfold entV
  obtain ⟨n, hn⟩ : ∃ n, B.length = n := ⟨_, rfl⟩
  have HZ : Aside (decide (isZ ⟨k, s.data.toList, B⟩) = ((k == 0) && ((s.size : Int) == 0) && ((n : Int) == 0))) := ⟨by
    rw [Bool.eq_iff_iff]
    simp only [decide_eq_true_eq, Bool.and_eq_true, beq_iff_eq, isZ, size_list, hn]
    omega⟩
  rw [HZ.out, hn]
  clear hn
  by_cases h1 : k = 0
  · subst h1
    cases hp : ((s.size : Int) == 0) with
    | true =>
      go_enter Tryz.func37, Tryz.ntmps37
      go_wp2_with fail
      go_ret
      exact ⟨rfl, (Below.refl _ _).alloc (Nat.le_refl _) _⟩
    | false =>
      go_enter Tryz.func37, Tryz.ntmps37
      go_wp2_with fail
      go_ret
      exact ⟨rfl, (Below.refl _ _).alloc (Nat.le_refl _) _⟩
  · have hk : (k == 0) = false := by simpa using h1
    go_enter Tryz.func37, Tryz.ntmps37
    go_wp2_with fail
    go_ret
    exact ⟨by rw [hk]; rfl, (Below.refl _ _).alloc (Nat.le_refl _) _⟩

set_option maxRecDepth 100000 in
theorem inRange_any (n : Int) (w : World) : Calls Tryz.prog 56 #[.int .i64 n] w fun e w' => e = .returned (.bool (decide (0 ≤ n ∧ n ≤ 2147483647))) ∧ w = w' := by
  by_cases h : 0 ≤ n
  · have d1 : decide (0 ≤ n) = true := by simpa using h
    have e1 : Aside (decide (0 ≤ n ∧ n ≤ 2147483647) = decide (n < 2147483648)) := ⟨by rw [Bool.eq_iff_iff]; simp; omega⟩
    rw [e1.out]
    clear h
    go_enter Tryz.func56, Tryz.ntmps56
    go_wp2_with fail
    go_ret
    exact ⟨rfl, rfl⟩
  · have d1 : decide (0 ≤ n) = false := by simpa using h
    have e1 : Aside (decide (0 ≤ n ∧ n ≤ 2147483647) = false) := ⟨by simp; omega⟩
    rw [e1.out]
    clear h
    go_enter Tryz.func56, Tryz.ntmps56
    go_wp2_with fail
    go_ret
    exact ⟨rfl, rfl⟩

theorem hbool_ok {k : Int} {s : ByteArray} {B : List UInt8} : (decide (1 ≤ k) && decide (k ≤ 4) && decide ((1 : Int) ≤ s.size) && decide ((s.size : Int) ≤ 40) && decide ((B.length : Int) ≤ 20000)) = decide (okE ⟨k, s.data.toList, B⟩) := by
  rw [Bool.eq_iff_iff]
  simp only [decide_eq_true_eq, Bool.and_eq_true]
  show _ ↔ ((1 ≤ k ∧ k ≤ 4) ∧ (1 ≤ s.size ∧ s.size ≤ 40) ∧ B.length ≤ 20000)
  omega
set_option maxRecDepth 100000 in
set_option maxHeartbeats 2000000 in
theorem rEncodeEntry_txt (k : Int) (s : ByteArray) (b : Value) (B : List UInt8) (w : World) (h : Txt w b B) :
    Calls Tryz.prog 12 #[entV k s b] w fun e w' => Below w.heap.size w w' ∧ EncPost (okE ⟨k, s.data.toList, B⟩) w (encE ⟨k, s.data.toList, B⟩) e w' := by
  have HT := Aside.mk h
  have hve := fun x => rValidEntry_txt k s b B (w.alloc x) (h.below ((Below.refl _ _).alloc (Nat.le_refl _) _))
  obtain ⟨ao, cap, rfl, -, -, -, -⟩ := h
  rw [hbool_ok] at hve
  unfold entV at hve ⊢
  obtain ⟨W, hW⟩ : ∃ W, W = w.alloc (.cells #[.int .i64 k, .string s, .slice ao B.length cap] 24) := ⟨_, rfl⟩
  have hve := hve (.cells #[.int .i64 k, .string s, .slice ao B.length cap] 24)
  rw [← hW] at hve
  have hbW : Below w.heap.size w W := by rw [hW]; exact (Below.refl _ _).alloc (Nat.le_refl _) _
  have hrow : W.heap[w.heap.size]? = some (.cells #[.int .i64 k, .string s, .slice ao B.length cap] 24 (0, 0)) := by rw [hW]; exact heap_alloc_last _ _
  obtain ⟨nb, hnb⟩ : ∃ n, B.length = n := ⟨_, rfl⟩
  by_cases hok : okE ⟨k, s.data.toList, B⟩
  · have HOK := Aside.mk hok
    rw [decide_eq_true hok] at hve
    clear hok
    have HKB : Aside (in64 k ∧ s.size ≤ 40 ∧ nb ≤ 20000) := ⟨by have := HOK.out; simp only [okE, size_list, hnb] at this; unfold in64; omega⟩
    rw [hnb] at HT hve hrow hW ⊢
    go_enter Tryz.func12, Tryz.ntmps12
    go_wp2_with fail
    rw [← hW]
    refine hve.mono ?_
    rintro e w1 ⟨rfl, b1⟩
    have hr1 : w1.heap[w.heap.size]? = some (.cells #[.int .i64 k, .string s, .slice ao nb cap] 24 (0, 0)) := by rw [b1.block _ (lt_of_heap hrow)]; exact hrow
    have HB1 : Aside (Below w.heap.size w w1) := ⟨hbW.trans (b1.mono hbW.size)⟩
    have hap := rAppendVarint_txt (.slice none 0 0) [] k w1 (Txt.nil _) HKB.out.1 ⟨by simp⟩
    have HAP := Aside.mk hap
    have c0 : w1.cell? ⟨w.heap.size, 0, none⟩ = some (.int .i64 k) := by rw [cell_of_row w1 _ 0 _ _ _ hr1]; rfl
    have HR1 := Aside.mk hr1
    have HNB := Aside.mk hnb
    clear hve hW hbW hrow b1 hr1 hap hnb
    go_wp2_with fail
    refine HAP.out.mono ?_
    rintro e w2 ⟨v2, rfl, o2, b2⟩
    clear c0 HAP
    have hr2 : w2.heap[w.heap.size]? = some (.cells #[.int .i64 k, .string s, .slice ao nb cap] 24 (0, 0)) := by rw [b2.block _ (lt_of_heap HR1.out)]; exact HR1.out
    have c1 : w2.cell? ⟨w.heap.size, 1, none⟩ = some (.string s) := by rw [cell_of_row w2 _ 1 _ _ _ hr2]; rfl
    have HB2 : Aside (Below w.heap.size w w2) := ⟨HB1.out.trans (b2.mono HB1.out.size)⟩
    have hls : in64 (s.data.toList.length : Int) := ⟨by omega, by have := HKB.out.2.1; rw [size_list]; omega⟩
    have hl2 : ([] ++ vint k : List UInt8).length ≤ 10 := by have := (vint_len k HKB.out.1.1 HKB.out.1.2).2; simpa using this
    have HL2 := Aside.mk hl2
    have HLS := Aside.mk hls
    have hap := rAppendVarint_txt v2 _ (s.data.toList.length : Int) w2 o2.txt hls ⟨by omega⟩
    rw [size_list] at hap
    have HAP := Aside.mk hap
    have HR2 := Aside.mk hr2
    clear hr2 hls hl2 hap o2 b2
    go_wp2_with fail
    refine HAP.out.mono ?_
    rintro e w3 ⟨v3, rfl, o3, b3⟩
    clear c1 HAP
    have hr3 : w3.heap[w.heap.size]? = some (.cells #[.int .i64 k, .string s, .slice ao nb cap] 24 (0, 0)) := by rw [b3.block _ (lt_of_heap HR2.out)]; exact HR2.out
    have c1 : w3.cell? ⟨w.heap.size, 1, none⟩ = some (.string s) := by rw [cell_of_row w3 _ 1 _ _ _ hr3]; rfl
    have HB3 : Aside (Below w.heap.size w w3) := ⟨HB2.out.trans (b3.mono HB2.out.size)⟩
    have HR3 := Aside.mk hr3
    have HO3 := Aside.mk o3
    have HS3 : Aside (w2.heap.size ≤ w3.heap.size) := ⟨b3.size⟩
    clear hr3 b3 o3
    obtain ⟨BW, CP, hcv, HBB, HBT⟩ : ∃ (BW : World → World) (CP : World → Nat), (∀ w, (convert 9 22 (.string s)).run Tryz.prog w = .ok (.slice (some ⟨w.heap.size, 0, none⟩) s.size (CP w)) (BW w)) ∧ Aside (∀ w, Below w.heap.size w (BW w)) ∧ Aside (∀ w, Txt (BW w) (.slice (some ⟨w.heap.size, 0, none⟩) s.size (CP w)) s.data.toList) :=
      ⟨fun w => Lib.bytesWorld w 5 s, fun w => grownCap w s.size 0 5, fun w => Lib.run_convert_string_bytes w _ _ _ s Tryz.underlying9 Tryz.underlying22 Tryz.underlying5, ⟨fun w => bytes_below w s⟩, ⟨fun w => bytes_txt w s (by have := HKB.out.2.1; omega)⟩⟩
    go_upto_region 6 with (first | (at_builtin; refine wpList_append_txt _ rfl (.tmp 16) (.tmp 19) rfl w2.heap.size _ _ rfl (HO3.out.below (HBB.out w3)) _ _ rfl (HBT.out w3) ⟨by have := HL2.out; have := HKB.out.2.1; have := (vint_len (s.size : Int) (by omega) (by omega)).2; simp [size_list] at *; omega⟩ (Nat.le_trans HS3.out (HBB.out w3).size) ?_; intro v4 w4 ho4 hb4))
    have hb4w : Below w2.heap.size w3 w4 := ((HBB.out w3).mono HS3.out).trans hb4
    have hr4 : w4.heap[w.heap.size]? = some (.cells #[.int .i64 k, .string s, .slice ao nb cap] 24 (0, 0)) := by rw [hb4w.block _ (lt_of_heap HR2.out)]; exact HR3.out
    have c2 : w4.cell? ⟨w.heap.size, 2, none⟩ = some (.slice ao nb cap) := by rw [cell_of_row w4 _ 2 _ _ _ hr4]; rfl
    have HB4 : Aside (Below w.heap.size w w4) := ⟨HB3.out.trans (hb4w.mono HB2.out.size)⟩
    have hl4 : ([] ++ vint k ++ vint (s.size : Int) ++ s.data.toList : List UInt8).length ≤ 100 := by
      have := HL2.out; have := (vint_len (s.size : Int) HLS.out.1 HLS.out.2).2; have := HKB.out.2.1
      simp only [List.length_append, size_list] at *
      omega
    have HL4 := Aside.mk hl4
    have hap := rAppendVarint_txt v4 _ (nb : Int) w4 ho4.txt ⟨by omega, by have := HKB.out.2.2; omega⟩ ⟨by omega⟩
    have HAP := Aside.mk hap
    have HT4 : Aside (Txt w4 (.slice ao nb cap) B) := ⟨HT.out.below HB4.out⟩
    have HR4 := Aside.mk hr4
    clear hr4 hl4 hap ho4 hb4 hb4w
    go_wp2_with fail
    refine HAP.out.mono ?_
    rintro e w5 ⟨v5, rfl, o5, b5⟩
    have c3 : w5.cell? ⟨w.heap.size, 2, none⟩ = some (.slice ao nb cap) := (b5.cell (p := ⟨w.heap.size, 2, none⟩) (lt_of_heap HR4.out)).trans c2
    have HO5 := Aside.mk o5
    have HB5 := Aside.mk b5
    have HT5 : Aside (Txt w5 (.slice ao nb cap) B) := ⟨HT4.out.below b5⟩
    clear c2 HAP o5 b5
    go_wp2_with (first | (at_builtin; refine wpList_append_txt _ rfl (.tmp 26) (.tmp 28) rfl w4.heap.size _ _ rfl HO5.out _ B rfl HT5.out ⟨by have := HL4.out; have := HNB.out; have := HKB.out.2.2; have := (vint_len (nb : Int) (by omega) (by omega)).2; simp only [List.length_append] at *; omega⟩ HB5.out.size ?_; intro v6 w6 ho6 hb6))
    go_ret2
    refine ⟨HB4.out.trans ((HB5.out.trans hb6).mono HB4.out.size), fun _ => ⟨v6, rfl, ?_⟩, fun h => absurd HOK.out h⟩
    have e1 : encE ⟨k, s.data.toList, B⟩ = [] ++ vint k ++ vint (s.size : Int) ++ s.data.toList ++ vint (nb : Int) ++ B := by
      simp only [encE, bytesOf, List.nil_append, List.append_assoc, HNB.out, size_list]
    rw [e1]
    exact ho6.mono HB4.out.size
  · have HOK := Aside.mk hok
    rw [decide_eq_false hok] at hve
    clear hok
    rw [hnb] at HT hve hrow hW ⊢
    go_enter Tryz.func12, Tryz.ntmps12
    go_wp2_with fail
    rw [← hW]
    refine hve.mono ?_
    rintro e w1 ⟨rfl, b1⟩
    have HB1 : Aside (Below w.heap.size w w1) := ⟨hbW.trans (b1.mono hbW.size)⟩
    clear hve hW hbW hrow b1
    go_wp2_with fail
    go_ret2
    exact ⟨HB1.out, fun h => absurd h HOK.out, fun _ => rfl⟩
-- GENERATED: Encodable
theorem okM_iff {a b c d s k : Int} {key : ByteArray} {B : List UInt8} : okM ⟨a, b, c, d, s, ⟨k, key.data.toList, B⟩⟩ ↔ (1 ≤ a ∧ a ≤ 4) ∧ (0 ≤ b ∧ b ≤ 2147483647) ∧ (0 ≤ c ∧ c ≤ 2147483647) ∧ (0 ≤ d ∧ d ≤ 2147483647) ∧ (isZ ⟨k, key.data.toList, B⟩ ∨ okE ⟨k, key.data.toList, B⟩) := Iff.rfl
set_option maxRecDepth 100000 in
set_option maxHeartbeats 4000000 in
theorem rEncodable_txt (a b c d s k : Int) (key : ByteArray) (u : Value) (B : List UInt8) (w : World) (h : Txt w u B) :
    Calls Tryz.prog 36 #[msgV a b c d s k key u] w fun e w' => e = .returned (.bool (decide (okM ⟨a, b, c, d, s, ⟨k, key.data.toList, B⟩⟩))) ∧ Below w.heap.size w w' := by
  have HT := Aside.mk h
  obtain ⟨ao, cap, rfl, -, -, -, -⟩ := h
  obtain ⟨n, hn⟩ : ∃ n, B.length = n := ⟨_, rfl⟩
  have HZE := fun (w' : World) (hb : Below w.heap.size w w') => rZeroEntry_txt k key _ B w' (HT.out.below hb)
  have HVE := fun (w' : World) (hb : Below w.heap.size w w') => rValidEntry_txt k key _ B w' (HT.out.below hb)
  rw [hbool_ok] at HVE
  unfold entV at HZE HVE
  unfold msgV
  rw [hn] at HZE HVE ⊢
  have HZE := Aside.mk HZE
  have HVE := Aside.mk HVE
  clear hn HT
  obtain ⟨W, hW⟩ : ∃ W, W = w.alloc (.cells #[.int .i64 a, .int .i64 b, .int .i64 c, .int .i64 d, .int .u32 s, .int .i64 k, .string key, .slice ao n cap] 27) := ⟨_, rfl⟩
  have hbW : Below w.heap.size w W := by rw [hW]; exact (Below.refl _ _).alloc (Nat.le_refl _) _
  have hrow : W.heap[w.heap.size]? = some (.cells #[.int .i64 a, .int .i64 b, .int .i64 c, .int .i64 d, .int .u32 s, .int .i64 k, .string key, .slice ao n cap] 27 (0, 0)) := by rw [hW]; exact heap_alloc_last _ _
  obtain ⟨R, hR⟩ : ∃ R, decide (okM ⟨a, b, c, d, s, ⟨k, key.data.toList, B⟩⟩) = R := ⟨_, rfl⟩
  rw [hR]
  have HR : Aside (R = true ↔ (1 ≤ a ∧ a ≤ 4) ∧ (0 ≤ b ∧ b ≤ 2147483647) ∧ (0 ≤ c ∧ c ≤ 2147483647) ∧ (0 ≤ d ∧ d ≤ 2147483647) ∧ (isZ ⟨k, key.data.toList, B⟩ ∨ okE ⟨k, key.data.toList, B⟩)) := ⟨by rw [← hR, decide_eq_true_iff]; exact okM_iff⟩
  have HF : Aside (¬ ((1 ≤ a ∧ a ≤ 4) ∧ (0 ≤ b ∧ b ≤ 2147483647) ∧ (0 ≤ c ∧ c ≤ 2147483647) ∧ (0 ≤ d ∧ d ≤ 2147483647) ∧ (isZ ⟨k, key.data.toList, B⟩ ∨ okE ⟨k, key.data.toList, B⟩)) → R = false) := ⟨fun h => by cases R with | true => exact absurd (HR.out.1 rfl) h | false => rfl⟩
  have c0 : W.cell? ⟨w.heap.size, 0, none⟩ = some (.int .i64 a) := by rw [cell_of_row W _ 0 _ _ _ hrow]; rfl
  have c1 : W.cell? ⟨w.heap.size, 1, none⟩ = some (.int .i64 b) := by rw [cell_of_row W _ 1 _ _ _ hrow]; rfl
  have c2 : W.cell? ⟨w.heap.size, 2, none⟩ = some (.int .i64 c) := by rw [cell_of_row W _ 2 _ _ _ hrow]; rfl
  have c3 : W.cell? ⟨w.heap.size, 3, none⟩ = some (.int .i64 d) := by rw [cell_of_row W _ 3 _ _ _ hrow]; rfl
  have c4 : W.cell? ⟨w.heap.size, 4, none⟩ = some (.int .u32 s) := by rw [cell_of_row W _ 4 _ _ _ hrow]; rfl
  have c5 : W.cell? ⟨w.heap.size, 5, none⟩ = some (.int .i64 k) := by rw [cell_of_row W _ 5 _ _ _ hrow]; rfl
  have c6 : W.cell? ⟨w.heap.size, 6, none⟩ = some (.string key) := by rw [cell_of_row W _ 6 _ _ _ hrow]; rfl
  have c7 : W.cell? ⟨w.heap.size, 7, none⟩ = some (.slice ao n cap) := by rw [cell_of_row W _ 7 _ _ _ hrow]; rfl
  have HBW := Aside.mk hbW
  have HRW := Aside.mk hrow
  clear hR hrow hbW
  go_enter Tryz.func36, Tryz.ntmps36
  go_upto_region 1 with fail
  rw [← hW]
  clear hW
  by_cases h1 : 1 ≤ a
  case neg =>
    have d1 := decide_eq_false h1
    have HN := Aside.mk h1
    clear h1
    go_wp2_with fail
    go_ret
    exact ⟨by rw [HF.out (by have := HN.out; omega)]; rfl, HBW.out⟩
  by_cases h2 : a ≤ 4
  case neg =>
    have d2 := decide_eq_false h2
    have HN := Aside.mk h2
    clear h2
    go_wp2_with fail
    go_ret
    exact ⟨by rw [HF.out (by have := HN.out; omega)]; rfl, HBW.out⟩
  have H12 := Aside.mk (And.intro h1 h2)
  have d1 := decide_eq_true h1
  have d2 := decide_eq_true h2
  clear h1 h2
  by_cases hb : 0 ≤ b ∧ b ≤ 2147483647
  case neg =>
    have HN := Aside.mk hb
    clear hb
    go_wp2_with fail
    refine (inRange_any b W).mono ?_
    rintro e w1 ⟨rfl, rfl⟩
    rw [decide_eq_false HN.out]
    go_wp2_with fail
    go_ret
    exact ⟨by rw [HF.out (fun h => HN.out (by first | exact h.2.1 | exact h.2.2.1 | exact h.2.2.2.1))]; rfl, HBW.out⟩
  have Hb := Aside.mk hb
  clear hb
  by_cases hc : 0 ≤ c ∧ c ≤ 2147483647
  case neg =>
    have HN := Aside.mk hc
    clear hc
    go_wp2_with fail
    refine (inRange_any b W).mono ?_
    rintro e w1 ⟨rfl, rfl⟩
    rw [decide_eq_true Hb.out]
    go_wp2_with fail
    refine (inRange_any c W).mono ?_
    rintro e w1 ⟨rfl, rfl⟩
    rw [decide_eq_false HN.out]
    go_wp2_with fail
    go_ret
    exact ⟨by rw [HF.out (fun h => HN.out (by first | exact h.2.1 | exact h.2.2.1 | exact h.2.2.2.1))]; rfl, HBW.out⟩
  have Hc := Aside.mk hc
  clear hc
  by_cases hd : 0 ≤ d ∧ d ≤ 2147483647
  case neg =>
    have HN := Aside.mk hd
    clear hd
    go_wp2_with fail
    refine (inRange_any b W).mono ?_
    rintro e w1 ⟨rfl, rfl⟩
    rw [decide_eq_true Hb.out]
    go_wp2_with fail
    refine (inRange_any c W).mono ?_
    rintro e w1 ⟨rfl, rfl⟩
    rw [decide_eq_true Hc.out]
    go_wp2_with fail
    refine (inRange_any d W).mono ?_
    rintro e w1 ⟨rfl, rfl⟩
    rw [decide_eq_false HN.out]
    go_wp2_with fail
    go_ret
    exact ⟨by rw [HF.out (fun h => HN.out (by first | exact h.2.1 | exact h.2.2.1 | exact h.2.2.2.1))]; rfl, HBW.out⟩
  have Hd := Aside.mk hd
  clear hd
  go_wp2_with fail
  refine (inRange_any b W).mono ?_
  rintro e w1 ⟨rfl, rfl⟩
  rw [decide_eq_true Hb.out]
  go_wp2_with fail
  refine (inRange_any c W).mono ?_
  rintro e w1 ⟨rfl, rfl⟩
  rw [decide_eq_true Hc.out]
  go_wp2_with fail
  refine (inRange_any d W).mono ?_
  rintro e w1 ⟨rfl, rfl⟩
  rw [decide_eq_true Hd.out]
  go_wp2_with fail
  refine (HZE.out W HBW.out).mono ?_
  rintro e w1 ⟨rfl, b1⟩
  have HB1 : Aside (Below w.heap.size w w1) := ⟨HBW.out.trans (b1.mono HBW.out.size)⟩
  have hr1 : w1.heap[w.heap.size]? = some (.cells #[.int .i64 a, .int .i64 b, .int .i64 c, .int .i64 d, .int .u32 s, .int .i64 k, .string key, .slice ao n cap] 27 (0, 0)) := by rw [b1.block _ (lt_of_heap HRW.out)]; exact HRW.out
  clear c0 c1 c2 c3 c4 c5 c6 c7 b1
  have c5 : w1.cell? ⟨w.heap.size, 5, none⟩ = some (.int .i64 k) := by rw [cell_of_row w1 _ 5 _ _ _ hr1]; rfl
  have c6 : w1.cell? ⟨w.heap.size, 6, none⟩ = some (.string key) := by rw [cell_of_row w1 _ 6 _ _ _ hr1]; rfl
  have c7 : w1.cell? ⟨w.heap.size, 7, none⟩ = some (.slice ao n cap) := by rw [cell_of_row w1 _ 7 _ _ _ hr1]; rfl
  clear hr1
  by_cases hz : isZ ⟨k, key.data.toList, B⟩
  · rw [decide_eq_true hz]
    have HZ := Aside.mk hz
    clear hz
    go_wp2_with fail
    go_ret
    exact ⟨by rw [HR.out.2 ⟨H12.out, Hb.out, Hc.out, Hd.out, Or.inl HZ.out⟩]; rfl, HB1.out⟩
  · rw [decide_eq_false hz]
    have HZ := Aside.mk hz
    clear hz
    go_wp2_with fail
    refine (HVE.out w1 HB1.out).mono ?_
    rintro e w2 ⟨rfl, b2⟩
    have HB2 : Aside (Below w.heap.size w w2) := ⟨HB1.out.trans (b2.mono HB1.out.size)⟩
    clear b2
    by_cases hv : okE ⟨k, key.data.toList, B⟩
    · rw [decide_eq_true hv]
      have HV := Aside.mk hv
      clear hv
      go_wp2_with fail
      go_ret
      exact ⟨by rw [HR.out.2 ⟨H12.out, Hb.out, Hc.out, Hd.out, Or.inr HV.out⟩]; rfl, HB2.out⟩
    · rw [decide_eq_false hv]
      have HV := Aside.mk hv
      clear hv
      go_wp2_with fail
      go_ret
      exact ⟨by rw [HF.out (fun h => h.2.2.2.2.elim HZ.out HV.out)]; rfl, HB2.out⟩

set_option maxRecDepth 100000 in
set_option maxHeartbeats 4000000 in
theorem rEncodeMessage_txt (a b c d s k : Int) (key : ByteArray) (u : Value) (B : List UInt8) (w : World) (h : Txt w u B) (hs : Aside (0 ≤ s ∧ s ≤ 4294967295)) :
    Calls Tryz.prog 14 #[msgV a b c d s k key u] w fun e w' => Below w.heap.size w w' ∧
      EncPost (okM ⟨a, b, c, d, s, ⟨k, key.data.toList, B⟩⟩) w (encM ⟨a, b, c, d, s, ⟨k, key.data.toList, B⟩⟩) e w' := by
  have HT := Aside.mk h
  obtain ⟨ao, cap, rfl, -, -, -, -⟩ := h
  obtain ⟨n, hn⟩ : ∃ n, B.length = n := ⟨_, rfl⟩
  have HEN := fun (w' : World) (hb : Below w.heap.size w w') => rEncodable_txt a b c d s k key _ B w' (HT.out.below hb)
  have HZE := fun (w' : World) (hb : Below w.heap.size w w') => rZeroEntry_txt k key _ B w' (HT.out.below hb)
  have HEE := fun (w' : World) (hb : Below w.heap.size w w') => rEncodeEntry_txt k key _ B w' (HT.out.below hb)
  unfold entV at HZE HEE
  unfold msgV at HEN ⊢
  rw [hn] at HZE HEE HEN ⊢
  have HZE := Aside.mk HZE
  have HEE := Aside.mk HEE
  have HEN := Aside.mk HEN
  clear hn
  obtain ⟨W, hW⟩ : ∃ W, W = w.alloc (.cells #[.int .i64 a, .int .i64 b, .int .i64 c, .int .i64 d, .int .u32 s, .int .i64 k, .string key, .slice ao n cap] 27) := ⟨_, rfl⟩
  have hbW : Below w.heap.size w W := by rw [hW]; exact (Below.refl _ _).alloc (Nat.le_refl _) _
  have hrow : W.heap[w.heap.size]? = some (.cells #[.int .i64 a, .int .i64 b, .int .i64 c, .int .i64 d, .int .u32 s, .int .i64 k, .string key, .slice ao n cap] 27 (0, 0)) := by rw [hW]; exact heap_alloc_last _ _
  have HBW := Aside.mk hbW
  have HRW := Aside.mk hrow
  go_enter Tryz.func14, Tryz.ntmps14
  go_upto_region 1 with fail
  rw [← hW]
  have c0 : W.cell? ⟨w.heap.size, 0, none⟩ = some (.int .i64 a) := by rw [cell_of_row W _ 0 _ _ _ hrow]; rfl
  have c1 : W.cell? ⟨w.heap.size, 1, none⟩ = some (.int .i64 b) := by rw [cell_of_row W _ 1 _ _ _ hrow]; rfl
  have c2 : W.cell? ⟨w.heap.size, 2, none⟩ = some (.int .i64 c) := by rw [cell_of_row W _ 2 _ _ _ hrow]; rfl
  have c3 : W.cell? ⟨w.heap.size, 3, none⟩ = some (.int .i64 d) := by rw [cell_of_row W _ 3 _ _ _ hrow]; rfl
  have c4 : W.cell? ⟨w.heap.size, 4, none⟩ = some (.int .u32 s) := by rw [cell_of_row W _ 4 _ _ _ hrow]; rfl
  have c5 : W.cell? ⟨w.heap.size, 5, none⟩ = some (.int .i64 k) := by rw [cell_of_row W _ 5 _ _ _ hrow]; rfl
  have c6 : W.cell? ⟨w.heap.size, 6, none⟩ = some (.string key) := by rw [cell_of_row W _ 6 _ _ _ hrow]; rfl
  have c7 : W.cell? ⟨w.heap.size, 7, none⟩ = some (.slice ao n cap) := by rw [cell_of_row W _ 7 _ _ _ hrow]; rfl
  clear hW hbW hrow
  go_wp2_with fail
  refine (HEN.out W HBW.out).mono ?_
  rintro e w1 ⟨rfl, b1⟩
  have HB1 : Aside (Below w.heap.size w w1) := ⟨HBW.out.trans (b1.mono HBW.out.size)⟩
  have hr1 : w1.heap[w.heap.size]? = some (.cells #[.int .i64 a, .int .i64 b, .int .i64 c, .int .i64 d, .int .u32 s, .int .i64 k, .string key, .slice ao n cap] 27 (0, 0)) := by rw [b1.block _ (lt_of_heap HRW.out)]; exact HRW.out
  clear c0 c1 c2 c3 c4 c5 c6 c7 b1
  by_cases hok : okM ⟨a, b, c, d, s, ⟨k, key.data.toList, B⟩⟩
  case neg =>
    rw [decide_eq_false hok]
    have HOK := Aside.mk hok
    clear hok
    go_wp2_with fail
    go_ret2
    exact ⟨HB1.out, fun h => absurd h HOK.out, fun _ => rfl⟩
  rw [decide_eq_true hok]
  have HOK := Aside.mk hok
  have HI := Aside.mk (okM_iff.1 hok)
  clear hok
  have hsm : s % 4294967296 = s := by have := hs.out; omega
  have HR1 := Aside.mk hr1
  clear hr1
  have c0 : w1.cell? ⟨w.heap.size, 0, none⟩ = some (.int .i64 a) := by rw [cell_of_row w1 _ 0 _ _ _ HR1.out]; rfl
  have H64 : Aside (in64 a) := ⟨by have := HI.out; have := hs.out; unfold in64; omega⟩
  have HL0 : Aside (([] : List UInt8).length ≤ 0) := ⟨by simp⟩
  have HV0 : Aside ((vint a).length ≤ 10) := ⟨(vint_len a H64.out.1 H64.out.2).2⟩
  have HAP := Aside.mk (rAppendVarint_txt (.slice none 0 0) ([]) a w1 (Txt.nil _) H64.out ⟨by have := HL0.out; omega⟩)
  go_wp2_with fail
  refine HAP.out.mono ?_
  rintro e w2 ⟨v2, rfl, o, b'⟩
  have HB2 : Aside (Below w.heap.size w w2) := ⟨HB1.out.trans (b'.mono HB1.out.size)⟩
  have HR2 : Aside (w2.heap[w.heap.size]? = some (.cells #[.int .i64 a, .int .i64 b, .int .i64 c, .int .i64 d, .int .u32 s, .int .i64 k, .string key, .slice ao n cap] 27 (0, 0))) := ⟨by rw [b'.block _ (lt_of_heap HR1.out)]; exact HR1.out⟩
  have HO2 := Aside.mk o
  clear c0 HAP H64 o b'
  have c1 : w2.cell? ⟨w.heap.size, 1, none⟩ = some (.int .i64 b) := by rw [cell_of_row w2 _ 1 _ _ _ HR2.out]; rfl
  have H64 : Aside (in64 b) := ⟨by have := HI.out; have := hs.out; unfold in64; omega⟩
  have HL1 : Aside (([] ++ vint a : List UInt8).length ≤ 10) := ⟨by have := HL0.out; have := HV0.out; rw [List.length_append]; omega⟩
  have HV1 : Aside ((vint b).length ≤ 10) := ⟨(vint_len b H64.out.1 H64.out.2).2⟩
  have HAP := Aside.mk (rAppendVarint_txt (v2) ([] ++ vint a) b w2 HO2.out.txt H64.out ⟨by have := HL1.out; omega⟩)
  go_wp2_with fail
  refine HAP.out.mono ?_
  rintro e w3 ⟨v3, rfl, o, b'⟩
  have HB3 : Aside (Below w.heap.size w w3) := ⟨HB2.out.trans (b'.mono HB2.out.size)⟩
  have HR3 : Aside (w3.heap[w.heap.size]? = some (.cells #[.int .i64 a, .int .i64 b, .int .i64 c, .int .i64 d, .int .u32 s, .int .i64 k, .string key, .slice ao n cap] 27 (0, 0))) := ⟨by rw [b'.block _ (lt_of_heap HR2.out)]; exact HR2.out⟩
  have HO3 := Aside.mk o
  clear c1 HAP H64 o b'
  have c2 : w3.cell? ⟨w.heap.size, 2, none⟩ = some (.int .i64 c) := by rw [cell_of_row w3 _ 2 _ _ _ HR3.out]; rfl
  have H64 : Aside (in64 c) := ⟨by have := HI.out; have := hs.out; unfold in64; omega⟩
  have HL2 : Aside (([] ++ vint a ++ vint b : List UInt8).length ≤ 20) := ⟨by have := HL1.out; have := HV1.out; rw [List.length_append]; omega⟩
  have HV2 : Aside ((vint c).length ≤ 10) := ⟨(vint_len c H64.out.1 H64.out.2).2⟩
  have HAP := Aside.mk (rAppendVarint_txt (v3) ([] ++ vint a ++ vint b) c w3 HO3.out.txt H64.out ⟨by have := HL2.out; omega⟩)
  go_wp2_with fail
  refine HAP.out.mono ?_
  rintro e w4 ⟨v4, rfl, o, b'⟩
  have HB4 : Aside (Below w.heap.size w w4) := ⟨HB3.out.trans (b'.mono HB3.out.size)⟩
  have HR4 : Aside (w4.heap[w.heap.size]? = some (.cells #[.int .i64 a, .int .i64 b, .int .i64 c, .int .i64 d, .int .u32 s, .int .i64 k, .string key, .slice ao n cap] 27 (0, 0))) := ⟨by rw [b'.block _ (lt_of_heap HR3.out)]; exact HR3.out⟩
  have HO4 := Aside.mk o
  clear c2 HAP H64 o b'
  have c3 : w4.cell? ⟨w.heap.size, 3, none⟩ = some (.int .i64 d) := by rw [cell_of_row w4 _ 3 _ _ _ HR4.out]; rfl
  have H64 : Aside (in64 d) := ⟨by have := HI.out; have := hs.out; unfold in64; omega⟩
  have HL3 : Aside (([] ++ vint a ++ vint b ++ vint c : List UInt8).length ≤ 30) := ⟨by have := HL2.out; have := HV2.out; rw [List.length_append]; omega⟩
  have HV3 : Aside ((vint d).length ≤ 10) := ⟨(vint_len d H64.out.1 H64.out.2).2⟩
  have HAP := Aside.mk (rAppendVarint_txt (v4) ([] ++ vint a ++ vint b ++ vint c) d w4 HO4.out.txt H64.out ⟨by have := HL3.out; omega⟩)
  go_wp2_with fail
  refine HAP.out.mono ?_
  rintro e w5 ⟨v5, rfl, o, b'⟩
  have HB5 : Aside (Below w.heap.size w w5) := ⟨HB4.out.trans (b'.mono HB4.out.size)⟩
  have HR5 : Aside (w5.heap[w.heap.size]? = some (.cells #[.int .i64 a, .int .i64 b, .int .i64 c, .int .i64 d, .int .u32 s, .int .i64 k, .string key, .slice ao n cap] 27 (0, 0))) := ⟨by rw [b'.block _ (lt_of_heap HR4.out)]; exact HR4.out⟩
  have HO5 := Aside.mk o
  clear c3 HAP H64 o b'
  have c4 : w5.cell? ⟨w.heap.size, 4, none⟩ = some (.int .u32 s) := by rw [cell_of_row w5 _ 4 _ _ _ HR5.out]; rfl
  have H64 : Aside (in64 s) := ⟨by have := HI.out; have := hs.out; unfold in64; omega⟩
  have HL4 : Aside (([] ++ vint a ++ vint b ++ vint c ++ vint d : List UInt8).length ≤ 40) := ⟨by have := HL3.out; have := HV3.out; rw [List.length_append]; omega⟩
  have HV4 : Aside ((vint s).length ≤ 10) := ⟨(vint_len s H64.out.1 H64.out.2).2⟩
  have HAP := Aside.mk (rAppendVarint_txt (v5) ([] ++ vint a ++ vint b ++ vint c ++ vint d) s w5 HO5.out.txt H64.out ⟨by have := HL4.out; omega⟩)
  go_wp2_with fail
  refine HAP.out.mono ?_
  rintro e w6 ⟨v6, rfl, o, b'⟩
  have HB6 : Aside (Below w.heap.size w w6) := ⟨HB5.out.trans (b'.mono HB5.out.size)⟩
  have HR6 : Aside (w6.heap[w.heap.size]? = some (.cells #[.int .i64 a, .int .i64 b, .int .i64 c, .int .i64 d, .int .u32 s, .int .i64 k, .string key, .slice ao n cap] 27 (0, 0))) := ⟨by rw [b'.block _ (lt_of_heap HR5.out)]; exact HR5.out⟩
  have HO6 := Aside.mk o
  clear c4 HAP H64 o b'
  have HL5 : Aside (([] ++ vint a ++ vint b ++ vint c ++ vint d ++ vint s : List UInt8).length ≤ 50) := ⟨by have := HL4.out; have := HV4.out; rw [List.length_append]; omega⟩
  have c5 : w6.cell? ⟨w.heap.size, 5, none⟩ = some (.int .i64 k) := by rw [cell_of_row w6 _ 5 _ _ _ HR6.out]; rfl
  have c6 : w6.cell? ⟨w.heap.size, 6, none⟩ = some (.string key) := by rw [cell_of_row w6 _ 6 _ _ _ HR6.out]; rfl
  have c7 : w6.cell? ⟨w.heap.size, 7, none⟩ = some (.slice ao n cap) := by rw [cell_of_row w6 _ 7 _ _ _ HR6.out]; rfl
  go_wp2_with fail
  refine (HZE.out w6 HB6.out).mono ?_
  rintro e w7 ⟨rfl, b7⟩
  have HB7 : Aside (Below w.heap.size w w7) := ⟨HB6.out.trans (b7.mono HB6.out.size)⟩
  have HR7 : Aside (w7.heap[w.heap.size]? = some (.cells #[.int .i64 a, .int .i64 b, .int .i64 c, .int .i64 d, .int .u32 s, .int .i64 k, .string key, .slice ao n cap] 27 (0, 0))) := ⟨by rw [b7.block _ (lt_of_heap HR6.out)]; exact HR6.out⟩
  have HO7 := Aside.mk (HO6.out.below b7)
  clear c5 c6 c7 b7
  by_cases hz : isZ ⟨k, key.data.toList, B⟩
  · rw [decide_eq_true hz]
    have HZ := Aside.mk hz
    clear hz
    have HAP := Aside.mk (rAppendVarint_txt v6 _ 0 w7 HO7.out.txt ⟨by omega, by omega⟩ ⟨by have := HL5.out; omega⟩)
    go_wp2_with fail
    refine HAP.out.mono ?_
    rintro e w8 ⟨v8, rfl, o8, b8⟩
    have HO8 := Aside.mk o8
    have HB8 : Aside (Below w.heap.size w w8) := ⟨HB7.out.trans (b8.mono HB7.out.size)⟩
    clear HAP o8 b8
    go_wp2_with fail
    go_ret2
    refine ⟨HB8.out, fun _ => ⟨v8, rfl, ?_⟩, fun h => absurd HOK.out h⟩
    have e1 : encM ⟨a, b, c, d, s, ⟨k, key.data.toList, B⟩⟩ = [] ++ vint a ++ vint b ++ vint c ++ vint d ++ vint s ++ vint 0 := by
      simp only [encM, encO]; rw [if_pos HZ.out]; simp only [List.nil_append]
    rw [e1]
    exact HO8.out.mono HB7.out.size
  · rw [decide_eq_false hz]
    have HZ := Aside.mk hz
    clear hz
    have hv : okE ⟨k, key.data.toList, B⟩ := HI.out.2.2.2.2.resolve_left HZ.out
    have HV := Aside.mk hv
    clear hv
    have c5 : w7.cell? ⟨w.heap.size, 5, none⟩ = some (.int .i64 k) := by rw [cell_of_row w7 _ 5 _ _ _ HR7.out]; rfl
    have c6 : w7.cell? ⟨w.heap.size, 6, none⟩ = some (.string key) := by rw [cell_of_row w7 _ 6 _ _ _ HR7.out]; rfl
    have c7 : w7.cell? ⟨w.heap.size, 7, none⟩ = some (.slice ao n cap) := by rw [cell_of_row w7 _ 7 _ _ _ HR7.out]; rfl
    go_wp2_with fail
    refine (HEE.out w7 HB7.out).mono ?_
    rintro e w8 ⟨b8, hp⟩
    obtain ⟨v8, rfl, o8⟩ := hp.1 HV.out
    have HO8 := Aside.mk o8
    have HB8 : Aside (Below w.heap.size w w8) := ⟨HB7.out.trans (b8.mono HB7.out.size)⟩
    have HO7' := Aside.mk (HO7.out.below b8)
    have HEL : Aside ((encE ⟨k, key.data.toList, B⟩).length ≤ 100000) := ⟨by
      obtain ⟨⟨x0, x1⟩, ⟨x2, x3⟩, x4⟩ := HV.out
      have v1 := (vint_len k (by simp only at x0; omega) (by simp only at x1; omega)).2
      have v2 := (vint_len (key.data.toList.length : Int) (by omega) (by simp only at x3; omega)).2
      have v3 := (vint_len (B.length : Int) (by omega) (by simp only at x4; omega)).2
      simp only [encE, bytesOf, List.length_append]
      simp only at x3 x4
      omega⟩
    have HAP := Aside.mk (rAppendVarint_txt v6 _ 1 w8 HO7'.out.txt ⟨by omega, by omega⟩ ⟨by have := HL5.out; omega⟩)
    clear c5 c6 c7 o8 b8 hp
    go_wp2_with fail
    refine HAP.out.mono ?_
    rintro e w9 ⟨v9, rfl, o9, b9⟩
    have HO9 := Aside.mk o9
    have HB9 := Aside.mk b9
    have HE9 : Aside (Txt w9 v8 (encE ⟨k, key.data.toList, B⟩)) := ⟨HO8.out.txt.below b9⟩
    have HV1 : Aside ((vint 1).length ≤ 10) := ⟨(vint_len 1 (by omega) (by omega)).2⟩
    clear HAP o9 b9
    go_wp2_with (first | (at_builtin; refine wpList_append_txt _ rfl (.tmp 42) (.tmp 43) rfl w8.heap.size _ _ rfl HO9.out _ _ rfl HE9.out ⟨by have := HL5.out; have := HEL.out; have := HV1.out; simp only [List.length_append] at *; omega⟩ HB9.out.size ?_; intro v10 w10 ho10 hb10))
    go_ret2
    refine ⟨HB8.out.trans ((HB9.out.trans hb10).mono HB8.out.size), fun _ => ⟨v10, rfl, ?_⟩, fun h => absurd HOK.out h⟩
    have e1 : encM ⟨a, b, c, d, s, ⟨k, key.data.toList, B⟩⟩ = [] ++ vint a ++ vint b ++ vint c ++ vint d ++ vint s ++ vint 1 ++ encE ⟨k, key.data.toList, B⟩ := by
      simp only [encM, encO]; rw [if_neg HZ.out]; simp only [List.nil_append, List.append_assoc]
    rw [e1]
    exact ho10.mono HB8.out.size
end Go.Proofs.YteljhjljigbcjaaGreatDoor.Cv
