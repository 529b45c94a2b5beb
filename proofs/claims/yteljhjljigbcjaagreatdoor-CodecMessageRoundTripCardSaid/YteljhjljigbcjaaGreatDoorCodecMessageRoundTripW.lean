/- CodecMessageRoundTrip: the law's walk: it returns true at every input, and of the memory that was there nothing turns. -/
import Derived.Test.YteljhjljigbcjaaGreatDoorCvW
import Derived.Test.YteljhjljigbcjaaGreatDoorCvV
set_option linter.unusedVariables false
set_option linter.unusedSimpArgs false
namespace Go.Proofs.YteljhjljigbcjaaGreatDoor.Cv
open Go.RowKit

theorem str_list' (s : ByteArray) : str s.data.toList = s := by
  obtain ⟨⟨l⟩⟩ := s
  rfl
theorem encM_len {m : Msg} (h : okM m) (hs : 0 ≤ m.sum ∧ m.sum ≤ 4294967295) (hb : m.e.body.length ≤ 60) : (encM m).length ≤ 1000 := by
  obtain ⟨⟨a, b⟩, ⟨c0, c1⟩, ⟨d0, d1⟩, ⟨e0, e1⟩, hz⟩ := h
  have v1 := (vint_len m.kind (by omega) (by omega)).2
  have v2 := (vint_len m.src (by omega) (by omega)).2
  have v3 := (vint_len m.view (by omega) (by omega)).2
  have v4 := (vint_len m.seq (by omega) (by omega)).2
  have v5 := (vint_len m.sum (by omega) (by omega)).2
  have v6 := (vint_len 0 (by omega) (by omega)).2
  have v7 := (vint_len 1 (by omega) (by omega)).2
  unfold encM encO
  by_cases hq : isZ m.e
  · rw [if_pos hq]; simp only [List.length_append]; omega
  · rw [if_neg hq]
    have hv : okE m.e := by rcases hz with h | h; exact absurd h hq; exact h
    obtain ⟨⟨x0, x1⟩, ⟨x2, x3⟩, x4⟩ := hv
    have u1 := (vint_len m.e.kind (by omega) (by omega)).2
    have u2 := (vint_len (m.e.key.length : Int) (by omega) (by omega)).2
    have u3 := (vint_len (m.e.body.length : Int) (by omega) (by omega)).2
    simp only [encE, bytesOf, List.length_append]
    omega
set_option maxRecDepth 100000 in
set_option maxHeartbeats 4000000 in
theorem CodecMessageRoundTrip_in (a b c d s k : Int) (key : ByteArray) (u : Value) (B : List UInt8) (x : Nat) (w : World) (hs : 0 ≤ s ∧ s ≤ 4294967295) (hu : Txt w u B) (hx : x < 256) :
    Calls Tryz.prog 6 #[msgV a b c d s k key u, .int .u8 x] w fun e w' => e = .returned (.bool true) ∧ Below w.heap.size w w' := by
  have HU := Aside.mk hu
  have HS := Aside.mk hs
  clear hs
  obtain ⟨aou, capu, hu1, -, -, -, -⟩ := hu
  obtain ⟨nu, hnu⟩ : ∃ n, B.length = n := ⟨_, rfl⟩
  rw [hnu] at hu1
  subst hu1
  clear hnu
  unfold msgV
  obtain ⟨W, hW⟩ : ∃ W, W = w.alloc (.cells #[.int .i64 a, .int .i64 b, .int .i64 c, .int .i64 d, .int .u32 s, .int .i64 k, .string key, .slice aou nu capu] 27) := ⟨_, rfl⟩
  have hbW : Below w.heap.size w W := by rw [hW]; exact (Below.refl _ _).alloc (Nat.le_refl _) _
  have hrow : W.heap[w.heap.size]? = some (.cells #[.int .i64 a, .int .i64 b, .int .i64 c, .int .i64 d, .int .u32 s, .int .i64 k, .string key, .slice aou nu capu] 27 (0, 0)) := by rw [hW]; exact heap_alloc_last _ _
  go_enter Tryz.func6, Tryz.ntmps6
  go_wp2_with fail
  rw [← hW]
  refine (sanity_any W).mono ?_
  rintro e w1 ⟨rfl, b1⟩
  have hr1 : w1.heap[w.heap.size]? = some (.cells #[.int .i64 a, .int .i64 b, .int .i64 c, .int .i64 d, .int .u32 s, .int .i64 k, .string key, .slice aou nu capu] 27 (0, 0)) := by rw [b1.block _ (lt_of_heap hrow)]; exact hrow
  have c0 : w1.cell? ⟨w.heap.size, 0, none⟩ = some (.int .i64 a) := by rw [cell_of_row w1 _ 0 _ _ _ hr1]; rfl
  have c1 : w1.cell? ⟨w.heap.size, 1, none⟩ = some (.int .i64 b) := by rw [cell_of_row w1 _ 1 _ _ _ hr1]; rfl
  have c2 : w1.cell? ⟨w.heap.size, 2, none⟩ = some (.int .i64 c) := by rw [cell_of_row w1 _ 2 _ _ _ hr1]; rfl
  have c3 : w1.cell? ⟨w.heap.size, 3, none⟩ = some (.int .i64 d) := by rw [cell_of_row w1 _ 3 _ _ _ hr1]; rfl
  have c4 : w1.cell? ⟨w.heap.size, 4, none⟩ = some (.int .u32 s) := by rw [cell_of_row w1 _ 4 _ _ _ hr1]; rfl
  have c5 : w1.cell? ⟨w.heap.size, 5, none⟩ = some (.int .i64 k) := by rw [cell_of_row w1 _ 5 _ _ _ hr1]; rfl
  have c6 : w1.cell? ⟨w.heap.size, 6, none⟩ = some (.string key) := by rw [cell_of_row w1 _ 6 _ _ _ hr1]; rfl
  have c7 : w1.cell? ⟨w.heap.size, 7, none⟩ = some (.slice aou nu capu) := by rw [cell_of_row w1 _ 7 _ _ _ hr1]; rfl
  have B1 : Below w.heap.size w w1 := hbW.trans (b1.mono hbW.size)
  have HB1 := Aside.mk B1
  have hM := MadeMessage_txt a b c d s k key _ B w1 (HU.out.below HB1.out)
  unfold msgV at hM
  clear hW hbW hrow b1 hr1 B1
  go_wp2_with fail
  refine hM.mono ?_
  rintro e w2 ⟨b2, a', b', c', d', k', key', u', B', rfl, hok, hu', hB'⟩
  clear c0 c1 c2 c3 c4 c5 c6 c7 hM
  have HUA := Aside.mk hu'
  obtain ⟨ao2, cap2, hv2, -, -, -, -⟩ := hu'
  obtain ⟨n2, hn2⟩ : ∃ n, B'.length = n := ⟨_, rfl⟩
  rw [hn2] at hv2
  subst hv2
  have HB2 : Aside (Below w.heap.size w w2) := ⟨HB1.out.trans (b2.mono HB1.out.size)⟩
  have HOK := Aside.mk hok
  have HBL := Aside.mk hB'
  clear b2 hok hn2 hB'
  obtain ⟨X, hX⟩ : ∃ X : Msg, X = ⟨a', b', c', d', s, ⟨k', key'.data.toList, B'⟩⟩ := ⟨_, rfl⟩
  have HXX := Aside.mk hX
  clear hX
  go_wp2_with fail
  have q2 := heap_alloc_last w2 (.cells #[.int .i64 a', .int .i64 b', .int .i64 c', .int .i64 d', .int .u32 s, .int .i64 k', .string key', .slice ao2 n2 cap2] 27)
  have ba : Below w2.heap.size w2 (w2.alloc (.cells #[.int .i64 a', .int .i64 b', .int .i64 c', .int .i64 d', .int .u32 s, .int .i64 k', .string key', .slice ao2 n2 cap2] 27)) := (Below.refl _ _).alloc (Nat.le_refl _) _
  obtain ⟨g2, hg2⟩ : ∃ g, w2.heap.size = g := ⟨_, rfl⟩
  rw [hg2] at q2
  simp only [hg2]
  generalize (w2.alloc (.cells #[.int .i64 a', .int .i64 b', .int .i64 c', .int .i64 d', .int .u32 s, .int .i64 k', .string key', .slice ao2 n2 cap2] 27)) = W3 at q2 ba ⊢
  have HU3 := Aside.mk (HUA.out.below ba)
  have HB3 : Aside (Below w.heap.size w W3) := ⟨HB2.out.trans (ba.mono HB2.out.size)⟩
  have hE := EncodeMessage_txt a' b' c' d' s k' key' (.slice ao2 n2 cap2) B' W3 HU3.out HS
  unfold msgV at hE
  have c0 : W3.cell? ⟨g2, 0, none⟩ = some (.int .i64 a') := by rw [cell_of_row W3 _ 0 _ _ _ q2]; rfl
  have c1 : W3.cell? ⟨g2, 1, none⟩ = some (.int .i64 b') := by rw [cell_of_row W3 _ 1 _ _ _ q2]; rfl
  have c2 : W3.cell? ⟨g2, 2, none⟩ = some (.int .i64 c') := by rw [cell_of_row W3 _ 2 _ _ _ q2]; rfl
  have c3 : W3.cell? ⟨g2, 3, none⟩ = some (.int .i64 d') := by rw [cell_of_row W3 _ 3 _ _ _ q2]; rfl
  have c4 : W3.cell? ⟨g2, 4, none⟩ = some (.int .u32 s) := by rw [cell_of_row W3 _ 4 _ _ _ q2]; rfl
  have c5 : W3.cell? ⟨g2, 5, none⟩ = some (.int .i64 k') := by rw [cell_of_row W3 _ 5 _ _ _ q2]; rfl
  have c6 : W3.cell? ⟨g2, 6, none⟩ = some (.string key') := by rw [cell_of_row W3 _ 6 _ _ _ q2]; rfl
  have c7 : W3.cell? ⟨g2, 7, none⟩ = some (.slice ao2 n2 cap2) := by rw [cell_of_row W3 _ 7 _ _ _ q2]; rfl
  have HQ2 := Aside.mk q2
  clear ba q2 hg2
  refine hE.mono ?_
  rintro e w4 ⟨b4, hpost⟩
  obtain ⟨v4, rfl, o4⟩ := hpost.1 HOK.out
  rw [← HXX.out] at o4
  have HO4 := Aside.mk o4
  obtain ⟨ao4, cap4, hv4, -, -, -, -⟩ := o4.txt
  obtain ⟨n4, hn4⟩ : ∃ n, (encM X).length = n := ⟨_, rfl⟩
  rw [hn4] at hv4
  subst hv4
  have HB4 : Aside (Below W3.heap.size W3 w4) := ⟨b4⟩
  have HOX : Aside (okM X) := ⟨by rw [HXX.out]; exact HOK.out⟩
  have HSX : Aside (0 ≤ X.sum ∧ X.sum ≤ 4294967295) := ⟨by rw [HXX.out]; exact HS.out⟩
  have HN4 : Aside ((encM X).length = n4 ∧ n4 ≤ 1000) := ⟨hn4, by rw [← hn4]; exact encM_len HOX.out HSX.out (by rw [HXX.out]; exact HBL.out)⟩
  have HV4 : Aside (Txt w4 (.slice ao4 n4 cap4) (encM X)) := ⟨HO4.out.txt⟩
  clear hE b4 o4 hpost hn4 c0 c1 c2 c3 c4 c5 c6 c7
  have hD := DecodeMessage_txt w4 _ _ HV4.out ⟨by have := HN4.out; omega⟩
  rw [rdM_whole X HOX.out HSX.out] at hD
  have HDD := Aside.mk hD
  clear hD
  go_wp2_with fail
  refine HDD.out.mono ?_
  rintro e w5 ⟨b5, vb, rfl, o5⟩
  have HB5 : Aside (Below w4.heap.size w4 w5) := ⟨b5⟩
  have HO5 := Aside.mk o5.txt
  obtain ⟨ao5, cap5, hv5, -, -, -, -⟩ := o5.txt
  obtain ⟨n5, hn5⟩ : ∃ n, X.e.body.length = n := ⟨_, rfl⟩
  rw [hn5] at hv5
  subst hv5
  have hmc : mcs X (.slice ao5 n5 cap5) = #[.int .i64 a', .int .i64 b', .int .i64 c', .int .i64 d', .int .u32 s, .int .i64 k', .string key', .slice ao5 n5 cap5] := by rw [HXX.out]; simp only [mcs, str_list']
  have HXB : Aside (X.e.body = B') := ⟨by rw [HXX.out]⟩
  rw [hmc]
  clear HDD b5 o5 hn5 hmc
  go_upto_region 5 with fail
  have q6 := heap_alloc_last w5 (.cells #[.int .i64 a', .int .i64 b', .int .i64 c', .int .i64 d', .int .u32 s, .int .i64 k', .string key', .slice ao5 n5 cap5] 27)
  have b6 : Below w5.heap.size w5 (w5.alloc (.cells #[.int .i64 a', .int .i64 b', .int .i64 c', .int .i64 d', .int .u32 s, .int .i64 k', .string key', .slice ao5 n5 cap5] 27)) := (Below.refl _ _).alloc (Nat.le_refl _) _
  obtain ⟨g5, hg5⟩ : ∃ g, w5.heap.size = g := ⟨_, rfl⟩
  rw [hg5] at q6
  simp only [hg5]
  generalize (w5.alloc (.cells #[.int .i64 a', .int .i64 b', .int .i64 c', .int .i64 d', .int .u32 s, .int .i64 k', .string key', .slice ao5 n5 cap5] 27)) = W6 at q6 b6 ⊢
  have hm5 : W3.heap.size ≤ w5.heap.size := Nat.le_trans HB4.out.size HB5.out.size
  have HB6 : Aside (Below W3.heap.size W3 W6) := ⟨HB4.out.trans ((HB5.out.trans (b6.mono HB5.out.size)).mono HB4.out.size)⟩
  have HV6 : Aside (Txt W6 (.slice ao4 n4 cap4) (encM X)) := ⟨(HV4.out.below HB5.out).below b6⟩
  have HO6 : Aside (Txt W6 (.slice ao5 n5 cap5) X.e.body) := ⟨HO5.out.below b6⟩
  have HQ6 := Aside.mk q6
  have HLT : Aside (W3.heap.size ≤ g5) := ⟨by omega⟩
  clear q6 b6 hg5 hm5
  have ho : Own W6.heap.size (W6.alloc (.cells #[] 5)) (.slice (some ⟨W6.heap.size, 0, none⟩) 0 0) [] := World.ownsRow_made (size := 1) W6 #[] 0 (Nat.le_refl _) (by simp) rfl
  have HO0 := Aside.mk ho
  clear ho
  have HA6 : Aside (Below W6.heap.size W6 (W6.alloc (.cells #[] 5))) := ⟨(Below.refl _ _).alloc (Nat.le_refl _) _⟩
  have HX1 : Aside (∀ w : World, Txt (w.alloc (.cells #[.int .u8 (x : Nat)] 5)) (.slice (some ⟨w.heap.size, 0, none⟩) 1 1) [UInt8.ofNat x]) := ⟨fun w => by
    have := lit_txt w [UInt8.ofNat x] 1 rfl (by decide)
    simpa [Lib.byteCells, toNat_of x hx] using this⟩
  have HA7 : Aside (∀ w : World, Below w.heap.size w (w.alloc (.cells #[.int .u8 (x : Nat)] 5))) := ⟨fun w => (Below.refl _ _).alloc (Nat.le_refl _) _⟩
  go_wp2_with (first | (at_builtin; refine wpList_append_txt _ rfl (.tmp 27) (.tmp 28) rfl W6.heap.size _ [] rfl HO0.out _ (encM X) rfl (HV6.out.below HA6.out) ⟨by have := HN4.out; simp; omega⟩ (by simp) ?_; intro v7 w7 ho7 hb7) | (at_builtin; refine wpList_append_txt _ rfl (.tmp 29) (.tmp 31) rfl W6.heap.size _ _ rfl (ho7.below (HA7.out w7)) _ [UInt8.ofNat x] rfl (HX1.out w7) ⟨by have := HN4.out; simp; omega⟩ (by have := HA6.out.size; have := hb7.size; have := (HA7.out w7).size; omega) ?_; intro v8 w8 ho8 hb8))
  have hD := DecodeMessage_txt w8 v8 _ ho8.txt ⟨by have := HN4.out; simp; omega⟩
  rw [show ([] ++ encM X ++ [UInt8.ofNat x] : List UInt8) = encM X ++ [UInt8.ofNat x] from by simp, rdM_more X HOX.out HSX.out] at hD
  refine hD.mono ?_
  rintro e w9 ⟨b9, rfl⟩
  have hB9 : Below W6.heap.size W6 w9 := by
    have h1 := HA6.out.trans (hb7.mono (Nat.le_refl _))
    have h2 := h1.trans ((HA7.out w7).mono h1.size)
    have h3 := h2.trans hb8
    exact h3.trans (b9.mono h3.size)
  have HB9 : Aside (Below W3.heap.size W3 w9) := ⟨HB6.out.trans (hB9.mono HB6.out.size)⟩
  have h2' : w9.heap[g2]? = some (.cells #[.int .i64 a', .int .i64 b', .int .i64 c', .int .i64 d', .int .u32 s, .int .i64 k', .string key', .slice ao2 n2 cap2] 27 (0, 0)) := by rw [HB9.out.block _ (lt_of_heap HQ2.out)]; exact HQ2.out
  have h5' : w9.heap[g5]? = some (.cells #[.int .i64 a', .int .i64 b', .int .i64 c', .int .i64 d', .int .u32 s, .int .i64 k', .string key', .slice ao5 n5 cap5] 27 (0, 0)) := by rw [hB9.block _ (lt_of_heap HQ6.out)]; exact HQ6.out
  have hT5 : Txt w9 (.slice ao5 n5 cap5) B' := by have := HO6.out.below hB9; rw [HXB.out] at this; exact this
  have hT2 : Txt w9 (.slice ao2 n2 cap2) B' := HU3.out.below HB9.out
  clear hD b9 hB9 hb7 hb8 ho7 ho8
  have hbz : Below w9.heap.size w9 (w9.alloc (.cells #[.int .i64 0, .int .i64 0, .int .i64 0, .int .i64 0, .int .u32 0, .int .i64 0, .string ⟨#[]⟩, .slice none 0 0] 27)) := (Below.refl _ _).alloc (Nat.le_refl _) _
  have hl2 := lt_of_heap h2'
  have hl5 := lt_of_heap h5'
  unfold mz
  go_upto_region 6 with fail
  have hS := SameMessage_true a' b' c' d' s k' key' (.slice ao2 n2 cap2) (.slice ao5 n5 cap5) B' _ (hT2.below hbz) (hT5.below hbz)
  unfold msgV at hS
  have h2 := (hbz.block _ hl2).trans h2'
  have h5 := (hbz.block _ hl5).trans h5'
  generalize w9.alloc (.cells #[.int .i64 0, .int .i64 0, .int .i64 0, .int .i64 0, .int .u32 0, .int .i64 0, .string ⟨#[]⟩, .slice none 0 0] 27) = W9 at hbz h2 h5 hS ⊢
  have HBZ : Aside (Below w.heap.size w W9) := ⟨HB3.out.trans ((HB9.out.trans (hbz.mono HB9.out.size)).mono HB3.out.size)⟩
  have c0 : W9.cell? ⟨g2, 0, none⟩ = some (.int .i64 a') := by rw [cell_of_row W9 _ 0 _ _ _ h2]; rfl
  have c1 : W9.cell? ⟨g2, 1, none⟩ = some (.int .i64 b') := by rw [cell_of_row W9 _ 1 _ _ _ h2]; rfl
  have c2 : W9.cell? ⟨g2, 2, none⟩ = some (.int .i64 c') := by rw [cell_of_row W9 _ 2 _ _ _ h2]; rfl
  have c3 : W9.cell? ⟨g2, 3, none⟩ = some (.int .i64 d') := by rw [cell_of_row W9 _ 3 _ _ _ h2]; rfl
  have c4 : W9.cell? ⟨g2, 4, none⟩ = some (.int .u32 s) := by rw [cell_of_row W9 _ 4 _ _ _ h2]; rfl
  have c5 : W9.cell? ⟨g2, 5, none⟩ = some (.int .i64 k') := by rw [cell_of_row W9 _ 5 _ _ _ h2]; rfl
  have c6 : W9.cell? ⟨g2, 6, none⟩ = some (.string key') := by rw [cell_of_row W9 _ 6 _ _ _ h2]; rfl
  have c7 : W9.cell? ⟨g2, 7, none⟩ = some (.slice ao2 n2 cap2) := by rw [cell_of_row W9 _ 7 _ _ _ h2]; rfl
  have d0 : W9.cell? ⟨g5, 0, none⟩ = some (.int .i64 a') := by rw [cell_of_row W9 _ 0 _ _ _ h5]; rfl
  have d1 : W9.cell? ⟨g5, 1, none⟩ = some (.int .i64 b') := by rw [cell_of_row W9 _ 1 _ _ _ h5]; rfl
  have d2 : W9.cell? ⟨g5, 2, none⟩ = some (.int .i64 c') := by rw [cell_of_row W9 _ 2 _ _ _ h5]; rfl
  have d3 : W9.cell? ⟨g5, 3, none⟩ = some (.int .i64 d') := by rw [cell_of_row W9 _ 3 _ _ _ h5]; rfl
  have d4 : W9.cell? ⟨g5, 4, none⟩ = some (.int .u32 s) := by rw [cell_of_row W9 _ 4 _ _ _ h5]; rfl
  have d5 : W9.cell? ⟨g5, 5, none⟩ = some (.int .i64 k') := by rw [cell_of_row W9 _ 5 _ _ _ h5]; rfl
  have d6 : W9.cell? ⟨g5, 6, none⟩ = some (.string key') := by rw [cell_of_row W9 _ 6 _ _ _ h5]; rfl
  have d7 : W9.cell? ⟨g5, 7, none⟩ = some (.slice ao5 n5 cap5) := by rw [cell_of_row W9 _ 7 _ _ _ h5]; rfl
  have HSS := Aside.mk hS
  clear hS hbz h2 h5 h2' h5' hT5 hT2 hl2 hl5
  go_wp2_with fail
  refine HSS.out.mono ?_
  rintro e w10 ⟨rfl, b10⟩
  go_wp2_with fail
  go_ret
  exact ⟨rfl, HBZ.out.trans (b10.mono HBZ.out.size)⟩
theorem CodecMessageRoundTrip_walk (a b c d s k : Int) (key : ByteArray) (u : Value) (B : List UInt8) (x : Int) (hs : 0 ≤ s ∧ s ≤ 4294967295) {W : World} (hu : Txt W u B) (hx : (Lit.int .u8 x).wf = true) (w : World) (hw : w = W) :
    Calls Tryz.prog 6 #[.agg #[.int .i64 a, .int .i64 b, .int .i64 c, .int .i64 d, .int .u32 s, .int .i64 k, .string key, u], .int .u8 x] w fun e w' => e = .returned (.bool true) ∧ Below w.heap.size w w' := by
  subst hw
  simp [Lit.wf, IntKind.min, IntKind.max, IntKind.signed, IntKind.bits] at hx
  obtain ⟨j, rfl⟩ : ∃ j : Nat, x = (j : Int) := ⟨x.toNat, by omega⟩
  exact CodecMessageRoundTrip_in a b c d s k key u B j w hs hu (by omega)
end Go.Proofs.YteljhjljigbcjaaGreatDoor.Cv
