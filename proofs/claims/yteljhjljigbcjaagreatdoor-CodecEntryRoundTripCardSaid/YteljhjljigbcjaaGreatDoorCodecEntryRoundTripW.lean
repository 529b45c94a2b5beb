/- CodecEntryRoundTrip: the law's walk: it returns true at every input, and of the memory that was there nothing turns. -/
import Derived.Test.YteljhjljigbcjaaGreatDoorCvW
import Derived.Test.YteljhjljigbcjaaGreatDoorCvY
set_option linter.unusedVariables false
namespace Go.Proofs.YteljhjljigbcjaaGreatDoor.Cv
open Go.RowKit

theorem str_list (s : ByteArray) : str s.data.toList = s := by
  obtain ⟨⟨l⟩⟩ := s
  rfl
set_option maxRecDepth 100000 in
set_option maxHeartbeats 4000000 in
theorem CodecEntryRoundTrip_in (k : Int) (s : ByteArray) (u : Value) (B : List UInt8) (rv : Value) (R : List UInt8) (w : World) (hu : Txt w u B) (hT : Txt w rv R) :
    Calls Tryz.prog 5 #[entV k s u, rv] w fun e w' => e = .returned (.bool true) ∧ Below w.heap.size w w' := by
  have HT := Aside.mk hT
  have HU := Aside.mk hu
  obtain ⟨ao, cap, rfl, h0, hcap, hmx, -⟩ := hT
  obtain ⟨aou, capu, hu1, -, -, -, -⟩ := hu
  obtain ⟨nu, hnu⟩ : ∃ n, B.length = n := ⟨_, rfl⟩
  rw [hnu] at hu1
  subst hu1
  clear h0 hcap hmx hnu
  unfold entV
  obtain ⟨W, hW⟩ : ∃ W, W = w.alloc (.cells #[.int .i64 k, .string s, .slice aou nu capu] 24) := ⟨_, rfl⟩
  have hbW : Below w.heap.size w W := by rw [hW]; exact (Below.refl _ _).alloc (Nat.le_refl _) _
  have hrow : W.heap[w.heap.size]? = some (.cells #[.int .i64 k, .string s, .slice aou nu capu] 24 (0, 0)) := by rw [hW]; exact heap_alloc_last _ _
  go_enter Tryz.func5, Tryz.ntmps5
  go_wp2_with fail
  rw [← hW]
  refine (sanity_any W).mono ?_
  rintro e w1 ⟨rfl, b1⟩
  have hr1 : w1.heap[w.heap.size]? = some (.cells #[.int .i64 k, .string s, .slice aou nu capu] 24 (0, 0)) := by rw [b1.block _ (lt_of_heap hrow)]; exact hrow
  have c0 : w1.cell? ⟨w.heap.size, 0, none⟩ = some (.int .i64 k) := by rw [cell_of_row w1 _ 0 _ _ _ hr1]; rfl
  have c1 : w1.cell? ⟨w.heap.size, 1, none⟩ = some (.string s) := by rw [cell_of_row w1 _ 1 _ _ _ hr1]; rfl
  have c2 : w1.cell? ⟨w.heap.size, 2, none⟩ = some (.slice aou nu capu) := by rw [cell_of_row w1 _ 2 _ _ _ hr1]; rfl
  have B1 : Below w.heap.size w w1 := hbW.trans (b1.mono hbW.size)
  have HB1 := Aside.mk B1
  clear hW hbW hrow b1 hr1 B1
  go_wp2_with fail
  refine (MadeEntry_txt k s _ B w1 (HU.out.below HB1.out)).mono ?_
  rintro e w2 ⟨b2, k', s', u', B', rfl, hok, hu', hB'⟩
  clear c0 c1 c2
  have HUA := Aside.mk hu'
  obtain ⟨ao2, cap2, hv2, -, -, -, -⟩ := hu'
  obtain ⟨n2, hn2⟩ : ∃ n, B'.length = n := ⟨_, rfl⟩
  rw [hn2] at hv2
  subst hv2
  have HB2 : Aside (Below w.heap.size w w2) := ⟨HB1.out.trans (b2.mono HB1.out.size)⟩
  have HOK := Aside.mk hok
  clear b2 hok hn2 hB'
  obtain ⟨X, hX⟩ : ∃ X : Ent, X = ⟨k', s'.data.toList, B'⟩ := ⟨_, rfl⟩
  have HXX := Aside.mk hX
  clear hX
  by_cases hR : R.length ≤ 100
  · have d1 : (decide ((100 : Int) < (R.length : Int))) = false := by simp; omega
    have HR := Aside.mk hR
    clear hR
    unfold entV
    go_wp2_with fail
    have q2 := heap_alloc_last w2 (.cells #[.int .i64 k', .string s', .slice ao2 n2 cap2] 24)
    have ba : Below w2.heap.size w2 (w2.alloc (.cells #[.int .i64 k', .string s', .slice ao2 n2 cap2] 24)) := (Below.refl _ _).alloc (Nat.le_refl _) _
    obtain ⟨g2, hg2⟩ : ∃ g, w2.heap.size = g := ⟨_, rfl⟩
    rw [hg2] at q2
    simp only [hg2]
    generalize (w2.alloc (.cells #[.int .i64 k', .string s', .slice ao2 n2 cap2] 24)) = W3 at q2 ba ⊢
    have HU3 := Aside.mk (HUA.out.below ba)
    have HB3 : Aside (Below w.heap.size w W3) := ⟨HB2.out.trans (ba.mono HB2.out.size)⟩
    have hE := EncodeEntry_txt k' s' (.slice ao2 n2 cap2) B' W3 HU3.out
    simp only [if_pos HOK.out] at hE
    unfold entV at hE
    have c0 : W3.cell? ⟨g2, 0, none⟩ = some (.int .i64 k') := by rw [cell_of_row W3 _ 0 _ _ _ q2]; rfl
    have c1 : W3.cell? ⟨g2, 1, none⟩ = some (.string s') := by rw [cell_of_row W3 _ 1 _ _ _ q2]; rfl
    have c2 : W3.cell? ⟨g2, 2, none⟩ = some (.slice ao2 n2 cap2) := by rw [cell_of_row W3 _ 2 _ _ _ q2]; rfl
    have HQ2 := Aside.mk q2
    clear ba q2 hg2
    go_wp2_with fail
    refine hE.mono ?_
    rintro e w4 ⟨b4, v4, rfl, o4⟩
    rw [← HXX.out] at o4
    have HO4 := Aside.mk o4
    obtain ⟨ao4, cap4, hv4, -, -, -, -⟩ := o4.txt
    obtain ⟨n4, hn4⟩ : ∃ n, (encE X).length = n := ⟨_, rfl⟩
    rw [hn4] at hv4
    subst hv4
    have HB4 : Aside (Below W3.heap.size W3 w4) := ⟨b4⟩
    have HN4 : Aside ((encE X).length = n4 ∧ n4 ≤ 30000) := ⟨hn4, by
      have hx := HOK.out
      rw [← HXX.out] at hx
      obtain ⟨⟨x0, x1⟩, ⟨x2, x3⟩, x4⟩ := hx
      have v1 := (vint_len X.kind (by omega) (by omega)).2
      have v2 := (vint_len (X.key.length : Int) (by omega) (by omega)).2
      have v3 := (vint_len (X.body.length : Int) (by omega) (by omega)).2
      rw [← hn4]
      simp only [encE, bytesOf, List.length_append]
      omega⟩
    clear hE b4 o4 c0 c1 c2 hn4
    have ho : Own w4.heap.size (w4.alloc (.cells #[] 5)) (.slice (some ⟨w4.heap.size, 0, none⟩) 0 0) [] := World.ownsRow_made (size := 1) w4 #[] 0 (Nat.le_refl _) (by simp) rfl
    have HO0 := Aside.mk ho
    clear ho
    have HA4 : Aside (Below w4.heap.size w4 (w4.alloc (.cells #[] 5))) := ⟨(Below.refl _ _).alloc (Nat.le_refl _) _⟩
    have HT4 : Aside (Txt w4 (.slice ao R.length cap) R) := ⟨(HT.out.below HB3.out).below HB4.out⟩
    have HV4 : Aside (Txt w4 (.slice ao4 n4 cap4) (encE X)) := ⟨HO4.out.txt⟩
    go_wp2_with (first | (at_builtin; refine wpList_append_txt _ rfl (.tmp 25) (.tmp 26) rfl w4.heap.size _ [] rfl HO0.out _ (encE X) rfl (HV4.out.below HA4.out) ⟨by have := HN4.out; simp; omega⟩ (by simp) ?_; intro v5 w5 ho5 hb5) | (at_builtin; refine wpList_append_txt _ rfl (.tmp 27) (.tmp 28) rfl w4.heap.size _ _ rfl ho5 _ R rfl (HT4.out.below (HA4.out.trans hb5)) ⟨by have := HN4.out; have := HR.out; simp; omega⟩ (HA4.out.trans hb5).size ?_; intro v6 w6 ho6 hb6))
    have hv1 : rdE ([] ++ encE X ++ R) 0 = .ok X n4 := by
      have := rdE_reads X (by rw [HXX.out]; exact HOK.out) [] R
      simp only [List.nil_append, List.length_nil, Nat.zero_add, HN4.out.1] at this
      simpa using this
    have hV := DecodeEntry_txt w6 v6 _ ho6.txt ⟨by have := HN4.out; have := HR.out; simp; omega⟩
    rw [hv1] at hV
    refine hV.mono ?_
    rintro e w7 ⟨hb7, vb, rfl, o7⟩
    have HB7 : Aside (Below w4.heap.size w4 w7) := ⟨(HA4.out.trans (hb5.trans hb6)).trans (hb7.mono (Nat.le_trans HA4.out.size (Nat.le_trans hb5.size hb6.size)))⟩
    have HO7 := Aside.mk o7.txt
    obtain ⟨ao7, cap7, hv7, -, -, -, -⟩ := o7.txt
    obtain ⟨n7, hn7⟩ : ∃ n, X.body.length = n := ⟨_, rfl⟩
    rw [hn7] at hv7
    subst hv7
    have hk1 : X.kind = k' := by rw [HXX.out]
    have hk2 : str X.key = s' := by rw [HXX.out]; exact str_list s'
    have HXB : Aside (X.body = B') := ⟨by rw [HXX.out]⟩
    rw [hk1, hk2]
    clear hV hv1 hb5 hb6 hb7 ho5 ho6 o7 hn7 hk1 hk2
    have bb : Below W3.heap.size W3 w7 := HB4.out.trans (HB7.out.mono HB4.out.size)
    have q7 : w7.heap[g2]? = some (.cells #[.int .i64 k', .string s', .slice ao2 n2 cap2] 24 (0, 0)) := by rw [bb.block _ (lt_of_heap HQ2.out)]; exact HQ2.out
    have hl7 := lt_of_heap q7
    have ba : Below w7.heap.size w7 (w7.alloc (.cells #[.int .i64 k', .string s', .slice ao7 n7 cap7] 24)) := (Below.refl _ _).alloc (Nat.le_refl _) _
    have hS := Same_true k' s' (.slice ao2 n2 cap2) (.slice ao7 n7 cap7) B' (w7.alloc (.cells #[.int .i64 k', .string s', .slice ao7 n7 cap7] 24)) ((HU3.out.below bb).below ba) (by have := HO7.out.below ba; rw [HXB.out] at this; exact this)
    unfold entV at hS
    have c0 : w7.cell? ⟨g2, 0, none⟩ = some (.int .i64 k') := by rw [cell_of_row w7 _ 0 _ _ _ q7]; rfl
    have c1 : w7.cell? ⟨g2, 1, none⟩ = some (.string s') := by rw [cell_of_row w7 _ 1 _ _ _ q7]; rfl
    have c2 : w7.cell? ⟨g2, 2, none⟩ = some (.slice ao2 n2 cap2) := by rw [cell_of_row w7 _ 2 _ _ _ q7]; rfl
    have hne : g2 ≠ w7.heap.size := by omega
    have a0 : (w7.alloc (.cells #[.int .i64 k', .string s', .slice ao7 n7 cap7] 24)).cell? ⟨g2, 0, none⟩ = some (.int .i64 k') := (ba.cell (p := ⟨g2, 0, none⟩) hl7).trans c0
    have a1 : (w7.alloc (.cells #[.int .i64 k', .string s', .slice ao7 n7 cap7] 24)).cell? ⟨g2, 1, none⟩ = some (.string s') := (ba.cell (p := ⟨g2, 1, none⟩) hl7).trans c1
    have a2 : (w7.alloc (.cells #[.int .i64 k', .string s', .slice ao7 n7 cap7] 24)).cell? ⟨g2, 2, none⟩ = some (.slice ao2 n2 cap2) := (ba.cell (p := ⟨g2, 2, none⟩) hl7).trans c2
    have HEND : Aside (Below w.heap.size w (w7.alloc (.cells #[.int .i64 k', .string s', .slice ao7 n7 cap7] 24))) := ⟨HB3.out.trans ((bb.trans (ba.mono bb.size)).mono HB3.out.size)⟩
    have HSS := Aside.mk hS
    clear q7 ba bb hS
    go_wp2_with fail
    refine HSS.out.mono ?_
    rintro e w8 ⟨rfl, b8⟩
    go_wp2_with fail
    go_ret
    exact ⟨rfl, HEND.out.trans (b8.mono HEND.out.size)⟩
  · have d1 : (decide ((100 : Int) < (R.length : Int))) = true := by simp; omega
    clear hR
    unfold entV
    go_wp2_with fail
    go_ret
    exact ⟨rfl, HB2.out.alloc HB2.out.size _⟩
theorem CodecEntryRoundTrip_walk (k : Int) (s : ByteArray) (u : Value) (B : List UInt8) (rv : Value) (R : List UInt8) (hk : (Lit.int .i64 k).wf = true) {W : World} (hu : Txt W u B) (hT : Txt W rv R) (w : World) (hw : w = W) :
    Calls Tryz.prog 5 #[.agg #[.int .i64 k, .string s, u], rv] w fun e w' => e = .returned (.bool true) ∧ Below w.heap.size w w' := by
  subst hw
  exact CodecEntryRoundTrip_in k s u B rv R w hu hT
end Go.Proofs.YteljhjljigbcjaaGreatDoor.Cv
