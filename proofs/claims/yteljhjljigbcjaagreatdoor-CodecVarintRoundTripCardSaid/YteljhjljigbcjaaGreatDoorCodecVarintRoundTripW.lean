/- CodecVarintRoundTrip: the law's walk: it returns true at every input, and of the memory that was there nothing turns. -/
import Derived.Test.YteljhjljigbcjaaGreatDoorCvW
set_option linter.unusedVariables false
namespace Go.Proofs.YteljhjljigbcjaaGreatDoor.Cv
open Go.RowKit

theorem Txt.take {w : World} {ad : Addr} {n cap : Nat} {L : List UInt8} (h : Txt w (.slice (some ad) n cap) L) (j : Nat) (hj : j ≤ L.length) : Txt w (.slice (some ad) j cap) (L.take j) := by
  obtain ⟨ao, cap', e, h0, h1, h2, hc⟩ := h
  cases e
  have hl : (L.take j).length = j := by simp; omega
  refine ⟨some ad, cap, by rw [hl], by simp, by rw [hl]; omega, h2, fun b hb i u hu => ?_⟩
  obtain rfl := Option.some.inj hb
  refine hc _ rfl i u ?_
  simp only [Lib.byteCells, List.map_take, List.getElem?_take] at hu
  split at hu
  · exact hu
  · cases hu

set_option maxRecDepth 100000 in
set_option maxHeartbeats 2000000 in
theorem CodecVarintRoundTrip_in (n : Int) (rv : Value) (R : List UInt8) (c : Nat) (hn : in64 n) (hc : c < 256) (w : World) (hT : Txt w rv R) :
    Calls Tryz.prog 4 #[.int .i64 n, rv, .int .u8 c] w fun e w' => e = .returned (.bool true) ∧ Below w.heap.size w w' := by
  have hvl := vint_len n hn.1 hn.2
  have HT := Aside.mk hT
  obtain ⟨ao, cap, rfl, h0, hcap, hmx, -⟩ := hT
  clear h0
  have hap := AppendVarint_txt (.slice none 0 0) [] n
  go_enter Tryz.func4, Tryz.ntmps4
  go_wp2_with fail
  refine (sanity_any w).mono ?_
  rintro e w1 ⟨rfl, b1⟩
  go_wp2_with fail
  refine (hap w1 (Txt.nil _) hn (by simp)).mono ?_
  rintro e w2 ⟨v2, rfl, o2, b2⟩
  clear hap
  have o2' : Own w1.heap.size w2 v2 (vint n) := by simpa using o2
  clear o2
  obtain ⟨ao2, cap2, hv2, h20, hc2, hm2, -⟩ := o2'.txt
  obtain ⟨k, hk⟩ : ∃ k, (vint n).length = k := ⟨_, rfl⟩
  rw [hk] at hvl hv2 h20 hc2
  obtain ⟨ad2, rfl⟩ : ∃ ad, ao2 = some ad := by
    cases ao2 with
    | none => have := h20 rfl; omega
    | some ad => exact ⟨ad, rfl⟩
  subst hv2
  have HO := Aside.mk o2'
  have HB : Aside (Below w.heap.size w w2) := ⟨b1.trans (b2.mono b1.size)⟩
  have HK := Aside.mk hk
  have HN := Aside.mk hn
  obtain ⟨k1, k2⟩ := hvl
  clear h20 hm2 hmx b1 b2 o2' hk hn
  by_cases hR : R.length ≤ 100
  · have d1 : (decide ((100 : Int) < (R.length : Int))) = false := by simp; omega
    have HR := Aside.mk hR
    clear hR
    have HK1 := Aside.mk (And.intro k1 k2)
    have e1 : decide ((k : Int) < 1) = false := by simp; omega
    have e2 : decide ((10 : Int) < (k : Int)) = false := by simp; omega
    clear k1 k2
    have ho : Own w2.heap.size (w2.alloc (.cells #[] 5)) (.slice (some ⟨w2.heap.size, 0, none⟩) 0 0) [] := World.ownsRow_made (size := 1) w2 #[] 0 (Nat.le_refl _) (by simp) rfl
    have HO0 := Aside.mk ho
    clear ho
    have HA2 : Aside (Below w2.heap.size w2 (w2.alloc (.cells #[] 5))) := ⟨(Below.refl _ _).alloc (Nat.le_refl _) _⟩
    have HT2 : Aside (Txt w2 (.slice ao R.length cap) R) := ⟨Txt.below HT.out (HB.out)⟩
    go_wp2_with (first | (at_builtin; refine wpList_append_txt _ rfl (.tmp 48) (.tmp 49) rfl w2.heap.size _ [] rfl HO0.out _ (vint n) (by rfl) (by have := HO.out.txt.below ((Below.refl _ _).alloc (Nat.le_refl _) (.cells #[] 5)); exact this) ⟨by have := HK.out; have := HK1.out; simp; omega⟩ (by simp) ?_; intro v3 w3 ho3 hb3) | (at_builtin; refine wpList_append_txt _ rfl (.tmp 50) (.tmp 51) rfl w2.heap.size _ _ rfl ho3 _ R rfl (HT2.out.below (HA2.out.trans hb3)) ⟨by have := HK.out; have := HK1.out; have := HR.out; simp; omega⟩ (HA2.out.trans hb3).size ?_; intro v4 w4 ho4 hb4))
    have hv1 : rdV ([] ++ vint n ++ R) 0 = .ok n k := by
      have := rdV_reads n HN.out [] R
      simp only [List.nil_append, List.length_nil, Nat.zero_add, HK.out] at this
      simpa using this
    have hV := Varint_txt w4 v4 _ ho4.txt ⟨by have := HK.out; have := HK1.out; have := HR.out; simp; omega⟩
    rw [hv1] at hV
    refine hV.mono ?_
    rintro e w5 ⟨hb5, rfl⟩
    have HB5 : Aside (Below w2.heap.size w2 w5) := ⟨(HA2.out.trans (hb3.trans hb4)).trans (hb5.mono (Nat.le_trans HA2.out.size (Nat.le_trans hb3.size hb4.size)))⟩
    have HTV : Aside (Txt w5 (.slice (some ad2) k cap2) (vint n)) := ⟨by have := HO.out.txt.below HB5.out; exact this⟩
    clear hV hv1 hb3 hb4 hb5 ho3 ho4
    have hk0 : ¬ (k : Int) = 0 := by have := HK1.out; omega
    have hm0 : (0 : Int) ≤ (c : Int) % (k : Int) := Int.emod_nonneg _ hk0
    have hm1 : (c : Int) % (k : Int) ≤ (cap2 : Int) := by
      have := Int.emod_lt_of_pos (c : Int) (show (0 : Int) < (k : Int) by have := HK1.out; omega)
      omega
    have HJ : Aside (c % k < k) := ⟨Nat.mod_lt _ (by have := HK1.out; omega)⟩
    go_wp2_with fail
    have hv2 : rdV ((vint n).take (c % k)) 0 = .bad 271 := by
      have := rdV_cuts n HN.out [] (c % k) (by rw [HK.out]; exact HJ.out)
      simpa using this
    have hV := Varint_txt w5 (.slice (some ad2) (c % k) cap2) _ (HTV.out.take (c % k) (by rw [HK.out]; exact Nat.le_of_lt HJ.out)) ⟨by have := HK.out; have := HK1.out; simp; omega⟩
    rw [hv2] at hV
    refine hV.mono ?_
    rintro e w6 ⟨hb6, rfl⟩
    clear hV hv2
    go_wp2_with fail
    go_ret
    refine ⟨?_, HB.out.trans ((HB5.out.trans (hb6.mono HB5.out.size)).mono HB.out.size)⟩
    simp
  · have d1 : (decide ((100 : Int) < (R.length : Int))) = true := by simp; omega
    have e1 : decide ((k : Int) < 1) = false := by simp; omega
    have e2 : decide ((10 : Int) < (k : Int)) = false := by simp; omega
    have e3 : decide ((1 : Int) ≤ (k : Int)) = true := by simp; omega
    have e4 : decide ((k : Int) ≤ 10) = true := by simp; omega
    clear hR k1 k2
    go_wp2_with fail
    go_ret
    exact ⟨rfl, HB.out⟩
theorem in64_of {n : Int} (h : (Lit.int .i64 n).wf = true) : in64 n := by
  simp [Lit.wf, IntKind.min, IntKind.max, IntKind.signed, IntKind.bits] at h
  exact ⟨by omega, by omega⟩
theorem u8_of {n : Int} (h : (Lit.int .u8 n).wf = true) : 0 ≤ n ∧ n < 256 := by
  simp [Lit.wf, IntKind.min, IntKind.max, IntKind.signed, IntKind.bits] at h
  exact ⟨by omega, by omega⟩
theorem CodecVarintRoundTrip_walk (n : Int) (rv : Value) (R : List UInt8) (c : Int) (hn : (Lit.int .i64 n).wf = true) {w' : World} (hT : Txt w' rv R) (hc : (Lit.int .u8 c).wf = true) (w : World) (hw : w = w') :
    Calls Tryz.prog 4 #[.int .i64 n, rv, .int .u8 c] w fun e w' => e = .returned (.bool true) ∧ Below w.heap.size w w' := by
  obtain ⟨h0, h1⟩ := u8_of hc
  obtain ⟨k, rfl⟩ : ∃ k : Nat, c = (k : Int) := ⟨c.toNat, by omega⟩
  subst hw
  exact CodecVarintRoundTrip_in n rv R k (in64_of hn) (by omega) w hT
end Go.Proofs.YteljhjljigbcjaaGreatDoor.Cv
