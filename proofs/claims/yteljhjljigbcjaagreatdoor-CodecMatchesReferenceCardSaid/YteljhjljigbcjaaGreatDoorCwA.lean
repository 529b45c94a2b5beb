/- Contract of the reference's AppendVarint. -/
import Derived.Test.YteljhjljigbcjaaGreatDoorCvO
import Derived.Test.YteljhjljigbcjaaGreatDoorCvQ
import Derived.Deep.LoopGhost
set_option linter.unusedVariables false
set_option linter.unusedSimpArgs false
namespace Go.Proofs.YteljhjljigbcjaaGreatDoor.Cv
open Go.RowKit

theorem zig_pos {n : Int} (h0 : 0 ≤ n) (h1 : n ≤ 9223372036854775807) : IntKind.u64.wrap (IntKind.u64.wrap n * 2) = ((zig n : Nat) : Int) := by
  rw [wrap_u64, wrap_u64]; unfold zig; rw [if_pos h0]; omega
theorem zig_neg {n : Int} (h0 : n < 0) (h1 : -9223372036854775808 ≤ n) : bits .xor .u64 IntKind.u64.max (IntKind.u64.wrap (IntKind.u64.wrap n * 2)) = ((zig n : Nat) : Int) := by
  have e1 : IntKind.u64.wrap (IntKind.u64.wrap n * 2) = ((18446744073709551616 - 2 * (-n).toNat : Nat) : Int) := by rw [wrap_u64, wrap_u64]; omega
  have e2 : IntKind.u64.max = ((18446744073709551615 : Nat) : Int) := by decide
  rw [e1, e2, bits_xor_nat .u64 64 (by decide) wraps_u64 _ _ (by decide) (by omega), Nat.xor_comm, xor_ones _ (by omega)]
  unfold zig; rw [if_neg (by omega)]
  congr 1; omega
theorem one_txt (w : World) (B : Nat) (h : B < 256) : Txt (w.alloc (.cells #[.int .u8 (B : Nat)] 5)) (.slice (some ⟨w.heap.size, 0, none⟩) 1 1) [UInt8.ofNat B] := by
  have := lit_txt w [UInt8.ofNat B] 1 rfl (by decide)
  simpa [Lib.byteCells, toNat_of B h] using this
set_option maxRecDepth 100000 in
set_option maxHeartbeats 1000000 in
theorem rAppendVarint_txt (v : Value) (xs : List UInt8) (n : Int) (w : World) (h : Txt w v xs) (hn : in64 n) (hbd : Aside (xs.length ≤ 1000000000)) :
    Calls Tryz.prog 16 #[v, .int .i64 n] w fun e w' => ∃ v', e = .returned v' ∧ Own w.heap.size w' v' (xs ++ vint n) ∧ Below w.heap.size w w' := by
  have HT := Aside.mk h
  obtain ⟨ao, cap, rfl, -, -, -, -⟩ := h
  obtain ⟨m, hm⟩ : ∃ m, xs.length = m := ⟨_, rfl⟩
  rw [hm] at HT ⊢
  have HM := Aside.mk hm
  have hzl := zig_lt n hn.1 hn.2
  have hv : vint n = enc (zig n) := rfl
  obtain ⟨Z, hZ⟩ : ∃ Z, zig n = Z := ⟨_, rfl⟩
  have HZZ := Aside.mk hZ
  rw [hZ] at hzl hv
  have HV := Aside.mk hv
  have HZL := Aside.mk hzl
  have HN := Aside.mk hn
  clear hv hZ hzl hn hm
  have ho : Own w.heap.size (w.alloc (.cells #[] 5)) (.slice (some ⟨w.heap.size, 0, none⟩) 0 0) [] := World.ownsRow_made (size := 1) w #[] 0 (Nat.le_refl _) (by simp) rfl
  have HO := Aside.mk ho
  have HA : Aside (Below w.heap.size w (w.alloc (.cells #[] 5))) := ⟨(Below.refl _ _).alloc (Nat.le_refl _) _⟩
  clear ho
  by_cases h0 : n < 0
  · have d0 : decide (n < 0) = true := by simp; omega
    have hz := zig_neg (n := n) (by omega) HN.out.1
    rw [HZZ.out] at hz
    clear h0
    go_enter Tryz.func16, Tryz.ntmps16
    go_wp2_with (first | (at_builtin; refine wpList_append_txt _ rfl (.tmp 14) (.tmp 15) rfl w.heap.size _ [] rfl HO.out _ xs rfl (HT.out.below HA.out) ⟨by have := hbd.out; simp; omega⟩ (by simp) ?_; intro v3 w3 ho3 hb3))
    go_loopg [6, 5] 10 (fun g v6 v5 wr => ∃ (ys : List UInt8) (u : Nat) (p : Value), p = v6 ∧ v5 = .int .u64 u ∧ Aside (u < 128 ^ g) ∧ Aside (Own w.heap.size wr p ys) ∧ Aside (ys ++ enc u = xs ++ vint n) ∧ Aside (ys.length + g = m + 10) ∧ Aside (Below w.heap.size w wr))
    case atStart => exact ⟨xs, Z, _, rfl, rfl, ⟨Nat.lt_of_lt_of_le HZL.out (by decide)⟩, ⟨ho3⟩, ⟨by rw [HV.out]⟩, ⟨by rw [HM.out]⟩, ⟨HA.out.trans hb3⟩⟩
    case round =>
      obtain ⟨ys, u, p, rfl, rfl, HU, hh, HE, hl, hb⟩ := hrel
      clear hz ho3 hb3
      by_cases hu : u < 128
      · have HF : Aside (ys ++ [UInt8.ofNat u] = xs ++ vint n) := ⟨by rw [← HE.out, enc_small hu]⟩
        have HB1 : Aside (Below wr.heap.size wr (wr.alloc (.cells #[.int .u8 (u : Nat)] 5))) := ⟨(Below.refl _ _).alloc (Nat.le_refl _) _⟩
        have H1 := Aside.mk (one_txt wr u (by omega))
        go_wp2_with (first | (at_builtin; refine wpList_append_txt _ rfl (.tmp 27) (.tmp 30) rfl w.heap.size p ys rfl (hh.out.below HB1.out) _ [UInt8.ofNat u] rfl H1.out ⟨by have := hl.out; have := hbd.out; have := HM.out; simp; omega⟩ (Nat.le_trans hb.out.size HB1.out.size) ?_; intro v' w1 hown hb1))
        go_ret
        exact ⟨v', rfl, by rw [← HF.out]; exact hown, hb.out.trans ((HB1.out.mono hb.out.size).trans hb1)⟩
      · cases gk with
        | zero => have := HU.out; simp at this; omega
        | succ g =>
          have hor := or128 u
          have heb := enc_big hu
          have HU' : Aside (u / 128 < 128 ^ g) := ⟨by have := HU.out; rw [Nat.pow_succ] at this; omega⟩
          obtain ⟨B, hB⟩ : ∃ B, u % 128 + 128 = B := ⟨_, rfl⟩
          rw [hB] at hor heb
          have hB1 : B < 256 := by omega
          have HF : Aside ((ys ++ [UInt8.ofNat B]) ++ enc (u / 128) = xs ++ vint n) := ⟨by rw [← HE.out, heb, List.append_assoc]; rfl⟩
          have HB1 : Aside (Below wr.heap.size wr (wr.alloc (.cells #[.int .u8 (B : Nat)] 5))) := ⟨(Below.refl _ _).alloc (Nat.le_refl _) _⟩
          have H1 := Aside.mk (one_txt wr B hB1)
          clear heb hB HU HE hB1
          go_wp2_with (first | (at_builtin; refine wpList_append_txt _ rfl (.tmp 19) (.tmp 23) rfl w.heap.size p ys rfl (hh.out.below HB1.out) _ [UInt8.ofNat B] rfl H1.out ⟨by have := hl.out; have := hbd.out; have := HM.out; simp; omega⟩ (Nat.le_trans hb.out.size HB1.out.size) ?_; intro v' w1 hown hb1))
          go_roundg g
          case measure => omega
          case rel => exact ⟨ys ++ [UInt8.ofNat B], u / 128, v', rfl, by go_num, HU', ⟨hown⟩, HF, ⟨by have := hl.out; rw [List.length_append, List.length_cons, List.length_nil]; omega⟩, ⟨hb.out.trans ((HB1.out.mono hb.out.size).trans hb1)⟩⟩
  · have d0 : decide (n < 0) = false := by simp; omega
    have hz := zig_pos (n := n) (by omega) HN.out.2
    rw [HZZ.out] at hz
    clear h0
    go_enter Tryz.func16, Tryz.ntmps16
    go_wp2_with (first | (at_builtin; refine wpList_append_txt _ rfl (.tmp 14) (.tmp 15) rfl w.heap.size _ [] rfl HO.out _ xs rfl (HT.out.below HA.out) ⟨by have := hbd.out; simp; omega⟩ (by simp) ?_; intro v3 w3 ho3 hb3))
    go_loopg [6, 5] 10 (fun g v6 v5 wr => ∃ (ys : List UInt8) (u : Nat) (p : Value), p = v6 ∧ v5 = .int .u64 u ∧ Aside (u < 128 ^ g) ∧ Aside (Own w.heap.size wr p ys) ∧ Aside (ys ++ enc u = xs ++ vint n) ∧ Aside (ys.length + g = m + 10) ∧ Aside (Below w.heap.size w wr))
    case atStart => exact ⟨xs, Z, _, rfl, rfl, ⟨Nat.lt_of_lt_of_le HZL.out (by decide)⟩, ⟨ho3⟩, ⟨by rw [HV.out]⟩, ⟨by rw [HM.out]⟩, ⟨HA.out.trans hb3⟩⟩
    case round =>
      obtain ⟨ys, u, p, rfl, rfl, HU, hh, HE, hl, hb⟩ := hrel
      clear hz ho3 hb3
      by_cases hu : u < 128
      · have HF : Aside (ys ++ [UInt8.ofNat u] = xs ++ vint n) := ⟨by rw [← HE.out, enc_small hu]⟩
        have HB1 : Aside (Below wr.heap.size wr (wr.alloc (.cells #[.int .u8 (u : Nat)] 5))) := ⟨(Below.refl _ _).alloc (Nat.le_refl _) _⟩
        have H1 := Aside.mk (one_txt wr u (by omega))
        go_wp2_with (first | (at_builtin; refine wpList_append_txt _ rfl (.tmp 27) (.tmp 30) rfl w.heap.size p ys rfl (hh.out.below HB1.out) _ [UInt8.ofNat u] rfl H1.out ⟨by have := hl.out; have := hbd.out; have := HM.out; simp; omega⟩ (Nat.le_trans hb.out.size HB1.out.size) ?_; intro v' w1 hown hb1))
        go_ret
        exact ⟨v', rfl, by rw [← HF.out]; exact hown, hb.out.trans ((HB1.out.mono hb.out.size).trans hb1)⟩
      · cases gk with
        | zero => have := HU.out; simp at this; omega
        | succ g =>
          have hor := or128 u
          have heb := enc_big hu
          have HU' : Aside (u / 128 < 128 ^ g) := ⟨by have := HU.out; rw [Nat.pow_succ] at this; omega⟩
          obtain ⟨B, hB⟩ : ∃ B, u % 128 + 128 = B := ⟨_, rfl⟩
          rw [hB] at hor heb
          have hB1 : B < 256 := by omega
          have HF : Aside ((ys ++ [UInt8.ofNat B]) ++ enc (u / 128) = xs ++ vint n) := ⟨by rw [← HE.out, heb, List.append_assoc]; rfl⟩
          have HB1 : Aside (Below wr.heap.size wr (wr.alloc (.cells #[.int .u8 (B : Nat)] 5))) := ⟨(Below.refl _ _).alloc (Nat.le_refl _) _⟩
          have H1 := Aside.mk (one_txt wr B hB1)
          clear heb hB HU HE hB1
          go_wp2_with (first | (at_builtin; refine wpList_append_txt _ rfl (.tmp 19) (.tmp 23) rfl w.heap.size p ys rfl (hh.out.below HB1.out) _ [UInt8.ofNat B] rfl H1.out ⟨by have := hl.out; have := hbd.out; have := HM.out; simp; omega⟩ (Nat.le_trans hb.out.size HB1.out.size) ?_; intro v' w1 hown hb1))
          go_roundg g
          case measure => omega
          case rel => exact ⟨ys ++ [UInt8.ofNat B], u / 128, v', rfl, by go_num, HU', ⟨hown⟩, HF, ⟨by have := hl.out; rw [List.length_append, List.length_cons, List.length_nil]; omega⟩, ⟨hb.out.trans ((HB1.out.mono hb.out.size).trans hb1)⟩⟩
end Go.Proofs.YteljhjljigbcjaaGreatDoor.Cv
