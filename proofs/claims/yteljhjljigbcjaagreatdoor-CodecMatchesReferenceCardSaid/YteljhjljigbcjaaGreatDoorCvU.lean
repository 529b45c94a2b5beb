/- Contract of codec.Checksum: the checksum of the text. -/
import Derived.Test.YteljhjljigbcjaaGreatDoorCvT
import Derived.Test.YteljhjljigbcjaaGreatDoorCvS
set_option linter.unusedVariables false
namespace Go.Proofs.YteljhjljigbcjaaGreatDoor.Cv
open Go.RowKit

set_option maxRecDepth 100000 in
set_option maxHeartbeats 1000000 in
theorem Checksum_txt (v : Value) (L : List UInt8) (w : World) (h : Txt w v L) :
    Calls Tryz.prog 17 #[v] w fun e w' => e = .returned (.int .u32 ((crc L : Nat) : Int)) ∧ Below w.heap.size w w' := by
  have hT := h
  obtain ⟨ao, cap, rfl, h0, hc, hm, hcell⟩ := h
  obtain ⟨Z, hZs, hZ, hZ1⟩ := zero_tab
  go_enter Tryz.func17, Tryz.ntmps17
  go_wp2_with (first | (go_at_call 39; refine (crcTable_any _).mono ?_; rintro e w1 ⟨rfl, hb1⟩) | (refine wpList_store_row rfl 78 _ _ rfl _ tabA rfl rfl 78 Z (heap_alloc_last _ _) (by rw [info_tab, tabA_size]) (by rw [hZs, tabA_size]) (by decide +kernel) ?_))
  go_loopg [4, 10] L.length (fun g v4 v10 wr => ∃ (i c : Nat), v10 = .int .i64 i ∧ i + g = L.length ∧ v4 = .int .u32 c ∧ Aside (crcS (L.drop i) c = crcS L 4294967295) ∧ Aside (c < 2 ^ 32) ∧ Row wr w1.heap.size tabA ∧ Below w1.heap.size w1 wr)
  case atStart =>
    refine ⟨0, 4294967295, rfl, by omega, rfl, ⟨rfl⟩, ⟨by decide⟩, ⟨?_⟩, ?_⟩
    · exact setRow_heap _ _ Z _ _ _ (heap_alloc_last _ _)
    · exact ((Below.refl _ _).alloc (Nat.le_refl _) _).trans ⟨rfl, rfl, rfl, by simp [World.setRow], fun k hk => by simp only [World.setRow, Array.getElem?_modify]; rw [if_neg (by omega)]⟩
  case round =>
    obtain ⟨i, c, rfl, hg, rfl, HS, HC, hr, hb⟩ := hrel
    by_cases hi : i < L.length
    · have hib : (i : Int) < 9223372036854775807 := by simp only [maxLen] at hm; omega
      obtain ⟨ad, rfl⟩ : ∃ ad, ao = some ad := by
        cases ao with
        | none => have := h0 rfl; omega
        | some ad => exact ⟨ad, rfl⟩
      obtain ⟨x, hx⟩ : ∃ x, x = L[i] := ⟨_, rfl⟩
      have hd : L.drop i = x :: L.drop (i + 1) := by rw [hx]; exact List.drop_eq_getElem_cons hi
      have hci : w.cell? (ad.add i) = some (.int .u8 x.toNat) := hcell ad rfl i _ (by simp [Lib.byteCells, hi, hx])
      have hlt := World.block_lt_of_cell? w _ hci
      have hcw : wr.cell? (ad.add i) = some (.int .u8 x.toNat) := by
        rw [hb.cell (Nat.lt_of_lt_of_le hlt hb1.size), hb1.cell hlt]; exact hci
      have hx256 : x.toNat < 256 := x.toNat_lt
      have hk := bits_xor_nat .u8 8 (by decide) wraps_u8 (c % 256) x.toNat (by omega) (by omega)
      obtain ⟨k, hkk⟩ : ∃ k, c % 256 ^^^ x.toNat = k := ⟨_, rfl⟩
      have hk256 : k < 256 := by rw [← hkk]; exact Nat.xor_lt_two_pow (n := 8) (by omega) (by omega)
      rw [hkk, show ((c % 256 : Nat) : Int) = (c : Int) % 256 from by omega] at hk
      have hct : wr.cell? ⟨w1.heap.size, k, none⟩ = some (.int .u32 ((frs 8 k : Nat) : Int)) := by rw [hr.cell, tabA_at k hk256]
      have hst := step_tab c x.toNat hx256
      rw [hkk] at hst
      have hfl := frs_lt 8 k (by omega)
      have hy := bits_xor_nat .u32 32 (by decide) wraps_u32 (c / 256) (frs 8 k) (by have := HC.out; omega) hfl
      have HC' : Aside (frs 8 (c ^^^ x.toNat) < 2 ^ 32) := ⟨frs_lt 8 _ (Nat.xor_lt_two_pow HC.out (by omega))⟩
      have HS' : Aside (crcS (L.drop (i + 1)) (frs 8 (c ^^^ x.toNat)) = crcS L 4294967295) := ⟨by rw [← HS.out, hd]; rfl⟩
      rw [show c / 256 = c >>> 8 from by rw [Nat.shiftRight_eq_div_pow]] at hy
      rw [← hst] at hy
      obtain ⟨F, hF⟩ : ∃ F, frs 8 k = F := ⟨_, rfl⟩
      obtain ⟨G, hG⟩ : ∃ G, frs 8 (c ^^^ x.toNat) = G := ⟨_, rfl⟩
      rw [hF] at hy hct
      rw [hG] at hy HS' HC'
      rw [show ((c >>> 8 : Nat) : Int) = (c : Int) / 256 from by rw [Nat.shiftRight_eq_div_pow]; omega] at hy
      obtain ⟨X, hX⟩ : ∃ X, x.toNat = X := ⟨_, rfl⟩
      rw [hX] at hcw hk hx256
      clear hst hfl hF hG hkk hd hx hX
      cases gk with
      | zero => omega
      | succ gk =>
        clear HS
        go_wp2_with fail
        go_roundg gk
        case measure => omega
        case rel => exact ⟨i + 1, G, by go_num, by omega, rfl, HS', HC', hr, hb⟩
    · have hz : gk = 0 := by omega
      have hfin : crcS L 4294967295 = c := by
        rw [← HS.out, show i = L.length by omega, List.drop_length]; rfl
      have hm := bits_xor_nat .u32 32 (by decide) wraps_u32 4294967295 c (by decide) HC.out
      have hcrc : 4294967295 ^^^ c = crc L := by rw [Nat.xor_comm]; unfold crc; rw [hfin]
      rw [hcrc] at hm
      have HM := Aside.mk hm
      clear hm hcrc hfin HC HS
      go_wp2_with fail
      go_ret
      exact ⟨by rw [← HM.out]; rfl, hb1.trans (hb.mono hb1.size)⟩
end Go.Proofs.YteljhjljigbcjaaGreatDoor.Cv
