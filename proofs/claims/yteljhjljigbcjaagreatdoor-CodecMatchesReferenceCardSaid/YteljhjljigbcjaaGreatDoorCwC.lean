/- Contract of the reference's Checksum. -/
import Derived.Test.YteljhjljigbcjaaGreatDoorCvU
set_option linter.unusedVariables false
set_option linter.unusedSimpArgs false
namespace Go.Proofs.YteljhjljigbcjaaGreatDoor.Cv
open Go.RowKit

theorem bits_and1 (c : Nat) (h : c < 2 ^ 32) : bits .and .u32 (c : Int) 1 = ((c % 2 : Nat) : Int) := by
  have := (bits_nat .u32 32 (by decide) wraps_u32 c 1 h (by decide)).1
  rw [Nat.and_one_is_mod] at this
  exact this
theorem bits_poly (c : Nat) (h : c < 2 ^ 32) : bits .xor .u32 ((c : Int) / 2) 3988292384 = ((c >>> 1 ^^^ 3988292384 : Nat) : Int) := by
  have := bits_xor_nat .u32 32 (by decide) wraps_u32 (c / 2) 3988292384 (by omega) (by decide)
  rw [show ((c / 2 : Nat) : Int) = (c : Int) / 2 from by omega] at this
  rw [Nat.shiftRight_eq_div_pow]
  exact this
theorem fr_odd {c : Nat} (h : c % 2 = 1) : fr c = c >>> 1 ^^^ 3988292384 := by unfold fr; rw [if_pos h]
theorem fr_evn {c : Nat} (h : ¬ c % 2 = 1) : fr c = c / 2 := by unfold fr; rw [if_neg h, Nat.xor_zero, Nat.shiftRight_eq_div_pow]
theorem frs_out (k c : Nat) : frs (k + 1) c = frs k (fr c) := rfl
theorem i_succ (i : Nat) (h : i < 1000000000) : wrap64 ((i : Int) + 1) = ((i + 1 : Nat) : Int) := by simp only [wrap64]; omega

set_option maxRecDepth 100000 in
set_option maxHeartbeats 2000000 in
theorem rChecksum_txt (v : Value) (L : List UInt8) (w : World) (h : Txt w v L) (hL : Aside (L.length < 1000000000)) :
    Calls Tryz.prog 18 #[v] w fun e w' => e = .returned (.int .u32 ((crc L : Nat) : Int)) ∧ w = w' := by
  obtain ⟨ao, cap, rfl, h0, hc, hmx, hcell⟩ := h
  have HC := Aside.mk hcell
  have H0 := Aside.mk h0
  clear hcell hc hmx h0
  obtain ⟨n, hn⟩ : ∃ n, L.length = n := ⟨_, rfl⟩
  have HN := Aside.mk hn
  rw [hn]
  clear hn
  go_enter Tryz.func18, Tryz.ntmps18
  go_wp2_with fail
  go_loopg [3, 4] n (fun k v3 v4 wr => ∃ (i c : Nat), v3 = .int .u32 c ∧ v4 = .int .i64 (i : Int) ∧ i + k = n ∧ Aside (c < 2 ^ 32) ∧ Aside (crcS (L.drop i) c = crcS L 4294967295) ∧ wr = w)
  case atStart => exact ⟨0, 4294967295, rfl, rfl, by omega, ⟨by decide⟩, ⟨rfl⟩, rfl⟩
  case round =>
    obtain ⟨i, c, rfl, rfl, hk, HCC, HD, rfl⟩ := hrel
    by_cases hi : i < n
    · have hlt : i < L.length := by have := HN.out; omega
      obtain ⟨ad, rfl⟩ : ∃ ad, ao = some ad := by
        cases ao with
        | none => have := H0.out rfl; omega
        | some ad => exact ⟨ad, rfl⟩
      obtain ⟨x, hx⟩ : ∃ x, x = L[i] := ⟨_, rfl⟩
      have hd : L.drop i = x :: L.drop (i + 1) := by rw [hx]; exact List.drop_eq_getElem_cons hlt
      have hcw : wr.cell? (ad.add i) = some (.int .u8 x.toNat) := HC.out ad rfl i _ (by simp [Lib.byteCells, hlt, hx])
      have hx256 : x.toNat < 256 := x.toNat_lt
      have hw1 := i_succ i (by have := hL.out; omega)
      have hxr := bits_xor_nat .u32 32 (by decide) wraps_u32 c x.toNat HCC.out (by omega)
      have HD' : Aside (crcS (L.drop (i + 1)) (frs 8 (c ^^^ x.toNat)) = crcS L 4294967295) := ⟨by rw [← HD.out, hd]; rfl⟩
      have hxl : c ^^^ x.toNat < 2 ^ 32 := Nat.xor_lt_two_pow HCC.out (by omega)
      obtain ⟨X, hX⟩ : ∃ X, x.toNat = X := ⟨_, rfl⟩
      rw [hX] at hcw hxr HD' hx256 hxl
      obtain ⟨D, hDD⟩ : ∃ D, c ^^^ X = D := ⟨_, rfl⟩
      rw [hDD] at hxr HD' hxl
      have hXm : (X : Int) % 4294967296 = (X : Int) := by omega
      have HXL := Aside.mk hxl
      clear hd hx hX hlt hDD HD HCC hxl
      obtain ⟨w0, hw0⟩ : ∃ w0, w0 = wr := ⟨_, rfl⟩
      have hin : (i : Int) < (n : Int) := by omega
      go_wp2_with fail
      clear hxr hXm
      go_loopg [3, 5] 8 (fun k v3 v5 wr' => ∃ (j c : Nat), v3 = .int .u32 c ∧ v5 = .int .i64 (j : Int) ∧ j + k = 8 ∧ Aside (c < 2 ^ 32) ∧ Aside (frs k c = frs 8 D) ∧ wr' = wr)
      case atStart => exact ⟨0, D, rfl, rfl, rfl, HXL, ⟨rfl⟩, rfl⟩
      case round =>
        obtain ⟨j, c, rfl, rfl, hk', HCC, HF, rfl⟩ := hrel
        by_cases hj : j < 8
        · obtain ⟨go, hgo⟩ : ∃ go, gk = go + 1 := ⟨gk - 1, by omega⟩
          subst hgo
          have hw2 := i_succ j (by omega)
          have hj8 : (j : Int) < 8 := by omega
          by_cases hc2 : c % 2 = 1
          · obtain ⟨E, hE⟩ : ∃ E, c >>> 1 ^^^ 3988292384 = E := ⟨_, rfl⟩
            have hfr : fr c = E := (fr_odd hc2).trans hE
            have HE : Aside (E < 2 ^ 32) := ⟨by rw [← hfr]; exact fr_lt HCC.out⟩
            have HF' : Aside (frs go E = frs 8 D) := ⟨by rw [← HF.out, frs_out, hfr]⟩
            have hand := bits_and1 c HCC.out
            rw [hc2] at hand
            have hp := bits_poly c HCC.out
            rw [hE] at hp
            clear hc2 hE hfr HF
            go_wp2_with fail
            clear hand hp
            go_roundg go
            case measure => omega
            case rel => exact ⟨j + 1, E, rfl, by go_num, by omega, HE, HF', rfl⟩
          · have hc0 : c % 2 = 0 := by omega
            have hfr := fr_evn hc2
            have HE : Aside (c / 2 < 2 ^ 32) := ⟨by rw [← hfr]; exact fr_lt HCC.out⟩
            have HF' : Aside (frs go (c / 2) = frs 8 D) := ⟨by rw [← HF.out, frs_out, hfr]⟩
            have hand := bits_and1 c HCC.out
            rw [hc0] at hand
            clear hc2 hc0 hfr HF
            go_wp2_with fail
            clear hand
            go_roundg go
            case measure => omega
            case rel => exact ⟨j + 1, c / 2, by go_num, by go_num, by omega, HE, HF', rfl⟩
        · have hg0 : gk = 0 := by omega
          subst hg0
          have hc8 : c = frs 8 D := HF.out
          have HD2 : Aside (crcS (L.drop (i + 1)) c = crcS L 4294967295) := ⟨by rw [hc8]; exact HD'.out⟩
          clear hc8 HF HD'
          go_wp2_with fail
          obtain ⟨go, hgo⟩ : ∃ go, gk = go + 1 := ⟨gk - 1, by omega⟩
          go_roundg go
          case measure => omega
          case rel => exact ⟨i + 1, c, rfl, by rw [hw1], by omega, HCC, HD2, rfl⟩
    · have hin : i = n := by omega
      have hd : crcS L 4294967295 = c := by rw [← HD.out, hin, ← HN.out, List.drop_length]; rfl
      have hm := bits_xor_nat .u32 32 (by decide) wraps_u32 c 4294967295 HCC.out (by decide)
      have hcrc : c ^^^ 4294967295 = crc L := by unfold crc; rw [hd]
      rw [hcrc] at hm
      clear hd hcrc
      go_wp2_with fail
      go_ret
      exact ⟨by rw [← hm]; rfl, rfl⟩
end Go.Proofs.YteljhjljigbcjaaGreatDoor.Cv
