/- Contracts of the reference's varint and Varint. -/
import Derived.Test.YteljhjljigbcjaaGreatDoorCvD
import Derived.Test.YteljhjljigbcjaaGreatDoorCvG
set_option linter.unusedVariables false
set_option linter.unusedSimpArgs false
namespace Go.Proofs.YteljhjljigbcjaaGreatDoor.Cv
open Go.RowKit

theorem or_bits' (a Y i : Nat) (ha : a < 128 ^ i) (ha64 : a < 2 ^ 64) (hb : Y * 128 ^ i < 2 ^ 64) : bits .or .u64 (a : Int) (IntKind.u64.wrap ((Y : Int) * 2 ^ (7 * i))) = ((a + Y * 128 ^ i : Nat) : Int) := by
  have e : (2 : Nat) ^ (7 * i) = 128 ^ i := by rw [Nat.pow_mul]
  have hw : IntKind.u64.wrap ((Y : Int) * 2 ^ (7 * i)) = ((Y * 128 ^ i : Nat) : Int) := by
    have : ((Y : Int) * 2 ^ (7 * i)) = ((Y * 128 ^ i : Nat) : Int) := by rw [← e]; push_cast; rfl
    rw [this]
    exact wraps_u64 _ (by omega) (by exact_mod_cast hb)
  rw [hw, (bits_nat .u64 64 (by decide) wraps_u64 a _ ha64 hb).2, or_add a Y i ha]
theorem and127_all : ∀ X : Nat, X < 256 → bits .and .u8 (X : Int) 127 = ((X % 128 : Nat) : Int) := by decide +kernel
theorem and1_u64 (U : Nat) (h : U < 2 ^ 64) : bits .and .u64 (U : Int) 1 = ((U % 2 : Nat) : Int) := by
  have := (bits_nat .u64 64 (by decide) wraps_u64 U 1 h (by decide)).1
  rw [Nat.and_one_is_mod] at this
  exact this
theorem xor_neg' (a : Nat) (h : a < 2 ^ 63) : bits .xor .i64 (-1) (a : Int) = -((a : Nat) : Int) - 1 := by
  rw [← xor_neg a h]
  simp only [bits, BitVec.xor_comm]
theorem zag_odd {U : Nat} (h : U % 2 = 1) : zag U = -((U : Int) / 2) - 1 := by unfold zag; rw [if_neg (by omega)]; omega
theorem zag_even {U : Nat} (h : U % 2 = 0) : zag U = (U : Int) / 2 := by unfold zag; rw [if_pos h]; omega
theorem wrap_half {U : Nat} (h : U < 2 ^ 64) : wrap64 ((U : Int) / 2) = (U : Int) / 2 := by simp only [wrap64]; omega
theorem xor_half {U : Nat} (h : U < 2 ^ 64) : bits .xor .i64 (-1) ((U : Int) / 2) = -((U : Int) / 2) - 1 := by
  have := xor_neg' (U / 2) (by omega)
  rw [show ((U / 2 : Nat) : Int) = (U : Int) / 2 from by omega] at this
  exact this
theorem mod2 {U : Nat} (h : ¬ U % 2 = 1) : U % 2 = 0 := by omega
theorem wrap_succ (i : Nat) (h : i < 1000) : wrap64 ((i : Int) + 1) = ((i + 1 : Nat) : Int) := by simp only [wrap64]; omega
theorem top_le {a i X Y : Nat} (ha : a < 128 ^ i) (hi : i ≤ 9) (hY : X % 128 = Y) (hX : X < 256) (h9 : ¬ (i = 9 ∧ X ≠ 1)) : Y * 128 ^ i < 2 ^ 64 ∧ a < 2 ^ 64 ∧ a + Y * 128 ^ i < 2 ^ 64 := by
  by_cases h : i = 9
  · have : Y = 1 := by omega
    subst h
    subst this
    omega
  · have h8 : 128 ^ i ≤ 128 ^ 8 := Nat.pow_le_pow_right (by decide) (by omega)
    have := Nat.mul_le_mul (show Y ≤ 127 by omega) h8
    omega
theorem next_lt {a i Y : Nat} (ha : a < 128 ^ i) (hY : Y ≤ 127) : a + Y * 128 ^ i < 128 ^ (i + 1) := by
  have := Nat.mul_le_mul_right (128 ^ i) hY
  rw [Nat.pow_succ]; omega
def ansV (o : Out Int) : Value := match o with
  | .ok n q => .tuple #[.int .i64 n, .int .i64 (q : Nat), .int .i64 0]
  | .bad k => .tuple #[.int .i64 0, .int .i64 0, .int .i64 k]

set_option maxRecDepth 100000 in
set_option maxHeartbeats 2000000 in
theorem rvarint_any (w : World) (v : Value) (L : List UInt8) (h : Txt w v L) (hL : Aside (L.length < 1000000000)) :
    Calls Tryz.prog 29 #[v] w fun e w' => e = .returned (ansV (rdV L 0)) ∧ w = w' := by
  obtain ⟨ao, cap, rfl, h0, hc, hmx, hcell⟩ := h
  have HC := Aside.mk hcell
  have H0 := Aside.mk h0
  clear hcell hc hmx h0
  obtain ⟨n, hn⟩ : ∃ n, L.length = n := ⟨_, rfl⟩
  have HN := Aside.mk hn
  rw [hn]
  clear hn
  go_enter Tryz.func29, Tryz.ntmps29
  go_wp2_with fail
  go_loopg [5, 6] 9 (fun k v5 v6 wr => ∃ (i a : Nat), v5 = .int .u64 a ∧ v6 = .int .i64 (i : Int) ∧ i + k = 9 ∧ Aside (a < 128 ^ i) ∧ Aside (dec (L.drop i) i a = dec L 0 0) ∧ Aside (i ≤ n) ∧ wr = w)
  case atStart => exact ⟨0, 0, rfl, rfl, rfl, ⟨by decide⟩, ⟨rfl⟩, ⟨Nat.zero_le _⟩, rfl⟩
  case round =>
    obtain ⟨i, a, rfl, rfl, hk, HA, HD, HI, rfl⟩ := hrel
    have hi10 : (i : Int) < 10 := by omega
    by_cases hl : i = n
    · have hz : ((i : Int) == (n : Int)) = true := by rw [hl]; simp
      have HZ : Aside (rdV L 0 = .bad 271) := ⟨by unfold rdV; rw [List.drop_zero, ← HD.out, List.drop_of_length_le (by rw [HN.out]; omega)]; rfl⟩
      clear hl
      go_wp2_with fail
      refine bodyPost_ret (v := .tuple #[.int .i64 0, .int .i64 0, .int .i64 271]) (by simp [results, Tryz.results29, go_sem]) rfl ⟨?_, rfl⟩
      exact (congrArg (fun o => Ending.returned (ansV o)) HZ.out).symm
    · have hlt : i < L.length := by have := HI.out; have := HN.out; omega
      have hz : ((i : Int) == (n : Int)) = false := by rw [beq_eq_false_iff_ne]; omega
      obtain ⟨ad, rfl⟩ : ∃ ad, ao = some ad := by
        cases ao with
        | none => have := H0.out rfl; omega
        | some ad => exact ⟨ad, rfl⟩
      obtain ⟨x, hx⟩ : ∃ x, x = L[i] := ⟨_, rfl⟩
      have hd : L.drop i = x :: L.drop (i + 1) := by rw [hx]; exact List.drop_eq_getElem_cons hlt
      have hcw : wr.cell? (ad.add i) = some (.int .u8 x.toNat) := HC.out ad rfl i _ (by simp [Lib.byteCells, hlt, hx])
      have hx256 : x.toNat < 256 := x.toNat_lt
      obtain ⟨X, hX⟩ : ∃ X, x.toNat = X := ⟨_, rfl⟩
      rw [hX] at hcw hx256
      have hdec : dec (L.drop i) i a = if (i = 9 ∧ X ≠ 1) ∨ (0 < i ∧ X = 0) then .bad 272 else if X < 128 then .ok (a + X * 128 ^ i) (i + 1) else dec (L.drop (i + 1)) (i + 1) (a + X % 128 * 128 ^ i) := by rw [hd, ← hX]; rfl
      rw [HD.out] at hdec
      have HE := Aside.mk hdec
      have hin : (i : Int) < (n : Int) := by have := HN.out; omega
      have HLT := Aside.mk hlt
      clear hdec hd hx hX hl HD hlt
      have HAN := Aside.mk (and127_all X hx256)
      obtain ⟨Y, hY⟩ : ∃ Y, X % 128 = Y := ⟨_, rfl⟩
      have hY128 : (Y : Int) < 128 := by omega
      rw [hY] at HAN
      have HYX := Aside.mk hY
      clear hY
      have h7 : wrap64 (7 * (i : Int)) = 7 * (i : Int) := by simp only [wrap64]; omega
      have hrd : ∀ o, dec L 0 0 = o → rdV L 0 = (match o with | .ok u k => .ok (zag u) (0 + k) | .bad e => .bad e) := fun o ho => by unfold rdV; rw [List.drop_zero, ho]; cases o <;> rfl
      have HRD := Aside.mk hrd
      clear hrd
      by_cases h9 : i = 9 ∧ X ≠ 1
      · have hi9 : ((i : Int) == 9) = true := by rw [h9.1]; rfl
        have hX1 : ((X : Int) == 1) = false := by rw [beq_eq_false_iff_ne]; omega
        have HZ : Aside (rdV L 0 = .bad 272) := ⟨by rw [HRD.out _ (HE.out.trans (if_pos (Or.inl h9)))]⟩
        clear h9
        have hAN := HAN.out
        go_wp2_with fail
        refine bodyPost_ret (v := .tuple #[.int .i64 0, .int .i64 0, .int .i64 272]) (by simp [results, Tryz.results29, go_sem]) rfl ⟨?_, rfl⟩
        exact (congrArg (fun o => Ending.returned (ansV o)) HZ.out).symm
      · obtain ⟨hYb, ha64, hU64⟩ := top_le (a := a) (X := X) HA.out (by omega) HYX.out hx256 h9
        have HOR := Aside.mk (or_bits' a Y i HA.out ha64 hYb)
        obtain ⟨U, hU⟩ : ∃ U, a + Y * 128 ^ i = U := ⟨_, rfl⟩
        rw [hU] at HOR hU64
        have HAND := Aside.mk (and1_u64 U hU64)
        have HXN := Aside.mk (xor_half hU64)
        have hWY : IntKind.u64.wrap (Y : Int) = (Y : Int) := by rw [wrap_u64]; omega
        have HSH := Aside.mk (wrap_half hU64)
        have HU := Aside.mk hU
        have HUB := Aside.mk hU64
        have H9 := Aside.mk h9
        clear hYb ha64 hU hU64 h9
        have hg9 : ((i : Int) == 9) = false ∨ (((i : Int) == 9) = true ∧ ((X : Int) == 1) = true) := by
          by_cases h : i = 9
          · right
            have : X = 1 := by have := H9.out; omega
            exact ⟨by rw [h]; rfl, by rw [this]; rfl⟩
          · left; rw [beq_eq_false_iff_ne]; omega
        by_cases hX : X < 128
        · have d128 : decide ((X : Int) < 128) = true := by simp; omega
          by_cases hi0 : 0 < i ∧ X = 0
          · have di : decide ((0 : Int) < (i : Int)) = true := by simp; omega
            have di' : decide (0 < i) = true := by simp; omega
            have dx : ((X : Int) == 0) = true := by rw [hi0.2]; rfl
            have HZ : Aside (rdV L 0 = .bad 272) := ⟨by rw [HRD.out _ (HE.out.trans (if_pos (Or.inr hi0)))]⟩
            clear hi0 hX
            rcases hg9 with hg | ⟨hg, hg'⟩
            · have hAN := HAN.out; have hor := HOR.out; have hand := HAND.out; have hxn := HXN.out; have hsh := HSH.out
              go_wp2_with fail
              refine bodyPost_ret (v := .tuple #[.int .i64 0, .int .i64 0, .int .i64 272]) (by simp [results, Tryz.results29, go_sem]) rfl ⟨?_, rfl⟩
              exact (congrArg (fun o => Ending.returned (ansV o)) HZ.out).symm
            · exfalso
              rw [beq_iff_eq] at hg' dx
              omega
          · have hgi : (decide ((0 : Int) < (i : Int)) = false ∧ decide (0 < i) = false) ∨ ((decide ((0 : Int) < (i : Int)) = true ∧ decide (0 < i) = true) ∧ ((X : Int) == 0) = false) := by
              by_cases h : 0 < i
              · right; exact ⟨⟨by simp; omega, by simp; omega⟩, by rw [beq_eq_false_iff_ne]; omega⟩
              · left; exact ⟨by simp; omega, by simp; omega⟩
            have HZ : Aside (rdV L 0 = .ok (zag U) (i + 1)) := ⟨by
              have hno : ¬ ((i = 9 ∧ X ≠ 1) ∨ (0 < i ∧ X = 0)) := fun h => h.elim H9.out hi0
              rw [HRD.out _ (HE.out.trans ((if_neg hno).trans (if_pos hX)))]
              have : X = Y := by have := HYX.out; omega
              show Out.ok (zag (a + X * 128 ^ i)) (0 + (i + 1)) = _
              rw [this, HU.out, Nat.zero_add]⟩
            have hw1 := wrap_succ i (by omega)
            clear hi0 hX
            by_cases hU : U % 2 = 1
            · rw [hU] at HAND
              have HZG : Aside (zag U = -((U : Int) / 2) - 1) := ⟨by exact zag_odd hU⟩
              clear hU
              rcases hg9 with hg | ⟨hg, hg'⟩ <;> rcases hgi with ⟨hq, hq'⟩ | ⟨⟨hq, hq'⟩, hq2⟩
              all_goals
                have hAN := HAN.out; have hor := HOR.out; have hand := HAND.out; have hxn := HXN.out; have hsh := HSH.out
                go_wp2_with fail
                refine bodyPost_ret (v := .tuple #[.int .i64 (-((U : Int) / 2) - 1), .int .i64 ((i + 1 : Nat) : Int), .int .i64 0]) (by simp [results, Tryz.results29, go_sem, hsh, hxn]) rfl ⟨?_, rfl⟩
                exact (congrArg (fun o => Ending.returned (ansV o)) (HZ.out.trans (by rw [HZG.out]))).symm
            · have hU0 := mod2 hU
              rw [hU0] at HAND
              have HZG : Aside (zag U = (U : Int) / 2) := ⟨by exact zag_even hU0⟩
              clear hU hU0
              rcases hg9 with hg | ⟨hg, hg'⟩ <;> rcases hgi with ⟨hq, hq'⟩ | ⟨⟨hq, hq'⟩, hq2⟩
              all_goals
                have hAN := HAN.out; have hor := HOR.out; have hand := HAND.out; have hxn := HXN.out; have hsh := HSH.out
                go_wp2_with fail
                refine bodyPost_ret (v := .tuple #[.int .i64 ((U : Int) / 2), .int .i64 ((i + 1 : Nat) : Int), .int .i64 0]) (by simp [results, Tryz.results29, go_sem, hsh, hxn]) rfl ⟨?_, rfl⟩
                exact (congrArg (fun o => Ending.returned (ansV o)) (HZ.out.trans (by rw [HZG.out]))).symm
        · have d128 : decide ((X : Int) < 128) = false := by simp; omega
          have hi9 : i ≠ 9 := by have := H9.out; omega
          have hg : ((i : Int) == 9) = false := by rw [beq_eq_false_iff_ne]; omega
          have hnx : Aside (dec (L.drop (i + 1)) (i + 1) U = dec L 0 0) := ⟨by
            have hno : ¬ ((i = 9 ∧ X ≠ 1) ∨ (0 < i ∧ X = 0)) := fun h => by omega
            rw [HE.out, if_neg hno, if_neg hX, HYX.out, HU.out]⟩
          have hUl : Aside (U < 128 ^ (i + 1)) := ⟨by rw [← HU.out]; exact next_lt HA.out (by omega)⟩
          have hw1 := wrap_succ i (by omega)
          clear hg9 hX
          have hAN := HAN.out; have hor := HOR.out; have hand := HAND.out; have hxn := HXN.out; have hsh := HSH.out
          go_wp2_with fail
          clear hAN hor hand hxn hsh
          obtain ⟨go, hgo⟩ : ∃ go, gk = go + 1 := ⟨gk - 1, by omega⟩
          go_roundg go
          case measure => omega
          case rel => exact ⟨i + 1, U, rfl, by go_num, by omega, hUl, hnx, ⟨by have := HLT.out; have := HN.out; omega⟩, rfl⟩
/-- the reference's Varint -/
def ansB (o : Out Int) : Value := match o with
  | .ok n q => .tuple #[.int .i64 n, .int .i64 (q : Nat), .bool true]
  | .bad _ => .tuple #[.int .i64 0, .int .i64 0, .bool false]
set_option maxRecDepth 100000 in
theorem rVarint_txt (w : World) (v : Value) (L : List UInt8) (h : Txt w v L) (hL : Aside (L.length < 1000000000)) :
    Calls Tryz.prog 10 #[v] w fun e w' => e = .returned (ansB (rdV L 0)) ∧ w = w' := by
  have hc := rvarint_any w v L h hL
  obtain ⟨ao, cap, rfl, -, -, -, -⟩ := h
  obtain ⟨n, hn⟩ : ∃ n, L.length = n := ⟨_, rfl⟩
  rw [hn] at hc ⊢
  clear hn hL
  cases ho : rdV L 0 with
  | ok n q =>
    rw [ho] at hc
    clear ho
    go_enter Tryz.func10, Tryz.ntmps10
    go_wp2_with fail
    refine hc.mono ?_
    rintro e w1 ⟨rfl, rfl⟩
    unfold ansV
    go_wp2_with fail
    refine bodyPost_ret (v := .tuple #[.int .i64 n, .int .i64 (q : Nat), .bool true]) (by simp [results, Tryz.results10, go_sem]) rfl ⟨rfl, rfl⟩
  | bad k =>
    have hk := rdV_errs L 0 k ho
    rw [ho] at hc
    clear ho
    have hk0 : (k == 0) = false := by rw [beq_eq_false_iff_ne]; omega
    go_enter Tryz.func10, Tryz.ntmps10
    go_wp2_with fail
    refine hc.mono ?_
    rintro e w1 ⟨rfl, rfl⟩
    unfold ansV
    go_wp2_with fail
    refine bodyPost_ret (v := .tuple #[.int .i64 0, .int .i64 0, .bool false]) (by simp [results, Tryz.results10, go_sem]) rfl ⟨rfl, rfl⟩
end Go.Proofs.YteljhjljigbcjaaGreatDoor.Cv
