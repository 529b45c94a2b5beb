/- Contract of fixed.Sqrt. -/
import Derived.Test.YtbijolohpfkihaaDoorFxA
import Derived.Test.YtbijolohpfkihaaDoorFxM
import Derived.Test.YtbijolohpfkihaaDoorShelf
import Derived.Lib.BitFns
import Derived.Deep.LoopGhost
import Derived.WalkMore
import Derived.Outline
set_option linter.unusedVariables false
namespace Go.Proofs.YtbijolohpfkihaaDoor.Fx
open Go.RowKit Go.Proofs.YtbijolohpfkihaaDoorW.PrintWords

theorem Sqrt_neg (a : Int) (w : World) (h : a < 0) :
    Calls Tryd.prog 20 #[.int .i64 a] w fun e w' => e = .returned (.tuple #[.int .i64 0, .int .i64 0, .int .i64 4]) ∧ Drawn0 w w' := by
  go_enter Tryd.func20, Tryd.ntmps20
  go_wp2
  go_step3
  go_wp2
  rw [Exit.noGoto_ret]
  go_ret3
  exact ⟨rfl, Drawn0.refl _⟩
theorem Sqrt_zero (w : World) :
    Calls Tryd.prog 20 #[.int .i64 0] w fun e w' => e = .returned (.tuple #[.int .i64 0, .int .i64 0, .int .i64 0]) ∧ Drawn0 w w' := by
  go_enter Tryd.func20, Tryd.ntmps20
  go_wp2
  go_step3
  go_wp2
  rw [Exit.noGoto_ret]
  go_ret3
  exact ⟨rfl, Drawn0.refl _⟩
theorem bitLen_lt {x : Nat} (h : x < 140737488355328) : x < 2 ^ Lib.bitLen x := by
  have key : ∀ f y : Nat, y < 2 ^ f → y < 2 ^ Lib.bitLenAux f y := by
    intro f
    induction f with
    | zero => intro y hy; simp [Lib.bitLenAux]; simpa using hy
    | succ f ih =>
      intro y hy
      unfold Lib.bitLenAux
      split
      · subst_vars; simp
      · have h1 := ih (y / 2) (by rw [Nat.pow_succ] at hy; omega)
        rw [Nat.add_comm 1, Nat.pow_succ]; omega
  exact key 64 x (by omega)
theorem bitLen_le {x : Nat} (h : x < 140737488355328) : Lib.bitLen x ≤ 47 := by
  have key : ∀ f y k : Nat, y < 2 ^ k → Lib.bitLenAux f y ≤ k := by
    intro f
    induction f with
    | zero => intro y k _; simp [Lib.bitLenAux]
    | succ f ih =>
      intro y k hy
      unfold Lib.bitLenAux
      split
      · omega
      · match k, hy with
        | 0, hy => simp at hy; omega
        | k + 1, hy =>
          have h1 := ih (y / 2) k (by rw [Nat.pow_succ] at hy; omega)
          omega
  exact key 64 x 47 (by omega)
theorem Len64_any (x : Int) (w : World) (h0 : 65536 ≤ x) (h1 : x < 140737488355328) :
    Calls Tryd.prog 34 #[.int .u64 x] w fun e w' => ∃ L : Int, e = .returned (.int .i64 L) ∧ w = w' ∧ 0 ≤ L ∧ L ≤ 47 ∧ x < 2 ^ L.toNat := by
  refine (Tryd.bits_Len64 x w (by omega) (by omega)).mono ?_
  rintro e w' ⟨rfl, rfl⟩
  have hx : x.toNat < 140737488355328 := by omega
  refine ⟨_, rfl, rfl, by omega, by have := bitLen_le hx; omega, ?_⟩
  have := bitLen_lt hx
  rw [Int.toNat_natCast]
  have e : x = (x.toNat : Int) := by omega
  rw [e]
  exact_mod_cast this
/-- Newton's start lies at or above the root. -/
theorem start_above {n L : Int} (hn : 0 ≤ n) (h0 : 0 ≤ L) (h1 : L ≤ 47) (h : n < 2 ^ L.toNat) :
    ∃ x0 : Int, wrap64 (2 ^ ((L + 1) / 2).toNat) = x0 ∧ 0 < x0 ∧ x0 ≤ 16777216 ∧ isq n ≤ x0 := by
  obtain ⟨l, rfl⟩ := Int.eq_ofNat_of_zero_le h0
  have e1 : (((l : Int) + 1) / 2).toNat = (l + 1) / 2 := by omega
  rw [e1, Int.toNat_natCast] at *
  have hp : (2 : Int) ^ ((l + 1) / 2) ≤ 16777216 := by
    have : (2 : Nat) ^ ((l + 1) / 2) ≤ 2 ^ 24 := Nat.pow_le_pow_right (by omega) (by omega)
    rw [show (16777216 : Int) = ((2 ^ 24 : Nat) : Int) from by decide]
    exact_mod_cast this
  have hp0 : (0 : Int) < 2 ^ ((l + 1) / 2) := by
    have : (0 : Nat) < 2 ^ ((l + 1) / 2) := Nat.pow_pos (by omega)
    exact_mod_cast this
  refine ⟨2 ^ ((l + 1) / 2), by unfold wrap64; omega, hp0, hp, ?_⟩
  refine isq_le_of_lt_sq hn (by omega) ?_
  have : (2 : Nat) ^ l ≤ 2 ^ ((l + 1) / 2) * 2 ^ ((l + 1) / 2) := by
    rw [← Nat.pow_add]; exact Nat.pow_le_pow_right (by omega) (by omega)
  have h3 : (2 : Int) ^ l ≤ 2 ^ ((l + 1) / 2) * 2 ^ ((l + 1) / 2) := by exact_mod_cast this
  have h4 := sq_le (a := (2 : Int) ^ ((l + 1) / 2)) (b := 2 ^ ((l + 1) / 2) + 1) (by omega) (by omega)
  omega
theorem Sqrt_pos (a : Int) (w : World) (h : 0 < a) (h2 : a < 2147483648) :
    Calls Tryd.prog 20 #[.int .i64 a] w fun e w' => e = .returned (.tuple #[.int .i64 (isq (a * 65536)), .int .i64 (rup (a * 65536)), .int .i64 0]) ∧ Drawn0 w w' := by
  have hz : (a * 65536 == 0) = false := by simp; omega
  go_enter Tryd.func20, Tryd.ntmps20
  go_wp2
  go_step3
  go_wp2_with (first | (go_at_call 34; refine (Len64_any (a * 65536) _ (by omega) (by omega)).mono ?_; rintro e w' ⟨L, rfl, rfl, hL1, hL2, hL⟩))
  obtain ⟨x0, hx0, hx1, hx2, hx3⟩ := start_above (n := a * 65536) (by omega) hL1 hL2 hL
  rw [hx0]
  clear hL hx0
  go_step3
  go_wp2
  go_loopg [6] 16777217 (fun g x wr => ∃ v : Int, x = .int .i64 v ∧ v < g ∧ 0 < v ∧ v ≤ 16777216 ∧ isq (a * 65536) ≤ v ∧ w = wr)
  case atStart => exact ⟨x0, rfl, by omega, hx1, hx2, hx3, rfl⟩
  case round =>
    obtain ⟨v, rfl, hv1, hv2, hv3, hv4, rfl⟩ := hrel
    have hq0 : 0 ≤ a * 65536 / v := Int.ediv_nonneg (by omega) (by omega)
    have hq1 : a * 65536 / v ≤ a * 65536 := Int.ediv_le_self _ (by omega)
    have habove := newton_above (n := a * 65536) (x := v) (by omega) hv2
    have hsn := isq_nonneg (a * 65536)
    have hs1 : 1 ≤ isq (a * 65536) := by
      have hsp := (isq_spec (n := a * 65536) (by omega)).2
      rcases Int.lt_or_le (isq (a * 65536)) 1 with g | g
      · have e0 : isq (a * 65536) = 0 := by omega
        rw [e0] at hsp; omega
      · exact g
    by_cases hge : v ≤ (v + a * 65536 / v) / 2
    · have hs := newton_stop (n := a * 65536) (by omega) hv2 hv4 hge
      have hvv0 : 0 ≤ v * v := Int.mul_nonneg (by omega) (by omega)
      have hvv1 : v * v ≤ 281474976710656 := by have := sq_le (a := v) (b := 16777216) (by omega) hv3; omega
      by_cases hlt : v * v < a * 65536
      · have hr : rup (a * 65536) = v + 1 := by unfold rup; rw [hs, if_pos hlt]
        have HR := Lib.hid hr
        have HS := Lib.hid hs
        clear hs hr
        go_wp2
        try rw [Exit.noGoto_ret]
        go_ret3
        rw [HS.out, HR.out]
        exact ⟨rfl, Drawn0.refl _⟩
      · have hr : rup (a * 65536) = v := by unfold rup; rw [hs, if_neg hlt]
        have HR := Lib.hid hr
        have HS := Lib.hid hs
        clear hs hr
        go_wp2
        try rw [Exit.noGoto_ret]
        go_ret3
        rw [HS.out, HR.out]
        exact ⟨rfl, Drawn0.refl _⟩
    · go_wp2
      go_roundg ((v + a * 65536 / v) / 2).toNat.succ
      case measure => omega
      case rel => exact ⟨_, rfl, by omega, by omega, by omega, habove, rfl⟩
theorem isq_zero : isq 0 = 0 := isq_unique (by omega) (by omega) (by omega)
/-- fixed.Sqrt at every number from 0 on. -/
theorem Sqrt_any (a : Int) (w : World) (h : 0 ≤ a) (h2 : a < 2147483648) :
    Calls Tryd.prog 20 #[.int .i64 a] w fun e w' => e = .returned (.tuple #[.int .i64 (isq (a * 65536)), .int .i64 (rup (a * 65536)), .int .i64 0]) ∧ Drawn0 w w' := by
  rcases Int.lt_or_eq_of_le h with h | h
  · exact Sqrt_pos a w h h2
  · subst h
    rw [show (0 : Int) * 65536 = 0 from rfl, show rup 0 = 0 from by unfold rup; rw [isq_zero]; rfl, isq_zero]
    exact Sqrt_zero w
end Go.Proofs.YtbijolohpfkihaaDoor.Fx
