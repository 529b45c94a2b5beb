/- Contracts of the decoder's methods number, bytes, entry, end. -/
import Derived.Test.YteljhjljigbcjaaGreatDoorCvD
set_option linter.unusedVariables false
namespace Go.Proofs.YteljhjljigbcjaaGreatDoor.Cv
open Go.RowKit

set_option maxRecDepth 100000 in
set_option maxHeartbeats 1000000 in
theorem number_any (lo hi : Int) (w : World) (g p : Nat) (v : Value) (L : List UInt8) (h : Src w g p v L) (hL : Aside (L.length < 1000000000)) :
    Calls Tryz.prog 44 #[.pointer (some ⟨g, 0, none⟩), .int .i64 lo, .int .i64 hi] w fun e w' => Ans w g L (rdN lo hi L p) (fun n u _ => u = .int .i64 n) e w' := by
  cases ho : rdV L p with
  | bad k =>
    have hr : rdN lo hi L p = .bad k := by simp [rdN, Dc.bind, ho]
    have HR := Aside.mk hr
    clear hr
    go_enter Tryz.func44, Tryz.ntmps44
    go_wp2_with (go_at_call 28; refine (varint_any w g p v L h hL).mono ?_; rintro e w1 ⟨q, hq, hm, hv⟩; rw [ho] at hv; obtain rfl := hv)
    refine ⟨rfl, q, hq, hm, ?_⟩
    rw [HR.out]
  | ok n q =>
    have hr : rdN lo hi L p = if n < lo ∨ hi < n then .bad 272 else .ok n q := by simp only [rdN, Dc.bind, ho]
    have HR := Aside.mk hr
    clear hr
    by_cases h1 : n < lo
    · go_enter Tryz.func44, Tryz.ntmps44
      go_wp2_with (first | (go_at_call 28; refine (varint_any w g p v L h hL).mono ?_; rintro e w1 ⟨q', hq, hm, hv⟩; rw [ho] at hv; obtain ⟨rfl, u, rfl, rfl⟩ := hv) | (go_at_call 50; refine (fail_any _ _ _).mono ?_; rintro e w1 ⟨rfl, rfl⟩))
      refine ⟨rfl, _, hq, hm, ?_⟩
      rw [HR.out, if_pos (Or.inl h1)]
    · by_cases h2 : hi < n
      · go_enter Tryz.func44, Tryz.ntmps44
        go_wp2_with (first | (go_at_call 28; refine (varint_any w g p v L h hL).mono ?_; rintro e w1 ⟨q', hq, hm, hv⟩; rw [ho] at hv; obtain ⟨rfl, u, rfl, rfl⟩ := hv) | (go_at_call 50; refine (fail_any _ _ _).mono ?_; rintro e w1 ⟨rfl, rfl⟩))
        refine ⟨rfl, _, hq, hm, ?_⟩
        rw [HR.out, if_pos (Or.inr h2)]
      · go_enter Tryz.func44, Tryz.ntmps44
        go_wp2_with (first | (go_at_call 28; refine (varint_any w g p v L h hL).mono ?_; rintro e w1 ⟨q', hq, hm, hv⟩; rw [ho] at hv; obtain ⟨rfl, u, rfl, rfl⟩ := hv) | (go_at_call 50; refine (fail_any _ _ _).mono ?_; rintro e w1 ⟨rfl, rfl⟩))
        go_ret
        refine ⟨_, hq, hm, ?_⟩
        rw [HR.out, if_neg (by omega)]
        exact ⟨rfl, _, rfl, rfl⟩
end Go.Proofs.YteljhjljigbcjaaGreatDoor.Cv
