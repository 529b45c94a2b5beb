/- armillarylaw01.sanity answers true. -/
import Derived.Test.YtbijolohpfkihaaDoorFxS
import Derived.Test.YtbijolohpfkihaaDoorFxF
import Derived.Test.YtbijolohpfkihaaDoorFxR
set_option linter.unusedVariables false
namespace Go.Proofs.YtbijolohpfkihaaDoor.Fx
open Go.RowKit Go.Proofs.YtbijolohpfkihaaDoorW.PrintWords

/-- a contract's world, by the frame alone -/
theorem toBelow {P : Program} {f : Nat} {args : Array Value} {w : World} {v v' : Value} (h : Calls P f args w fun e w' => e = .returned v ∧ Drawn0 w w') (hv : v = v') :
    Calls P f args w fun e w' => e = .returned v' ∧ Below w.heap.size w w' :=
  h.mono fun _ _ ⟨e, k⟩ => ⟨by rw [e, hv], k.below⟩
theorem toVal {P : Program} {f : Nat} {args : Array Value} {w : World} {v v' : Value} (h : Calls P f args w fun e w' => e = .returned v ∧ Below w.heap.size w w') (hv : v = v') :
    Calls P f args w fun e w' => e = .returned v' ∧ Below w.heap.size w w' :=
  h.mono fun _ _ ⟨e, k⟩ => ⟨by rw [e, hv], k⟩

theorem dd (u : Nat) (h : u < 10) : Lib.decDigits u = [UInt8.ofNat (48 + u)] := by unfold Lib.decDigits; rw [dif_pos h]
theorem isq_a : isq (131072 * 65536) = 92681 := isq_unique (by omega) (by omega) (by omega)
theorem isq_b : isq (262144 * 65536) = 131072 := isq_unique (by omega) (by omega) (by omega)
theorem rup_a : rup (131072 * 65536) = 92682 := by unfold rup; rw [isq_a]; decide
theorem rup_b : rup (262144 * 65536) = 131072 := by unfold rup; rw [isq_b]; decide
theorem fmt_a : fmtL (-98304) = [45, 49, 46, 53] := by
  have e1 : fmtL (-98304) = 45 :: fmtP 98304 := rfl
  have e2 : fmtP 98304 = Lib.decDigits 1 ++ 46 :: fracL 16 32768 := rfl
  rw [e1, e2, dd 1 (by omega)]; rfl
theorem fmt_b : fmtL 0 = [48] := by
  have e1 : fmtL 0 = fmtP 0 := rfl
  have e2 : fmtP 0 = Lib.decDigits 0 ++ [] := rfl
  rw [e1, e2, dd 0 (by omega)]; rfl
theorem fmt_c : fmtL 1 = [48, 46, 48, 48, 48, 48, 49, 53, 50, 53, 56, 55, 56, 57, 48, 54, 50, 53] := by
  have e1 : fmtL 1 = fmtP 1 := rfl
  have e2 : fmtP 1 = Lib.decDigits 0 ++ 46 :: fracL 16 1 := rfl
  rw [e1, e2, dd 0 (by omega)]; rfl
theorem par_a : parseL [48, 46, 49] = (6553, 6554, 0, 0) := by decide +kernel
theorem par_b : parseL [45, 49, 46, 53] = (-98304, -98304, 0, 0) := by decide +kernel
theorem par_c : parseL [49, 46] = (0, 0, 2, 10) := by decide +kernel
theorem par_d : parseL [45, 120] = (0, 0, 1, 10) := by decide +kernel
theorem par_e : parseL [51, 50, 55, 54, 56] = (0, 0, 0, 2) := by decide +kernel

theorem below_next {w w1 w2 : World} (h : Below w.heap.size w w1) (k : Below w1.heap.size w1 w2) : Below w.heap.size w w2 := h.trans (k.mono h.size)

set_option maxRecDepth 100000 in
set_option maxHeartbeats 4000000 in
theorem sanity_any (w : World) (ht : Tabs w) :
    Calls Tryd.prog 12 #[] w fun e w' => e = .returned (.bool true) ∧ Below w.heap.size w w' := by
  go_enter Tryd.func12, Tryd.ntmps12
  go_wp2_with fail
  refine (toBelow (v' := .tuple #[.int .i64 0, .int .i64 1]) (Mul_any 1 1 _ (by omega) (by omega) (by omega) (by omega)) rfl).mono ?_
  rintro e w1 ⟨rfl, hb⟩
  go_wp2_with fail
  refine (toBelow (v' := .tuple #[.int .i64 (-196608), .int .i64 (-196608)]) (Mul_any (-98304) 131072 _ (by omega) (by omega) (by omega) (by omega)) rfl).mono ?_
  rintro e w2 ⟨rfl, hb2⟩
  replace hb := below_next hb hb2
  clear hb2
  go_wp2_with fail
  refine (toBelow (v' := .tuple #[.int .i64 21845, .int .i64 21846, .int .i64 0]) (Div_any 65536 196608 _ (by omega) (by omega) (by omega) (by omega) (by omega)) rfl).mono ?_
  rintro e w1 ⟨rfl, hb2⟩
  replace hb := below_next hb hb2
  clear hb2
  go_wp2_with fail
  refine (toBelow (v' := .tuple #[.int .i64 (-21846), .int .i64 (-21845), .int .i64 0]) (Div_any (-65536) 196608 _ (by omega) (by omega) (by omega) (by omega) (by omega)) rfl).mono ?_
  rintro e w2 ⟨rfl, hb2⟩
  replace hb := below_next hb hb2
  clear hb2
  go_wp2_with fail
  refine (toBelow (Div_zero 1 _) rfl).mono ?_
  rintro e w1 ⟨rfl, hb2⟩
  replace hb := below_next hb hb2
  clear hb2
  go_wp2_with fail
  refine (toBelow (v' := .tuple #[.int .i64 92681, .int .i64 92682, .int .i64 0]) (Sqrt_any 131072 _ (by omega) (by omega)) (by rw [isq_a, rup_a])).mono ?_
  rintro e w2 ⟨rfl, hb2⟩
  replace hb := below_next hb hb2
  clear hb2
  go_wp2_with fail
  refine (toBelow (v' := .tuple #[.int .i64 131072, .int .i64 131072, .int .i64 0]) (Sqrt_any 262144 _ (by omega) (by omega)) (by rw [isq_b, rup_b])).mono ?_
  rintro e w1 ⟨rfl, hb2⟩
  replace hb := below_next hb hb2
  clear hb2
  go_wp2_with fail
  refine (toBelow (Sqrt_neg (-1) _ (by omega)) rfl).mono ?_
  rintro e w2 ⟨rfl, hb2⟩
  replace hb := below_next hb hb2
  clear hb2
  go_wp2_with fail
  refine (toBelow (v' := .tuple #[.int .i64 (-4), .int .i64 (-3), .int .i64 0]) (MulRatio_any 7 (-1) 2 _ (by omega) (by omega) (by omega) (by omega) (by omega) (by omega)) rfl).mono ?_
  rintro e w1 ⟨rfl, hb2⟩
  replace hb := below_next hb hb2
  clear hb2
  go_wp2_with fail
  refine (toBelow (MulRatio_bad 7 1 0 _ (by omega)) rfl).mono ?_
  rintro e w2 ⟨rfl, hb2⟩
  replace hb := below_next hb hb2
  clear hb2
  go_wp2_with fail
  refine (toVal (v' := .tuple #[.int .i64 6553, .int .i64 6554, .int .i64 0, .int .i64 0]) (Parse_any ⟨#[48, 46, 49]⟩ _ (by decide) (ht.below hb)) (congrArg tup4 par_a)).mono ?_
  rintro e w1 ⟨rfl, hb2⟩
  replace hb := below_next hb hb2
  clear hb2
  go_wp2_with fail
  refine (toVal (v' := .tuple #[.int .i64 (-98304), .int .i64 (-98304), .int .i64 0, .int .i64 0]) (Parse_any ⟨#[45, 49, 46, 53]⟩ _ (by decide) (ht.below hb)) (congrArg tup4 par_b)).mono ?_
  rintro e w2 ⟨rfl, hb2⟩
  replace hb := below_next hb hb2
  clear hb2
  go_wp2_with fail
  refine (toVal (v' := .tuple #[.int .i64 0, .int .i64 0, .int .i64 2, .int .i64 10]) (Parse_any ⟨#[49, 46]⟩ _ (by decide) (ht.below hb)) (congrArg tup4 par_c)).mono ?_
  rintro e w1 ⟨rfl, hb2⟩
  replace hb := below_next hb hb2
  clear hb2
  go_wp2_with fail
  refine (toVal (v' := .tuple #[.int .i64 0, .int .i64 0, .int .i64 1, .int .i64 10]) (Parse_any ⟨#[45, 120]⟩ _ (by decide) (ht.below hb)) (congrArg tup4 par_d)).mono ?_
  rintro e w2 ⟨rfl, hb2⟩
  replace hb := below_next hb hb2
  clear hb2
  go_wp2_with fail
  refine (toVal (v' := .tuple #[.int .i64 0, .int .i64 0, .int .i64 0, .int .i64 2]) (Parse_any ⟨#[51, 50, 55, 54, 56]⟩ _ (by decide) (ht.below hb)) (congrArg tup4 par_e)).mono ?_
  rintro e w1 ⟨rfl, hb2⟩
  replace hb := below_next hb hb2
  clear hb2
  go_wp2_with fail
  refine (toBelow (Valid_yes 2147483647 _ (by omega) (by omega)) rfl).mono ?_
  rintro e w2 ⟨rfl, hb2⟩
  replace hb := below_next hb hb2
  clear hb2
  go_wp2_with fail
  refine (toBelow (Valid_no 2147483648 _ (by omega)) rfl).mono ?_
  rintro e w1 ⟨rfl, hb2⟩
  replace hb := below_next hb hb2
  clear hb2
  go_wp2_with fail
  refine (toBelow (v' := .bool false) (Valid_any (-2147483648) _) rfl).mono ?_
  rintro e w2 ⟨rfl, hb2⟩
  replace hb := below_next hb hb2
  clear hb2
  go_wp2_with fail
  refine (toVal (v' := .string ⟨#[45, 49, 46, 53]⟩) (Format_any (-98304) _ (by omega) (by omega) (ht.below hb)) (by rw [fmt_a])).mono ?_
  rintro e w1 ⟨rfl, hb2⟩
  replace hb := below_next hb hb2
  clear hb2
  go_wp2_with fail
  refine (toVal (v' := .string ⟨#[48]⟩) (Format_any 0 _ (by omega) (by omega) (ht.below hb)) (by rw [fmt_b])).mono ?_
  rintro e w2 ⟨rfl, hb2⟩
  replace hb := below_next hb hb2
  clear hb2
  go_wp2_with fail
  refine (toVal (v' := .string ⟨#[48, 46, 48, 48, 48, 48, 49, 53, 50, 53, 56, 55, 56, 57, 48, 54, 50, 53]⟩) (Format_any 1 _ (by omega) (by omega) (ht.below hb)) (by rw [fmt_c])).mono ?_
  rintro e w1 ⟨rfl, hb2⟩
  replace hb := below_next hb hb2
  clear hb2
  go_wp2
  go_ret
  exact ⟨rfl, hb⟩
end Go.Proofs.YtbijolohpfkihaaDoor.Fx
