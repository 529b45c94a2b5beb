/- FixedFormatMatchesReference: the walk. -/
import Derived.Test.YtbijolohpfkihaaDoorFxK
import Derived.Test.YtbijolohpfkihaaDoorFxG
set_option linter.unusedVariables false
namespace Go.Proofs.YtbijolohpfkihaaDoor.Fx
open Go.RowKit Go.Proofs.YtbijolohpfkihaaDoorW.PrintWords

set_option maxRecDepth 100000 in
set_option maxHeartbeats 2000000 in
theorem FixedFormatMatchesReference_walk (a : Int) (s : ByteArray) (wa : (Lit.int .i64 a).wf = true) (wsz : s.size ≤ maxLen) (w : World) (ht : Tabs w) :
    Calls Tryd.prog 4 #[.int .i64 a, .string s] w fun e w' => e = .returned (.bool true) ∧ Below w.heap.size w w' := by
  unfold maxLen at wsz
  obtain ⟨A, hA⟩ : ∃ A, anyN a = A := ⟨_, rfl⟩
  have hA1 := anyN_bd a
  rw [hA] at hA1
  obtain ⟨hA1, hA2⟩ := hA1
  have HA := Aside0.mk hA
  clear hA wa
  obtain ⟨m, hm⟩ : ∃ m : Nat, min (s.size : Int) 60 = (m : Int) := ⟨min s.size 60, by omega⟩
  have hm1 : m ≤ s.size := by omega
  have hm2 : m ≤ 60 := by omega
  have hsz : (s.extract 0 m).size ≤ 60 := by rw [ByteArray.size_extract]; omega
  have HSZ := Aside0.mk hsz
  clear hsz
  go_enter Tryd.func4, Tryd.ntmps4
  go_wp2_with fail
  refine (sanity_any _ ht).mono ?_
  rintro e w1 ⟨rfl, hb⟩
  go_wp2_with fail
  refine (Any_any a _).mono ?_
  rintro e w' ⟨rfl, rfl⟩
  rw [HA.out]
  go_wp2_with fail
  refine (Parse_any _ _ (by have := HSZ.out; omega) (ht.below hb)).mono ?_
  rintro e w2 ⟨rfl, hb2⟩
  replace hb := below_next hb hb2
  clear hb2
  obtain ⟨r1, r2, r3, r4, hr⟩ : ∃ r1 r2 r3 r4, tup4 (parseL (s.extract 0 m).data.toList) = .tuple #[.int .i64 r1, .int .i64 r2, .int .i64 r3, .int .i64 r4] := ⟨_, _, _, _, rfl⟩
  have HR := Aside0.mk hr
  rw [hr]
  clear hr
  go_wp2_with fail
  refine (toVal (RParse_any _ _ (by have := HSZ.out; omega)) HR.out).mono ?_
  rintro e w1 ⟨rfl, hb2⟩
  replace hb := below_next hb hb2
  clear hb2
  go_wp2_with fail
  refine (Format_any A _ hA1 hA2 (ht.below hb)).mono ?_
  rintro e w2 ⟨rfl, hb2⟩
  replace hb := below_next hb hb2
  clear hb2
  go_wp2_with fail
  refine (RFormat_any A _ hA1 hA2).mono ?_
  rintro e w1 ⟨rfl, hb2⟩
  replace hb := below_next hb hb2
  clear hb2
  go_wp2
  go_ret
  exact ⟨rfl, hb⟩
end Go.Proofs.YtbijolohpfkihaaDoor.Fx
