/- OhG -/
import Derived.Laws.BytesArg
import Derived.Deep.WholeRow
import Derived.Test.YthcidkidpiaomaaGreatDoorKb33
import Derived.Test.YthcidkidpiaomaaGreatDoorKc01
import Derived.Test.YthcidkidpiaomaaGreatDoorKb34
import Derived.Test.YthcidkidpiaomaaGreatDoorKc02
section
set_option linter.unusedVariables false
set_option linter.unusedSimpArgs false
namespace Go.Proofs.YthcidkidpiaomaaGreatDoor.Od
open Go.RowKit Rg
theorem conv_row {w : World} {g : Nat} {L : List UInt8} {m : Nat × Nat} (h : w.heap[g]? = some (.cells (Lib.byteCells L).toArray 5 m)) (n cap : Nat) (hn : L.length = n) : (convert 70 9 (.slice (some ⟨g, 0, none⟩) n cap)).run Tryz.prog w = .ok (.string ⟨L.toArray⟩) w := by
  subst hn
  rw [run_convert_bytes_string w _ _ 5 _ _ _ Tryz.underlying70 Tryz.underlying5 Tryz.underlying9]
  have hl : (loadCells ⟨g, 0, none⟩ L.length).run Tryz.prog w = .ok ((L.map fun b => (b.toNat : Int)).map (Value.int .u8)).toArray w := by
    have := run_loadCells_list (P := Tryz.prog) w ⟨g, 0, none⟩ (Lib.byteCells L) (fun j u hu => by
      have hj := (List.getElem?_eq_some_iff.1 hu).1
      have e : (⟨g, 0, none⟩ : Addr).add j = ⟨g, j, none⟩ := by unfold Addr.add; split <;> simp_all
      rw [e, cell_of_row w _ j _ _ _ h]
      simpa using hu)
    simpa [Lib.byteCells, Function.comp_def] using this
  rw [run_bytesToString w ⟨g, 0, none⟩ _ cap _ hl, foldl_push_bytes]
  simp [List.map_map, Function.comp_def, ByteArray.empty, ByteArray.emptyWithCapacity]
  rfl
def dgB : ByteArray := ⟨#[48, 49, 50, 51, 52, 53, 54, 55, 56, 57]⟩
theorem dg_at (d : Nat) (h : d < 10) : ∃ V : Nat, (∀ DG : ByteArray, DG = dgB → (d : Int) < (DG.size : Int) ∧ ∀ h : d < DG.size, DG[d].toNat = V) ∧ V = 48 + d := by
  refine ⟨48 + d, ?_, rfl⟩
  rintro DG rfl
  refine ⟨by show (d : Int) < 10; omega, fun h => ?_⟩
  have hd := h
  rcases (show d = 0 ∨ d = 1 ∨ d = 2 ∨ d = 3 ∨ d = 4 ∨ d = 5 ∨ d = 6 ∨ d = 7 ∨ d = 8 ∨ d = 9 by have : dgB.size = 10 := rfl; omega) with rfl | rfl | rfl | rfl | rfl | rfl | rfl | rfl | rfl | rfl <;> rfl
set_option maxRecDepth 100000 in
set_option maxHeartbeats 8000000 in
theorem decimal_any (n : Nat) (hn : n < 100000) (w : World) : Calls Tryz.prog 50 #[.int .i64 (n : Nat)] w fun e w' => e = .returned (.string ⟨(dec2 n).toArray⟩) ∧ Below w.heap.size w w' := by
  obtain ⟨K, hKn⟩ : ∃ K, n / 100 = K := ⟨_, rfl⟩
  have hk : ((n : Int)).tdiv 100 = (K : Nat) := by rw [Int.tdiv_eq_ediv_of_nonneg (by omega)]; omega
  obtain ⟨A1, e1⟩ : ∃ A, K / 100 = A := ⟨_, rfl⟩
  obtain ⟨B1, f1⟩ : ∃ A, A1 % 10 = A := ⟨_, rfl⟩
  obtain ⟨A2, e2⟩ : ∃ A, K / 10 = A := ⟨_, rfl⟩
  obtain ⟨B2, f2⟩ : ∃ A, A2 % 10 = A := ⟨_, rfl⟩
  obtain ⟨B3, f3⟩ : ∃ A, K % 10 = A := ⟨_, rfl⟩
  obtain ⟨A4, e4⟩ : ∃ A, n / 10 = A := ⟨_, rfl⟩
  obtain ⟨B4, f4⟩ : ∃ A, A4 % 10 = A := ⟨_, rfl⟩
  obtain ⟨B5, f5⟩ : ∃ A, n % 10 = A := ⟨_, rfl⟩
  have hA1 : (K : Int).tdiv 100 = (A1 : Nat) := by rw [Int.tdiv_eq_ediv_of_nonneg (by omega)]; omega
  have hB1 : (A1 : Int).tmod 10 = (B1 : Nat) := by rw [Int.tmod_eq_emod_of_nonneg (by omega)]; omega
  have hA2 : (K : Int).tdiv 10 = (A2 : Nat) := by rw [Int.tdiv_eq_ediv_of_nonneg (by omega)]; omega
  have hB2 : (A2 : Int).tmod 10 = (B2 : Nat) := by rw [Int.tmod_eq_emod_of_nonneg (by omega)]; omega
  have hB3 : (K : Int).tmod 10 = (B3 : Nat) := by rw [Int.tmod_eq_emod_of_nonneg (by omega)]; omega
  have hA4 : (n : Int).tdiv 10 = (A4 : Nat) := by rw [Int.tdiv_eq_ediv_of_nonneg (by omega)]; omega
  have hB4 : (A4 : Int).tmod 10 = (B4 : Nat) := by rw [Int.tmod_eq_emod_of_nonneg (by omega)]; omega
  have hB5 : (n : Int).tmod 10 = (B5 : Nat) := by rw [Int.tmod_eq_emod_of_nonneg (by omega)]; omega
  obtain ⟨V1, g1, v1⟩ := dg_at B1 (by omega)
  obtain ⟨V2, g2, v2⟩ := dg_at B2 (by omega)
  obtain ⟨V3, g3, v3⟩ := dg_at B3 (by omega)
  obtain ⟨V4, g4, v4⟩ := dg_at B4 (by omega)
  obtain ⟨V5, g5, v5⟩ := dg_at B5 (by omega)
  obtain ⟨DG, hDG⟩ : ∃ DG, (⟨#[48, 49, 50, 51, 52, 53, 54, 55, 56, 57]⟩ : ByteArray) = DG := ⟨_, rfl⟩
  have hDG2 : DG = dgB := by rw [← hDG]; rfl
  obtain ⟨hq1, hX1⟩ := g1 DG hDG2
  obtain ⟨hq2, hX2⟩ := g2 DG hDG2
  obtain ⟨hq3, hX3⟩ := g3 DG hDG2
  obtain ⟨hq4, hX4⟩ := g4 DG hDG2
  obtain ⟨hq5, hX5⟩ := g5 DG hDG2
  replace hX1 := hX1 (Int.ofNat_lt.1 hq1)
  replace hX2 := hX2 (Int.ofNat_lt.1 hq2)
  replace hX3 := hX3 (Int.ofNat_lt.1 hq3)
  replace hX4 := hX4 (Int.ofNat_lt.1 hq4)
  replace hX5 := hX5 (Int.ofNat_lt.1 hq5)
  have HV : Aside (V1 = 48 + n / 100 / 100 % 10 ∧ V2 = 48 + n / 100 / 10 % 10 ∧ V3 = 48 + n / 100 % 10 ∧ V4 = 48 + n / 10 % 10 ∧ V5 = 48 + n % 10) := ⟨by omega⟩
  have HDG := Aside.mk hDG
  have hw : ∀ x : Nat, x ≤ 100000 → IntKind.i64.wrap (x : Int) = (x : Int) := fun x hx => by rw [IntKind.wrap_i64]; omega
  have wA1 := hw A1 (by omega)
  have wA2 := hw A2 (by omega)
  have wA4 := hw A4 (by omega)
  have wK : Aside (wrap64 (K : Int) = (K : Nat)) := ⟨by unfold wrap64; omega⟩
  have HC : Aside (∀ W2 : World, (convert 70 9 (.slice (some ⟨W2.heap.size, 0, none⟩) 6 6)).run Tryz.prog (W2.alloc (.cells #[.int .u8 (V1 : Nat), .int .u8 (V2 : Nat), .int .u8 (V3 : Nat), .int .u8 46, .int .u8 (V4 : Nat), .int .u8 (V5 : Nat)] 5)) = .ok (.string ⟨(dec2 n).toArray⟩) (W2.alloc (.cells #[.int .u8 (V1 : Nat), .int .u8 (V2 : Nat), .int .u8 (V3 : Nat), .int .u8 46, .int .u8 (V4 : Nat), .int .u8 (V5 : Nat)] 5))) := ⟨fun W2 => by
    refine conv_row (L := dec2 n) (m := (0, 0)) ?_ 6 6 rfl
    have hl := heap_alloc_last W2 (.cells #[.int .u8 (V1 : Nat), .int .u8 (V2 : Nat), .int .u8 (V3 : Nat), .int .u8 46, .int .u8 (V4 : Nat), .int .u8 (V5 : Nat)] 5)
    rw [hl]
    have d : ∀ x : Nat, x < 10 → ((UInt8.ofNat (48 + x)).toNat : Int) = ((48 + x : Nat) : Int) := fun x hx => by rw [Fx.toNat48 x hx]
    congr 3
    obtain ⟨z1, z2, z3, z4, z5⟩ := HV.out
    unfold dec2 Lib.byteCells
    simp only [List.map_cons, List.map_nil]
    rw [d _ (by omega), d _ (by omega), d _ (by omega), d _ (by omega), d _ (by omega), z1, z2, z3, z4, z5]
    rfl⟩
  clear g1 g2 g3 g4 g5 v1 v2 v3 v4 v5 e1 e2 e4 f1 f2 f3 f4 f5 hKn hDG2 hDG hw
  go_enter Tryz.func50, Tryz.ntmps50
  go_wp2_with fail
  try simp only [hk]
  simp only [wK.out]
  rw [HDG.out]
  refine region_list (T := tab2 [
      Sq.val (.string DG), Sq.val (.int .i64 (K : Nat)), Sq.val (.int .i64 (A1 : Nat)), Sq.val (.int .i64 (B1 : Nat)), Sq.val (.int .u8 (V1 : Nat)), Sq.val (.string DG), Sq.val (.int .i64 (K : Nat)), Sq.val (.int .i64 (A2 : Nat)), Sq.val (.int .i64 (B2 : Nat)), Sq.val (.int .u8 (V2 : Nat)), Sq.val (.string DG), Sq.val (.int .i64 (K : Nat)), Sq.val (.int .i64 (B3 : Nat)), Sq.val (.int .u8 (V3 : Nat)), Sq.val (.string DG), Sq.val (.int .i64 (n : Nat)), Sq.val (.int .i64 (A4 : Nat)), Sq.val (.int .i64 (B4 : Nat)), Sq.val (.int .u8 (V4 : Nat)), Sq.val (.string DG), Sq.val (.int .i64 (n : Nat)), Sq.val (.int .i64 (B5 : Nat)), Sq.val (.int .u8 (V5 : Nat))]) 23
    [_, _, _, _, _, _, _, _, _, _, _, _, _, _, _, _, _, _, _, _, _, _, _, _, _, _] (by kernel_rfl) (by kernel_rfl) (by kernel_rfl) (by kernel_rfl) (by kernel_rfl) (by kernel_rfl) rfl ?_ ?_
  · refine AllIn.cons ?_ ?_
    · intro a w hz hb ho hg
      have e3 : a.tmps.getD 3 undef = .string DG := ho 3 (by kernel_rfl)
      have f3 := Rg.gd e3
      exact wv hb rfl (by simp [execOp, Act.eval, e3, f3, go_sem]) rfl
    refine AllIn.cons ?_ ?_
    · intro a w hz hb ho hg
      have e4 : a.tmps.getD 4 undef = .int .i64 (K : Nat) := ho 4 (by kernel_rfl)
      have f4 := Rg.gd e4
      exact wv hb rfl (by simp [execOp, Act.eval, e4, f4, go_sem]) rfl
    refine AllIn.cons ?_ ?_
    · intro a w hz hb ho hg
      have e8 : a.tmps.getD 8 undef = .int .i64 (K : Nat) := got_of hg (j := 1) rfl rfl rfl
      have f8 := Rg.gd e8
      exact wv hb rfl (by simp [execOp, Act.eval, e8, f8, hA1, wA1, go_sem]) rfl
    refine AllIn.cons ?_ ?_
    · intro a w hz hb ho hg
      have e9 : a.tmps.getD 9 undef = .int .i64 (A1 : Nat) := got_of hg (j := 2) rfl rfl rfl
      have f9 := Rg.gd e9
      exact wv hb rfl (by simp [execOp, Act.eval, e9, f9, hB1, go_sem]) rfl
    refine AllIn.cons ?_ ?_
    · intro a w hz hb ho hg
      have e7 : a.tmps.getD 7 undef = .string DG := got_of hg (j := 0) rfl rfl rfl
      have e10 : a.tmps.getD 10 undef = .int .i64 (B1 : Nat) := got_of hg (j := 3) rfl rfl rfl
      have f7 := Rg.gd e7
      have f10 := Rg.gd e10
      exact wv hb rfl (by simp [execOp, Act.eval, e7, e10, f7, f10, hq1, hX1, go_sem]) rfl
    refine AllIn.cons ?_ ?_
    · intro a w hz hb ho hg
      have e3 : a.tmps.getD 3 undef = .string DG := ho 3 (by kernel_rfl)
      have f3 := Rg.gd e3
      exact wv hb rfl (by simp [execOp, Act.eval, e3, f3, go_sem]) rfl
    refine AllIn.cons ?_ ?_
    · intro a w hz hb ho hg
      have e4 : a.tmps.getD 4 undef = .int .i64 (K : Nat) := ho 4 (by kernel_rfl)
      have f4 := Rg.gd e4
      exact wv hb rfl (by simp [execOp, Act.eval, e4, f4, go_sem]) rfl
    refine AllIn.cons ?_ ?_
    · intro a w hz hb ho hg
      have e13 : a.tmps.getD 13 undef = .int .i64 (K : Nat) := got_of hg (j := 6) rfl rfl rfl
      have f13 := Rg.gd e13
      exact wv hb rfl (by simp [execOp, Act.eval, e13, f13, hA2, wA2, go_sem]) rfl
    refine AllIn.cons ?_ ?_
    · intro a w hz hb ho hg
      have e14 : a.tmps.getD 14 undef = .int .i64 (A2 : Nat) := got_of hg (j := 7) rfl rfl rfl
      have f14 := Rg.gd e14
      exact wv hb rfl (by simp [execOp, Act.eval, e14, f14, hB2, go_sem]) rfl
    refine AllIn.cons ?_ ?_
    · intro a w hz hb ho hg
      have e12 : a.tmps.getD 12 undef = .string DG := got_of hg (j := 5) rfl rfl rfl
      have e15 : a.tmps.getD 15 undef = .int .i64 (B2 : Nat) := got_of hg (j := 8) rfl rfl rfl
      have f12 := Rg.gd e12
      have f15 := Rg.gd e15
      exact wv hb rfl (by simp [execOp, Act.eval, e12, e15, f12, f15, hq2, hX2, go_sem]) rfl
    refine AllIn.cons ?_ ?_
    · intro a w hz hb ho hg
      have e3 : a.tmps.getD 3 undef = .string DG := ho 3 (by kernel_rfl)
      have f3 := Rg.gd e3
      exact wv hb rfl (by simp [execOp, Act.eval, e3, f3, go_sem]) rfl
    refine AllIn.cons ?_ ?_
    · intro a w hz hb ho hg
      have e4 : a.tmps.getD 4 undef = .int .i64 (K : Nat) := ho 4 (by kernel_rfl)
      have f4 := Rg.gd e4
      exact wv hb rfl (by simp [execOp, Act.eval, e4, f4, go_sem]) rfl
    refine AllIn.cons ?_ ?_
    · intro a w hz hb ho hg
      have e18 : a.tmps.getD 18 undef = .int .i64 (K : Nat) := got_of hg (j := 11) rfl rfl rfl
      have f18 := Rg.gd e18
      exact wv hb rfl (by simp [execOp, Act.eval, e18, f18, hB3, go_sem]) rfl
    refine AllIn.cons ?_ ?_
    · intro a w hz hb ho hg
      have e17 : a.tmps.getD 17 undef = .string DG := got_of hg (j := 10) rfl rfl rfl
      have e19 : a.tmps.getD 19 undef = .int .i64 (B3 : Nat) := got_of hg (j := 12) rfl rfl rfl
      have f17 := Rg.gd e17
      have f19 := Rg.gd e19
      exact wv hb rfl (by simp [execOp, Act.eval, e17, e19, f17, f19, hq3, hX3, go_sem]) rfl
    refine AllIn.cons ?_ ?_
    · intro a w hz hb ho hg
      have e3 : a.tmps.getD 3 undef = .string DG := ho 3 (by kernel_rfl)
      have f3 := Rg.gd e3
      exact wv hb rfl (by simp [execOp, Act.eval, e3, f3, go_sem]) rfl
    refine AllIn.cons ?_ ?_
    · intro a w hz hb ho hg
      have e0 : a.tmps.getD 0 undef = .int .i64 (n : Nat) := ho 0 (by kernel_rfl)
      have f0 := Rg.gd e0
      exact wv hb rfl (by simp [execOp, Act.eval, e0, f0, go_sem]) rfl
    refine AllIn.cons ?_ ?_
    · intro a w hz hb ho hg
      have e22 : a.tmps.getD 22 undef = .int .i64 (n : Nat) := got_of hg (j := 15) rfl rfl rfl
      have f22 := Rg.gd e22
      exact wv hb rfl (by simp [execOp, Act.eval, e22, f22, hA4, wA4, go_sem]) rfl
    refine AllIn.cons ?_ ?_
    · intro a w hz hb ho hg
      have e23 : a.tmps.getD 23 undef = .int .i64 (A4 : Nat) := got_of hg (j := 16) rfl rfl rfl
      have f23 := Rg.gd e23
      exact wv hb rfl (by simp [execOp, Act.eval, e23, f23, hB4, go_sem]) rfl
    refine AllIn.cons ?_ ?_
    · intro a w hz hb ho hg
      have e21 : a.tmps.getD 21 undef = .string DG := got_of hg (j := 14) rfl rfl rfl
      have e24 : a.tmps.getD 24 undef = .int .i64 (B4 : Nat) := got_of hg (j := 17) rfl rfl rfl
      have f21 := Rg.gd e21
      have f24 := Rg.gd e24
      exact wv hb rfl (by simp [execOp, Act.eval, e21, e24, f21, f24, hq4, hX4, go_sem]) rfl
    refine AllIn.cons ?_ ?_
    · intro a w hz hb ho hg
      have e3 : a.tmps.getD 3 undef = .string DG := ho 3 (by kernel_rfl)
      have f3 := Rg.gd e3
      exact wv hb rfl (by simp [execOp, Act.eval, e3, f3, go_sem]) rfl
    refine AllIn.cons ?_ ?_
    · intro a w hz hb ho hg
      have e0 : a.tmps.getD 0 undef = .int .i64 (n : Nat) := ho 0 (by kernel_rfl)
      have f0 := Rg.gd e0
      exact wv hb rfl (by simp [execOp, Act.eval, e0, f0, go_sem]) rfl
    refine AllIn.cons ?_ ?_
    · intro a w hz hb ho hg
      have e27 : a.tmps.getD 27 undef = .int .i64 (n : Nat) := got_of hg (j := 20) rfl rfl rfl
      have f27 := Rg.gd e27
      exact wv hb rfl (by simp [execOp, Act.eval, e27, f27, hB5, go_sem]) rfl
    refine AllIn.cons ?_ ?_
    · intro a w hz hb ho hg
      have e26 : a.tmps.getD 26 undef = .string DG := got_of hg (j := 19) rfl rfl rfl
      have e28 : a.tmps.getD 28 undef = .int .i64 (B5 : Nat) := got_of hg (j := 21) rfl rfl rfl
      have f26 := Rg.gd e26
      have f28 := Rg.gd e28
      exact wv hb rfl (by simp [execOp, Act.eval, e26, e28, f26, f28, hq5, hX5, go_sem]) rfl
    exact AllIn.nil
  intro a W2 hd hz hb ho hg
  have e7 : a.tmps.getD 7 undef = .string DG := hg 0 (by decide) _ _ rfl rfl
  have e8 : a.tmps.getD 8 undef = .int .i64 (K : Nat) := hg 1 (by decide) _ _ rfl rfl
  have e9 : a.tmps.getD 9 undef = .int .i64 (A1 : Nat) := hg 2 (by decide) _ _ rfl rfl
  have e10 : a.tmps.getD 10 undef = .int .i64 (B1 : Nat) := hg 3 (by decide) _ _ rfl rfl
  have e11 : a.tmps.getD 11 undef = .int .u8 (V1 : Nat) := hg 4 (by decide) _ _ rfl rfl
  have e12 : a.tmps.getD 12 undef = .string DG := hg 5 (by decide) _ _ rfl rfl
  have e13 : a.tmps.getD 13 undef = .int .i64 (K : Nat) := hg 6 (by decide) _ _ rfl rfl
  have e14 : a.tmps.getD 14 undef = .int .i64 (A2 : Nat) := hg 7 (by decide) _ _ rfl rfl
  have e15 : a.tmps.getD 15 undef = .int .i64 (B2 : Nat) := hg 8 (by decide) _ _ rfl rfl
  have e16 : a.tmps.getD 16 undef = .int .u8 (V2 : Nat) := hg 9 (by decide) _ _ rfl rfl
  have e17 : a.tmps.getD 17 undef = .string DG := hg 10 (by decide) _ _ rfl rfl
  have e18 : a.tmps.getD 18 undef = .int .i64 (K : Nat) := hg 11 (by decide) _ _ rfl rfl
  have e19 : a.tmps.getD 19 undef = .int .i64 (B3 : Nat) := hg 12 (by decide) _ _ rfl rfl
  have e20 : a.tmps.getD 20 undef = .int .u8 (V3 : Nat) := hg 13 (by decide) _ _ rfl rfl
  have e21 : a.tmps.getD 21 undef = .string DG := hg 14 (by decide) _ _ rfl rfl
  have e22 : a.tmps.getD 22 undef = .int .i64 (n : Nat) := hg 15 (by decide) _ _ rfl rfl
  have e23 : a.tmps.getD 23 undef = .int .i64 (A4 : Nat) := hg 16 (by decide) _ _ rfl rfl
  have e24 : a.tmps.getD 24 undef = .int .i64 (B4 : Nat) := hg 17 (by decide) _ _ rfl rfl
  have e25 : a.tmps.getD 25 undef = .int .u8 (V4 : Nat) := hg 18 (by decide) _ _ rfl rfl
  have e26 : a.tmps.getD 26 undef = .string DG := hg 19 (by decide) _ _ rfl rfl
  have e27 : a.tmps.getD 27 undef = .int .i64 (n : Nat) := hg 20 (by decide) _ _ rfl rfl
  have e28 : a.tmps.getD 28 undef = .int .i64 (B5 : Nat) := hg 21 (by decide) _ _ rfl rfl
  have e29 : a.tmps.getD 29 undef = .int .u8 (V5 : Nat) := hg 22 (by decide) _ _ rfl rfl
  have hA := ho.frame hz
  simp only [List.take_succ_cons, List.take_zero, List.filterMap_cons, List.filterMap_nil, List.foldl_cons, List.foldl_nil, e7, e8, e9, e10, e11, e12, e13, e14, e15, e16, e17, e18, e19, e20, e21, e22, e23, e24, e25, e26, e27, e28, e29, List.setIfInBounds_toArray, List.set_cons_zero, List.set_cons_succ] at hA
  obtain ⟨tm, df⟩ := a
  simp only at hd hA
  subst hd
  subst hA
  simp only [List.drop_succ_cons, List.drop_zero]
  have HH2 := Aside.mk hb
  clear hz ho hg hb e7 e8 e9 e10 e11 e12 e13 e14 e15 e16 e17 e18 e19 e20 e21 e22 e23 e24 e25 e26 e27 e28 e29
  have hcv := HC.out W2
  clear HC
  go_wp2_with fail
  go_ret
  exact ⟨rfl, HH2.out.trans ((Below.refl _ _).alloc HH2.out.size _)⟩
theorem wrap64_id {x : Int} (h : -9223372036854775808 ≤ x) (h' : x ≤ 9223372036854775807) : wrap64 x = x := by unfold wrap64; omega
theorem enters_mi : ∀ args w, (callFunc 21 args).run Tryz.prog w = .ok (.enter 21 args) w := fun args w => by kernel_rfl
theorem const_facts {LA HB WL WH : Int} {A B : Nat} (hA : A < 100000) (hB : B < 100000) (h : (LA * 100 ≤ (A : Int) * 65536 ∧ (A : Int) * 65536 - 100 < LA * 100 ∧ (B : Int) * 65536 ≤ HB * 100 ∧ HB * 100 < (B : Int) * 65536 + 100) ∧ (WL * 100 ≤ ((A : Int) + B) * 65536 ∧ ((A : Int) + B) * 65536 ≤ WH * 100 ∧ WH - WL ≤ 2) ∧ (-1000000000000 ≤ LA * 100 ∧ LA * 100 ≤ 1000000000000) ∧ (-1000000000000 ≤ HB * 100 ∧ HB * 100 ≤ 1000000000000) ∧ (-1000000000000 ≤ WL * 100 ∧ WL * 100 ≤ 1000000000000) ∧ (-1000000000000 ≤ WH * 100 ∧ WH * 100 ≤ 1000000000000) ∧ (-1000000000000 ≤ WH - WL)) :
    ∃ V1 VA VA1 V2 VB VB1 V3 AB VAB V4 DW : Int, wrap64 (LA * 100) = V1 ∧ wrap64 ((A : Int) * 65536) = VA ∧ wrap64 (VA - 100) = VA1 ∧ wrap64 (HB * 100) = V2 ∧ wrap64 ((B : Int) * 65536) = VB ∧ wrap64 (VB + 100) = VB1 ∧ wrap64 (WL * 100) = V3 ∧ wrap64 ((A : Int) + (B : Int)) = AB ∧ wrap64 (AB * 65536) = VAB ∧ wrap64 (WH * 100) = V4 ∧ wrap64 (WH - WL) = DW ∧ V1 ≤ VA ∧ VA1 < V1 ∧ VB ≤ V2 ∧ V2 < VB1 ∧ V3 ≤ VAB ∧ VAB ≤ V4 ∧ DW ≤ 2 :=
  ⟨LA * 100, (A : Int) * 65536, (A : Int) * 65536 - 100, HB * 100, (B : Int) * 65536, (B : Int) * 65536 + 100, WL * 100, (A : Int) + (B : Int), ((A : Int) + (B : Int)) * 65536, WH * 100, WH - WL, wrap64_id (by omega) (by omega), wrap64_id (by omega) (by omega), wrap64_id (by omega) (by omega), wrap64_id (by omega) (by omega), wrap64_id (by omega) (by omega), wrap64_id (by omega) (by omega), wrap64_id (by omega) (by omega), wrap64_id (by omega) (by omega), wrap64_id (by omega) (by omega), wrap64_id (by omega) (by omega), wrap64_id (by omega) (by omega), by omega, by omega, by omega, by omega, by omega, by omega, by omega⟩
set_option maxRecDepth 100000 in
set_option maxHeartbeats 32000000 in
theorem OdeConstants_walk (ra rb tl th : Int) (w : World) (wa : (Lit.int .u16 ra).wf = true) (wb : (Lit.int .u16 rb).wf = true) (wl : (Lit.int .i64 tl).wf = true) (wh : (Lit.int .i64 th).wf = true) (hL : Lb w) :
    Calls Tryz.prog 11 #[.int .u16 ra, .int .u16 rb, .agg #[.int .i64 tl, .int .i64 th]] w fun e w' => e = .returned (.bool true) ∧ Below w.heap.size w w' := by
  have hra : 0 ≤ ra ∧ ra ≤ 65535 := by simp [Lit.wf, IntKind.min, IntKind.max, IntKind.signed, IntKind.bits] at wa; omega
  have hrb : 0 ≤ rb ∧ rb ≤ 65535 := by simp [Lit.wf, IntKind.min, IntKind.max, IntKind.signed, IntKind.bits] at wb; omega
  obtain ⟨N, rfl⟩ : ∃ N : Nat, ra = N := ⟨ra.toNat, by omega⟩
  obtain ⟨M, rfl⟩ : ∃ M : Nat, rb = M := ⟨rb.toNat, by omega⟩
  have hN : (N : Int).tmod 100000 = (N : Nat) := by rw [Int.tmod_eq_emod_of_nonneg (by omega)]; omega
  have hM : (M : Int).tmod 100000 = (M : Nat) := by rw [Int.tmod_eq_emod_of_nonneg (by omega)]; omega
  obtain ⟨A, hA⟩ : ∃ A, min N M = A := ⟨_, rfl⟩
  obtain ⟨B, hB⟩ : ∃ A, max N M = A := ⟨_, rfl⟩
  have hmn : min (N : Int) (M : Int) = (A : Nat) := by omega
  have hmx : max (N : Int) (M : Int) = (B : Nat) := by omega
  have HAB : Aside (A ≤ B ∧ A < 100000 ∧ B < 100000 ∧ B ≤ 65535) := ⟨by omega⟩
  obtain ⟨T, hT, hTc⟩ := rMadeI_ex tl th
  have HT := Aside.mk hT
  have HTC := Aside.mk hTc
  have HL := Aside.mk hL
  have hal : Below w.heap.size w (w.alloc (.cells #[.int .i64 tl, .int .i64 th] 29)) := (Below.refl _ _).alloc (Nat.le_refl _) _
  have HAL := Aside.mk hal
  have hrow : (w.alloc (.cells #[.int .i64 tl, .int .i64 th] 29)).heap[w.heap.size]? = some (.cells #[.int .i64 tl, .int .i64 th] 29 (0, 0)) := heap_alloc_last _ _
  have HROW := Aside.mk hrow
  have HNM : Aside (wrap64 (N : Int) = N ∧ wrap64 (M : Int) = M ∧ (N : Int).tmod 100000 = (N : Nat) ∧ (M : Int).tmod 100000 = (M : Nat) ∧ min (N : Int) (M : Int) = (A : Nat) ∧ max (N : Int) (M : Int) = (B : Nat)) := ⟨wrap64_id (by omega) (by omega), wrap64_id (by omega) (by omega), hN, hM, hmn, hmx⟩
  clear wa wb wl wh hra hrb hA hB hT hTc hL hal hrow hN hM hmn hmx
  go_enter Tryz.func11, Tryz.ntmps11
  go_wp2_with fail
  generalize w.alloc (.cells #[.int .i64 tl, .int .i64 th] 29) = W at HAL HROW ⊢
  obtain ⟨g5, hg5⟩ : ∃ g, w.heap.size = g := ⟨_, rfl⟩
  have HG5 := Aside.mk hg5
  simp only [hg5]
  rw [hg5] at HROW
  clear hg5
  refine (sanity_any W (HL.out.below HAL.out)).mono ?_
  rintro e w1 ⟨rfl, hb⟩
  have H := Aside.mk (Pk5.mk (vn := .slice none 0 0) (xs := []) (L := []) (HAL.out.trans (hb.mono HAL.out.size)) ((HL.out.below HAL.out).below hb) (strs_nil w1) (by simp))
  replace HROW := Aside.mk ((hb.block _ (lt_of HROW.out)).trans HROW.out)
  clear hb HAL HL
  go_wp2_with fail
  simp only [HNM.out.1, HNM.out.2.1, HNM.out.2.2.1, HNM.out.2.2.2.1, HNM.out.2.2.2.2.1, HNM.out.2.2.2.2.2]
  refine (decimal_any A HAB.out.2.1 w1).mono ?_
  rintro e w2 ⟨rfl, hb⟩
  replace H := Aside.mk (H.out.below hb)
  replace HROW := Aside.mk ((hb.block _ (lt_of HROW.out)).trans HROW.out)
  clear hb
  go_wp2_with fail
  refine (decimal_any B HAB.out.2.2.1 w2).mono ?_
  rintro e w3 ⟨rfl, hb⟩
  replace H := Aside.mk (H.out.below hb)
  replace HROW := Aside.mk ((hb.block _ (lt_of HROW.out)).trans HROW.out)
  clear hb
  obtain ⟨S, hS⟩ : ∃ S : ByteArray, ⟨(dec2 A).toArray⟩ = S := ⟨_, rfl⟩
  obtain ⟨U, hU⟩ : ∃ S : ByteArray, ⟨(dec2 B).toArray⟩ = S := ⟨_, rfl⟩
  simp only [hS, hU]
  have z1 : S.size = 6 := by rw [← hS]; rfl
  have z2 : U.size = 6 := by rw [← hU]; rfl
  have HS : Aside (S.data.toList = dec2 A ∧ U.data.toList = dec2 B) := ⟨by rw [← hS, ← hU]; simp⟩
  have z3 : S.size ≤ 1000 := by omega
  have z4 : U.size ≤ 1000 := by omega
  obtain ⟨E1, hE1⟩ : ∃ E, (⟨#[91]⟩ : ByteArray) ++ S ++ ⟨#[44]⟩ ++ U ++ ⟨#[93]⟩ = E := ⟨_, rfl⟩
  obtain ⟨E2, hE2⟩ : ∃ E, S ++ ⟨#[43]⟩ ++ U = E := ⟨_, rfl⟩
  have HE1 : Aside (parseExpr E1.data.toList (strL []) = .ok (flat (.num (loD A) (hiD B))) ∧ E1.size ≤ 100000) := by
    have c0 : ByteArray.size ⟨#[91]⟩ = 1 := rfl
    have c1 : ByteArray.size ⟨#[44]⟩ = 1 := rfl
    have c2 : ByteArray.size ⟨#[93]⟩ = 1 := rfl
    refine ⟨?_, by rw [← hE1]; simp only [ByteArray.size_append]; omega⟩
    have e : E1.data.toList = 91 :: (dec2 A ++ 44 :: (dec2 B ++ [93])) := by
      rw [← hE1, bts, bts, bts, bts, HS.out.1, HS.out.2]
      simp only [List.append_assoc]
      rfl
    rw [e]
    exact (const1 HAB.out.2.1 HAB.out.2.2.1 HAB.out.1).1
  have HE2 : Aside (parseExpr E2.data.toList (strL []) = .ok (flat (.bin 7 (.num (loD A) (hiD A)) (.num (loD B) (hiD B)))) ∧ E2.size ≤ 100000) := by
    have c1 : ByteArray.size ⟨#[43]⟩ = 1 := rfl
    refine ⟨?_, by rw [← hE2]; simp only [ByteArray.size_append]; omega⟩
    have e : E2.data.toList = dec2 A ++ 43 :: dec2 B := by
      rw [← hE2, bts, bts, HS.out.1, HS.out.2]
      simp only [List.append_assoc]
      rfl
    rw [e]
    exact (const2 HAB.out.2.1 HAB.out.2.2.1).1
  clear hS hU z1 z2
  go_wp2_with fail
  try simp only [hE1]
  refine (ParseExpr_good E1 HE1.out.2 _ [] _ HE1.out.1 _ H.out.nm H.out.lb).mono ?_
  rintro e w4 ⟨v, rfl, ho, hb⟩
  obtain ⟨ae, ce, rfl, -⟩ := ho.rd.out
  replace H := Aside.mk ((H.out.below hb).add (Ex.of (t := .num (loD A) (hiD B)) ho (by simp [flat])))
  replace HROW := Aside.mk ((hb.block _ (lt_of HROW.out)).trans HROW.out)
  clear hb ho HE1
  go_wp2_with fail
  try simp only [hE2]
  refine (ParseExpr_good E2 HE2.out.2 _ [] _ HE2.out.1 _ H.out.nm H.out.lb).mono ?_
  rintro e w5 ⟨v, rfl, ho, hb⟩
  obtain ⟨af, cf, rfl, -⟩ := ho.rd.out
  replace H := Aside.mk ((H.out.below hb).add (Ex.of (t := .bin 7 (.num (loD A) (hiD A)) (.num (loD B) (hiD B))) ho (by simp [flat])))
  replace HROW := Aside.mk ((hb.block _ (lt_of HROW.out)).trans HROW.out)
  clear hb ho HE2
  go_wp2_with fail
  have hk1 : Aside (okT [] (.num (loD A) (hiD B))) := ⟨(const1 HAB.out.2.1 HAB.out.2.2.1 HAB.out.1).2⟩
  have hk2 : Aside (okT [] (.bin 7 (.num (loD A) (hiD A)) (.num (loD B) (hiD B)))) := ⟨(const2 HAB.out.2.1 HAB.out.2.2.1).2⟩
  have hx1 : Aside (okEx 0 (flat (.num (loD A) (hiD B))) = true) := ⟨okEx_flat (vars := []) hk1.out (by simp [flat])⟩
  have hx2 : Aside (okEx 0 (flat (.bin 7 (.num (loD A) (hiD A)) (.num (loD B) (hiD B)))) = true) := ⟨okEx_flat (vars := []) hk2.out (by simp [flat])⟩
  refine (rValidExpr_any _ _ 0 _ (H.out.ex _ (.num (loD A) (hiD B)) (by simp)).rdn).mono ?_
  rintro e w6 ⟨rfl, hb⟩
  rw [hx1.out]
  replace H := Aside.mk (H.out.below hb)
  replace HROW := Aside.mk ((hb.block _ (lt_of HROW.out)).trans HROW.out)
  clear hb
  go_wp2_with fail
  refine (rValidExpr_any _ _ 0 _ (H.out.ex _ (.bin 7 (.num (loD A) (hiD A)) (.num (loD B) (hiD B))) (by simp)).rdn).mono ?_
  rintro e w7 ⟨rfl, hb⟩
  rw [hx2.out]
  replace H := Aside.mk (H.out.below hb)
  replace HROW := Aside.mk ((hb.block _ (lt_of HROW.out)).trans HROW.out)
  clear hb
  go_wp2_with fail
  rw [show (flat (Tr.num (loD A) (hiD B))).length = 1 from rfl] at H
  rw [show (flat (Tr.bin 7 (.num (loD A) (hiD A)) (.num (loD B) (hiD B)))).length = 3 from rfl] at H
  try simp only [show (flat (Tr.num (loD A) (hiD B))).length = 1 from rfl, show (flat (Tr.bin 7 (.num (loD A) (hiD A)) (.num (loD B) (hiD B)))).length = 3 from rfl]
  have c0 : w7.cell? ⟨g5, 0, none⟩ = some (.int .i64 tl) := by rw [cell_of_row _ _ 0 _ _ _ HROW.out]; rfl
  have c1 : w7.cell? ⟨g5, 1, none⟩ = some (.int .i64 th) := by rw [cell_of_row _ _ 1 _ _ _ HROW.out]; rfl
  have hl5 : g5 < w7.heap.size := lt_of HROW.out
  obtain ⟨LA, hLA⟩ : ∃ x, loD A = x := ⟨_, rfl⟩
  obtain ⟨HB, hHB⟩ : ∃ x, hiD B = x := ⟨_, rfl⟩
  obtain ⟨HA, hHA⟩ : ∃ x, hiD A = x := ⟨_, rfl⟩
  obtain ⟨LB, hLB⟩ : ∃ x, loD B = x := ⟨_, rfl⟩
  have hev1 : ev [] T (.num (loD A) (hiD B)) = (LA, HB) := by rw [hLA, hHB]; rfl
  have hev2 : ev [] T (.bin 7 (.num (loD A) (hiD A)) (.num (loD B) (hiD B))) = (LA + LB, HA + HB) := by rw [ev_const2 A B HAB.out.2.1 HAB.out.2.2.1, hLA, hLB, hHA, hHB]
  obtain ⟨WL, hWL⟩ : ∃ x, LA + LB = x := ⟨_, rfl⟩
  obtain ⟨WH, hWH⟩ : ∃ x, HA + HB = x := ⟨_, rfl⟩
  rw [hWL, hWH] at hev2
  have hEv1 : Aside (∀ w', Below w7.heap.size w7 w' → Calls Tryz.prog 25 #[.slice ae 1 ce, .slice none 0 0, .agg #[.int .i64 T.1, .int .i64 T.2]] w' fun e w'' => e = .returned (.agg #[.int .i64 LA, .int .i64 HB]) ∧ Below w'.heap.size w' w'') := ⟨fun w' hb => by
    have := Eval_any (vars := []) (.num (loD A) (hiD B)) hk1.out [] T (by decide) (fun a ha => by cases ha) HT.out (.slice ae 1 ce) (.slice none 0 0) w' ((H.out.ex (.slice ae 1 ce) (.num (loD A) (hiD B)) (by simp)).below hb).rdn (ivs_nil w') (H.out.lb.ends.below hb)
    rw [hev1] at this
    exact this⟩
  have hEv2 : Aside (∀ w', Below w7.heap.size w7 w' → Calls Tryz.prog 25 #[.slice af 3 cf, .slice none 0 0, .agg #[.int .i64 T.1, .int .i64 T.2]] w' fun e w'' => e = .returned (.agg #[.int .i64 WL, .int .i64 WH]) ∧ Below w'.heap.size w' w'') := ⟨fun w' hb => by
    have := Eval_any (vars := []) (.bin 7 (.num (loD A) (hiD A)) (.num (loD B) (hiD B))) hk2.out [] T (by decide) (fun a ha => by cases ha) HT.out (.slice af 3 cf) (.slice none 0 0) w' ((H.out.ex (.slice af 3 cf) (.bin 7 (.num (loD A) (hiD A)) (.num (loD B) (hiD B))) (by simp)).below hb).rdn (ivs_nil w') (H.out.lb.ends.below hb)
    rw [hev2] at this
    exact this⟩
  have b1 := loD_bd A
  have b2 := loD_bd B
  rw [hLA, hHA] at b1
  rw [hLB, hHB] at b2
  have hA5 := HAB.out
  have HW : Aside ((LA * 100 ≤ (A : Int) * 65536 ∧ (A : Int) * 65536 - 100 < LA * 100 ∧ (B : Int) * 65536 ≤ HB * 100 ∧ HB * 100 < (B : Int) * 65536 + 100) ∧ (WL * 100 ≤ ((A : Int) + B) * 65536 ∧ ((A : Int) + B) * 65536 ≤ WH * 100 ∧ WH - WL ≤ 2) ∧ (-1000000000000 ≤ LA * 100 ∧ LA * 100 ≤ 1000000000000) ∧ (-1000000000000 ≤ HB * 100 ∧ HB * 100 ≤ 1000000000000) ∧ (-1000000000000 ≤ WL * 100 ∧ WL * 100 ≤ 1000000000000) ∧ (-1000000000000 ≤ WH * 100 ∧ WH * 100 ≤ 1000000000000) ∧ (-1000000000000 ≤ WH - WL)) := ⟨by omega⟩
  have HAB2 := Aside.mk hA5
  clear hev1 hev2 hWL hWH hLA hHB hHA hLB b1 b2 hA5
  refine region_listD (p := 8) (q := 9) (dp := 20) (dq := 21) (T := tab2 [
      Sq.val (.slice ae 1 ce), Sq.val (.agg #[.int .i64 tl, .int .i64 th]), Sq.val (.agg #[.int .i64 T.1, .int .i64 T.2]), Sq.val (.agg #[.int .i64 LA, .int .i64 HB]), Sq.val (.slice af 3 cf), Sq.val (.agg #[.int .i64 tl, .int .i64 th]), Sq.val (.agg #[.int .i64 T.1, .int .i64 T.2]), Sq.val (.agg #[.int .i64 WL, .int .i64 WH]), Sq.new w7.heap.size #[.int .i64 0, .int .i64 0] 29, Sq.new w7.heap.size #[.int .i64 0, .int .i64 0] 29]) 10
    [_, _, _, _, _, _, _, _, _, _, _, _] ⟨by decide, by decide, by decide, by decide⟩ rfl rfl rfl rfl rfl rfl (fun a w => ⟨w.alloc (.cells #[.int .i64 0, .int .i64 0] 29), by simp [execOp, Act.eval, go_sem], World.size_alloc ..⟩) (fun a w => ⟨w.alloc (.cells #[.int .i64 0, .int .i64 0] 29), by simp [execOp, Act.eval, go_sem], World.size_alloc ..⟩) (by kernel_rfl) (by kernel_rfl) (by kernel_rfl) (by kernel_rfl) (by kernel_rfl) (by kernel_rfl) rfl ?_ ?_
  · refine AllIn.cons ?_ ?_
    · intro a w hz hb ho hg
      have e14 : a.tmps.getD 14 undef = .slice ae 1 ce := ho 14 (by kernel_rfl)
      have f14 := Rg.gd e14
      exact wv hb rfl (by simp [execOp, Act.eval, e14, f14, go_sem]) rfl
    refine AllIn.cons ?_ ?_
    · intro a w hz hb ho hg
      have e5 : a.tmps.getD 5 undef = .pointer (some ⟨g5, 0, none⟩) := ho 5 (by kernel_rfl)
      have f5 := Rg.gd e5
      have q := (hb.cell (p := ⟨g5, 0, none⟩) hl5).trans c0
      have q' := (hb.cell (p := ⟨g5, 1, none⟩) hl5).trans c1
      exact wv hb rfl (by simp [execOp, Act.eval, e5, f5, q, q', go_sem]) rfl
    refine AllIn.cons ?_ ?_
    · intro a w hz hb ho hg
      have e76 : a.tmps.getD 76 undef = .agg #[.int .i64 tl, .int .i64 th] := got_of hg (j := 1) rfl rfl rfl
      have f76 := Rg.gd e76
      exact Or.inl ⟨wanted_none rfl, wp_calls hb.size (run_call (args := #[.agg #[.int .i64 tl, .int .i64 th]]) enters_mi (by simp [Act.eval, f76])) ((HTC.out w).mono (by rintro e w' ⟨rfl, hb2⟩; exact ⟨_, rfl, hb2, rfl⟩))⟩
    refine AllIn.cons ?_ ?_
    · intro a w hz hb ho hg
      have e75 : a.tmps.getD 75 undef = .slice ae 1 ce := got_of hg (j := 0) rfl rfl rfl
      have e77 : a.tmps.getD 77 undef = .agg #[.int .i64 T.1, .int .i64 T.2] := got_of hg (j := 2) rfl rfl rfl
      have f75 := Rg.gd e75
      have f77 := Rg.gd e77
      exact Or.inl ⟨wanted_none rfl, wp_calls hb.size (run_call (args := #[.slice ae 1 ce, .slice none 0 0, .agg #[.int .i64 T.1, .int .i64 T.2]]) enters_evl (by simp [Act.eval, f75, f77])) ((hEv1.out w hb).mono (by rintro e w' ⟨rfl, hb2⟩; exact ⟨_, rfl, hb2, rfl⟩))⟩
    refine AllIn.cons ?_ ?_
    · intro a w hz hb ho hg
      have e17 : a.tmps.getD 17 undef = .slice af 3 cf := ho 17 (by kernel_rfl)
      have f17 := Rg.gd e17
      exact wv hb rfl (by simp [execOp, Act.eval, e17, f17, go_sem]) rfl
    refine AllIn.cons ?_ ?_
    · intro a w hz hb ho hg
      have e5 : a.tmps.getD 5 undef = .pointer (some ⟨g5, 0, none⟩) := ho 5 (by kernel_rfl)
      have f5 := Rg.gd e5
      have q := (hb.cell (p := ⟨g5, 0, none⟩) hl5).trans c0
      have q' := (hb.cell (p := ⟨g5, 1, none⟩) hl5).trans c1
      exact wv hb rfl (by simp [execOp, Act.eval, e5, f5, q, q', go_sem]) rfl
    refine AllIn.cons ?_ ?_
    · intro a w hz hb ho hg
      have e80 : a.tmps.getD 80 undef = .agg #[.int .i64 tl, .int .i64 th] := got_of hg (j := 5) rfl rfl rfl
      have f80 := Rg.gd e80
      exact Or.inl ⟨wanted_none rfl, wp_calls hb.size (run_call (args := #[.agg #[.int .i64 tl, .int .i64 th]]) enters_mi (by simp [Act.eval, f80])) ((HTC.out w).mono (by rintro e w' ⟨rfl, hb2⟩; exact ⟨_, rfl, hb2, rfl⟩))⟩
    refine AllIn.cons ?_ ?_
    · intro a w hz hb ho hg
      have e79 : a.tmps.getD 79 undef = .slice af 3 cf := got_of hg (j := 4) rfl rfl rfl
      have e81 : a.tmps.getD 81 undef = .agg #[.int .i64 T.1, .int .i64 T.2] := got_of hg (j := 6) rfl rfl rfl
      have f79 := Rg.gd e79
      have f81 := Rg.gd e81
      exact Or.inl ⟨wanted_none rfl, wp_calls hb.size (run_call (args := #[.slice af 3 cf, .slice none 0 0, .agg #[.int .i64 T.1, .int .i64 T.2]]) enters_evl (by simp [Act.eval, f79, f81])) ((hEv2.out w hb).mono (by rintro e w' ⟨rfl, hb2⟩; exact ⟨_, rfl, hb2, rfl⟩))⟩
    refine AllIn.cons ?_ ?_
    · intro a w hz hb ho hg
      exact Or.inl ⟨wanted_none rfl, wp_value hb.size (by simp [execOp, Act.eval, go_sem]) ((Below.refl _ _).alloc (Nat.le_refl _) _) ⟨_, hb.size, rfl, heap_alloc_last _ _⟩⟩
    refine AllIn.cons ?_ ?_
    · intro a w hz hb ho hg
      exact Or.inl ⟨wanted_none rfl, wp_value hb.size (by simp [execOp, Act.eval, go_sem]) ((Below.refl _ _).alloc (Nat.le_refl _) _) ⟨_, hb.size, rfl, heap_alloc_last _ _⟩⟩
    exact AllIn.nil
  intro a W9 hd hz hb ho hg hne
  have e75 : a.tmps.getD 75 undef = .slice ae 1 ce := hg 0 (by decide) _ _ rfl rfl
  have e76 : a.tmps.getD 76 undef = .agg #[.int .i64 tl, .int .i64 th] := hg 1 (by decide) _ _ rfl rfl
  have e77 : a.tmps.getD 77 undef = .agg #[.int .i64 T.1, .int .i64 T.2] := hg 2 (by decide) _ _ rfl rfl
  have e78 : a.tmps.getD 78 undef = .agg #[.int .i64 LA, .int .i64 HB] := hg 3 (by decide) _ _ rfl rfl
  have e79 : a.tmps.getD 79 undef = .slice af 3 cf := hg 4 (by decide) _ _ rfl rfl
  have e80 : a.tmps.getD 80 undef = .agg #[.int .i64 tl, .int .i64 th] := hg 5 (by decide) _ _ rfl rfl
  have e81 : a.tmps.getD 81 undef = .agg #[.int .i64 T.1, .int .i64 T.2] := hg 6 (by decide) _ _ rfl rfl
  have e82 : a.tmps.getD 82 undef = .agg #[.int .i64 WL, .int .i64 WH] := hg 7 (by decide) _ _ rfl rfl
  have E20 := hg 8 (by decide) _ _ rfl rfl
  have E21 := hg 9 (by decide) _ _ rfl rfl
  obtain ⟨g20, G20, e20, R20⟩ := E20
  obtain ⟨g21, G21, e21, R21⟩ := E21
  rw [e20, e21] at hne
  have hne2 : g21 ≠ g20 := fun e => hne (by rw [e])
  clear hne
  have hA := ho.frame hz
  simp only [List.take_succ_cons, List.take_zero, List.filterMap_cons, List.filterMap_nil, List.foldl_cons, List.foldl_nil, e75, e76, e77, e78, e79, e80, e81, e82, e20, e21, List.setIfInBounds_toArray, List.set_cons_zero, List.set_cons_succ] at hA
  obtain ⟨tm, df⟩ := a
  simp only at hd hA
  subst hd
  subst hA
  simp only [List.drop_succ_cons, List.drop_zero]
  have HH9 := Aside.mk hb
  clear hz ho hg hb e75 e76 e77 e78 e79 e80 e81 e82 e20 e21
  have HFR : Aside (Below w.heap.size w W9 ∧ w.heap.size ≤ g20 ∧ w.heap.size ≤ g21) := by
    have h1 := H.out.fr.trans (HH9.out.mono H.out.fr.size)
    exact ⟨h1, Nat.le_trans H.out.fr.size G20, Nat.le_trans H.out.fr.size G21⟩
  have HR20 := Aside.mk R20
  have HR21 := Aside.mk R21
  have HNE := Aside.mk hne2
  clear R20 R21 hne2 G20 G21 c0 c1 hl5
  obtain ⟨V1, VA, VA1, V2, VB, VB1, V3, AB, VAB, V4, DW, w0, w1, w2, w3, w4, w5, w6, w7, w8, w9, w10, x0, x1, x2, x3, x4, x5, x6⟩ := const_facts HAB2.out.2.1 HAB2.out.2.2.1 HW.out
  refine wpList_store_iv rfl (.tmp 20) (.tmp 78) rfl g20 LA HB rfl rfl _ _ HR20.out ?_
  intro w10 hr10 hb10 hk10 hs10
  have HR10 := Aside.mk hr10
  have HB10 := Aside.mk hb10
  have HR22 := Aside.mk ((hk10 g21 HNE.out).trans HR21.out)
  clear hr10 hb10 hk10 hs10
  refine wpList_store_iv rfl (.tmp 21) (.tmp 82) rfl g21 WL WH rfl rfl _ _ HR22.out ?_
  intro w11 hr11 hb11 hk11 hs11
  have HB11 := Aside.mk hb11
  have hr20 := (hk11 g20 (Ne.symm HNE.out)).trans HR10.out
  have c0 : w11.cell? ⟨g20, 0, none⟩ = some (.int .i64 LA) := by rw [cell_of_row _ _ 0 _ _ _ hr20]; rfl
  have c1 : w11.cell? ⟨g20, 1, none⟩ = some (.int .i64 HB) := by rw [cell_of_row _ _ 1 _ _ _ hr20]; rfl
  have d0 : w11.cell? ⟨g21, 0, none⟩ = some (.int .i64 WL) := by rw [cell_of_row _ _ 0 _ _ _ hr11]; rfl
  have d1 : w11.cell? ⟨g21, 1, none⟩ = some (.int .i64 WH) := by rw [cell_of_row _ _ 1 _ _ _ hr11]; rfl
  clear hr11 hb11 hk11 hs11 hr20
  go_wp2_with fail
  go_ret
  exact ⟨rfl, (HFR.out.1.trans (HB10.out.mono HFR.out.2.1)).trans (HB11.out.mono HFR.out.2.2)⟩
end Go.Proofs.YthcidkidpiaomaaGreatDoor.Od
end
