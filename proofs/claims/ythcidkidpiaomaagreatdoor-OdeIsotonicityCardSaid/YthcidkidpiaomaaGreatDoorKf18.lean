/- OeJ OeK OcF OcG -/
import Derived.MapKept
import Derived.Test.YthcidkidpiaomaaGreatDoorKf17
import Derived.Test.YthcidkidpiaomaaGreatDoorKf11
import Derived.Test.YthcidkidpiaomaaGreatDoorKf15
import Derived.Test.YthcidkidpiaomaaGreatDoorKf08
section
set_option linter.unusedVariables false
set_option linter.unusedSimpArgs false
namespace Go.Proofs.YthcidkidpiaomaaGreatDoor.Od
open Go.RowKit Rg
theorem enters_fmt : ∀ args w, (callFunc 139 args).run Tryz.prog w = .ok (.enter 139 args) w := fun args w => by kernel_rfl
theorem mk_str {s : ByteArray} {l : List UInt8} (h : s.data.toList = l) : s = ⟨l.toArray⟩ := by
  subst h; cases s; rfl
theorem Fmt_any (x0 : Int) (w : World) (h0 : -2147483648 < x0) (h1 : x0 < 2147483648) (ht : Fx.Tabs w) (s : ByteArray) (hs : (⟨(Fx.fmtL x0).toArray⟩ : ByteArray) = s) :
    Calls Tryz.prog 139 #[.int .i64 x0] w fun e w' => e = .returned (.string s) ∧ Below w.heap.size w w' := by
  subst hs
  exact Fx.Format_any x0 w h0 h1 ht
set_option maxRecDepth 100000 in
set_option maxHeartbeats 8000000 in
theorem formatInterval_any (lo hi : Int) (w : World) (h : okIv lo hi = true) (ht : Fx.Tabs w) :
    Calls Tryz.prog 99 #[.agg #[.int .i64 lo, .int .i64 hi]] w fun e w' => (∃ s, e = .returned (.string s) ∧ s.data.toList = fmtIv lo hi) ∧ Below w.heap.size w w' := by
  have hrow := heap_alloc_last w (.cells #[.int .i64 lo, .int .i64 hi] 29)
  have hb0 : Below w.heap.size w (w.alloc (.cells #[.int .i64 lo, .int .i64 hi] 29)) := (Below.refl _ _).alloc (Nat.le_refl _) _
  have HOK := Aside.mk h
  have HT := Aside.mk (ht.below hb0)
  have HB := Aside.mk hb0
  have HR := Aside.mk hrow
  have HF : Aside (fmtIv lo hi = if lo = -maxV ∧ hi = maxV then wAll else if lo = hi ∧ 0 ≤ lo then Fx.fmtL lo else [91] ++ Fx.fmtL lo ++ [44, 32] ++ Fx.fmtL hi ++ [93]) := ⟨rfl⟩
  clear h ht hb0 hrow
  go_enter Tryz.func99, Tryz.ntmps99
  go_upto_if 3 with (fail)
  go_wp2_with fail
  obtain ⟨g, hg⟩ : ∃ g, w.heap.size = g := ⟨_, rfl⟩
  have HG := Aside.mk hg
  rw [hg] at HR HB
  simp only [hg]
  generalize w.alloc (.cells #[.int .i64 lo, .int .i64 hi] 29) = W at HT HB HR ⊢
  have hW : W.cell? ⟨g, 0, none⟩ = some (.int .i64 lo) := by rw [cell_of_row _ _ 0 _ _ _ HR.out]; rfl
  have hW1 : W.cell? ⟨g, 1, none⟩ = some (.int .i64 hi) := by rw [cell_of_row _ _ 1 _ _ _ HR.out]; rfl
  go_wp2_with fail
  refine (isEntire_any lo hi W).mono ?_
  rintro e w1 ⟨rfl, hb1⟩
  have hlw : g < W.heap.size := lt_of HR.out
  have HB1 := Aside.mk (HB.out.trans (hb1.mono (Nat.le_of_lt hlw)))
  have HT1 := Aside.mk (HT.out.below hb1)
  have c0 := (hb1.cell (p := ⟨g, 0, none⟩) hlw).trans hW
  have c1 := (hb1.cell (p := ⟨g, 1, none⟩) hlw).trans hW1
  have hl : g < w1.heap.size := Nat.lt_of_lt_of_le hlw hb1.size
  clear hb1 HB HT HR hW hW1 hlw hg
  obtain ⟨b, hb⟩ : ∃ b, isEnt lo hi = b := ⟨_, rfl⟩
  have HBE := Aside.mk hb
  rw [hb]
  clear hb
  cases b with
  | true =>
    go_wp2_with fail
    go_ret
    refine ⟨⟨_, rfl, ?_⟩, HG.out ▸ HB1.out⟩
    have := HBE.out
    unfold isEnt at this
    simp only [Bool.and_eq_true, beq_iff_eq] at this
    rw [HF.out, if_pos this]
    rfl
  | false =>
    have hne : ¬ (lo = -maxV ∧ hi = maxV) := by
      have := HBE.out
      unfold isEnt at this
      intro hh
      rw [hh.1, hh.2] at this
      exact absurd this (by decide)
    have hv : (vld lo && (vld hi && decide (lo ≤ hi))) = true := by
      have := HOK.out
      rw [okIv_eq, HBE.out, Bool.false_or] at this
      exact this
    unfold vld at hv
    simp only [Bool.and_eq_true, decide_eq_true_eq] at hv
    have HV := Aside.mk hv
    have HF : Aside (fmtIv lo hi = if lo = hi ∧ 0 ≤ lo then Fx.fmtL lo else [91] ++ Fx.fmtL lo ++ [44, 32] ++ Fx.fmtL hi ++ [93]) := ⟨by rw [HF.out, if_neg hne]⟩
    clear hne hv
    by_cases he : lo = hi ∧ 0 ≤ lo
    · obtain ⟨rfl, h0⟩ := he
      have hge : (0 : Int) ≤ lo := h0
      have HF2 : Aside (fmtIv lo lo = Fx.fmtL lo) := ⟨by rw [HF.out, if_pos ⟨rfl, h0⟩]⟩
      go_wp2_with fail
      refine (Fx.Format_any lo w1 (by have := HV.out; omega) (by have := HV.out; omega) HT1.out).mono ?_
      rintro e w2 ⟨rfl, hb2⟩
      have HB2 := Aside.mk (HB1.out.trans (hb2.mono (HG.out ▸ HB1.out.size)))
      clear hb2
      go_wp2_with fail
      go_ret
      exact ⟨⟨_, rfl, by rw [HF2.out]⟩, HG.out ▸ HB2.out⟩
    · have HF : Aside (fmtIv lo hi = [91] ++ Fx.fmtL lo ++ [44, 32] ++ Fx.fmtL hi ++ [93]) := ⟨by rw [HF.out, if_neg he]⟩
      obtain ⟨A, hA⟩ : ∃ A : ByteArray, ⟨(Fx.fmtL lo).toArray⟩ = A := ⟨_, rfl⟩
      obtain ⟨Z, hZ⟩ : ∃ Z : ByteArray, ⟨(Fx.fmtL hi).toArray⟩ = Z := ⟨_, rfl⟩
      have hAs : A.size ≤ 23 := by rw [← hA]; exact fmtL_len (by have := HV.out; omega) (by have := HV.out; omega)
      have hZs : Z.size ≤ 23 := by rw [← hZ]; exact fmtL_len (by have := HV.out; omega) (by have := HV.out; omega)
      have HA := Aside.mk hA
      have HZ := Aside.mk hZ
      clear hA hZ
      by_cases hq : lo = hi
      · have hge : ¬ (0 : Int) ≤ lo := fun h0 => he ⟨hq, h0⟩
        have hq2 : (lo == hi) = true := by simpa using hq
        clear hq he
        go_wp2_with fail
        refine region_list (T := tab2 [
            Sq.val (.pointer (some ⟨g, 0, none⟩)), Sq.val (.int .i64 lo), Sq.val (.string A), Sq.val (.string ((⟨#[91]⟩ : ByteArray) ++ A)), Sq.val (.string (((⟨#[91]⟩ : ByteArray) ++ A) ++ (⟨#[44, 32]⟩ : ByteArray))), Sq.val (.pointer (some ⟨g, 1, none⟩)), Sq.val (.int .i64 hi), Sq.val (.string Z), Sq.val (.string ((((⟨#[91]⟩ : ByteArray) ++ A) ++ (⟨#[44, 32]⟩ : ByteArray)) ++ Z)), Sq.val (.string (((((⟨#[91]⟩ : ByteArray) ++ A) ++ (⟨#[44, 32]⟩ : ByteArray)) ++ Z) ++ (⟨#[93]⟩ : ByteArray)))]) 10
          [_, _, _, _, _, _, _, _, _, _, _] (by kernel_rfl) (by kernel_rfl) (by kernel_rfl) (by kernel_rfl) (by kernel_rfl) (by kernel_rfl) rfl ?_ ?_
        · refine AllIn.cons ?_ ?_
          · intro a w hz hb ho hg
            have e1 : a.tmps.getD 1 undef = .pointer (some ⟨g, 0, none⟩) := ho 1 (by kernel_rfl)
            have f1 := Rg.gd e1
            exact wv hb rfl (by simp [execOp, Act.eval, e1, f1, go_sem]) rfl
          refine AllIn.cons ?_ ?_
          · intro a w hz hb ho hg
            have e20 := gq (j := 0) hg rfl rfl rfl rfl
            have f20 := Rg.gd e20
            have q := (hb.cell (p := ⟨g, 0, none⟩) hl).trans c0
            exact wv hb rfl (by simp [execOp, Act.eval, e20, f20, q, go_sem]) rfl
          refine AllIn.cons ?_ ?_
          · intro a w hz hb ho hg
            have e21 := gq (j := 1) hg rfl rfl rfl rfl
            have f21 := Rg.gd e21
            exact Or.inl ⟨wanted_none rfl, wp_calls hb.size (run_call (args := #[.int .i64 lo]) enters_fmt (by simp [Act.eval, f21])) ((Fmt_any lo w (by have := HV.out; omega) (by have := HV.out; omega) (HT1.out.below hb) A HA.out).mono (by rintro e w' ⟨rfl, hb2⟩; exact ⟨_, rfl, hb2, rfl⟩))⟩
          refine AllIn.cons ?_ ?_
          · intro a w hz hb ho hg
            have e22 := gq (j := 2) hg rfl rfl rfl rfl
            have f22 := Rg.gd e22
            exact Or.inl ⟨wanted_none rfl, wp_value hb.size (by simp [execOp, Act.eval, e22, f22, go_sem]; omega) (Below.refl _ _) rfl⟩
          refine AllIn.cons ?_ ?_
          · intro a w hz hb ho hg
            have e23 := gq (j := 3) hg rfl rfl rfl rfl
            have f23 := Rg.gd e23
            exact Or.inl ⟨wanted_none rfl, wp_value hb.size (by simp [execOp, Act.eval, e23, f23, go_sem]; omega) (Below.refl _ _) rfl⟩
          refine AllIn.cons ?_ ?_
          · intro a w hz hb ho hg
            have e1 : a.tmps.getD 1 undef = .pointer (some ⟨g, 0, none⟩) := ho 1 (by kernel_rfl)
            have f1 := Rg.gd e1
            exact wv hb rfl (by simp [execOp, Act.eval, e1, f1, go_sem]) rfl
          refine AllIn.cons ?_ ?_
          · intro a w hz hb ho hg
            have e25 := gq (j := 5) hg rfl rfl rfl rfl
            have f25 := Rg.gd e25
            have q := (hb.cell (p := ⟨g, 1, none⟩) hl).trans c1
            exact wv hb rfl (by simp [execOp, Act.eval, e25, f25, q, go_sem]) rfl
          refine AllIn.cons ?_ ?_
          · intro a w hz hb ho hg
            have e26 := gq (j := 6) hg rfl rfl rfl rfl
            have f26 := Rg.gd e26
            exact Or.inl ⟨wanted_none rfl, wp_calls hb.size (run_call (args := #[.int .i64 hi]) enters_fmt (by simp [Act.eval, f26])) ((Fmt_any hi w (by have := HV.out; omega) (by have := HV.out; omega) (HT1.out.below hb) Z HZ.out).mono (by rintro e w' ⟨rfl, hb2⟩; exact ⟨_, rfl, hb2, rfl⟩))⟩
          refine AllIn.cons ?_ ?_
          · intro a w hz hb ho hg
            have e24 := gq (j := 4) hg rfl rfl rfl rfl
            have e27 := gq (j := 7) hg rfl rfl rfl rfl
            have f24 := Rg.gd e24
            have f27 := Rg.gd e27
            exact Or.inl ⟨wanted_none rfl, wp_value hb.size (by simp [execOp, Act.eval, e24, f24, e27, f27, go_sem]; omega) (Below.refl _ _) rfl⟩
          refine AllIn.cons ?_ ?_
          · intro a w hz hb ho hg
            have e28 := gq (j := 8) hg rfl rfl rfl rfl
            have f28 := Rg.gd e28
            exact Or.inl ⟨wanted_none rfl, wp_value hb.size (by simp [execOp, Act.eval, e28, f28, go_sem]; omega) (Below.refl _ _) rfl⟩
          exact AllIn.nil
        intro a w2 hd hz hb ho hg
        have e20 := gv (hg 0 (by decide)) rfl rfl rfl
        have e21 := gv (hg 1 (by decide)) rfl rfl rfl
        have e22 := gv (hg 2 (by decide)) rfl rfl rfl
        have e23 := gv (hg 3 (by decide)) rfl rfl rfl
        have e24 := gv (hg 4 (by decide)) rfl rfl rfl
        have e25 := gv (hg 5 (by decide)) rfl rfl rfl
        have e26 := gv (hg 6 (by decide)) rfl rfl rfl
        have e27 := gv (hg 7 (by decide)) rfl rfl rfl
        have e28 := gv (hg 8 (by decide)) rfl rfl rfl
        have e29 := gv (hg 9 (by decide)) rfl rfl rfl
        have hA := ho.frame hz
        simp only [List.take_succ_cons, List.take_zero, List.filterMap_cons, List.filterMap_nil, List.foldl_cons, List.foldl_nil, e20, e21, e22, e23, e24, e25, e26, e27, e28, e29, List.setIfInBounds_toArray, List.set_cons_zero, List.set_cons_succ] at hA
        obtain ⟨tm, df⟩ := a
        simp only at hd hA
        subst hd
        subst hA
        simp only [List.drop_succ_cons, List.drop_zero]
        have HH2 := Aside.mk hb
        clear hz ho hg hb e20 e21 e22 e23 e24 e25 e26 e27 e28 e29
        go_wp2_with fail
        go_ret
        refine ⟨⟨_, rfl, ?_⟩, HG.out ▸ (HB1.out.trans (HH2.out.mono (HG.out ▸ HB1.out.size)))⟩
        rw [HF.out, ← HA.out, ← HZ.out]
        simp [ByteArray.data_append]
      · have hq2 : (lo == hi) = false := by simpa using hq
        clear he
        go_wp2_with fail
        refine region_list (T := tab2 [
            Sq.val (.pointer (some ⟨g, 0, none⟩)), Sq.val (.int .i64 lo), Sq.val (.string A), Sq.val (.string ((⟨#[91]⟩ : ByteArray) ++ A)), Sq.val (.string (((⟨#[91]⟩ : ByteArray) ++ A) ++ (⟨#[44, 32]⟩ : ByteArray))), Sq.val (.pointer (some ⟨g, 1, none⟩)), Sq.val (.int .i64 hi), Sq.val (.string Z), Sq.val (.string ((((⟨#[91]⟩ : ByteArray) ++ A) ++ (⟨#[44, 32]⟩ : ByteArray)) ++ Z)), Sq.val (.string (((((⟨#[91]⟩ : ByteArray) ++ A) ++ (⟨#[44, 32]⟩ : ByteArray)) ++ Z) ++ (⟨#[93]⟩ : ByteArray)))]) 10
          [_, _, _, _, _, _, _, _, _, _, _] (by kernel_rfl) (by kernel_rfl) (by kernel_rfl) (by kernel_rfl) (by kernel_rfl) (by kernel_rfl) rfl ?_ ?_
        · refine AllIn.cons ?_ ?_
          · intro a w hz hb ho hg
            have e1 : a.tmps.getD 1 undef = .pointer (some ⟨g, 0, none⟩) := ho 1 (by kernel_rfl)
            have f1 := Rg.gd e1
            exact wv hb rfl (by simp [execOp, Act.eval, e1, f1, go_sem]) rfl
          refine AllIn.cons ?_ ?_
          · intro a w hz hb ho hg
            have e20 := gq (j := 0) hg rfl rfl rfl rfl
            have f20 := Rg.gd e20
            have q := (hb.cell (p := ⟨g, 0, none⟩) hl).trans c0
            exact wv hb rfl (by simp [execOp, Act.eval, e20, f20, q, go_sem]) rfl
          refine AllIn.cons ?_ ?_
          · intro a w hz hb ho hg
            have e21 := gq (j := 1) hg rfl rfl rfl rfl
            have f21 := Rg.gd e21
            exact Or.inl ⟨wanted_none rfl, wp_calls hb.size (run_call (args := #[.int .i64 lo]) enters_fmt (by simp [Act.eval, f21])) ((Fmt_any lo w (by have := HV.out; omega) (by have := HV.out; omega) (HT1.out.below hb) A HA.out).mono (by rintro e w' ⟨rfl, hb2⟩; exact ⟨_, rfl, hb2, rfl⟩))⟩
          refine AllIn.cons ?_ ?_
          · intro a w hz hb ho hg
            have e22 := gq (j := 2) hg rfl rfl rfl rfl
            have f22 := Rg.gd e22
            exact Or.inl ⟨wanted_none rfl, wp_value hb.size (by simp [execOp, Act.eval, e22, f22, go_sem]; omega) (Below.refl _ _) rfl⟩
          refine AllIn.cons ?_ ?_
          · intro a w hz hb ho hg
            have e23 := gq (j := 3) hg rfl rfl rfl rfl
            have f23 := Rg.gd e23
            exact Or.inl ⟨wanted_none rfl, wp_value hb.size (by simp [execOp, Act.eval, e23, f23, go_sem]; omega) (Below.refl _ _) rfl⟩
          refine AllIn.cons ?_ ?_
          · intro a w hz hb ho hg
            have e1 : a.tmps.getD 1 undef = .pointer (some ⟨g, 0, none⟩) := ho 1 (by kernel_rfl)
            have f1 := Rg.gd e1
            exact wv hb rfl (by simp [execOp, Act.eval, e1, f1, go_sem]) rfl
          refine AllIn.cons ?_ ?_
          · intro a w hz hb ho hg
            have e25 := gq (j := 5) hg rfl rfl rfl rfl
            have f25 := Rg.gd e25
            have q := (hb.cell (p := ⟨g, 1, none⟩) hl).trans c1
            exact wv hb rfl (by simp [execOp, Act.eval, e25, f25, q, go_sem]) rfl
          refine AllIn.cons ?_ ?_
          · intro a w hz hb ho hg
            have e26 := gq (j := 6) hg rfl rfl rfl rfl
            have f26 := Rg.gd e26
            exact Or.inl ⟨wanted_none rfl, wp_calls hb.size (run_call (args := #[.int .i64 hi]) enters_fmt (by simp [Act.eval, f26])) ((Fmt_any hi w (by have := HV.out; omega) (by have := HV.out; omega) (HT1.out.below hb) Z HZ.out).mono (by rintro e w' ⟨rfl, hb2⟩; exact ⟨_, rfl, hb2, rfl⟩))⟩
          refine AllIn.cons ?_ ?_
          · intro a w hz hb ho hg
            have e24 := gq (j := 4) hg rfl rfl rfl rfl
            have e27 := gq (j := 7) hg rfl rfl rfl rfl
            have f24 := Rg.gd e24
            have f27 := Rg.gd e27
            exact Or.inl ⟨wanted_none rfl, wp_value hb.size (by simp [execOp, Act.eval, e24, f24, e27, f27, go_sem]; omega) (Below.refl _ _) rfl⟩
          refine AllIn.cons ?_ ?_
          · intro a w hz hb ho hg
            have e28 := gq (j := 8) hg rfl rfl rfl rfl
            have f28 := Rg.gd e28
            exact Or.inl ⟨wanted_none rfl, wp_value hb.size (by simp [execOp, Act.eval, e28, f28, go_sem]; omega) (Below.refl _ _) rfl⟩
          exact AllIn.nil
        intro a w2 hd hz hb ho hg
        have e20 := gv (hg 0 (by decide)) rfl rfl rfl
        have e21 := gv (hg 1 (by decide)) rfl rfl rfl
        have e22 := gv (hg 2 (by decide)) rfl rfl rfl
        have e23 := gv (hg 3 (by decide)) rfl rfl rfl
        have e24 := gv (hg 4 (by decide)) rfl rfl rfl
        have e25 := gv (hg 5 (by decide)) rfl rfl rfl
        have e26 := gv (hg 6 (by decide)) rfl rfl rfl
        have e27 := gv (hg 7 (by decide)) rfl rfl rfl
        have e28 := gv (hg 8 (by decide)) rfl rfl rfl
        have e29 := gv (hg 9 (by decide)) rfl rfl rfl
        have hA := ho.frame hz
        simp only [List.take_succ_cons, List.take_zero, List.filterMap_cons, List.filterMap_nil, List.foldl_cons, List.foldl_nil, e20, e21, e22, e23, e24, e25, e26, e27, e28, e29, List.setIfInBounds_toArray, List.set_cons_zero, List.set_cons_succ] at hA
        obtain ⟨tm, df⟩ := a
        simp only at hd hA
        subst hd
        subst hA
        simp only [List.drop_succ_cons, List.drop_zero]
        have HH2 := Aside.mk hb
        clear hz ho hg hb e20 e21 e22 e23 e24 e25 e26 e27 e28 e29
        go_wp2_with fail
        go_ret
        refine ⟨⟨_, rfl, ?_⟩, HG.out ▸ (HB1.out.trans (HH2.out.mono (HG.out ▸ HB1.out.size)))⟩
        rw [HF.out, ← HA.out, ← HZ.out]
        simp [ByteArray.data_append]
end Go.Proofs.YthcidkidpiaomaaGreatDoor.Od
end
section
set_option linter.unusedVariables false
set_option linter.unusedSimpArgs false
namespace Go.Proofs.YthcidkidpiaomaaGreatDoor.Od
open Go.RowKit Rg
theorem und_int : Tryz.prog.underlying 3 = some (.int .i64) := by kernel_rfl
def IsM (w : World) (r : Nat) (l : List (Int × Value)) : Prop := ∃ (es : Array MapEntry) (clock : Nat), w.heap[r]? = some (.map es clock) ∧ es.toList.map (fun e => (e.key, e.val)) = l.map fun x => ((.int .i64 x.1 : Value), x.2)
theorem IsM.nil (w : World) : IsM (w.alloc (.map #[] 0)) w.heap.size [] := ⟨_, _, heap_alloc_last _ _, rfl⟩
theorem findNow_none (x : Int) : ∀ (es : List MapEntry) (l : List (Int × Value)) (i : Nat), es.map (fun e => (e.key, e.val)) = l.map (fun p => ((.int .i64 p.1 : Value), p.2)) → (∀ p ∈ l, p.1 ≠ x) → Instr.findNow (.int .i64) (.int .i64 x) es i = some none
  | [], _, _, _, _ => rfl
  | e :: es, [], _, h, _ => by simp at h
  | e :: es, p :: l, i, h, hn => by
    simp only [List.map_cons, List.cons.injEq, Prod.mk.injEq] at h
    have hp : ¬ x = p.1 := fun e => hn p (List.mem_cons_self ..) e.symm
    unfold Instr.findNow
    rw [h.1.1]
    simp only [Instr.sameNow]
    rw [if_pos trivial]
    cases hb : (x == p.1) with
    | true => exact absurd (by simpa using hb) hp
    | false => exact findNow_none x es l (i + 1) h.2 fun q hq => hn q (List.mem_cons_of_mem _ hq)
theorem findNow_some (x : Int) (u : Value) : ∀ (es : List MapEntry) (l : List (Int × Value)) (i : Nat), es.map (fun e => (e.key, e.val)) = l.map (fun p => ((.int .i64 p.1 : Value), p.2)) → l.find? (fun p => p.1 == x) = some (x, u) → ∃ j, Instr.findNow (.int .i64) (.int .i64 x) es i = some (some (j, u))
  | [], [], _, _, h => by simp at h
  | [], _ :: _, _, h, _ => by simp at h
  | e :: es, [], _, h, _ => by simp at h
  | e :: es, p :: l, i, h, hf => by
    simp only [List.map_cons, List.cons.injEq, Prod.mk.injEq] at h
    unfold Instr.findNow
    rw [h.1.1, h.1.2]
    simp only [Instr.sameNow]
    by_cases hp : p.1 = x
    · rw [List.find?_cons_of_pos (by simpa using hp)] at hf
      obtain rfl := Option.some.inj hf
      exact ⟨i, by simp⟩
    · rw [List.find?_cons_of_neg (by simpa using hp)] at hf
      have hp' : ¬ x = p.1 := fun e => hp e.symm
      obtain ⟨j, hj⟩ := findNow_some x u es l (i + 1) h.2 hf
      refine ⟨j, ?_⟩
      rw [if_pos trivial]
      cases hb : (x == p.1) with
      | true => exact absurd (by simpa using hb) hp'
      | false => exact hj
theorem run_look (w : World) (t e : TypeId) (ht : Tryz.prog.underlying t = some (.map 3 e)) {r : Nat} {l : List (Int × Value)} (h : IsM w r l) (x : Int) (u : Value) (hl : l.find? (fun p => p.1 == x) = some (x, u)) :
    (Instr.lookup t (.map (some r)) (.int .i64 x) false).run Tryz.prog w = .ok u w := by
  obtain ⟨es, clock, hh, hes⟩ := h
  obtain ⟨j, hj⟩ := findNow_some x u es.toList l 0 hes hl
  have hc : (Instr.checkKey es.isEmpty 10000 3 (.int .i64 x)).run Tryz.prog w = .ok () w := MapKept.run_checkKey (k := .int .i64 x) und_int rfl _ 9999
  simp [Instr.lookup, run_underlying ht, MapKept.run_getObj_map hh, hc, MapKept.run_findKey und_int hj, Result.andThen]
theorem wpList_ins (w : World) {ops : Array Oper} {rest : List Oper} {o : Oper} {a : Act} {Q : Exit → Act → World → Prop} (hg : o.guard = none) (t : TypeId) (m k v : Operand) (hop : o.op = Op.insert t m k v) (e : TypeId) (ht : Tryz.prog.underlying t = some (.map 3 e))
    (r : Nat) (l : List (Int × Value)) (hm : a.eval m = .map (some r)) (h : IsM w r l) (x : Int) (hx : a.eval k = .int .i64 x) (u : Value) (hu : a.eval v = u) (hn : ∀ p ∈ l, p.1 ≠ x) (base : Nat) (hb : base ≤ r)
    (hK : ∀ w', IsM w' r (l ++ [(x, u)]) → Below base w w' → wpList Tryz.prog ops Q rest (a.put o.dst undef) w') : wpList Tryz.prog ops Q (o :: rest) a w := by
  refine wpList_plain hg fun K' hK' => ?_
  obtain ⟨es, clock, hh, hes⟩ := h
  have hj := findNow_none x es.toList l 0 hes hn
  have hc : (Instr.checkKey false 10000 3 (.int .i64 x)).run Tryz.prog w = .ok () w := MapKept.run_checkKey (k := .int .i64 x) und_int rfl _ 9999
  have hrun : (Instr.mapUpdate t (.map (some r)) (.int .i64 x) u).run Tryz.prog w = .ok () { w with heap := w.heap.setIfInBounds r (.map (es.push { key := .int .i64 x, val := u, born := clock }) (clock + 1)) } := by
    simp [Instr.mapUpdate, run_underlying ht, MapKept.run_getObj_map hh, hc, MapKept.run_findKey und_int hj, MapKept.run_setObj_map _ hh, Result.andThen]
  unfold Oper.wp
  simp [execOp, hop, hm, hx, hu, hrun, Result.andThen]
  have hs := MapKept.heap_set (o' := .map (es.push { key := .int .i64 x, val := u, born := clock }) (clock + 1)) hh
  exact hK' _ _ (hK _ ⟨_, _, hs.1, by simp [hes]⟩ ⟨rfl, rfl, rfl, by simp, fun j hj => hs.2 j (by omega)⟩)
theorem IsM.below {w w' : World} {r : Nat} {l : List (Int × Value)} (h : IsM w r l) (hb : Below w.heap.size w w') : IsM w' r l := by
  obtain ⟨es, clock, hh, hes⟩ := h
  exact ⟨es, clock, by rw [hb.block _ (lt_of hh)]; exact hh, hes⟩
theorem Fs.at {w : World} {v : Value} {fs : List (List Nd)} (h : Fs w v fs) : ∃ ao c, v = .slice ao fs.length c ∧ ∀ i e, fs[i]? = some e → ∃ b o u, ao = some ⟨b, o, none⟩ ∧ w.cell? ⟨b, o + i, none⟩ = some u ∧ RdN w u e := by
  rcases h.out with ⟨rfl, ao, c, hv⟩ | ⟨b, o, c, us, hv, hl, hc, hr⟩
  · exact ⟨ao, c, hv, fun i e he => by simp at he⟩
  · refine ⟨_, c, hv, fun i e he => ?_⟩
    have hi : i < us.length := by rw [hl]; exact (List.getElem?_eq_some_iff.1 he).1
    have hu : us[i]? = some us[i] := List.getElem?_eq_getElem hi
    exact ⟨b, o, us[i], rfl, hc i _ hu, hr i _ e hu he⟩
theorem Strs.at {w : World} {v : Value} {xs : List ByteArray} (h : Strs w v xs) : ∃ ao c, v = .slice ao xs.length c ∧ ∀ i y, xs[i]? = some y → ∃ b o, ao = some ⟨b, o, none⟩ ∧ w.cell? ⟨b, o + i, none⟩ = some (.string y) := by
  rcases h.out with ⟨rfl, ao, c, hv⟩ | ⟨b, o, c, hv, hcp, hc⟩
  · exact ⟨ao, c, hv, fun i y hy => by simp at hy⟩
  · refine ⟨_, c, hv, fun i y hy => ?_⟩
    obtain ⟨hi, rfl⟩ := List.getElem?_eq_some_iff.1 hy
    exact ⟨b, o, rfl, by rw [hc i hi, getElem!_pos xs i hi]⟩
theorem strs_own {w : World} {base n : Nat} {v : Value} {xs : List ByteArray} (h : w.ownsRow base 9 1 v n (xs.map Value.string)) (hn : xs.length = n) (h0 : 0 < n) :
    ∃ b c, v = .slice (some ⟨b, 0, none⟩) n c ∧ ∀ i y, xs[i]? = some y → w.cell? ⟨b, i, none⟩ = some (.string y) := by
  obtain ⟨h1, h2⟩ := h
  rcases h2 with ⟨rfl, hz⟩ | ⟨g, cap, cur, rfl, hg, hh, hcap, hm, hs, ht⟩
  · omega
  · refine ⟨g, cap, rfl, fun i y hy => ?_⟩
    have hrow : w.ownsRow base 9 1 (.slice (some ⟨g, 0, none⟩) n cap) n (xs.map Value.string) := ⟨h1, Or.inr ⟨g, cap, cur, rfl, hg, hh, hcap, hm, hs, ht⟩⟩
    have hi := (List.getElem?_eq_some_iff.1 hy).1
    rw [hrow.cellAt i (by omega), List.getElem?_map, hy]; rfl
theorem kid_len {t k : Tr} (h : k ∈ kids t) : (flat k).length < (flat t).length := by
  rw [flat_kids t, List.length_cons, List.length_flatMap]
  have : (flat k).length ≤ ((kids t).map fun k => (flat k).length).sum := by
    obtain ⟨l1, l2, e⟩ := List.append_of_mem h
    rw [e]; simp; omega
  omega
end Go.Proofs.YthcidkidpiaomaaGreatDoor.Od
end
section
set_option linter.unusedVariables false
set_option linter.unusedSimpArgs false
namespace Go.Proofs.YthcidkidpiaomaaGreatDoor.Od
open Go.RowKit Rg
def binL : List (Int × Value) := [(7, .func (.func 113) #[] #[]), (8, .func (.func 114) #[] #[]), (9, .func (.func 115) #[] #[]), (10, .func (.func 116) #[] #[])]
set_option maxRecDepth 100000 in
set_option maxHeartbeats 8000000 in
theorem binaryOps_any (w : World) : Calls Tryz.prog 70 #[] w fun e w' => ∃ r, e = .returned (.map (some r)) ∧ w.heap.size ≤ r ∧ IsM w' r binL ∧ Below w.heap.size w w' := by
  have HBM : Aside (Below w.heap.size w (w.alloc (.map #[] 0))) := ⟨(Below.refl _ _).alloc (Nat.le_refl _) _⟩
  have hm0 := IsM.nil w
  have hmm := @run_makeMap Tryz.prog
  obtain ⟨g, hg⟩ : ∃ g, w.heap.size = g := ⟨_, rfl⟩
  rw [hg] at hm0 HBM
  have hbz : g ≤ g := Nat.le_refl _
  go_enter Tryz.func70, Tryz.ntmps70
  go_wp2_with (first | ((try simp only [hg]); refine wpList_ins _ rfl 94 _ _ _ rfl 63 (by kernel_rfl) g _ rfl (by assumption) _ rfl _ rfl (by simp) g hbz ?_; intro wx hmx hbx; replace HBM := Aside.mk (HBM.out.trans hbx); clear hbx))
  go_ret
  exact ⟨g, by simp [hg], by omega, hmx, hg ▸ HBM.out⟩
structure Kept (g : Nat) (w w' : World) : Prop where
  os : w'.os = w.os
  tape : w'.tape = w.tape
  output : w'.output = w.output
  size : w.heap.size ≤ w'.heap.size
  block : ∀ k, k < w.heap.size → k ≠ g → w'.heap[k]? = w.heap[k]?
theorem Kept.refl (g : Nat) (w : World) : Kept g w w := ⟨rfl, rfl, rfl, Nat.le_refl _, fun _ _ _ => rfl⟩
theorem Kept.trans {g : Nat} {w w1 w2 : World} (h : Kept g w w1) (k : Kept g w1 w2) : Kept g w w2 :=
  ⟨k.os.trans h.os, k.tape.trans h.tape, k.output.trans h.output, Nat.le_trans h.size k.size, fun j hj hg => (k.block j (Nat.lt_of_lt_of_le hj h.size) hg).trans (h.block j hj hg)⟩
theorem Kept.of {g : Nat} {w w1 : World} (h : Below w.heap.size w w1) : Kept g w w1 := ⟨h.os, h.tape, h.output, h.size, fun j hj _ => h.block j hj⟩
theorem Kept.cell {g : Nat} {w w' : World} {p : Addr} {v : Value} (h : Kept g w w') (hp : w.cell? p = some v) (hg : p.block ≠ g) : w'.cell? p = some v := by
  have hb := World.block_lt_of_cell? w p hp
  have := h.block p.block hb hg
  unfold World.cell? at hp ⊢
  rw [this]; exact hp
theorem Kept.set {g i : Nat} {w : World} (u : Value) : Kept g w (w.setCell ⟨g, i, none⟩ u) :=
  ⟨rfl, rfl, rfl, by simp [World.setCell], fun k hk hg => Below.heap_setCell _ _ _ _ hg⟩
theorem Kept.below {g : Nat} {w w' : World} (h : Kept g w w') {n : Nat} (hn : n ≤ g) (hs : n ≤ w.heap.size) : Below n w w' := ⟨h.os, h.tape, h.output, h.size, fun k hk => h.block k (by omega) (by omega)⟩
theorem IsM.kept {g : Nat} {w w' : World} {r : Nat} {l : List (Int × Value)} (h : IsM w r l) (hk : Kept g w w') (hr : r ≠ g) : IsM w' r l := by
  obtain ⟨es, clock, hh, hes⟩ := h
  exact ⟨es, clock, by rw [hk.block _ (lt_of hh) hr]; exact hh, hes⟩
end Go.Proofs.YthcidkidpiaomaaGreatDoor.Od
end
section
set_option linter.unusedVariables false
set_option linter.unusedSimpArgs false
namespace Go.Proofs.YthcidkidpiaomaaGreatDoor.Od
open Go.RowKit Rg
structure EvA where
  ge : Nat
  gi : Nat
  gx : Nat
  gt : Nat
  gv : Nat
  gb : Nat
  r : Nat
  b : Nat
  o : Nat
  c : Nat
  ax : Option Addr
  cx : Nat
def EvA.caps (E : EvA) : Array Value := #[.pointer (some ⟨E.ge, 0, none⟩), .pointer (some ⟨E.gi, 0, none⟩), .pointer (some ⟨E.gx, 0, none⟩), .pointer (some ⟨E.gt, 0, none⟩), .pointer (some ⟨E.gv, 0, none⟩), .pointer (some ⟨E.gb, 0, none⟩)]
structure Env (E : EvA) (e : List Nd) (xs : List Iv) (tt : Iv) (w : World) : Prop where
  ce : w.cell? ⟨E.ge, 0, none⟩ = some (.slice (some ⟨E.b, E.o, none⟩) e.length E.c)
  cx : w.cell? ⟨E.gx, 0, none⟩ = some (.slice E.ax xs.length E.cx)
  ct0 : w.cell? ⟨E.gt, 0, none⟩ = some (.int .i64 tt.1)
  ct1 : w.cell? ⟨E.gt, 1, none⟩ = some (.int .i64 tt.2)
  cv : w.cell? ⟨E.gv, 0, none⟩ = some (.func (.func 71) #[] E.caps)
  cb : w.cell? ⟨E.gb, 0, none⟩ = some (.map (some E.r))
  nodes : ∀ j u, (nds e)[j]? = some u → w.cell? ⟨E.b, E.o + j, none⟩ = some u
  xr : ∀ j a, xs[j]? = some a → ∃ bx ox, E.ax = some ⟨bx, ox, none⟩ ∧ bx ≠ E.gi ∧ w.cell? ⟨bx, ox + j * 2, none⟩ = some (.int .i64 a.1) ∧ w.cell? ⟨bx, ox + j * 2 + 1, none⟩ = some (.int .i64 a.2)
  mp : IsM w E.r binL
  ends : Ends w
  few : e.length ≤ 9000
  sep : E.ge ≠ E.gi ∧ E.gx ≠ E.gi ∧ E.gt ≠ E.gi ∧ E.gv ≠ E.gi ∧ E.gb ≠ E.gi ∧ E.r ≠ E.gi ∧ E.b ≠ E.gi ∧ 0 ≠ E.gi ∧ 1 ≠ E.gi
theorem Env.kept {E : EvA} {e : List Nd} {xs : List Iv} {tt : Iv} {w w' : World} (h : Env E e xs tt w) (k : Kept E.gi w w') : Env E e xs tt w' := by
  obtain ⟨s1, s2, s3, s4, s5, s6, s7, s8, s9⟩ := h.sep
  exact ⟨k.cell h.ce s1, k.cell h.cx s2, k.cell h.ct0 s3, k.cell h.ct1 s3, k.cell h.cv s4, k.cell h.cb s5, fun j u hu => k.cell (h.nodes j u hu) s7,
    fun j a ha => by obtain ⟨bx, ox, e1, e2, e3, e4⟩ := h.xr j a ha; exact ⟨bx, ox, e1, e2, k.cell e3 e2, k.cell e4 e2⟩,
    h.mp.kept k s6, ⟨fun j F hj => k.cell (h.ends.pr j F hj) s8, fun j F hj => k.cell (h.ends.qu j F hj) s9⟩, h.few, h.sep⟩
def Ctr (g i : Nat) (w : World) : Prop := w.heap[g]? = some (.cells #[.int .i64 (i : Nat)] 3 (0, 0))
theorem Ctr.below {g i : Nat} {w w' : World} (h : Ctr g i w) (hb : Below w.heap.size w w') : Ctr g i w' := (hb.block _ (heap_lt h)).trans h
theorem Ctr.set {g i j : Nat} {w : World} (h : Ctr g i w) : Ctr g j (w.setCell ⟨g, 0, none⟩ (.int .i64 (j : Nat))) := by
  have := row_cell (i := 0) h (.int .i64 (j : Nat))
  exact this
theorem drop_hd {e R : List Nd} {t : Tr} {i : Nat} (h : e.drop i = flat t ++ R) : e[i]? = some (hdN t) ∧ i + (flat t).length ≤ e.length ∧ e.drop (i + 1) = (kids t).flatMap flat ++ R := by
  have h1 : e[i]? = some (hdN t) := by
    have : (e.drop i)[0]? = some (hdN t) := by rw [h, flat_kids]; rfl
    rw [List.getElem?_drop] at this; simpa using this
  have h2 := congrArg List.length h
  rw [List.length_drop, List.length_append] at h2
  have hlt := (List.getElem?_eq_some_iff.1 h1).1
  refine ⟨h1, by have := flat_pos t; omega, ?_⟩
  have h3 : (e.drop i).drop 1 = (kids t).flatMap flat ++ R := by rw [h, flat_kids]; rfl
  rw [List.drop_drop] at h3; exact h3
theorem Kept.put {g : Nat} {w W W' : World} (h : Kept g w W) (hb : Below w.heap.size W W') : Kept g w W' :=
  ⟨hb.os.trans h.os, hb.tape.trans h.tape, hb.output.trans h.output, Nat.le_trans h.size hb.size, fun k hk hg => (hb.block k hk).trans (h.block k hk hg)⟩
theorem ev_start {g i : Nat} {w : World} {x : Nd} (p q : Int) (h : Ctr g i w) (W : World) (hW : ((w.setCell ⟨g, 0, none⟩ (.int .i64 ((i : Int) + 1))).alloc (.cells #[.int .i64 p, .int .i64 q] 29)).alloc (.cells #[.int .i64 x.op, .int .i64 x.n, .int .i64 x.lo, .int .i64 x.hi] 79) = W) :
    Kept g w W ∧ Ctr g (i + 1) W ∧ W.heap[w.heap.size]? = some (.cells #[.int .i64 p, .int .i64 q] 29 (0, 0)) ∧ W.heap[w.heap.size + 1]? = some (.cells #[.int .i64 x.op, .int .i64 x.n, .int .i64 x.lo, .int .i64 x.hi] 79 (0, 0)) := by
  have hs : (w.setCell ⟨g, 0, none⟩ (.int .i64 ((i : Int) + 1))).heap.size = w.heap.size := by simp [World.setCell]
  have hk : Kept g w (w.setCell ⟨g, 0, none⟩ (.int .i64 ((i : Int) + 1))) := Kept.set _
  have hc : Ctr g (i + 1) (w.setCell ⟨g, 0, none⟩ (.int .i64 ((i : Int) + 1))) := h.set (j := i + 1)
  generalize w.setCell ⟨g, 0, none⟩ (.int .i64 ((i : Int) + 1)) = w1 at hW hs hk hc
  have e1 : (w1.alloc (.cells #[.int .i64 p, .int .i64 q] 29)).heap.size = w1.heap.size + 1 := World.size_alloc ..
  have r1 := heap_alloc_last w1 (.cells #[.int .i64 p, .int .i64 q] 29)
  have r2 := heap_alloc_last (w1.alloc (.cells #[.int .i64 p, .int .i64 q] 29)) (.cells #[.int .i64 x.op, .int .i64 x.n, .int .i64 x.lo, .int .i64 x.hi] 79)
  have b1 : Below w1.heap.size w1 (w1.alloc (.cells #[.int .i64 p, .int .i64 q] 29)) := (Below.refl _ _).alloc (Nat.le_refl _) _
  have b2 : Below (w1.heap.size + 1) (w1.alloc (.cells #[.int .i64 p, .int .i64 q] 29)) W := by rw [← hW]; exact (Below.refl _ _).alloc (by omega) _
  rw [hW] at r2
  rw [e1] at r2
  have b3 : Below w1.heap.size w1 W := b1.trans (b2.mono (by omega))
  rw [hs] at r1 r2 b3
  exact ⟨hk.put b3, (hc.below (by rw [hs]; exact b3)), by rw [b2.block _ (by omega)]; exact r1, r2⟩
theorem un4 (a : Iv) : unI 4 a = negI a := by unfold unI; rw [if_pos rfl]
theorem un5 (a : Iv) : unI 5 a = sqrI a := by unfold unI; rw [if_neg (by decide), if_pos rfl]
theorem un6 (a : Iv) : unI 6 a = sqrtI a := by unfold unI; rw [if_neg (by decide), if_neg (by decide)]
theorem negV_any (a : Iv) (ha : okI a) (w : World) : Calls Tryz.prog 72 #[ivV a] w fun e w' => e = .returned (ivV (negI a)) ∧ Below w.heap.size w w' := by
  have := ha.bd
  simp only [maxV] at this
  exact neg_any a.1 a.2 w (by omega) (by omega) (by omega) (by omega)
theorem enters_ev : ∀ args w, (callFunc 71 args).run Tryz.prog w = .ok (.enter 71 args) w := fun args w => by kernel_rfl
theorem run_callc {dst : Option Tmp} {type : TypeId} {pos : String} {after : Array Edge} {guard : Option (Nat × Bool)} {a : Act} {w : World} {f : Nat} {x : Operand} {cap : Array Value} {ats : Array TypeId} (hx : a.eval x = .func (.func f) #[] cap) (hf : ∀ args w, (callFunc f args).run Tryz.prog w = .ok (.enter f args) w) :
    (execOp a.eval { dst, op := .call { callee := .value x, args := #[], argTypes := ats }, type, pos, after, guard }).run Tryz.prog w = .ok (.enter f cap) w := by
  show Sem.run _ (do let d ← Deferred.ofValue (a.eval x) (#[].map a.eval); invoke d.target d.args) w = _
  rw [hx, Array.map_empty]
  show Sem.run _ (callFunc f (#[] ++ #[] ++ cap)) w = _
  rw [Array.append_empty, Array.empty_append]
  exact hf _ _
def tabE (E : EvA) (gn : Nat) (op : Int) (va vz : Iv) (fv : Value) (j : Nat) : TabW where
  S := fun i v w => match i with
    | 0 => v = .map (some E.r)
    | 1 => v = .pointer (some ⟨gn, 0, none⟩)
    | 2 => v = .int .i64 op
    | 3 => v = fv
    | 4 => v = ivV va
    | 5 => v = .func (.func 71) #[] E.caps
    | 6 => v = ivV vz ∧ Ctr E.gi j w
    | _ => True
  R := fun b w0 w => Kept E.gi w0 w ∧ (b = false → Below w0.heap.size w0 w)
  call := 6
  E := fun j w w' => match j with
    | 6 => Kept E.gi w w'
    | _ => w' = w
  comp := fun j b w0 w w' h he => by
    match j, he with
    | 0, he | 1, he | 2, he | 3, he | 4, he | 5, he => subst he; exact ⟨h.1, fun e => h.2 (by simpa using e)⟩
    | (k + 7), he => subst he; exact ⟨h.1, fun e => h.2 (by simpa using e)⟩
    | 6, he => exact ⟨h.1.trans he, fun e => by simp at e⟩
  mono := fun i j v w w' hij h he => by
    match i, h with
    | 0, h | 1, h | 2, h | 3, h | 4, h | 5, h => exact h
    | (_ + 7), _ => trivial
    | 6, h =>
      match j, he with
      | 0, he | 1, he | 2, he | 3, he | 4, he | 5, he | (_ + 7), he => exact he ▸ h
      | 6, _ => exact absurd rfl hij
theorem bin7 (a b : Iv) : binI 7 a b = addI a b := by unfold binI; rw [if_pos rfl]
theorem bin8 (a b : Iv) : binI 8 a b = subI a b := by unfold binI; rw [if_neg (by decide), if_pos rfl]
theorem bin9 (a b : Iv) : binI 9 a b = mulI a b := by unfold binI; rw [if_neg (by decide), if_neg (by decide), if_pos rfl]
theorem bin10 (a b : Iv) : binI 10 a b = divI a b := by unfold binI; rw [if_neg (by decide), if_neg (by decide), if_neg (by decide)]
theorem bin_calls {op : Int} (h : 7 ≤ op ∧ op ≤ 10) : ∃ F, binL.find? (fun p => p.1 == op) = some (op, .func (.func F) #[] #[]) ∧ (∀ args w, (callFunc F args).run Tryz.prog w = .ok (.enter F args) w) ∧
    ∀ a b, okI a → okI b → ∀ w, Ends w → Calls Tryz.prog F #[ivV a, ivV b] w fun e w' => e = .returned (ivV (binI op a b)) ∧ Below w.heap.size w w' := by
  rcases (show op = 7 ∨ op = 8 ∨ op = 9 ∨ op = 10 by omega) with rfl | rfl | rfl | rfl
  · exact ⟨113, rfl, fun args w => by kernel_rfl, fun a b ha hb w _ => by rw [bin7]; exact add_any a b ha hb w⟩
  · exact ⟨114, rfl, fun args w => by kernel_rfl, fun a b ha hb w _ => by rw [bin8]; exact sub_any a b ha hb w⟩
  · exact ⟨115, rfl, fun args w => by kernel_rfl, fun a b ha hb w hE => by rw [bin9]; exact mul_any a b ha hb w hE⟩
  · exact ⟨116, rfl, fun args w => by kernel_rfl, fun a b ha hb w hE => by rw [bin10]; exact div_any a b ha hb w hE⟩
set_option maxRecDepth 100000 in
set_option maxHeartbeats 16000000 in
theorem evalC (E : EvA) (e : List Nd) (xs : List Iv) (tt : Iv) (vars : List (List UInt8)) (hvl : vars.length ≤ xs.length) (hx : ∀ a ∈ xs, okI a) (ht : okI tt) : ∀ (n : Nat) (t : Tr), (flat t).length ≤ n → okT vars t → ∀ (i : Nat) (R : List Nd) (w : World), Env E e xs tt w → Ctr E.gi i w → e.drop i = flat t ++ R →
    Calls Tryz.prog 71 E.caps w fun e' w' => e' = .returned (ivV (ev xs tt t)) ∧ Kept E.gi w w' ∧ Ctr E.gi (i + (flat t).length) w'
  | 0, t, hn, _ => absurd (List.length_eq_zero_iff.1 (Nat.le_zero.1 hn)) (flat_ne t)
  | n + 1, t, hn, hok => by
    intro i R w hE hC hd
    have IH : Aside (∀ k ∈ kids t, ∀ (i : Nat) (R : List Nd) (w : World), Env E e xs tt w → Ctr E.gi i w → e.drop i = flat k ++ R →
      Calls Tryz.prog 71 E.caps w fun e' w' => e' = .returned (ivV (ev xs tt k)) ∧ Kept E.gi w w' ∧ Ctr E.gi (i + (flat k).length) w') := ⟨fun k hk => evalC E e xs tt vars hvl hx ht n k (by have := kid_len hk; omega) (kids_ok hok k hk)⟩
    have HOKK : Aside (∀ k ∈ kids t, okI (ev xs tt k)) := ⟨fun k hk => ev_ok hx ht k (kids_ok hok k hk)⟩
    have HOK := Aside.mk hok
    obtain ⟨hd1, hd2, hd3⟩ := drop_hd hd
    have HD := Aside.mk hd3
    have hfew := hE.few
    have hi1 : (i : Int) < (e.length : Int) := by have := flat_pos t; omega
    have hil : i + 1 ≤ 9000 := by have := flat_pos t; omega
    have hal : Below w.heap.size w (w.alloc (.cells #[.int .i64 0, .int .i64 0] 29)) := (Below.refl _ _).alloc (Nat.le_refl _) _
    have hE0 := hE.kept (Kept.of hal)
    have hC0 := hC.below hal
    have hR0 := heap_alloc_last w (.cells #[.int .i64 0, .int .i64 0] 29)
    have HAL := Aside.mk hal
    have HR0 := Aside.mk hR0
    have nc : ∀ r, r < 4 → ∀ u, (nd4 (hdN t))[r]? = some u → (w.alloc (.cells #[.int .i64 0, .int .i64 0] 29)).cell? ⟨E.b, E.o + (i * 4 + r), none⟩ = some u := fun r hr u hu => hE0.nodes (i * 4 + r) u (by rw [nds_get e i _ r hd1 hr]; exact hu)
    have n0 := nc 0 (by decide) _ rfl
    have n1 := nc 1 (by decide) _ rfl
    have n2 := nc 2 (by decide) _ rfl
    have n3 := nc 3 (by decide) _ rfl
    simp only [Nat.add_zero, ← Nat.add_assoc] at n0 n1 n2 n3
    have hce := hE0.ce
    have hci : (w.alloc (.cells #[.int .i64 0, .int .i64 0] 29)).cell? ⟨E.gi, 0, none⟩ = some (.int .i64 (i : Nat)) := by rw [cell_of_row _ _ 0 _ _ _ hC0]; rfl
    have hfz : (w.alloc (.cells #[.int .i64 0, .int .i64 0] 29)).frozen? ⟨E.gi, 0, none⟩ = false := frozen_of_row _ _ 0 _ _ hC0
    have hgi := heap_lt hC
    have hw1 : IntKind.i64.wrap ((i : Int) + 1) = (i : Int) + 1 := IntWalk.i64_in _ (by omega)
    obtain ⟨s1, s2, s3, s4⟩ := ev_start (x := hdN t) 0 0 hC _ rfl
    have hEW := hE.kept s1
    have hcv := hEW.cv
    have hcx := hEW.cx
    have hct0 := hEW.ct0
    have hct1 := hEW.ct1
    have HST := Aside.mk (And.intro s1 (And.intro s2 (And.intro s3 s4)))
    have HEW := Aside.mk hEW
    have HGI := Aside.mk (And.intro hgi hil)
    have HC := Aside.mk hC
    clear hE hC hok hn hd hd1 hd2 hd3 nc hE0 hC0 hal hR0 hEW s1 s2 s3 s4 hfew hil
    unfold EvA.caps at *
    cases t with
    | num lo hi =>
      simp only [hdN] at *
      go_enter Tryz.func71, Tryz.ntmps71
      go_wp2_with fail
      obtain ⟨s1, s2, s3, -⟩ := ev_start (x := ⟨1, 0, lo, hi⟩) lo hi HC.out _ rfl
      exact ret_iv rfl rfl s3 ⟨rfl, s1, s2⟩
    | var m =>
      simp only [hdN] at *
      have hm : m < xs.length := by have : m < vars.length := HOK.out; omega
      obtain ⟨a, ha⟩ : ∃ a, xs[m]? = some a := ⟨_, List.getElem?_eq_getElem hm⟩
      obtain ⟨bx, ox, hax, hbx, ca0, ca1⟩ := HEW.out.xr m a ha
      rw [hax] at hcx
      have HV : Aside (ev xs tt (.var m) = a) := ⟨by unfold ev; rw [List.getD_eq_getElem?_getD, ha]; rfl⟩
      have hm0 : (m : Int) < (xs.length : Int) := by omega
      clear ha hax hm
      go_enter Tryz.func71, Tryz.ntmps71
      go_wp2_with fail
      obtain ⟨s1, s2, s3, -⟩ := ev_start (x := ⟨2, m, 0, 0⟩) a.1 a.2 HC.out _ rfl
      rw [HV.out]
      exact ret_iv rfl rfl s3 ⟨rfl, s1, s2⟩
    | time =>
      simp only [hdN] at *
      go_enter Tryz.func71, Tryz.ntmps71
      go_wp2_with fail
      obtain ⟨s1, s2, s3, -⟩ := ev_start (x := ⟨3, 0, 0, 0⟩) tt.1 tt.2 HC.out _ rfl
      exact ret_iv rfl rfl s3 ⟨rfl, s1, s2⟩
    | un op a =>
      simp only [hdN] at *
      have HDA : Aside (e.drop (i + 1) = flat a ++ R) := ⟨by have := HD.out; simpa [kids] using this⟩
      have hma : a ∈ kids (.un op a) := List.mem_singleton.2 rfl
      have HOA := Aside.mk (HOKK.out a hma)
      have HIA := Aside.mk (IH.out a hma (i + 1) R)
      have HFL : Aside (i + 1 + (flat a).length = i + (flat (.un op a)).length) := ⟨by simp only [flat, List.length_cons]; omega⟩
      obtain ⟨va, hva⟩ : ∃ va, ev xs tt a = va := ⟨_, rfl⟩
      have HEV : Aside (ev xs tt (.un op a) = unI op va) := ⟨by rw [← hva]; rfl⟩
      rw [hva] at HOA HIA
      have hop := HOK.out.1
      clear hva IH HOKK HD HOK hma
      rcases (show op = 4 ∨ op = 5 ∨ op = 6 by omega) with rfl | rfl | rfl
      · go_enter Tryz.func71, Tryz.ntmps71
        go_wp2_with fail
        generalize ((w.setCell ⟨E.gi, 0, none⟩ (.int .i64 ((i : Int) + 1))).alloc (.cells #[.int .i64 0, .int .i64 0] 29)).alloc (.cells #[.int .i64 4, .int .i64 0, .int .i64 0, .int .i64 0] 79) = W at HST HEW ⊢
        refine (HIA.out W HEW.out HST.out.2.1 HDA.out).mono ?_
        rintro e' w3 ⟨rfl, hk3, hc3⟩
        have hr3 := (hk3.block _ (heap_lt HST.out.2.2.1) (by have := HGI.out.1; omega)).trans HST.out.2.2.1
        have HK3 := Aside.mk (HST.out.1.trans hk3)
        have HC3 := Aside.mk hc3
        have HR3 := Aside.mk hr3
        have hge : w.heap.size ≤ w3.heap.size := HK3.out.size
        have HGE := Aside.mk hge
        clear hk3 hc3 hr3 hcv hcx hct0 hct1 HEW hge
        go_wp2_with fail
        refine (negV_any va HOA.out w3).mono ?_
        rintro e' w4 ⟨rfl, hb4⟩
        have HR4 := Aside.mk ((hb4.block _ (heap_lt HR3.out)).trans HR3.out)
        have HC4 := Aside.mk (HC3.out.below hb4)
        have HK4 := Aside.mk (HK3.out.trans (Kept.of hb4))
        clear hb4
        go_wp2_with (first | (refine wpList_store_iv rfl (.tmp 6) (.tmp 36) rfl w.heap.size _ _ rfl rfl _ _ HR4.out ?_; intro w5 hr5 hb5 hk5 hs5))
        have HV2 : Aside (ev xs tt (.un 4 a) = negI va) := ⟨by rw [HEV.out]; exact un4 va⟩
        rw [HV2.out, ← HFL.out]
        exact ret_iv rfl rfl hr5 ⟨rfl, HK4.out.put hb5, (hk5 _ (by have := HGI.out.1; omega)).trans HC4.out⟩
      · go_enter Tryz.func71, Tryz.ntmps71
        go_wp2_with fail
        generalize ((w.setCell ⟨E.gi, 0, none⟩ (.int .i64 ((i : Int) + 1))).alloc (.cells #[.int .i64 0, .int .i64 0] 29)).alloc (.cells #[.int .i64 5, .int .i64 0, .int .i64 0, .int .i64 0] 79) = W at HST HEW ⊢
        refine (HIA.out W HEW.out HST.out.2.1 HDA.out).mono ?_
        rintro e' w3 ⟨rfl, hk3, hc3⟩
        have hr3 := (hk3.block _ (heap_lt HST.out.2.2.1) (by have := HGI.out.1; omega)).trans HST.out.2.2.1
        have HK3 := Aside.mk (HST.out.1.trans hk3)
        have HC3 := Aside.mk hc3
        have HR3 := Aside.mk hr3
        have hge : w.heap.size ≤ w3.heap.size := HK3.out.size
        have HGE := Aside.mk hge
        clear hk3 hc3 hr3 hcv hcx hct0 hct1 HEW hge
        go_wp2_with fail
        refine (square_any va HOA.out w3).mono ?_
        rintro e' w4 ⟨rfl, hb4⟩
        have HR4 := Aside.mk ((hb4.block _ (heap_lt HR3.out)).trans HR3.out)
        have HC4 := Aside.mk (HC3.out.below hb4)
        have HK4 := Aside.mk (HK3.out.trans (Kept.of hb4))
        clear hb4
        go_wp2_with (first | (refine wpList_store_iv rfl (.tmp 6) (.tmp 41) rfl w.heap.size _ _ rfl rfl _ _ HR4.out ?_; intro w5 hr5 hb5 hk5 hs5))
        have HV2 : Aside (ev xs tt (.un 5 a) = sqrI va) := ⟨by rw [HEV.out]; exact un5 va⟩
        rw [HV2.out, ← HFL.out]
        exact ret_iv rfl rfl hr5 ⟨rfl, HK4.out.put hb5, (hk5 _ (by have := HGI.out.1; omega)).trans HC4.out⟩
      · go_enter Tryz.func71, Tryz.ntmps71
        go_wp2_with fail
        generalize ((w.setCell ⟨E.gi, 0, none⟩ (.int .i64 ((i : Int) + 1))).alloc (.cells #[.int .i64 0, .int .i64 0] 29)).alloc (.cells #[.int .i64 6, .int .i64 0, .int .i64 0, .int .i64 0] 79) = W at HST HEW ⊢
        refine (HIA.out W HEW.out HST.out.2.1 HDA.out).mono ?_
        rintro e' w3 ⟨rfl, hk3, hc3⟩
        have hr3 := (hk3.block _ (heap_lt HST.out.2.2.1) (by have := HGI.out.1; omega)).trans HST.out.2.2.1
        have HK3 := Aside.mk (HST.out.1.trans hk3)
        have HC3 := Aside.mk hc3
        have HR3 := Aside.mk hr3
        have hge : w.heap.size ≤ w3.heap.size := HK3.out.size
        have HGE := Aside.mk hge
        clear hk3 hc3 hr3 hcv hcx hct0 hct1 HEW hge
        unfold ivV
        have HB3 : Aside (Below w3.heap.size w3 (w3.alloc (.cells #[.int .i64 va.1, .int .i64 va.2] 29))) := ⟨(Below.refl _ _).alloc (Nat.le_refl _) _⟩
        have HRB := Aside.mk (heap_alloc_last w3 (.cells #[.int .i64 va.1, .int .i64 va.2] 29))
        by_cases hn : va.1 < 0
        · have HV2 : Aside (ev xs tt (.un 6 a) = ent) := ⟨by rw [HEV.out]; unfold unI; rw [if_neg (by decide), if_neg (by decide)]; unfold sqrtI; rw [if_pos hn]⟩
          go_wp2_with fail
          generalize w3.alloc (.cells #[.int .i64 va.1, .int .i64 va.2] 29) = V at HB3 HRB ⊢
          refine (entire_any V).mono ?_
          rintro e' w4 ⟨rfl, hb4'⟩
          have hb4 : Below w3.heap.size w3 w4 := HB3.out.trans (hb4'.mono HB3.out.size)
          have HR4 := Aside.mk ((hb4.block _ (heap_lt HR3.out)).trans HR3.out)
          have HC4 := Aside.mk (HC3.out.below hb4)
          have HK4 := Aside.mk (HK3.out.trans (Kept.of hb4))
          clear hb4 hb4'
          go_wp2_with (first | (refine wpList_store_iv rfl (.tmp 6) (.tmp 49) rfl w.heap.size _ _ rfl rfl _ _ HR4.out ?_; intro w5 hr5 hb5 hk5 hs5))
          rw [HV2.out, ← HFL.out]
          exact ret_iv rfl rfl hr5 ⟨rfl, HK4.out.put hb5, (hk5 _ (by have := HGI.out.1; omega)).trans HC4.out⟩
        · have HV2 : Aside (ev xs tt (.un 6 a) = sqrtI va) := ⟨by rw [HEV.out]; exact un6 va⟩
          have HN := Aside.mk hn
          go_wp2_with fail
          generalize w3.alloc (.cells #[.int .i64 va.1, .int .i64 va.2] 29) = V at HB3 HRB ⊢
          refine (sqrt_any va HOA.out (by have := HN.out; omega) V).mono ?_
          rintro e' w4 ⟨rfl, hb4'⟩
          have hb4 : Below w3.heap.size w3 w4 := HB3.out.trans (hb4'.mono HB3.out.size)
          have HRB4 := Aside.mk ((hb4'.block _ (heap_lt HRB.out)).trans HRB.out)
          have HR4 := Aside.mk ((hb4.block _ (heap_lt HR3.out)).trans HR3.out)
          have HC4 := Aside.mk (HC3.out.below hb4)
          have HK4 := Aside.mk (HK3.out.trans (Kept.of hb4))
          have HNE : Aside (w.heap.size ≠ w3.heap.size) := ⟨by have := heap_lt HR3.out; omega⟩
          have HNG : Aside (E.gi ≠ w3.heap.size) := ⟨by have := heap_lt HR3.out; have := HGI.out.1; omega⟩
          clear hb4 hb4'
          go_wp2_with (first | (refine wpList_store_iv rfl (.tmp 8) (.tmp 53) rfl w3.heap.size _ _ rfl rfl _ _ HRB4.out ?_; intro w5 hr5 hb5 hk5 hs5; have HR5 := Aside.mk ((hk5 _ HNE.out).trans HR4.out); have HC5 : Aside (Ctr E.gi _ w5) := Aside.mk ((hk5 _ HNG.out).trans HC4.out); have HK5 := Aside.mk (HK4.out.put (hb5.mono HGE.out)); have l0 : w5.cell? ⟨w3.heap.size, 0, none⟩ = some (.int .i64 (sqrtI va).1) := (by rw [cell_of_row _ _ 0 _ _ _ hr5]; rfl); have l1 : w5.cell? ⟨w3.heap.size, 1, none⟩ = some (.int .i64 (sqrtI va).2) := (by rw [cell_of_row _ _ 1 _ _ _ hr5]; rfl); clear hr5 hb5 hk5 hs5) | (refine wpList_store_iv rfl (.tmp 6) (.tmp 55) rfl w.heap.size _ _ rfl rfl _ _ HR5.out ?_; intro w6 hr6 hb6 hk6 hs6))
          rw [HV2.out, ← HFL.out]
          exact ret_iv rfl rfl hr6 ⟨rfl, HK5.out.put hb6, (hk6 _ (by have := HGI.out.1; omega)).trans HC5.out⟩
    | bin op a z =>
      simp only [hdN] at *
      have HDA : Aside (e.drop (i + 1) = flat a ++ (flat z ++ R)) := ⟨by have := HD.out; simpa [kids] using this⟩
      have HDZ : Aside (e.drop (i + 1 + (flat a).length) = flat z ++ R) := ⟨by rw [← List.drop_drop, HDA.out, List.drop_left]⟩
      have hma : a ∈ kids (.bin op a z) := List.mem_cons_self ..
      have hmz : z ∈ kids (.bin op a z) := List.mem_cons_of_mem _ (List.mem_cons_self ..)
      have HOA := Aside.mk (HOKK.out a hma)
      have HOZ := Aside.mk (HOKK.out z hmz)
      have HIA := Aside.mk (IH.out a hma (i + 1) (flat z ++ R))
      have HIZ := Aside.mk (IH.out z hmz (i + 1 + (flat a).length) R)
      have HFL : Aside (i + 1 + (flat a).length + (flat z).length = i + (flat (.bin op a z)).length) := ⟨by simp only [flat, List.length_cons, List.length_append]; omega⟩
      have HEV : Aside (ev xs tt (.bin op a z) = binI op (ev xs tt a) (ev xs tt z)) := ⟨rfl⟩
      obtain ⟨va, hva⟩ : ∃ va, ev xs tt a = va := ⟨_, rfl⟩
      obtain ⟨vz, hvz⟩ : ∃ vz, ev xs tt z = vz := ⟨_, rfl⟩
      rw [hva] at HOA HIA HEV
      rw [hvz] at HOZ HIZ HEV
      have hop := HOK.out.1
      obtain ⟨F, hF1, hF2, hF3⟩ := bin_calls hop
      have HF1 := Aside.mk hF1
      have HF3 := Aside.mk hF3
      have HF2 := Aside.mk hF2
      obtain ⟨m, hm⟩ : ∃ m, i + 1 + (flat a).length = m := ⟨_, rfl⟩
      rw [hm] at HIZ HDZ HFL
      have o1 : ¬ op = 1 := by omega
      have o2 : ¬ op = 2 := by omega
      have o3 : ¬ op = 3 := by omega
      have o4 : ¬ op = 4 := by omega
      have o5 : ¬ op = 5 := by omega
      have o6 : ¬ op = 6 := by omega
      clear hva hvz IH HOKK HD HOK hma hmz hop hF1 hF2 hF3
      go_enter Tryz.func71, Tryz.ntmps71
      go_wp2_with fail
      generalize ((w.setCell ⟨E.gi, 0, none⟩ (.int .i64 ((i : Int) + 1))).alloc (.cells #[.int .i64 0, .int .i64 0] 29)).alloc (.cells #[.int .i64 op, .int .i64 0, .int .i64 0, .int .i64 0] 79) = W at HST HEW ⊢
      refine (HIA.out W HEW.out HST.out.2.1 HDA.out).mono ?_
      rintro e' w3 ⟨rfl, hk3, hc3⟩
      rw [hm] at hc3
      have HEV3 := Aside.mk (HEW.out.kept hk3)
      have HR3 := Aside.mk ((hk3.block _ (heap_lt HST.out.2.2.1) (by have := HGI.out.1; omega)).trans HST.out.2.2.1)
      have HN3 := Aside.mk ((hk3.block _ (heap_lt HST.out.2.2.2) (by have := HGI.out.1; omega)).trans HST.out.2.2.2)
      have HK3 := Aside.mk (HST.out.1.trans hk3)
      have HC3 := Aside.mk hc3
      clear hk3 hc3 hcv hcx hct0 hct1 HEW HIA HDA hm
      have HB3 : Aside (Below w3.heap.size w3 (w3.alloc (.cells #[.int .i64 va.1, .int .i64 va.2] 29))) := ⟨(Below.refl _ _).alloc (Nat.le_refl _) _⟩
      have HRB := Aside.mk (heap_alloc_last w3 (.cells #[.int .i64 va.1, .int .i64 va.2] 29))
      have HHG : Aside (w3.heap.size ≠ E.gi) := ⟨by have := heap_lt HC3.out; omega⟩
      obtain ⟨ga, hga⟩ : ∃ ga, w3.heap.size = ga := ⟨_, rfl⟩
      have HGA := Aside.mk hga
      rw [hga] at HRB HHG
      unfold ivV
      go_wp2_with fail
      try simp only [hga]
      clear hga
      generalize w3.alloc (.cells #[.int .i64 va.1, .int .i64 va.2] 29) = V at HB3 HRB ⊢
      have HEV4 := Aside.mk (HEV3.out.kept (Kept.of HB3.out))
      have HC4 := Aside.mk (HC3.out.below HB3.out)
      have HR4 := Aside.mk ((HB3.out.block _ (heap_lt HR3.out)).trans HR3.out)
      have HN4 := Aside.mk ((HB3.out.block _ (heap_lt HN3.out)).trans HN3.out)
      have HK4 := Aside.mk (HK3.out.trans (Kept.of HB3.out))
      clear HEV3 HC3 HR3 HN3 HK3 HB3
      have hgn : w.heap.size + 1 ≠ E.gi := by have := HGI.out.1; omega
      have HGN := Aside.mk hgn
      clear hgn
      refine region_listW (T := tabE E (w.heap.size + 1) op va vz (.func (.func F) #[] #[]) (m + (flat z).length)) 7
        [_, _, _, _, _, _, _, _, _] (by kernel_rfl) (by kernel_rfl) (by kernel_rfl) (by kernel_rfl) (by kernel_rfl) (by kernel_rfl) rfl ?_ ?_ ?_
      · exact ⟨Kept.of ⟨rfl, rfl, rfl, Nat.le_refl _, fun _ _ => rfl⟩, fun _ => ⟨rfl, rfl, rfl, Nat.le_refl _, fun _ _ => rfl⟩⟩
      · refine AllW.cons ?_ ?_
        · intro b a wz hcl hd hz hb ho hg
          have e5 : a.tmps.getD 5 undef = .pointer (some ⟨E.gb, 0, none⟩) := ho 5 (by kernel_rfl)
          have f5 := Rg.gd e5
          have q := (HEV4.out.kept hb.1).cb
          exact ⟨wanted_none rfl, wp_valueW (v := .map (some E.r)) (by simp [execOp, Act.eval, e5, f5, q, go_sem]) rfl rfl⟩
        refine AllW.cons ?_ ?_
        · intro b a wz hcl hd hz hb ho hg
          have e7 : a.tmps.getD 7 undef = .pointer (some ⟨w.heap.size + 1, 0, none⟩) := ho 7 (by kernel_rfl)
          have f7 := Rg.gd e7
          exact ⟨wanted_none rfl, wp_valueW (v := .pointer (some ⟨w.heap.size + 1, 0, none⟩)) (by simp [execOp, Act.eval, e7, f7, go_sem]) rfl rfl⟩
        refine AllW.cons ?_ ?_
        · intro b a wz hcl hd hz hb ho hg
          have e59 : a.tmps.getD 59 undef = .pointer (some ⟨w.heap.size + 1, 0, none⟩) := gotW_of hg (j := 1) rfl rfl rfl
          have f59 := Rg.gd e59
          have hr := (hb.1.block _ (heap_lt HN4.out) HGN.out).trans HN4.out
          have q : wz.cell? ⟨w.heap.size + 1, 0, none⟩ = some (.int .i64 op) := by rw [cell_of_row _ _ 0 _ _ _ hr]; rfl
          exact ⟨wanted_none rfl, wp_valueW (v := .int .i64 op) (by simp [execOp, Act.eval, e59, f59, q, go_sem]) rfl rfl⟩
        refine AllW.cons ?_ ?_
        · intro b a wz hcl hd hz hb ho hg
          have e58 : a.tmps.getD 58 undef = .map (some E.r) := gotW_of hg (j := 0) rfl rfl rfl
          have e60 : a.tmps.getD 60 undef = .int .i64 op := gotW_of hg (j := 2) rfl rfl rfl
          have f58 := Rg.gd e58
          have f60 := Rg.gd e60
          have q := run_look wz 94 63 (by kernel_rfl) (HEV4.out.kept hb.1).mp op _ HF1.out
          exact ⟨wanted_none rfl, wp_valueW (v := .func (.func F) #[] #[]) (by simp [execOp, Act.eval, e58, f58, e60, f60, q, go_sem]) rfl rfl⟩
        refine AllW.cons ?_ ?_
        · intro b a wz hcl hd hz hb ho hg
          have e9 : a.tmps.getD 9 undef = .pointer (some ⟨ga, 0, none⟩) := ho 9 (by kernel_rfl)
          have f9 := Rg.gd e9
          have hr := (hb.1.block _ (heap_lt HRB.out) HHG.out).trans HRB.out
          have q : wz.cell? ⟨ga, 0, none⟩ = some (.int .i64 va.1) := by rw [cell_of_row _ _ 0 _ _ _ hr]; rfl
          have q' : wz.cell? ⟨ga, 1, none⟩ = some (.int .i64 va.2) := by rw [cell_of_row _ _ 1 _ _ _ hr]; rfl
          exact ⟨wanted_none rfl, wp_valueW (v := ivV va) (by simp [execOp, Act.eval, e9, f9, q, q', ivV, go_sem]) rfl rfl⟩
        refine AllW.cons ?_ ?_
        · intro b a wz hcl hd hz hb ho hg
          have e4 : a.tmps.getD 4 undef = .pointer (some ⟨E.gv, 0, none⟩) := ho 4 (by kernel_rfl)
          have f4 := Rg.gd e4
          have q := (HEV4.out.kept hb.1).cv
          exact ⟨wanted_none rfl, wp_valueW (v := .func (.func 71) #[] E.caps) (by simp [execOp, Act.eval, e4, f4, q, go_sem]) rfl rfl⟩
        refine AllW.cons ?_ ?_
        · intro b a wz hcl hd hz hb ho hg
          have e63 : a.tmps.getD 63 undef = .func (.func 71) #[] E.caps := gotW_of hg (j := 5) rfl rfl rfl
          have hbw := hb.2 (hcl rfl)
          refine ⟨wanted_none rfl, wp_callsW (run_callc (show a.eval (.tmp 63) = _ from e63) enters_ev) ((HIZ.out wz (HEV4.out.kept hb.1) (HC4.out.below hbw) HDZ.out).mono ?_)⟩
          rintro e' w' ⟨rfl, hk, hc⟩
          exact Or.inl ⟨_, rfl, hk, rfl, hc⟩
        exact AllW.nil
      · intro a wz hd hz hb ho hg
        obtain ⟨b, hb, -⟩ := hb
        have e58 : a.tmps.getD 58 undef = .map (some E.r) := hg 0 (by decide) _ _ rfl rfl
        have e59 : a.tmps.getD 59 undef = .pointer (some ⟨w.heap.size + 1, 0, none⟩) := hg 1 (by decide) _ _ rfl rfl
        have e60 : a.tmps.getD 60 undef = .int .i64 op := hg 2 (by decide) _ _ rfl rfl
        have e61 : a.tmps.getD 61 undef = .func (.func F) #[] #[] := hg 3 (by decide) _ _ rfl rfl
        have e62 : a.tmps.getD 62 undef = ivV va := hg 4 (by decide) _ _ rfl rfl
        have e63 : a.tmps.getD 63 undef = .func (.func 71) #[] E.caps := hg 5 (by decide) _ _ rfl rfl
        obtain ⟨e64, hc5⟩ : a.tmps.getD 64 undef = ivV vz ∧ Ctr E.gi (m + (flat z).length) wz := hg 6 (by decide) _ _ rfl rfl
        have hA := ho.frame hz
        simp only [List.take_succ_cons, List.take_zero, List.filterMap_cons, List.filterMap_nil, List.foldl_cons, List.foldl_nil, e58, e59, e60, e61, e62, e63, e64, List.setIfInBounds_toArray, List.set_cons_zero, List.set_cons_succ] at hA
        have HR5 := Aside.mk ((hb.block _ (heap_lt HR4.out) (by have := HGI.out.1; omega)).trans HR4.out)
        have HE5 := Aside.mk (HEV4.out.kept hb).ends
        have HK5 := Aside.mk (HK4.out.trans hb)
        have HC5 := Aside.mk hc5
        obtain ⟨tm, df⟩ := a
        simp only at hd hA
        subst hd
        subst hA
        simp only [List.drop_succ_cons, List.drop_zero]
        have hen := HF2.out
        clear hz ho hg hb hc5 e58 e59 e60 e61 e62 e63 e64 HEV4 HC4 HR4 HN4 HK4 HRB HIZ HDZ
        go_wp2_with fail
        refine (HF3.out va vz HOA.out HOZ.out wz HE5.out).mono ?_
        rintro e' w6 ⟨rfl, hb6⟩
        have HR6 := Aside.mk ((hb6.block _ (heap_lt HR5.out)).trans HR5.out)
        have HC6 := Aside.mk (HC5.out.below hb6)
        have HK6 := Aside.mk (HK5.out.trans (Kept.of hb6))
        clear hb6
        go_wp2_with (first | (refine wpList_store_iv rfl (.tmp 6) (.tmp 65) rfl w.heap.size _ _ rfl rfl _ _ HR6.out ?_; intro w7 hr7 hb7 hk7 hs7))
        rw [HEV.out, ← HFL.out]
        exact ret_iv rfl rfl hr7 ⟨rfl, HK6.out.put hb7, (hk7 _ (by have := HGI.out.1; omega)).trans HC6.out⟩
end Go.Proofs.YthcidkidpiaomaaGreatDoor.Od
end
