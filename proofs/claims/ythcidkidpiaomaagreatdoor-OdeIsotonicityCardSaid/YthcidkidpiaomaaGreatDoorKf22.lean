/- OfD OeL -/
import Derived.Test.YthcidkidpiaomaaGreatDoorKf20
import Derived.Test.YthcidkidpiaomaaGreatDoorKf18
section
set_option linter.unusedVariables false
set_option linter.unusedSimpArgs false
namespace Go.Proofs.YthcidkidpiaomaaGreatDoor.Od
open Go.RowKit Rg
theorem enters_rvn : ∀ args w, (callFunc 63 args).run Tryz.prog w = .ok (.enter 63 args) w := fun args w => by kernel_rfl
theorem enters_rix : ∀ args w, (callFunc 64 args).run Tryz.prog w = .ok (.enter 64 args) w := fun args w => by kernel_rfl
theorem enters_rve : ∀ args w, (callFunc 15 args).run Tryz.prog w = .ok (.enter 15 args) w := fun args w => by kernel_rfl
theorem idx_here {vars : List (List UInt8)} {x : List UInt8} {i : Nat} (h : vars[i]? = some x) : idxV (idxOf vars x) = (i : Int) ↔ (vars.take i).contains x = false := by
 constructor
 ·intro hi
  cases hx : idxOf vars x with
  | none => rw [hx] at hi; simp only [idxV] at hi; omega
  | some k =>
   rw [hx] at hi
   simp only [idxV] at hi
   obtain rfl : k = i := by omega
   unfold idxOf at hx
   rw [List.findIdx?_eq_some_iff_getElem] at hx
   obtain ⟨hk, -, hp⟩ := hx
   cases hc : (vars.take k).contains x with
   | false => rfl
   | true =>
    rw [List.contains_iff_mem, List.mem_take_iff_getElem] at hc
    obtain ⟨j, hj, he⟩ := hc
    have := hp j (by omega)
    rw [he] at this
    simp at this
 ·intro hc
  rw [idxOf_step h (fun z hz e => ?_) rfl]
  ·rfl
  ·subst e
   have : (vars.take i).contains z = true := List.contains_iff_mem.2 hz
   rw [hc] at this; cases this
theorem okNames_step (xs : List ByteArray) (i : Nat) (x : ByteArray) (h : xs[i]? = some x) : okNames ((strL xs).drop i) ((strL xs).take i) = (okName x.data.toList && !((strL xs).take i).contains x.data.toList && okNames ((strL xs).drop (i + 1)) ((strL xs).take (i + 1))) := by
 obtain ⟨hi, rfl⟩ := List.getElem?_eq_some_iff.1 h
 rw [strL_drop xs i hi, okNames_cons, strL_take xs i hi]
set_option maxRecDepth 100000 in
set_option maxHeartbeats 16000000 in
theorem rValid_any (vn vf : Value) (xs : List ByteArray) (fs : List (List Nd)) (w : World) (hn : Strs w vn xs) (hf : Fs w vf fs) (hsz : ∀ x ∈ xs, x.size ≤ 140737488351232) :
  Calls Tryz.prog 17 #[.agg #[vn, vf]] w fun e w' => e = .returned (.bool (okSys (strL xs) fs)) ∧ Below w.heap.size w w' := by
 have HV : Aside (okSys (strL xs) fs = (decide (1 ≤ (strL xs).length) && decide ((strL xs).length ≤ 6) && decide (fs.length = (strL xs).length) && okNames (strL xs) [] && fs.all (okEx (strL xs).length))) := ⟨rfl⟩
 have hsl : (strL xs).length = xs.length := by unfold strL; rw [List.length_map]
 rw [hsl] at HV
 obtain ⟨an, cn, hvn, hna⟩ := hn.at
 obtain ⟨af, cf, hvf, hfa⟩ := hf.at
 obtain ⟨N, hN⟩ : ∃ N, xs.length = N := ⟨_, rfl⟩
 obtain ⟨M, hM⟩ : ∃ M, fs.length = M := ⟨_, rfl⟩
 have HSN := Aside.mk hn
 have HNA := Aside.mk hna
 have HFA := Aside.mk hfa
 have HNL := Aside.mk hN
 have HML := Aside.mk hM
 have HZ := Aside.mk hsz
 rw [hN] at HV hvn
 rw [hM] at HV hvf
 subst hvn hvf
 clear hn hf hna hfa hN hM hsl hsz
 have hal : Below w.heap.size w (w.alloc (.cells #[.slice an N cn, .slice af M cf] 25)) := (Below.refl _ _).alloc (Nat.le_refl _) _
 have HR := Aside.mk (heap_alloc_last w (.cells #[.slice an N cn, .slice af M cf] 25))
 have HB := Aside.mk hal
 clear hal
 by_cases h1 : N < 1
 ·have h1' : (N : Int) < 1 := by omega
  have d1 : decide ((N : Int) < 1) = true := by simpa using h1'
  have HV : Aside (okSys (strL xs) fs = false) := ⟨by rw [HV.out, show decide (1 ≤ N) = false by simpa using h1]; rfl⟩
  go_enter Tryz.func17, Tryz.ntmps17
  go_wp2_with fail
  go_ret
  rw [HV.out]
  exact ⟨rfl, HB.out⟩
 ·have h1' : ¬ ((N : Int) < 1) := by omega
  have d1 : decide ((N : Int) < 1) = false := by simpa using h1'
  by_cases h6 : N ≤ 6
  ·have h6' : ¬ ((6 : Int) < (N : Int)) := by omega
   have d6 : decide ((6 : Int) < (N : Int)) = false := by simpa using h6'
   by_cases hMN : M = N
   ·subst hMN
    have HV2 : Aside (okSys (strL xs) fs = (okNames (strL xs) [] && fs.all (okEx (M : Int)))) := ⟨by rw [HV.out, decide_eq_true (show 1 ≤ M by omega), decide_eq_true h6]; simp⟩
    have H6 := Aside.mk h6
    have hM6 : (M : Int) ≤ 6 := by omega
    clear h1 h6
    go_enter Tryz.func17, Tryz.ntmps17
    go_wp2_with fail
    obtain ⟨g, hg⟩ : ∃ g, w.heap.size = g := ⟨_, rfl⟩
    have HG := Aside.mk hg
    rw [hg] at HB HR
    simp only [hg]
    generalize w.alloc (.cells #[.slice an M cn, .slice af M cf] 25) = W at HB HR ⊢
    clear hg
    go_loopg [4] M (fun m v4 wr => ∃ i : Nat, v4 = .int .i64 (i : Nat) ∧ Aside (i ≤ M ∧ M - i ≤ m) ∧ Aside (okSys (strL xs) fs = (okNames ((strL xs).drop i) ((strL xs).take i) && (fs.drop i).all (okEx (M : Int)))) ∧ Aside (Below W.heap.size W wr))
    case atStart => exact ⟨0, rfl, ⟨by simp⟩, ⟨by rw [HV2.out]; rfl⟩, ⟨Below.refl _ _⟩⟩
    case round =>
     obtain ⟨i, rfl, HI, HIN, HBW⟩ := hrel
     have hwr : Below w.heap.size w wr := HG.out ▸ HB.out.trans (HBW.out.mono (Nat.le_of_lt (heap_lt HR.out)))
     have HWR := Aside.mk hwr
     by_cases hi : i < M
     ·have hi' : (i : Int) < (M : Int) := by omega
      obtain ⟨x, hx⟩ : ∃ x, xs[i]? = some x := ⟨_, List.getElem?_eq_getElem (by rw [HNL.out]; exact hi)⟩
      obtain ⟨f, hfi⟩ : ∃ f, fs[i]? = some f := ⟨_, List.getElem?_eq_getElem (by rw [HML.out]; exact hi)⟩
      obtain ⟨bn, on, rfl, hcx⟩ := HNA.out i x hx
      obtain ⟨bf, of', u, rfl, hcu, hru⟩ := HFA.out i f hfi
      have cx : wr.cell? ⟨bn, on + i, none⟩ = some (.string x) := by rw [hwr.cell (p := ⟨bn, on + i, none⟩) (World.block_lt_of_cell? w _ hcx)]; exact hcx
      have cu : wr.cell? ⟨bf, of' + i, none⟩ = some u := by rw [hwr.cell (p := ⟨bf, of' + i, none⟩) (World.block_lt_of_cell? w _ hcu)]; exact hcu
      obtain ⟨au, lu, ru, rfl⟩ : ∃ au lu ru, u = .slice au lu ru := by obtain ⟨a, c, h⟩ := hru.slice; exact ⟨a, _, c, h⟩
      have HRU := Aside.mk (hru.below hwr)
      have HSV := Aside.mk (HSN.out.below hwr)
      have hrr := (HBW.out.block _ (heap_lt HR.out)).trans HR.out
      have k0 : wr.cell? ⟨g, 0, none⟩ = some (.slice (some ⟨bn, on, none⟩) M cn) := by rw [cell_of_row _ _ 0 _ _ _ hrr]; rfl
      have k1 : wr.cell? ⟨g, 1, none⟩ = some (.slice (some ⟨bf, of', none⟩) M cf) := by rw [cell_of_row _ _ 1 _ _ _ hrr]; rfl
      have hlg := heap_lt hrr
      have hlw : bn < wr.heap.size := World.block_lt_of_cell? wr _ cx
      have hlf : bf < wr.heap.size := World.block_lt_of_cell? wr _ cu
      have HXS := Aside.mk (HZ.out x (List.mem_of_getElem? hx))
      have hstep := okNames_step xs i x hx
      have hdrop : (fs.drop i).all (okEx (M : Int)) = (okEx (M : Int) f && (fs.drop (i + 1)).all (okEx (M : Int))) := by
       obtain ⟨hlk, rfl⟩ := List.getElem?_eq_some_iff.1 hfi
       rw [List.drop_eq_getElem_cons hlk, List.all_cons]
      have hidx := idx_here (vars := strL xs) (i := i) (x := x.data.toList) (by unfold strL; rw [List.getElem?_map, hx]; rfl)
      have HST : Aside (okSys (strL xs) fs = (okName x.data.toList && !((strL xs).take i).contains x.data.toList && okNames ((strL xs).drop (i + 1)) ((strL xs).take (i + 1)) && (okEx (M : Int) f && (fs.drop (i + 1)).all (okEx (M : Int))))) := ⟨by rw [HIN.out, hstep, hdrop]⟩
      obtain ⟨go, hgo⟩ : ∃ go, gk = go + 1 := ⟨gk - 1, by have := HI.out; omega⟩
      obtain ⟨ix, hix⟩ : ∃ ix, idxV (idxOf (strL xs) x.data.toList) = ix := ⟨_, rfl⟩
      have HIX := Aside.mk hix
      rw [hix] at hidx
      have HID := Aside.mk hidx
      have HC1 := Aside.mk (rValidName_any x HXS.out)
      have HC2 := Aside.mk (fun w h => rIndex_any (.slice (some ⟨bn, on, none⟩) M cn) xs x w h)
      have HC3 := Aside.mk (fun w h => rValidExpr_any (.slice au lu ru) f (M : Int) w h)
      rw [hix] at HC2
      obtain ⟨b1, hb1⟩ : ∃ b, okName x.data.toList = b := ⟨_, rfl⟩
      obtain ⟨b3, hb3⟩ : ∃ b, okEx (M : Int) f = b := ⟨_, rfl⟩
      rw [hb1] at HC1 HST
      rw [hb3] at HC3 HST
      clear hx hfi hcx hcu hru hrr hstep hdrop hidx hix hi hb1 hb3 hwr
      go_wp2_with fail
      cases b1 with
      | false =>
       have HX : Aside (okSys (strL xs) fs = false) := ⟨by rw [HST.out]; rfl⟩
       refine region_v [26, 27, 28, 29, 30, 31, 32, 33, 34, 35, 36, 37, 38, 39, 40, 41, 42, 43, 44, 45, 46, 47, 48, 49, 50, 51, 52, 53] 28 [.pointer (some ⟨g, 0, none⟩), .slice (some ⟨bn, on, none⟩) M cn, .int .i64 (i : Nat), .pointer (some ⟨bn, on + i, none⟩), .string x, .bool false, .bool true, .bool true, undef, undef, undef, undef, undef, undef, undef, undef, undef, undef, .bool true, .bool true, undef, undef, undef, undef, undef, undef, undef, undef] rfl rfl ?_ ?_
       ·iterate 5 (refine AllV.val rfl (fun w hb => by simp [execOp, Act.eval, kp hb k0, hi', kp hb cx, go_sem]) ?_)
        refine AllV.cons ?_ ?_
        ·intro a w hz hb ho hg
         have e30 : a.tmps.getD 30 undef = .string x := got_of hg (j := 4) rfl rfl rfl
         have f30 := Rg.gd e30
         exact Or.inl ⟨wanted_none rfl, wp_calls hb.size (run_call (args := #[.string x]) enters_rvn (by simp [Act.eval, f30])) ((HC1.out w).mono (by rintro e w' ⟨rfl, hw⟩; exact ⟨_, rfl, hw ▸ Below.refl _ _, rfl⟩))⟩
        iterate 22 (first | refine AllV.off rfl ?_ | refine AllV.val rfl (fun w hb => by simp [execOp, Act.eval, kp hb k0, hi', kp hb cx, go_sem]) ?_)
        exact AllV.nil
       intro w2 hb
       simp only [List.drop_succ_cons, List.drop_zero]
       have HH2 := Aside.mk hb
       clear hb
       go_wp2_with fail
       go_ret
       rw [HX.out]
       exact ⟨rfl, HWR.out.trans (HH2.out.mono HWR.out.size)⟩
      | true =>
       by_cases hie : ix = (i : Int)
       ·have hct := HID.out.1 hie
        cases b3 with
        | false =>
         have HX : Aside (okSys (strL xs) fs = false) := ⟨by rw [HST.out]; simp⟩
         subst hie
         refine region_v [26, 27, 28, 29, 30, 31, 32, 33, 34, 35, 36, 37, 38, 39, 40, 41, 42, 43, 44, 45, 46, 47, 48, 49, 50, 51, 52, 53] 28 [.pointer (some ⟨g, 0, none⟩), .slice (some ⟨bn, on, none⟩) M cn, .int .i64 (i : Nat), .pointer (some ⟨bn, on + i, none⟩), .string x, .bool true, .bool false, .bool false, .pointer (some ⟨g, 0, none⟩), .slice (some ⟨bn, on, none⟩) M cn, .pointer (some ⟨g, 0, none⟩), .slice (some ⟨bn, on, none⟩) M cn, .int .i64 (i : Nat), .pointer (some ⟨bn, on + i, none⟩), .string x, .int .i64 (i : Nat), .int .i64 (i : Nat), .bool false, .bool false, .bool false, .pointer (some ⟨g, 1, none⟩), .slice (some ⟨bf, of', none⟩) M cf, .int .i64 (i : Nat), .pointer (some ⟨bf, of' + i, none⟩), .slice au lu ru, .int .i64 (M : Nat), .bool false, .bool true] rfl rfl ?_ ?_
         ·iterate 5 (refine AllV.val rfl (fun w hb => by simp [execOp, Act.eval, kp hb k0, hi', kp hb cx, kp hb k1, kp hb cu, go_sem]) ?_)
          refine AllV.cons ?_ ?_
          ·intro a w hz hb ho hg
           have e30 : a.tmps.getD 30 undef = .string x := got_of hg (j := 4) rfl rfl rfl
           have f30 := Rg.gd e30
           exact Or.inl ⟨wanted_none rfl, wp_calls hb.size (run_call (args := #[.string x]) enters_rvn (by simp [Act.eval, f30])) ((HC1.out w).mono (by rintro e w' ⟨rfl, hw⟩; exact ⟨_, rfl, hw ▸ Below.refl _ _, rfl⟩))⟩
          iterate 9 (refine AllV.val rfl (fun w hb => by simp [execOp, Act.eval, kp hb k0, hi', kp hb cx, kp hb k1, kp hb cu, go_sem]) ?_)
          refine AllV.cons ?_ ?_
          ·intro a w hz hb ho hg
           have e35 : a.tmps.getD 35 undef = .slice (some ⟨bn, on, none⟩) M cn := got_of hg (j := 9) rfl rfl rfl
           have e40 : a.tmps.getD 40 undef = .string x := got_of hg (j := 14) rfl rfl rfl
           have f35 := Rg.gd e35
           have f40 := Rg.gd e40
           exact Or.inl ⟨by rw [wanted_of (j := 7) rfl rfl rfl (show a.tmps.getD 33 undef = .bool false from got_of hg (j := 7) rfl rfl rfl)]; rfl, wp_calls hb.size (run_call (args := #[.slice (some ⟨bn, on, none⟩) M cn, .string x]) enters_rix (by simp [Act.eval, f35, f40])) ((HC2.out w (HSV.out.below hb)).mono (by rintro e w' ⟨rfl, hw⟩; exact ⟨_, rfl, hw ▸ Below.refl _ _, rfl⟩))⟩
          iterate 10 (refine AllV.val rfl (fun w hb => by simp [execOp, Act.eval, kp hb k0, hi', kp hb cx, kp hb k1, kp hb cu, go_sem]) ?_)
          refine AllV.cons ?_ ?_
          ·intro a w hz hb ho hg
           have e50 : a.tmps.getD 50 undef = .slice au lu ru := got_of hg (j := 24) rfl rfl rfl
           have e51 : a.tmps.getD 51 undef = .int .i64 (M : Nat) := got_of hg (j := 25) rfl rfl rfl
           have f50 := Rg.gd e50
           have f51 := Rg.gd e51
           exact Or.inl ⟨by rw [wanted_of (j := 19) rfl rfl rfl (show a.tmps.getD 45 undef = .bool false from got_of hg (j := 19) rfl rfl rfl)]; rfl, wp_calls hb.size (run_call (args := #[.slice au lu ru, .int .i64 (M : Nat)]) enters_rve (by simp [Act.eval, f50, f51])) ((HC3.out w (HRU.out.below hb)).mono (by rintro e w' ⟨rfl, hb2⟩; exact ⟨_, rfl, hb2, rfl⟩))⟩
          refine AllV.val rfl (fun w hb => by simp [execOp, Act.eval, kp hb k0, hi', kp hb cx, kp hb k1, kp hb cu, go_sem]) ?_
          exact AllV.nil
         intro w2 hb
         simp only [List.drop_succ_cons, List.drop_zero]
         have HH2 := Aside.mk hb
         clear hb
         go_wp2_with fail
         go_ret
         rw [HX.out]
         exact ⟨rfl, HWR.out.trans (HH2.out.mono HWR.out.size)⟩
        | true =>
         have HX : Aside (okSys (strL xs) fs = (okNames ((strL xs).drop (i + 1)) ((strL xs).take (i + 1)) && (fs.drop (i + 1)).all (okEx (M : Int)))) := ⟨by rw [HST.out, hct]; simp⟩
         subst hie
         clear hct
         refine region_v [26, 27, 28, 29, 30, 31, 32, 33, 34, 35, 36, 37, 38, 39, 40, 41, 42, 43, 44, 45, 46, 47, 48, 49, 50, 51, 52, 53] 28 [.pointer (some ⟨g, 0, none⟩), .slice (some ⟨bn, on, none⟩) M cn, .int .i64 (i : Nat), .pointer (some ⟨bn, on + i, none⟩), .string x, .bool true, .bool false, .bool false, .pointer (some ⟨g, 0, none⟩), .slice (some ⟨bn, on, none⟩) M cn, .pointer (some ⟨g, 0, none⟩), .slice (some ⟨bn, on, none⟩) M cn, .int .i64 (i : Nat), .pointer (some ⟨bn, on + i, none⟩), .string x, .int .i64 (i : Nat), .int .i64 (i : Nat), .bool false, .bool false, .bool false, .pointer (some ⟨g, 1, none⟩), .slice (some ⟨bf, of', none⟩) M cf, .int .i64 (i : Nat), .pointer (some ⟨bf, of' + i, none⟩), .slice au lu ru, .int .i64 (M : Nat), .bool true, .bool false] rfl rfl ?_ ?_
         ·iterate 5 (refine AllV.val rfl (fun w hb => by simp [execOp, Act.eval, kp hb k0, hi', kp hb cx, kp hb k1, kp hb cu, go_sem]) ?_)
          refine AllV.cons ?_ ?_
          ·intro a w hz hb ho hg
           have e30 : a.tmps.getD 30 undef = .string x := got_of hg (j := 4) rfl rfl rfl
           have f30 := Rg.gd e30
           exact Or.inl ⟨wanted_none rfl, wp_calls hb.size (run_call (args := #[.string x]) enters_rvn (by simp [Act.eval, f30])) ((HC1.out w).mono (by rintro e w' ⟨rfl, hw⟩; exact ⟨_, rfl, hw ▸ Below.refl _ _, rfl⟩))⟩
          iterate 9 (refine AllV.val rfl (fun w hb => by simp [execOp, Act.eval, kp hb k0, hi', kp hb cx, kp hb k1, kp hb cu, go_sem]) ?_)
          refine AllV.cons ?_ ?_
          ·intro a w hz hb ho hg
           have e35 : a.tmps.getD 35 undef = .slice (some ⟨bn, on, none⟩) M cn := got_of hg (j := 9) rfl rfl rfl
           have e40 : a.tmps.getD 40 undef = .string x := got_of hg (j := 14) rfl rfl rfl
           have f35 := Rg.gd e35
           have f40 := Rg.gd e40
           exact Or.inl ⟨by rw [wanted_of (j := 7) rfl rfl rfl (show a.tmps.getD 33 undef = .bool false from got_of hg (j := 7) rfl rfl rfl)]; rfl, wp_calls hb.size (run_call (args := #[.slice (some ⟨bn, on, none⟩) M cn, .string x]) enters_rix (by simp [Act.eval, f35, f40])) ((HC2.out w (HSV.out.below hb)).mono (by rintro e w' ⟨rfl, hw⟩; exact ⟨_, rfl, hw ▸ Below.refl _ _, rfl⟩))⟩
          iterate 10 (refine AllV.val rfl (fun w hb => by simp [execOp, Act.eval, kp hb k0, hi', kp hb cx, kp hb k1, kp hb cu, go_sem]) ?_)
          refine AllV.cons ?_ ?_
          ·intro a w hz hb ho hg
           have e50 : a.tmps.getD 50 undef = .slice au lu ru := got_of hg (j := 24) rfl rfl rfl
           have e51 : a.tmps.getD 51 undef = .int .i64 (M : Nat) := got_of hg (j := 25) rfl rfl rfl
           have f50 := Rg.gd e50
           have f51 := Rg.gd e51
           exact Or.inl ⟨by rw [wanted_of (j := 19) rfl rfl rfl (show a.tmps.getD 45 undef = .bool false from got_of hg (j := 19) rfl rfl rfl)]; rfl, wp_calls hb.size (run_call (args := #[.slice au lu ru, .int .i64 (M : Nat)]) enters_rve (by simp [Act.eval, f50, f51])) ((HC3.out w (HRU.out.below hb)).mono (by rintro e w' ⟨rfl, hb2⟩; exact ⟨_, rfl, hb2, rfl⟩))⟩
          refine AllV.val rfl (fun w hb => by simp [execOp, Act.eval, kp hb k0, hi', kp hb cx, kp hb k1, kp hb cu, go_sem]) ?_
          exact AllV.nil
         intro w2 hb
         simp only [List.drop_succ_cons, List.drop_zero]
         have HH2 := Aside.mk hb
         clear hb
         have HB2 := Aside.mk (HBW.out.trans (HH2.out.mono HBW.out.size))
         go_wp2_with fail
         go_roundg go
         case measure => omega
         case rel => exact ⟨i + 1, by go_num, ⟨by have := HI.out; have := hi'; omega⟩, HX, HB2⟩
       ·have hct : ((strL xs).take i).contains x.data.toList = true := by
         cases hh : ((strL xs).take i).contains x.data.toList with
         | true => rfl
         | false => exact absurd (HID.out.2 hh) hie
        have HX : Aside (okSys (strL xs) fs = false) := ⟨by rw [HST.out, hct]; simp⟩
        clear hct
        refine region_v [26, 27, 28, 29, 30, 31, 32, 33, 34, 35, 36, 37, 38, 39, 40, 41, 42, 43, 44, 45, 46, 47, 48, 49, 50, 51, 52, 53] 28 [.pointer (some ⟨g, 0, none⟩), .slice (some ⟨bn, on, none⟩) M cn, .int .i64 (i : Nat), .pointer (some ⟨bn, on + i, none⟩), .string x, .bool true, .bool false, .bool false, .pointer (some ⟨g, 0, none⟩), .slice (some ⟨bn, on, none⟩) M cn, .pointer (some ⟨g, 0, none⟩), .slice (some ⟨bn, on, none⟩) M cn, .int .i64 (i : Nat), .pointer (some ⟨bn, on + i, none⟩), .string x, .int .i64 ix, .int .i64 (i : Nat), .bool true, .bool true, .bool true, undef, undef, undef, undef, undef, undef, undef, undef] rfl rfl ?_ ?_
        ·iterate 5 (refine AllV.val rfl (fun w hb => by simp [execOp, Act.eval, kp hb k0, hi', kp hb cx, hie, go_sem]) ?_)
         refine AllV.cons ?_ ?_
         ·intro a w hz hb ho hg
          have e30 : a.tmps.getD 30 undef = .string x := got_of hg (j := 4) rfl rfl rfl
          have f30 := Rg.gd e30
          exact Or.inl ⟨wanted_none rfl, wp_calls hb.size (run_call (args := #[.string x]) enters_rvn (by simp [Act.eval, f30])) ((HC1.out w).mono (by rintro e w' ⟨rfl, hw⟩; exact ⟨_, rfl, hw ▸ Below.refl _ _, rfl⟩))⟩
         iterate 9 (refine AllV.val rfl (fun w hb => by simp [execOp, Act.eval, kp hb k0, hi', kp hb cx, hie, go_sem]) ?_)
         refine AllV.cons ?_ ?_
         ·intro a w hz hb ho hg
          have e35 : a.tmps.getD 35 undef = .slice (some ⟨bn, on, none⟩) M cn := got_of hg (j := 9) rfl rfl rfl
          have e40 : a.tmps.getD 40 undef = .string x := got_of hg (j := 14) rfl rfl rfl
          have f35 := Rg.gd e35
          have f40 := Rg.gd e40
          exact Or.inl ⟨by rw [wanted_of (j := 7) rfl rfl rfl (show a.tmps.getD 33 undef = .bool false from got_of hg (j := 7) rfl rfl rfl)]; rfl, wp_calls hb.size (run_call (args := #[.slice (some ⟨bn, on, none⟩) M cn, .string x]) enters_rix (by simp [Act.eval, f35, f40])) ((HC2.out w (HSV.out.below hb)).mono (by rintro e w' ⟨rfl, hw⟩; exact ⟨_, rfl, hw ▸ Below.refl _ _, rfl⟩))⟩
         iterate 12 (first | refine AllV.off rfl ?_ | refine AllV.val rfl (fun w hb => by simp [execOp, Act.eval, kp hb k0, hi', kp hb cx, hie, go_sem]) ?_)
         exact AllV.nil
        intro w2 hb
        simp only [List.drop_succ_cons, List.drop_zero]
        have HH2 := Aside.mk hb
        clear hb
        go_wp2_with fail
        go_ret
        rw [HX.out]
        exact ⟨rfl, HWR.out.trans (HH2.out.mono HWR.out.size)⟩
     ·have hi' : ¬ ((i : Int) < (M : Int)) := by omega
      have him : i = M := by have := HI.out; omega
      subst him
      have HX : Aside (okSys (strL xs) fs = true) := ⟨by
       have e1 : (strL xs).drop i = [] := by rw [List.drop_eq_nil_iff]; unfold strL; rw [List.length_map, HNL.out]; exact Nat.le_refl _
       have e2 : fs.drop i = [] := by rw [List.drop_eq_nil_iff, HML.out]; exact Nat.le_refl _
       rw [HIN.out, e1, e2]; rfl⟩
      go_wp2_with fail
      go_ret
      rw [HX.out]
      exact ⟨rfl, HWR.out⟩
   ·have hMN' : ¬ ((M : Int) = (N : Int)) := by omega
    have hMNb : ((M : Int) != (N : Int)) = true := by simpa using hMN'
    have HV : Aside (okSys (strL xs) fs = false) := ⟨by rw [HV.out, show decide (M = N) = false by simpa using hMN]; simp⟩
    clear hMN
    go_enter Tryz.func17, Tryz.ntmps17
    go_wp2_with fail
    go_ret
    rw [HV.out]
    exact ⟨rfl, HB.out⟩
  ·have h6' : (6 : Int) < (N : Int) := by omega
   have d6 : decide ((6 : Int) < (N : Int)) = true := by simpa using h6'
   have HV : Aside (okSys (strL xs) fs = false) := ⟨by rw [HV.out, decide_eq_false h6]; simp⟩
   clear h6
   go_enter Tryz.func17, Tryz.ntmps17
   go_wp2_with fail
   go_ret
   rw [HV.out]
   exact ⟨rfl, HB.out⟩
end Go.Proofs.YthcidkidpiaomaaGreatDoor.Od
end
section
set_option linter.unusedVariables false
set_option linter.unusedSimpArgs false
namespace Go.Proofs.YthcidkidpiaomaaGreatDoor.Od
open Go.RowKit Rg
set_option maxRecDepth 100000 in
set_option maxHeartbeats 16000000 in
theorem FormatExpr_n {vars : List ByteArray} (hnm : ∀ x ∈ strL vars, okName x = true) : ∀ (n : Nat) (t : Tr), (flat t).length ≤ n → okT (strL vars) t → ∀ (v vn : Value) (w : World), RdN w v (flat t) → Strs w vn vars → Fx.Tabs w →
    Calls Tryz.prog 37 #[v, vn] w fun e' w' => (∃ s, e' = .returned (.string s) ∧ s.data.toList = fmtT (strL vars) t) ∧ Below w.heap.size w w'
  | 0, t, hn, _ => absurd (List.length_eq_zero_iff.1 (Nat.le_zero.1 hn)) (flat_ne t)
  | n + 1, t, hn, hok => by
    intro v vn w hrd hsv htab
    have IH : Aside (∀ k ∈ kids t, ∀ (v vn : Value) (w : World), RdN w v (flat k) → Strs w vn vars → Fx.Tabs w →
      Calls Tryz.prog 37 #[v, vn] w fun e' w' => (∃ s, e' = .returned (.string s) ∧ s.data.toList = fmtT (strL vars) k) ∧ Below w.heap.size w w') := ⟨fun k hk => FormatExpr_n hnm n k (by have := kid_len hk; omega) (kids_ok hok k hk)⟩
    have HOK := Aside.mk hok
    have HNM := Aside.mk hnm
    have HRD := Aside.mk hrd
    have HSV := Aside.mk hsv
    have HT := Aside.mk htab
    have HAR := Aside.mk (kids_arity hok)
    have HKL : Aside (∀ k ∈ kids t, (fmtT (strL vars) k).length ≤ 252022) := ⟨fun k hk => by
      have h1 := fmtT_len hnm k (kids_ok hok k hk)
      have h2 := kid_len hk
      have h3 := hrd.few
      omega⟩
    clear hn hok hnm hrd hsv htab
    go_enter Tryz.func37, Tryz.ntmps37
    go_wp2_with fail
    refine (Operands_any t HOK.out v w HRD.out).mono ?_
    rintro e' w1 ⟨vo, rfl, hfs, hb1⟩
    have HB1 := Aside.mk hb1
    obtain ⟨ao, c, rfl, hat⟩ := hfs.at
    have HFS := Aside.mk hfs
    have HAT := Aside.mk hat
    rw [List.length_map]
    obtain ⟨M, hM⟩ : ∃ M, (kids t).length = M := ⟨_, rfl⟩
    have hM2 : M ≤ 2 := by rw [← hM]; cases t <;> simp [kids]
    have HM := Aside.mk (And.intro hM hM2)
    rw [hM]
    clear hM hfs hat hb1
    go_wp2_with fail
    go_loopg [5, 13] M (fun m v5 v13 wr => ∃ (i : Nat) (xs : List ByteArray), v13 = .int .i64 (i : Nat) ∧ Aside (i ≤ M ∧ M - i ≤ m ∧ xs.length = i) ∧ Aside (∀ j, j < i → ∃ k y, (kids t)[j]? = some k ∧ xs[j]? = some y ∧ y.data.toList = fmtT (strL vars) k) ∧ Aside (wr.ownsRow w1.heap.size 9 1 v5 i (xs.map Value.string)) ∧ Aside (Below w1.heap.size w1 wr))
    case atStart => exact ⟨0, [], rfl, ⟨by simp⟩, ⟨fun j hj => by omega⟩, ⟨⟨rfl, Or.inl ⟨rfl, rfl⟩⟩⟩, ⟨Below.refl _ _⟩⟩
    case round =>
      obtain ⟨i, xs, rfl, HI, HX, HO, HB⟩ := hrel
      by_cases hi : i < M
      · have hi' : (i : Int) < (M : Int) := by omega
        have hi2 : i < M := hi
        obtain ⟨k, hk⟩ : ∃ k, (kids t)[i]? = some k := ⟨_, List.getElem?_eq_getElem (by rw [HM.out.1]; exact hi)⟩
        have HK := Aside.mk hk
        obtain ⟨b, o, u, rfl, hu, hru⟩ := HAT.out i (flat k) (by rw [List.getElem?_map, hk]; rfl)
        have hu' : wr.cell? ⟨b, o + i, none⟩ = some u := by rw [HB.out.cell (p := ⟨b, o + i, none⟩) (World.block_lt_of_cell? w1 _ hu)]; exact hu
        obtain ⟨au, cu, rfl⟩ := hru.slice
        have HRU := Aside.mk (hru.below HB.out)
        clear hk hu hru hi
        go_wp2_with fail
        have hbw : Below w.heap.size w wr := HB1.out.trans (HB.out.mono HB1.out.size)
        refine (IH.out k (List.mem_of_getElem? HK.out) _ vn wr HRU.out (HSV.out.below hbw) (HT.out.below hbw)).mono ?_
        rintro e' w2 ⟨⟨y, rfl, hy⟩, hb2⟩
        have HY := Aside.mk hy
        have HO2 := Aside.mk (owns_below HO.out hb2)
        have HB2 := Aside.mk (HB.out.trans (hb2.mono HB.out.size))
        have hal : Below w2.heap.size w2 (w2.alloc (.cells #[.string y] 9)) := (Below.refl _ _).alloc (Nat.le_refl _) _
        have HRK := Aside.mk (heap_alloc_last w2 (.cells #[.string y] 9))
        have HO3 := Aside.mk (owns_below HO2.out hal)
        have HB3 := Aside.mk (HB2.out.trans (hal.mono HB2.out.size))
        clear hb2 hal hy hbw
        go_wp2_with (first | (at_builtin; refine wpList_append_str _ rfl (.tmp 17) (.tmp 21) rfl w1.heap.size _ xs i HI.out.2.2 rfl HO3.out _ _ rfl HRK.out (by have := HI.out; have := HM.out.2; omega) HB3.out.size ?_; intro ao2 cap w4 ho4 hb4))
        obtain ⟨go, hgo⟩ : ∃ go, gk = go + 1 := ⟨gk - 1, by have := HI.out; omega⟩
        have HX4 : Aside (∀ j, j < i + 1 → ∃ k z, (kids t)[j]? = some k ∧ (xs ++ [y])[j]? = some z ∧ z.data.toList = fmtT (strL vars) k) := ⟨fun j hj => by
          have hul := HI.out.2.2
          by_cases hji : j < i
          · obtain ⟨k2, z, h1, h2, h3⟩ := HX.out j hji
            exact ⟨k2, z, h1, by rw [List.getElem?_append_left (by omega)]; exact h2, h3⟩
          · have hje : j = i := by omega
            subst hje
            exact ⟨k, y, HK.out, by rw [List.getElem?_append_right (by omega), hul, Nat.sub_self]; rfl, HY.out⟩⟩
        have HO4 := Aside.mk ho4
        have HB4 := Aside.mk (HB3.out.trans hb4)
        clear ho4 hb4
        go_roundg go
        case measure => omega
        case rel => exact ⟨i + 1, xs ++ [y], rfl, ⟨by have := HI.out; simp; omega⟩, HX4, HO4, HB4⟩
      · have hi' : ¬ ((i : Int) < (M : Int)) := by omega
        have him : i = M := by have := HI.out; omega
        subst him
        have hfew := HRD.out.few
        rcases HRD.out.out with ⟨h0, -⟩ | ⟨b, o, c2, rfl, hcp, hc⟩
        · exact absurd h0 (flat_ne t)
        have hbw : Below w.heap.size w wr := HB1.out.trans (HB.out.mono HB1.out.size)
        have HBW := Aside.mk hbw
        have hx0 : (flat t)[0]? = some (hdN t) := by rw [flat_kids]; rfl
        have cell : ∀ r, r < 4 → ∀ u, (nd4 (hdN t))[r]? = some u → wr.cell? ⟨b, o + (0 * 4 + r), none⟩ = some u := fun r hr u hu => by
          have := hc (0 * 4 + r) u (by rw [nds_get _ 0 _ r hx0 hr]; exact hu)
          rw [hbw.cell (p := ⟨b, o + (0 * 4 + r), none⟩) (World.block_lt_of_cell? w _ this)]; exact this
        have c0 := cell 0 (by decide) _ rfl
        have c1 := cell 1 (by decide) _ rfl
        have c2' := cell 2 (by decide) _ rfl
        have c3 := cell 3 (by decide) _ rfl
        simp only [Nat.zero_mul, Nat.zero_add, Nat.add_zero] at c0 c1 c2' c3
        have HT2 := Aside.mk (HT.out.below hbw)
        have HSV2 := Aside.mk (HSV.out.below hbw)
        obtain ⟨nn, hnn⟩ : ∃ nn, (flat t).length = nn := ⟨_, rfl⟩
        have hnpos : (0 : Int) < (nn : Int) := by have := flat_pos t; omega
        rw [hnn]
        clear hc hx0 cell hbw hcp hfew HRD IH hnn
        simp only [kids] at HM HX HKL
        cases t with
        | num lo hi =>
            simp only [hdN] at c0 c1 c2' c3
            have hal : Below wr.heap.size wr (wr.alloc (.cells #[.int .i64 1, .int .i64 0, .int .i64 lo, .int .i64 hi] 79)) := (Below.refl _ _).alloc (Nat.le_refl _) _
            have HAL := Aside.mk hal
            have HRW := Aside.mk (heap_alloc_last wr (.cells #[.int .i64 1, .int .i64 0, .int .i64 lo, .int .i64 hi] 79))
            have hgl : wr.heap.size < (wr.alloc (.cells #[.int .i64 1, .int .i64 0, .int .i64 lo, .int .i64 hi] 79)).heap.size := lt_of HRW.out
            have HBA := Aside.mk (HBW.out.trans (hal.mono HBW.out.size))
            clear hal
            go_wp2_with fail
            refine (formatInterval_any lo hi _ HOK.out (HT2.out.below HAL.out)).mono ?_
            rintro e' w5 ⟨⟨y, rfl, hy⟩, hb5⟩
            go_wp2_with fail
            go_ret
            exact ⟨⟨_, rfl, hy⟩, HBA.out.trans (hb5.mono HBA.out.size)⟩
        | var m =>
            simp only [hdN] at c0 c1 c2' c3
            have hal : Below wr.heap.size wr (wr.alloc (.cells #[.int .i64 2, .int .i64 (m : Nat), .int .i64 0, .int .i64 0] 79)) := (Below.refl _ _).alloc (Nat.le_refl _) _
            have HAL := Aside.mk hal
            have HRW := Aside.mk (heap_alloc_last wr (.cells #[.int .i64 2, .int .i64 (m : Nat), .int .i64 0, .int .i64 0] 79))
            have hgl : wr.heap.size < (wr.alloc (.cells #[.int .i64 2, .int .i64 (m : Nat), .int .i64 0, .int .i64 0] 79)).heap.size := lt_of HRW.out
            have HBA := Aside.mk (HBW.out.trans (hal.mono HBW.out.size))
            have hm : m < vars.length := by have : m < (strL vars).length := HOK.out; simpa [strL] using this
            obtain ⟨y, hy⟩ : ∃ y, vars[m]? = some y := ⟨_, List.getElem?_eq_getElem hm⟩
            obtain ⟨av, cv, rfl, hv⟩ := HSV2.out.at
            obtain ⟨bv, ov, rfl, cy⟩ := hv m y hy
            have HY : Aside (y.data.toList = fmtT (strL vars) (.var m)) := ⟨by unfold fmtT strL; rw [List.getD_eq_getElem?_getD, List.getElem?_map, hy]; rfl⟩
            have hbvl := World.block_lt_of_cell? wr _ cy
            have cy2 : (wr.alloc (.cells #[.int .i64 2, .int .i64 (m : Nat), .int .i64 0, .int .i64 0] 79)).cell? ⟨bv, ov + m, none⟩ = some (.string y) := (hal.cell (p := ⟨bv, ov + m, none⟩) hbvl).trans cy
            have hm0 : (0 : Int) ≤ (m : Int) := by omega
            obtain ⟨nv, hnv⟩ : ∃ nv, vars.length = nv := ⟨_, rfl⟩
            rw [hnv] at hm ⊢
            have hm1 : (m : Int) < (nv : Int) := by omega
            clear hal hy hv cy hnv
            go_wp2_with fail
            go_ret
            exact ⟨⟨_, rfl, HY.out⟩, HBA.out⟩
        | time =>
            simp only [hdN] at c0 c1 c2' c3
            have hal : Below wr.heap.size wr (wr.alloc (.cells #[.int .i64 3, .int .i64 0, .int .i64 0, .int .i64 0] 79)) := (Below.refl _ _).alloc (Nat.le_refl _) _
            have HAL := Aside.mk hal
            have HRW := Aside.mk (heap_alloc_last wr (.cells #[.int .i64 3, .int .i64 0, .int .i64 0, .int .i64 0] 79))
            have hgl : wr.heap.size < (wr.alloc (.cells #[.int .i64 3, .int .i64 0, .int .i64 0, .int .i64 0] 79)).heap.size := lt_of HRW.out
            have HBA := Aside.mk (HBW.out.trans (hal.mono HBW.out.size))
            clear hal
            go_wp2_with fail
            go_ret
            exact ⟨⟨_, rfl, rfl⟩, HBA.out⟩
        | un op a =>
            simp only [hdN] at c0 c1 c2' c3
            obtain rfl : 1 = i := HM.out.1
            obtain ⟨k, y, hk, hxy, hy⟩ := HX.out 0 (by decide)
            obtain rfl : a = k := Option.some.inj hk
            have HY := Aside.mk hy
            have hys : y.size ≤ 252022 := by
              have := HKL.out a (List.mem_singleton.2 rfl)
              rw [← hy] at this; exact this
            obtain ⟨b5, c5, rfl, h5⟩ := strs_own HO.out HI.out.2.2 (by decide)
            have cy := h5 0 y hxy
            have hb5 := World.block_lt_of_cell? wr _ cy
            have hop := HOK.out.1
            clear hk hxy hy h5
            rcases (show op = 4 ∨ op = 5 ∨ op = 6 by omega) with rfl | rfl | rfl
            ·
              have hal : Below wr.heap.size wr (wr.alloc (.cells #[.int .i64 4, .int .i64 0, .int .i64 0, .int .i64 0] 79)) := (Below.refl _ _).alloc (Nat.le_refl _) _
              have HAL := Aside.mk hal
              have HRW := Aside.mk (heap_alloc_last wr (.cells #[.int .i64 4, .int .i64 0, .int .i64 0, .int .i64 0] 79))
              have hgl : wr.heap.size < (wr.alloc (.cells #[.int .i64 4, .int .i64 0, .int .i64 0, .int .i64 0] 79)).heap.size := lt_of HRW.out
              have HBA := Aside.mk (HBW.out.trans (hal.mono HBW.out.size))
              have cy2 : (wr.alloc (.cells #[.int .i64 4, .int .i64 0, .int .i64 0, .int .i64 0] 79)).cell? ⟨b5, 0, none⟩ = some (.string y) := (hal.cell (p := ⟨b5, 0, none⟩) hb5).trans cy
              clear hal cy
              go_wp2_with fail
              go_ret
              refine ⟨⟨_, rfl, ?_⟩, HBA.out⟩
              simp [fmtT, ← HY.out, wSqr, wSqrt, ByteArray.data_append]
            ·
              have hal : Below wr.heap.size wr (wr.alloc (.cells #[.int .i64 5, .int .i64 0, .int .i64 0, .int .i64 0] 79)) := (Below.refl _ _).alloc (Nat.le_refl _) _
              have HAL := Aside.mk hal
              have HRW := Aside.mk (heap_alloc_last wr (.cells #[.int .i64 5, .int .i64 0, .int .i64 0, .int .i64 0] 79))
              have hgl : wr.heap.size < (wr.alloc (.cells #[.int .i64 5, .int .i64 0, .int .i64 0, .int .i64 0] 79)).heap.size := lt_of HRW.out
              have HBA := Aside.mk (HBW.out.trans (hal.mono HBW.out.size))
              have cy2 : (wr.alloc (.cells #[.int .i64 5, .int .i64 0, .int .i64 0, .int .i64 0] 79)).cell? ⟨b5, 0, none⟩ = some (.string y) := (hal.cell (p := ⟨b5, 0, none⟩) hb5).trans cy
              clear hal cy
              go_wp2_with fail
              go_ret
              refine ⟨⟨_, rfl, ?_⟩, HBA.out⟩
              simp [fmtT, ← HY.out, wSqr, wSqrt, ByteArray.data_append]
            ·
              have hal : Below wr.heap.size wr (wr.alloc (.cells #[.int .i64 6, .int .i64 0, .int .i64 0, .int .i64 0] 79)) := (Below.refl _ _).alloc (Nat.le_refl _) _
              have HAL := Aside.mk hal
              have HRW := Aside.mk (heap_alloc_last wr (.cells #[.int .i64 6, .int .i64 0, .int .i64 0, .int .i64 0] 79))
              have hgl : wr.heap.size < (wr.alloc (.cells #[.int .i64 6, .int .i64 0, .int .i64 0, .int .i64 0] 79)).heap.size := lt_of HRW.out
              have HBA := Aside.mk (HBW.out.trans (hal.mono HBW.out.size))
              have cy2 : (wr.alloc (.cells #[.int .i64 6, .int .i64 0, .int .i64 0, .int .i64 0] 79)).cell? ⟨b5, 0, none⟩ = some (.string y) := (hal.cell (p := ⟨b5, 0, none⟩) hb5).trans cy
              clear hal cy
              go_wp2_with fail
              go_ret
              refine ⟨⟨_, rfl, ?_⟩, HBA.out⟩
              simp [fmtT, ← HY.out, wSqr, wSqrt, ByteArray.data_append]
        | bin op a z =>
            simp only [hdN] at c0 c1 c2' c3
            obtain rfl : 2 = i := HM.out.1
            obtain ⟨k, y, hk, hxy, hy⟩ := HX.out 0 (by decide)
            obtain rfl : a = k := Option.some.inj hk
            obtain ⟨k, yz, hk2, hxz, hz⟩ := HX.out 1 (by decide)
            obtain rfl : z = k := Option.some.inj hk2
            have HY := Aside.mk hy
            have HZ := Aside.mk hz
            have hys : y.size ≤ 252022 := by
              have := HKL.out a (by simp)
              rw [← hy] at this; exact this
            have hzs : yz.size ≤ 252022 := by
              have := HKL.out z (by simp)
              rw [← hz] at this; exact this
            obtain ⟨b5, c5, rfl, h5⟩ := strs_own HO.out HI.out.2.2 (by decide)
            have cy := h5 0 y hxy
            have cz := h5 1 yz hxz
            have hb5 := World.block_lt_of_cell? wr _ cy
            have hbb := World.block_lt_of_cell? wr _ c0
            have hop := HOK.out.1
            have HCELL := Aside.mk (And.intro cy (And.intro cz (And.intro hb5 (And.intro c0 hbb))))
            have hmm := @run_makeMap Tryz.prog
            clear hk hxy hy h5 hk2 hxz hz cy cz hb5 hbb
            rcases (show op = 7 ∨ op = 8 ∨ op = 9 ∨ op = 10 by omega) with rfl | rfl | rfl | rfl
            ·
              have hal : Below wr.heap.size wr (wr.alloc (.cells #[.int .i64 7, .int .i64 0, .int .i64 0, .int .i64 0] 79)) := (Below.refl _ _).alloc (Nat.le_refl _) _
              have HAL := Aside.mk hal
              have HRW := Aside.mk (heap_alloc_last wr (.cells #[.int .i64 7, .int .i64 0, .int .i64 0, .int .i64 0] 79))
              have hgl : wr.heap.size < (wr.alloc (.cells #[.int .i64 7, .int .i64 0, .int .i64 0, .int .i64 0] 79)).heap.size := lt_of HRW.out
              have HBA := Aside.mk (HBW.out.trans (hal.mono HBW.out.size))
              have HBM : Aside (Below (wr.alloc (.cells #[.int .i64 7, .int .i64 0, .int .i64 0, .int .i64 0] 79)).heap.size (wr.alloc (.cells #[.int .i64 7, .int .i64 0, .int .i64 0, .int .i64 0] 79)) ((wr.alloc (.cells #[.int .i64 7, .int .i64 0, .int .i64 0, .int .i64 0] 79)).alloc (.map #[] 0))) := ⟨(Below.refl _ _).alloc (Nat.le_refl _) _⟩
              have HM0 := Aside.mk (IsM.nil (wr.alloc (.cells #[.int .i64 7, .int .i64 0, .int .i64 0, .int .i64 0] 79)))
              clear hal
              obtain ⟨W0, hW0⟩ : ∃ W0, (wr.alloc (.cells #[.int .i64 7, .int .i64 0, .int .i64 0, .int .i64 0] 79)) = W0 := ⟨_, rfl⟩
              have HW0 := Aside.mk hW0
              rw [hW0] at HBM HM0 HAL HRW HBA
              obtain ⟨gm, hgm⟩ : ∃ gm, wr.heap.size + 1 = gm := ⟨_, rfl⟩
              have HGM := Aside.mk hgm
              have HS0 : Aside (W0.heap.size = gm) := ⟨by rw [← hW0, World.size_alloc]; exact hgm⟩
              rw [HS0.out] at HBM HM0
              clear hgm hW0
              have hmz := HM0.out
              have hbz : gm ≤ gm := Nat.le_refl _
              go_wp2_with (first | ((try simp only [HW0.out, HGM.out]); refine wpList_ins _ rfl 132 _ _ _ rfl 9 (by kernel_rfl) gm _ rfl (by assumption) _ rfl _ rfl (by simp) gm hbz ?_; intro wx hmx hbx; replace HBM := Aside.mk (HBM.out.trans hbx); clear hbx))
              have hmw : Below wr.heap.size wr wx := HAL.out.trans (HBM.out.mono (by have := HGM.out; omega))
              have hb5 := HCELL.out.2.2.1
              have hbb := HCELL.out.2.2.2.2
              have k5 := (hmw.cell (p := ⟨b5, 0, none⟩) hb5).trans HCELL.out.1
              have k6 := (hmw.cell (p := ⟨b5, 1, none⟩) hb5).trans HCELL.out.2.1
              have k0 := (hmw.cell (p := ⟨b, o, none⟩) hbb).trans HCELL.out.2.2.2.1
              have hlk := fun n => run_look (wx.drewN n) 132 9 (by kernel_rfl) (hmx.below (w' := wx.drewN n) ⟨rfl, rfl, rfl, Nat.le_refl _, fun _ _ => rfl⟩) 7 (.string ⟨#[43]⟩) rfl
              have HBX := Aside.mk (HBA.out.trans (HBM.out.mono (by have := HS0.out; have := HBA.out.size; omega)))
              clear hmw hb5 hbb hmx c0 c1 c2' c3 hgl
              go_quiet (fail)
              go_wp2_with fail
              go_ret
              refine ⟨⟨_, rfl, ?_⟩, HBX.out.trans ⟨rfl, rfl, rfl, Nat.le_refl _, fun _ _ => rfl⟩⟩
              simp [fmtT, ← HY.out, ← HZ.out, opCh, ByteArray.data_append]
            ·
              have hal : Below wr.heap.size wr (wr.alloc (.cells #[.int .i64 8, .int .i64 0, .int .i64 0, .int .i64 0] 79)) := (Below.refl _ _).alloc (Nat.le_refl _) _
              have HAL := Aside.mk hal
              have HRW := Aside.mk (heap_alloc_last wr (.cells #[.int .i64 8, .int .i64 0, .int .i64 0, .int .i64 0] 79))
              have hgl : wr.heap.size < (wr.alloc (.cells #[.int .i64 8, .int .i64 0, .int .i64 0, .int .i64 0] 79)).heap.size := lt_of HRW.out
              have HBA := Aside.mk (HBW.out.trans (hal.mono HBW.out.size))
              have HBM : Aside (Below (wr.alloc (.cells #[.int .i64 8, .int .i64 0, .int .i64 0, .int .i64 0] 79)).heap.size (wr.alloc (.cells #[.int .i64 8, .int .i64 0, .int .i64 0, .int .i64 0] 79)) ((wr.alloc (.cells #[.int .i64 8, .int .i64 0, .int .i64 0, .int .i64 0] 79)).alloc (.map #[] 0))) := ⟨(Below.refl _ _).alloc (Nat.le_refl _) _⟩
              have HM0 := Aside.mk (IsM.nil (wr.alloc (.cells #[.int .i64 8, .int .i64 0, .int .i64 0, .int .i64 0] 79)))
              clear hal
              obtain ⟨W0, hW0⟩ : ∃ W0, (wr.alloc (.cells #[.int .i64 8, .int .i64 0, .int .i64 0, .int .i64 0] 79)) = W0 := ⟨_, rfl⟩
              have HW0 := Aside.mk hW0
              rw [hW0] at HBM HM0 HAL HRW HBA
              obtain ⟨gm, hgm⟩ : ∃ gm, wr.heap.size + 1 = gm := ⟨_, rfl⟩
              have HGM := Aside.mk hgm
              have HS0 : Aside (W0.heap.size = gm) := ⟨by rw [← hW0, World.size_alloc]; exact hgm⟩
              rw [HS0.out] at HBM HM0
              clear hgm hW0
              have hmz := HM0.out
              have hbz : gm ≤ gm := Nat.le_refl _
              go_wp2_with (first | ((try simp only [HW0.out, HGM.out]); refine wpList_ins _ rfl 132 _ _ _ rfl 9 (by kernel_rfl) gm _ rfl (by assumption) _ rfl _ rfl (by simp) gm hbz ?_; intro wx hmx hbx; replace HBM := Aside.mk (HBM.out.trans hbx); clear hbx))
              have hmw : Below wr.heap.size wr wx := HAL.out.trans (HBM.out.mono (by have := HGM.out; omega))
              have hb5 := HCELL.out.2.2.1
              have hbb := HCELL.out.2.2.2.2
              have k5 := (hmw.cell (p := ⟨b5, 0, none⟩) hb5).trans HCELL.out.1
              have k6 := (hmw.cell (p := ⟨b5, 1, none⟩) hb5).trans HCELL.out.2.1
              have k0 := (hmw.cell (p := ⟨b, o, none⟩) hbb).trans HCELL.out.2.2.2.1
              have hlk := fun n => run_look (wx.drewN n) 132 9 (by kernel_rfl) (hmx.below (w' := wx.drewN n) ⟨rfl, rfl, rfl, Nat.le_refl _, fun _ _ => rfl⟩) 8 (.string ⟨#[45]⟩) rfl
              have HBX := Aside.mk (HBA.out.trans (HBM.out.mono (by have := HS0.out; have := HBA.out.size; omega)))
              clear hmw hb5 hbb hmx c0 c1 c2' c3 hgl
              go_quiet (fail)
              go_wp2_with fail
              go_ret
              refine ⟨⟨_, rfl, ?_⟩, HBX.out.trans ⟨rfl, rfl, rfl, Nat.le_refl _, fun _ _ => rfl⟩⟩
              simp [fmtT, ← HY.out, ← HZ.out, opCh, ByteArray.data_append]
            ·
              have hal : Below wr.heap.size wr (wr.alloc (.cells #[.int .i64 9, .int .i64 0, .int .i64 0, .int .i64 0] 79)) := (Below.refl _ _).alloc (Nat.le_refl _) _
              have HAL := Aside.mk hal
              have HRW := Aside.mk (heap_alloc_last wr (.cells #[.int .i64 9, .int .i64 0, .int .i64 0, .int .i64 0] 79))
              have hgl : wr.heap.size < (wr.alloc (.cells #[.int .i64 9, .int .i64 0, .int .i64 0, .int .i64 0] 79)).heap.size := lt_of HRW.out
              have HBA := Aside.mk (HBW.out.trans (hal.mono HBW.out.size))
              have HBM : Aside (Below (wr.alloc (.cells #[.int .i64 9, .int .i64 0, .int .i64 0, .int .i64 0] 79)).heap.size (wr.alloc (.cells #[.int .i64 9, .int .i64 0, .int .i64 0, .int .i64 0] 79)) ((wr.alloc (.cells #[.int .i64 9, .int .i64 0, .int .i64 0, .int .i64 0] 79)).alloc (.map #[] 0))) := ⟨(Below.refl _ _).alloc (Nat.le_refl _) _⟩
              have HM0 := Aside.mk (IsM.nil (wr.alloc (.cells #[.int .i64 9, .int .i64 0, .int .i64 0, .int .i64 0] 79)))
              clear hal
              obtain ⟨W0, hW0⟩ : ∃ W0, (wr.alloc (.cells #[.int .i64 9, .int .i64 0, .int .i64 0, .int .i64 0] 79)) = W0 := ⟨_, rfl⟩
              have HW0 := Aside.mk hW0
              rw [hW0] at HBM HM0 HAL HRW HBA
              obtain ⟨gm, hgm⟩ : ∃ gm, wr.heap.size + 1 = gm := ⟨_, rfl⟩
              have HGM := Aside.mk hgm
              have HS0 : Aside (W0.heap.size = gm) := ⟨by rw [← hW0, World.size_alloc]; exact hgm⟩
              rw [HS0.out] at HBM HM0
              clear hgm hW0
              have hmz := HM0.out
              have hbz : gm ≤ gm := Nat.le_refl _
              go_wp2_with (first | ((try simp only [HW0.out, HGM.out]); refine wpList_ins _ rfl 132 _ _ _ rfl 9 (by kernel_rfl) gm _ rfl (by assumption) _ rfl _ rfl (by simp) gm hbz ?_; intro wx hmx hbx; replace HBM := Aside.mk (HBM.out.trans hbx); clear hbx))
              have hmw : Below wr.heap.size wr wx := HAL.out.trans (HBM.out.mono (by have := HGM.out; omega))
              have hb5 := HCELL.out.2.2.1
              have hbb := HCELL.out.2.2.2.2
              have k5 := (hmw.cell (p := ⟨b5, 0, none⟩) hb5).trans HCELL.out.1
              have k6 := (hmw.cell (p := ⟨b5, 1, none⟩) hb5).trans HCELL.out.2.1
              have k0 := (hmw.cell (p := ⟨b, o, none⟩) hbb).trans HCELL.out.2.2.2.1
              have hlk := fun n => run_look (wx.drewN n) 132 9 (by kernel_rfl) (hmx.below (w' := wx.drewN n) ⟨rfl, rfl, rfl, Nat.le_refl _, fun _ _ => rfl⟩) 9 (.string ⟨#[42]⟩) rfl
              have HBX := Aside.mk (HBA.out.trans (HBM.out.mono (by have := HS0.out; have := HBA.out.size; omega)))
              clear hmw hb5 hbb hmx c0 c1 c2' c3 hgl
              go_quiet (fail)
              go_wp2_with fail
              go_ret
              refine ⟨⟨_, rfl, ?_⟩, HBX.out.trans ⟨rfl, rfl, rfl, Nat.le_refl _, fun _ _ => rfl⟩⟩
              simp [fmtT, ← HY.out, ← HZ.out, opCh, ByteArray.data_append]
            ·
              have hal : Below wr.heap.size wr (wr.alloc (.cells #[.int .i64 10, .int .i64 0, .int .i64 0, .int .i64 0] 79)) := (Below.refl _ _).alloc (Nat.le_refl _) _
              have HAL := Aside.mk hal
              have HRW := Aside.mk (heap_alloc_last wr (.cells #[.int .i64 10, .int .i64 0, .int .i64 0, .int .i64 0] 79))
              have hgl : wr.heap.size < (wr.alloc (.cells #[.int .i64 10, .int .i64 0, .int .i64 0, .int .i64 0] 79)).heap.size := lt_of HRW.out
              have HBA := Aside.mk (HBW.out.trans (hal.mono HBW.out.size))
              have HBM : Aside (Below (wr.alloc (.cells #[.int .i64 10, .int .i64 0, .int .i64 0, .int .i64 0] 79)).heap.size (wr.alloc (.cells #[.int .i64 10, .int .i64 0, .int .i64 0, .int .i64 0] 79)) ((wr.alloc (.cells #[.int .i64 10, .int .i64 0, .int .i64 0, .int .i64 0] 79)).alloc (.map #[] 0))) := ⟨(Below.refl _ _).alloc (Nat.le_refl _) _⟩
              have HM0 := Aside.mk (IsM.nil (wr.alloc (.cells #[.int .i64 10, .int .i64 0, .int .i64 0, .int .i64 0] 79)))
              clear hal
              obtain ⟨W0, hW0⟩ : ∃ W0, (wr.alloc (.cells #[.int .i64 10, .int .i64 0, .int .i64 0, .int .i64 0] 79)) = W0 := ⟨_, rfl⟩
              have HW0 := Aside.mk hW0
              rw [hW0] at HBM HM0 HAL HRW HBA
              obtain ⟨gm, hgm⟩ : ∃ gm, wr.heap.size + 1 = gm := ⟨_, rfl⟩
              have HGM := Aside.mk hgm
              have HS0 : Aside (W0.heap.size = gm) := ⟨by rw [← hW0, World.size_alloc]; exact hgm⟩
              rw [HS0.out] at HBM HM0
              clear hgm hW0
              have hmz := HM0.out
              have hbz : gm ≤ gm := Nat.le_refl _
              go_wp2_with (first | ((try simp only [HW0.out, HGM.out]); refine wpList_ins _ rfl 132 _ _ _ rfl 9 (by kernel_rfl) gm _ rfl (by assumption) _ rfl _ rfl (by simp) gm hbz ?_; intro wx hmx hbx; replace HBM := Aside.mk (HBM.out.trans hbx); clear hbx))
              have hmw : Below wr.heap.size wr wx := HAL.out.trans (HBM.out.mono (by have := HGM.out; omega))
              have hb5 := HCELL.out.2.2.1
              have hbb := HCELL.out.2.2.2.2
              have k5 := (hmw.cell (p := ⟨b5, 0, none⟩) hb5).trans HCELL.out.1
              have k6 := (hmw.cell (p := ⟨b5, 1, none⟩) hb5).trans HCELL.out.2.1
              have k0 := (hmw.cell (p := ⟨b, o, none⟩) hbb).trans HCELL.out.2.2.2.1
              have hlk := fun n => run_look (wx.drewN n) 132 9 (by kernel_rfl) (hmx.below (w' := wx.drewN n) ⟨rfl, rfl, rfl, Nat.le_refl _, fun _ _ => rfl⟩) 10 (.string ⟨#[47]⟩) rfl
              have HBX := Aside.mk (HBA.out.trans (HBM.out.mono (by have := HS0.out; have := HBA.out.size; omega)))
              clear hmw hb5 hbb hmx c0 c1 c2' c3 hgl
              go_quiet (fail)
              go_wp2_with fail
              go_ret
              refine ⟨⟨_, rfl, ?_⟩, HBX.out.trans ⟨rfl, rfl, rfl, Nat.le_refl _, fun _ _ => rfl⟩⟩
              simp [fmtT, ← HY.out, ← HZ.out, opCh, ByteArray.data_append]
set_option maxRecDepth 100000 in
theorem FormatExpr_any {vars : List ByteArray} (hnm : ∀ x ∈ strL vars, okName x = true) (t : Tr) (hok : okT (strL vars) t) (v vn : Value) (w : World) (h : RdN w v (flat t)) (hv : Strs w vn vars) (ht : Fx.Tabs w) :
    Calls Tryz.prog 37 #[v, vn] w fun e' w' => (∃ s, e' = .returned (.string s) ∧ s.data.toList = fmtT (strL vars) t) ∧ Below w.heap.size w w' :=
  FormatExpr_n hnm _ t (Nat.le_refl _) hok v vn w h hv ht
end Go.Proofs.YthcidkidpiaomaaGreatDoor.Od
end
