/- OfD -/
import Derived.Test.YthcidkidpiaomaaGreatDoorKb28
section
set_option linter.unusedVariables false
set_option linter.unusedSimpArgs false
namespace Go.Proofs.YthcidkidpiaomaaGreatDoor.Od
open Go.RowKit Rg
theorem enters_rvn : ∀ args w, (callFunc 63 args).run Tryz.prog w = .ok (.enter 63 args) w := fun args w => by kernel_rfl
theorem enters_rix : ∀ args w, (callFunc 64 args).run Tryz.prog w = .ok (.enter 64 args) w := fun args w => by kernel_rfl
theorem enters_rve : ∀ args w, (callFunc 15 args).run Tryz.prog w = .ok (.enter 15 args) w := fun args w => by kernel_rfl
theorem idx_here {vars : List (List UInt8)} {x : List UInt8} {i : Nat} (h : vars[i]? = some x) : idxV (idxOf vars x) = (i : Int) ↔ (vars.take i).contains x = false := by
 constructor
 ·intro hi
  cases hx : idxOf vars x with
  | none => rw [hx] at hi; simp only [idxV] at hi; omega
  | some k =>
   rw [hx] at hi
   simp only [idxV] at hi
   obtain rfl : k = i := by omega
   unfold idxOf at hx
   rw [List.findIdx?_eq_some_iff_getElem] at hx
   obtain ⟨hk, -, hp⟩ := hx
   cases hc : (vars.take k).contains x with
   | false => rfl
   | true =>
    rw [List.contains_iff_mem, List.mem_take_iff_getElem] at hc
    obtain ⟨j, hj, he⟩ := hc
    have := hp j (by omega)
    rw [he] at this
    simp at this
 ·intro hc
  rw [idxOf_step h (fun z hz e => ?_) rfl]
  ·rfl
  ·subst e
   have : (vars.take i).contains z = true := List.contains_iff_mem.2 hz
   rw [hc] at this; cases this
theorem okNames_step (xs : List ByteArray) (i : Nat) (x : ByteArray) (h : xs[i]? = some x) : okNames ((strL xs).drop i) ((strL xs).take i) = (okName x.data.toList && !((strL xs).take i).contains x.data.toList && okNames ((strL xs).drop (i + 1)) ((strL xs).take (i + 1))) := by
 obtain ⟨hi, rfl⟩ := List.getElem?_eq_some_iff.1 h
 rw [strL_drop xs i hi, okNames_cons, strL_take xs i hi]
set_option maxRecDepth 100000 in
set_option maxHeartbeats 16000000 in
theorem rValid_any (vn vf : Value) (xs : List ByteArray) (fs : List (List Nd)) (w : World) (hn : Strs w vn xs) (hf : Fs w vf fs) (hsz : ∀ x ∈ xs, x.size ≤ 140737488351232) :
  Calls Tryz.prog 17 #[.agg #[vn, vf]] w fun e w' => e = .returned (.bool (okSys (strL xs) fs)) ∧ Below w.heap.size w w' := by
 have HV : Aside (okSys (strL xs) fs = (decide (1 ≤ (strL xs).length) && decide ((strL xs).length ≤ 6) && decide (fs.length = (strL xs).length) && okNames (strL xs) [] && fs.all (okEx (strL xs).length))) := ⟨rfl⟩
 have hsl : (strL xs).length = xs.length := by unfold strL; rw [List.length_map]
 rw [hsl] at HV
 obtain ⟨an, cn, hvn, hna⟩ := hn.at
 obtain ⟨af, cf, hvf, hfa⟩ := hf.at
 obtain ⟨N, hN⟩ : ∃ N, xs.length = N := ⟨_, rfl⟩
 obtain ⟨M, hM⟩ : ∃ M, fs.length = M := ⟨_, rfl⟩
 have HSN := Aside.mk hn
 have HNA := Aside.mk hna
 have HFA := Aside.mk hfa
 have HNL := Aside.mk hN
 have HML := Aside.mk hM
 have HZ := Aside.mk hsz
 rw [hN] at HV hvn
 rw [hM] at HV hvf
 subst hvn hvf
 clear hn hf hna hfa hN hM hsl hsz
 have hal : Below w.heap.size w (w.alloc (.cells #[.slice an N cn, .slice af M cf] 25)) := (Below.refl _ _).alloc (Nat.le_refl _) _
 have HR := Aside.mk (heap_alloc_last w (.cells #[.slice an N cn, .slice af M cf] 25))
 have HB := Aside.mk hal
 clear hal
 by_cases h1 : N < 1
 ·have h1' : (N : Int) < 1 := by omega
  have d1 : decide ((N : Int) < 1) = true := by simpa using h1'
  have HV : Aside (okSys (strL xs) fs = false) := ⟨by rw [HV.out, show decide (1 ≤ N) = false by simpa using h1]; rfl⟩
  go_enter Tryz.func17, Tryz.ntmps17
  go_wp2_with fail
  go_ret
  rw [HV.out]
  exact ⟨rfl, HB.out⟩
 ·have h1' : ¬ ((N : Int) < 1) := by omega
  have d1 : decide ((N : Int) < 1) = false := by simpa using h1'
  by_cases h6 : N ≤ 6
  ·have h6' : ¬ ((6 : Int) < (N : Int)) := by omega
   have d6 : decide ((6 : Int) < (N : Int)) = false := by simpa using h6'
   by_cases hMN : M = N
   ·subst hMN
    have HV2 : Aside (okSys (strL xs) fs = (okNames (strL xs) [] && fs.all (okEx (M : Int)))) := ⟨by rw [HV.out, decide_eq_true (show 1 ≤ M by omega), decide_eq_true h6]; simp⟩
    have H6 := Aside.mk h6
    have hM6 : (M : Int) ≤ 6 := by omega
    clear h1 h6
    go_enter Tryz.func17, Tryz.ntmps17
    go_wp2_with fail
    obtain ⟨g, hg⟩ : ∃ g, w.heap.size = g := ⟨_, rfl⟩
    have HG := Aside.mk hg
    rw [hg] at HB HR
    simp only [hg]
    generalize w.alloc (.cells #[.slice an M cn, .slice af M cf] 25) = W at HB HR ⊢
    clear hg
    go_loopg [4] M (fun m v4 wr => ∃ i : Nat, v4 = .int .i64 (i : Nat) ∧ Aside (i ≤ M ∧ M - i ≤ m) ∧ Aside (okSys (strL xs) fs = (okNames ((strL xs).drop i) ((strL xs).take i) && (fs.drop i).all (okEx (M : Int)))) ∧ Aside (Below W.heap.size W wr))
    case atStart => exact ⟨0, rfl, ⟨by simp⟩, ⟨by rw [HV2.out]; rfl⟩, ⟨Below.refl _ _⟩⟩
    case round =>
     obtain ⟨i, rfl, HI, HIN, HBW⟩ := hrel
     have hwr : Below w.heap.size w wr := HG.out ▸ HB.out.trans (HBW.out.mono (Nat.le_of_lt (heap_lt HR.out)))
     have HWR := Aside.mk hwr
     by_cases hi : i < M
     ·have hi' : (i : Int) < (M : Int) := by omega
      obtain ⟨x, hx⟩ : ∃ x, xs[i]? = some x := ⟨_, List.getElem?_eq_getElem (by rw [HNL.out]; exact hi)⟩
      obtain ⟨f, hfi⟩ : ∃ f, fs[i]? = some f := ⟨_, List.getElem?_eq_getElem (by rw [HML.out]; exact hi)⟩
      obtain ⟨bn, on, rfl, hcx⟩ := HNA.out i x hx
      obtain ⟨bf, of', u, rfl, hcu, hru⟩ := HFA.out i f hfi
      have cx : wr.cell? ⟨bn, on + i, none⟩ = some (.string x) := by rw [hwr.cell (p := ⟨bn, on + i, none⟩) (World.block_lt_of_cell? w _ hcx)]; exact hcx
      have cu : wr.cell? ⟨bf, of' + i, none⟩ = some u := by rw [hwr.cell (p := ⟨bf, of' + i, none⟩) (World.block_lt_of_cell? w _ hcu)]; exact hcu
      obtain ⟨au, lu, ru, rfl⟩ : ∃ au lu ru, u = .slice au lu ru := by obtain ⟨a, c, h⟩ := hru.slice; exact ⟨a, _, c, h⟩
      have HRU := Aside.mk (hru.below hwr)
      have HSV := Aside.mk (HSN.out.below hwr)
      have hrr := (HBW.out.block _ (heap_lt HR.out)).trans HR.out
      have k0 : wr.cell? ⟨g, 0, none⟩ = some (.slice (some ⟨bn, on, none⟩) M cn) := by rw [cell_of_row _ _ 0 _ _ _ hrr]; rfl
      have k1 : wr.cell? ⟨g, 1, none⟩ = some (.slice (some ⟨bf, of', none⟩) M cf) := by rw [cell_of_row _ _ 1 _ _ _ hrr]; rfl
      have hlg := heap_lt hrr
      have hlw : bn < wr.heap.size := World.block_lt_of_cell? wr _ cx
      have hlf : bf < wr.heap.size := World.block_lt_of_cell? wr _ cu
      have HXS := Aside.mk (HZ.out x (List.mem_of_getElem? hx))
      have hstep := okNames_step xs i x hx
      have hdrop : (fs.drop i).all (okEx (M : Int)) = (okEx (M : Int) f && (fs.drop (i + 1)).all (okEx (M : Int))) := by
       obtain ⟨hlk, rfl⟩ := List.getElem?_eq_some_iff.1 hfi
       rw [List.drop_eq_getElem_cons hlk, List.all_cons]
      have hidx := idx_here (vars := strL xs) (i := i) (x := x.data.toList) (by unfold strL; rw [List.getElem?_map, hx]; rfl)
      have HST : Aside (okSys (strL xs) fs = (okName x.data.toList && !((strL xs).take i).contains x.data.toList && okNames ((strL xs).drop (i + 1)) ((strL xs).take (i + 1)) && (okEx (M : Int) f && (fs.drop (i + 1)).all (okEx (M : Int))))) := ⟨by rw [HIN.out, hstep, hdrop]⟩
      obtain ⟨go, hgo⟩ : ∃ go, gk = go + 1 := ⟨gk - 1, by have := HI.out; omega⟩
      obtain ⟨ix, hix⟩ : ∃ ix, idxV (idxOf (strL xs) x.data.toList) = ix := ⟨_, rfl⟩
      have HIX := Aside.mk hix
      rw [hix] at hidx
      have HID := Aside.mk hidx
      have HC1 := Aside.mk (rValidName_any x HXS.out)
      have HC2 := Aside.mk (fun w h => rIndex_any (.slice (some ⟨bn, on, none⟩) M cn) xs x w h)
      have HC3 := Aside.mk (fun w h => rValidExpr_any (.slice au lu ru) f (M : Int) w h)
      rw [hix] at HC2
      obtain ⟨b1, hb1⟩ : ∃ b, okName x.data.toList = b := ⟨_, rfl⟩
      obtain ⟨b3, hb3⟩ : ∃ b, okEx (M : Int) f = b := ⟨_, rfl⟩
      rw [hb1] at HC1 HST
      rw [hb3] at HC3 HST
      clear hx hfi hcx hcu hru hrr hstep hdrop hidx hix hi hb1 hb3 hwr
      go_wp2_with fail
      cases b1 with
      | false =>
       have HX : Aside (okSys (strL xs) fs = false) := ⟨by rw [HST.out]; rfl⟩
       refine region_list (T := tab2 [
         Sq.val (.pointer (some ⟨g, 0, none⟩)), Sq.val (.slice (some ⟨bn, on, none⟩) M cn), Sq.val (.int .i64 (i : Nat)), Sq.val (.pointer (some ⟨bn, on + i, none⟩)), Sq.val (.string x), Sq.val (.bool false), Sq.val (.bool true), Sq.val (.bool true), Sq.val (undef), Sq.val (undef), Sq.val (undef), Sq.val (undef), Sq.val (undef), Sq.val (undef), Sq.val (undef), Sq.val (undef), Sq.val (undef), Sq.val (undef), Sq.val (.bool true), Sq.val (.bool true), Sq.val (undef), Sq.val (undef), Sq.val (undef), Sq.val (undef), Sq.val (undef), Sq.val (undef), Sq.val (undef), Sq.val (undef)]) 28
        [_, _, _, _, _, _, _, _, _, _, _, _, _, _, _, _, _, _, _, _, _, _, _, _, _, _, _, _, _] (by kernel_rfl) (by kernel_rfl) (by kernel_rfl) (by kernel_rfl) (by kernel_rfl) (by kernel_rfl) rfl ?_ ?_
       ·refine AllIn.cons ?_ ?_
        ·intro a w hz hb ho hg
         have e1 : a.tmps.getD 1 undef = .pointer (some ⟨g, 0, none⟩) := ho 1 (by kernel_rfl)
         have f1 := Rg.gd e1
         exact wv hb rfl (by simp [execOp, Act.eval, e1, f1, go_sem]) rfl
        refine AllIn.cons ?_ ?_
        ·intro a w hz hb ho hg
         have e26 : a.tmps.getD 26 undef = .pointer (some ⟨g, 0, none⟩) := got_of hg (j := 0) rfl rfl rfl
         have f26 := Rg.gd e26
         have q := (hb.cell (p := ⟨g, 0, none⟩) hlg).trans k0
         exact wv hb rfl (by simp [execOp, Act.eval, e26, f26, q, go_sem]) rfl
        refine AllIn.cons ?_ ?_
        ·intro a w hz hb ho hg
         have e4 : a.tmps.getD 4 undef = .int .i64 (i : Nat) := ho 4 (by kernel_rfl)
         have f4 := Rg.gd e4
         exact wv hb rfl (by simp [execOp, Act.eval, e4, f4, go_sem]) rfl
        refine AllIn.cons ?_ ?_
        ·intro a w hz hb ho hg
         have e27 : a.tmps.getD 27 undef = .slice (some ⟨bn, on, none⟩) M cn := got_of hg (j := 1) rfl rfl rfl
         have e28 : a.tmps.getD 28 undef = .int .i64 (i : Nat) := got_of hg (j := 2) rfl rfl rfl
         have f27 := Rg.gd e27
         have f28 := Rg.gd e28
         exact wv hb rfl (by simp [execOp, Act.eval, e27, e28, f27, f28, hi', go_sem]) rfl
        refine AllIn.cons ?_ ?_
        ·intro a w hz hb ho hg
         have e29 : a.tmps.getD 29 undef = .pointer (some ⟨bn, on + i, none⟩) := got_of hg (j := 3) rfl rfl rfl
         have f29 := Rg.gd e29
         have q := (hb.cell (p := ⟨bn, on + i, none⟩) hlw).trans cx
         exact wv hb rfl (by simp [execOp, Act.eval, e29, f29, q, go_sem]) rfl
        refine AllIn.cons ?_ ?_
        ·intro a w hz hb ho hg
         have e30 : a.tmps.getD 30 undef = .string x := got_of hg (j := 4) rfl rfl rfl
         have f30 := Rg.gd e30
         exact Or.inl ⟨wanted_none rfl, wp_calls hb.size (run_call (args := #[.string x]) enters_rvn (by simp [Act.eval, f30])) ((HC1.out w).mono (by rintro e w' ⟨rfl, hw⟩; exact ⟨_, rfl, hw ▸ Below.refl _ _, rfl⟩))⟩
        refine AllIn.cons ?_ ?_
        ·intro a w hz hb ho hg
         have e31 : a.tmps.getD 31 undef = .bool false := got_of hg (j := 5) rfl rfl rfl
         have f31 := Rg.gd e31
         exact wv hb rfl (by simp [execOp, Act.eval, e31, f31, go_sem]) rfl
        refine AllIn.cons ?_ ?_
        ·intro a w hz hb ho hg
         have e32 : a.tmps.getD 32 undef = .bool true := got_of hg (j := 6) rfl rfl rfl
         have f32 := Rg.gd e32
         exact wv hb rfl (by simp [execOp, Act.eval, e32, f32, go_sem]) rfl
        refine AllIn.cons ?_ ?_
        ·intro a w hz hb ho hg
         have e1 : a.tmps.getD 1 undef = .pointer (some ⟨g, 0, none⟩) := ho 1 (by kernel_rfl)
         have f1 := Rg.gd e1
         exact Or.inr ⟨by rw [wanted_of (j := 7) rfl rfl rfl (show a.tmps.getD 33 undef = .bool true from got_of hg (j := 7) rfl rfl rfl)]; rfl, rfl⟩
        refine AllIn.cons ?_ ?_
        ·intro a w hz hb ho hg
         have e34 : a.tmps.getD 34 undef = undef := got_of hg (j := 8) rfl rfl rfl
         have f34 := Rg.gd e34
         exact Or.inr ⟨by rw [wanted_of (j := 7) rfl rfl rfl (show a.tmps.getD 33 undef = .bool true from got_of hg (j := 7) rfl rfl rfl)]; rfl, rfl⟩
        refine AllIn.cons ?_ ?_
        ·intro a w hz hb ho hg
         have e1 : a.tmps.getD 1 undef = .pointer (some ⟨g, 0, none⟩) := ho 1 (by kernel_rfl)
         have f1 := Rg.gd e1
         exact Or.inr ⟨by rw [wanted_of (j := 7) rfl rfl rfl (show a.tmps.getD 33 undef = .bool true from got_of hg (j := 7) rfl rfl rfl)]; rfl, rfl⟩
        refine AllIn.cons ?_ ?_
        ·intro a w hz hb ho hg
         have e36 : a.tmps.getD 36 undef = undef := got_of hg (j := 10) rfl rfl rfl
         have f36 := Rg.gd e36
         exact Or.inr ⟨by rw [wanted_of (j := 7) rfl rfl rfl (show a.tmps.getD 33 undef = .bool true from got_of hg (j := 7) rfl rfl rfl)]; rfl, rfl⟩
        refine AllIn.cons ?_ ?_
        ·intro a w hz hb ho hg
         have e4 : a.tmps.getD 4 undef = .int .i64 (i : Nat) := ho 4 (by kernel_rfl)
         have f4 := Rg.gd e4
         exact Or.inr ⟨by rw [wanted_of (j := 7) rfl rfl rfl (show a.tmps.getD 33 undef = .bool true from got_of hg (j := 7) rfl rfl rfl)]; rfl, rfl⟩
        refine AllIn.cons ?_ ?_
        ·intro a w hz hb ho hg
         have e37 : a.tmps.getD 37 undef = undef := got_of hg (j := 11) rfl rfl rfl
         have e38 : a.tmps.getD 38 undef = undef := got_of hg (j := 12) rfl rfl rfl
         have f37 := Rg.gd e37
         have f38 := Rg.gd e38
         exact Or.inr ⟨by rw [wanted_of (j := 7) rfl rfl rfl (show a.tmps.getD 33 undef = .bool true from got_of hg (j := 7) rfl rfl rfl)]; rfl, rfl⟩
        refine AllIn.cons ?_ ?_
        ·intro a w hz hb ho hg
         have e39 : a.tmps.getD 39 undef = undef := got_of hg (j := 13) rfl rfl rfl
         have f39 := Rg.gd e39
         exact Or.inr ⟨by rw [wanted_of (j := 7) rfl rfl rfl (show a.tmps.getD 33 undef = .bool true from got_of hg (j := 7) rfl rfl rfl)]; rfl, rfl⟩
        refine AllIn.cons ?_ ?_
        ·intro a w hz hb ho hg
         have e35 : a.tmps.getD 35 undef = undef := got_of hg (j := 9) rfl rfl rfl
         have e40 : a.tmps.getD 40 undef = undef := got_of hg (j := 14) rfl rfl rfl
         have f35 := Rg.gd e35
         have f40 := Rg.gd e40
         exact Or.inr ⟨by rw [wanted_of (j := 7) rfl rfl rfl (show a.tmps.getD 33 undef = .bool true from got_of hg (j := 7) rfl rfl rfl)]; rfl, rfl⟩
        refine AllIn.cons ?_ ?_
        ·intro a w hz hb ho hg
         have e4 : a.tmps.getD 4 undef = .int .i64 (i : Nat) := ho 4 (by kernel_rfl)
         have f4 := Rg.gd e4
         exact Or.inr ⟨by rw [wanted_of (j := 7) rfl rfl rfl (show a.tmps.getD 33 undef = .bool true from got_of hg (j := 7) rfl rfl rfl)]; rfl, rfl⟩
        refine AllIn.cons ?_ ?_
        ·intro a w hz hb ho hg
         have e41 : a.tmps.getD 41 undef = undef := got_of hg (j := 15) rfl rfl rfl
         have e42 : a.tmps.getD 42 undef = undef := got_of hg (j := 16) rfl rfl rfl
         have f41 := Rg.gd e41
         have f42 := Rg.gd e42
         exact Or.inr ⟨by rw [wanted_of (j := 7) rfl rfl rfl (show a.tmps.getD 33 undef = .bool true from got_of hg (j := 7) rfl rfl rfl)]; rfl, rfl⟩
        refine AllIn.cons ?_ ?_
        ·intro a w hz hb ho hg
         have e33 : a.tmps.getD 33 undef = .bool true := got_of hg (j := 7) rfl rfl rfl
         have e43 : a.tmps.getD 43 undef = undef := got_of hg (j := 17) rfl rfl rfl
         have f33 := Rg.gd e33
         have f43 := Rg.gd e43
         exact wv hb rfl (by simp [execOp, Act.eval, e33, e43, f33, f43, go_sem]) rfl
        refine AllIn.cons ?_ ?_
        ·intro a w hz hb ho hg
         have e44 : a.tmps.getD 44 undef = .bool true := got_of hg (j := 18) rfl rfl rfl
         have f44 := Rg.gd e44
         exact wv hb rfl (by simp [execOp, Act.eval, e44, f44, go_sem]) rfl
        refine AllIn.cons ?_ ?_
        ·intro a w hz hb ho hg
         have e1 : a.tmps.getD 1 undef = .pointer (some ⟨g, 0, none⟩) := ho 1 (by kernel_rfl)
         have f1 := Rg.gd e1
         exact Or.inr ⟨by rw [wanted_of (j := 19) rfl rfl rfl (show a.tmps.getD 45 undef = .bool true from got_of hg (j := 19) rfl rfl rfl)]; rfl, rfl⟩
        refine AllIn.cons ?_ ?_
        ·intro a w hz hb ho hg
         have e46 : a.tmps.getD 46 undef = undef := got_of hg (j := 20) rfl rfl rfl
         have f46 := Rg.gd e46
         exact Or.inr ⟨by rw [wanted_of (j := 19) rfl rfl rfl (show a.tmps.getD 45 undef = .bool true from got_of hg (j := 19) rfl rfl rfl)]; rfl, rfl⟩
        refine AllIn.cons ?_ ?_
        ·intro a w hz hb ho hg
         have e4 : a.tmps.getD 4 undef = .int .i64 (i : Nat) := ho 4 (by kernel_rfl)
         have f4 := Rg.gd e4
         exact Or.inr ⟨by rw [wanted_of (j := 19) rfl rfl rfl (show a.tmps.getD 45 undef = .bool true from got_of hg (j := 19) rfl rfl rfl)]; rfl, rfl⟩
        refine AllIn.cons ?_ ?_
        ·intro a w hz hb ho hg
         have e47 : a.tmps.getD 47 undef = undef := got_of hg (j := 21) rfl rfl rfl
         have e48 : a.tmps.getD 48 undef = undef := got_of hg (j := 22) rfl rfl rfl
         have f47 := Rg.gd e47
         have f48 := Rg.gd e48
         exact Or.inr ⟨by rw [wanted_of (j := 19) rfl rfl rfl (show a.tmps.getD 45 undef = .bool true from got_of hg (j := 19) rfl rfl rfl)]; rfl, rfl⟩
        refine AllIn.cons ?_ ?_
        ·intro a w hz hb ho hg
         have e49 : a.tmps.getD 49 undef = undef := got_of hg (j := 23) rfl rfl rfl
         have f49 := Rg.gd e49
         exact Or.inr ⟨by rw [wanted_of (j := 19) rfl rfl rfl (show a.tmps.getD 45 undef = .bool true from got_of hg (j := 19) rfl rfl rfl)]; rfl, rfl⟩
        refine AllIn.cons ?_ ?_
        ·intro a w hz hb ho hg
         have e3 : a.tmps.getD 3 undef = .int .i64 (M : Nat) := ho 3 (by kernel_rfl)
         have f3 := Rg.gd e3
         exact Or.inr ⟨by rw [wanted_of (j := 19) rfl rfl rfl (show a.tmps.getD 45 undef = .bool true from got_of hg (j := 19) rfl rfl rfl)]; rfl, rfl⟩
        refine AllIn.cons ?_ ?_
        ·intro a w hz hb ho hg
         have e50 : a.tmps.getD 50 undef = undef := got_of hg (j := 24) rfl rfl rfl
         have e51 : a.tmps.getD 51 undef = undef := got_of hg (j := 25) rfl rfl rfl
         have f50 := Rg.gd e50
         have f51 := Rg.gd e51
         exact Or.inr ⟨by rw [wanted_of (j := 19) rfl rfl rfl (show a.tmps.getD 45 undef = .bool true from got_of hg (j := 19) rfl rfl rfl)]; rfl, rfl⟩
        refine AllIn.cons ?_ ?_
        ·intro a w hz hb ho hg
         have e52 : a.tmps.getD 52 undef = undef := got_of hg (j := 26) rfl rfl rfl
         have f52 := Rg.gd e52
         exact Or.inr ⟨by rw [wanted_of (j := 19) rfl rfl rfl (show a.tmps.getD 45 undef = .bool true from got_of hg (j := 19) rfl rfl rfl)]; rfl, rfl⟩
        exact AllIn.nil
       intro a w2 hd hz hb ho hg
       have e26 : a.tmps.getD 26 undef = .pointer (some ⟨g, 0, none⟩) := hg 0 (by decide) _ _ rfl rfl
       have e27 : a.tmps.getD 27 undef = .slice (some ⟨bn, on, none⟩) M cn := hg 1 (by decide) _ _ rfl rfl
       have e28 : a.tmps.getD 28 undef = .int .i64 (i : Nat) := hg 2 (by decide) _ _ rfl rfl
       have e29 : a.tmps.getD 29 undef = .pointer (some ⟨bn, on + i, none⟩) := hg 3 (by decide) _ _ rfl rfl
       have e30 : a.tmps.getD 30 undef = .string x := hg 4 (by decide) _ _ rfl rfl
       have e31 : a.tmps.getD 31 undef = .bool false := hg 5 (by decide) _ _ rfl rfl
       have e32 : a.tmps.getD 32 undef = .bool true := hg 6 (by decide) _ _ rfl rfl
       have e33 : a.tmps.getD 33 undef = .bool true := hg 7 (by decide) _ _ rfl rfl
       have e34 : a.tmps.getD 34 undef = undef := hg 8 (by decide) _ _ rfl rfl
       have e35 : a.tmps.getD 35 undef = undef := hg 9 (by decide) _ _ rfl rfl
       have e36 : a.tmps.getD 36 undef = undef := hg 10 (by decide) _ _ rfl rfl
       have e37 : a.tmps.getD 37 undef = undef := hg 11 (by decide) _ _ rfl rfl
       have e38 : a.tmps.getD 38 undef = undef := hg 12 (by decide) _ _ rfl rfl
       have e39 : a.tmps.getD 39 undef = undef := hg 13 (by decide) _ _ rfl rfl
       have e40 : a.tmps.getD 40 undef = undef := hg 14 (by decide) _ _ rfl rfl
       have e41 : a.tmps.getD 41 undef = undef := hg 15 (by decide) _ _ rfl rfl
       have e42 : a.tmps.getD 42 undef = undef := hg 16 (by decide) _ _ rfl rfl
       have e43 : a.tmps.getD 43 undef = undef := hg 17 (by decide) _ _ rfl rfl
       have e44 : a.tmps.getD 44 undef = .bool true := hg 18 (by decide) _ _ rfl rfl
       have e45 : a.tmps.getD 45 undef = .bool true := hg 19 (by decide) _ _ rfl rfl
       have e46 : a.tmps.getD 46 undef = undef := hg 20 (by decide) _ _ rfl rfl
       have e47 : a.tmps.getD 47 undef = undef := hg 21 (by decide) _ _ rfl rfl
       have e48 : a.tmps.getD 48 undef = undef := hg 22 (by decide) _ _ rfl rfl
       have e49 : a.tmps.getD 49 undef = undef := hg 23 (by decide) _ _ rfl rfl
       have e50 : a.tmps.getD 50 undef = undef := hg 24 (by decide) _ _ rfl rfl
       have e51 : a.tmps.getD 51 undef = undef := hg 25 (by decide) _ _ rfl rfl
       have e52 : a.tmps.getD 52 undef = undef := hg 26 (by decide) _ _ rfl rfl
       have e53 : a.tmps.getD 53 undef = undef := hg 27 (by decide) _ _ rfl rfl
       have hA := ho.frame hz
       simp only [List.take_succ_cons, List.take_zero, List.filterMap_cons, List.filterMap_nil, List.foldl_cons, List.foldl_nil, e26, e27, e28, e29, e30, e31, e32, e33, e34, e35, e36, e37, e38, e39, e40, e41, e42, e43, e44, e45, e46, e47, e48, e49, e50, e51, e52, e53, List.setIfInBounds_toArray, List.set_cons_zero, List.set_cons_succ] at hA
       obtain ⟨tm, df⟩ := a
       simp only at hd hA
       subst hd
       subst hA
       simp only [List.drop_succ_cons, List.drop_zero]
       have HH2 := Aside.mk hb
       clear hz ho hg hb e26 e27 e28 e29 e30 e31 e32 e33 e34 e35 e36 e37 e38 e39 e40 e41 e42 e43 e44 e45 e46 e47 e48 e49 e50 e51 e52 e53
       go_wp2_with fail
       go_ret
       rw [HX.out]
       exact ⟨rfl, HWR.out.trans (HH2.out.mono HWR.out.size)⟩
      | true =>
       by_cases hie : ix = (i : Int)
       ·have hct := HID.out.1 hie
        cases b3 with
        | false =>
         have HX : Aside (okSys (strL xs) fs = false) := ⟨by rw [HST.out]; simp⟩
         subst hie
         refine region_list (T := tab2 [
           Sq.val (.pointer (some ⟨g, 0, none⟩)), Sq.val (.slice (some ⟨bn, on, none⟩) M cn), Sq.val (.int .i64 (i : Nat)), Sq.val (.pointer (some ⟨bn, on + i, none⟩)), Sq.val (.string x), Sq.val (.bool true), Sq.val (.bool false), Sq.val (.bool false), Sq.val (.pointer (some ⟨g, 0, none⟩)), Sq.val (.slice (some ⟨bn, on, none⟩) M cn), Sq.val (.pointer (some ⟨g, 0, none⟩)), Sq.val (.slice (some ⟨bn, on, none⟩) M cn), Sq.val (.int .i64 (i : Nat)), Sq.val (.pointer (some ⟨bn, on + i, none⟩)), Sq.val (.string x), Sq.val (.int .i64 (i : Nat)), Sq.val (.int .i64 (i : Nat)), Sq.val (.bool false), Sq.val (.bool false), Sq.val (.bool false), Sq.val (.pointer (some ⟨g, 1, none⟩)), Sq.val (.slice (some ⟨bf, of', none⟩) M cf), Sq.val (.int .i64 (i : Nat)), Sq.val (.pointer (some ⟨bf, of' + i, none⟩)), Sq.val (.slice au lu ru), Sq.val (.int .i64 (M : Nat)), Sq.val (.bool false), Sq.val (.bool true)]) 28
          [_, _, _, _, _, _, _, _, _, _, _, _, _, _, _, _, _, _, _, _, _, _, _, _, _, _, _, _, _] (by kernel_rfl) (by kernel_rfl) (by kernel_rfl) (by kernel_rfl) (by kernel_rfl) (by kernel_rfl) rfl ?_ ?_
         ·refine AllIn.cons ?_ ?_
          ·intro a w hz hb ho hg
           have e1 : a.tmps.getD 1 undef = .pointer (some ⟨g, 0, none⟩) := ho 1 (by kernel_rfl)
           have f1 := Rg.gd e1
           exact wv hb rfl (by simp [execOp, Act.eval, e1, f1, go_sem]) rfl
          refine AllIn.cons ?_ ?_
          ·intro a w hz hb ho hg
           have e26 : a.tmps.getD 26 undef = .pointer (some ⟨g, 0, none⟩) := got_of hg (j := 0) rfl rfl rfl
           have f26 := Rg.gd e26
           have q := (hb.cell (p := ⟨g, 0, none⟩) hlg).trans k0
           exact wv hb rfl (by simp [execOp, Act.eval, e26, f26, q, go_sem]) rfl
          refine AllIn.cons ?_ ?_
          ·intro a w hz hb ho hg
           have e4 : a.tmps.getD 4 undef = .int .i64 (i : Nat) := ho 4 (by kernel_rfl)
           have f4 := Rg.gd e4
           exact wv hb rfl (by simp [execOp, Act.eval, e4, f4, go_sem]) rfl
          refine AllIn.cons ?_ ?_
          ·intro a w hz hb ho hg
           have e27 : a.tmps.getD 27 undef = .slice (some ⟨bn, on, none⟩) M cn := got_of hg (j := 1) rfl rfl rfl
           have e28 : a.tmps.getD 28 undef = .int .i64 (i : Nat) := got_of hg (j := 2) rfl rfl rfl
           have f27 := Rg.gd e27
           have f28 := Rg.gd e28
           exact wv hb rfl (by simp [execOp, Act.eval, e27, e28, f27, f28, hi', go_sem]) rfl
          refine AllIn.cons ?_ ?_
          ·intro a w hz hb ho hg
           have e29 : a.tmps.getD 29 undef = .pointer (some ⟨bn, on + i, none⟩) := got_of hg (j := 3) rfl rfl rfl
           have f29 := Rg.gd e29
           have q := (hb.cell (p := ⟨bn, on + i, none⟩) hlw).trans cx
           exact wv hb rfl (by simp [execOp, Act.eval, e29, f29, q, go_sem]) rfl
          refine AllIn.cons ?_ ?_
          ·intro a w hz hb ho hg
           have e30 : a.tmps.getD 30 undef = .string x := got_of hg (j := 4) rfl rfl rfl
           have f30 := Rg.gd e30
           exact Or.inl ⟨wanted_none rfl, wp_calls hb.size (run_call (args := #[.string x]) enters_rvn (by simp [Act.eval, f30])) ((HC1.out w).mono (by rintro e w' ⟨rfl, hw⟩; exact ⟨_, rfl, hw ▸ Below.refl _ _, rfl⟩))⟩
          refine AllIn.cons ?_ ?_
          ·intro a w hz hb ho hg
           have e31 : a.tmps.getD 31 undef = .bool true := got_of hg (j := 5) rfl rfl rfl
           have f31 := Rg.gd e31
           exact wv hb rfl (by simp [execOp, Act.eval, e31, f31, go_sem]) rfl
          refine AllIn.cons ?_ ?_
          ·intro a w hz hb ho hg
           have e32 : a.tmps.getD 32 undef = .bool false := got_of hg (j := 6) rfl rfl rfl
           have f32 := Rg.gd e32
           exact wv hb rfl (by simp [execOp, Act.eval, e32, f32, go_sem]) rfl
          refine AllIn.cons ?_ ?_
          ·intro a w hz hb ho hg
           have e1 : a.tmps.getD 1 undef = .pointer (some ⟨g, 0, none⟩) := ho 1 (by kernel_rfl)
           have f1 := Rg.gd e1
           exact Or.inl ⟨by rw [wanted_of (j := 7) rfl rfl rfl (show a.tmps.getD 33 undef = .bool false from got_of hg (j := 7) rfl rfl rfl)]; rfl, wp_value hb.size (by simp [execOp, Act.eval, e1, f1, go_sem]) (Below.refl _ _) rfl⟩
          refine AllIn.cons ?_ ?_
          ·intro a w hz hb ho hg
           have e34 : a.tmps.getD 34 undef = .pointer (some ⟨g, 0, none⟩) := got_of hg (j := 8) rfl rfl rfl
           have f34 := Rg.gd e34
           have q := (hb.cell (p := ⟨g, 0, none⟩) hlg).trans k0
           exact Or.inl ⟨by rw [wanted_of (j := 7) rfl rfl rfl (show a.tmps.getD 33 undef = .bool false from got_of hg (j := 7) rfl rfl rfl)]; rfl, wp_value hb.size (by simp [execOp, Act.eval, e34, f34, q, go_sem]) (Below.refl _ _) rfl⟩
          refine AllIn.cons ?_ ?_
          ·intro a w hz hb ho hg
           have e1 : a.tmps.getD 1 undef = .pointer (some ⟨g, 0, none⟩) := ho 1 (by kernel_rfl)
           have f1 := Rg.gd e1
           exact Or.inl ⟨by rw [wanted_of (j := 7) rfl rfl rfl (show a.tmps.getD 33 undef = .bool false from got_of hg (j := 7) rfl rfl rfl)]; rfl, wp_value hb.size (by simp [execOp, Act.eval, e1, f1, go_sem]) (Below.refl _ _) rfl⟩
          refine AllIn.cons ?_ ?_
          ·intro a w hz hb ho hg
           have e36 : a.tmps.getD 36 undef = .pointer (some ⟨g, 0, none⟩) := got_of hg (j := 10) rfl rfl rfl
           have f36 := Rg.gd e36
           have q := (hb.cell (p := ⟨g, 0, none⟩) hlg).trans k0
           exact Or.inl ⟨by rw [wanted_of (j := 7) rfl rfl rfl (show a.tmps.getD 33 undef = .bool false from got_of hg (j := 7) rfl rfl rfl)]; rfl, wp_value hb.size (by simp [execOp, Act.eval, e36, f36, q, go_sem]) (Below.refl _ _) rfl⟩
          refine AllIn.cons ?_ ?_
          ·intro a w hz hb ho hg
           have e4 : a.tmps.getD 4 undef = .int .i64 (i : Nat) := ho 4 (by kernel_rfl)
           have f4 := Rg.gd e4
           exact Or.inl ⟨by rw [wanted_of (j := 7) rfl rfl rfl (show a.tmps.getD 33 undef = .bool false from got_of hg (j := 7) rfl rfl rfl)]; rfl, wp_value hb.size (by simp [execOp, Act.eval, e4, f4, go_sem]) (Below.refl _ _) rfl⟩
          refine AllIn.cons ?_ ?_
          ·intro a w hz hb ho hg
           have e37 : a.tmps.getD 37 undef = .slice (some ⟨bn, on, none⟩) M cn := got_of hg (j := 11) rfl rfl rfl
           have e38 : a.tmps.getD 38 undef = .int .i64 (i : Nat) := got_of hg (j := 12) rfl rfl rfl
           have f37 := Rg.gd e37
           have f38 := Rg.gd e38
           exact Or.inl ⟨by rw [wanted_of (j := 7) rfl rfl rfl (show a.tmps.getD 33 undef = .bool false from got_of hg (j := 7) rfl rfl rfl)]; rfl, wp_value hb.size (by simp [execOp, Act.eval, e37, e38, f37, f38, hi', go_sem]) (Below.refl _ _) rfl⟩
          refine AllIn.cons ?_ ?_
          ·intro a w hz hb ho hg
           have e39 : a.tmps.getD 39 undef = .pointer (some ⟨bn, on + i, none⟩) := got_of hg (j := 13) rfl rfl rfl
           have f39 := Rg.gd e39
           have q := (hb.cell (p := ⟨bn, on + i, none⟩) hlw).trans cx
           exact Or.inl ⟨by rw [wanted_of (j := 7) rfl rfl rfl (show a.tmps.getD 33 undef = .bool false from got_of hg (j := 7) rfl rfl rfl)]; rfl, wp_value hb.size (by simp [execOp, Act.eval, e39, f39, q, go_sem]) (Below.refl _ _) rfl⟩
          refine AllIn.cons ?_ ?_
          ·intro a w hz hb ho hg
           have e35 : a.tmps.getD 35 undef = .slice (some ⟨bn, on, none⟩) M cn := got_of hg (j := 9) rfl rfl rfl
           have e40 : a.tmps.getD 40 undef = .string x := got_of hg (j := 14) rfl rfl rfl
           have f35 := Rg.gd e35
           have f40 := Rg.gd e40
           exact Or.inl ⟨by rw [wanted_of (j := 7) rfl rfl rfl (show a.tmps.getD 33 undef = .bool false from got_of hg (j := 7) rfl rfl rfl)]; rfl, wp_calls hb.size (run_call (args := #[.slice (some ⟨bn, on, none⟩) M cn, .string x]) enters_rix (by simp [Act.eval, f35, f40])) ((HC2.out w (HSV.out.below hb)).mono (by rintro e w' ⟨rfl, hw⟩; exact ⟨_, rfl, hw ▸ Below.refl _ _, rfl⟩))⟩
          refine AllIn.cons ?_ ?_
          ·intro a w hz hb ho hg
           have e4 : a.tmps.getD 4 undef = .int .i64 (i : Nat) := ho 4 (by kernel_rfl)
           have f4 := Rg.gd e4
           exact Or.inl ⟨by rw [wanted_of (j := 7) rfl rfl rfl (show a.tmps.getD 33 undef = .bool false from got_of hg (j := 7) rfl rfl rfl)]; rfl, wp_value hb.size (by simp [execOp, Act.eval, e4, f4, go_sem]) (Below.refl _ _) rfl⟩
          refine AllIn.cons ?_ ?_
          ·intro a w hz hb ho hg
           have e41 : a.tmps.getD 41 undef = .int .i64 (i : Nat) := got_of hg (j := 15) rfl rfl rfl
           have e42 : a.tmps.getD 42 undef = .int .i64 (i : Nat) := got_of hg (j := 16) rfl rfl rfl
           have f41 := Rg.gd e41
           have f42 := Rg.gd e42
           exact Or.inl ⟨by rw [wanted_of (j := 7) rfl rfl rfl (show a.tmps.getD 33 undef = .bool false from got_of hg (j := 7) rfl rfl rfl)]; rfl, wp_value hb.size (by simp [execOp, Act.eval, e41, e42, f41, f42, go_sem]) (Below.refl _ _) rfl⟩
          refine AllIn.cons ?_ ?_
          ·intro a w hz hb ho hg
           have e33 : a.tmps.getD 33 undef = .bool false := got_of hg (j := 7) rfl rfl rfl
           have e43 : a.tmps.getD 43 undef = .bool false := got_of hg (j := 17) rfl rfl rfl
           have f33 := Rg.gd e33
           have f43 := Rg.gd e43
           exact wv hb rfl (by simp [execOp, Act.eval, e33, e43, f33, f43, go_sem]) rfl
          refine AllIn.cons ?_ ?_
          ·intro a w hz hb ho hg
           have e44 : a.tmps.getD 44 undef = .bool false := got_of hg (j := 18) rfl rfl rfl
           have f44 := Rg.gd e44
           exact wv hb rfl (by simp [execOp, Act.eval, e44, f44, go_sem]) rfl
          refine AllIn.cons ?_ ?_
          ·intro a w hz hb ho hg
           have e1 : a.tmps.getD 1 undef = .pointer (some ⟨g, 0, none⟩) := ho 1 (by kernel_rfl)
           have f1 := Rg.gd e1
           exact Or.inl ⟨by rw [wanted_of (j := 19) rfl rfl rfl (show a.tmps.getD 45 undef = .bool false from got_of hg (j := 19) rfl rfl rfl)]; rfl, wp_value hb.size (by simp [execOp, Act.eval, e1, f1, go_sem]) (Below.refl _ _) rfl⟩
          refine AllIn.cons ?_ ?_
          ·intro a w hz hb ho hg
           have e46 : a.tmps.getD 46 undef = .pointer (some ⟨g, 1, none⟩) := got_of hg (j := 20) rfl rfl rfl
           have f46 := Rg.gd e46
           have q := (hb.cell (p := ⟨g, 1, none⟩) hlg).trans k1
           exact Or.inl ⟨by rw [wanted_of (j := 19) rfl rfl rfl (show a.tmps.getD 45 undef = .bool false from got_of hg (j := 19) rfl rfl rfl)]; rfl, wp_value hb.size (by simp [execOp, Act.eval, e46, f46, q, go_sem]) (Below.refl _ _) rfl⟩
          refine AllIn.cons ?_ ?_
          ·intro a w hz hb ho hg
           have e4 : a.tmps.getD 4 undef = .int .i64 (i : Nat) := ho 4 (by kernel_rfl)
           have f4 := Rg.gd e4
           exact Or.inl ⟨by rw [wanted_of (j := 19) rfl rfl rfl (show a.tmps.getD 45 undef = .bool false from got_of hg (j := 19) rfl rfl rfl)]; rfl, wp_value hb.size (by simp [execOp, Act.eval, e4, f4, go_sem]) (Below.refl _ _) rfl⟩
          refine AllIn.cons ?_ ?_
          ·intro a w hz hb ho hg
           have e47 : a.tmps.getD 47 undef = .slice (some ⟨bf, of', none⟩) M cf := got_of hg (j := 21) rfl rfl rfl
           have e48 : a.tmps.getD 48 undef = .int .i64 (i : Nat) := got_of hg (j := 22) rfl rfl rfl
           have f47 := Rg.gd e47
           have f48 := Rg.gd e48
           exact Or.inl ⟨by rw [wanted_of (j := 19) rfl rfl rfl (show a.tmps.getD 45 undef = .bool false from got_of hg (j := 19) rfl rfl rfl)]; rfl, wp_value hb.size (by simp [execOp, Act.eval, e47, e48, f47, f48, hi', go_sem]) (Below.refl _ _) rfl⟩
          refine AllIn.cons ?_ ?_
          ·intro a w hz hb ho hg
           have e49 : a.tmps.getD 49 undef = .pointer (some ⟨bf, of' + i, none⟩) := got_of hg (j := 23) rfl rfl rfl
           have f49 := Rg.gd e49
           have q := (hb.cell (p := ⟨bf, of' + i, none⟩) hlf).trans cu
           exact Or.inl ⟨by rw [wanted_of (j := 19) rfl rfl rfl (show a.tmps.getD 45 undef = .bool false from got_of hg (j := 19) rfl rfl rfl)]; rfl, wp_value hb.size (by simp [execOp, Act.eval, e49, f49, q, go_sem]) (Below.refl _ _) rfl⟩
          refine AllIn.cons ?_ ?_
          ·intro a w hz hb ho hg
           have e3 : a.tmps.getD 3 undef = .int .i64 (M : Nat) := ho 3 (by kernel_rfl)
           have f3 := Rg.gd e3
           exact Or.inl ⟨by rw [wanted_of (j := 19) rfl rfl rfl (show a.tmps.getD 45 undef = .bool false from got_of hg (j := 19) rfl rfl rfl)]; rfl, wp_value hb.size (by simp [execOp, Act.eval, e3, f3, go_sem]) (Below.refl _ _) rfl⟩
          refine AllIn.cons ?_ ?_
          ·intro a w hz hb ho hg
           have e50 : a.tmps.getD 50 undef = .slice au lu ru := got_of hg (j := 24) rfl rfl rfl
           have e51 : a.tmps.getD 51 undef = .int .i64 (M : Nat) := got_of hg (j := 25) rfl rfl rfl
           have f50 := Rg.gd e50
           have f51 := Rg.gd e51
           exact Or.inl ⟨by rw [wanted_of (j := 19) rfl rfl rfl (show a.tmps.getD 45 undef = .bool false from got_of hg (j := 19) rfl rfl rfl)]; rfl, wp_calls hb.size (run_call (args := #[.slice au lu ru, .int .i64 (M : Nat)]) enters_rve (by simp [Act.eval, f50, f51])) ((HC3.out w (HRU.out.below hb)).mono (by rintro e w' ⟨rfl, hb2⟩; exact ⟨_, rfl, hb2, rfl⟩))⟩
          refine AllIn.cons ?_ ?_
          ·intro a w hz hb ho hg
           have e52 : a.tmps.getD 52 undef = .bool false := got_of hg (j := 26) rfl rfl rfl
           have f52 := Rg.gd e52
           exact Or.inl ⟨by rw [wanted_of (j := 19) rfl rfl rfl (show a.tmps.getD 45 undef = .bool false from got_of hg (j := 19) rfl rfl rfl)]; rfl, wp_value hb.size (by simp [execOp, Act.eval, e52, f52, go_sem]) (Below.refl _ _) rfl⟩
          exact AllIn.nil
         intro a w2 hd hz hb ho hg
         have e26 : a.tmps.getD 26 undef = .pointer (some ⟨g, 0, none⟩) := hg 0 (by decide) _ _ rfl rfl
         have e27 : a.tmps.getD 27 undef = .slice (some ⟨bn, on, none⟩) M cn := hg 1 (by decide) _ _ rfl rfl
         have e28 : a.tmps.getD 28 undef = .int .i64 (i : Nat) := hg 2 (by decide) _ _ rfl rfl
         have e29 : a.tmps.getD 29 undef = .pointer (some ⟨bn, on + i, none⟩) := hg 3 (by decide) _ _ rfl rfl
         have e30 : a.tmps.getD 30 undef = .string x := hg 4 (by decide) _ _ rfl rfl
         have e31 : a.tmps.getD 31 undef = .bool true := hg 5 (by decide) _ _ rfl rfl
         have e32 : a.tmps.getD 32 undef = .bool false := hg 6 (by decide) _ _ rfl rfl
         have e33 : a.tmps.getD 33 undef = .bool false := hg 7 (by decide) _ _ rfl rfl
         have e34 : a.tmps.getD 34 undef = .pointer (some ⟨g, 0, none⟩) := hg 8 (by decide) _ _ rfl rfl
         have e35 : a.tmps.getD 35 undef = .slice (some ⟨bn, on, none⟩) M cn := hg 9 (by decide) _ _ rfl rfl
         have e36 : a.tmps.getD 36 undef = .pointer (some ⟨g, 0, none⟩) := hg 10 (by decide) _ _ rfl rfl
         have e37 : a.tmps.getD 37 undef = .slice (some ⟨bn, on, none⟩) M cn := hg 11 (by decide) _ _ rfl rfl
         have e38 : a.tmps.getD 38 undef = .int .i64 (i : Nat) := hg 12 (by decide) _ _ rfl rfl
         have e39 : a.tmps.getD 39 undef = .pointer (some ⟨bn, on + i, none⟩) := hg 13 (by decide) _ _ rfl rfl
         have e40 : a.tmps.getD 40 undef = .string x := hg 14 (by decide) _ _ rfl rfl
         have e41 : a.tmps.getD 41 undef = .int .i64 (i : Nat) := hg 15 (by decide) _ _ rfl rfl
         have e42 : a.tmps.getD 42 undef = .int .i64 (i : Nat) := hg 16 (by decide) _ _ rfl rfl
         have e43 : a.tmps.getD 43 undef = .bool false := hg 17 (by decide) _ _ rfl rfl
         have e44 : a.tmps.getD 44 undef = .bool false := hg 18 (by decide) _ _ rfl rfl
         have e45 : a.tmps.getD 45 undef = .bool false := hg 19 (by decide) _ _ rfl rfl
         have e46 : a.tmps.getD 46 undef = .pointer (some ⟨g, 1, none⟩) := hg 20 (by decide) _ _ rfl rfl
         have e47 : a.tmps.getD 47 undef = .slice (some ⟨bf, of', none⟩) M cf := hg 21 (by decide) _ _ rfl rfl
         have e48 : a.tmps.getD 48 undef = .int .i64 (i : Nat) := hg 22 (by decide) _ _ rfl rfl
         have e49 : a.tmps.getD 49 undef = .pointer (some ⟨bf, of' + i, none⟩) := hg 23 (by decide) _ _ rfl rfl
         have e50 : a.tmps.getD 50 undef = .slice au lu ru := hg 24 (by decide) _ _ rfl rfl
         have e51 : a.tmps.getD 51 undef = .int .i64 (M : Nat) := hg 25 (by decide) _ _ rfl rfl
         have e52 : a.tmps.getD 52 undef = .bool false := hg 26 (by decide) _ _ rfl rfl
         have e53 : a.tmps.getD 53 undef = .bool true := hg 27 (by decide) _ _ rfl rfl
         have hA := ho.frame hz
         simp only [List.take_succ_cons, List.take_zero, List.filterMap_cons, List.filterMap_nil, List.foldl_cons, List.foldl_nil, e26, e27, e28, e29, e30, e31, e32, e33, e34, e35, e36, e37, e38, e39, e40, e41, e42, e43, e44, e45, e46, e47, e48, e49, e50, e51, e52, e53, List.setIfInBounds_toArray, List.set_cons_zero, List.set_cons_succ] at hA
         obtain ⟨tm, df⟩ := a
         simp only at hd hA
         subst hd
         subst hA
         simp only [List.drop_succ_cons, List.drop_zero]
         have HH2 := Aside.mk hb
         clear hz ho hg hb e26 e27 e28 e29 e30 e31 e32 e33 e34 e35 e36 e37 e38 e39 e40 e41 e42 e43 e44 e45 e46 e47 e48 e49 e50 e51 e52 e53
         go_wp2_with fail
         go_ret
         rw [HX.out]
         exact ⟨rfl, HWR.out.trans (HH2.out.mono HWR.out.size)⟩
        | true =>
         have HX : Aside (okSys (strL xs) fs = (okNames ((strL xs).drop (i + 1)) ((strL xs).take (i + 1)) && (fs.drop (i + 1)).all (okEx (M : Int)))) := ⟨by rw [HST.out, hct]; simp⟩
         subst hie
         clear hct
         refine region_list (T := tab2 [
           Sq.val (.pointer (some ⟨g, 0, none⟩)), Sq.val (.slice (some ⟨bn, on, none⟩) M cn), Sq.val (.int .i64 (i : Nat)), Sq.val (.pointer (some ⟨bn, on + i, none⟩)), Sq.val (.string x), Sq.val (.bool true), Sq.val (.bool false), Sq.val (.bool false), Sq.val (.pointer (some ⟨g, 0, none⟩)), Sq.val (.slice (some ⟨bn, on, none⟩) M cn), Sq.val (.pointer (some ⟨g, 0, none⟩)), Sq.val (.slice (some ⟨bn, on, none⟩) M cn), Sq.val (.int .i64 (i : Nat)), Sq.val (.pointer (some ⟨bn, on + i, none⟩)), Sq.val (.string x), Sq.val (.int .i64 (i : Nat)), Sq.val (.int .i64 (i : Nat)), Sq.val (.bool false), Sq.val (.bool false), Sq.val (.bool false), Sq.val (.pointer (some ⟨g, 1, none⟩)), Sq.val (.slice (some ⟨bf, of', none⟩) M cf), Sq.val (.int .i64 (i : Nat)), Sq.val (.pointer (some ⟨bf, of' + i, none⟩)), Sq.val (.slice au lu ru), Sq.val (.int .i64 (M : Nat)), Sq.val (.bool true), Sq.val (.bool false)]) 28
          [_, _, _, _, _, _, _, _, _, _, _, _, _, _, _, _, _, _, _, _, _, _, _, _, _, _, _, _, _] (by kernel_rfl) (by kernel_rfl) (by kernel_rfl) (by kernel_rfl) (by kernel_rfl) (by kernel_rfl) rfl ?_ ?_
         ·refine AllIn.cons ?_ ?_
          ·intro a w hz hb ho hg
           have e1 : a.tmps.getD 1 undef = .pointer (some ⟨g, 0, none⟩) := ho 1 (by kernel_rfl)
           have f1 := Rg.gd e1
           exact wv hb rfl (by simp [execOp, Act.eval, e1, f1, go_sem]) rfl
          refine AllIn.cons ?_ ?_
          ·intro a w hz hb ho hg
           have e26 : a.tmps.getD 26 undef = .pointer (some ⟨g, 0, none⟩) := got_of hg (j := 0) rfl rfl rfl
           have f26 := Rg.gd e26
           have q := (hb.cell (p := ⟨g, 0, none⟩) hlg).trans k0
           exact wv hb rfl (by simp [execOp, Act.eval, e26, f26, q, go_sem]) rfl
          refine AllIn.cons ?_ ?_
          ·intro a w hz hb ho hg
           have e4 : a.tmps.getD 4 undef = .int .i64 (i : Nat) := ho 4 (by kernel_rfl)
           have f4 := Rg.gd e4
           exact wv hb rfl (by simp [execOp, Act.eval, e4, f4, go_sem]) rfl
          refine AllIn.cons ?_ ?_
          ·intro a w hz hb ho hg
           have e27 : a.tmps.getD 27 undef = .slice (some ⟨bn, on, none⟩) M cn := got_of hg (j := 1) rfl rfl rfl
           have e28 : a.tmps.getD 28 undef = .int .i64 (i : Nat) := got_of hg (j := 2) rfl rfl rfl
           have f27 := Rg.gd e27
           have f28 := Rg.gd e28
           exact wv hb rfl (by simp [execOp, Act.eval, e27, e28, f27, f28, hi', go_sem]) rfl
          refine AllIn.cons ?_ ?_
          ·intro a w hz hb ho hg
           have e29 : a.tmps.getD 29 undef = .pointer (some ⟨bn, on + i, none⟩) := got_of hg (j := 3) rfl rfl rfl
           have f29 := Rg.gd e29
           have q := (hb.cell (p := ⟨bn, on + i, none⟩) hlw).trans cx
           exact wv hb rfl (by simp [execOp, Act.eval, e29, f29, q, go_sem]) rfl
          refine AllIn.cons ?_ ?_
          ·intro a w hz hb ho hg
           have e30 : a.tmps.getD 30 undef = .string x := got_of hg (j := 4) rfl rfl rfl
           have f30 := Rg.gd e30
           exact Or.inl ⟨wanted_none rfl, wp_calls hb.size (run_call (args := #[.string x]) enters_rvn (by simp [Act.eval, f30])) ((HC1.out w).mono (by rintro e w' ⟨rfl, hw⟩; exact ⟨_, rfl, hw ▸ Below.refl _ _, rfl⟩))⟩
          refine AllIn.cons ?_ ?_
          ·intro a w hz hb ho hg
           have e31 : a.tmps.getD 31 undef = .bool true := got_of hg (j := 5) rfl rfl rfl
           have f31 := Rg.gd e31
           exact wv hb rfl (by simp [execOp, Act.eval, e31, f31, go_sem]) rfl
          refine AllIn.cons ?_ ?_
          ·intro a w hz hb ho hg
           have e32 : a.tmps.getD 32 undef = .bool false := got_of hg (j := 6) rfl rfl rfl
           have f32 := Rg.gd e32
           exact wv hb rfl (by simp [execOp, Act.eval, e32, f32, go_sem]) rfl
          refine AllIn.cons ?_ ?_
          ·intro a w hz hb ho hg
           have e1 : a.tmps.getD 1 undef = .pointer (some ⟨g, 0, none⟩) := ho 1 (by kernel_rfl)
           have f1 := Rg.gd e1
           exact Or.inl ⟨by rw [wanted_of (j := 7) rfl rfl rfl (show a.tmps.getD 33 undef = .bool false from got_of hg (j := 7) rfl rfl rfl)]; rfl, wp_value hb.size (by simp [execOp, Act.eval, e1, f1, go_sem]) (Below.refl _ _) rfl⟩
          refine AllIn.cons ?_ ?_
          ·intro a w hz hb ho hg
           have e34 : a.tmps.getD 34 undef = .pointer (some ⟨g, 0, none⟩) := got_of hg (j := 8) rfl rfl rfl
           have f34 := Rg.gd e34
           have q := (hb.cell (p := ⟨g, 0, none⟩) hlg).trans k0
           exact Or.inl ⟨by rw [wanted_of (j := 7) rfl rfl rfl (show a.tmps.getD 33 undef = .bool false from got_of hg (j := 7) rfl rfl rfl)]; rfl, wp_value hb.size (by simp [execOp, Act.eval, e34, f34, q, go_sem]) (Below.refl _ _) rfl⟩
          refine AllIn.cons ?_ ?_
          ·intro a w hz hb ho hg
           have e1 : a.tmps.getD 1 undef = .pointer (some ⟨g, 0, none⟩) := ho 1 (by kernel_rfl)
           have f1 := Rg.gd e1
           exact Or.inl ⟨by rw [wanted_of (j := 7) rfl rfl rfl (show a.tmps.getD 33 undef = .bool false from got_of hg (j := 7) rfl rfl rfl)]; rfl, wp_value hb.size (by simp [execOp, Act.eval, e1, f1, go_sem]) (Below.refl _ _) rfl⟩
          refine AllIn.cons ?_ ?_
          ·intro a w hz hb ho hg
           have e36 : a.tmps.getD 36 undef = .pointer (some ⟨g, 0, none⟩) := got_of hg (j := 10) rfl rfl rfl
           have f36 := Rg.gd e36
           have q := (hb.cell (p := ⟨g, 0, none⟩) hlg).trans k0
           exact Or.inl ⟨by rw [wanted_of (j := 7) rfl rfl rfl (show a.tmps.getD 33 undef = .bool false from got_of hg (j := 7) rfl rfl rfl)]; rfl, wp_value hb.size (by simp [execOp, Act.eval, e36, f36, q, go_sem]) (Below.refl _ _) rfl⟩
          refine AllIn.cons ?_ ?_
          ·intro a w hz hb ho hg
           have e4 : a.tmps.getD 4 undef = .int .i64 (i : Nat) := ho 4 (by kernel_rfl)
           have f4 := Rg.gd e4
           exact Or.inl ⟨by rw [wanted_of (j := 7) rfl rfl rfl (show a.tmps.getD 33 undef = .bool false from got_of hg (j := 7) rfl rfl rfl)]; rfl, wp_value hb.size (by simp [execOp, Act.eval, e4, f4, go_sem]) (Below.refl _ _) rfl⟩
          refine AllIn.cons ?_ ?_
          ·intro a w hz hb ho hg
           have e37 : a.tmps.getD 37 undef = .slice (some ⟨bn, on, none⟩) M cn := got_of hg (j := 11) rfl rfl rfl
           have e38 : a.tmps.getD 38 undef = .int .i64 (i : Nat) := got_of hg (j := 12) rfl rfl rfl
           have f37 := Rg.gd e37
           have f38 := Rg.gd e38
           exact Or.inl ⟨by rw [wanted_of (j := 7) rfl rfl rfl (show a.tmps.getD 33 undef = .bool false from got_of hg (j := 7) rfl rfl rfl)]; rfl, wp_value hb.size (by simp [execOp, Act.eval, e37, e38, f37, f38, hi', go_sem]) (Below.refl _ _) rfl⟩
          refine AllIn.cons ?_ ?_
          ·intro a w hz hb ho hg
           have e39 : a.tmps.getD 39 undef = .pointer (some ⟨bn, on + i, none⟩) := got_of hg (j := 13) rfl rfl rfl
           have f39 := Rg.gd e39
           have q := (hb.cell (p := ⟨bn, on + i, none⟩) hlw).trans cx
           exact Or.inl ⟨by rw [wanted_of (j := 7) rfl rfl rfl (show a.tmps.getD 33 undef = .bool false from got_of hg (j := 7) rfl rfl rfl)]; rfl, wp_value hb.size (by simp [execOp, Act.eval, e39, f39, q, go_sem]) (Below.refl _ _) rfl⟩
          refine AllIn.cons ?_ ?_
          ·intro a w hz hb ho hg
           have e35 : a.tmps.getD 35 undef = .slice (some ⟨bn, on, none⟩) M cn := got_of hg (j := 9) rfl rfl rfl
           have e40 : a.tmps.getD 40 undef = .string x := got_of hg (j := 14) rfl rfl rfl
           have f35 := Rg.gd e35
           have f40 := Rg.gd e40
           exact Or.inl ⟨by rw [wanted_of (j := 7) rfl rfl rfl (show a.tmps.getD 33 undef = .bool false from got_of hg (j := 7) rfl rfl rfl)]; rfl, wp_calls hb.size (run_call (args := #[.slice (some ⟨bn, on, none⟩) M cn, .string x]) enters_rix (by simp [Act.eval, f35, f40])) ((HC2.out w (HSV.out.below hb)).mono (by rintro e w' ⟨rfl, hw⟩; exact ⟨_, rfl, hw ▸ Below.refl _ _, rfl⟩))⟩
          refine AllIn.cons ?_ ?_
          ·intro a w hz hb ho hg
           have e4 : a.tmps.getD 4 undef = .int .i64 (i : Nat) := ho 4 (by kernel_rfl)
           have f4 := Rg.gd e4
           exact Or.inl ⟨by rw [wanted_of (j := 7) rfl rfl rfl (show a.tmps.getD 33 undef = .bool false from got_of hg (j := 7) rfl rfl rfl)]; rfl, wp_value hb.size (by simp [execOp, Act.eval, e4, f4, go_sem]) (Below.refl _ _) rfl⟩
          refine AllIn.cons ?_ ?_
          ·intro a w hz hb ho hg
           have e41 : a.tmps.getD 41 undef = .int .i64 (i : Nat) := got_of hg (j := 15) rfl rfl rfl
           have e42 : a.tmps.getD 42 undef = .int .i64 (i : Nat) := got_of hg (j := 16) rfl rfl rfl
           have f41 := Rg.gd e41
           have f42 := Rg.gd e42
           exact Or.inl ⟨by rw [wanted_of (j := 7) rfl rfl rfl (show a.tmps.getD 33 undef = .bool false from got_of hg (j := 7) rfl rfl rfl)]; rfl, wp_value hb.size (by simp [execOp, Act.eval, e41, e42, f41, f42, go_sem]) (Below.refl _ _) rfl⟩
          refine AllIn.cons ?_ ?_
          ·intro a w hz hb ho hg
           have e33 : a.tmps.getD 33 undef = .bool false := got_of hg (j := 7) rfl rfl rfl
           have e43 : a.tmps.getD 43 undef = .bool false := got_of hg (j := 17) rfl rfl rfl
           have f33 := Rg.gd e33
           have f43 := Rg.gd e43
           exact wv hb rfl (by simp [execOp, Act.eval, e33, e43, f33, f43, go_sem]) rfl
          refine AllIn.cons ?_ ?_
          ·intro a w hz hb ho hg
           have e44 : a.tmps.getD 44 undef = .bool false := got_of hg (j := 18) rfl rfl rfl
           have f44 := Rg.gd e44
           exact wv hb rfl (by simp [execOp, Act.eval, e44, f44, go_sem]) rfl
          refine AllIn.cons ?_ ?_
          ·intro a w hz hb ho hg
           have e1 : a.tmps.getD 1 undef = .pointer (some ⟨g, 0, none⟩) := ho 1 (by kernel_rfl)
           have f1 := Rg.gd e1
           exact Or.inl ⟨by rw [wanted_of (j := 19) rfl rfl rfl (show a.tmps.getD 45 undef = .bool false from got_of hg (j := 19) rfl rfl rfl)]; rfl, wp_value hb.size (by simp [execOp, Act.eval, e1, f1, go_sem]) (Below.refl _ _) rfl⟩
          refine AllIn.cons ?_ ?_
          ·intro a w hz hb ho hg
           have e46 : a.tmps.getD 46 undef = .pointer (some ⟨g, 1, none⟩) := got_of hg (j := 20) rfl rfl rfl
           have f46 := Rg.gd e46
           have q := (hb.cell (p := ⟨g, 1, none⟩) hlg).trans k1
           exact Or.inl ⟨by rw [wanted_of (j := 19) rfl rfl rfl (show a.tmps.getD 45 undef = .bool false from got_of hg (j := 19) rfl rfl rfl)]; rfl, wp_value hb.size (by simp [execOp, Act.eval, e46, f46, q, go_sem]) (Below.refl _ _) rfl⟩
          refine AllIn.cons ?_ ?_
          ·intro a w hz hb ho hg
           have e4 : a.tmps.getD 4 undef = .int .i64 (i : Nat) := ho 4 (by kernel_rfl)
           have f4 := Rg.gd e4
           exact Or.inl ⟨by rw [wanted_of (j := 19) rfl rfl rfl (show a.tmps.getD 45 undef = .bool false from got_of hg (j := 19) rfl rfl rfl)]; rfl, wp_value hb.size (by simp [execOp, Act.eval, e4, f4, go_sem]) (Below.refl _ _) rfl⟩
          refine AllIn.cons ?_ ?_
          ·intro a w hz hb ho hg
           have e47 : a.tmps.getD 47 undef = .slice (some ⟨bf, of', none⟩) M cf := got_of hg (j := 21) rfl rfl rfl
           have e48 : a.tmps.getD 48 undef = .int .i64 (i : Nat) := got_of hg (j := 22) rfl rfl rfl
           have f47 := Rg.gd e47
           have f48 := Rg.gd e48
           exact Or.inl ⟨by rw [wanted_of (j := 19) rfl rfl rfl (show a.tmps.getD 45 undef = .bool false from got_of hg (j := 19) rfl rfl rfl)]; rfl, wp_value hb.size (by simp [execOp, Act.eval, e47, e48, f47, f48, hi', go_sem]) (Below.refl _ _) rfl⟩
          refine AllIn.cons ?_ ?_
          ·intro a w hz hb ho hg
           have e49 : a.tmps.getD 49 undef = .pointer (some ⟨bf, of' + i, none⟩) := got_of hg (j := 23) rfl rfl rfl
           have f49 := Rg.gd e49
           have q := (hb.cell (p := ⟨bf, of' + i, none⟩) hlf).trans cu
           exact Or.inl ⟨by rw [wanted_of (j := 19) rfl rfl rfl (show a.tmps.getD 45 undef = .bool false from got_of hg (j := 19) rfl rfl rfl)]; rfl, wp_value hb.size (by simp [execOp, Act.eval, e49, f49, q, go_sem]) (Below.refl _ _) rfl⟩
          refine AllIn.cons ?_ ?_
          ·intro a w hz hb ho hg
           have e3 : a.tmps.getD 3 undef = .int .i64 (M : Nat) := ho 3 (by kernel_rfl)
           have f3 := Rg.gd e3
           exact Or.inl ⟨by rw [wanted_of (j := 19) rfl rfl rfl (show a.tmps.getD 45 undef = .bool false from got_of hg (j := 19) rfl rfl rfl)]; rfl, wp_value hb.size (by simp [execOp, Act.eval, e3, f3, go_sem]) (Below.refl _ _) rfl⟩
          refine AllIn.cons ?_ ?_
          ·intro a w hz hb ho hg
           have e50 : a.tmps.getD 50 undef = .slice au lu ru := got_of hg (j := 24) rfl rfl rfl
           have e51 : a.tmps.getD 51 undef = .int .i64 (M : Nat) := got_of hg (j := 25) rfl rfl rfl
           have f50 := Rg.gd e50
           have f51 := Rg.gd e51
           exact Or.inl ⟨by rw [wanted_of (j := 19) rfl rfl rfl (show a.tmps.getD 45 undef = .bool false from got_of hg (j := 19) rfl rfl rfl)]; rfl, wp_calls hb.size (run_call (args := #[.slice au lu ru, .int .i64 (M : Nat)]) enters_rve (by simp [Act.eval, f50, f51])) ((HC3.out w (HRU.out.below hb)).mono (by rintro e w' ⟨rfl, hb2⟩; exact ⟨_, rfl, hb2, rfl⟩))⟩
          refine AllIn.cons ?_ ?_
          ·intro a w hz hb ho hg
           have e52 : a.tmps.getD 52 undef = .bool true := got_of hg (j := 26) rfl rfl rfl
           have f52 := Rg.gd e52
           exact Or.inl ⟨by rw [wanted_of (j := 19) rfl rfl rfl (show a.tmps.getD 45 undef = .bool false from got_of hg (j := 19) rfl rfl rfl)]; rfl, wp_value hb.size (by simp [execOp, Act.eval, e52, f52, go_sem]) (Below.refl _ _) rfl⟩
          exact AllIn.nil
         intro a w2 hd hz hb ho hg
         have e26 : a.tmps.getD 26 undef = .pointer (some ⟨g, 0, none⟩) := hg 0 (by decide) _ _ rfl rfl
         have e27 : a.tmps.getD 27 undef = .slice (some ⟨bn, on, none⟩) M cn := hg 1 (by decide) _ _ rfl rfl
         have e28 : a.tmps.getD 28 undef = .int .i64 (i : Nat) := hg 2 (by decide) _ _ rfl rfl
         have e29 : a.tmps.getD 29 undef = .pointer (some ⟨bn, on + i, none⟩) := hg 3 (by decide) _ _ rfl rfl
         have e30 : a.tmps.getD 30 undef = .string x := hg 4 (by decide) _ _ rfl rfl
         have e31 : a.tmps.getD 31 undef = .bool true := hg 5 (by decide) _ _ rfl rfl
         have e32 : a.tmps.getD 32 undef = .bool false := hg 6 (by decide) _ _ rfl rfl
         have e33 : a.tmps.getD 33 undef = .bool false := hg 7 (by decide) _ _ rfl rfl
         have e34 : a.tmps.getD 34 undef = .pointer (some ⟨g, 0, none⟩) := hg 8 (by decide) _ _ rfl rfl
         have e35 : a.tmps.getD 35 undef = .slice (some ⟨bn, on, none⟩) M cn := hg 9 (by decide) _ _ rfl rfl
         have e36 : a.tmps.getD 36 undef = .pointer (some ⟨g, 0, none⟩) := hg 10 (by decide) _ _ rfl rfl
         have e37 : a.tmps.getD 37 undef = .slice (some ⟨bn, on, none⟩) M cn := hg 11 (by decide) _ _ rfl rfl
         have e38 : a.tmps.getD 38 undef = .int .i64 (i : Nat) := hg 12 (by decide) _ _ rfl rfl
         have e39 : a.tmps.getD 39 undef = .pointer (some ⟨bn, on + i, none⟩) := hg 13 (by decide) _ _ rfl rfl
         have e40 : a.tmps.getD 40 undef = .string x := hg 14 (by decide) _ _ rfl rfl
         have e41 : a.tmps.getD 41 undef = .int .i64 (i : Nat) := hg 15 (by decide) _ _ rfl rfl
         have e42 : a.tmps.getD 42 undef = .int .i64 (i : Nat) := hg 16 (by decide) _ _ rfl rfl
         have e43 : a.tmps.getD 43 undef = .bool false := hg 17 (by decide) _ _ rfl rfl
         have e44 : a.tmps.getD 44 undef = .bool false := hg 18 (by decide) _ _ rfl rfl
         have e45 : a.tmps.getD 45 undef = .bool false := hg 19 (by decide) _ _ rfl rfl
         have e46 : a.tmps.getD 46 undef = .pointer (some ⟨g, 1, none⟩) := hg 20 (by decide) _ _ rfl rfl
         have e47 : a.tmps.getD 47 undef = .slice (some ⟨bf, of', none⟩) M cf := hg 21 (by decide) _ _ rfl rfl
         have e48 : a.tmps.getD 48 undef = .int .i64 (i : Nat) := hg 22 (by decide) _ _ rfl rfl
         have e49 : a.tmps.getD 49 undef = .pointer (some ⟨bf, of' + i, none⟩) := hg 23 (by decide) _ _ rfl rfl
         have e50 : a.tmps.getD 50 undef = .slice au lu ru := hg 24 (by decide) _ _ rfl rfl
         have e51 : a.tmps.getD 51 undef = .int .i64 (M : Nat) := hg 25 (by decide) _ _ rfl rfl
         have e52 : a.tmps.getD 52 undef = .bool true := hg 26 (by decide) _ _ rfl rfl
         have e53 : a.tmps.getD 53 undef = .bool false := hg 27 (by decide) _ _ rfl rfl
         have hA := ho.frame hz
         simp only [List.take_succ_cons, List.take_zero, List.filterMap_cons, List.filterMap_nil, List.foldl_cons, List.foldl_nil, e26, e27, e28, e29, e30, e31, e32, e33, e34, e35, e36, e37, e38, e39, e40, e41, e42, e43, e44, e45, e46, e47, e48, e49, e50, e51, e52, e53, List.setIfInBounds_toArray, List.set_cons_zero, List.set_cons_succ] at hA
         obtain ⟨tm, df⟩ := a
         simp only at hd hA
         subst hd
         subst hA
         simp only [List.drop_succ_cons, List.drop_zero]
         have HH2 := Aside.mk hb
         clear hz ho hg hb e26 e27 e28 e29 e30 e31 e32 e33 e34 e35 e36 e37 e38 e39 e40 e41 e42 e43 e44 e45 e46 e47 e48 e49 e50 e51 e52 e53
         have HB2 := Aside.mk (HBW.out.trans (HH2.out.mono HBW.out.size))
         go_wp2_with fail
         go_roundg go
         case measure => omega
         case rel => exact ⟨i + 1, by go_num, ⟨by have := HI.out; have := hi'; omega⟩, HX, HB2⟩
       ·have hct : ((strL xs).take i).contains x.data.toList = true := by
         cases hh : ((strL xs).take i).contains x.data.toList with
         | true => rfl
         | false => exact absurd (HID.out.2 hh) hie
        have HX : Aside (okSys (strL xs) fs = false) := ⟨by rw [HST.out, hct]; simp⟩
        clear hct
        refine region_list (T := tab2 [
          Sq.val (.pointer (some ⟨g, 0, none⟩)), Sq.val (.slice (some ⟨bn, on, none⟩) M cn), Sq.val (.int .i64 (i : Nat)), Sq.val (.pointer (some ⟨bn, on + i, none⟩)), Sq.val (.string x), Sq.val (.bool true), Sq.val (.bool false), Sq.val (.bool false), Sq.val (.pointer (some ⟨g, 0, none⟩)), Sq.val (.slice (some ⟨bn, on, none⟩) M cn), Sq.val (.pointer (some ⟨g, 0, none⟩)), Sq.val (.slice (some ⟨bn, on, none⟩) M cn), Sq.val (.int .i64 (i : Nat)), Sq.val (.pointer (some ⟨bn, on + i, none⟩)), Sq.val (.string x), Sq.val (.int .i64 ix), Sq.val (.int .i64 (i : Nat)), Sq.val (.bool true), Sq.val (.bool true), Sq.val (.bool true), Sq.val (undef), Sq.val (undef), Sq.val (undef), Sq.val (undef), Sq.val (undef), Sq.val (undef), Sq.val (undef), Sq.val (undef)]) 28
         [_, _, _, _, _, _, _, _, _, _, _, _, _, _, _, _, _, _, _, _, _, _, _, _, _, _, _, _, _] (by kernel_rfl) (by kernel_rfl) (by kernel_rfl) (by kernel_rfl) (by kernel_rfl) (by kernel_rfl) rfl ?_ ?_
        ·refine AllIn.cons ?_ ?_
         ·intro a w hz hb ho hg
          have e1 : a.tmps.getD 1 undef = .pointer (some ⟨g, 0, none⟩) := ho 1 (by kernel_rfl)
          have f1 := Rg.gd e1
          exact wv hb rfl (by simp [execOp, Act.eval, e1, f1, go_sem]) rfl
         refine AllIn.cons ?_ ?_
         ·intro a w hz hb ho hg
          have e26 : a.tmps.getD 26 undef = .pointer (some ⟨g, 0, none⟩) := got_of hg (j := 0) rfl rfl rfl
          have f26 := Rg.gd e26
          have q := (hb.cell (p := ⟨g, 0, none⟩) hlg).trans k0
          exact wv hb rfl (by simp [execOp, Act.eval, e26, f26, q, go_sem]) rfl
         refine AllIn.cons ?_ ?_
         ·intro a w hz hb ho hg
          have e4 : a.tmps.getD 4 undef = .int .i64 (i : Nat) := ho 4 (by kernel_rfl)
          have f4 := Rg.gd e4
          exact wv hb rfl (by simp [execOp, Act.eval, e4, f4, go_sem]) rfl
         refine AllIn.cons ?_ ?_
         ·intro a w hz hb ho hg
          have e27 : a.tmps.getD 27 undef = .slice (some ⟨bn, on, none⟩) M cn := got_of hg (j := 1) rfl rfl rfl
          have e28 : a.tmps.getD 28 undef = .int .i64 (i : Nat) := got_of hg (j := 2) rfl rfl rfl
          have f27 := Rg.gd e27
          have f28 := Rg.gd e28
          exact wv hb rfl (by simp [execOp, Act.eval, e27, e28, f27, f28, hi', go_sem]) rfl
         refine AllIn.cons ?_ ?_
         ·intro a w hz hb ho hg
          have e29 : a.tmps.getD 29 undef = .pointer (some ⟨bn, on + i, none⟩) := got_of hg (j := 3) rfl rfl rfl
          have f29 := Rg.gd e29
          have q := (hb.cell (p := ⟨bn, on + i, none⟩) hlw).trans cx
          exact wv hb rfl (by simp [execOp, Act.eval, e29, f29, q, go_sem]) rfl
         refine AllIn.cons ?_ ?_
         ·intro a w hz hb ho hg
          have e30 : a.tmps.getD 30 undef = .string x := got_of hg (j := 4) rfl rfl rfl
          have f30 := Rg.gd e30
          exact Or.inl ⟨wanted_none rfl, wp_calls hb.size (run_call (args := #[.string x]) enters_rvn (by simp [Act.eval, f30])) ((HC1.out w).mono (by rintro e w' ⟨rfl, hw⟩; exact ⟨_, rfl, hw ▸ Below.refl _ _, rfl⟩))⟩
         refine AllIn.cons ?_ ?_
         ·intro a w hz hb ho hg
          have e31 : a.tmps.getD 31 undef = .bool true := got_of hg (j := 5) rfl rfl rfl
          have f31 := Rg.gd e31
          exact wv hb rfl (by simp [execOp, Act.eval, e31, f31, go_sem]) rfl
         refine AllIn.cons ?_ ?_
         ·intro a w hz hb ho hg
          have e32 : a.tmps.getD 32 undef = .bool false := got_of hg (j := 6) rfl rfl rfl
          have f32 := Rg.gd e32
          exact wv hb rfl (by simp [execOp, Act.eval, e32, f32, go_sem]) rfl
         refine AllIn.cons ?_ ?_
         ·intro a w hz hb ho hg
          have e1 : a.tmps.getD 1 undef = .pointer (some ⟨g, 0, none⟩) := ho 1 (by kernel_rfl)
          have f1 := Rg.gd e1
          exact Or.inl ⟨by rw [wanted_of (j := 7) rfl rfl rfl (show a.tmps.getD 33 undef = .bool false from got_of hg (j := 7) rfl rfl rfl)]; rfl, wp_value hb.size (by simp [execOp, Act.eval, e1, f1, go_sem]) (Below.refl _ _) rfl⟩
         refine AllIn.cons ?_ ?_
         ·intro a w hz hb ho hg
          have e34 : a.tmps.getD 34 undef = .pointer (some ⟨g, 0, none⟩) := got_of hg (j := 8) rfl rfl rfl
          have f34 := Rg.gd e34
          have q := (hb.cell (p := ⟨g, 0, none⟩) hlg).trans k0
          exact Or.inl ⟨by rw [wanted_of (j := 7) rfl rfl rfl (show a.tmps.getD 33 undef = .bool false from got_of hg (j := 7) rfl rfl rfl)]; rfl, wp_value hb.size (by simp [execOp, Act.eval, e34, f34, q, go_sem]) (Below.refl _ _) rfl⟩
         refine AllIn.cons ?_ ?_
         ·intro a w hz hb ho hg
          have e1 : a.tmps.getD 1 undef = .pointer (some ⟨g, 0, none⟩) := ho 1 (by kernel_rfl)
          have f1 := Rg.gd e1
          exact Or.inl ⟨by rw [wanted_of (j := 7) rfl rfl rfl (show a.tmps.getD 33 undef = .bool false from got_of hg (j := 7) rfl rfl rfl)]; rfl, wp_value hb.size (by simp [execOp, Act.eval, e1, f1, go_sem]) (Below.refl _ _) rfl⟩
         refine AllIn.cons ?_ ?_
         ·intro a w hz hb ho hg
          have e36 : a.tmps.getD 36 undef = .pointer (some ⟨g, 0, none⟩) := got_of hg (j := 10) rfl rfl rfl
          have f36 := Rg.gd e36
          have q := (hb.cell (p := ⟨g, 0, none⟩) hlg).trans k0
          exact Or.inl ⟨by rw [wanted_of (j := 7) rfl rfl rfl (show a.tmps.getD 33 undef = .bool false from got_of hg (j := 7) rfl rfl rfl)]; rfl, wp_value hb.size (by simp [execOp, Act.eval, e36, f36, q, go_sem]) (Below.refl _ _) rfl⟩
         refine AllIn.cons ?_ ?_
         ·intro a w hz hb ho hg
          have e4 : a.tmps.getD 4 undef = .int .i64 (i : Nat) := ho 4 (by kernel_rfl)
          have f4 := Rg.gd e4
          exact Or.inl ⟨by rw [wanted_of (j := 7) rfl rfl rfl (show a.tmps.getD 33 undef = .bool false from got_of hg (j := 7) rfl rfl rfl)]; rfl, wp_value hb.size (by simp [execOp, Act.eval, e4, f4, go_sem]) (Below.refl _ _) rfl⟩
         refine AllIn.cons ?_ ?_
         ·intro a w hz hb ho hg
          have e37 : a.tmps.getD 37 undef = .slice (some ⟨bn, on, none⟩) M cn := got_of hg (j := 11) rfl rfl rfl
          have e38 : a.tmps.getD 38 undef = .int .i64 (i : Nat) := got_of hg (j := 12) rfl rfl rfl
          have f37 := Rg.gd e37
          have f38 := Rg.gd e38
          exact Or.inl ⟨by rw [wanted_of (j := 7) rfl rfl rfl (show a.tmps.getD 33 undef = .bool false from got_of hg (j := 7) rfl rfl rfl)]; rfl, wp_value hb.size (by simp [execOp, Act.eval, e37, e38, f37, f38, hi', go_sem]) (Below.refl _ _) rfl⟩
         refine AllIn.cons ?_ ?_
         ·intro a w hz hb ho hg
          have e39 : a.tmps.getD 39 undef = .pointer (some ⟨bn, on + i, none⟩) := got_of hg (j := 13) rfl rfl rfl
          have f39 := Rg.gd e39
          have q := (hb.cell (p := ⟨bn, on + i, none⟩) hlw).trans cx
          exact Or.inl ⟨by rw [wanted_of (j := 7) rfl rfl rfl (show a.tmps.getD 33 undef = .bool false from got_of hg (j := 7) rfl rfl rfl)]; rfl, wp_value hb.size (by simp [execOp, Act.eval, e39, f39, q, go_sem]) (Below.refl _ _) rfl⟩
         refine AllIn.cons ?_ ?_
         ·intro a w hz hb ho hg
          have e35 : a.tmps.getD 35 undef = .slice (some ⟨bn, on, none⟩) M cn := got_of hg (j := 9) rfl rfl rfl
          have e40 : a.tmps.getD 40 undef = .string x := got_of hg (j := 14) rfl rfl rfl
          have f35 := Rg.gd e35
          have f40 := Rg.gd e40
          exact Or.inl ⟨by rw [wanted_of (j := 7) rfl rfl rfl (show a.tmps.getD 33 undef = .bool false from got_of hg (j := 7) rfl rfl rfl)]; rfl, wp_calls hb.size (run_call (args := #[.slice (some ⟨bn, on, none⟩) M cn, .string x]) enters_rix (by simp [Act.eval, f35, f40])) ((HC2.out w (HSV.out.below hb)).mono (by rintro e w' ⟨rfl, hw⟩; exact ⟨_, rfl, hw ▸ Below.refl _ _, rfl⟩))⟩
         refine AllIn.cons ?_ ?_
         ·intro a w hz hb ho hg
          have e4 : a.tmps.getD 4 undef = .int .i64 (i : Nat) := ho 4 (by kernel_rfl)
          have f4 := Rg.gd e4
          exact Or.inl ⟨by rw [wanted_of (j := 7) rfl rfl rfl (show a.tmps.getD 33 undef = .bool false from got_of hg (j := 7) rfl rfl rfl)]; rfl, wp_value hb.size (by simp [execOp, Act.eval, e4, f4, go_sem]) (Below.refl _ _) rfl⟩
         refine AllIn.cons ?_ ?_
         ·intro a w hz hb ho hg
          have e41 : a.tmps.getD 41 undef = .int .i64 ix := got_of hg (j := 15) rfl rfl rfl
          have e42 : a.tmps.getD 42 undef = .int .i64 (i : Nat) := got_of hg (j := 16) rfl rfl rfl
          have f41 := Rg.gd e41
          have f42 := Rg.gd e42
          exact Or.inl ⟨by rw [wanted_of (j := 7) rfl rfl rfl (show a.tmps.getD 33 undef = .bool false from got_of hg (j := 7) rfl rfl rfl)]; rfl, wp_value hb.size (by simp [execOp, Act.eval, e41, e42, f41, f42, hie, go_sem]) (Below.refl _ _) rfl⟩
         refine AllIn.cons ?_ ?_
         ·intro a w hz hb ho hg
          have e33 : a.tmps.getD 33 undef = .bool false := got_of hg (j := 7) rfl rfl rfl
          have e43 : a.tmps.getD 43 undef = .bool true := got_of hg (j := 17) rfl rfl rfl
          have f33 := Rg.gd e33
          have f43 := Rg.gd e43
          exact wv hb rfl (by simp [execOp, Act.eval, e33, e43, f33, f43, go_sem]) rfl
         refine AllIn.cons ?_ ?_
         ·intro a w hz hb ho hg
          have e44 : a.tmps.getD 44 undef = .bool true := got_of hg (j := 18) rfl rfl rfl
          have f44 := Rg.gd e44
          exact wv hb rfl (by simp [execOp, Act.eval, e44, f44, go_sem]) rfl
         refine AllIn.cons ?_ ?_
         ·intro a w hz hb ho hg
          have e1 : a.tmps.getD 1 undef = .pointer (some ⟨g, 0, none⟩) := ho 1 (by kernel_rfl)
          have f1 := Rg.gd e1
          exact Or.inr ⟨by rw [wanted_of (j := 19) rfl rfl rfl (show a.tmps.getD 45 undef = .bool true from got_of hg (j := 19) rfl rfl rfl)]; rfl, rfl⟩
         refine AllIn.cons ?_ ?_
         ·intro a w hz hb ho hg
          have e46 : a.tmps.getD 46 undef = undef := got_of hg (j := 20) rfl rfl rfl
          have f46 := Rg.gd e46
          exact Or.inr ⟨by rw [wanted_of (j := 19) rfl rfl rfl (show a.tmps.getD 45 undef = .bool true from got_of hg (j := 19) rfl rfl rfl)]; rfl, rfl⟩
         refine AllIn.cons ?_ ?_
         ·intro a w hz hb ho hg
          have e4 : a.tmps.getD 4 undef = .int .i64 (i : Nat) := ho 4 (by kernel_rfl)
          have f4 := Rg.gd e4
          exact Or.inr ⟨by rw [wanted_of (j := 19) rfl rfl rfl (show a.tmps.getD 45 undef = .bool true from got_of hg (j := 19) rfl rfl rfl)]; rfl, rfl⟩
         refine AllIn.cons ?_ ?_
         ·intro a w hz hb ho hg
          have e47 : a.tmps.getD 47 undef = undef := got_of hg (j := 21) rfl rfl rfl
          have e48 : a.tmps.getD 48 undef = undef := got_of hg (j := 22) rfl rfl rfl
          have f47 := Rg.gd e47
          have f48 := Rg.gd e48
          exact Or.inr ⟨by rw [wanted_of (j := 19) rfl rfl rfl (show a.tmps.getD 45 undef = .bool true from got_of hg (j := 19) rfl rfl rfl)]; rfl, rfl⟩
         refine AllIn.cons ?_ ?_
         ·intro a w hz hb ho hg
          have e49 : a.tmps.getD 49 undef = undef := got_of hg (j := 23) rfl rfl rfl
          have f49 := Rg.gd e49
          exact Or.inr ⟨by rw [wanted_of (j := 19) rfl rfl rfl (show a.tmps.getD 45 undef = .bool true from got_of hg (j := 19) rfl rfl rfl)]; rfl, rfl⟩
         refine AllIn.cons ?_ ?_
         ·intro a w hz hb ho hg
          have e3 : a.tmps.getD 3 undef = .int .i64 (M : Nat) := ho 3 (by kernel_rfl)
          have f3 := Rg.gd e3
          exact Or.inr ⟨by rw [wanted_of (j := 19) rfl rfl rfl (show a.tmps.getD 45 undef = .bool true from got_of hg (j := 19) rfl rfl rfl)]; rfl, rfl⟩
         refine AllIn.cons ?_ ?_
         ·intro a w hz hb ho hg
          have e50 : a.tmps.getD 50 undef = undef := got_of hg (j := 24) rfl rfl rfl
          have e51 : a.tmps.getD 51 undef = undef := got_of hg (j := 25) rfl rfl rfl
          have f50 := Rg.gd e50
          have f51 := Rg.gd e51
          exact Or.inr ⟨by rw [wanted_of (j := 19) rfl rfl rfl (show a.tmps.getD 45 undef = .bool true from got_of hg (j := 19) rfl rfl rfl)]; rfl, rfl⟩
         refine AllIn.cons ?_ ?_
         ·intro a w hz hb ho hg
          have e52 : a.tmps.getD 52 undef = undef := got_of hg (j := 26) rfl rfl rfl
          have f52 := Rg.gd e52
          exact Or.inr ⟨by rw [wanted_of (j := 19) rfl rfl rfl (show a.tmps.getD 45 undef = .bool true from got_of hg (j := 19) rfl rfl rfl)]; rfl, rfl⟩
         exact AllIn.nil
        intro a w2 hd hz hb ho hg
        have e26 : a.tmps.getD 26 undef = .pointer (some ⟨g, 0, none⟩) := hg 0 (by decide) _ _ rfl rfl
        have e27 : a.tmps.getD 27 undef = .slice (some ⟨bn, on, none⟩) M cn := hg 1 (by decide) _ _ rfl rfl
        have e28 : a.tmps.getD 28 undef = .int .i64 (i : Nat) := hg 2 (by decide) _ _ rfl rfl
        have e29 : a.tmps.getD 29 undef = .pointer (some ⟨bn, on + i, none⟩) := hg 3 (by decide) _ _ rfl rfl
        have e30 : a.tmps.getD 30 undef = .string x := hg 4 (by decide) _ _ rfl rfl
        have e31 : a.tmps.getD 31 undef = .bool true := hg 5 (by decide) _ _ rfl rfl
        have e32 : a.tmps.getD 32 undef = .bool false := hg 6 (by decide) _ _ rfl rfl
        have e33 : a.tmps.getD 33 undef = .bool false := hg 7 (by decide) _ _ rfl rfl
        have e34 : a.tmps.getD 34 undef = .pointer (some ⟨g, 0, none⟩) := hg 8 (by decide) _ _ rfl rfl
        have e35 : a.tmps.getD 35 undef = .slice (some ⟨bn, on, none⟩) M cn := hg 9 (by decide) _ _ rfl rfl
        have e36 : a.tmps.getD 36 undef = .pointer (some ⟨g, 0, none⟩) := hg 10 (by decide) _ _ rfl rfl
        have e37 : a.tmps.getD 37 undef = .slice (some ⟨bn, on, none⟩) M cn := hg 11 (by decide) _ _ rfl rfl
        have e38 : a.tmps.getD 38 undef = .int .i64 (i : Nat) := hg 12 (by decide) _ _ rfl rfl
        have e39 : a.tmps.getD 39 undef = .pointer (some ⟨bn, on + i, none⟩) := hg 13 (by decide) _ _ rfl rfl
        have e40 : a.tmps.getD 40 undef = .string x := hg 14 (by decide) _ _ rfl rfl
        have e41 : a.tmps.getD 41 undef = .int .i64 ix := hg 15 (by decide) _ _ rfl rfl
        have e42 : a.tmps.getD 42 undef = .int .i64 (i : Nat) := hg 16 (by decide) _ _ rfl rfl
        have e43 : a.tmps.getD 43 undef = .bool true := hg 17 (by decide) _ _ rfl rfl
        have e44 : a.tmps.getD 44 undef = .bool true := hg 18 (by decide) _ _ rfl rfl
        have e45 : a.tmps.getD 45 undef = .bool true := hg 19 (by decide) _ _ rfl rfl
        have e46 : a.tmps.getD 46 undef = undef := hg 20 (by decide) _ _ rfl rfl
        have e47 : a.tmps.getD 47 undef = undef := hg 21 (by decide) _ _ rfl rfl
        have e48 : a.tmps.getD 48 undef = undef := hg 22 (by decide) _ _ rfl rfl
        have e49 : a.tmps.getD 49 undef = undef := hg 23 (by decide) _ _ rfl rfl
        have e50 : a.tmps.getD 50 undef = undef := hg 24 (by decide) _ _ rfl rfl
        have e51 : a.tmps.getD 51 undef = undef := hg 25 (by decide) _ _ rfl rfl
        have e52 : a.tmps.getD 52 undef = undef := hg 26 (by decide) _ _ rfl rfl
        have e53 : a.tmps.getD 53 undef = undef := hg 27 (by decide) _ _ rfl rfl
        have hA := ho.frame hz
        simp only [List.take_succ_cons, List.take_zero, List.filterMap_cons, List.filterMap_nil, List.foldl_cons, List.foldl_nil, e26, e27, e28, e29, e30, e31, e32, e33, e34, e35, e36, e37, e38, e39, e40, e41, e42, e43, e44, e45, e46, e47, e48, e49, e50, e51, e52, e53, List.setIfInBounds_toArray, List.set_cons_zero, List.set_cons_succ] at hA
        obtain ⟨tm, df⟩ := a
        simp only at hd hA
        subst hd
        subst hA
        simp only [List.drop_succ_cons, List.drop_zero]
        have HH2 := Aside.mk hb
        clear hz ho hg hb e26 e27 e28 e29 e30 e31 e32 e33 e34 e35 e36 e37 e38 e39 e40 e41 e42 e43 e44 e45 e46 e47 e48 e49 e50 e51 e52 e53
        go_wp2_with fail
        go_ret
        rw [HX.out]
        exact ⟨rfl, HWR.out.trans (HH2.out.mono HWR.out.size)⟩
     ·have hi' : ¬ ((i : Int) < (M : Int)) := by omega
      have him : i = M := by have := HI.out; omega
      subst him
      have HX : Aside (okSys (strL xs) fs = true) := ⟨by
       have e1 : (strL xs).drop i = [] := by rw [List.drop_eq_nil_iff]; unfold strL; rw [List.length_map, HNL.out]; exact Nat.le_refl _
       have e2 : fs.drop i = [] := by rw [List.drop_eq_nil_iff, HML.out]; exact Nat.le_refl _
       rw [HIN.out, e1, e2]; rfl⟩
      go_wp2_with fail
      go_ret
      rw [HX.out]
      exact ⟨rfl, HWR.out⟩
   ·have hMN' : ¬ ((M : Int) = (N : Int)) := by omega
    have hMNb : ((M : Int) != (N : Int)) = true := by simpa using hMN'
    have HV : Aside (okSys (strL xs) fs = false) := ⟨by rw [HV.out, show decide (M = N) = false by simpa using hMN]; simp⟩
    clear hMN
    go_enter Tryz.func17, Tryz.ntmps17
    go_wp2_with fail
    go_ret
    rw [HV.out]
    exact ⟨rfl, HB.out⟩
  ·have h6' : (6 : Int) < (N : Int) := by omega
   have d6 : decide ((6 : Int) < (N : Int)) = true := by simpa using h6'
   have HV : Aside (okSys (strL xs) fs = false) := ⟨by rw [HV.out, decide_eq_false h6]; simp⟩
   clear h6
   go_enter Tryz.func17, Tryz.ntmps17
   go_wp2_with fail
   go_ret
   rw [HV.out]
   exact ⟨rfl, HB.out⟩
end Go.Proofs.YthcidkidpiaomaaGreatDoor.Od
end
