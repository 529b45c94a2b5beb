/- OeM OgA -/
import Derived.Test.YthcidkidpiaomaaGreatDoorKb31
import Derived.Test.YthcidkidpiaomaaGreatDoorKb29
import Derived.Test.YthcidkidpiaomaaGreatDoorKb30
section
set_option linter.unusedVariables false
set_option linter.unusedSimpArgs false
namespace Go.Proofs.YthcidkidpiaomaaGreatDoor.Od
open Go.RowKit Rg
theorem enters_fe : ∀ args w, (callFunc 37 args).run Tryz.prog w = .ok (.enter 37 args) w := fun args w => by kernel_rfl
theorem FE_any {vars : List ByteArray} (hnm : ∀ x ∈ strL vars, okName x = true) (t : Tr) (hok : okT (strL vars) t) (v vn : Value) (w : World) (h : RdN w v (flat t)) (hv : Strs w vn vars) (ht : Fx.Tabs w) (S : ByteArray) (hS : S.data.toList = fmtT (strL vars) t) :
    Calls Tryz.prog 37 #[v, vn] w fun e' w' => e' = .returned (.string S) ∧ Below w.heap.size w w' := by
  refine (FormatExpr_any hnm t hok v vn w h hv ht).mono ?_
  rintro e' w' ⟨⟨s, rfl, hs⟩, hb⟩
  refine ⟨?_, hb⟩
  rw [mk_str hs, mk_str hS]
theorem fmtS_take_succ (vars : List (List UInt8)) : ∀ (xs : List (List UInt8)) (ts : List Tr) (i : Nat) (x : List UInt8) (t : Tr), xs[i]? = some x → ts[i]? = some t → fmtS (xs.take (i + 1)) vars (ts.take (i + 1)) = fmtS (xs.take i) vars (ts.take i) ++ (x ++ [39, 32, 61, 32] ++ fmtT vars t ++ [10])
  | [], ts, i, x, t, hx, _ => by simp at hx
  | y :: xs, [], i, x, t, _, ht => by simp at ht
  | y :: xs, u :: ts, 0, x, t, hx, ht => by
    obtain rfl := Option.some.inj hx
    obtain rfl := Option.some.inj ht
    simp [fmtS]
  | y :: xs, u :: ts, i + 1, x, t, hx, ht => by
    have ih := fmtS_take_succ vars xs ts i x t (by simpa using hx) (by simpa using ht)
    rw [List.take_succ_cons, List.take_succ_cons, List.take_succ_cons, List.take_succ_cons]
    unfold fmtS
    simp only
    rw [ih]
    simp
set_option maxRecDepth 100000 in
set_option maxHeartbeats 8000000 in
theorem Format_any {names : List ByteArray} (ts : List Tr) (hnm : ∀ x ∈ strL names, okName x = true) (hl : names.length = ts.length) (hok : ∀ t ∈ ts, okT (strL names) t) (h6 : names.length ≤ 6) (vn vf : Value) (w : World) (hn : Strs w vn names) (hf : Fs w vf (ts.map flat)) (ht : Fx.Tabs w) :
    Calls Tryz.prog 36 #[.agg #[vn, vf]] w fun e w' => (∃ s, e = .returned (.string s) ∧ s.data.toList = fmtS (strL names) (strL names) ts) ∧ Below w.heap.size w w' := by
  obtain ⟨av, cv, hvn, hna⟩ := hn.at
  obtain ⟨af, cf, hvf, hfa⟩ := hf.at
  rw [List.length_map, ← hl] at hvf
  have HNM := Aside.mk hnm
  have HOK := Aside.mk hok
  have HLN := Aside.mk hl
  have HSN := Aside.mk hn
  have HFL : Aside (∀ t ∈ ts, (flat t).length ≤ 9000) := ⟨fun t htm => by
    obtain ⟨i, hi⟩ := List.mem_iff_getElem?.1 htm
    obtain ⟨b, o, u, -, -, hr⟩ := hfa i (flat t) (by rw [List.getElem?_map, hi]; rfl)
    exact hr.few⟩
  have HNA := Aside.mk hna
  have HFA := Aside.mk hfa
  have HT := Aside.mk ht
  obtain ⟨M, hM⟩ : ∃ M, names.length = M := ⟨_, rfl⟩
  have HM := Aside.mk hM
  rw [hM] at hvn hvf h6 hl
  subst hvn hvf
  have H6 := Aside.mk h6
  clear hnm hok hn hna hfa ht hM hl hf
  have hal : Below w.heap.size w (w.alloc (.cells #[.slice av M cv, .slice af M cf] 25)) := (Below.refl _ _).alloc (Nat.le_refl _) _
  have HR := Aside.mk (heap_alloc_last w (.cells #[.slice av M cv, .slice af M cf] 25))
  have HB := Aside.mk hal
  clear hal
  go_enter Tryz.func36, Tryz.ntmps36
  go_wp2_with fail
  obtain ⟨g, hg⟩ : ∃ g, w.heap.size = g := ⟨_, rfl⟩
  have HG := Aside.mk hg
  obtain ⟨W, hW⟩ : ∃ W, w.alloc (.cells #[.slice av M cv, .slice af M cf] 25) = W := ⟨_, rfl⟩
  have hWs : W.heap.size = g + 1 := by rw [← hW, World.size_alloc, hg]
  rw [hW] at HR HB
  rw [hg] at HR HB
  simp only [hW, hg]
  have hB0 := Fx.IsBuilder_new (T := 125) (e := 5) W
  have hb0 : Below (g + 1) W (W.alloc (.cells #[.pointer none, .slice none 0 0] 125)) := (Below.refl _ _).alloc (by rw [hWs]; exact Nat.le_refl _) _
  rw [hWs] at hB0
  clear hW hg
  have HB0 := Aside.mk hB0
  have HBB := Aside.mk hb0
  have HWS := Aside.mk hWs
  have hs0 : (W.alloc (.cells #[.pointer none, .slice none 0 0] 125)).heap.size = g + 1 + 1 := by rw [World.size_alloc, hWs]
  have c0 : W.cell? ⟨g, 0, none⟩ = some (.slice av M cv) := by rw [cell_of_row _ _ 0 _ _ _ HR.out]; rfl
  have c1 : W.cell? ⟨g, 1, none⟩ = some (.slice af M cf) := by rw [cell_of_row _ _ 1 _ _ _ HR.out]; rfl
  have C01 := Aside.mk (And.intro c0 c1)
  have q0 : (W.alloc (.cells #[.pointer none, .slice none 0 0] 125)).cell? ⟨g, 0, none⟩ = some (.slice av M cv) := (hb0.cell (p := ⟨g, 0, none⟩) (by show g < g + 1; omega)).trans c0
  clear hB0 hb0 hWs c0 c1
  obtain ⟨V, hV⟩ : ∃ V, W.alloc (.cells #[.pointer none, .slice none 0 0] 125) = V := ⟨_, rfl⟩
  rw [hV] at HB0 HBB hs0 q0
  simp only [hV]
  clear hV
  have HS0 := Aside.mk hs0
  clear hs0
  go_wp2_with fail
  try simp only [HWS.out]
  go_loopg [9] M (fun m v9 wr => ∃ i : Nat, v9 = .int .i64 (i : Nat) ∧ Aside (i ≤ M ∧ M - i ≤ m) ∧ Aside (Lib.IsBuilder 125 5 (g + 1) (g + 1) (Lib.byteCells (fmtS ((strL names).take i) (strL names) (ts.take i))) wr) ∧ Aside (Below (g + 1) W wr) ∧ Aside (g + 1 + 1 ≤ wr.heap.size))
  case atStart => exact ⟨0, rfl, ⟨by simp⟩, ⟨by simpa [fmtS, Lib.byteCells] using HB0.out⟩, HBB, ⟨by rw [HS0.out]; exact Nat.le_refl _⟩⟩
  case round =>
    obtain ⟨i, rfl, HI, HBI, HBW, HSZ⟩ := hrel
    have hwr : Below w.heap.size w wr := HG.out ▸ (HB.out.trans (HBW.out.mono (by omega)))
    have HWR := Aside.mk hwr
    have HT2 := Aside.mk (HT.out.below hwr)
    by_cases hi : i < M
    · have hi' : (i : Int) < (M : Int) := by omega
      obtain ⟨x, hx⟩ : ∃ x, names[i]? = some x := ⟨_, List.getElem?_eq_getElem (by rw [HM.out]; exact hi)⟩
      obtain ⟨t, ht⟩ : ∃ t, ts[i]? = some t := ⟨_, List.getElem?_eq_getElem (by rw [← HLN.out, HM.out]; exact hi)⟩
      obtain ⟨bv, ov, rfl, hcx⟩ := HNA.out i x hx
      obtain ⟨bf, of', u, rfl, hcu, hru⟩ := HFA.out i (flat t) (by rw [List.getElem?_map, ht]; rfl)
      have cx : wr.cell? ⟨bv, ov + i, none⟩ = some (.string x) := by rw [hwr.cell (p := ⟨bv, ov + i, none⟩) (World.block_lt_of_cell? w _ hcx)]; exact hcx
      have cu : wr.cell? ⟨bf, of' + i, none⟩ = some u := by rw [hwr.cell (p := ⟨bf, of' + i, none⟩) (World.block_lt_of_cell? w _ hcu)]; exact hcu
      obtain ⟨au, lu, ru, rfl⟩ : ∃ au lu ru, u = .slice au lu ru := by obtain ⟨a, c, h⟩ := hru.slice; exact ⟨a, _, c, h⟩
      have HRU := Aside.mk (hru.below hwr)
      have HSV := Aside.mk (HSN.out.below hwr)
      have okt := HOK.out t (List.mem_of_getElem? ht)
      have HOT := Aside.mk okt
      obtain ⟨S, hS⟩ : ∃ S : ByteArray, S.data.toList = fmtT (strL names) t := ⟨⟨(fmtT (strL names) t).toArray⟩, by simp⟩
      have HS := Aside.mk hS
      have hSs : S.size ≤ 252022 := by
        have h1 := fmtT_len HNM.out t okt
        have h2 := HFL.out t (List.mem_of_getElem? ht)
        have : S.size = (fmtT (strL names) t).length := by rw [← hS]; rfl
        omega
      have hxs : x.size ≤ 12 := by
        have := HNM.out x.data.toList (List.mem_map.2 ⟨x, List.mem_of_getElem? hx, rfl⟩)
        unfold okName at this
        simp only [Bool.and_eq_true, decide_eq_true_eq] at this
        exact this.1.1.1.2
      have hn1 : (x ++ (⟨#[39, 32, 61, 32]⟩ : ByteArray) ++ S ++ (⟨#[10]⟩ : ByteArray)).size = x.size + S.size + 5 := by simp only [ByteArray.size_append]; show x.size + 4 + S.size + 1 = _; omega
      have HN1 := Aside.mk hn1
      have HX := Aside.mk (And.intro hx ht)
      have hlw : bv < wr.heap.size := World.block_lt_of_cell? wr _ cx
      have hlf : bf < wr.heap.size := World.block_lt_of_cell? wr _ cu
      have hlg : g < wr.heap.size := by have := HSZ.out; omega
      have k0 : wr.cell? ⟨g, 0, none⟩ = some (.slice (some ⟨bv, ov, none⟩) M cv) := (HBW.out.cell (p := ⟨g, 0, none⟩) (by show g < g + 1; omega)).trans C01.out.1
      have k1 : wr.cell? ⟨g, 1, none⟩ = some (.slice (some ⟨bf, of', none⟩) M cf) := (HBW.out.cell (p := ⟨g, 1, none⟩) (by show g < g + 1; omega)).trans C01.out.2
      have hbl : Below wr.heap.size wr wr := Below.refl _ _
      clear hx ht hcx hcu hru okt hS hwr hi q0 hn1
      go_wp2_with fail
      refine region_list (T := tab2 [
          Sq.val (.string x), Sq.val (.string (x ++ (⟨#[39, 32, 61, 32]⟩ : ByteArray))), Sq.val (.pointer (some ⟨g, 1, none⟩)), Sq.val (.slice (some ⟨bf, of', none⟩) M cf), Sq.val (.int .i64 (i : Nat)), Sq.val (.pointer (some ⟨bf, of' + i, none⟩)), Sq.val (.slice au lu ru), Sq.val (.pointer (some ⟨g, 0, none⟩)), Sq.val (.slice (some ⟨bv, ov, none⟩) M cv), Sq.val (.string S), Sq.val (.string ((x ++ (⟨#[39, 32, 61, 32]⟩ : ByteArray)) ++ S)), Sq.val (.string (((x ++ (⟨#[39, 32, 61, 32]⟩ : ByteArray)) ++ S) ++ (⟨#[10]⟩ : ByteArray)))]) 12
        [_, _, _, _, _, _, _, _, _, _, _, _, _] (by kernel_rfl) (by kernel_rfl) (by kernel_rfl) (by kernel_rfl) (by kernel_rfl) (by kernel_rfl) rfl ?_ ?_
      · refine AllIn.cons ?_ ?_
        · intro a w hz hb ho hg
          have e5 : a.tmps.getD 5 undef = .string x := ho 5 (by kernel_rfl)
          have f5 := Rg.gd e5
          exact wv hb rfl (by simp [execOp, Act.eval, e5, f5, go_sem]) rfl
        refine AllIn.cons ?_ ?_
        · intro a w hz hb ho hg
          have e14 : a.tmps.getD 14 undef = .string x := got_of hg (j := 0) rfl rfl rfl
          have f14 := Rg.gd e14
          exact Or.inl ⟨wanted_none rfl, wp_value hb.size (by simp [execOp, Act.eval, e14, f14, go_sem]; omega) (Below.refl _ _) rfl⟩
        refine AllIn.cons ?_ ?_
        · intro a w hz hb ho hg
          have e1 : a.tmps.getD 1 undef = .pointer (some ⟨g, 0, none⟩) := ho 1 (by kernel_rfl)
          have f1 := Rg.gd e1
          exact wv hb rfl (by simp [execOp, Act.eval, e1, f1, go_sem]) rfl
        refine AllIn.cons ?_ ?_
        · intro a w hz hb ho hg
          have e16 : a.tmps.getD 16 undef = .pointer (some ⟨g, 1, none⟩) := got_of hg (j := 2) rfl rfl rfl
          have f16 := Rg.gd e16
          have q := (hb.cell (p := ⟨g, 1, none⟩) hlg).trans k1
          exact wv hb rfl (by simp [execOp, Act.eval, e16, f16, q, go_sem]) rfl
        refine AllIn.cons ?_ ?_
        · intro a w hz hb ho hg
          have e4 : a.tmps.getD 4 undef = .int .i64 (i : Nat) := ho 4 (by kernel_rfl)
          have f4 := Rg.gd e4
          exact wv hb rfl (by simp [execOp, Act.eval, e4, f4, go_sem]) rfl
        refine AllIn.cons ?_ ?_
        · intro a w hz hb ho hg
          have e17 : a.tmps.getD 17 undef = .slice (some ⟨bf, of', none⟩) M cf := got_of hg (j := 3) rfl rfl rfl
          have e18 : a.tmps.getD 18 undef = .int .i64 (i : Nat) := got_of hg (j := 4) rfl rfl rfl
          have f17 := Rg.gd e17
          have f18 := Rg.gd e18
          exact wv hb rfl (by simp [execOp, Act.eval, e17, f17, e18, f18, hi', go_sem]) rfl
        refine AllIn.cons ?_ ?_
        · intro a w hz hb ho hg
          have e19 : a.tmps.getD 19 undef = .pointer (some ⟨bf, of' + i, none⟩) := got_of hg (j := 5) rfl rfl rfl
          have f19 := Rg.gd e19
          have q := (hb.cell (p := ⟨bf, of' + i, none⟩) hlf).trans cu
          exact wv hb rfl (by simp [execOp, Act.eval, e19, f19, q, go_sem]) rfl
        refine AllIn.cons ?_ ?_
        · intro a w hz hb ho hg
          have e1 : a.tmps.getD 1 undef = .pointer (some ⟨g, 0, none⟩) := ho 1 (by kernel_rfl)
          have f1 := Rg.gd e1
          exact wv hb rfl (by simp [execOp, Act.eval, e1, f1, go_sem]) rfl
        refine AllIn.cons ?_ ?_
        · intro a w hz hb ho hg
          have e21 : a.tmps.getD 21 undef = .pointer (some ⟨g, 0, none⟩) := got_of hg (j := 7) rfl rfl rfl
          have f21 := Rg.gd e21
          have q := (hb.cell (p := ⟨g, 0, none⟩) hlg).trans k0
          exact wv hb rfl (by simp [execOp, Act.eval, e21, f21, q, go_sem]) rfl
        refine AllIn.cons ?_ ?_
        · intro a w hz hb ho hg
          have e20 : a.tmps.getD 20 undef = .slice au lu ru := got_of hg (j := 6) rfl rfl rfl
          have e22 : a.tmps.getD 22 undef = .slice (some ⟨bv, ov, none⟩) M cv := got_of hg (j := 8) rfl rfl rfl
          have f20 := Rg.gd e20
          have f22 := Rg.gd e22
          exact Or.inl ⟨wanted_none rfl, wp_calls hb.size (run_call (args := #[.slice au lu ru, .slice (some ⟨bv, ov, none⟩) M cv]) enters_fe (by simp [Act.eval, f20, f22])) ((FE_any HNM.out t HOT.out _ _ w (HRU.out.below hb) (HSV.out.below hb) (HT2.out.below hb) S HS.out).mono (by rintro e w' ⟨rfl, hb2⟩; exact ⟨_, rfl, hb2, rfl⟩))⟩
        refine AllIn.cons ?_ ?_
        · intro a w hz hb ho hg
          have e15 : a.tmps.getD 15 undef = .string (x ++ (⟨#[39, 32, 61, 32]⟩ : ByteArray)) := got_of hg (j := 1) rfl rfl rfl
          have e23 : a.tmps.getD 23 undef = .string S := got_of hg (j := 9) rfl rfl rfl
          have f15 := Rg.gd e15
          have f23 := Rg.gd e23
          exact Or.inl ⟨wanted_none rfl, wp_value hb.size (by simp [execOp, Act.eval, e15, f15, e23, f23, go_sem]; omega) (Below.refl _ _) rfl⟩
        refine AllIn.cons ?_ ?_
        · intro a w hz hb ho hg
          have e24 : a.tmps.getD 24 undef = .string ((x ++ (⟨#[39, 32, 61, 32]⟩ : ByteArray)) ++ S) := got_of hg (j := 10) rfl rfl rfl
          have f24 := Rg.gd e24
          exact Or.inl ⟨wanted_none rfl, wp_value hb.size (by simp [execOp, Act.eval, e24, f24, go_sem]; omega) (Below.refl _ _) rfl⟩
        exact AllIn.nil
      intro a w2 hd hz hb ho hg
      have e14 : a.tmps.getD 14 undef = .string x := hg 0 (by decide) _ _ rfl rfl
      have e15 : a.tmps.getD 15 undef = .string (x ++ (⟨#[39, 32, 61, 32]⟩ : ByteArray)) := hg 1 (by decide) _ _ rfl rfl
      have e16 : a.tmps.getD 16 undef = .pointer (some ⟨g, 1, none⟩) := hg 2 (by decide) _ _ rfl rfl
      have e17 : a.tmps.getD 17 undef = .slice (some ⟨bf, of', none⟩) M cf := hg 3 (by decide) _ _ rfl rfl
      have e18 : a.tmps.getD 18 undef = .int .i64 (i : Nat) := hg 4 (by decide) _ _ rfl rfl
      have e19 : a.tmps.getD 19 undef = .pointer (some ⟨bf, of' + i, none⟩) := hg 5 (by decide) _ _ rfl rfl
      have e20 : a.tmps.getD 20 undef = .slice au lu ru := hg 6 (by decide) _ _ rfl rfl
      have e21 : a.tmps.getD 21 undef = .pointer (some ⟨g, 0, none⟩) := hg 7 (by decide) _ _ rfl rfl
      have e22 : a.tmps.getD 22 undef = .slice (some ⟨bv, ov, none⟩) M cv := hg 8 (by decide) _ _ rfl rfl
      have e23 : a.tmps.getD 23 undef = .string S := hg 9 (by decide) _ _ rfl rfl
      have e24 : a.tmps.getD 24 undef = .string ((x ++ (⟨#[39, 32, 61, 32]⟩ : ByteArray)) ++ S) := hg 10 (by decide) _ _ rfl rfl
      have e25 : a.tmps.getD 25 undef = .string (((x ++ (⟨#[39, 32, 61, 32]⟩ : ByteArray)) ++ S) ++ (⟨#[10]⟩ : ByteArray)) := hg 11 (by decide) _ _ rfl rfl
      have hA := ho.frame hz
      simp only [List.take_succ_cons, List.take_zero, List.filterMap_cons, List.filterMap_nil, List.foldl_cons, List.foldl_nil, e14, e15, e16, e17, e18, e19, e20, e21, e22, e23, e24, e25, List.setIfInBounds_toArray, List.set_cons_zero, List.set_cons_succ] at hA
      obtain ⟨tm, df⟩ := a
      simp only at hd hA
      subst hd
      subst hA
      simp only [List.drop_succ_cons, List.drop_zero]
      have HH2 := Aside.mk hb
      clear hz ho hg hb e14 e15 e16 e17 e18 e19 e20 e21 e22 e23 e24 e25
      have hbd : Below wr.heap.size wr w2 := HH2.out
      have hB2 := Fx.IsBuilder_below HBI.out hbd
      have hsz2 := hbd.size
      have hlen : (fmtS ((strL names).take i) (strL names) (ts.take i)).length ≤ 2000000 := by
        have h1 := fmtS_len HNM.out ((strL names).take i) (ts.take i) (fun y hy => HNM.out y (List.mem_of_mem_take hy)) (fun y hy => HOK.out y (List.mem_of_mem_take hy))
        have h2 : ((ts.take i).map fun t => (flat t).length).sum ≤ 6 * 9000 := by
          have hle : (ts.take i).length ≤ 6 := by rw [List.length_take]; have := H6.out; have := HLN.out; have := HM.out; omega
          have hall : ∀ t ∈ ts.take i, (flat t).length ≤ 9000 := fun t ht => HFL.out t (List.mem_of_mem_take ht)
          generalize ts.take i = l at hle hall
          have : (l.map fun t => (flat t).length).sum ≤ l.length * 9000 := by
            clear hle
            induction l with
            | nil => simp
            | cons a r ih =>
              have h1 := hall a (List.mem_cons_self ..)
              have h2 := ih fun y hy => hall y (List.mem_cons_of_mem _ hy)
              simp only [List.map_cons, List.sum_cons, List.length_cons]
              omega
          omega
        have h3 : (ts.take i).length ≤ 6 := by rw [List.length_take]; have := H6.out; have := HLN.out; have := HM.out; omega
        omega
      have hsz : (Lib.byteCells (fmtS ((strL names).take i) (strL names) (ts.take i))).length + (x ++ (⟨#[39, 32, 61, 32]⟩ : ByteArray) ++ S ++ (⟨#[10]⟩ : ByteArray)).size ≤ 140737488355328 := by rw [Lib.byteCells_length, HN1.out]; omega
      have HBL := Aside.mk (And.intro hB2 (And.intro hsz (show g + 1 ≤ w2.heap.size by have := HSZ.out; omega)))
      have HBD := Aside.mk (HBW.out.trans (hbd.mono (by have := HSZ.out; omega)))
      have HS2 := Aside.mk (show g + 1 + 1 ≤ w2.heap.size by have := HSZ.out; omega)
      clear hB2 hsz hbd hsz2 hlen
      go_wp2_with (first | (go_at_call 97; refine (Bld.WriteString _ _ _ _ _ HBL.out.1 HBL.out.2.1 HBL.out.2.2).mono ?_; rintro e w3 ⟨rfl, hB3, hb3⟩))
      have HB3 : Aside (Lib.IsBuilder 125 5 (g + 1) (g + 1) (Lib.byteCells (fmtS ((strL names).take (i + 1)) (strL names) (ts.take (i + 1)))) w3) := ⟨by
        rw [fmtS_take_succ (strL names) (strL names) ts i x.data.toList t (by unfold strL; rw [List.getElem?_map, HX.out.1]; rfl) HX.out.2, ← HS.out, Fx.byteCells_append]
        have : Lib.strCells (x ++ (⟨#[39, 32, 61, 32]⟩ : ByteArray) ++ S ++ (⟨#[10]⟩ : ByteArray)) = Lib.byteCells (x.data.toList ++ [39, 32, 61, 32] ++ S.data.toList ++ [10]) := by
          simp [Lib.strCells, Lib.byteCells, ByteArray.data_append]
        rw [← this]
        exact hB3⟩
      have HBD3 := Aside.mk (HBD.out.trans hb3)
      have HS3 := Aside.mk (Nat.le_trans HS2.out hb3.size)
      obtain ⟨go, hgo⟩ : ∃ go, gk = go + 1 := ⟨gk - 1, by have := HI.out; omega⟩
      clear hB3 hb3
      go_roundg go
      case measure => omega
      case rel => exact ⟨i + 1, rfl, ⟨by have := HI.out; omega⟩, HB3, HBD3, HS3⟩
    · have hi' : ¬ ((i : Int) < (M : Int)) := by omega
      have him : i = M := by have := HI.out; omega
      subst him
      have hgs : g + 1 ≤ wr.heap.size := by have := HSZ.out; omega
      have HFIN := Aside.mk (Tryz.Builder_String_any _ _ _ _ HBI.out hgs)
      go_wp2_with (first | (go_at_call 98; refine HFIN.out.mono ?_; rintro e w3 ⟨rfl, hb3⟩))
      go_ret
      have e1 : (strL names).take i = strL names := List.take_of_length_le (by unfold strL; rw [List.length_map, HM.out]; exact Nat.le_refl _)
      have e2 : ts.take i = ts := List.take_of_length_le (by rw [← HLN.out, HM.out]; exact Nat.le_refl _)
      exact ⟨⟨_, rfl, by rw [e1, e2]⟩, HWR.out.trans (by exact hb3.mono (by have := HG.out; omega))⟩
end Go.Proofs.YthcidkidpiaomaaGreatDoor.Od
end
section
set_option linter.unusedVariables false
set_option linter.unusedSimpArgs false
namespace Go.Proofs.YthcidkidpiaomaaGreatDoor.Od
open Go.RowKit Rg
structure Lb (w : World) : Prop where
  tabs : Fx.Tabs w
  ends : Ends w
theorem Lb.below {w w' : World} (h : Lb w) (hb : Below w.heap.size w w') : Lb w' := ⟨h.tabs.below hb, h.ends.below hb⟩
theorem Parse_bad (s : ByteArray) (hs : s.size ≤ 100000) (o : Nat) (c : Int) (h : parseSys s.data.toList = .err o c) (w : World) (hL : Lb w) :
    Calls Tryz.prog 31 #[.string s] w fun e w' => e = .returned (.tuple #[.agg #[.slice none 0 0, .slice none 0 0], .int .i64 (o : Nat), .int .i64 c]) ∧ Below w.heap.size w w' := by
  refine (Parse_any s hs w hL.tabs).mono ?_
  rintro e w' ⟨hb, hp⟩
  rw [h] at hp
  exact ⟨hp, hb⟩
theorem Parse_good (s : ByteArray) (hs : s.size ≤ 100000) (names : List (List UInt8)) (fs : List (List Nd)) (h : parseSys s.data.toList = .ok (names, fs)) (w : World) (hL : Lb w) :
    Calls Tryz.prog 31 #[.string s] w fun e w' => ∃ vn vf xs, e = .returned (.tuple #[.agg #[vn, vf], .int .i64 0, .int .i64 0]) ∧ strL xs = names ∧ Strs w' vn xs ∧ Fs w' vf fs ∧ Below w.heap.size w w' := by
  refine (Parse_any s hs w hL.tabs).mono ?_
  rintro e w' ⟨hb, hp⟩
  rw [h] at hp
  obtain ⟨vn, vf, xs, h1, h2, h3, h4⟩ := hp
  exact ⟨vn, vf, xs, h1, h2, h3, h4, hb⟩
theorem ParseExpr_good (s : ByteArray) (hs : s.size ≤ 100000) (vv : Value) (xs : List ByteArray) (r : List Nd) (h : parseExpr s.data.toList (strL xs) = .ok r) (w : World) (hv : Strs w vv xs) (hL : Lb w) :
    Calls Tryz.prog 33 #[.string s, vv] w fun e w' => ∃ v, e = .returned (.tuple #[v, .int .i64 0, .int .i64 0]) ∧ OwnN w.heap.size w' v r ∧ Below w.heap.size w w' := by
  refine (ParseExpr_any s hs vv xs w hv hL.tabs).mono ?_
  rintro e w' ⟨hb, hp⟩
  rw [h] at hp
  obtain ⟨v, h1, h2⟩ := hp
  exact ⟨v, h1, h2, hb⟩
theorem ParseExpr_bad (s : ByteArray) (hs : s.size ≤ 100000) (vv : Value) (xs : List ByteArray) (o : Nat) (c : Int) (h : parseExpr s.data.toList (strL xs) = .err o c) (w : World) (hv : Strs w vv xs) (hL : Lb w) :
    Calls Tryz.prog 33 #[.string s, vv] w fun e w' => e = .returned (.tuple #[.slice none 0 0, .int .i64 (o : Nat), .int .i64 c]) ∧ Below w.heap.size w w' := by
  refine (ParseExpr_any s hs vv xs w hv hL.tabs).mono ?_
  rintro e w' ⟨hb, hp⟩
  rw [h] at hp
  exact ⟨hp, hb⟩
set_option maxRecDepth 100000 in
set_option maxHeartbeats 8000000 in
theorem parseFails_any (s : ByteArray) (hs : s.size ≤ 100000) (o : Nat) (c : Int) (h : parseSys s.data.toList = .err o c) (w : World) (hL : Lb w) :
    Calls Tryz.prog 54 #[.string s, .int .i64 (o : Nat), .int .i64 c] w fun e w' => e = .returned (.bool true) ∧ Below w.heap.size w w' := by
  have HP := Aside.mk (Parse_bad s hs o c h w hL)
  clear hs h hL
  go_enter Tryz.func54, Tryz.ntmps54
  go_wp2_with fail
  refine HP.out.mono ?_
  rintro e w1 ⟨rfl, hb1⟩
  have HB := Aside.mk hb1
  clear hb1
  go_wp2_with fail
  go_ret
  exact ⟨rfl, HB.out.trans ((Below.refl _ _).alloc HB.out.size _)⟩
set_option maxRecDepth 100000 in
set_option maxHeartbeats 8000000 in
theorem reformats_any (s want : ByteArray) (hs : s.size ≤ 100000) (t : Tr) (h : parseExpr s.data.toList [[120], [118]] = .ok (flat t)) (hok : okT [[120], [118]] t) (hw : want.data.toList = fmtT [[120], [118]] t) (hl : (flat t).length ≤ 200) (w : World) (hL : Lb w) :
    Calls Tryz.prog 55 #[.string s, .string want] w fun e w' => e = .returned (.bool true) ∧ Below w.heap.size w w' := by
  have hal : Below w.heap.size w (w.alloc (.cells #[.string ⟨#[120]⟩, .string ⟨#[118]⟩] 9)) := (Below.refl _ _).alloc (Nat.le_refl _) _
  have hr := heap_alloc_last w (.cells #[.string ⟨#[120]⟩, .string ⟨#[118]⟩] 9)
  have hst : Strs (w.alloc (.cells #[.string ⟨#[120]⟩, .string ⟨#[118]⟩] 9)) (.slice (some ⟨w.heap.size, 0, none⟩) 2 2) [⟨#[120]⟩, ⟨#[118]⟩] := ⟨Or.inr ⟨_, 0, 2, rfl, Nat.le_refl _, fun j hj => by
    rw [cell_of_row _ _ (0 + j) _ _ _ hr]
    simp only [List.length_cons, List.length_nil] at hj
    rcases (show j = 0 ∨ j = 1 by omega) with rfl | rfl <;> rfl⟩, by simp⟩
  have HSV := Aside.mk hst
  have HAL := Aside.mk hal
  have HLB := Aside.mk hL
  have HP := Aside.mk (ParseExpr_good s hs _ [⟨#[120]⟩, ⟨#[118]⟩] (flat t) h _ hst (hL.below hal))
  have HOK := Aside.mk hok
  have HW := Aside.mk hw
  have HL := Aside.mk hl
  have HEX : Aside (okEx 2 (flat t) = true) := ⟨okEx_flat hok hl⟩
  clear hs h hL hst hr hal hok hw hl
  go_enter Tryz.func55, Tryz.ntmps55
  go_wp2_with fail
  generalize w.alloc (.cells #[.string ⟨#[120]⟩, .string ⟨#[118]⟩] 9) = W at HSV HAL HP ⊢
  refine HP.out.mono ?_
  rintro e w1 ⟨v, rfl, ho1, hb1⟩
  have HB1 := Aside.mk (HAL.out.trans (hb1.mono HAL.out.size))
  have HS1 := Aside.mk (HSV.out.below hb1)
  have HR1 := Aside.mk (ho1.rdN (by have := HL.out; omega))
  obtain ⟨av, cv, rfl⟩ := HR1.out.slice
  clear hb1 ho1 HP HSV
  go_wp2_with fail
  refine (rValidExpr_any _ _ 2 w1 HR1.out).mono ?_
  rintro e w2 ⟨rfl, hb2⟩
  rw [HEX.out]
  have HB2 := Aside.mk (HB1.out.trans (hb2.mono HB1.out.size))
  have HS2 := Aside.mk (HS1.out.below hb2)
  have HR2 := Aside.mk (HR1.out.below hb2)
  clear hb2
  go_wp2_with fail
  refine (FE_any (vars := [⟨#[120]⟩, ⟨#[118]⟩]) (by decide) t HOK.out _ _ w2 HR2.out HS2.out (HLB.out.tabs.below HB2.out) want HW.out).mono ?_
  rintro e w3 ⟨rfl, hb3⟩
  have HB3 := Aside.mk (HB2.out.trans (hb3.mono HB2.out.size))
  clear hb3
  go_wp2_with fail
  go_ret
  exact ⟨rfl, HB3.out⟩
end Go.Proofs.YthcidkidpiaomaaGreatDoor.Od
end
