/- OfF -/
import Derived.Test.YthcidkidpiaomaaGreatDoorKa28
section
set_option linter.unusedVariables false
set_option linter.unusedSimpArgs false
namespace Go.Proofs.YthcidkidpiaomaaGreatDoor.Od
open Go.RowKit Rg
set_option maxRecDepth 100000 in
set_option maxHeartbeats 8000000 in
theorem rUnary_any (w : World) (op : Int) (v : Value) (e : List Nd) (h : Rd w v e) (hne : e ≠ []) (hl : e.length ≤ 90000) :
    Calls Tryz.prog 41 #[.int .i64 op, v] w fun e' w' => ∃ v', e' = .returned v' ∧ OwnN w.heap.size w' v' (⟨op, 0, 0, 0⟩ :: e) ∧ Below w.heap.size w w' := by
  have hal : Below w.heap.size w (w.alloc (.cells #[.int .i64 op, .int .i64 0, .int .i64 0, .int .i64 0] 79)) := (Below.refl _ _).alloc (Nat.le_refl _) _
  have HAL := Aside.mk hal
  have HR := Aside.mk (h.below hal)
  have HNE := Aside.mk hne
  have HL : Aside ([(⟨op, 0, 0, 0⟩ : Nd)].length + e.length ≤ 100000) := ⟨by simp only [List.length_cons, List.length_nil]; omega⟩
  have HOW : Aside (OwnN w.heap.size (w.alloc (.cells #[.int .i64 op, .int .i64 0, .int .i64 0, .int .i64 0] 79)) (.slice (some ⟨w.heap.size, 0, none⟩) 1 1) [⟨op, 0, 0, 0⟩]) := ⟨own_one (heap_alloc_last _ _) (Nat.le_refl _) rfl⟩
  obtain ⟨ao, cap, rfl, -⟩ := h.out
  clear h hne hl hal
  go_enter Tryz.func41, Tryz.ntmps41
  go_wp2_with (first | (at_builtin; refine wpList_append_nodes _ rfl (.tmp 9) (.tmp 10) rfl w.heap.size _ [⟨op, 0, 0, 0⟩] rfl HOW.out _ e rfl HR.out HNE.out HL.out HAL.out.size ?_; intro v3 w3 ho3 hb3))
  go_ret
  exact ⟨_, rfl, ho3, HAL.out.trans hb3⟩
set_option maxRecDepth 100000 in
set_option maxHeartbeats 8000000 in
theorem rBinary_any (w : World) (op : Int) (v u : Value) (e f : List Nd) (h : Rd w v e) (hne : e ≠ []) (h' : Rd w u f) (hnf : f ≠ []) (hl : e.length + f.length ≤ 90000) :
    Calls Tryz.prog 40 #[.int .i64 op, v, u] w fun e' w' => ∃ v', e' = .returned v' ∧ OwnN w.heap.size w' v' (⟨op, 0, 0, 0⟩ :: (e ++ f)) ∧ Below w.heap.size w w' := by
  have hal : Below w.heap.size w (w.alloc (.cells #[.int .i64 op, .int .i64 0, .int .i64 0, .int .i64 0] 79)) := (Below.refl _ _).alloc (Nat.le_refl _) _
  have HAL := Aside.mk hal
  have HR := Aside.mk (h.below hal)
  have HR' := Aside.mk (h'.below hal)
  have H0 := Aside.mk h'
  have HNE := Aside.mk hne
  have HNF := Aside.mk hnf
  have HL : Aside ([(⟨op, 0, 0, 0⟩ : Nd)].length + e.length ≤ 100000) := ⟨by simp only [List.length_cons, List.length_nil]; omega⟩
  have HL2 : Aside (([(⟨op, 0, 0, 0⟩ : Nd)] ++ e).length + f.length ≤ 100000) := ⟨by simp only [List.length_append, List.length_cons, List.length_nil]; omega⟩
  have HOW : Aside (OwnN w.heap.size (w.alloc (.cells #[.int .i64 op, .int .i64 0, .int .i64 0, .int .i64 0] 79)) (.slice (some ⟨w.heap.size, 0, none⟩) 1 1) [⟨op, 0, 0, 0⟩]) := ⟨own_one (heap_alloc_last _ _) (Nat.le_refl _) rfl⟩
  obtain ⟨ao, cap, rfl, -⟩ := h.out
  obtain ⟨ao', cap', rfl, -⟩ := h'.out
  clear h hne hl hal h' hnf
  go_enter Tryz.func40, Tryz.ntmps40
  go_wp2_with (first | (at_builtin; refine wpList_append_nodes _ rfl (.tmp 11) (.tmp 12) rfl w.heap.size _ [⟨op, 0, 0, 0⟩] rfl HOW.out _ e rfl HR.out HNE.out HL.out HAL.out.size ?_; intro v3 w3 ho3 hb3; have HO3 := Aside.mk ho3; have HB3 := Aside.mk (HAL.out.trans hb3); have HF3 := Aside.mk (H0.out.below HB3.out); clear ho3 hb3) | (at_builtin; refine wpList_append_nodes _ rfl (.tmp 14) (.tmp 15) rfl w.heap.size _ _ rfl HO3.out _ f rfl HF3.out HNF.out HL2.out HB3.out.size ?_; intro v4 w4 ho4 hb4))
  go_ret
  exact ⟨_, rfl, by simpa using ho4, HB3.out.trans hb4⟩
theorem enters_same : ∀ args w, (callFunc 24 args).run Tryz.prog w = .ok (.enter 24 args) w := fun args w => by kernel_rfl
set_option maxRecDepth 100000 in
set_option maxHeartbeats 16000000 in
theorem rSameSys_any (vn vf vn' vf' : Value) (xs : List ByteArray) (fs : List (List Nd)) (w : World) (hn : Strs w vn xs) (hf : Fs w vf fs) (hn' : Strs w vn' xs) (hf' : Fs w vf' fs) :
    Calls Tryz.prog 35 #[.agg #[vn, vf], .agg #[vn', vf']] w fun e' w' => e' = .returned (.bool true) ∧ Below w.heap.size w w' := by
  obtain ⟨an, cn, rfl, hna⟩ := hn.at
  obtain ⟨af, cf, rfl, hfa⟩ := hf.at
  obtain ⟨an', cn', rfl, hna'⟩ := hn'.at
  obtain ⟨af', cf', rfl, hfa'⟩ := hf'.at
  have HNA := Aside.mk hna
  have HFA := Aside.mk hfa
  have HNA' := Aside.mk hna'
  have HFA' := Aside.mk hfa'
  obtain ⟨N, hN⟩ : ∃ N, xs.length = N := ⟨_, rfl⟩
  obtain ⟨M, hM⟩ : ∃ M, fs.length = M := ⟨_, rfl⟩
  have HN := Aside.mk hN
  have HM := Aside.mk hM
  have hn9 : (N : Int) ≤ 90000 := by have := hn.few; omega
  have hm9 : (M : Int) ≤ 90000 := by have := hf.few; omega
  rw [hN, hM]
  have hb1 : Below w.heap.size w (w.alloc (.cells #[.slice an N cn, .slice af M cf] 25)) := (Below.refl _ _).alloc (Nat.le_refl _) _
  have hr1 := heap_alloc_last w (.cells #[.slice an N cn, .slice af M cf] 25)
  have e1 : (w.alloc (.cells #[.slice an N cn, .slice af M cf] 25)).heap.size = w.heap.size + 1 := World.size_alloc ..
  have hr2 := heap_alloc_last (w.alloc (.cells #[.slice an N cn, .slice af M cf] 25)) (.cells #[.slice an' N cn', .slice af' M cf'] 25)
  have hb2 : Below (w.heap.size + 1) (w.alloc (.cells #[.slice an N cn, .slice af M cf] 25)) ((w.alloc (.cells #[.slice an N cn, .slice af M cf] 25)).alloc (.cells #[.slice an' N cn', .slice af' M cf'] 25)) := (Below.refl _ _).alloc (by omega) _
  rw [e1] at hr2
  have hr1' := (hb2.block w.heap.size (by omega)).trans hr1
  have HB := Aside.mk (hb1.trans (hb2.mono (by omega)))
  have HR1 := Aside.mk hr1'
  have HR2 := Aside.mk hr2
  clear hn hf hn' hf' hna hfa hna' hfa' hN hM hb1 hr1 e1 hr2 hb2 hr1'
  go_enter Tryz.func35, Tryz.ntmps35
  go_wp2_with fail
  obtain ⟨g, hg⟩ : ∃ g, w.heap.size = g := ⟨_, rfl⟩
  have HG := Aside.mk hg
  rw [hg] at HB HR1 HR2
  simp only [hg]
  clear hg
  generalize (w.alloc (.cells #[.slice an N cn, .slice af M cf] 25)).alloc (.cells #[.slice an' N cn', .slice af' M cf'] 25) = W at HB HR1 HR2 ⊢
  go_loopg [5] N (fun m v5 wr => ∃ i : Nat, v5 = .int .i64 (i : Nat) ∧ Aside (i ≤ N ∧ N - i ≤ m) ∧ Aside (Below W.heap.size W wr))
  case atStart => exact ⟨0, rfl, ⟨by simp⟩, ⟨Below.refl _ _⟩⟩
  case round =>
    obtain ⟨i, rfl, HI, HBW⟩ := hrel
    have hrr := (HBW.out.block _ (heap_lt HR1.out)).trans HR1.out
    have hrr2 := (HBW.out.block _ (heap_lt HR2.out)).trans HR2.out
    have k0 : wr.cell? ⟨g, 0, none⟩ = some (.slice an N cn) := by rw [cell_of_row _ _ 0 _ _ _ hrr]; rfl
    have k0' : wr.cell? ⟨g + 1, 0, none⟩ = some (.slice an' N cn') := by rw [cell_of_row _ _ 0 _ _ _ hrr2]; rfl
    have hwr : Below w.heap.size w wr := HG.out ▸ HB.out.trans (HBW.out.mono (Nat.le_of_lt (heap_lt HR1.out)))
    by_cases hi : i < N
    · have hi' : (i : Int) < (N : Int) := by omega
      obtain ⟨x, hx⟩ : ∃ x, xs[i]? = some x := ⟨_, List.getElem?_eq_getElem (by rw [HN.out]; exact hi)⟩
      obtain ⟨bn, on, rfl, hcx⟩ := HNA.out i x hx
      obtain ⟨bn', on', rfl, hcx'⟩ := HNA'.out i x hx
      have cx : wr.cell? ⟨bn, on + i, none⟩ = some (.string x) := by rw [hwr.cell (p := ⟨bn, on + i, none⟩) (World.block_lt_of_cell? w _ hcx)]; exact hcx
      have cx' : wr.cell? ⟨bn', on' + i, none⟩ = some (.string x) := by rw [hwr.cell (p := ⟨bn', on' + i, none⟩) (World.block_lt_of_cell? w _ hcx')]; exact hcx'
      obtain ⟨go, hgo⟩ : ∃ go, gk = go + 1 := ⟨gk - 1, by have := HI.out; omega⟩
      clear hx hcx hcx' hi hrr hrr2 hwr
      go_wp2_with fail
      go_quiet (fail)
      go_wp2_with fail
      go_roundg go
      case measure => omega
      case rel => exact ⟨i + 1, by go_num, ⟨by have := HI.out; omega⟩, ⟨HBW.out.trans ⟨rfl, rfl, rfl, Nat.le_refl _, fun _ _ => rfl⟩⟩⟩
    · have hi' : ¬ ((i : Int) < (N : Int)) := by omega
      have k1 : wr.cell? ⟨g, 1, none⟩ = some (.slice af M cf) := by rw [cell_of_row _ _ 1 _ _ _ hrr]; rfl
      have HBW0 := HBW
      clear hrr hrr2 hwr HBW
      go_wp2_with fail
      clear k0 k0' k1
      go_loopg [6] M (fun m v6 wr => ∃ i : Nat, v6 = .int .i64 (i : Nat) ∧ Aside (i ≤ M ∧ M - i ≤ m) ∧ Aside (Below W.heap.size W wr))
      case atStart => exact ⟨0, rfl, ⟨by simp⟩, HBW0⟩
      case round =>
        obtain ⟨j, rfl, HJ, HBW⟩ := hrel
        have hrr := (HBW.out.block _ (heap_lt HR1.out)).trans HR1.out
        have hrr2 := (HBW.out.block _ (heap_lt HR2.out)).trans HR2.out
        have hwr2 : Below w.heap.size w wr := HG.out ▸ HB.out.trans (HBW.out.mono (Nat.le_of_lt (heap_lt HR1.out)))
        have k1 : wr.cell? ⟨g, 1, none⟩ = some (.slice af M cf) := by rw [cell_of_row _ _ 1 _ _ _ hrr]; rfl
        have k1' : wr.cell? ⟨g + 1, 1, none⟩ = some (.slice af' M cf') := by rw [cell_of_row _ _ 1 _ _ _ hrr2]; rfl
        by_cases hj : j < M
        · have hj' : (j : Int) < (M : Int) := by omega
          obtain ⟨f, hfj⟩ : ∃ f, fs[j]? = some f := ⟨_, List.getElem?_eq_getElem (by rw [HM.out]; exact hj)⟩
          obtain ⟨bf, of', u, rfl, hcu, hru⟩ := HFA.out j f hfj
          obtain ⟨bf', of2, u', rfl, hcu', hru'⟩ := HFA'.out j f hfj
          have cu : wr.cell? ⟨bf, of' + j, none⟩ = some u := by rw [hwr2.cell (p := ⟨bf, of' + j, none⟩) (World.block_lt_of_cell? w _ hcu)]; exact hcu
          have cu' : wr.cell? ⟨bf', of2 + j, none⟩ = some u' := by rw [hwr2.cell (p := ⟨bf', of2 + j, none⟩) (World.block_lt_of_cell? w _ hcu')]; exact hcu'
          obtain ⟨au, lu, ru, rfl⟩ : ∃ au lu ru, u = .slice au lu ru := by obtain ⟨a, c, h⟩ := hru.slice; exact ⟨a, _, c, h⟩
          obtain ⟨au', lu', ru', rfl⟩ : ∃ au lu ru, u' = .slice au lu ru := by obtain ⟨a, c, h⟩ := hru'.slice; exact ⟨a, _, c, h⟩
          have HRU := Aside.mk (hru.below hwr2)
          have HRU' := Aside.mk (hru'.below hwr2)
          have hl1 := heap_lt hrr
          have hl2 := heap_lt hrr2
          have hl3 : bf < wr.heap.size := World.block_lt_of_cell? wr _ cu
          have hl4 : bf' < wr.heap.size := World.block_lt_of_cell? wr _ cu'
          obtain ⟨go, hgo⟩ : ∃ go, gk = go + 1 := ⟨gk - 1, by have := HJ.out; omega⟩
          clear hfj hcu hru hcu' hru' hj hrr hrr2
          go_wp2_with fail
          refine region_list (T := tab2 [
              Sq.val (.pointer (some ⟨g, 1, none⟩)), Sq.val (.slice (some ⟨bf, of', none⟩) M cf), Sq.val (.int .i64 (j : Nat)), Sq.val (.pointer (some ⟨bf, of' + j, none⟩)), Sq.val (.slice au lu ru), Sq.val (.pointer (some ⟨g + 1, 1, none⟩)), Sq.val (.slice (some ⟨bf', of2, none⟩) M cf'), Sq.val (.int .i64 (j : Nat)), Sq.val (.pointer (some ⟨bf', of2 + j, none⟩)), Sq.val (.slice au' lu' ru'), Sq.val (.bool true)]) 11
            [_, _, _, _, _, _, _, _, _, _, _, _] (by kernel_rfl) (by kernel_rfl) (by kernel_rfl) (by kernel_rfl) (by kernel_rfl) (by kernel_rfl) rfl ?_ ?_
          · refine AllIn.cons ?_ ?_
            · intro a w hz hb ho hg
              have e2 : a.tmps.getD 2 undef = .pointer (some ⟨g, 0, none⟩) := ho 2 (by kernel_rfl)
              have f2 := Rg.gd e2
              exact Or.inl ⟨wanted_none rfl, wp_value hb.size (by simp [execOp, Act.eval, e2, f2, go_sem]) (Below.refl _ _) rfl⟩
            refine AllIn.cons ?_ ?_
            · intro a w hz hb ho hg
              have e48 : a.tmps.getD 48 undef = .pointer (some ⟨g, 1, none⟩) := got_of hg (j := 0) rfl rfl rfl
              have f48 := Rg.gd e48
              have q := (hb.cell (p := ⟨g, 1, none⟩) hl1).trans k1
              exact Or.inl ⟨wanted_none rfl, wp_value hb.size (by simp [execOp, Act.eval, e48, f48, q, go_sem]) (Below.refl _ _) rfl⟩
            refine AllIn.cons ?_ ?_
            · intro a w hz hb ho hg
              have e6 : a.tmps.getD 6 undef = .int .i64 (j : Nat) := ho 6 (by kernel_rfl)
              have f6 := Rg.gd e6
              exact Or.inl ⟨wanted_none rfl, wp_value hb.size (by simp [execOp, Act.eval, e6, f6, go_sem]) (Below.refl _ _) rfl⟩
            refine AllIn.cons ?_ ?_
            · intro a w hz hb ho hg
              have e49 : a.tmps.getD 49 undef = .slice (some ⟨bf, of', none⟩) M cf := got_of hg (j := 1) rfl rfl rfl
              have e50 : a.tmps.getD 50 undef = .int .i64 (j : Nat) := got_of hg (j := 2) rfl rfl rfl
              have f49 := Rg.gd e49
              have f50 := Rg.gd e50
              exact Or.inl ⟨wanted_none rfl, wp_value hb.size (by simp [execOp, Act.eval, e49, e50, f49, f50, hj', go_sem]) (Below.refl _ _) rfl⟩
            refine AllIn.cons ?_ ?_
            · intro a w hz hb ho hg
              have e51 : a.tmps.getD 51 undef = .pointer (some ⟨bf, of' + j, none⟩) := got_of hg (j := 3) rfl rfl rfl
              have f51 := Rg.gd e51
              have q := (hb.cell (p := ⟨bf, of' + j, none⟩) hl3).trans cu
              exact Or.inl ⟨wanted_none rfl, wp_value hb.size (by simp [execOp, Act.eval, e51, f51, q, go_sem]) (Below.refl _ _) rfl⟩
            refine AllIn.cons ?_ ?_
            · intro a w hz hb ho hg
              have e3 : a.tmps.getD 3 undef = .pointer (some ⟨g + 1, 0, none⟩) := ho 3 (by kernel_rfl)
              have f3 := Rg.gd e3
              exact Or.inl ⟨wanted_none rfl, wp_value hb.size (by simp [execOp, Act.eval, e3, f3, go_sem]) (Below.refl _ _) rfl⟩
            refine AllIn.cons ?_ ?_
            · intro a w hz hb ho hg
              have e53 : a.tmps.getD 53 undef = .pointer (some ⟨g + 1, 1, none⟩) := got_of hg (j := 5) rfl rfl rfl
              have f53 := Rg.gd e53
              have q := (hb.cell (p := ⟨g + 1, 1, none⟩) hl2).trans k1'
              exact Or.inl ⟨wanted_none rfl, wp_value hb.size (by simp [execOp, Act.eval, e53, f53, q, go_sem]) (Below.refl _ _) rfl⟩
            refine AllIn.cons ?_ ?_
            · intro a w hz hb ho hg
              have e6 : a.tmps.getD 6 undef = .int .i64 (j : Nat) := ho 6 (by kernel_rfl)
              have f6 := Rg.gd e6
              exact Or.inl ⟨wanted_none rfl, wp_value hb.size (by simp [execOp, Act.eval, e6, f6, go_sem]) (Below.refl _ _) rfl⟩
            refine AllIn.cons ?_ ?_
            · intro a w hz hb ho hg
              have e54 : a.tmps.getD 54 undef = .slice (some ⟨bf', of2, none⟩) M cf' := got_of hg (j := 6) rfl rfl rfl
              have e55 : a.tmps.getD 55 undef = .int .i64 (j : Nat) := got_of hg (j := 7) rfl rfl rfl
              have f54 := Rg.gd e54
              have f55 := Rg.gd e55
              exact Or.inl ⟨wanted_none rfl, wp_value hb.size (by simp [execOp, Act.eval, e54, e55, f54, f55, hj', go_sem]) (Below.refl _ _) rfl⟩
            refine AllIn.cons ?_ ?_
            · intro a w hz hb ho hg
              have e56 : a.tmps.getD 56 undef = .pointer (some ⟨bf', of2 + j, none⟩) := got_of hg (j := 8) rfl rfl rfl
              have f56 := Rg.gd e56
              have q := (hb.cell (p := ⟨bf', of2 + j, none⟩) hl4).trans cu'
              exact Or.inl ⟨wanted_none rfl, wp_value hb.size (by simp [execOp, Act.eval, e56, f56, q, go_sem]) (Below.refl _ _) rfl⟩
            refine AllIn.cons ?_ ?_
            · intro a w hz hb ho hg
              have e52 : a.tmps.getD 52 undef = .slice au lu ru := got_of hg (j := 4) rfl rfl rfl
              have e57 : a.tmps.getD 57 undef = .slice au' lu' ru' := got_of hg (j := 9) rfl rfl rfl
              have f52 := Rg.gd e52
              have f57 := Rg.gd e57
              exact Or.inl ⟨wanted_none rfl, wp_calls hb.size (run_call (args := #[.slice au lu ru, .slice au' lu' ru']) enters_same (by simp [Act.eval, f52, f57])) ((rSame_any _ _ f w (HRU.out.below hb) (HRU'.out.below hb)).mono (by rintro e w' ⟨rfl, hb2⟩; exact ⟨_, rfl, hb2, rfl⟩))⟩
            exact AllIn.nil
          intro a w2 hd hz hb ho hg
          have e48 : a.tmps.getD 48 undef = .pointer (some ⟨g, 1, none⟩) := hg 0 (by decide) _ _ rfl rfl
          have e49 : a.tmps.getD 49 undef = .slice (some ⟨bf, of', none⟩) M cf := hg 1 (by decide) _ _ rfl rfl
          have e50 : a.tmps.getD 50 undef = .int .i64 (j : Nat) := hg 2 (by decide) _ _ rfl rfl
          have e51 : a.tmps.getD 51 undef = .pointer (some ⟨bf, of' + j, none⟩) := hg 3 (by decide) _ _ rfl rfl
          have e52 : a.tmps.getD 52 undef = .slice au lu ru := hg 4 (by decide) _ _ rfl rfl
          have e53 : a.tmps.getD 53 undef = .pointer (some ⟨g + 1, 1, none⟩) := hg 5 (by decide) _ _ rfl rfl
          have e54 : a.tmps.getD 54 undef = .slice (some ⟨bf', of2, none⟩) M cf' := hg 6 (by decide) _ _ rfl rfl
          have e55 : a.tmps.getD 55 undef = .int .i64 (j : Nat) := hg 7 (by decide) _ _ rfl rfl
          have e56 : a.tmps.getD 56 undef = .pointer (some ⟨bf', of2 + j, none⟩) := hg 8 (by decide) _ _ rfl rfl
          have e57 : a.tmps.getD 57 undef = .slice au' lu' ru' := hg 9 (by decide) _ _ rfl rfl
          have e58 : a.tmps.getD 58 undef = .bool true := hg 10 (by decide) _ _ rfl rfl
          have hA := ho.frame hz
          simp only [List.take_succ_cons, List.take_zero, List.filterMap_cons, List.filterMap_nil, List.foldl_cons, List.foldl_nil, e48, e49, e50, e51, e52, e53, e54, e55, e56, e57, e58, List.setIfInBounds_toArray, List.set_cons_zero, List.set_cons_succ] at hA
          obtain ⟨tm, df⟩ := a
          simp only at hd hA
          subst hd
          subst hA
          simp only [List.drop_succ_cons, List.drop_zero]
          have HH2 := Aside.mk hb
          clear hz ho hg hb e48 e49 e50 e51 e52 e53 e54 e55 e56 e57 e58
          have HB2 := Aside.mk (HBW.out.trans (HH2.out.mono HBW.out.size))
          go_wp2_with fail
          go_roundg go
          case measure => omega
          case rel => exact ⟨j + 1, by go_num, ⟨by have := HJ.out; have := hj'; omega⟩, HB2⟩
        · have hj' : ¬ ((j : Int) < (M : Int)) := by omega
          go_wp2_with fail
          go_ret
          exact ⟨rfl, hwr2⟩
end Go.Proofs.YthcidkidpiaomaaGreatDoor.Od
end
