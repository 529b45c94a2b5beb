/- OcC -/
import Derived.Deep.QuietTactic
import Derived.BigQuiet
import Derived.Test.YthcidkidpiaomaaGreatDoorKb10
import Derived.Test.YthcidkidpiaomaaGreatDoorKb11
section
set_option linter.unusedVariables false
set_option linter.unusedSimpArgs false
namespace Go.Proofs.YthcidkidpiaomaaGreatDoor.Od
open Go.RowKit Rg
open Fx (dn up dlo dhi isq rup)
theorem info_pair : (Tryz.prog.info? 166).map (·.size) = some 2 := by kernel_rfl
theorem wpList_store_pair {ops : Array Oper} {rest : List Oper} {o : Oper} {a : Act} {w : World} {Q : Exit → Act → World → Prop} (hgd : o.guard = none) (x y : Operand) (ho : o.op = .store 166 x y)
    (g : Nat) (F1 F2 : Nat) (hx : a.eval x = .pointer (some ⟨g, 0, none⟩)) (hy : a.eval y = .agg #[.func (.func F1) #[] #[], .func (.func F2) #[] #[]]) (u v : Value) (hg : w.heap[g]? = some (.cells #[u, v] 166 (0, 0)))
    (hK : ∀ w', w'.cell? ⟨g, 0, none⟩ = some (.func (.func F1) #[] #[]) → w'.cell? ⟨g, 1, none⟩ = some (.func (.func F2) #[] #[]) → Below g w w' → w'.heap.size = w.heap.size → wpList Tryz.prog ops Q rest (a.put o.dst undef) w') : wpList Tryz.prog ops Q (o :: rest) a w := by
  have hs : (w.setRow g #[.func (.func F1) #[] #[], .func (.func F2) #[] #[]]).heap.size = w.heap.size := by unfold World.setRow; simp
  have hr := setRow_heap w g _ #[.func (.func F1) #[] #[], .func (.func F2) #[] #[]] _ _ hg
  exact wpList_store_row hgd 166 x y ho g #[.func (.func F1) #[] #[], .func (.func F2) #[] #[]] hx hy 166 _ hg info_pair rfl (by simp [Value.oneCell'])
    (hK _ (by rw [cell_of_row _ _ 0 _ _ _ hr]; rfl) (by rw [cell_of_row _ _ 1 _ _ _ hr]; rfl) ⟨rfl, rfl, rfl, by rw [hs]; exact Nat.le_refl _, fun k hk => setRow_other _ _ _ _ (by omega)⟩ hs)
structure Pick (F : Nat) (al ah bl bh x y : Int) : Prop where
  enters : ∀ args w, (callFunc F args).run Tryz.prog w = .ok (.enter F args) w
  calls : ∀ w, Calls Tryz.prog F #[.agg #[.int .i64 al, .int .i64 ah], .agg #[.int .i64 bl, .int .i64 bh]] w fun e w' => e = .returned (.tuple #[.int .i64 x, .int .i64 y]) ∧ Below w.heap.size w w'
section
variable (al ah bl bh : Int)
set_option maxRecDepth 100000 in
theorem pick_ll : Pick 247 al ah bl bh al bl := ⟨fun args w => by kernel_rfl, fun w => by
  have hal : Below w.heap.size w ((w.alloc (.cells #[.int .i64 al, .int .i64 ah] 29)).alloc (.cells #[.int .i64 bl, .int .i64 bh] 29)) := ((Below.refl _ _).alloc (Nat.le_refl _) _).alloc (by simp) _
  have HB := Aside.mk hal
  clear hal
  go_enter Tryz.func247, Tryz.ntmps247
  go_wp2_with fail
  go_quiet (fail)
  go_wp2_with fail
  go_ret2
  exact ⟨rfl, HB.out.trans ⟨rfl, rfl, rfl, Nat.le_refl _, fun _ _ => rfl⟩⟩⟩
set_option maxRecDepth 100000 in
theorem pick_lh : Pick 248 al ah bl bh al bh := ⟨fun args w => by kernel_rfl, fun w => by
  have hal : Below w.heap.size w ((w.alloc (.cells #[.int .i64 al, .int .i64 ah] 29)).alloc (.cells #[.int .i64 bl, .int .i64 bh] 29)) := ((Below.refl _ _).alloc (Nat.le_refl _) _).alloc (by simp) _
  have HB := Aside.mk hal
  clear hal
  go_enter Tryz.func248, Tryz.ntmps248
  go_wp2_with fail
  go_quiet (fail)
  go_wp2_with fail
  go_ret2
  exact ⟨rfl, HB.out.trans ⟨rfl, rfl, rfl, Nat.le_refl _, fun _ _ => rfl⟩⟩⟩
set_option maxRecDepth 100000 in
theorem pick_hl : Pick 249 al ah bl bh ah bl := ⟨fun args w => by kernel_rfl, fun w => by
  have hal : Below w.heap.size w ((w.alloc (.cells #[.int .i64 al, .int .i64 ah] 29)).alloc (.cells #[.int .i64 bl, .int .i64 bh] 29)) := ((Below.refl _ _).alloc (Nat.le_refl _) _).alloc (by simp) _
  have HB := Aside.mk hal
  clear hal
  go_enter Tryz.func249, Tryz.ntmps249
  go_wp2_with fail
  go_quiet (fail)
  go_wp2_with fail
  go_ret2
  exact ⟨rfl, HB.out.trans ⟨rfl, rfl, rfl, Nat.le_refl _, fun _ _ => rfl⟩⟩⟩
set_option maxRecDepth 100000 in
theorem pick_hh : Pick 246 al ah bl bh ah bh := ⟨fun args w => by kernel_rfl, fun w => by
  have hal : Below w.heap.size w ((w.alloc (.cells #[.int .i64 al, .int .i64 ah] 29)).alloc (.cells #[.int .i64 bl, .int .i64 bh] 29)) := ((Below.refl _ _).alloc (Nat.le_refl _) _).alloc (by simp) _
  have HB := Aside.mk hal
  clear hal
  go_enter Tryz.func246, Tryz.ntmps246
  go_wp2_with fail
  go_quiet (fail)
  go_wp2_with fail
  go_ret2
  exact ⟨rfl, HB.out.trans ⟨rfl, rfl, rfl, Nat.le_refl _, fun _ _ => rfl⟩⟩⟩
end
def prodL : List (Nat × Nat) := [(0, 246), (1, 247), (2, 248), (3, 247), (4, 248), (5, 249), (6, 249), (7, 247), (10, 248), (11, 246), (12, 249), (13, 248), (14, 249), (15, 246), (16, 247), (17, 246)]
def quotL : List (Nat × Nat) := [(0, 249), (1, 248), (2, 247), (3, 246), (4, 246), (5, 248), (6, 247), (7, 249), (8, 246), (9, 247), (10, 248), (11, 249)]
structure Ends (w : World) : Prop where
  pr : ∀ j F, (j, F) ∈ prodL → w.cell? ⟨0, j, none⟩ = some (.func (.func F) #[] #[])
  qu : ∀ j F, (j, F) ∈ quotL → w.cell? ⟨1, j, none⟩ = some (.func (.func F) #[] #[])
theorem Ends.below {w w' : World} (h : Ends w) (hb : Below w.heap.size w w') : Ends w' :=
  ⟨fun j F hj => by rw [hb.cell (World.block_lt_of_cell? w _ (h.pr j F hj))]; exact h.pr j F hj, fun j F hj => by rw [hb.cell (World.block_lt_of_cell? w _ (h.qu j F hj))]; exact h.qu j F hj⟩
theorem side_lt (l h : Int) : ∃ I : Nat, sideI l h = (I : Nat) ∧ I < 3 := by
  unfold sideI
  split
  · exact ⟨0, rfl, by omega⟩
  · split
    · exact ⟨2, rfl, by omega⟩
    · exact ⟨1, rfl, by omega⟩
theorem cmp (c u v : Int) (h : u ≤ v) : (0 ≤ c → c * u ≤ c * v) ∧ (c ≤ 0 → c * v ≤ c * u) :=
  ⟨fun hc => Int.mul_le_mul_of_nonneg_left h hc, fun hc => Int.mul_le_mul_of_nonpos_left hc h⟩
theorem end_bd (x y : Int) (hx : -2147483648 ≤ x) (hx' : x ≤ 2147483648) (hy : -2147483648 ≤ y) (hy' : y ≤ 2147483648) : -9223372036854775808 ≤ dn (x * y) 65536 ∧ dn (x * y) 65536 ≤ 9223372036854775807 ∧ -9223372036854775808 ≤ up (x * y) 65536 ∧ up (x * y) 65536 ≤ 9223372036854775807 := by
  have h := Fx.mul_bound hx hx' hy hy'
  generalize x * y = z at h
  unfold dn up
  split <;> omega
theorem dn_min (u v : Int) : min (dn u 65536) (dn v 65536) = dn (min u v) 65536 := by
  rcases Int.le_total u v with h | h
  · have := dn_mono' (u := 65536) (by decide) h
    rw [show min u v = u by omega]; omega
  · have := dn_mono' (u := 65536) (by decide) h
    rw [show min u v = v by omega]; omega
theorem up_max (u v : Int) : max (up u 65536) (up v 65536) = up (max u v) 65536 := by
  rcases Int.le_total u v with h | h
  · have := up_mono' (u := 65536) (by decide) h
    rw [show max u v = v by omega]; omega
  · have := up_mono' (u := 65536) (by decide) h
    rw [show max u v = u by omega]; omega
theorem prod_pick {al ah bl bh : Int} (ha : al ≤ ah) (hb : bl ≤ bh) {I K : Nat} (hI : sideI al ah = (I : Nat)) (hK : sideI bl bh = (K : Nat)) (hn : ¬ (I = 1 ∧ K = 1)) (w : World) (hE : Ends w) :
    ∃ F1 F2 x1 y1 x2 y2, w.cell? ⟨0, I * 6 + K * 2, none⟩ = some (.func (.func F1) #[] #[]) ∧ w.cell? ⟨0, I * 6 + K * 2 + 1, none⟩ = some (.func (.func F2) #[] #[]) ∧ Pick F1 al ah bl bh x1 y1 ∧ Pick F2 al ah bl bh x2 y2 ∧
      (x1 = al ∨ x1 = ah) ∧ (y1 = bl ∨ y1 = bh) ∧ (x2 = al ∨ x2 = ah) ∧ (y2 = bl ∨ y2 = bh) ∧ x1 * y1 = mn4 (al * bl) (al * bh) (ah * bl) (ah * bh) ∧ x2 * y2 = mx4 (al * bl) (al * bh) (ah * bl) (ah * bh) := by
  have p1 := cmp al bl bh hb
  have p2 := cmp ah bl bh hb
  have p3 := cmp bl al ah ha
  have p4 := cmp bh al ah ha
  rw [Int.mul_comm bl al, Int.mul_comm bl ah] at p3
  rw [Int.mul_comm bh al, Int.mul_comm bh ah] at p4
  unfold sideI at hI hK
  have mem : ∀ j F, (j, F) ∈ prodL → w.cell? ⟨0, j, none⟩ = some (.func (.func F) #[] #[]) := hE.pr
  split at hI
  · obtain rfl : I = 0 := by omega
    split at hK
    · obtain rfl : K = 0 := by omega
      exact ⟨_, _, _, _, _, _, mem 0 _ (by decide), mem 1 _ (by decide), pick_hh al ah bl bh, pick_ll al ah bl bh, Or.inr rfl, Or.inr rfl, Or.inl rfl, Or.inl rfl, by unfold mn4; omega, by unfold mx4; omega⟩
    · split at hK
      · obtain rfl : K = 2 := by omega
        exact ⟨_, _, _, _, _, _, mem 4 _ (by decide), mem 5 _ (by decide), pick_lh al ah bl bh, pick_hl al ah bl bh, Or.inl rfl, Or.inr rfl, Or.inr rfl, Or.inl rfl, by unfold mn4; omega, by unfold mx4; omega⟩
      · obtain rfl : K = 1 := by omega
        exact ⟨_, _, _, _, _, _, mem 2 _ (by decide), mem 3 _ (by decide), pick_lh al ah bl bh, pick_ll al ah bl bh, Or.inl rfl, Or.inr rfl, Or.inl rfl, Or.inl rfl, by unfold mn4; omega, by unfold mx4; omega⟩
  · split at hI
    · obtain rfl : I = 2 := by omega
      split at hK
      · obtain rfl : K = 0 := by omega
        exact ⟨_, _, _, _, _, _, mem 12 _ (by decide), mem 13 _ (by decide), pick_hl al ah bl bh, pick_lh al ah bl bh, Or.inr rfl, Or.inl rfl, Or.inl rfl, Or.inr rfl, by unfold mn4; omega, by unfold mx4; omega⟩
      · split at hK
        · obtain rfl : K = 2 := by omega
          exact ⟨_, _, _, _, _, _, mem 16 _ (by decide), mem 17 _ (by decide), pick_ll al ah bl bh, pick_hh al ah bl bh, Or.inl rfl, Or.inl rfl, Or.inr rfl, Or.inr rfl, by unfold mn4; omega, by unfold mx4; omega⟩
        · obtain rfl : K = 1 := by omega
          exact ⟨_, _, _, _, _, _, mem 14 _ (by decide), mem 15 _ (by decide), pick_hl al ah bl bh, pick_hh al ah bl bh, Or.inr rfl, Or.inl rfl, Or.inr rfl, Or.inr rfl, by unfold mn4; omega, by unfold mx4; omega⟩
    · obtain rfl : I = 1 := by omega
      split at hK
      · obtain rfl : K = 0 := by omega
        exact ⟨_, _, _, _, _, _, mem 6 _ (by decide), mem 7 _ (by decide), pick_hl al ah bl bh, pick_ll al ah bl bh, Or.inr rfl, Or.inl rfl, Or.inl rfl, Or.inl rfl, by unfold mn4; omega, by unfold mx4; omega⟩
      · split at hK
        · obtain rfl : K = 2 := by omega
          exact ⟨_, _, _, _, _, _, mem 10 _ (by decide), mem 11 _ (by decide), pick_lh al ah bl bh, pick_hh al ah bl bh, Or.inl rfl, Or.inr rfl, Or.inr rfl, Or.inr rfl, by unfold mn4; omega, by unfold mx4; omega⟩
        · obtain rfl : K = 1 := by omega
          exact absurd ⟨rfl, rfl⟩ hn
theorem prod_mixed {al ah bl bh : Int} (ha : al ≤ ah) (hb : bl ≤ bh) (hI : sideI al ah = 1) (hK : sideI bl bh = 1) : min (al * bh) (ah * bl) = mn4 (al * bl) (al * bh) (ah * bl) (ah * bh) ∧ max (al * bl) (ah * bh) = mx4 (al * bl) (al * bh) (ah * bl) (ah * bh) := by
  have p1 := cmp al bl bh hb
  have p2 := cmp ah bl bh hb
  have p3 := cmp bl al ah ha
  have p4 := cmp bh al ah ha
  rw [Int.mul_comm bl al, Int.mul_comm bl ah] at p3
  rw [Int.mul_comm bh al, Int.mul_comm bh ah] at p4
  unfold sideI at hI hK
  split at hI
  · omega
  · split at hI
    · omega
    · split at hK
      · omega
      · split at hK
        · omega
        · unfold mn4 mx4; omega
set_option maxRecDepth 100000 in
set_option maxHeartbeats 8000000 in
theorem mul_any (a b : Iv) (ha : okI a) (hb : okI b) (w : World) (hE : Ends w) : Calls Tryz.prog 115 #[ivV a, ivV b] w fun e w' => e = .returned (ivV (mulI a b)) ∧ Below w.heap.size w w' := by
  obtain ⟨al, ah⟩ := a
  obtain ⟨bl, bh⟩ := b
  have HA : Aside (mulI (al, ah) (bl, bh) = if isEnt al ah || isEnt bl bh then ent else newI (dn (mn4 (al * bl) (al * bh) (ah * bl) (ah * bh)) 65536) (up (mx4 (al * bl) (al * bh) (ah * bl) (ah * bh)) 65536)) := ⟨rfl⟩
  have b1 := ha.bd
  have b2 := hb.bd
  simp only [maxV] at b1 b2
  have HM := Aside.mk (Two.new w al ah bl bh)
  have HE := Aside.mk (hE.below ((((Below.refl w.heap.size w).alloc (Nat.le_refl _) (.cells #[.int .i64 al, .int .i64 ah] 29)).alloc (by simp) (.cells #[.int .i64 bl, .int .i64 bh] 29)).alloc (by simp; omega) (.cells #[.int .i64 0, .int .i64 0] 29)))
  clear hE
  unfold ivV
  simp only
  go_enter Tryz.func115, Tryz.ntmps115
  go_wp2_with fail
  obtain ⟨g, hg⟩ : ∃ g, w.heap.size = g := ⟨_, rfl⟩
  rw [hg] at HM
  simp only [hg]
  generalize (((w.alloc (.cells #[.int .i64 al, .int .i64 ah] 29)).alloc (.cells #[.int .i64 bl, .int .i64 bh] 29)).alloc (.cells #[.int .i64 0, .int .i64 0] 29)) = W at HM HE ⊢
  refine (isEntire_any al ah W).mono ?_
  rintro e w1 ⟨rfl, hb1⟩
  replace HM := Aside.mk (HM.out.below hb1)
  replace HE := Aside.mk (HE.out.below hb1)
  obtain ⟨c0, c1, d0, d1⟩ := HM.out.cells
  obtain ⟨e1, he1⟩ : ∃ b, isEnt al ah = b := ⟨_, rfl⟩
  rw [he1] at HA ⊢
  clear he1 hb1
  cases e1 with
  | true =>
    go_wp2_with fail
    refine (entire_any w1).mono ?_
    rintro e w2 ⟨rfl, hb2⟩
    replace HM := Aside.mk (HM.out.below hb2)
    clear hb2 c0 c1 d0 d1
    go_wp2_with (first | (refine wpList_store_iv rfl (.tmp 4) (.tmp 26) rfl (g + 1 + 1) _ _ rfl rfl _ _ HM.out.rc ?_; intro w3 hr3 hb3 hk3 hs3))
    rw [HA.out]
    exact ret_iv rfl rfl hr3 ⟨rfl, hg ▸ HM.out.put hb3⟩
  | false =>
    go_wp2_with fail
    refine (isEntire_any bl bh w1).mono ?_
    rintro e w2 ⟨rfl, hb2⟩
    replace HM := Aside.mk (HM.out.below hb2)
    replace HE := Aside.mk (HE.out.below hb2)
    clear hb2 c0 c1 d0 d1
    obtain ⟨c0, c1, d0, d1⟩ := HM.out.cells
    obtain ⟨e2, he2⟩ : ∃ b, isEnt bl bh = b := ⟨_, rfl⟩
    rw [he2] at HA ⊢
    clear he2
    cases e2 with
    | true =>
      go_wp2_with fail
      refine (entire_any w2).mono ?_
      rintro e w3 ⟨rfl, hb3⟩
      replace HM := Aside.mk (HM.out.below hb3)
      clear hb3 c0 c1 d0 d1
      go_wp2_with (first | (refine wpList_store_iv rfl (.tmp 4) (.tmp 26) rfl (g + 1 + 1) _ _ rfl rfl _ _ HM.out.rc ?_; intro w4 hr4 hb4 hk4 hs4))
      rw [HA.out]
      exact ret_iv rfl rfl hr4 ⟨rfl, hg ▸ HM.out.put hb4⟩
    | false =>
      have HA2 : Aside (mulI (al, ah) (bl, bh) = newI (dn (mn4 (al * bl) (al * bh) (ah * bl) (ah * bh)) 65536) (up (mx4 (al * bl) (al * bh) (ah * bl) (ah * bh)) 65536)) := HA
      clear HA
      have hla := heap_lt HM.out.ra
      have hlb := heap_lt HM.out.rb
      obtain ⟨I, hI, hI3⟩ := side_lt al ah
      obtain ⟨K, hK, hK3⟩ := side_lt bl bh
      go_wp2_with fail
      refine region_list (T := tab2 [
          Sq.val (.agg #[.int .i64 al, .int .i64 ah]), Sq.val (.int .i64 (I : Nat)), Sq.val (.agg #[.int .i64 bl, .int .i64 bh]), Sq.val (.int .i64 (K : Nat)), Sq.val (.int .i64 (I : Nat))]) 5
        [_, _, _, _, _, _] (by kernel_rfl) (by kernel_rfl) (by kernel_rfl) (by kernel_rfl) (by kernel_rfl) (by kernel_rfl) rfl ?_ ?_
      · refine AllIn.cons ?_ ?_
        · intro a w hz hb ho hg
          have e2 : a.tmps.getD 2 undef = .pointer (some ⟨g, 0, none⟩) := ho 2 (by kernel_rfl)
          have f2 := Rg.gd e2
          have q := (hb.cell (p := ⟨g, 0, none⟩) hla).trans c0
          have q' := (hb.cell (p := ⟨g, 1, none⟩) hla).trans c1
          exact wv hb rfl (by simp [execOp, Act.eval, e2, f2, q, q', go_sem]) rfl
        refine AllIn.cons ?_ ?_
        · intro a w hz hb ho hg
          have e27 : a.tmps.getD 27 undef = .agg #[.int .i64 al, .int .i64 ah] := got_of hg (j := 0) rfl rfl rfl
          have f27 := Rg.gd e27
          exact Or.inl ⟨wanted_none rfl, wp_calls hb.size (run_call (args := #[.agg #[.int .i64 al, .int .i64 ah]]) enters_side (by simp [Act.eval, f27])) ((side_any al ah w).mono (by rintro e w' ⟨rfl, hb2⟩; exact ⟨_, rfl, hb2, by rw [hI]; rfl⟩))⟩
        refine AllIn.cons ?_ ?_
        · intro a w hz hb ho hg
          have e3 : a.tmps.getD 3 undef = .pointer (some ⟨g + 1, 0, none⟩) := ho 3 (by kernel_rfl)
          have f3 := Rg.gd e3
          have q := (hb.cell (p := ⟨g + 1, 0, none⟩) hlb).trans d0
          have q' := (hb.cell (p := ⟨g + 1, 1, none⟩) hlb).trans d1
          exact wv hb rfl (by simp [execOp, Act.eval, e3, f3, q, q', go_sem]) rfl
        refine AllIn.cons ?_ ?_
        · intro a w hz hb ho hg
          have e29 : a.tmps.getD 29 undef = .agg #[.int .i64 bl, .int .i64 bh] := got_of hg (j := 2) rfl rfl rfl
          have f29 := Rg.gd e29
          exact Or.inl ⟨wanted_none rfl, wp_calls hb.size (run_call (args := #[.agg #[.int .i64 bl, .int .i64 bh]]) enters_side (by simp [Act.eval, f29])) ((side_any bl bh w).mono (by rintro e w' ⟨rfl, hb2⟩; exact ⟨_, rfl, hb2, by rw [hK]; rfl⟩))⟩
        refine AllIn.cons ?_ ?_
        · intro a w hz hb ho hg
          have e28 : a.tmps.getD 28 undef = .int .i64 (I : Nat) := got_of hg (j := 1) rfl rfl rfl
          have f28 := Rg.gd e28
          exact wv hb rfl (by simp [execOp, Act.eval, e28, f28, go_sem]) rfl
        exact AllIn.nil
      intro a W2 hd hz hb ho hg
      have e27 : a.tmps.getD 27 undef = .agg #[.int .i64 al, .int .i64 ah] := hg 0 (by decide) _ _ rfl rfl
      have e28 : a.tmps.getD 28 undef = .int .i64 (I : Nat) := hg 1 (by decide) _ _ rfl rfl
      have e29 : a.tmps.getD 29 undef = .agg #[.int .i64 bl, .int .i64 bh] := hg 2 (by decide) _ _ rfl rfl
      have e30 : a.tmps.getD 30 undef = .int .i64 (K : Nat) := hg 3 (by decide) _ _ rfl rfl
      have e5 : a.tmps.getD 5 undef = .int .i64 (I : Nat) := hg 4 (by decide) _ _ rfl rfl
      have hA := ho.frame hz
      simp only [List.take_succ_cons, List.take_zero, List.filterMap_cons, List.filterMap_nil, List.foldl_cons, List.foldl_nil, e27, e28, e29, e30, e5, List.setIfInBounds_toArray, List.set_cons_zero, List.set_cons_succ] at hA
      obtain ⟨tm, df⟩ := a
      simp only at hd hA
      subst hd
      subst hA
      simp only [List.drop_succ_cons, List.drop_zero]
      have HH2 := Aside.mk hb
      clear hz ho hg hb e27 e28 e29 e30 e5
      have HMW := Aside.mk (HM.out.below HH2.out)
      have HEW := Aside.mk (HE.out.below HH2.out)
      clear c0 c1 d0 d1 hla hlb HM HE HH2
      obtain ⟨c0, c1, d0, d1⟩ := HMW.out.cells
      by_cases h11 : I = 1 ∧ K = 1
      · obtain ⟨rfl, rfl⟩ := h11
        have HPM := Aside.mk (prod_mixed b1.2.1 b2.2.1 hI hK)
        have M1 := fun w => Fx.Mul_any al bh w (by omega) (by omega) (by omega) (by omega)
        have M2 := fun w => Fx.Mul_any ah bl w (by omega) (by omega) (by omega) (by omega)
        have M3 := fun w => Fx.Mul_any al bl w (by omega) (by omega) (by omega) (by omega)
        have M4 := fun w => Fx.Mul_any ah bh w (by omega) (by omega) (by omega) (by omega)
        have B1 := Aside.mk b1
        have B2 := Aside.mk b2
        clear b1 b2 ha hb hI hK hI3 hK3
        go_wp2_with fail
        refine (M1 _).mono ?_
        rintro e w3 ⟨rfl, hd3⟩
        replace HMW := Aside.mk (HMW.out.below hd3.below)
        clear hd3 c0 c1 d0 d1
        obtain ⟨c0, c1, d0, d1⟩ := HMW.out.cells
        go_wp2_with fail
        refine (M2 _).mono ?_
        rintro e w4 ⟨rfl, hd4⟩
        replace HMW := Aside.mk (HMW.out.below hd4.below)
        clear hd4 c0 c1 d0 d1
        obtain ⟨c0, c1, d0, d1⟩ := HMW.out.cells
        go_wp2_with fail
        refine (M3 _).mono ?_
        rintro e w5 ⟨rfl, hd5⟩
        replace HMW := Aside.mk (HMW.out.below hd5.below)
        clear hd5 c0 c1 d0 d1
        obtain ⟨c0, c1, d0, d1⟩ := HMW.out.cells
        go_wp2_with fail
        refine (M4 _).mono ?_
        rintro e w6 ⟨rfl, hd6⟩
        replace HMW := Aside.mk (HMW.out.below hd6.below)
        clear hd6 c0 c1 d0 d1 M1 M2 M3 M4
        have HB4 : Aside (-9223372036854775808 ≤ min (dn (al * bh) 65536) (dn (ah * bl) 65536) ∧ min (dn (al * bh) 65536) (dn (ah * bl) 65536) ≤ 9223372036854775807 ∧ -9223372036854775808 ≤ max (up (al * bl) 65536) (up (ah * bh) 65536) ∧ max (up (al * bl) 65536) (up (ah * bh) 65536) ≤ 9223372036854775807) := ⟨by
          have b1 := B1.out
          have b2 := B2.out
          have q1 := end_bd al bh (by omega) (by omega) (by omega) (by omega)
          have q2 := end_bd ah bl (by omega) (by omega) (by omega) (by omega)
          have q3 := end_bd al bl (by omega) (by omega) (by omega) (by omega)
          have q4 := end_bd ah bh (by omega) (by omega) (by omega) (by omega)
          omega⟩
        have HP1 := HPM.out.1
        have HP2 := HPM.out.2
        go_wp2_with fail
        refine (new_any _ _ w6 HB4.out.1 HB4.out.2.1 HB4.out.2.2.1 HB4.out.2.2.2).mono ?_
        rintro e w7 ⟨rfl, hb7⟩
        replace HMW := Aside.mk (HMW.out.below hb7)
        clear hb7
        rw [dn_min, up_max, HP1, HP2, ← HA2.out]
        unfold ivV
        go_wp2_with (first | (refine wpList_store_iv rfl (.tmp 4) (.tmp 75) rfl (g + 1 + 1) _ _ rfl rfl _ _ HMW.out.rc ?_; intro w8 hr8 hb8 hk8 hs8))
        exact ret_iv rfl rfl hr8 ⟨rfl, hg ▸ HMW.out.put hb8⟩
      · obtain ⟨F1, F2, x1, y1, x2, y2, q0, q1, P1, P2, hx1, hy1, hx2, hy2, hmn, hmx⟩ := prod_pick b1.2.1 b2.2.1 hI hK h11 W2 HEW.out
        have M1 := fun w => Fx.Mul_any x1 y1 w (by omega) (by omega) (by omega) (by omega)
        have M2 := fun w => Fx.Mul_any x2 y2 w (by omega) (by omega) (by omega) (by omega)
        have HND : Aside (-9223372036854775808 ≤ dn (x1 * y1) 65536 ∧ dn (x1 * y1) 65536 ≤ 9223372036854775807 ∧ -9223372036854775808 ≤ up (x2 * y2) 65536 ∧ up (x2 * y2) 65536 ≤ 9223372036854775807) := ⟨by
          have q1 := end_bd x1 y1 (by omega) (by omega) (by omega) (by omega)
          have q2 := end_bd x2 y2 (by omega) (by omega) (by omega) (by omega)
          omega⟩
        rw [← hmn, ← hmx] at HA2
        have PE1 := P1.enters
        have PE2 := P2.enters
        have PC1 := Aside.mk P1.calls
        have PC2 := Aside.mk P2.calls
        have hi3 : (I : Int) < 3 := by omega
        have hk3 : (K : Int) < 3 := by omega
        clear P1 P2 hx1 hy1 hx2 hy2 hmn hmx b1 b2 ha hb hI hK
        have hfin : ∀ b : Bool, ((I : Int) == 1) = b → ((b && ((K : Int) == 1)) = false) := fun b hb => by
          subst hb
          cases hbi : ((I : Int) == 1) with
          | false => rfl
          | true =>
            cases hbk : ((K : Int) == 1) with
            | false => rfl
            | true =>
              rw [beq_iff_eq] at hbi hbk
              exact absurd ⟨by omega, by omega⟩ h11
        obtain ⟨bI, hbI⟩ : ∃ b, ((I : Int) == 1) = b := ⟨_, rfl⟩
        obtain ⟨bK, hbK⟩ : ∃ b, ((K : Int) == 1) = b := ⟨_, rfl⟩
        have hfn := hfin bI hbI
        rw [hbK] at hfn
        clear hfin h11
        cases bI with
        | true =>
          rw [Bool.true_and] at hfn
          rw [hfn] at hbK
          clear hfn
          go_wp2_with (first | (refine wpList_store_pair rfl (.tmp 15) (.tmp 80) rfl W2.heap.size F1 F2 rfl rfl _ _ (heap_alloc_last W2 _) ?_; intro W3 k0 k1 hb3 hs3; have hw3 : Below W2.heap.size W2 W3 := ((Below.refl _ _).alloc (Nat.le_refl _) _).trans hb3; replace HMW := Aside.mk (HMW.out.below hw3); clear hw3 hb3 hs3 c0 c1 d0 d1; obtain ⟨c0, c1, d0, d1⟩ := HMW.out.cells))
          refine (PC1.out _).mono ?_
          rintro e w4 ⟨rfl, hb4⟩
          have k1' := (hb4.cell (p := ⟨W2.heap.size, 1, none⟩) (World.block_lt_of_cell? W3 _ k1)).trans k1
          replace HMW := Aside.mk (HMW.out.below hb4)
          clear hb4 c0 c1 d0 d1 k0 k1
          go_wp2_with fail
          refine (M1 _).mono ?_
          rintro e w5 ⟨rfl, hd5⟩
          have k1 := (hd5.below.cell (p := ⟨W2.heap.size, 1, none⟩) (World.block_lt_of_cell? w4 _ k1')).trans k1'
          replace HMW := Aside.mk (HMW.out.below hd5.below)
          clear hd5 k1' M1
          obtain ⟨c0, c1, d0, d1⟩ := HMW.out.cells
          go_wp2_with fail
          refine (PC2.out _).mono ?_
          rintro e w6 ⟨rfl, hb6⟩
          replace HMW := Aside.mk (HMW.out.below hb6)
          clear hb6 c0 c1 d0 d1 k1
          go_wp2_with fail
          refine (M2 _).mono ?_
          rintro e w7 ⟨rfl, hd7⟩
          replace HMW := Aside.mk (HMW.out.below hd7.below)
          clear hd7 M2
          go_wp2_with fail
          refine (new_any _ _ w7 HND.out.1 HND.out.2.1 HND.out.2.2.1 HND.out.2.2.2).mono ?_
          rintro e w8 ⟨rfl, hb8⟩
          replace HMW := Aside.mk (HMW.out.below hb8)
          clear hb8
          rw [← HA2.out]
          unfold ivV
          go_wp2_with (first | (refine wpList_store_iv rfl (.tmp 4) (.tmp 105) rfl (g + 1 + 1) _ _ rfl rfl _ _ HMW.out.rc ?_; intro w9 hr9 hb9 hk9 hs9))
          exact ret_iv rfl rfl hr9 ⟨rfl, hg ▸ HMW.out.put hb9⟩
        | false =>
          clear hbK hfn
          go_wp2_with (first | (refine wpList_store_pair rfl (.tmp 15) (.tmp 80) rfl W2.heap.size F1 F2 rfl rfl _ _ (heap_alloc_last W2 _) ?_; intro W3 k0 k1 hb3 hs3; have hw3 : Below W2.heap.size W2 W3 := ((Below.refl _ _).alloc (Nat.le_refl _) _).trans hb3; replace HMW := Aside.mk (HMW.out.below hw3); clear hw3 hb3 hs3 c0 c1 d0 d1; obtain ⟨c0, c1, d0, d1⟩ := HMW.out.cells))
          refine (PC1.out _).mono ?_
          rintro e w4 ⟨rfl, hb4⟩
          have k1' := (hb4.cell (p := ⟨W2.heap.size, 1, none⟩) (World.block_lt_of_cell? W3 _ k1)).trans k1
          replace HMW := Aside.mk (HMW.out.below hb4)
          clear hb4 c0 c1 d0 d1 k0 k1
          go_wp2_with fail
          refine (M1 _).mono ?_
          rintro e w5 ⟨rfl, hd5⟩
          have k1 := (hd5.below.cell (p := ⟨W2.heap.size, 1, none⟩) (World.block_lt_of_cell? w4 _ k1')).trans k1'
          replace HMW := Aside.mk (HMW.out.below hd5.below)
          clear hd5 k1' M1
          obtain ⟨c0, c1, d0, d1⟩ := HMW.out.cells
          go_wp2_with fail
          refine (PC2.out _).mono ?_
          rintro e w6 ⟨rfl, hb6⟩
          replace HMW := Aside.mk (HMW.out.below hb6)
          clear hb6 c0 c1 d0 d1 k1
          go_wp2_with fail
          refine (M2 _).mono ?_
          rintro e w7 ⟨rfl, hd7⟩
          replace HMW := Aside.mk (HMW.out.below hd7.below)
          clear hd7 M2
          go_wp2_with fail
          refine (new_any _ _ w7 HND.out.1 HND.out.2.1 HND.out.2.2.1 HND.out.2.2.2).mono ?_
          rintro e w8 ⟨rfl, hb8⟩
          replace HMW := Aside.mk (HMW.out.below hb8)
          clear hb8
          rw [← HA2.out]
          unfold ivV
          go_wp2_with (first | (refine wpList_store_iv rfl (.tmp 4) (.tmp 105) rfl (g + 1 + 1) _ _ rfl rfl _ _ HMW.out.rc ?_; intro w9 hr9 hb9 hk9 hs9))
          exact ret_iv rfl rfl hr9 ⟨rfl, hg ▸ HMW.out.put hb9⟩
end Go.Proofs.YthcidkidpiaomaaGreatDoor.Od
end
