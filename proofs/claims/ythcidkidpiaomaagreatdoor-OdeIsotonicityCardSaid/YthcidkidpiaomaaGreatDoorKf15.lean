/- OcC OcD OcE -/
import Derived.Deep.QuietTactic
import Derived.BigQuiet
import Derived.Test.YthcidkidpiaomaaGreatDoorKf14
import Derived.Test.YthcidkidpiaomaaGreatDoorKf06
section
set_option linter.unusedVariables false
set_option linter.unusedSimpArgs false
namespace Go.Proofs.YthcidkidpiaomaaGreatDoor.Od
open Go.RowKit Rg
open Fx (dn up dlo dhi isq rup)
theorem info_pair : (Tryz.prog.info? 166).map (·.size) = some 2 := by kernel_rfl
theorem wpList_store_pair {ops : Array Oper} {rest : List Oper} {o : Oper} {a : Act} {w : World} {Q : Exit → Act → World → Prop} (hgd : o.guard = none) (x y : Operand) (ho : o.op = .store 166 x y)
    (g : Nat) (F1 F2 : Nat) (hx : a.eval x = .pointer (some ⟨g, 0, none⟩)) (hy : a.eval y = .agg #[.func (.func F1) #[] #[], .func (.func F2) #[] #[]]) (u v : Value) (hg : w.heap[g]? = some (.cells #[u, v] 166 (0, 0)))
    (hK : ∀ w', w'.cell? ⟨g, 0, none⟩ = some (.func (.func F1) #[] #[]) → w'.cell? ⟨g, 1, none⟩ = some (.func (.func F2) #[] #[]) → Below g w w' → w'.heap.size = w.heap.size → wpList Tryz.prog ops Q rest (a.put o.dst undef) w') : wpList Tryz.prog ops Q (o :: rest) a w := by
  have hs : (w.setRow g #[.func (.func F1) #[] #[], .func (.func F2) #[] #[]]).heap.size = w.heap.size := by unfold World.setRow; simp
  have hr := setRow_heap w g _ #[.func (.func F1) #[] #[], .func (.func F2) #[] #[]] _ _ hg
  exact wpList_store_row hgd 166 x y ho g #[.func (.func F1) #[] #[], .func (.func F2) #[] #[]] hx hy 166 _ hg info_pair rfl (by simp [Value.oneCell'])
    (hK _ (by rw [cell_of_row _ _ 0 _ _ _ hr]; rfl) (by rw [cell_of_row _ _ 1 _ _ _ hr]; rfl) ⟨rfl, rfl, rfl, by rw [hs]; exact Nat.le_refl _, fun k hk => setRow_other _ _ _ _ (by omega)⟩ hs)
structure Pick (F : Nat) (al ah bl bh x y : Int) : Prop where
  enters : ∀ args w, (callFunc F args).run Tryz.prog w = .ok (.enter F args) w
  calls : ∀ w, Calls Tryz.prog F #[.agg #[.int .i64 al, .int .i64 ah], .agg #[.int .i64 bl, .int .i64 bh]] w fun e w' => e = .returned (.tuple #[.int .i64 x, .int .i64 y]) ∧ Below w.heap.size w w'
section
variable (al ah bl bh : Int)
set_option maxRecDepth 100000 in
theorem pick_ll : Pick 247 al ah bl bh al bl := ⟨fun args w => by kernel_rfl, fun w => by
  have hal : Below w.heap.size w ((w.alloc (.cells #[.int .i64 al, .int .i64 ah] 29)).alloc (.cells #[.int .i64 bl, .int .i64 bh] 29)) := ((Below.refl _ _).alloc (Nat.le_refl _) _).alloc (by simp) _
  have HB := Aside.mk hal
  clear hal
  go_enter Tryz.func247, Tryz.ntmps247
  go_wp2_with fail
  go_quiet (fail)
  go_wp2_with fail
  go_ret2
  exact ⟨rfl, HB.out.trans ⟨rfl, rfl, rfl, Nat.le_refl _, fun _ _ => rfl⟩⟩⟩
set_option maxRecDepth 100000 in
theorem pick_lh : Pick 248 al ah bl bh al bh := ⟨fun args w => by kernel_rfl, fun w => by
  have hal : Below w.heap.size w ((w.alloc (.cells #[.int .i64 al, .int .i64 ah] 29)).alloc (.cells #[.int .i64 bl, .int .i64 bh] 29)) := ((Below.refl _ _).alloc (Nat.le_refl _) _).alloc (by simp) _
  have HB := Aside.mk hal
  clear hal
  go_enter Tryz.func248, Tryz.ntmps248
  go_wp2_with fail
  go_quiet (fail)
  go_wp2_with fail
  go_ret2
  exact ⟨rfl, HB.out.trans ⟨rfl, rfl, rfl, Nat.le_refl _, fun _ _ => rfl⟩⟩⟩
set_option maxRecDepth 100000 in
theorem pick_hl : Pick 249 al ah bl bh ah bl := ⟨fun args w => by kernel_rfl, fun w => by
  have hal : Below w.heap.size w ((w.alloc (.cells #[.int .i64 al, .int .i64 ah] 29)).alloc (.cells #[.int .i64 bl, .int .i64 bh] 29)) := ((Below.refl _ _).alloc (Nat.le_refl _) _).alloc (by simp) _
  have HB := Aside.mk hal
  clear hal
  go_enter Tryz.func249, Tryz.ntmps249
  go_wp2_with fail
  go_quiet (fail)
  go_wp2_with fail
  go_ret2
  exact ⟨rfl, HB.out.trans ⟨rfl, rfl, rfl, Nat.le_refl _, fun _ _ => rfl⟩⟩⟩
set_option maxRecDepth 100000 in
theorem pick_hh : Pick 246 al ah bl bh ah bh := ⟨fun args w => by kernel_rfl, fun w => by
  have hal : Below w.heap.size w ((w.alloc (.cells #[.int .i64 al, .int .i64 ah] 29)).alloc (.cells #[.int .i64 bl, .int .i64 bh] 29)) := ((Below.refl _ _).alloc (Nat.le_refl _) _).alloc (by simp) _
  have HB := Aside.mk hal
  clear hal
  go_enter Tryz.func246, Tryz.ntmps246
  go_wp2_with fail
  go_quiet (fail)
  go_wp2_with fail
  go_ret2
  exact ⟨rfl, HB.out.trans ⟨rfl, rfl, rfl, Nat.le_refl _, fun _ _ => rfl⟩⟩⟩
end
def prodL : List (Nat × Nat) := [(0, 246), (1, 247), (2, 248), (3, 247), (4, 248), (5, 249), (6, 249), (7, 247), (10, 248), (11, 246), (12, 249), (13, 248), (14, 249), (15, 246), (16, 247), (17, 246)]
def quotL : List (Nat × Nat) := [(0, 249), (1, 248), (2, 247), (3, 246), (4, 246), (5, 248), (6, 247), (7, 249), (8, 246), (9, 247), (10, 248), (11, 249)]
structure Ends (w : World) : Prop where
  pr : ∀ j F, (j, F) ∈ prodL → w.cell? ⟨0, j, none⟩ = some (.func (.func F) #[] #[])
  qu : ∀ j F, (j, F) ∈ quotL → w.cell? ⟨1, j, none⟩ = some (.func (.func F) #[] #[])
theorem Ends.below {w w' : World} (h : Ends w) (hb : Below w.heap.size w w') : Ends w' :=
  ⟨fun j F hj => by rw [hb.cell (World.block_lt_of_cell? w _ (h.pr j F hj))]; exact h.pr j F hj, fun j F hj => by rw [hb.cell (World.block_lt_of_cell? w _ (h.qu j F hj))]; exact h.qu j F hj⟩
theorem side_lt (l h : Int) : ∃ I : Nat, sideI l h = (I : Nat) ∧ I < 3 := by
  unfold sideI
  split
  · exact ⟨0, rfl, by omega⟩
  · split
    · exact ⟨2, rfl, by omega⟩
    · exact ⟨1, rfl, by omega⟩
theorem cmp (c u v : Int) (h : u ≤ v) : (0 ≤ c → c * u ≤ c * v) ∧ (c ≤ 0 → c * v ≤ c * u) :=
  ⟨fun hc => Int.mul_le_mul_of_nonneg_left h hc, fun hc => Int.mul_le_mul_of_nonpos_left hc h⟩
theorem end_bd (x y : Int) (hx : -2147483648 ≤ x) (hx' : x ≤ 2147483648) (hy : -2147483648 ≤ y) (hy' : y ≤ 2147483648) : -9223372036854775808 ≤ dn (x * y) 65536 ∧ dn (x * y) 65536 ≤ 9223372036854775807 ∧ -9223372036854775808 ≤ up (x * y) 65536 ∧ up (x * y) 65536 ≤ 9223372036854775807 := by
  have h := Fx.mul_bound hx hx' hy hy'
  generalize x * y = z at h
  unfold dn up
  split <;> omega
theorem dn_min (u v : Int) : min (dn u 65536) (dn v 65536) = dn (min u v) 65536 := by
  rcases Int.le_total u v with h | h
  · have := dn_mono' (u := 65536) (by decide) h
    rw [show min u v = u by omega]; omega
  · have := dn_mono' (u := 65536) (by decide) h
    rw [show min u v = v by omega]; omega
theorem up_max (u v : Int) : max (up u 65536) (up v 65536) = up (max u v) 65536 := by
  rcases Int.le_total u v with h | h
  · have := up_mono' (u := 65536) (by decide) h
    rw [show max u v = v by omega]; omega
  · have := up_mono' (u := 65536) (by decide) h
    rw [show max u v = u by omega]; omega
theorem prod_pick {al ah bl bh : Int} (ha : al ≤ ah) (hb : bl ≤ bh) {I K : Nat} (hI : sideI al ah = (I : Nat)) (hK : sideI bl bh = (K : Nat)) (hn : ¬ (I = 1 ∧ K = 1)) (w : World) (hE : Ends w) :
    ∃ F1 F2 x1 y1 x2 y2, w.cell? ⟨0, I * 6 + K * 2, none⟩ = some (.func (.func F1) #[] #[]) ∧ w.cell? ⟨0, I * 6 + K * 2 + 1, none⟩ = some (.func (.func F2) #[] #[]) ∧ Pick F1 al ah bl bh x1 y1 ∧ Pick F2 al ah bl bh x2 y2 ∧
      (x1 = al ∨ x1 = ah) ∧ (y1 = bl ∨ y1 = bh) ∧ (x2 = al ∨ x2 = ah) ∧ (y2 = bl ∨ y2 = bh) ∧ x1 * y1 = mn4 (al * bl) (al * bh) (ah * bl) (ah * bh) ∧ x2 * y2 = mx4 (al * bl) (al * bh) (ah * bl) (ah * bh) := by
  have p1 := cmp al bl bh hb
  have p2 := cmp ah bl bh hb
  have p3 := cmp bl al ah ha
  have p4 := cmp bh al ah ha
  rw [Int.mul_comm bl al, Int.mul_comm bl ah] at p3
  rw [Int.mul_comm bh al, Int.mul_comm bh ah] at p4
  unfold sideI at hI hK
  have mem : ∀ j F, (j, F) ∈ prodL → w.cell? ⟨0, j, none⟩ = some (.func (.func F) #[] #[]) := hE.pr
  split at hI
  · obtain rfl : I = 0 := by omega
    split at hK
    · obtain rfl : K = 0 := by omega
      exact ⟨_, _, _, _, _, _, mem 0 _ (by decide), mem 1 _ (by decide), pick_hh al ah bl bh, pick_ll al ah bl bh, Or.inr rfl, Or.inr rfl, Or.inl rfl, Or.inl rfl, by unfold mn4; omega, by unfold mx4; omega⟩
    · split at hK
      · obtain rfl : K = 2 := by omega
        exact ⟨_, _, _, _, _, _, mem 4 _ (by decide), mem 5 _ (by decide), pick_lh al ah bl bh, pick_hl al ah bl bh, Or.inl rfl, Or.inr rfl, Or.inr rfl, Or.inl rfl, by unfold mn4; omega, by unfold mx4; omega⟩
      · obtain rfl : K = 1 := by omega
        exact ⟨_, _, _, _, _, _, mem 2 _ (by decide), mem 3 _ (by decide), pick_lh al ah bl bh, pick_ll al ah bl bh, Or.inl rfl, Or.inr rfl, Or.inl rfl, Or.inl rfl, by unfold mn4; omega, by unfold mx4; omega⟩
  · split at hI
    · obtain rfl : I = 2 := by omega
      split at hK
      · obtain rfl : K = 0 := by omega
        exact ⟨_, _, _, _, _, _, mem 12 _ (by decide), mem 13 _ (by decide), pick_hl al ah bl bh, pick_lh al ah bl bh, Or.inr rfl, Or.inl rfl, Or.inl rfl, Or.inr rfl, by unfold mn4; omega, by unfold mx4; omega⟩
      · split at hK
        · obtain rfl : K = 2 := by omega
          exact ⟨_, _, _, _, _, _, mem 16 _ (by decide), mem 17 _ (by decide), pick_ll al ah bl bh, pick_hh al ah bl bh, Or.inl rfl, Or.inl rfl, Or.inr rfl, Or.inr rfl, by unfold mn4; omega, by unfold mx4; omega⟩
        · obtain rfl : K = 1 := by omega
          exact ⟨_, _, _, _, _, _, mem 14 _ (by decide), mem 15 _ (by decide), pick_hl al ah bl bh, pick_hh al ah bl bh, Or.inr rfl, Or.inl rfl, Or.inr rfl, Or.inr rfl, by unfold mn4; omega, by unfold mx4; omega⟩
    · obtain rfl : I = 1 := by omega
      split at hK
      · obtain rfl : K = 0 := by omega
        exact ⟨_, _, _, _, _, _, mem 6 _ (by decide), mem 7 _ (by decide), pick_hl al ah bl bh, pick_ll al ah bl bh, Or.inr rfl, Or.inl rfl, Or.inl rfl, Or.inl rfl, by unfold mn4; omega, by unfold mx4; omega⟩
      · split at hK
        · obtain rfl : K = 2 := by omega
          exact ⟨_, _, _, _, _, _, mem 10 _ (by decide), mem 11 _ (by decide), pick_lh al ah bl bh, pick_hh al ah bl bh, Or.inl rfl, Or.inr rfl, Or.inr rfl, Or.inr rfl, by unfold mn4; omega, by unfold mx4; omega⟩
        · obtain rfl : K = 1 := by omega
          exact absurd ⟨rfl, rfl⟩ hn
theorem prod_mixed {al ah bl bh : Int} (ha : al ≤ ah) (hb : bl ≤ bh) (hI : sideI al ah = 1) (hK : sideI bl bh = 1) : min (al * bh) (ah * bl) = mn4 (al * bl) (al * bh) (ah * bl) (ah * bh) ∧ max (al * bl) (ah * bh) = mx4 (al * bl) (al * bh) (ah * bl) (ah * bh) := by
  have p1 := cmp al bl bh hb
  have p2 := cmp ah bl bh hb
  have p3 := cmp bl al ah ha
  have p4 := cmp bh al ah ha
  rw [Int.mul_comm bl al, Int.mul_comm bl ah] at p3
  rw [Int.mul_comm bh al, Int.mul_comm bh ah] at p4
  unfold sideI at hI hK
  split at hI
  · omega
  · split at hI
    · omega
    · split at hK
      · omega
      · split at hK
        · omega
        · unfold mn4 mx4; omega
set_option maxRecDepth 100000 in
set_option maxHeartbeats 8000000 in
theorem mul_any (a b : Iv) (ha : okI a) (hb : okI b) (w : World) (hE : Ends w) : Calls Tryz.prog 115 #[ivV a, ivV b] w fun e w' => e = .returned (ivV (mulI a b)) ∧ Below w.heap.size w w' := by
  obtain ⟨al, ah⟩ := a
  obtain ⟨bl, bh⟩ := b
  have HA : Aside (mulI (al, ah) (bl, bh) = if isEnt al ah || isEnt bl bh then ent else newI (dn (mn4 (al * bl) (al * bh) (ah * bl) (ah * bh)) 65536) (up (mx4 (al * bl) (al * bh) (ah * bl) (ah * bh)) 65536)) := ⟨rfl⟩
  have b1 := ha.bd
  have b2 := hb.bd
  simp only [maxV] at b1 b2
  have HM := Aside.mk (Two.new w al ah bl bh)
  have HE := Aside.mk (hE.below ((((Below.refl w.heap.size w).alloc (Nat.le_refl _) (.cells #[.int .i64 al, .int .i64 ah] 29)).alloc (by simp) (.cells #[.int .i64 bl, .int .i64 bh] 29)).alloc (by simp; omega) (.cells #[.int .i64 0, .int .i64 0] 29)))
  clear hE
  unfold ivV
  simp only
  go_enter Tryz.func115, Tryz.ntmps115
  go_wp2_with fail
  obtain ⟨g, hg⟩ : ∃ g, w.heap.size = g := ⟨_, rfl⟩
  rw [hg] at HM
  simp only [hg]
  generalize (((w.alloc (.cells #[.int .i64 al, .int .i64 ah] 29)).alloc (.cells #[.int .i64 bl, .int .i64 bh] 29)).alloc (.cells #[.int .i64 0, .int .i64 0] 29)) = W at HM HE ⊢
  refine (isEntire_any al ah W).mono ?_
  rintro e w1 ⟨rfl, hb1⟩
  replace HM := Aside.mk (HM.out.below hb1)
  replace HE := Aside.mk (HE.out.below hb1)
  obtain ⟨c0, c1, d0, d1⟩ := HM.out.cells
  obtain ⟨e1, he1⟩ : ∃ b, isEnt al ah = b := ⟨_, rfl⟩
  rw [he1] at HA ⊢
  clear he1 hb1
  cases e1 with
  | true =>
    go_wp2_with fail
    refine (entire_any w1).mono ?_
    rintro e w2 ⟨rfl, hb2⟩
    replace HM := Aside.mk (HM.out.below hb2)
    clear hb2 c0 c1 d0 d1
    go_wp2_with (first | (refine wpList_store_iv rfl (.tmp 4) (.tmp 26) rfl (g + 1 + 1) _ _ rfl rfl _ _ HM.out.rc ?_; intro w3 hr3 hb3 hk3 hs3))
    rw [HA.out]
    exact ret_iv rfl rfl hr3 ⟨rfl, hg ▸ HM.out.put hb3⟩
  | false =>
    go_wp2_with fail
    refine (isEntire_any bl bh w1).mono ?_
    rintro e w2 ⟨rfl, hb2⟩
    replace HM := Aside.mk (HM.out.below hb2)
    replace HE := Aside.mk (HE.out.below hb2)
    clear hb2 c0 c1 d0 d1
    obtain ⟨c0, c1, d0, d1⟩ := HM.out.cells
    obtain ⟨e2, he2⟩ : ∃ b, isEnt bl bh = b := ⟨_, rfl⟩
    rw [he2] at HA ⊢
    clear he2
    cases e2 with
    | true =>
      go_wp2_with fail
      refine (entire_any w2).mono ?_
      rintro e w3 ⟨rfl, hb3⟩
      replace HM := Aside.mk (HM.out.below hb3)
      clear hb3 c0 c1 d0 d1
      go_wp2_with (first | (refine wpList_store_iv rfl (.tmp 4) (.tmp 26) rfl (g + 1 + 1) _ _ rfl rfl _ _ HM.out.rc ?_; intro w4 hr4 hb4 hk4 hs4))
      rw [HA.out]
      exact ret_iv rfl rfl hr4 ⟨rfl, hg ▸ HM.out.put hb4⟩
    | false =>
      have HA2 : Aside (mulI (al, ah) (bl, bh) = newI (dn (mn4 (al * bl) (al * bh) (ah * bl) (ah * bh)) 65536) (up (mx4 (al * bl) (al * bh) (ah * bl) (ah * bh)) 65536)) := HA
      clear HA
      have hla := heap_lt HM.out.ra
      have hlb := heap_lt HM.out.rb
      obtain ⟨I, hI, hI3⟩ := side_lt al ah
      obtain ⟨K, hK, hK3⟩ := side_lt bl bh
      go_wp2_with fail
      refine region_v [27, 28, 29, 30, 5] 5 [.agg #[.int .i64 al, .int .i64 ah], .int .i64 (I : Nat), .agg #[.int .i64 bl, .int .i64 bh], .int .i64 (K : Nat), .int .i64 (I : Nat)] rfl rfl ?_ ?_
      · refine AllV.val rfl (fun w hb => by simp [execOp, Act.eval, kp hb c0, kp hb c1, kp hb d0, kp hb d1, go_sem]) ?_
        refine AllV.cons ?_ ?_
        · intro a w hz hb ho hg
          have e27 : a.tmps.getD 27 undef = .agg #[.int .i64 al, .int .i64 ah] := got_of hg (j := 0) rfl rfl rfl
          have f27 := Rg.gd e27
          exact Or.inl ⟨wanted_none rfl, wp_calls hb.size (run_call (args := #[.agg #[.int .i64 al, .int .i64 ah]]) enters_side (by simp [Act.eval, f27])) ((side_any al ah w).mono (by rintro e w' ⟨rfl, hb2⟩; exact ⟨_, rfl, hb2, by rw [hI]; rfl⟩))⟩
        refine AllV.val rfl (fun w hb => by simp [execOp, Act.eval, kp hb c0, kp hb c1, kp hb d0, kp hb d1, go_sem]) ?_
        refine AllV.cons ?_ ?_
        · intro a w hz hb ho hg
          have e29 : a.tmps.getD 29 undef = .agg #[.int .i64 bl, .int .i64 bh] := got_of hg (j := 2) rfl rfl rfl
          have f29 := Rg.gd e29
          exact Or.inl ⟨wanted_none rfl, wp_calls hb.size (run_call (args := #[.agg #[.int .i64 bl, .int .i64 bh]]) enters_side (by simp [Act.eval, f29])) ((side_any bl bh w).mono (by rintro e w' ⟨rfl, hb2⟩; exact ⟨_, rfl, hb2, by rw [hK]; rfl⟩))⟩
        refine AllV.val rfl (fun w hb => by simp [execOp, Act.eval, kp hb c0, kp hb c1, kp hb d0, kp hb d1, go_sem]) ?_
        exact AllV.nil
      intro W2 hb
      simp only [List.drop_succ_cons, List.drop_zero]
      have HH2 := Aside.mk hb
      clear hb
      have HMW := Aside.mk (HM.out.below HH2.out)
      have HEW := Aside.mk (HE.out.below HH2.out)
      clear c0 c1 d0 d1 hla hlb HM HE HH2
      obtain ⟨c0, c1, d0, d1⟩ := HMW.out.cells
      by_cases h11 : I = 1 ∧ K = 1
      · obtain ⟨rfl, rfl⟩ := h11
        have HPM := Aside.mk (prod_mixed b1.2.1 b2.2.1 hI hK)
        have M1 := fun w => Fx.Mul_any al bh w (by omega) (by omega) (by omega) (by omega)
        have M2 := fun w => Fx.Mul_any ah bl w (by omega) (by omega) (by omega) (by omega)
        have M3 := fun w => Fx.Mul_any al bl w (by omega) (by omega) (by omega) (by omega)
        have M4 := fun w => Fx.Mul_any ah bh w (by omega) (by omega) (by omega) (by omega)
        have B1 := Aside.mk b1
        have B2 := Aside.mk b2
        clear b1 b2 ha hb hI hK hI3 hK3
        go_wp2_with fail
        refine (M1 _).mono ?_
        rintro e w3 ⟨rfl, hd3⟩
        replace HMW := Aside.mk (HMW.out.below hd3.below)
        clear hd3 c0 c1 d0 d1
        obtain ⟨c0, c1, d0, d1⟩ := HMW.out.cells
        go_wp2_with fail
        refine (M2 _).mono ?_
        rintro e w4 ⟨rfl, hd4⟩
        replace HMW := Aside.mk (HMW.out.below hd4.below)
        clear hd4 c0 c1 d0 d1
        obtain ⟨c0, c1, d0, d1⟩ := HMW.out.cells
        go_wp2_with fail
        refine (M3 _).mono ?_
        rintro e w5 ⟨rfl, hd5⟩
        replace HMW := Aside.mk (HMW.out.below hd5.below)
        clear hd5 c0 c1 d0 d1
        obtain ⟨c0, c1, d0, d1⟩ := HMW.out.cells
        go_wp2_with fail
        refine (M4 _).mono ?_
        rintro e w6 ⟨rfl, hd6⟩
        replace HMW := Aside.mk (HMW.out.below hd6.below)
        clear hd6 c0 c1 d0 d1 M1 M2 M3 M4
        have HB4 : Aside (-9223372036854775808 ≤ min (dn (al * bh) 65536) (dn (ah * bl) 65536) ∧ min (dn (al * bh) 65536) (dn (ah * bl) 65536) ≤ 9223372036854775807 ∧ -9223372036854775808 ≤ max (up (al * bl) 65536) (up (ah * bh) 65536) ∧ max (up (al * bl) 65536) (up (ah * bh) 65536) ≤ 9223372036854775807) := ⟨by
          have b1 := B1.out
          have b2 := B2.out
          have q1 := end_bd al bh (by omega) (by omega) (by omega) (by omega)
          have q2 := end_bd ah bl (by omega) (by omega) (by omega) (by omega)
          have q3 := end_bd al bl (by omega) (by omega) (by omega) (by omega)
          have q4 := end_bd ah bh (by omega) (by omega) (by omega) (by omega)
          omega⟩
        have HP1 := HPM.out.1
        have HP2 := HPM.out.2
        go_wp2_with fail
        refine (new_any _ _ w6 HB4.out.1 HB4.out.2.1 HB4.out.2.2.1 HB4.out.2.2.2).mono ?_
        rintro e w7 ⟨rfl, hb7⟩
        replace HMW := Aside.mk (HMW.out.below hb7)
        clear hb7
        rw [dn_min, up_max, HP1, HP2, ← HA2.out]
        unfold ivV
        go_wp2_with (first | (refine wpList_store_iv rfl (.tmp 4) (.tmp 75) rfl (g + 1 + 1) _ _ rfl rfl _ _ HMW.out.rc ?_; intro w8 hr8 hb8 hk8 hs8))
        exact ret_iv rfl rfl hr8 ⟨rfl, hg ▸ HMW.out.put hb8⟩
      · obtain ⟨F1, F2, x1, y1, x2, y2, q0, q1, P1, P2, hx1, hy1, hx2, hy2, hmn, hmx⟩ := prod_pick b1.2.1 b2.2.1 hI hK h11 W2 HEW.out
        have M1 := fun w => Fx.Mul_any x1 y1 w (by omega) (by omega) (by omega) (by omega)
        have M2 := fun w => Fx.Mul_any x2 y2 w (by omega) (by omega) (by omega) (by omega)
        have HND : Aside (-9223372036854775808 ≤ dn (x1 * y1) 65536 ∧ dn (x1 * y1) 65536 ≤ 9223372036854775807 ∧ -9223372036854775808 ≤ up (x2 * y2) 65536 ∧ up (x2 * y2) 65536 ≤ 9223372036854775807) := ⟨by
          have q1 := end_bd x1 y1 (by omega) (by omega) (by omega) (by omega)
          have q2 := end_bd x2 y2 (by omega) (by omega) (by omega) (by omega)
          omega⟩
        rw [← hmn, ← hmx] at HA2
        have PE1 := P1.enters
        have PE2 := P2.enters
        have PC1 := Aside.mk P1.calls
        have PC2 := Aside.mk P2.calls
        have hi3 : (I : Int) < 3 := by omega
        have hk3 : (K : Int) < 3 := by omega
        clear P1 P2 hx1 hy1 hx2 hy2 hmn hmx b1 b2 ha hb hI hK
        have hfin : ∀ b : Bool, ((I : Int) == 1) = b → ((b && ((K : Int) == 1)) = false) := fun b hb => by
          subst hb
          cases hbi : ((I : Int) == 1) with
          | false => rfl
          | true =>
            cases hbk : ((K : Int) == 1) with
            | false => rfl
            | true =>
              rw [beq_iff_eq] at hbi hbk
              exact absurd ⟨by omega, by omega⟩ h11
        obtain ⟨bI, hbI⟩ : ∃ b, ((I : Int) == 1) = b := ⟨_, rfl⟩
        obtain ⟨bK, hbK⟩ : ∃ b, ((K : Int) == 1) = b := ⟨_, rfl⟩
        have hfn := hfin bI hbI
        rw [hbK] at hfn
        clear hfin h11
        cases bI with
        | true =>
          rw [Bool.true_and] at hfn
          rw [hfn] at hbK
          clear hfn
          go_wp2_with (first | (refine wpList_store_pair rfl (.tmp 15) (.tmp 80) rfl W2.heap.size F1 F2 rfl rfl _ _ (heap_alloc_last W2 _) ?_; intro W3 k0 k1 hb3 hs3; have hw3 : Below W2.heap.size W2 W3 := ((Below.refl _ _).alloc (Nat.le_refl _) _).trans hb3; replace HMW := Aside.mk (HMW.out.below hw3); clear hw3 hb3 hs3 c0 c1 d0 d1; obtain ⟨c0, c1, d0, d1⟩ := HMW.out.cells))
          refine (PC1.out _).mono ?_
          rintro e w4 ⟨rfl, hb4⟩
          have k1' := (hb4.cell (p := ⟨W2.heap.size, 1, none⟩) (World.block_lt_of_cell? W3 _ k1)).trans k1
          replace HMW := Aside.mk (HMW.out.below hb4)
          clear hb4 c0 c1 d0 d1 k0 k1
          go_wp2_with fail
          refine (M1 _).mono ?_
          rintro e w5 ⟨rfl, hd5⟩
          have k1 := (hd5.below.cell (p := ⟨W2.heap.size, 1, none⟩) (World.block_lt_of_cell? w4 _ k1')).trans k1'
          replace HMW := Aside.mk (HMW.out.below hd5.below)
          clear hd5 k1' M1
          obtain ⟨c0, c1, d0, d1⟩ := HMW.out.cells
          go_wp2_with fail
          refine (PC2.out _).mono ?_
          rintro e w6 ⟨rfl, hb6⟩
          replace HMW := Aside.mk (HMW.out.below hb6)
          clear hb6 c0 c1 d0 d1 k1
          go_wp2_with fail
          refine (M2 _).mono ?_
          rintro e w7 ⟨rfl, hd7⟩
          replace HMW := Aside.mk (HMW.out.below hd7.below)
          clear hd7 M2
          go_wp2_with fail
          refine (new_any _ _ w7 HND.out.1 HND.out.2.1 HND.out.2.2.1 HND.out.2.2.2).mono ?_
          rintro e w8 ⟨rfl, hb8⟩
          replace HMW := Aside.mk (HMW.out.below hb8)
          clear hb8
          rw [← HA2.out]
          unfold ivV
          go_wp2_with (first | (refine wpList_store_iv rfl (.tmp 4) (.tmp 105) rfl (g + 1 + 1) _ _ rfl rfl _ _ HMW.out.rc ?_; intro w9 hr9 hb9 hk9 hs9))
          exact ret_iv rfl rfl hr9 ⟨rfl, hg ▸ HMW.out.put hb9⟩
        | false =>
          clear hbK hfn
          go_wp2_with (first | (refine wpList_store_pair rfl (.tmp 15) (.tmp 80) rfl W2.heap.size F1 F2 rfl rfl _ _ (heap_alloc_last W2 _) ?_; intro W3 k0 k1 hb3 hs3; have hw3 : Below W2.heap.size W2 W3 := ((Below.refl _ _).alloc (Nat.le_refl _) _).trans hb3; replace HMW := Aside.mk (HMW.out.below hw3); clear hw3 hb3 hs3 c0 c1 d0 d1; obtain ⟨c0, c1, d0, d1⟩ := HMW.out.cells))
          refine (PC1.out _).mono ?_
          rintro e w4 ⟨rfl, hb4⟩
          have k1' := (hb4.cell (p := ⟨W2.heap.size, 1, none⟩) (World.block_lt_of_cell? W3 _ k1)).trans k1
          replace HMW := Aside.mk (HMW.out.below hb4)
          clear hb4 c0 c1 d0 d1 k0 k1
          go_wp2_with fail
          refine (M1 _).mono ?_
          rintro e w5 ⟨rfl, hd5⟩
          have k1 := (hd5.below.cell (p := ⟨W2.heap.size, 1, none⟩) (World.block_lt_of_cell? w4 _ k1')).trans k1'
          replace HMW := Aside.mk (HMW.out.below hd5.below)
          clear hd5 k1' M1
          obtain ⟨c0, c1, d0, d1⟩ := HMW.out.cells
          go_wp2_with fail
          refine (PC2.out _).mono ?_
          rintro e w6 ⟨rfl, hb6⟩
          replace HMW := Aside.mk (HMW.out.below hb6)
          clear hb6 c0 c1 d0 d1 k1
          go_wp2_with fail
          refine (M2 _).mono ?_
          rintro e w7 ⟨rfl, hd7⟩
          replace HMW := Aside.mk (HMW.out.below hd7.below)
          clear hd7 M2
          go_wp2_with fail
          refine (new_any _ _ w7 HND.out.1 HND.out.2.1 HND.out.2.2.1 HND.out.2.2.2).mono ?_
          rintro e w8 ⟨rfl, hb8⟩
          replace HMW := Aside.mk (HMW.out.below hb8)
          clear hb8
          rw [← HA2.out]
          unfold ivV
          go_wp2_with (first | (refine wpList_store_iv rfl (.tmp 4) (.tmp 105) rfl (g + 1 + 1) _ _ rfl rfl _ _ HMW.out.rc ?_; intro w9 hr9 hb9 hk9 hs9))
          exact ret_iv rfl rfl hr9 ⟨rfl, hg ▸ HMW.out.put hb9⟩
end Go.Proofs.YthcidkidpiaomaaGreatDoor.Od
end
section
set_option linter.unusedVariables false
set_option linter.unusedSimpArgs false
namespace Go.Proofs.YthcidkidpiaomaaGreatDoor.Od
open Go.RowKit Rg
open Fx (dn up dlo dhi isq rup)
theorem den_key {X p q : Int} (hp : 0 < p) (hpq : p ≤ q) : (0 ≤ X → dn X q ≤ dn X p) ∧ (X ≤ 0 → dn X p ≤ dn X q) := by
  unfold dn
  constructor
  · intro hX
    rw [Int.le_ediv_iff_mul_le hp]
    have h0 : 0 ≤ X / q := Int.ediv_nonneg hX (by omega)
    have := Int.mul_le_mul_of_nonneg_left hpq h0
    have := Int.ediv_mul_le X (show q ≠ 0 by omega)
    omega
  · intro hX
    rw [Int.le_ediv_iff_mul_le (by omega)]
    have h0 : X / p ≤ 0 := by
      have := Int.ediv_le_ediv hp hX
      simpa using this
    have := Int.mul_le_mul_of_nonpos_left h0 hpq
    have := Int.ediv_mul_le X (show p ≠ 0 by omega)
    omega
theorem den_key' {X p q : Int} (hp : 0 < p) (hpq : p ≤ q) : (0 ≤ X → up X q ≤ up X p) ∧ (X ≤ 0 → up X p ≤ up X q) := by
  rw [up_neg' hp, up_neg' (show 0 < q by omega)]
  have := den_key (X := -X) hp hpq
  exact ⟨fun h => by have := this.2 (by omega); omega, fun h => by have := this.1 (by omega); omega⟩
theorem quo_facts {X Y u v : Int} (hu : 0 < u) (huv : u ≤ v) (h : X ≤ Y) :
    (dn X u ≤ dn Y u ∧ dn X v ≤ dn Y v ∧ (0 ≤ X → dn X v ≤ dn X u) ∧ (X ≤ 0 → dn X u ≤ dn X v) ∧ (0 ≤ Y → dn Y v ≤ dn Y u) ∧ (Y ≤ 0 → dn Y u ≤ dn Y v)) ∧
    (up X u ≤ up Y u ∧ up X v ≤ up Y v ∧ (0 ≤ X → up X v ≤ up X u) ∧ (X ≤ 0 → up X u ≤ up X v) ∧ (0 ≤ Y → up Y v ≤ up Y u) ∧ (Y ≤ 0 → up Y u ≤ up Y v)) :=
  ⟨⟨dn_mono' hu h, dn_mono' (by omega) h, (den_key hu huv).1, (den_key hu huv).2, (den_key hu huv).1, (den_key hu huv).2⟩,
   ⟨up_mono' hu h, up_mono' (by omega) h, (den_key' hu huv).1, (den_key' hu huv).2, (den_key' hu huv).1, (den_key' hu huv).2⟩⟩
def sgnI (bl : Int) : Nat := if 0 < bl then 1 else 0
theorem quot_pick {al ah bl bh : Int} (ha : al ≤ ah) (hb : bl ≤ bh) (hs : OneSign bl bh) {I : Nat} (hI : sideI al ah = (I : Nat)) (w : World) (hE : Ends w) :
    ∃ F1 F2 x1 y1 x2 y2, w.cell? ⟨1, I * 4 + sgnI bl * 2, none⟩ = some (.func (.func F1) #[] #[]) ∧ w.cell? ⟨1, I * 4 + sgnI bl * 2 + 1, none⟩ = some (.func (.func F2) #[] #[]) ∧ Pick F1 al ah bl bh x1 y1 ∧ Pick F2 al ah bl bh x2 y2 ∧
      (x1 = al ∨ x1 = ah) ∧ (y1 = bl ∨ y1 = bh) ∧ (x2 = al ∨ x2 = ah) ∧ (y2 = bl ∨ y2 = bh) ∧
      dlo (x1 * 65536) y1 = mn4 (dlo (al * 65536) bl) (dlo (al * 65536) bh) (dlo (ah * 65536) bl) (dlo (ah * 65536) bh) ∧
      dhi (x2 * 65536) y2 = mx4 (dhi (al * 65536) bl) (dhi (al * 65536) bh) (dhi (ah * 65536) bl) (dhi (ah * 65536) bh) := by
  have mem : ∀ j F, (j, F) ∈ quotL → w.cell? ⟨1, j, none⟩ = some (.func (.func F) #[] #[]) := hE.qu
  unfold sideI at hI
  rcases hs with hs | hs
  · have hg : sgnI bl = 1 := by unfold sgnI; rw [if_pos hs]
    rw [hg]
    obtain ⟨f1, f2⟩ := quo_facts (X := al * 65536) (Y := ah * 65536) hs hb (by omega)
    have d1 : ∀ X, dlo X bl = dn X bl := fun X => by unfold dlo; rw [if_neg (by omega)]
    have d2 : ∀ X, dlo X bh = dn X bh := fun X => by unfold dlo; rw [if_neg (by omega)]
    have d3 : ∀ X, dhi X bl = up X bl := fun X => by unfold dhi; rw [if_neg (by omega)]
    have d4 : ∀ X, dhi X bh = up X bh := fun X => by unfold dhi; rw [if_neg (by omega)]
    split at hI
    · obtain rfl : I = 0 := by omega
      exact ⟨_, _, _, _, _, _, mem 2 _ (by decide), mem 3 _ (by decide), pick_ll al ah bl bh, pick_hh al ah bl bh, Or.inl rfl, Or.inl rfl, Or.inr rfl, Or.inr rfl, by rw [d1, d1, d2, d2]; unfold mn4; omega, by rw [d3, d3, d4, d4]; unfold mx4; omega⟩
    · split at hI
      · obtain rfl : I = 2 := by omega
        exact ⟨_, _, _, _, _, _, mem 10 _ (by decide), mem 11 _ (by decide), pick_lh al ah bl bh, pick_hl al ah bl bh, Or.inl rfl, Or.inr rfl, Or.inr rfl, Or.inl rfl, by rw [d1, d1, d2, d2]; unfold mn4; omega, by rw [d3, d3, d4, d4]; unfold mx4; omega⟩
      · obtain rfl : I = 1 := by omega
        exact ⟨_, _, _, _, _, _, mem 6 _ (by decide), mem 7 _ (by decide), pick_ll al ah bl bh, pick_hl al ah bl bh, Or.inl rfl, Or.inl rfl, Or.inr rfl, Or.inl rfl, by rw [d1, d1, d2, d2]; unfold mn4; omega, by rw [d3, d3, d4, d4]; unfold mx4; omega⟩
  · have hg : sgnI bl = 0 := by unfold sgnI; rw [if_neg (by omega)]
    rw [hg]
    obtain ⟨f1, f2⟩ := quo_facts (X := -(ah * 65536)) (Y := -(al * 65536)) (u := -bh) (v := -bl) (by omega) (by omega) (by omega)
    have d1 : ∀ X, dlo X bl = dn (-X) (-bl) := fun X => by unfold dlo; rw [if_pos (by omega)]
    have d2 : ∀ X, dlo X bh = dn (-X) (-bh) := fun X => by unfold dlo; rw [if_pos (by omega)]
    have d3 : ∀ X, dhi X bl = up (-X) (-bl) := fun X => by unfold dhi; rw [if_pos (by omega)]
    have d4 : ∀ X, dhi X bh = up (-X) (-bh) := fun X => by unfold dhi; rw [if_pos (by omega)]
    split at hI
    · obtain rfl : I = 0 := by omega
      exact ⟨_, _, _, _, _, _, mem 0 _ (by decide), mem 1 _ (by decide), pick_hl al ah bl bh, pick_lh al ah bl bh, Or.inr rfl, Or.inl rfl, Or.inl rfl, Or.inr rfl, by rw [d1, d1, d2, d2]; unfold mn4; omega, by rw [d3, d3, d4, d4]; unfold mx4; omega⟩
    · split at hI
      · obtain rfl : I = 2 := by omega
        exact ⟨_, _, _, _, _, _, mem 8 _ (by decide), mem 9 _ (by decide), pick_hh al ah bl bh, pick_ll al ah bl bh, Or.inr rfl, Or.inr rfl, Or.inl rfl, Or.inl rfl, by rw [d1, d1, d2, d2]; unfold mn4; omega, by rw [d3, d3, d4, d4]; unfold mx4; omega⟩
      · obtain rfl : I = 1 := by omega
        exact ⟨_, _, _, _, _, _, mem 4 _ (by decide), mem 5 _ (by decide), pick_hh al ah bl bh, pick_lh al ah bl bh, Or.inr rfl, Or.inr rfl, Or.inl rfl, Or.inr rfl, by rw [d1, d1, d2, d2]; unfold mn4; omega, by rw [d3, d3, d4, d4]; unfold mx4; omega⟩
theorem dlo_bd (x y : Int) (hx : -2147483648 ≤ x) (hx' : x ≤ 2147483648) (hy : y ≠ 0) : -9223372036854775808 ≤ dlo (x * 65536) y ∧ dlo (x * 65536) y ≤ 9223372036854775807 ∧ -9223372036854775808 ≤ dhi (x * 65536) y ∧ dhi (x * 65536) y ≤ 9223372036854775807 := by
  have key : ∀ X u : Int, 0 < u → -140737488355328 ≤ X → X ≤ 140737488355328 → -9223372036854775807 ≤ dn X u ∧ dn X u ≤ 9223372036854775806 := fun X u hu h1 h2 => by
    unfold dn
    constructor
    · rw [Int.le_ediv_iff_mul_le hu]
      have := Int.mul_le_mul_of_nonpos_left (a := -9223372036854775807) (by omega) (show 1 ≤ u by omega)
      omega
    · have h := Int.ediv_le_ediv hu h2
      have h3 : (140737488355328 : Int) / u ≤ 140737488355328 := Int.ediv_le_self _ (by omega)
      omega
  have ku : ∀ X u : Int, up X u ≤ dn X u + 1 ∧ dn X u ≤ up X u := fun X u => by unfold up dn; split <;> omega
  unfold dlo dhi
  split
  · have := key (-(x * 65536)) (-y) (by omega) (by omega) (by omega)
    have := ku (-(x * 65536)) (-y)
    omega
  · have := key (x * 65536) y (by omega) (by omega) (by omega)
    have := ku (x * 65536) y
    omega
set_option maxRecDepth 100000 in
set_option maxHeartbeats 8000000 in
theorem div_any (a b : Iv) (ha : okI a) (hb : okI b) (w : World) (hE : Ends w) : Calls Tryz.prog 116 #[ivV a, ivV b] w fun e w' => e = .returned (ivV (divI a b)) ∧ Below w.heap.size w w' := by
  obtain ⟨al, ah⟩ := a
  obtain ⟨bl, bh⟩ := b
  have HA : Aside (divI (al, ah) (bl, bh) = if isEnt al ah || isEnt bl bh || (decide (bl ≤ 0) && decide (0 ≤ bh)) then ent else
      newI (mn4 (dlo (al * 65536) bl) (dlo (al * 65536) bh) (dlo (ah * 65536) bl) (dlo (ah * 65536) bh)) (mx4 (dhi (al * 65536) bl) (dhi (al * 65536) bh) (dhi (ah * 65536) bl) (dhi (ah * 65536) bh))) := ⟨rfl⟩
  have b1 := ha.bd
  have b2 := hb.bd
  have HOB := Aside.mk hb
  simp only [maxV] at b1 b2
  have B1 := Aside.mk b1
  have B2 := Aside.mk b2
  have HM := Aside.mk (Two.new w al ah bl bh)
  have HE := Aside.mk (hE.below ((((Below.refl w.heap.size w).alloc (Nat.le_refl _) (.cells #[.int .i64 al, .int .i64 ah] 29)).alloc (by simp) (.cells #[.int .i64 bl, .int .i64 bh] 29)).alloc (by simp; omega) (.cells #[.int .i64 0, .int .i64 0] 29)))
  clear hE ha hb b1 b2
  unfold ivV
  simp only
  go_enter Tryz.func116, Tryz.ntmps116
  go_wp2_with fail
  obtain ⟨g, hg⟩ : ∃ g, w.heap.size = g := ⟨_, rfl⟩
  rw [hg] at HM
  simp only [hg]
  generalize (((w.alloc (.cells #[.int .i64 al, .int .i64 ah] 29)).alloc (.cells #[.int .i64 bl, .int .i64 bh] 29)).alloc (.cells #[.int .i64 0, .int .i64 0] 29)) = W at HM HE ⊢
  refine (isEntire_any al ah W).mono ?_
  rintro e w1 ⟨rfl, hb1⟩
  replace HM := Aside.mk (HM.out.below hb1)
  replace HE := Aside.mk (HE.out.below hb1)
  obtain ⟨c0, c1, d0, d1⟩ := HM.out.cells
  obtain ⟨e1, he1⟩ : ∃ b, isEnt al ah = b := ⟨_, rfl⟩
  rw [he1] at HA ⊢
  clear he1 hb1
  cases e1 with
  | true =>
    go_wp2_with fail
    refine (entire_any w1).mono ?_
    rintro e w2 ⟨rfl, hb2⟩
    replace HM := Aside.mk (HM.out.below hb2)
    clear hb2 c0 c1 d0 d1
    go_wp2_with (first | (refine wpList_store_iv rfl (.tmp 4) (.tmp 22) rfl (g + 1 + 1) _ _ rfl rfl _ _ HM.out.rc ?_; intro w3 hr3 hb3 hk3 hs3))
    rw [HA.out]
    exact ret_iv rfl rfl hr3 ⟨rfl, hg ▸ HM.out.put hb3⟩
  | false =>
    go_wp2_with fail
    refine (isEntire_any bl bh w1).mono ?_
    rintro e w2 ⟨rfl, hb2⟩
    replace HM := Aside.mk (HM.out.below hb2)
    replace HE := Aside.mk (HE.out.below hb2)
    clear hb2 c0 c1 d0 d1
    obtain ⟨c0, c1, d0, d1⟩ := HM.out.cells
    obtain ⟨e2, he2⟩ : ∃ b, isEnt bl bh = b := ⟨_, rfl⟩
    rw [he2] at HA ⊢
    cases e2 with
    | true =>
      clear he2
      go_wp2_with fail
      refine (entire_any w2).mono ?_
      rintro e w3 ⟨rfl, hb3⟩
      replace HM := Aside.mk (HM.out.below hb3)
      clear hb3 c0 c1 d0 d1
      go_wp2_with (first | (refine wpList_store_iv rfl (.tmp 4) (.tmp 22) rfl (g + 1 + 1) _ _ rfl rfl _ _ HM.out.rc ?_; intro w4 hr4 hb4 hk4 hs4))
      rw [HA.out]
      exact ret_iv rfl rfl hr4 ⟨rfl, hg ▸ HM.out.put hb4⟩
    | false =>
      have HC0 := Aside.mk (fun w => contains0_any bl bh w HOB.out he2)
      clear he2
      go_wp2_with fail
      refine (HC0.out w2).mono ?_
      rintro e w3 ⟨rfl, hb3⟩
      replace HM := Aside.mk (HM.out.below hb3)
      replace HE := Aside.mk (HE.out.below hb3)
      clear hb3 c0 c1 d0 d1
      obtain ⟨c0, c1, d0, d1⟩ := HM.out.cells
      obtain ⟨e3, he3⟩ : ∃ b, (decide (bl ≤ 0) && decide (0 ≤ bh)) = b := ⟨_, rfl⟩
      rw [he3] at HA ⊢
      have HE3 := Aside.mk he3
      clear he3
      cases e3 with
      | true =>
        go_wp2_with fail
        refine (entire_any w3).mono ?_
        rintro e w4 ⟨rfl, hb4⟩
        replace HM := Aside.mk (HM.out.below hb4)
        clear hb4 c0 c1 d0 d1
        go_wp2_with (first | (refine wpList_store_iv rfl (.tmp 4) (.tmp 22) rfl (g + 1 + 1) _ _ rfl rfl _ _ HM.out.rc ?_; intro w5 hr5 hb5 hk5 hs5))
        rw [HA.out]
        exact ret_iv rfl rfl hr5 ⟨rfl, hg ▸ HM.out.put hb5⟩
      | false =>
        have HA2 : Aside (divI (al, ah) (bl, bh) = newI (mn4 (dlo (al * 65536) bl) (dlo (al * 65536) bh) (dlo (ah * 65536) bl) (dlo (ah * 65536) bh)) (mx4 (dhi (al * 65536) bl) (dhi (al * 65536) bh) (dhi (ah * 65536) bl) (dhi (ah * 65536) bh))) := HA
        clear HA
        have hos : OneSign bl bh := by
          have := HE3.out
          have b2 := B2.out
          rw [Bool.and_eq_false_iff, decide_eq_false_iff_not, decide_eq_false_iff_not] at this
          unfold OneSign
          omega
        obtain ⟨I, hI, hI3⟩ := side_lt al ah
        obtain ⟨F1, F2, x1, y1, x2, y2, q0, q1, P1, P2, hx1, hy1, hx2, hy2, hmn, hmx⟩ := quot_pick B1.out.2.1 B2.out.2.1 hos hI w3 HE.out
        have M1 := fun w => Fx.Div_any x1 y1 w (by have := B1.out; omega) (by have := B1.out; omega) (by have := B2.out; omega) (by have := B2.out; omega) (by have := B2.out; rcases hos with h | h <;> omega)
        have M2 := fun w => Fx.Div_any x2 y2 w (by have := B1.out; omega) (by have := B1.out; omega) (by have := B2.out; omega) (by have := B2.out; omega) (by have := B2.out; rcases hos with h | h <;> omega)
        have HND : Aside (-9223372036854775808 ≤ dlo (x1 * 65536) y1 ∧ dlo (x1 * 65536) y1 ≤ 9223372036854775807 ∧ -9223372036854775808 ≤ dhi (x2 * 65536) y2 ∧ dhi (x2 * 65536) y2 ≤ 9223372036854775807) := ⟨by
          have := B1.out; have := B2.out
          have q1 := dlo_bd x1 y1 (by omega) (by omega) (by rcases hos with h | h <;> omega)
          have q2 := dlo_bd x2 y2 (by omega) (by omega) (by rcases hos with h | h <;> omega)
          omega⟩
        rw [← hmn, ← hmx] at HA2
        have PE1 := P1.enters
        have PE2 := P2.enters
        have PC1 := Aside.mk P1.calls
        have PC2 := Aside.mk P2.calls
        have hsg : sgnI bl < 2 := by unfold sgnI; split <;> omega
        have hsp : (if (decide (0 < bl)) = true then (1 : Int) else 0) = (sgnI bl : Nat) := by unfold sgnI; by_cases h : 0 < bl <;> simp [h]
        obtain ⟨K, hK⟩ : ∃ K, sgnI bl = K := ⟨_, rfl⟩
        rw [hK] at q0 q1 hsg hsp
        have hi3 : (I : Int) < 3 := by omega
        have hk2 : (K : Int) < 2 := by omega
        have hla := heap_lt HM.out.ra
        have hlb := heap_lt HM.out.rb
        have hq0 := World.block_lt_of_cell? w3 _ q0
        clear P1 P2 hx1 hy1 hx2 hy2 hmn hmx hos hK
        go_wp2_with fail
        refine region_u (T := tab2 [Sq.val (.agg #[.int .i64 al, .int .i64 ah]), Sq.val (.int .i64 (I : Nat)), Sq.val (.pointer (some ⟨g + 1, 0, none⟩)), Sq.val (.int .i64 bl), Sq.val (.bool (decide (0 < bl))), Sq.val (.int .i64 (K : Nat)), Sq.val (.pointer (some ⟨1, I * 4, none⟩)), Sq.val (.pointer (some ⟨1, I * 4 + K * 2, none⟩)), Sq.val (.agg #[.func (.func F1) #[] #[], .func (.func F2) #[] #[]]), Sq.new w3.heap.size #[.nilFunc, .nilFunc] 166]) [23, 24, 25, 26, 27, 28, 29, 30, 31, 5] 10 (tells_q _) rfl rfl ?_ ?_
        · refine AllV.val rfl (fun w hb => by simp [execOp, Act.eval, kp hb c0, kp hb c1, kp hb d0, gt_iff_lt, hi3, hk2, kp hb q0, kp hb q1, go_sem]) ?_
          refine AllV.cons ?_ ?_
          · intro a w hz hb ho hg
            have e23 := gq (j := 0) hg rfl rfl rfl rfl
            have f23 := Rg.gd e23
            exact Or.inl ⟨wanted_none rfl, wp_calls hb.size (run_call (args := #[.agg #[.int .i64 al, .int .i64 ah]]) enters_side (by simp [Act.eval, f23])) ((side_any al ah w).mono (by rintro e w' ⟨rfl, hb2⟩; exact ⟨_, rfl, hb2, by rw [hI]; rfl⟩))⟩
          iterate 3 (refine AllV.val rfl (fun w hb => by simp [execOp, Act.eval, kp hb c0, kp hb c1, kp hb d0, gt_iff_lt, hi3, hk2, kp hb q0, kp hb q1, go_sem]) ?_)
          refine AllV.cons ?_ ?_
          · intro a w hz hb ho hg
            have e27 := gq (j := 4) hg rfl rfl rfl rfl
            have f27 := Rg.gd e27
            exact Or.inl ⟨wanted_none rfl, wp_calls hb.size (run_call (args := #[.bool (decide (0 < bl)), .int .i64 1, .int .i64 0]) enters_pick (by simp [Act.eval, f27])) ((pick_any (decide (0 < bl)) 1 0 w).mono (by rintro e w' ⟨rfl, hb2⟩; exact ⟨_, rfl, hb2, by rw [hsp]; rfl⟩))⟩
          iterate 3 (refine AllV.val rfl (fun w hb => by simp [execOp, Act.eval, kp hb c0, kp hb c1, kp hb d0, gt_iff_lt, hi3, hk2, kp hb q0, kp hb q1, go_sem]) ?_)
          refine AllV.make (fun w hb => ⟨_, _, by simp [execOp, Act.eval, go_sem], ((Below.refl _ _).alloc (Nat.le_refl _) _), ⟨_, hb.size, rfl, heap_alloc_last _ _⟩⟩) ?_
          exact AllV.nil
        intro us W2 hb hus fu hfu
        obtain ⟨g5, G5, e5, R5⟩ := hus 9 (by decide)
        simp only [setl, List.map_cons, List.map_nil, Sq.told, Option.getD_some, Option.getD_none, List.set_cons_zero, List.set_cons_succ, e5] at hfu
        subst hfu
        clear hus e5
        simp only [List.drop_succ_cons, List.drop_zero]
        have HH2 := Aside.mk hb
        clear hb
        clear c0 c1 d0 d1 hla hlb HE hq0 q0 q1
        have HG5 := Aside.mk G5
        have HR5 := Aside.mk R5
        clear G5 R5
        go_wp2_with (first | (refine wpList_store_pair rfl (.tmp 5) (.tmp 31) rfl g5 F1 F2 rfl rfl _ _ HR5.out ?_; intro W3 k0 k1 hb3 hs3; have HMW := Aside.mk (HM.out.below (HH2.out.trans (hb3.mono HG5.out))); clear hb3 hs3 HM HH2 HG5 HR5; obtain ⟨c0, c1, d0, d1⟩ := HMW.out.cells))
        refine (PC1.out _).mono ?_
        rintro e w4 ⟨rfl, hb4⟩
        have k1' := (hb4.cell (p := ⟨g5, 1, none⟩) (World.block_lt_of_cell? W3 _ k1)).trans k1
        replace HMW := Aside.mk (HMW.out.below hb4)
        clear hb4 c0 c1 d0 d1 k0 k1
        go_wp2_with fail
        refine (M1 _).mono ?_
        rintro e w5 ⟨rfl, hd5⟩
        have k1 := (hd5.below.cell (p := ⟨g5, 1, none⟩) (World.block_lt_of_cell? w4 _ k1')).trans k1'
        replace HMW := Aside.mk (HMW.out.below hd5.below)
        clear hd5 k1' M1
        obtain ⟨c0, c1, d0, d1⟩ := HMW.out.cells
        go_wp2_with fail
        refine (PC2.out _).mono ?_
        rintro e w6 ⟨rfl, hb6⟩
        replace HMW := Aside.mk (HMW.out.below hb6)
        clear hb6 c0 c1 d0 d1 k1
        go_wp2_with fail
        refine (M2 _).mono ?_
        rintro e w7 ⟨rfl, hd7⟩
        replace HMW := Aside.mk (HMW.out.below hd7.below)
        clear hd7 M2
        go_wp2_with fail
        refine (new_any _ _ w7 HND.out.1 HND.out.2.1 HND.out.2.2.1 HND.out.2.2.2).mono ?_
        rintro e w8 ⟨rfl, hb8⟩
        replace HMW := Aside.mk (HMW.out.below hb8)
        clear hb8
        rw [← HA2.out]
        unfold ivV
        go_wp2_with (first | (refine wpList_store_iv rfl (.tmp 4) (.tmp 58) rfl (g + 1 + 1) _ _ rfl rfl _ _ HMW.out.rc ?_; intro w9 hr9 hb9 hk9 hs9))
        exact ret_iv rfl rfl hr9 ⟨rfl, hg ▸ HMW.out.put hb9⟩
set_option maxRecDepth 100000 in
set_option maxHeartbeats 8000000 in
theorem sub_any (a b : Iv) (ha : okI a) (hb : okI b) (w : World) : Calls Tryz.prog 114 #[ivV a, ivV b] w fun e w' => e = .returned (ivV (subI a b)) ∧ Below w.heap.size w w' := by
  have HOA := Aside.mk ha
  have HOB := Aside.mk (negI_ok hb)
  obtain ⟨al, ah⟩ := a
  obtain ⟨bl, bh⟩ := b
  have b2 := hb.bd
  simp only [maxV] at b2
  have HNB := Aside.mk (fun w => neg_any bl bh w (by omega) (by omega) (by omega) (by omega))
  have HA : Aside (subI (al, ah) (bl, bh) = addI (al, ah) (-bh, -bl)) := ⟨rfl⟩
  have HM := Aside.mk (Two.new w al ah bl bh)
  clear ha hb b2
  unfold ivV
  simp only
  go_enter Tryz.func114, Tryz.ntmps114
  go_wp2_with fail
  obtain ⟨g, hg⟩ : ∃ g, w.heap.size = g := ⟨_, rfl⟩
  rw [hg] at HM
  simp only [hg]
  generalize (((w.alloc (.cells #[.int .i64 al, .int .i64 ah] 29)).alloc (.cells #[.int .i64 bl, .int .i64 bh] 29)).alloc (.cells #[.int .i64 0, .int .i64 0] 29)) = W at HM ⊢
  obtain ⟨c0, c1, d0, d1⟩ := HM.out.cells
  have hla := heap_lt HM.out.ra
  have hlb := heap_lt HM.out.rb
  refine region_v [5, 6, 7] 3 [.agg #[.int .i64 al, .int .i64 ah], .agg #[.int .i64 bl, .int .i64 bh], .agg #[.int .i64 (-bh), .int .i64 (-bl)]] rfl rfl ?_ ?_
  · iterate 2 (refine AllV.val rfl (fun w hb => by simp [execOp, Act.eval, kp hb c0, kp hb c1, kp hb d0, kp hb d1, go_sem]) ?_)
    refine AllV.cons ?_ ?_
    · intro a w hz hb ho hg
      have e6 : a.tmps.getD 6 undef = .agg #[.int .i64 bl, .int .i64 bh] := got_of hg (j := 1) rfl rfl rfl
      have f6 := Rg.gd e6
      exact Or.inl ⟨wanted_none rfl, wp_calls hb.size (run_call (args := #[.agg #[.int .i64 bl, .int .i64 bh]]) enters_neg (by simp [Act.eval, f6])) ((HNB.out w).mono (by rintro e w' ⟨rfl, hb2⟩; exact ⟨_, rfl, hb2, rfl⟩))⟩
    exact AllV.nil
  intro W2 hb
  simp only [List.drop_succ_cons, List.drop_zero]
  have HH2 := Aside.mk hb
  clear hb
  have HMW := Aside.mk (HM.out.below HH2.out)
  clear c0 c1 d0 d1 hla hlb HM
  go_wp2_with fail
  refine (add_any (al, ah) (-bh, -bl) HOA.out HOB.out W2).mono ?_
  rintro e w3 ⟨rfl, hb3⟩
  replace HMW := Aside.mk (HMW.out.below hb3)
  clear hb3
  rw [← HA.out]
  unfold ivV
  go_wp2_with (first | (refine wpList_store_iv rfl (.tmp 4) (.tmp 8) rfl (g + 1 + 1) _ _ rfl rfl _ _ HMW.out.rc ?_; intro w4 hr4 hb4 hk4 hs4))
  exact ret_iv rfl rfl hr4 ⟨rfl, hg ▸ HMW.out.put hb4⟩
end Go.Proofs.YthcidkidpiaomaaGreatDoor.Od
end
section
set_option linter.unusedVariables false
set_option linter.unusedSimpArgs false
namespace Go.Proofs.YthcidkidpiaomaaGreatDoor.Od
open Go.RowKit Rg
open Fx (dn up dlo dhi isq rup)
structure One (w0 : World) (g : Nat) (al ah : Int) (W : World) : Prop where
  ra : W.heap[g]? = some (.cells #[.int .i64 al, .int .i64 ah] 29 (0, 0))
  rc : W.heap[g + 1]? = some (.cells #[.int .i64 0, .int .i64 0] 29 (0, 0))
  fr : Below g w0 W
theorem One.below {w0 W W' : World} {g : Nat} {al ah : Int} (h : One w0 g al ah W) (hb : Below W.heap.size W W') : One w0 g al ah W' := by
  have h1 := heap_lt h.ra; have h3 := heap_lt h.rc
  exact ⟨by rw [hb.block _ h1]; exact h.ra, by rw [hb.block _ h3]; exact h.rc, h.fr.trans (hb.mono (by omega))⟩
theorem One.new (w : World) (al ah : Int) : One w w.heap.size al ah ((w.alloc (.cells #[.int .i64 al, .int .i64 ah] 29)).alloc (.cells #[.int .i64 0, .int .i64 0] 29)) := by
  have e1 : (w.alloc (.cells #[.int .i64 al, .int .i64 ah] 29)).heap.size = w.heap.size + 1 := World.size_alloc ..
  have r1 := heap_alloc_last w (.cells #[.int .i64 al, .int .i64 ah] 29)
  have r2 := heap_alloc_last (w.alloc (.cells #[.int .i64 al, .int .i64 ah] 29)) (.cells #[.int .i64 0, .int .i64 0] 29)
  have b2 : Below (w.heap.size + 1) (w.alloc (.cells #[.int .i64 al, .int .i64 ah] 29)) ((w.alloc (.cells #[.int .i64 al, .int .i64 ah] 29)).alloc (.cells #[.int .i64 0, .int .i64 0] 29)) := (Below.refl _ _).alloc (by omega) _
  rw [e1] at r2
  refine ⟨?_, r2, ((Below.refl _ _).alloc (Nat.le_refl _) _).alloc (by omega) _⟩
  rw [b2.block _ (by omega)]; exact r1
theorem One.cells {w0 W : World} {g : Nat} {al ah : Int} (h : One w0 g al ah W) : W.cell? ⟨g, 0, none⟩ = some (.int .i64 al) ∧ W.cell? ⟨g, 1, none⟩ = some (.int .i64 ah) :=
  ⟨by rw [cell_of_row _ _ 0 _ _ _ h.ra]; rfl, by rw [cell_of_row _ _ 1 _ _ _ h.ra]; rfl⟩
theorem One.put {w0 W W' : World} {g : Nat} {al ah : Int} (h : One w0 g al ah W) (hb : Below (g + 1) W W') : Below g w0 W' := h.fr.trans (hb.mono (by omega))
theorem near_sq {l h : Int} (hlh : l ≤ h) : max (max l (-h)) 0 * max (max l (-h)) 0 = sqLo (l, h) := by
  unfold sqLo
  simp only
  rcases Int.lt_or_le 0 l with h1 | h1
  · rw [show max (max l (-h)) 0 = l by omega, if_neg (by omega)]
    have := Fx.sq_le (a := l) (b := h) (by omega) hlh
    omega
  · rcases Int.lt_or_le h 0 with h2 | h2
    · rw [show max (max l (-h)) 0 = -h by omega, if_neg (by omega), Int.neg_mul_neg]
      have := Fx.sq_le (a := -h) (b := -l) (by omega) (by omega)
      rw [Int.neg_mul_neg, Int.neg_mul_neg] at this
      omega
    · rw [show max (max l (-h)) 0 = 0 by omega, if_pos ⟨h1, h2⟩]; rfl
theorem far_sq {l h : Int} (hlh : l ≤ h) : max h (-l) * max h (-l) = sqHi (l, h) := by
  unfold sqHi
  simp only
  rcases Int.le_total (-l) h with h1 | h1
  · rw [show max h (-l) = h by omega]
    rcases Int.le_total 0 l with h2 | h2
    · have := Fx.sq_le (a := l) (b := h) (by omega) hlh
      omega
    · have := Fx.sq_le (a := -l) (b := h) (by omega) (by omega)
      rw [Int.neg_mul_neg] at this
      omega
  · rw [show max h (-l) = -l by omega, Int.neg_mul_neg]
    rcases Int.le_total 0 h with h2 | h2
    · have := Fx.sq_le (a := h) (b := -l) (by omega) h1
      rw [Int.neg_mul_neg] at this
      omega
    · have := Fx.sq_le (a := -h) (b := -l) (by omega) (by omega)
      rw [Int.neg_mul_neg, Int.neg_mul_neg] at this
      omega
set_option maxRecDepth 100000 in
set_option maxHeartbeats 8000000 in
theorem square_any (a : Iv) (ha : okI a) (w : World) : Calls Tryz.prog 73 #[ivV a] w fun e w' => e = .returned (ivV (sqrI a)) ∧ Below w.heap.size w w' := by
  obtain ⟨al, ah⟩ := a
  have HA : Aside (sqrI (al, ah) = if isEnt al ah then ent else newI (dn (sqLo (al, ah)) 65536) (up (sqHi (al, ah)) 65536)) := ⟨rfl⟩
  have b1 := ha.bd
  simp only [maxV] at b1
  have HM := Aside.mk (One.new w al ah)
  unfold ivV
  simp only
  go_enter Tryz.func73, Tryz.ntmps73
  go_wp2_with fail
  obtain ⟨g, hg⟩ : ∃ g, w.heap.size = g := ⟨_, rfl⟩
  rw [hg] at HM
  simp only [hg]
  generalize ((w.alloc (.cells #[.int .i64 al, .int .i64 ah] 29)).alloc (.cells #[.int .i64 0, .int .i64 0] 29)) = W at HM ⊢
  refine (isEntire_any al ah W).mono ?_
  rintro e w1 ⟨rfl, hb1⟩
  replace HM := Aside.mk (HM.out.below hb1)
  obtain ⟨c0, c1⟩ := HM.out.cells
  obtain ⟨e1, he1⟩ : ∃ b, isEnt al ah = b := ⟨_, rfl⟩
  rw [he1] at HA ⊢
  clear hb1
  cases e1 with
  | true =>
    have HA1 : Aside (sqrI (al, ah) = ent) := HA
    have HEQ : Aside ((al, ah) = ent) := ⟨(isE_iff (al, ah)).1 he1⟩
    clear he1
    go_wp2_with (first | (refine wpList_store_iv rfl (.tmp 2) (.tmp 11) rfl (g + 1) _ _ rfl rfl _ _ HM.out.rc ?_; intro w3 hr3 hb3 hk3 hs3))
    rw [HA1.out, ← HEQ.out]
    exact ret_iv rfl rfl hr3 ⟨rfl, hg ▸ HM.out.put hb3⟩
  | false =>
    clear he1
    have HNR := Aside.mk (near_sq b1.2.1)
    have HFR := Aside.mk (far_sq b1.2.1)
    have hla := heap_lt HM.out.ra
    have M1 := fun w => Fx.Mul_any (max (max al (-ah)) 0) (max (max al (-ah)) 0) w (by omega) (by omega) (by omega) (by omega)
    have M2 := fun w => Fx.Mul_any (max ah (-al)) (max ah (-al)) w (by omega) (by omega) (by omega) (by omega)
    have HND : Aside (-9223372036854775808 ≤ dn (max (max al (-ah)) 0 * max (max al (-ah)) 0) 65536 ∧ dn (max (max al (-ah)) 0 * max (max al (-ah)) 0) 65536 ≤ 9223372036854775807 ∧ -9223372036854775808 ≤ up (max ah (-al) * max ah (-al)) 65536 ∧ up (max ah (-al) * max ah (-al)) 65536 ≤ 9223372036854775807) := ⟨by
      have q1 := end_bd (max (max al (-ah)) 0) (max (max al (-ah)) 0) (by omega) (by omega) (by omega) (by omega)
      have q2 := end_bd (max ah (-al)) (max ah (-al)) (by omega) (by omega) (by omega) (by omega)
      omega⟩
    have HMG := Aside.mk (fun w => mag_any al ah w (by omega) (by omega))
    have hw : IntKind.i64.wrap (-ah) = -ah := IntWalk.i64_in _ (by omega)
    obtain ⟨nr, hnr⟩ : ∃ nr, max (max al (-ah)) 0 = nr := ⟨_, rfl⟩
    obtain ⟨fr, hfr⟩ : ∃ fr, max ah (-al) = fr := ⟨_, rfl⟩
    rw [hnr] at HNR M1 HND
    rw [hfr] at HFR M2 HND HMG
    have hnr2 : (if (if al < -ah then -ah else al) < 0 then 0 else if al < -ah then -ah else al) = nr := by rw [← hnr]; repeat (first | omega | split)
    have HA2 : Aside (sqrI (al, ah) = newI (dn (nr * nr) 65536) (up (fr * fr) 65536)) := ⟨by rw [HNR.out, HFR.out]; exact HA.out⟩
    clear hfr hnr
    go_wp2_with fail
    refine region_v [12, 13, 14, 15, 16, 17, 18, 19, 3] 9 [.pointer (some ⟨g, 0, none⟩), .int .i64 al, .pointer (some ⟨g, 1, none⟩), .int .i64 ah, .int .i64 (-ah), .int .i64 nr, .agg #[.int .i64 al, .int .i64 ah], .int .i64 fr, .int .i64 nr] rfl rfl ?_ ?_
    · iterate 7 (refine AllV.val rfl (fun w hb => by simp [execOp, Act.eval, kp hb c0, kp hb c1, hw, hnr2, go_sem]) ?_)
      refine AllV.cons ?_ ?_
      · intro a w hz hb ho hg
        have e18 : a.tmps.getD 18 undef = .agg #[.int .i64 al, .int .i64 ah] := got_of hg (j := 6) rfl rfl rfl
        have f18 := Rg.gd e18
        exact Or.inl ⟨wanted_none rfl, wp_calls hb.size (run_call (args := #[.agg #[.int .i64 al, .int .i64 ah]]) enters_mag (by simp [Act.eval, f18])) ((HMG.out w).mono (by rintro e w' ⟨rfl, hb2⟩; exact ⟨_, rfl, hb2, rfl⟩))⟩
      refine AllV.val rfl (fun w hb => by simp [execOp, Act.eval, kp hb c0, kp hb c1, hw, hnr2, go_sem]) ?_
      exact AllV.nil
    intro W2 hb
    simp only [List.drop_succ_cons, List.drop_zero]
    have HH2 := Aside.mk hb
    clear hb
    have HMW := Aside.mk (HM.out.below HH2.out)
    clear c0 c1 hla HM HH2 hw hnr2
    go_wp2_with fail
    refine (M1 _).mono ?_
    rintro e w5 ⟨rfl, hd5⟩
    replace HMW := Aside.mk (HMW.out.below hd5.below)
    clear hd5 M1
    go_wp2_with fail
    refine (M2 _).mono ?_
    rintro e w6 ⟨rfl, hd6⟩
    replace HMW := Aside.mk (HMW.out.below hd6.below)
    clear hd6 M2
    go_wp2_with fail
    refine (new_any _ _ w6 HND.out.1 HND.out.2.1 HND.out.2.2.1 HND.out.2.2.2).mono ?_
    rintro e w8 ⟨rfl, hb8⟩
    replace HMW := Aside.mk (HMW.out.below hb8)
    clear hb8
    rw [← HA2.out]
    unfold ivV
    go_wp2_with (first | (refine wpList_store_iv rfl (.tmp 2) (.tmp 34) rfl (g + 1) _ _ rfl rfl _ _ HMW.out.rc ?_; intro w9 hr9 hb9 hk9 hs9))
    exact ret_iv rfl rfl hr9 ⟨rfl, hg ▸ HMW.out.put hb9⟩
theorem results_cell_1 {P : Program} {fn : Func} {p a : Tmp} {ty : TypeId} (h : fn.results = #[.cell p ty, .tmp a]) (tmps : Array Value) (w : World) (g : Nat) (t : TypeId) (cs : Array Value) (fr : Nat × Nat) (d : TypeDesc)
    (hp : tmps.getD p undef = .pointer (some ⟨g, 0, none⟩)) (hg : w.heap[g]? = some (.cells cs t fr))
    (hu : P.underlying ty = some d) (hd : (match d with | .struct _ | .array _ _ => true | _ => false) = true) (hi : (P.info? ty).map (·.size) = some cs.size) :
    (results fn tmps).run P w = .ok (.tuple #[.agg cs, tmps.getD a undef]) w := by
  have hp' : tmps[p]?.getD undef = .pointer (some ⟨g, 0, none⟩) := by simpa using hp
  simp [results, h, hp', asAddr, run_loadVar_row w g t ty cs fr d hg hu hd hi]
theorem rup_bd (n : Int) (h : 0 ≤ n) (h2 : n ≤ 140737488355328) : isq n ≤ 11863283 ∧ rup n ≤ 11863284 := by
  have h1 := Fx.isq_le_of_lt_sq (n := n) (b := 11863283) h (by decide) (by omega)
  refine ⟨h1, ?_⟩
  unfold rup; split <;> omega
set_option maxRecDepth 100000 in
set_option maxHeartbeats 8000000 in
theorem sqrt_any (a : Iv) (ha : okI a) (h0 : 0 ≤ a.1) (w : World) : Calls Tryz.prog 75 #[ivV a] w fun e w' => e = .returned (.tuple #[ivV (sqrtI a), .bool true]) ∧ Below w.heap.size w w' := by
  obtain ⟨al, ah⟩ := a
  have HA : Aside (sqrtI (al, ah) = newI (isq (al * 65536)) (rup (ah * 65536))) := ⟨by unfold sqrtI; rw [if_neg (by omega)]⟩
  simp only at h0
  have hne : isEnt al ah = false := by unfold isEnt maxV; rw [show (al == -2147483648) = false by simp; omega]; rfl
  have b1 := ha.fin hne
  simp only [maxV] at b1
  have HNE := Aside.mk hne
  have HM := Aside.mk (One.new w al ah)
  have HMX : Aside (max al 0 = al) := ⟨by omega⟩
  have hah : ¬ ah < 0 := by omega
  have M1 := fun w => Fx.Sqrt_any al w (by omega) (by omega)
  have M2 := fun w => Fx.Sqrt_any ah w (by omega) (by omega)
  have HND : Aside (-9223372036854775808 ≤ isq (al * 65536) ∧ isq (al * 65536) ≤ 9223372036854775807 ∧ -9223372036854775808 ≤ rup (ah * 65536) ∧ rup (ah * 65536) ≤ 9223372036854775807) := ⟨by
    have q1 := rup_bd (al * 65536) (by omega) (by omega)
    have q2 := rup_bd (ah * 65536) (by omega) (by omega)
    have q3 := Fx.isq_nonneg (al * 65536)
    have q4 := Fx.isq_nonneg (ah * 65536)
    have q5 := isq_rup (ah * 65536)
    omega⟩
  clear hne ha b1
  unfold ivV
  simp only
  go_enter Tryz.func75, Tryz.ntmps75
  go_wp2_with fail
  obtain ⟨g, hg⟩ : ∃ g, w.heap.size = g := ⟨_, rfl⟩
  rw [hg] at HM
  simp only [hg]
  generalize ((w.alloc (.cells #[.int .i64 al, .int .i64 ah] 29)).alloc (.cells #[.int .i64 0, .int .i64 0] 29)) = W at HM ⊢
  refine (isEntire_any al ah W).mono ?_
  rintro e w1 ⟨rfl, hb1⟩
  replace HM := Aside.mk (HM.out.below hb1)
  obtain ⟨c0, c1⟩ := HM.out.cells
  rw [HNE.out]
  clear hb1
  go_wp2_with fail
  rw [HMX.out]
  refine (M1 _).mono ?_
  rintro e w2 ⟨rfl, hd2⟩
  replace HM := Aside.mk (HM.out.below hd2.below)
  clear hd2 M1 c0 c1
  obtain ⟨c0, c1⟩ := HM.out.cells
  go_wp2_with fail
  refine (M2 _).mono ?_
  rintro e w3 ⟨rfl, hd3⟩
  replace HM := Aside.mk (HM.out.below hd3.below)
  clear hd3 M2 c0 c1
  go_wp2_with fail
  refine (new_any _ _ w3 HND.out.1 HND.out.2.1 HND.out.2.2.1 HND.out.2.2.2).mono ?_
  rintro e w4 ⟨rfl, hb4⟩
  replace HM := Aside.mk (HM.out.below hb4)
  clear hb4
  rw [← HA.out]
  unfold ivV
  go_wp2_with (first | (refine wpList_store_iv rfl (.tmp 2) (.tmp 36) rfl (g + 1) _ _ rfl rfl _ _ HM.out.rc ?_; intro w9 hr9 hb9 hk9 hs9))
  exact bodyPost_ret (results_cell_1 rfl _ _ (g + 1) 29 _ (0, 0) _ rfl hr9 Tryz.underlying29 rfl info_iv) rfl ⟨rfl, hg ▸ HM.out.put hb9⟩
end Go.Proofs.YthcidkidpiaomaaGreatDoor.Od
end
