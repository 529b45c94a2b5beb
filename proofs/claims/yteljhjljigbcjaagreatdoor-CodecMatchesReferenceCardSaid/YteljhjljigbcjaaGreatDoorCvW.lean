/- The laws' fixed examples hold, whatever the world: the sanity's walk. (Its last region's steps are printed by wip/region.py.) -/
import Derived.Test.YteljhjljigbcjaaGreatDoorCvR
set_option linter.unusedVariables false
namespace Go.Proofs.YteljhjljigbcjaaGreatDoor.Cv
open Go.RowKit Rg

theorem enters15 : ∀ args w, (callFunc 15 args).run Tryz.prog w = .ok (.enter 15 args) w := fun args w => by kernel_rfl
theorem enters17 : ∀ args w, (callFunc 17 args).run Tryz.prog w = .ok (.enter 17 args) w := fun args w => by kernel_rfl
theorem freeze_cell (w : World) (b : Addr) (n : Nat) (a : Addr) : (w.freeze b n).cell? a = w.cell? a := by
  unfold World.freeze
  split
  · rfl
  · simp only [World.cell?, Array.getElem?_modify]
    by_cases h : b.block = a.block
    · rw [if_pos h]
      cases hq : w.heap[a.block]? with
      | none => rfl
      | some o => cases o <;> rfl
    · rw [if_neg h]
theorem freeze_below (n : Nat) (w : World) (b : Addr) (k : Nat) (hn : n ≤ b.block) : Below n w (w.freeze b k) := by
  unfold World.freeze
  split
  · exact Below.refl _ _
  · refine ⟨rfl, rfl, rfl, by simp, fun j hj => ?_⟩
    simp only [Array.getElem?_modify]
    rw [if_neg (by omega)]
theorem run_same {n : Nat} {dst : Option Tmp} {type : TypeId} {pos : String} {after : Array Edge} {guard : Option (Nat × Bool)} {a : Act} {w : World} {t : Tmp} {L : List UInt8}
    (h : Txt w (a.tmps.getD t undef) L ∧ ∃ ad k c, a.tmps.getD t undef = .slice (some ad) k c ∧ n ≤ ad.block) :
    ∃ v w', (execOp a.eval { dst, op := .convert 22 22 (.tmp t), type, pos, after, guard }).run Tryz.prog w = .ok (.value v) w' ∧ Stp n w w' ∧ Txt w' v L := by
  obtain ⟨ht, ad, k, c, hv, hn⟩ := h
  have e : (convert 22 22 (.slice (some ad) k c)).run Tryz.prog w = ((markStringish ad).run Tryz.prog w).andThen fun _ w' => .ok (.slice (some ad) k c) w' := by
    simp [convert, run_underlying Tryz.underlying22, run_underlying Tryz.underlying5]
  simp only [execOp, Act.eval, hv, Sem.run_bind, e]
  cases hs : w.shape? ad.block with
  | none =>
    refine ⟨.slice (some ad) k c, w, ?_, Stp.refl _ _, by rw [← hv]; exact ht⟩
    simp [markStringish, hs, Result.andThen]
  | some q =>
    refine ⟨.slice (some ad) k c, w.freeze { block := ad.block, off := q.2 } 1, ?_, ⟨freeze_below n w _ _ hn, fun a v h => by rw [freeze_cell]; exact h⟩, ?_⟩
    · simp [markStringish, hs, Result.andThen]
    · rw [← hv]; exact ht.cells (fun a v h => by rw [freeze_cell]; exact h)

set_option maxRecDepth 100000 in
set_option maxHeartbeats 8000000 in
theorem sanity_any (w : World) : Calls Tryz.prog 8 #[] w fun e w' => e = .returned (.bool true) ∧ Below w.heap.size w w' := by
  have hE1 := EncodeEntry_txt 1 ⟨#[97]⟩ (.slice none 0 0) [] w (Txt.nil w)
  simp only [if_pos (show okE ⟨1, (⟨#[97]⟩ : ByteArray).data.toList, []⟩ from by decide)] at hE1
  unfold entV at hE1
  go_enter Tryz.func8, Tryz.ntmps8
  go_wp2_with fail
  refine hE1.mono ?_
  rintro e w1 ⟨b1, v1, rfl, o1⟩
  have k0 := (Trk.start w).call b1
  have k1 := Trk.start w1
  have o1' : Own w.heap.size w1 v1 [2, 2, 97, 0] := by rw [← e_1]; exact o1
  clear hE1 o1
  have hE2 := EncodeEntry_txt 5 ⟨#[97]⟩ (.slice none 0 0) [] w1 (Txt.nil w1)
  simp only [if_neg (show ¬ okE ⟨5, (⟨#[97]⟩ : ByteArray).data.toList, []⟩ from by decide)] at hE2
  unfold entV at hE2
  go_wp2_with fail
  refine hE2.mono ?_
  rintro e w2 ⟨b2, rfl⟩
  replace k0 := k0.call b2
  replace k1 := k1.call b2
  clear hE2
  go_wp2_with fail
  refine (DecodeEntry_txt _ _ [2, 2, 97, 0, 9] (lit_txt' w2 _ 5 _ (by simp) rfl (by decide)) ⟨by simp⟩).mono ?_
  rintro e w3 ⟨b3, h3⟩
  rw [x1] at h3
  obtain ⟨vb3, rfl, o3⟩ := h3
  obtain ⟨ao3, cap3, hv3, -, -, -, -⟩ := o3.txt
  subst hv3
  replace k0 := ((k0.alloc _).call b3).alloc (.cells #[.int .i64 1, .string (str [97]), .slice ao3 0 cap3] 24)
  replace k1 := ((k1.alloc _).call b3).alloc (.cells #[.int .i64 1, .string (str [97]), .slice ao3 0 cap3] 24)
  have k3 := Trk.start (w3.alloc (.cells #[.int .i64 1, .string (str [97]), .slice ao3 0 cap3] 24))
  have r3 := heap_alloc_last w3 (.cells #[.int .i64 1, .string (str [97]), .slice ao3 0 cap3] 24)
  clear b1 b2 b3 o3
  go_wp2_with fail
  refine (DecodeEntry_txt _ _ [2, 2, 97] (lit_txt' _ _ 3 _ (by simp) rfl (by decide)) ⟨by simp⟩).mono ?_
  rintro e w4 ⟨b4, h4⟩
  rw [x2] at h4
  subst h4
  replace k0 := ((k0.alloc _).call b4).alloc (.cells #[.int .i64 0, .string ⟨#[]⟩, .slice none 0 0] 24)
  replace k1 := ((k1.alloc _).call b4).alloc (.cells #[.int .i64 0, .string ⟨#[]⟩, .slice none 0 0] 24)
  replace k3 := ((k3.alloc _).call b4).alloc (.cells #[.int .i64 0, .string ⟨#[]⟩, .slice none 0 0] 24)
  clear b4
  go_wp2_with fail
  refine (DecodeEntry_txt _ _ [2, 0, 0] (lit_txt' _ _ 3 _ (by simp) rfl (by decide)) ⟨by simp⟩).mono ?_
  rintro e w5 ⟨b5, h5⟩
  rw [x3] at h5
  subst h5
  replace k0 := ((k0.alloc _).call b5).alloc (.cells #[.int .i64 0, .string ⟨#[]⟩, .slice none 0 0] 24)
  replace k1 := ((k1.alloc _).call b5).alloc (.cells #[.int .i64 0, .string ⟨#[]⟩, .slice none 0 0] 24)
  replace k3 := ((k3.alloc _).call b5).alloc (.cells #[.int .i64 0, .string ⟨#[]⟩, .slice none 0 0] 24)
  clear b5
  go_wp2_with fail
  refine (Varint_txt _ _ [128, 0] (lit_txt' _ _ 2 _ (by simp) rfl (by decide)) ⟨by simp⟩).mono ?_
  rintro e w6 ⟨b6, h6⟩
  rw [x4] at h6
  subst h6
  replace k0 := (k0.alloc _).call b6
  replace k1 := (k1.alloc _).call b6
  replace k3 := (k3.alloc _).call b6
  clear b6
  have hM := EncodeMessage_txt 2 1 3 4 5 0 ⟨#[]⟩ (.slice none 0 0) [] w6 (Txt.nil w6) ⟨by omega⟩
  unfold msgV at hM
  go_wp2_with fail
  refine hM.mono ?_
  rintro e w7 ⟨b7, h7, -⟩
  obtain ⟨v7, rfl, o7⟩ := h7 (by decide)
  have o7' : Own w6.heap.size w7 v7 [4, 2, 6, 8, 10, 0] := by rw [← m_1]; exact o7
  replace k0 := k0.call b7
  replace k1 := k1.call b7
  replace k3 := k3.call b7
  have k7 := Trk.start w7
  clear b7 hM h7 o7
  go_wp2_with fail
  refine (DecodeMessage_txt _ _ [4, 2, 6, 8, 10, 0] (lit_txt' _ _ 6 _ (by simp) rfl (by decide)) ⟨by simp⟩).mono ?_
  rintro e w8 ⟨b8, h8⟩
  rw [x5] at h8
  obtain ⟨vb8, rfl, o8⟩ := h8
  obtain ⟨ao8, cap8, hv8, -, -, -, -⟩ := o8.txt
  subst hv8
  clear o8
  replace k0 := ((k0.alloc _).call b8).alloc (.cells (mcs ⟨2, 1, 3, 4, 5, zeroE⟩ (.slice ao8 0 cap8)) 27)
  replace k1 := ((k1.alloc _).call b8).alloc (.cells (mcs ⟨2, 1, 3, 4, 5, zeroE⟩ (.slice ao8 0 cap8)) 27)
  replace k3 := ((k3.alloc _).call b8).alloc (.cells (mcs ⟨2, 1, 3, 4, 5, zeroE⟩ (.slice ao8 0 cap8)) 27)
  replace k7 := ((k7.alloc _).call b8).alloc (.cells (mcs ⟨2, 1, 3, 4, 5, zeroE⟩ (.slice ao8 0 cap8)) 27)
  have k8 := Trk.start (w8.alloc (.cells (mcs ⟨2, 1, 3, 4, 5, zeroE⟩ (.slice ao8 0 cap8)) 27))
  have r8 := heap_alloc_last w8 (.cells (mcs ⟨2, 1, 3, 4, 5, zeroE⟩ (.slice ao8 0 cap8)) 27)
  clear b8
  unfold mcs
  go_wp2_with fail
  refine (DecodeMessage_txt _ _ [4, 2, 6, 8, 10, 0, 0] (lit_txt' _ _ 7 _ (by simp) rfl (by decide)) ⟨by simp⟩).mono ?_
  rintro e w9 ⟨b9, h9⟩
  rw [x6] at h9
  subst h9
  replace k0 := ((k0.alloc _).call b9).alloc (.cells mz 27)
  replace k1 := ((k1.alloc _).call b9).alloc (.cells mz 27)
  replace k3 := ((k3.alloc _).call b9).alloc (.cells mz 27)
  replace k7 := ((k7.alloc _).call b9).alloc (.cells mz 27)
  replace k8 := ((k8.alloc _).call b9).alloc (.cells mz 27)
  clear b9
  unfold mz
  go_wp2_with fail
  refine (DecodeSpacecraft_nil _).mono ?_
  rintro e w10 ⟨b10, rfl⟩
  replace k0 := (k0.call b10).alloc (.cells sz 58)
  replace k1 := (k1.call b10).alloc (.cells sz 58)
  replace k3 := (k3.call b10).alloc (.cells sz 58)
  replace k7 := (k7.call b10).alloc (.cells sz 58)
  replace k8 := (k8.call b10).alloc (.cells sz 58)
  clear b10
  unfold sz
  go_wp2_with fail
  obtain ⟨g3, hg3⟩ : ∃ g, g = w3.heap.size := ⟨_, rfl⟩
  obtain ⟨g8, hg8⟩ : ∃ g, g = w8.heap.size := ⟨_, rfl⟩
  unfold sz at k0 k1 k3 k7 k8
  generalize (w10.alloc (.cells #[.string ⟨#[]⟩, .slice none 0 0, .slice none 0 0, .slice none 0 0, .slice none 0 0] 58)) = W0 at k0 k1 k3 k7 k8 ⊢
  have t1 : Txt W0 v1 [2, 2, 97, 0] := o1'.txt.below k1.below
  have t7 : Txt W0 v7 [4, 2, 6, 8, 10, 0] := o7'.txt.below k7.below
  have q3 : W0.heap[g3]? = some (.cells #[.int .i64 1, .string (str [97]), .slice ao3 0 cap3] 24 (0, 0)) := by rw [hg3, k3.below.block _ (by simp)]; exact r3
  have q8 : W0.heap[g8]? = some (.cells (mcs ⟨2, 1, 3, 4, 5, zeroE⟩ (.slice ao8 0 cap8)) 27 (0, 0)) := by rw [hg8, k8.below.block _ (by simp)]; exact r8
  have c30 : W0.cell? ⟨g3, 0, none⟩ = some (.int .i64 1) := by rw [cell_of_row _ _ 0 _ _ _ q3]; rfl
  have c31 : W0.cell? ⟨g3, 1, none⟩ = some (.string (str [97])) := by rw [cell_of_row _ _ 1 _ _ _ q3]; rfl
  have c82 : W0.cell? ⟨g8, 2, none⟩ = some (.int .i64 3) := by rw [cell_of_row _ _ 2 _ _ _ q8]; rfl
  have g3l : g3 < W0.heap.size := lt_of_heap q3
  have g8l : g8 < W0.heap.size := lt_of_heap q8
  have kb := k0.below
  generalize hA : Act.mk _ _ = a0
  have hsz : a0.tmps.size = 174 := by rw [← hA]; rfl
  have hdf : a0.defers = [] := by rw [← hA]
  have e1 : a0.tmps.getD 1 undef = v1 := by rw [← hA]; rfl
  have e2 : a0.tmps.getD 2 undef = .int .i64 0 := by rw [← hA]; rfl
  have e4 : a0.tmps.getD 4 undef = .int .i64 1 := by rw [← hA]; rfl
  have e5 : a0.tmps.getD 5 undef = .pointer (some ⟨g3, 0, none⟩) := by rw [← hA, hg3]; rfl
  have e6 : a0.tmps.getD 6 undef = .int .i64 4 := by rw [← hA]; rfl
  have e7 : a0.tmps.getD 7 undef = .int .i64 0 := by rw [← hA]; rfl
  have e10 : a0.tmps.getD 10 undef = .int .i64 271 := by rw [← hA]; rfl
  have e13 : a0.tmps.getD 13 undef = .int .i64 272 := by rw [← hA]; rfl
  have e16 : a0.tmps.getD 16 undef = .bool false := by rw [← hA]; rfl
  have e17 : a0.tmps.getD 17 undef = v7 := by rw [← hA]; rfl
  have e18 : a0.tmps.getD 18 undef = .int .i64 0 := by rw [← hA]; rfl
  have e19 : a0.tmps.getD 19 undef = .pointer (some ⟨g8, 0, none⟩) := by rw [← hA, hg8]; rfl
  have e20 : a0.tmps.getD 20 undef = .int .i64 0 := by rw [← hA]; rfl
  have e22 : a0.tmps.getD 22 undef = .int .i64 272 := by rw [← hA]; rfl
  have e24 : a0.tmps.getD 24 undef = .int .i64 271 := by rw [← hA]; rfl
  clear hA k0 k1 k3 k7 k8 o1' o7' q3 q8 r3 r8 hg3 hg8
  refine region_by (T := tab [.txt [1], .val (.string (str [1])), .txt [1], .val (.string (str [1])), .val (.bool true), .val (.bool true), .txt [7], .txt [7, 216, 4], .val (.string (str [7, 216, 4])), .txt [7, 216, 4], .val (.string (str [7, 216, 4])), .val (.bool true), .val (.bool true), .val (.bool true), .txt [2, 2, 97, 0], .val (.string (str [2, 2, 97, 0])), .txt [2, 2, 97, 0], .val (.string (str [2, 2, 97, 0])), .val (.bool true), .val (.bool true), .val (.bool true), .val (.int .i64 0), .val (.bool true), .val (.bool true), .val (.bool true), .val (.int .i64 1), .val (.bool true), .val (.bool true), .val (.bool true), .val (.pointer (some ⟨g3, 0, none⟩)), .val (.int .i64 1), .val (.bool true), .val (.bool true), .val (.bool true), .val (.pointer (some ⟨g3, 1, none⟩)), .val (.string (str [97])), .val (.bool true), .val (.bool true), .val (.bool true), .val (.int .i64 4), .val (.bool true), .val (.bool true), .val (.bool true), .val (.int .i64 0), .val (.bool true), .val (.bool true), .val (.bool true), .val (.int .i64 271), .val (.bool true), .val (.bool true), .val (.bool true), .val (.int .i64 272), .val (.bool true), .val (.bool true), .val (.bool true), .val (.bool false), .val (.bool true), .val (.bool true), .val (.bool true), .txt [4, 2, 6, 8, 10, 0], .val (.string (str [4, 2, 6, 8, 10, 0])), .txt [4, 2, 6, 8, 10, 0], .val (.string (str [4, 2, 6, 8, 10, 0])), .val (.bool true), .val (.bool true), .val (.bool true), .val (.int .i64 0), .val (.bool true), .val (.bool true), .val (.bool true), .val (.pointer (some ⟨g8, 2, none⟩)), .val (.int .i64 3), .val (.bool true), .val (.bool true), .val (.bool true), .val (.int .i64 0), .val (.bool true), .val (.bool true), .val (.bool true), .val (.int .i64 272), .val (.bool true), .val (.bool true), .val (.bool true), .val (.int .i64 271), .val (.bool true), .val (.bool true), .val (.bool true), .own W0.heap.size [49, 50, 51, 52, 53, 54, 55, 56, 57], .txt [49, 50, 51, 52, 53, 54, 55, 56, 57], .val (.int .u32 3421780262), .val (.bool true), .val (.bool true), .val (.bool true), .val (.int .u32 0), .val (.bool true), .val (.bool true), .val (.bool true)]) _ (by kernel_rfl) (by rw [hsz]; kernel_rfl) (by kernel_rfl) rfl ?_ ?_
  · refine AllOk.cons ?_ ?_
    · intro a w hz hb ho hg
      refine Or.inl ⟨by exact wanted_none rfl, ?_⟩
      exact wp_calls hb.size (run_call (args := #[.slice none 0 0, .int .i64 (-1)]) enters15 (by simp [Act.eval])) ((AppendVarint_txt (.slice none 0 0) [] (-1) w (Txt.nil w) ⟨by omega, by omega⟩ (by simp)).mono (by rintro e w' ⟨v', rfl, ho', hb'⟩; exact ⟨v', rfl, hb', by have := ho'.txt; rw [v_m] at this; exact this⟩))
    refine AllOk.cons ?_ ?_
    · intro a w hz hb ho hg
      refine Or.inl ⟨by exact wanted_none rfl, ?_⟩
      exact wp_value hb.size (run_conv (show Txt w _ _ from got_of hg (j := 0) rfl rfl rfl)) (Below.refl _ _) rfl
    refine AllOk.cons ?_ ?_
    · intro a w hz hb ho hg
      refine Or.inl ⟨by exact wanted_none rfl, ?_⟩
      exact wp_value hb.size (run_lit (L := [1]) (by kernel_rfl)) ((Below.refl _ _).alloc (Nat.le_refl _) _) (lit_txt w [1] 1 rfl (by decide))
    refine AllOk.cons ?_ ?_
    · intro a w hz hb ho hg
      refine Or.inl ⟨by exact wanted_none rfl, ?_⟩
      exact wp_value hb.size (run_conv (show Txt w _ _ from got_of hg (j := 2) rfl rfl rfl)) (Below.refl _ _) rfl
    refine AllOk.cons ?_ ?_
    · intro a w hz hb ho hg
      refine Or.inl ⟨by exact wanted_none rfl, ?_⟩
      exact wp_value hb.size (run_bin (show a.eval (.tmp 79) = .string (str [1]) from got_of hg (j := 1) rfl rfl rfl) (show a.eval (.tmp 81) = .string (str [1]) from got_of hg (j := 3) rfl rfl rfl) (eq_str _ _ _ _ _) (bin_str _)) (Below.refl _ _) rfl
    refine AllOk.cons ?_ ?_
    · intro a w hz hb ho hg
      refine Or.inl ⟨by exact wanted_none rfl, ?_⟩
      exact wp_value hb.size (run_move (show a.eval (.tmp 82) = .bool true from got_of hg (j := 4) rfl rfl rfl)) (Below.refl _ _) rfl
    refine AllOk.cons ?_ ?_
    · intro a w hz hb ho hg
      refine Or.inl ⟨by rw [wanted_of (j := 5) rfl rfl rfl (show a.tmps.getD 83 undef = .bool true from got_of hg (j := 5) rfl rfl rfl)]; rfl, ?_⟩
      exact wp_value hb.size (run_lit (L := [7]) (by kernel_rfl)) ((Below.refl _ _).alloc (Nat.le_refl _) _) (lit_txt w [7] 1 rfl (by decide))
    refine AllOk.cons ?_ ?_
    · intro a w hz hb ho hg
      refine Or.inl ⟨by rw [wanted_of (j := 5) rfl rfl rfl (show a.tmps.getD 83 undef = .bool true from got_of hg (j := 5) rfl rfl rfl)]; rfl, ?_⟩
      exact wp_calls hb.size (run_call (args := #[a.tmps.getD 84 undef, .int .i64 300]) enters15 (by simp [Act.eval])) ((AppendVarint_txt (a.tmps.getD 84 undef) [7] 300 w (show Txt w _ _ from got_of hg (j := 6) rfl rfl rfl) ⟨by omega, by omega⟩ (by simp)).mono (by rintro e w' ⟨v', rfl, ho', hb'⟩; exact ⟨v', rfl, hb', by have := ho'.txt; rw [v_300] at this; exact this⟩))
    refine AllOk.cons ?_ ?_
    · intro a w hz hb ho hg
      refine Or.inl ⟨by rw [wanted_of (j := 5) rfl rfl rfl (show a.tmps.getD 83 undef = .bool true from got_of hg (j := 5) rfl rfl rfl)]; rfl, ?_⟩
      exact wp_value hb.size (run_conv (show Txt w _ _ from got_of hg (j := 7) rfl rfl rfl)) (Below.refl _ _) rfl
    refine AllOk.cons ?_ ?_
    · intro a w hz hb ho hg
      refine Or.inl ⟨by rw [wanted_of (j := 5) rfl rfl rfl (show a.tmps.getD 83 undef = .bool true from got_of hg (j := 5) rfl rfl rfl)]; rfl, ?_⟩
      exact wp_value hb.size (run_lit (L := [7, 216, 4]) (by kernel_rfl)) ((Below.refl _ _).alloc (Nat.le_refl _) _) (lit_txt w [7, 216, 4] 3 rfl (by decide))
    refine AllOk.cons ?_ ?_
    · intro a w hz hb ho hg
      refine Or.inl ⟨by rw [wanted_of (j := 5) rfl rfl rfl (show a.tmps.getD 83 undef = .bool true from got_of hg (j := 5) rfl rfl rfl)]; rfl, ?_⟩
      exact wp_value hb.size (run_conv (show Txt w _ _ from got_of hg (j := 9) rfl rfl rfl)) (Below.refl _ _) rfl
    refine AllOk.cons ?_ ?_
    · intro a w hz hb ho hg
      refine Or.inl ⟨by rw [wanted_of (j := 5) rfl rfl rfl (show a.tmps.getD 83 undef = .bool true from got_of hg (j := 5) rfl rfl rfl)]; rfl, ?_⟩
      exact wp_value hb.size (run_bin (show a.eval (.tmp 86) = .string (str [7, 216, 4]) from got_of hg (j := 8) rfl rfl rfl) (show a.eval (.tmp 88) = .string (str [7, 216, 4]) from got_of hg (j := 10) rfl rfl rfl) (eq_str _ _ _ _ _) (bin_str _)) (Below.refl _ _) rfl
    refine AllOk.cons ?_ ?_
    · intro a w hz hb ho hg
      refine Or.inl ⟨by exact wanted_none rfl, ?_⟩
      exact wp_value hb.size (run_pick (show a.eval (.tmp 83) = .bool true from got_of hg (j := 5) rfl rfl rfl) (show a.eval (.tmp 89) = .bool true from got_of hg (j := 11) rfl rfl rfl)) (Below.refl _ _) rfl
    refine AllOk.cons ?_ ?_
    · intro a w hz hb ho hg
      refine Or.inl ⟨by exact wanted_none rfl, ?_⟩
      exact wp_value hb.size (run_move (show a.eval (.tmp 90) = .bool true from got_of hg (j := 12) rfl rfl rfl)) (Below.refl _ _) rfl
    refine AllOk.cons ?_ ?_
    · intro a w hz hb ho hg
      refine Or.inl ⟨by rw [wanted_of (j := 13) rfl rfl rfl (show a.tmps.getD 91 undef = .bool true from got_of hg (j := 13) rfl rfl rfl)]; rfl, ?_⟩
      exact wp_value hb.size (run_move ((ho 1 (by kernel_rfl)).trans e1)) (Below.refl _ _) (show Txt w _ _ from (t1.below hb))
    refine AllOk.cons ?_ ?_
    · intro a w hz hb ho hg
      refine Or.inl ⟨by rw [wanted_of (j := 13) rfl rfl rfl (show a.tmps.getD 91 undef = .bool true from got_of hg (j := 13) rfl rfl rfl)]; rfl, ?_⟩
      exact wp_value hb.size (run_conv (show Txt w _ _ from got_of hg (j := 14) rfl rfl rfl)) (Below.refl _ _) rfl
    refine AllOk.cons ?_ ?_
    · intro a w hz hb ho hg
      refine Or.inl ⟨by rw [wanted_of (j := 13) rfl rfl rfl (show a.tmps.getD 91 undef = .bool true from got_of hg (j := 13) rfl rfl rfl)]; rfl, ?_⟩
      exact wp_value hb.size (run_lit (L := [2, 2, 97, 0]) (by kernel_rfl)) ((Below.refl _ _).alloc (Nat.le_refl _) _) (lit_txt w [2, 2, 97, 0] 4 rfl (by decide))
    refine AllOk.cons ?_ ?_
    · intro a w hz hb ho hg
      refine Or.inl ⟨by rw [wanted_of (j := 13) rfl rfl rfl (show a.tmps.getD 91 undef = .bool true from got_of hg (j := 13) rfl rfl rfl)]; rfl, ?_⟩
      exact wp_value hb.size (run_conv (show Txt w _ _ from got_of hg (j := 16) rfl rfl rfl)) (Below.refl _ _) rfl
    refine AllOk.cons ?_ ?_
    · intro a w hz hb ho hg
      refine Or.inl ⟨by rw [wanted_of (j := 13) rfl rfl rfl (show a.tmps.getD 91 undef = .bool true from got_of hg (j := 13) rfl rfl rfl)]; rfl, ?_⟩
      exact wp_value hb.size (run_bin (show a.eval (.tmp 93) = .string (str [2, 2, 97, 0]) from got_of hg (j := 15) rfl rfl rfl) (show a.eval (.tmp 95) = .string (str [2, 2, 97, 0]) from got_of hg (j := 17) rfl rfl rfl) (eq_str _ _ _ _ _) (bin_str _)) (Below.refl _ _) rfl
    refine AllOk.cons ?_ ?_
    · intro a w hz hb ho hg
      refine Or.inl ⟨by exact wanted_none rfl, ?_⟩
      exact wp_value hb.size (run_pick (show a.eval (.tmp 91) = .bool true from got_of hg (j := 13) rfl rfl rfl) (show a.eval (.tmp 96) = .bool true from got_of hg (j := 18) rfl rfl rfl)) (Below.refl _ _) rfl
    refine AllOk.cons ?_ ?_
    · intro a w hz hb ho hg
      refine Or.inl ⟨by exact wanted_none rfl, ?_⟩
      exact wp_value hb.size (run_move (show a.eval (.tmp 97) = .bool true from got_of hg (j := 19) rfl rfl rfl)) (Below.refl _ _) rfl
    refine AllOk.cons ?_ ?_
    · intro a w hz hb ho hg
      refine Or.inl ⟨by rw [wanted_of (j := 20) rfl rfl rfl (show a.tmps.getD 98 undef = .bool true from got_of hg (j := 20) rfl rfl rfl)]; rfl, ?_⟩
      exact wp_value hb.size (run_move (show a.eval (.tmp 2) = .int .i64 0 from (ho 2 (by kernel_rfl)).trans e2)) (Below.refl _ _) rfl
    refine AllOk.cons ?_ ?_
    · intro a w hz hb ho hg
      refine Or.inl ⟨by rw [wanted_of (j := 20) rfl rfl rfl (show a.tmps.getD 98 undef = .bool true from got_of hg (j := 20) rfl rfl rfl)]; rfl, ?_⟩
      exact wp_value hb.size (run_bin (show a.eval (.tmp 99) = .int .i64 0 from got_of hg (j := 21) rfl rfl rfl) (rfl : a.eval (.const (.int .i64 0)) = .int .i64 0) (eq_int _ _ _ _ _ _) (bin_err _)) (Below.refl _ _) rfl
    refine AllOk.cons ?_ ?_
    · intro a w hz hb ho hg
      refine Or.inl ⟨by exact wanted_none rfl, ?_⟩
      exact wp_value hb.size (run_pick (show a.eval (.tmp 98) = .bool true from got_of hg (j := 20) rfl rfl rfl) (show a.eval (.tmp 100) = .bool true from got_of hg (j := 22) rfl rfl rfl)) (Below.refl _ _) rfl
    refine AllOk.cons ?_ ?_
    · intro a w hz hb ho hg
      refine Or.inl ⟨by exact wanted_none rfl, ?_⟩
      exact wp_value hb.size (run_move (show a.eval (.tmp 101) = .bool true from got_of hg (j := 23) rfl rfl rfl)) (Below.refl _ _) rfl
    refine AllOk.cons ?_ ?_
    · intro a w hz hb ho hg
      refine Or.inl ⟨by rw [wanted_of (j := 24) rfl rfl rfl (show a.tmps.getD 102 undef = .bool true from got_of hg (j := 24) rfl rfl rfl)]; rfl, ?_⟩
      exact wp_value hb.size (run_move (show a.eval (.tmp 4) = .int .i64 1 from (ho 4 (by kernel_rfl)).trans e4)) (Below.refl _ _) rfl
    refine AllOk.cons ?_ ?_
    · intro a w hz hb ho hg
      refine Or.inl ⟨by rw [wanted_of (j := 24) rfl rfl rfl (show a.tmps.getD 102 undef = .bool true from got_of hg (j := 24) rfl rfl rfl)]; rfl, ?_⟩
      exact wp_value hb.size (run_bin (show a.eval (.tmp 103) = .int .i64 1 from got_of hg (j := 25) rfl rfl rfl) (rfl : a.eval (.const (.int .i64 1)) = .int .i64 1) (eq_int _ _ _ _ _ _) (bin_err _)) (Below.refl _ _) rfl
    refine AllOk.cons ?_ ?_
    · intro a w hz hb ho hg
      refine Or.inl ⟨by exact wanted_none rfl, ?_⟩
      exact wp_value hb.size (run_pick (show a.eval (.tmp 102) = .bool true from got_of hg (j := 24) rfl rfl rfl) (show a.eval (.tmp 104) = .bool true from got_of hg (j := 26) rfl rfl rfl)) (Below.refl _ _) rfl
    refine AllOk.cons ?_ ?_
    · intro a w hz hb ho hg
      refine Or.inl ⟨by exact wanted_none rfl, ?_⟩
      exact wp_value hb.size (run_move (show a.eval (.tmp 105) = .bool true from got_of hg (j := 27) rfl rfl rfl)) (Below.refl _ _) rfl
    refine AllOk.cons ?_ ?_
    · intro a w hz hb ho hg
      refine Or.inl ⟨by rw [wanted_of (j := 28) rfl rfl rfl (show a.tmps.getD 106 undef = .bool true from got_of hg (j := 28) rfl rfl rfl)]; rfl, ?_⟩
      exact wp_value hb.size (run_field (show a.eval (.tmp 5) = .pointer (some ⟨g3, 0, none⟩) from (ho 5 (by kernel_rfl)).trans e5) (by kernel_rfl)) (Below.refl _ _) rfl
    refine AllOk.cons ?_ ?_
    · intro a w hz hb ho hg
      refine Or.inl ⟨by rw [wanted_of (j := 28) rfl rfl rfl (show a.tmps.getD 106 undef = .bool true from got_of hg (j := 28) rfl rfl rfl)]; rfl, ?_⟩
      exact wp_value hb.size (run_load (show a.eval (.tmp 107) = .pointer (some ⟨g3, 0, none⟩) from got_of hg (j := 29) rfl rfl rfl) (ld_int ((hb.cell (p := ⟨g3, 0, none⟩) g3l).trans c30))) (Below.refl _ _) rfl
    refine AllOk.cons ?_ ?_
    · intro a w hz hb ho hg
      refine Or.inl ⟨by rw [wanted_of (j := 28) rfl rfl rfl (show a.tmps.getD 106 undef = .bool true from got_of hg (j := 28) rfl rfl rfl)]; rfl, ?_⟩
      exact wp_value hb.size (run_bin (show a.eval (.tmp 108) = .int .i64 1 from got_of hg (j := 30) rfl rfl rfl) (rfl : a.eval (.const (.int .i64 1)) = .int .i64 1) (eq_int _ _ _ _ _ _) (bin_int _)) (Below.refl _ _) rfl
    refine AllOk.cons ?_ ?_
    · intro a w hz hb ho hg
      refine Or.inl ⟨by exact wanted_none rfl, ?_⟩
      exact wp_value hb.size (run_pick (show a.eval (.tmp 106) = .bool true from got_of hg (j := 28) rfl rfl rfl) (show a.eval (.tmp 109) = .bool true from got_of hg (j := 31) rfl rfl rfl)) (Below.refl _ _) rfl
    refine AllOk.cons ?_ ?_
    · intro a w hz hb ho hg
      refine Or.inl ⟨by exact wanted_none rfl, ?_⟩
      exact wp_value hb.size (run_move (show a.eval (.tmp 110) = .bool true from got_of hg (j := 32) rfl rfl rfl)) (Below.refl _ _) rfl
    refine AllOk.cons ?_ ?_
    · intro a w hz hb ho hg
      refine Or.inl ⟨by rw [wanted_of (j := 33) rfl rfl rfl (show a.tmps.getD 111 undef = .bool true from got_of hg (j := 33) rfl rfl rfl)]; rfl, ?_⟩
      exact wp_value hb.size (run_field (show a.eval (.tmp 5) = .pointer (some ⟨g3, 0, none⟩) from (ho 5 (by kernel_rfl)).trans e5) (by kernel_rfl)) (Below.refl _ _) rfl
    refine AllOk.cons ?_ ?_
    · intro a w hz hb ho hg
      refine Or.inl ⟨by rw [wanted_of (j := 33) rfl rfl rfl (show a.tmps.getD 111 undef = .bool true from got_of hg (j := 33) rfl rfl rfl)]; rfl, ?_⟩
      exact wp_value hb.size (run_load (show a.eval (.tmp 112) = .pointer (some ⟨g3, 1, none⟩) from got_of hg (j := 34) rfl rfl rfl) (ld_str ((hb.cell (p := ⟨g3, 1, none⟩) g3l).trans c31))) (Below.refl _ _) rfl
    refine AllOk.cons ?_ ?_
    · intro a w hz hb ho hg
      refine Or.inl ⟨by rw [wanted_of (j := 33) rfl rfl rfl (show a.tmps.getD 111 undef = .bool true from got_of hg (j := 33) rfl rfl rfl)]; rfl, ?_⟩
      exact wp_value hb.size (run_bin (show a.eval (.tmp 113) = .string (str [97]) from got_of hg (j := 35) rfl rfl rfl) (rfl : a.eval (.const (.string ⟨#[97]⟩)) = .string (str [97])) (eq_str _ _ _ _ _) (bin_str _)) (Below.refl _ _) rfl
    refine AllOk.cons ?_ ?_
    · intro a w hz hb ho hg
      refine Or.inl ⟨by exact wanted_none rfl, ?_⟩
      exact wp_value hb.size (run_pick (show a.eval (.tmp 111) = .bool true from got_of hg (j := 33) rfl rfl rfl) (show a.eval (.tmp 114) = .bool true from got_of hg (j := 36) rfl rfl rfl)) (Below.refl _ _) rfl
    refine AllOk.cons ?_ ?_
    · intro a w hz hb ho hg
      refine Or.inl ⟨by exact wanted_none rfl, ?_⟩
      exact wp_value hb.size (run_move (show a.eval (.tmp 115) = .bool true from got_of hg (j := 37) rfl rfl rfl)) (Below.refl _ _) rfl
    refine AllOk.cons ?_ ?_
    · intro a w hz hb ho hg
      refine Or.inl ⟨by rw [wanted_of (j := 38) rfl rfl rfl (show a.tmps.getD 116 undef = .bool true from got_of hg (j := 38) rfl rfl rfl)]; rfl, ?_⟩
      exact wp_value hb.size (run_move (show a.eval (.tmp 6) = .int .i64 4 from (ho 6 (by kernel_rfl)).trans e6)) (Below.refl _ _) rfl
    refine AllOk.cons ?_ ?_
    · intro a w hz hb ho hg
      refine Or.inl ⟨by rw [wanted_of (j := 38) rfl rfl rfl (show a.tmps.getD 116 undef = .bool true from got_of hg (j := 38) rfl rfl rfl)]; rfl, ?_⟩
      exact wp_value hb.size (run_bin (show a.eval (.tmp 117) = .int .i64 4 from got_of hg (j := 39) rfl rfl rfl) (rfl : a.eval (.const (.int .i64 4)) = .int .i64 4) (eq_int _ _ _ _ _ _) (bin_int _)) (Below.refl _ _) rfl
    refine AllOk.cons ?_ ?_
    · intro a w hz hb ho hg
      refine Or.inl ⟨by exact wanted_none rfl, ?_⟩
      exact wp_value hb.size (run_pick (show a.eval (.tmp 116) = .bool true from got_of hg (j := 38) rfl rfl rfl) (show a.eval (.tmp 118) = .bool true from got_of hg (j := 40) rfl rfl rfl)) (Below.refl _ _) rfl
    refine AllOk.cons ?_ ?_
    · intro a w hz hb ho hg
      refine Or.inl ⟨by exact wanted_none rfl, ?_⟩
      exact wp_value hb.size (run_move (show a.eval (.tmp 119) = .bool true from got_of hg (j := 41) rfl rfl rfl)) (Below.refl _ _) rfl
    refine AllOk.cons ?_ ?_
    · intro a w hz hb ho hg
      refine Or.inl ⟨by rw [wanted_of (j := 42) rfl rfl rfl (show a.tmps.getD 120 undef = .bool true from got_of hg (j := 42) rfl rfl rfl)]; rfl, ?_⟩
      exact wp_value hb.size (run_move (show a.eval (.tmp 7) = .int .i64 0 from (ho 7 (by kernel_rfl)).trans e7)) (Below.refl _ _) rfl
    refine AllOk.cons ?_ ?_
    · intro a w hz hb ho hg
      refine Or.inl ⟨by rw [wanted_of (j := 42) rfl rfl rfl (show a.tmps.getD 120 undef = .bool true from got_of hg (j := 42) rfl rfl rfl)]; rfl, ?_⟩
      exact wp_value hb.size (run_bin (show a.eval (.tmp 121) = .int .i64 0 from got_of hg (j := 43) rfl rfl rfl) (rfl : a.eval (.const (.int .i64 0)) = .int .i64 0) (eq_int _ _ _ _ _ _) (bin_err _)) (Below.refl _ _) rfl
    refine AllOk.cons ?_ ?_
    · intro a w hz hb ho hg
      refine Or.inl ⟨by exact wanted_none rfl, ?_⟩
      exact wp_value hb.size (run_pick (show a.eval (.tmp 120) = .bool true from got_of hg (j := 42) rfl rfl rfl) (show a.eval (.tmp 122) = .bool true from got_of hg (j := 44) rfl rfl rfl)) (Below.refl _ _) rfl
    refine AllOk.cons ?_ ?_
    · intro a w hz hb ho hg
      refine Or.inl ⟨by exact wanted_none rfl, ?_⟩
      exact wp_value hb.size (run_move (show a.eval (.tmp 123) = .bool true from got_of hg (j := 45) rfl rfl rfl)) (Below.refl _ _) rfl
    refine AllOk.cons ?_ ?_
    · intro a w hz hb ho hg
      refine Or.inl ⟨by rw [wanted_of (j := 46) rfl rfl rfl (show a.tmps.getD 124 undef = .bool true from got_of hg (j := 46) rfl rfl rfl)]; rfl, ?_⟩
      exact wp_value hb.size (run_move (show a.eval (.tmp 10) = .int .i64 271 from (ho 10 (by kernel_rfl)).trans e10)) (Below.refl _ _) rfl
    refine AllOk.cons ?_ ?_
    · intro a w hz hb ho hg
      refine Or.inl ⟨by rw [wanted_of (j := 46) rfl rfl rfl (show a.tmps.getD 124 undef = .bool true from got_of hg (j := 46) rfl rfl rfl)]; rfl, ?_⟩
      exact wp_value hb.size (run_bin (show a.eval (.tmp 125) = .int .i64 271 from got_of hg (j := 47) rfl rfl rfl) (rfl : a.eval (.const (.int .i64 271)) = .int .i64 271) (eq_int _ _ _ _ _ _) (bin_err _)) (Below.refl _ _) rfl
    refine AllOk.cons ?_ ?_
    · intro a w hz hb ho hg
      refine Or.inl ⟨by exact wanted_none rfl, ?_⟩
      exact wp_value hb.size (run_pick (show a.eval (.tmp 124) = .bool true from got_of hg (j := 46) rfl rfl rfl) (show a.eval (.tmp 126) = .bool true from got_of hg (j := 48) rfl rfl rfl)) (Below.refl _ _) rfl
    refine AllOk.cons ?_ ?_
    · intro a w hz hb ho hg
      refine Or.inl ⟨by exact wanted_none rfl, ?_⟩
      exact wp_value hb.size (run_move (show a.eval (.tmp 127) = .bool true from got_of hg (j := 49) rfl rfl rfl)) (Below.refl _ _) rfl
    refine AllOk.cons ?_ ?_
    · intro a w hz hb ho hg
      refine Or.inl ⟨by rw [wanted_of (j := 50) rfl rfl rfl (show a.tmps.getD 128 undef = .bool true from got_of hg (j := 50) rfl rfl rfl)]; rfl, ?_⟩
      exact wp_value hb.size (run_move (show a.eval (.tmp 13) = .int .i64 272 from (ho 13 (by kernel_rfl)).trans e13)) (Below.refl _ _) rfl
    refine AllOk.cons ?_ ?_
    · intro a w hz hb ho hg
      refine Or.inl ⟨by rw [wanted_of (j := 50) rfl rfl rfl (show a.tmps.getD 128 undef = .bool true from got_of hg (j := 50) rfl rfl rfl)]; rfl, ?_⟩
      exact wp_value hb.size (run_bin (show a.eval (.tmp 129) = .int .i64 272 from got_of hg (j := 51) rfl rfl rfl) (rfl : a.eval (.const (.int .i64 272)) = .int .i64 272) (eq_int _ _ _ _ _ _) (bin_err _)) (Below.refl _ _) rfl
    refine AllOk.cons ?_ ?_
    · intro a w hz hb ho hg
      refine Or.inl ⟨by exact wanted_none rfl, ?_⟩
      exact wp_value hb.size (run_pick (show a.eval (.tmp 128) = .bool true from got_of hg (j := 50) rfl rfl rfl) (show a.eval (.tmp 130) = .bool true from got_of hg (j := 52) rfl rfl rfl)) (Below.refl _ _) rfl
    refine AllOk.cons ?_ ?_
    · intro a w hz hb ho hg
      refine Or.inl ⟨by exact wanted_none rfl, ?_⟩
      exact wp_value hb.size (run_move (show a.eval (.tmp 131) = .bool true from got_of hg (j := 53) rfl rfl rfl)) (Below.refl _ _) rfl
    refine AllOk.cons ?_ ?_
    · intro a w hz hb ho hg
      refine Or.inl ⟨by rw [wanted_of (j := 54) rfl rfl rfl (show a.tmps.getD 132 undef = .bool true from got_of hg (j := 54) rfl rfl rfl)]; rfl, ?_⟩
      exact wp_value hb.size (run_move (show a.eval (.tmp 16) = .bool false from (ho 16 (by kernel_rfl)).trans e16)) (Below.refl _ _) rfl
    refine AllOk.cons ?_ ?_
    · intro a w hz hb ho hg
      refine Or.inl ⟨by rw [wanted_of (j := 54) rfl rfl rfl (show a.tmps.getD 132 undef = .bool true from got_of hg (j := 54) rfl rfl rfl)]; rfl, ?_⟩
      exact wp_value hb.size (run_not (show a.eval (.tmp 133) = .bool false from got_of hg (j := 55) rfl rfl rfl)) (Below.refl _ _) rfl
    refine AllOk.cons ?_ ?_
    · intro a w hz hb ho hg
      refine Or.inl ⟨by exact wanted_none rfl, ?_⟩
      exact wp_value hb.size (run_pick (show a.eval (.tmp 132) = .bool true from got_of hg (j := 54) rfl rfl rfl) (show a.eval (.tmp 134) = .bool true from got_of hg (j := 56) rfl rfl rfl)) (Below.refl _ _) rfl
    refine AllOk.cons ?_ ?_
    · intro a w hz hb ho hg
      refine Or.inl ⟨by exact wanted_none rfl, ?_⟩
      exact wp_value hb.size (run_move (show a.eval (.tmp 135) = .bool true from got_of hg (j := 57) rfl rfl rfl)) (Below.refl _ _) rfl
    refine AllOk.cons ?_ ?_
    · intro a w hz hb ho hg
      refine Or.inl ⟨by rw [wanted_of (j := 58) rfl rfl rfl (show a.tmps.getD 136 undef = .bool true from got_of hg (j := 58) rfl rfl rfl)]; rfl, ?_⟩
      exact wp_value hb.size (run_move ((ho 17 (by kernel_rfl)).trans e17)) (Below.refl _ _) (show Txt w _ _ from (t7.below hb))
    refine AllOk.cons ?_ ?_
    · intro a w hz hb ho hg
      refine Or.inl ⟨by rw [wanted_of (j := 58) rfl rfl rfl (show a.tmps.getD 136 undef = .bool true from got_of hg (j := 58) rfl rfl rfl)]; rfl, ?_⟩
      exact wp_value hb.size (run_conv (show Txt w _ _ from got_of hg (j := 59) rfl rfl rfl)) (Below.refl _ _) rfl
    refine AllOk.cons ?_ ?_
    · intro a w hz hb ho hg
      refine Or.inl ⟨by rw [wanted_of (j := 58) rfl rfl rfl (show a.tmps.getD 136 undef = .bool true from got_of hg (j := 58) rfl rfl rfl)]; rfl, ?_⟩
      exact wp_value hb.size (run_lit (L := [4, 2, 6, 8, 10, 0]) (by kernel_rfl)) ((Below.refl _ _).alloc (Nat.le_refl _) _) (lit_txt w [4, 2, 6, 8, 10, 0] 6 rfl (by decide))
    refine AllOk.cons ?_ ?_
    · intro a w hz hb ho hg
      refine Or.inl ⟨by rw [wanted_of (j := 58) rfl rfl rfl (show a.tmps.getD 136 undef = .bool true from got_of hg (j := 58) rfl rfl rfl)]; rfl, ?_⟩
      exact wp_value hb.size (run_conv (show Txt w _ _ from got_of hg (j := 61) rfl rfl rfl)) (Below.refl _ _) rfl
    refine AllOk.cons ?_ ?_
    · intro a w hz hb ho hg
      refine Or.inl ⟨by rw [wanted_of (j := 58) rfl rfl rfl (show a.tmps.getD 136 undef = .bool true from got_of hg (j := 58) rfl rfl rfl)]; rfl, ?_⟩
      exact wp_value hb.size (run_bin (show a.eval (.tmp 138) = .string (str [4, 2, 6, 8, 10, 0]) from got_of hg (j := 60) rfl rfl rfl) (show a.eval (.tmp 140) = .string (str [4, 2, 6, 8, 10, 0]) from got_of hg (j := 62) rfl rfl rfl) (eq_str _ _ _ _ _) (bin_str _)) (Below.refl _ _) rfl
    refine AllOk.cons ?_ ?_
    · intro a w hz hb ho hg
      refine Or.inl ⟨by exact wanted_none rfl, ?_⟩
      exact wp_value hb.size (run_pick (show a.eval (.tmp 136) = .bool true from got_of hg (j := 58) rfl rfl rfl) (show a.eval (.tmp 141) = .bool true from got_of hg (j := 63) rfl rfl rfl)) (Below.refl _ _) rfl
    refine AllOk.cons ?_ ?_
    · intro a w hz hb ho hg
      refine Or.inl ⟨by exact wanted_none rfl, ?_⟩
      exact wp_value hb.size (run_move (show a.eval (.tmp 142) = .bool true from got_of hg (j := 64) rfl rfl rfl)) (Below.refl _ _) rfl
    refine AllOk.cons ?_ ?_
    · intro a w hz hb ho hg
      refine Or.inl ⟨by rw [wanted_of (j := 65) rfl rfl rfl (show a.tmps.getD 143 undef = .bool true from got_of hg (j := 65) rfl rfl rfl)]; rfl, ?_⟩
      exact wp_value hb.size (run_move (show a.eval (.tmp 18) = .int .i64 0 from (ho 18 (by kernel_rfl)).trans e18)) (Below.refl _ _) rfl
    refine AllOk.cons ?_ ?_
    · intro a w hz hb ho hg
      refine Or.inl ⟨by rw [wanted_of (j := 65) rfl rfl rfl (show a.tmps.getD 143 undef = .bool true from got_of hg (j := 65) rfl rfl rfl)]; rfl, ?_⟩
      exact wp_value hb.size (run_bin (show a.eval (.tmp 144) = .int .i64 0 from got_of hg (j := 66) rfl rfl rfl) (rfl : a.eval (.const (.int .i64 0)) = .int .i64 0) (eq_int _ _ _ _ _ _) (bin_err _)) (Below.refl _ _) rfl
    refine AllOk.cons ?_ ?_
    · intro a w hz hb ho hg
      refine Or.inl ⟨by exact wanted_none rfl, ?_⟩
      exact wp_value hb.size (run_pick (show a.eval (.tmp 143) = .bool true from got_of hg (j := 65) rfl rfl rfl) (show a.eval (.tmp 145) = .bool true from got_of hg (j := 67) rfl rfl rfl)) (Below.refl _ _) rfl
    refine AllOk.cons ?_ ?_
    · intro a w hz hb ho hg
      refine Or.inl ⟨by exact wanted_none rfl, ?_⟩
      exact wp_value hb.size (run_move (show a.eval (.tmp 146) = .bool true from got_of hg (j := 68) rfl rfl rfl)) (Below.refl _ _) rfl
    refine AllOk.cons ?_ ?_
    · intro a w hz hb ho hg
      refine Or.inl ⟨by rw [wanted_of (j := 69) rfl rfl rfl (show a.tmps.getD 147 undef = .bool true from got_of hg (j := 69) rfl rfl rfl)]; rfl, ?_⟩
      exact wp_value hb.size (run_field (show a.eval (.tmp 19) = .pointer (some ⟨g8, 0, none⟩) from (ho 19 (by kernel_rfl)).trans e19) (by kernel_rfl)) (Below.refl _ _) rfl
    refine AllOk.cons ?_ ?_
    · intro a w hz hb ho hg
      refine Or.inl ⟨by rw [wanted_of (j := 69) rfl rfl rfl (show a.tmps.getD 147 undef = .bool true from got_of hg (j := 69) rfl rfl rfl)]; rfl, ?_⟩
      exact wp_value hb.size (run_load (show a.eval (.tmp 148) = .pointer (some ⟨g8, 2, none⟩) from got_of hg (j := 70) rfl rfl rfl) (ld_int ((hb.cell (p := ⟨g8, 2, none⟩) g8l).trans c82))) (Below.refl _ _) rfl
    refine AllOk.cons ?_ ?_
    · intro a w hz hb ho hg
      refine Or.inl ⟨by rw [wanted_of (j := 69) rfl rfl rfl (show a.tmps.getD 147 undef = .bool true from got_of hg (j := 69) rfl rfl rfl)]; rfl, ?_⟩
      exact wp_value hb.size (run_bin (show a.eval (.tmp 149) = .int .i64 3 from got_of hg (j := 71) rfl rfl rfl) (rfl : a.eval (.const (.int .i64 3)) = .int .i64 3) (eq_int _ _ _ _ _ _) (bin_int _)) (Below.refl _ _) rfl
    refine AllOk.cons ?_ ?_
    · intro a w hz hb ho hg
      refine Or.inl ⟨by exact wanted_none rfl, ?_⟩
      exact wp_value hb.size (run_pick (show a.eval (.tmp 147) = .bool true from got_of hg (j := 69) rfl rfl rfl) (show a.eval (.tmp 150) = .bool true from got_of hg (j := 72) rfl rfl rfl)) (Below.refl _ _) rfl
    refine AllOk.cons ?_ ?_
    · intro a w hz hb ho hg
      refine Or.inl ⟨by exact wanted_none rfl, ?_⟩
      exact wp_value hb.size (run_move (show a.eval (.tmp 151) = .bool true from got_of hg (j := 73) rfl rfl rfl)) (Below.refl _ _) rfl
    refine AllOk.cons ?_ ?_
    · intro a w hz hb ho hg
      refine Or.inl ⟨by rw [wanted_of (j := 74) rfl rfl rfl (show a.tmps.getD 152 undef = .bool true from got_of hg (j := 74) rfl rfl rfl)]; rfl, ?_⟩
      exact wp_value hb.size (run_move (show a.eval (.tmp 20) = .int .i64 0 from (ho 20 (by kernel_rfl)).trans e20)) (Below.refl _ _) rfl
    refine AllOk.cons ?_ ?_
    · intro a w hz hb ho hg
      refine Or.inl ⟨by rw [wanted_of (j := 74) rfl rfl rfl (show a.tmps.getD 152 undef = .bool true from got_of hg (j := 74) rfl rfl rfl)]; rfl, ?_⟩
      exact wp_value hb.size (run_bin (show a.eval (.tmp 153) = .int .i64 0 from got_of hg (j := 75) rfl rfl rfl) (rfl : a.eval (.const (.int .i64 0)) = .int .i64 0) (eq_int _ _ _ _ _ _) (bin_err _)) (Below.refl _ _) rfl
    refine AllOk.cons ?_ ?_
    · intro a w hz hb ho hg
      refine Or.inl ⟨by exact wanted_none rfl, ?_⟩
      exact wp_value hb.size (run_pick (show a.eval (.tmp 152) = .bool true from got_of hg (j := 74) rfl rfl rfl) (show a.eval (.tmp 154) = .bool true from got_of hg (j := 76) rfl rfl rfl)) (Below.refl _ _) rfl
    refine AllOk.cons ?_ ?_
    · intro a w hz hb ho hg
      refine Or.inl ⟨by exact wanted_none rfl, ?_⟩
      exact wp_value hb.size (run_move (show a.eval (.tmp 155) = .bool true from got_of hg (j := 77) rfl rfl rfl)) (Below.refl _ _) rfl
    refine AllOk.cons ?_ ?_
    · intro a w hz hb ho hg
      refine Or.inl ⟨by rw [wanted_of (j := 78) rfl rfl rfl (show a.tmps.getD 156 undef = .bool true from got_of hg (j := 78) rfl rfl rfl)]; rfl, ?_⟩
      exact wp_value hb.size (run_move (show a.eval (.tmp 22) = .int .i64 272 from (ho 22 (by kernel_rfl)).trans e22)) (Below.refl _ _) rfl
    refine AllOk.cons ?_ ?_
    · intro a w hz hb ho hg
      refine Or.inl ⟨by rw [wanted_of (j := 78) rfl rfl rfl (show a.tmps.getD 156 undef = .bool true from got_of hg (j := 78) rfl rfl rfl)]; rfl, ?_⟩
      exact wp_value hb.size (run_bin (show a.eval (.tmp 157) = .int .i64 272 from got_of hg (j := 79) rfl rfl rfl) (rfl : a.eval (.const (.int .i64 272)) = .int .i64 272) (eq_int _ _ _ _ _ _) (bin_err _)) (Below.refl _ _) rfl
    refine AllOk.cons ?_ ?_
    · intro a w hz hb ho hg
      refine Or.inl ⟨by exact wanted_none rfl, ?_⟩
      exact wp_value hb.size (run_pick (show a.eval (.tmp 156) = .bool true from got_of hg (j := 78) rfl rfl rfl) (show a.eval (.tmp 158) = .bool true from got_of hg (j := 80) rfl rfl rfl)) (Below.refl _ _) rfl
    refine AllOk.cons ?_ ?_
    · intro a w hz hb ho hg
      refine Or.inl ⟨by exact wanted_none rfl, ?_⟩
      exact wp_value hb.size (run_move (show a.eval (.tmp 159) = .bool true from got_of hg (j := 81) rfl rfl rfl)) (Below.refl _ _) rfl
    refine AllOk.cons ?_ ?_
    · intro a w hz hb ho hg
      refine Or.inl ⟨by rw [wanted_of (j := 82) rfl rfl rfl (show a.tmps.getD 160 undef = .bool true from got_of hg (j := 82) rfl rfl rfl)]; rfl, ?_⟩
      exact wp_value hb.size (run_move (show a.eval (.tmp 24) = .int .i64 271 from (ho 24 (by kernel_rfl)).trans e24)) (Below.refl _ _) rfl
    refine AllOk.cons ?_ ?_
    · intro a w hz hb ho hg
      refine Or.inl ⟨by rw [wanted_of (j := 82) rfl rfl rfl (show a.tmps.getD 160 undef = .bool true from got_of hg (j := 82) rfl rfl rfl)]; rfl, ?_⟩
      exact wp_value hb.size (run_bin (show a.eval (.tmp 161) = .int .i64 271 from got_of hg (j := 83) rfl rfl rfl) (rfl : a.eval (.const (.int .i64 271)) = .int .i64 271) (eq_int _ _ _ _ _ _) (bin_err _)) (Below.refl _ _) rfl
    refine AllOk.cons ?_ ?_
    · intro a w hz hb ho hg
      refine Or.inl ⟨by exact wanted_none rfl, ?_⟩
      exact wp_value hb.size (run_pick (show a.eval (.tmp 160) = .bool true from got_of hg (j := 82) rfl rfl rfl) (show a.eval (.tmp 162) = .bool true from got_of hg (j := 84) rfl rfl rfl)) (Below.refl _ _) rfl
    refine AllOk.cons ?_ ?_
    · intro a w hz hb ho hg
      refine Or.inl ⟨by exact wanted_none rfl, ?_⟩
      exact wp_value hb.size (run_move (show a.eval (.tmp 163) = .bool true from got_of hg (j := 85) rfl rfl rfl)) (Below.refl _ _) rfl
    refine AllOk.cons ?_ ?_
    · intro a w hz hb ho hg
      refine Or.inl ⟨by rw [wanted_of (j := 86) rfl rfl rfl (show a.tmps.getD 164 undef = .bool true from got_of hg (j := 86) rfl rfl rfl)]; rfl, ?_⟩
      exact wp_value hb.size (run_lit (L := [49, 50, 51, 52, 53, 54, 55, 56, 57]) (by kernel_rfl)) ((Below.refl _ _).alloc (Nat.le_refl _) _) ⟨lit_txt w [49, 50, 51, 52, 53, 54, 55, 56, 57] 9 rfl (by decide), _, _, _, rfl, hb.size⟩
    refine AllOk.cons ?_ ?_
    · intro a w hz hb ho hg
      refine Or.inl ⟨by rw [wanted_of (j := 86) rfl rfl rfl (show a.tmps.getD 164 undef = .bool true from got_of hg (j := 86) rfl rfl rfl)]; rfl, ?_⟩
      exact wp_step (run_same (n := W0.heap.size) (show Txt w _ _ ∧ _ from got_of hg (j := 87) rfl rfl rfl))
    refine AllOk.cons ?_ ?_
    · intro a w hz hb ho hg
      refine Or.inl ⟨by rw [wanted_of (j := 86) rfl rfl rfl (show a.tmps.getD 164 undef = .bool true from got_of hg (j := 86) rfl rfl rfl)]; rfl, ?_⟩
      exact wp_calls hb.size (run_call (args := #[a.tmps.getD 166 undef]) enters17 (by simp [Act.eval])) ((Checksum_txt (a.tmps.getD 166 undef) [49, 50, 51, 52, 53, 54, 55, 56, 57] w (show Txt w _ _ from got_of hg (j := 88) rfl rfl rfl)).mono (by rintro e w' ⟨rfl, hb'⟩; exact ⟨_, rfl, hb', by rw [c_1]; rfl⟩))
    refine AllOk.cons ?_ ?_
    · intro a w hz hb ho hg
      refine Or.inl ⟨by rw [wanted_of (j := 86) rfl rfl rfl (show a.tmps.getD 164 undef = .bool true from got_of hg (j := 86) rfl rfl rfl)]; rfl, ?_⟩
      exact wp_value hb.size (run_bin (show a.eval (.tmp 167) = .int .u32 3421780262 from got_of hg (j := 89) rfl rfl rfl) (rfl : a.eval (.const (.int .u32 3421780262)) = .int .u32 3421780262) (eq_int _ _ _ _ _ _) (bin_u32 _)) (Below.refl _ _) rfl
    refine AllOk.cons ?_ ?_
    · intro a w hz hb ho hg
      refine Or.inl ⟨by exact wanted_none rfl, ?_⟩
      exact wp_value hb.size (run_pick (show a.eval (.tmp 164) = .bool true from got_of hg (j := 86) rfl rfl rfl) (show a.eval (.tmp 168) = .bool true from got_of hg (j := 90) rfl rfl rfl)) (Below.refl _ _) rfl
    refine AllOk.cons ?_ ?_
    · intro a w hz hb ho hg
      refine Or.inl ⟨by exact wanted_none rfl, ?_⟩
      exact wp_value hb.size (run_move (show a.eval (.tmp 169) = .bool true from got_of hg (j := 91) rfl rfl rfl)) (Below.refl _ _) rfl
    refine AllOk.cons ?_ ?_
    · intro a w hz hb ho hg
      refine Or.inl ⟨by rw [wanted_of (j := 92) rfl rfl rfl (show a.tmps.getD 170 undef = .bool true from got_of hg (j := 92) rfl rfl rfl)]; rfl, ?_⟩
      exact wp_calls hb.size (run_call (args := #[.slice none 0 0]) enters17 (by simp [Act.eval])) ((Checksum_txt (.slice none 0 0) [] w (Txt.nil w)).mono (by rintro e w' ⟨rfl, hb'⟩; exact ⟨_, rfl, hb', by rw [c_0]; rfl⟩))
    refine AllOk.cons ?_ ?_
    · intro a w hz hb ho hg
      refine Or.inl ⟨by rw [wanted_of (j := 92) rfl rfl rfl (show a.tmps.getD 170 undef = .bool true from got_of hg (j := 92) rfl rfl rfl)]; rfl, ?_⟩
      exact wp_value hb.size (run_bin (show a.eval (.tmp 171) = .int .u32 0 from got_of hg (j := 93) rfl rfl rfl) (rfl : a.eval (.const (.int .u32 0)) = .int .u32 0) (eq_int _ _ _ _ _ _) (bin_u32 _)) (Below.refl _ _) rfl
    refine AllOk.cons ?_ ?_
    · intro a w hz hb ho hg
      refine Or.inl ⟨by exact wanted_none rfl, ?_⟩
      exact wp_value hb.size (run_pick (show a.eval (.tmp 170) = .bool true from got_of hg (j := 92) rfl rfl rfl) (show a.eval (.tmp 172) = .bool true from got_of hg (j := 94) rfl rfl rfl)) (Below.refl _ _) rfl
    refine AllOk.cons ?_ ?_
    · intro a w hz hb ho hg
      refine Or.inl ⟨by exact wanted_none rfl, ?_⟩
      exact wp_value hb.size (run_assign (show a.eval (.tmp 173) = .bool true from got_of hg (j := 95) rfl rfl rfl)) (Below.refl _ _) rfl
    exact AllOk.nil
  · intro a w' hg
    have hv : a.tmps.getD 0 undef = .bool true := hg.got 96 (by kernel_rfl) _ _ rfl rfl
    have hd : a.defers = [] := hg.defs.trans hdf
    have hbw := kb.trans (hg.below.mono kb.size)
    clear hg e1 e2 e4 e5 e6 e7 e10 e13 e16 e17 e18 e19 e20 e22 e24
    obtain ⟨tm, df⟩ := a
    simp only at hd
    subst hd
    go_wp2_with fail
    exact bodyPost_ret (results_tmp rfl _ _ _) rfl ⟨congrArg _ hv, hbw⟩
end Go.Proofs.YteljhjljigbcjaaGreatDoor.Cv
