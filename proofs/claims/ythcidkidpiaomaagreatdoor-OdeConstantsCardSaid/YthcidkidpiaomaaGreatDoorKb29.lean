/- OfF -/
import Derived.Test.YthcidkidpiaomaaGreatDoorKb28
section
set_option linter.unusedVariables false
set_option linter.unusedSimpArgs false
namespace Go.Proofs.YthcidkidpiaomaaGreatDoor.Od
open Go.RowKit Rg
set_option maxRecDepth 100000 in
set_option maxHeartbeats 8000000 in
theorem rUnary_any (w : World) (op : Int) (v : Value) (e : List Nd) (h : Rd w v e) (hne : e ≠ []) (hl : e.length ≤ 90000) :
    Calls Tryz.prog 41 #[.int .i64 op, v] w fun e' w' => ∃ v', e' = .returned v' ∧ OwnN w.heap.size w' v' (⟨op, 0, 0, 0⟩ :: e) ∧ Below w.heap.size w w' := by
  have hal : Below w.heap.size w (w.alloc (.cells #[.int .i64 op, .int .i64 0, .int .i64 0, .int .i64 0] 79)) := (Below.refl _ _).alloc (Nat.le_refl _) _
  have HAL := Aside.mk hal
  have HR := Aside.mk (h.below hal)
  have HNE := Aside.mk hne
  have HL : Aside ([(⟨op, 0, 0, 0⟩ : Nd)].length + e.length ≤ 100000) := ⟨by simp only [List.length_cons, List.length_nil]; omega⟩
  have HOW : Aside (OwnN w.heap.size (w.alloc (.cells #[.int .i64 op, .int .i64 0, .int .i64 0, .int .i64 0] 79)) (.slice (some ⟨w.heap.size, 0, none⟩) 1 1) [⟨op, 0, 0, 0⟩]) := ⟨own_one (heap_alloc_last _ _) (Nat.le_refl _) rfl⟩
  obtain ⟨ao, cap, rfl, -⟩ := h.out
  clear h hne hl hal
  go_enter Tryz.func41, Tryz.ntmps41
  go_wp2_with (first | (at_builtin; refine wpList_append_nodes _ rfl (.tmp 9) (.tmp 10) rfl w.heap.size _ [⟨op, 0, 0, 0⟩] rfl HOW.out _ e rfl HR.out HNE.out HL.out HAL.out.size ?_; intro v3 w3 ho3 hb3))
  go_ret
  exact ⟨_, rfl, ho3, HAL.out.trans hb3⟩
set_option maxRecDepth 100000 in
set_option maxHeartbeats 8000000 in
theorem rBinary_any (w : World) (op : Int) (v u : Value) (e f : List Nd) (h : Rd w v e) (hne : e ≠ []) (h' : Rd w u f) (hnf : f ≠ []) (hl : e.length + f.length ≤ 90000) :
    Calls Tryz.prog 40 #[.int .i64 op, v, u] w fun e' w' => ∃ v', e' = .returned v' ∧ OwnN w.heap.size w' v' (⟨op, 0, 0, 0⟩ :: (e ++ f)) ∧ Below w.heap.size w w' := by
  have hal : Below w.heap.size w (w.alloc (.cells #[.int .i64 op, .int .i64 0, .int .i64 0, .int .i64 0] 79)) := (Below.refl _ _).alloc (Nat.le_refl _) _
  have HAL := Aside.mk hal
  have HR := Aside.mk (h.below hal)
  have HR' := Aside.mk (h'.below hal)
  have H0 := Aside.mk h'
  have HNE := Aside.mk hne
  have HNF := Aside.mk hnf
  have HL : Aside ([(⟨op, 0, 0, 0⟩ : Nd)].length + e.length ≤ 100000) := ⟨by simp only [List.length_cons, List.length_nil]; omega⟩
  have HL2 : Aside (([(⟨op, 0, 0, 0⟩ : Nd)] ++ e).length + f.length ≤ 100000) := ⟨by simp only [List.length_append, List.length_cons, List.length_nil]; omega⟩
  have HOW : Aside (OwnN w.heap.size (w.alloc (.cells #[.int .i64 op, .int .i64 0, .int .i64 0, .int .i64 0] 79)) (.slice (some ⟨w.heap.size, 0, none⟩) 1 1) [⟨op, 0, 0, 0⟩]) := ⟨own_one (heap_alloc_last _ _) (Nat.le_refl _) rfl⟩
  obtain ⟨ao, cap, rfl, -⟩ := h.out
  obtain ⟨ao', cap', rfl, -⟩ := h'.out
  clear h hne hl hal h' hnf
  go_enter Tryz.func40, Tryz.ntmps40
  go_wp2_with (first | (at_builtin; refine wpList_append_nodes _ rfl (.tmp 11) (.tmp 12) rfl w.heap.size _ [⟨op, 0, 0, 0⟩] rfl HOW.out _ e rfl HR.out HNE.out HL.out HAL.out.size ?_; intro v3 w3 ho3 hb3; have HO3 := Aside.mk ho3; have HB3 := Aside.mk (HAL.out.trans hb3); have HF3 := Aside.mk (H0.out.below HB3.out); clear ho3 hb3) | (at_builtin; refine wpList_append_nodes _ rfl (.tmp 14) (.tmp 15) rfl w.heap.size _ _ rfl HO3.out _ f rfl HF3.out HNF.out HL2.out HB3.out.size ?_; intro v4 w4 ho4 hb4))
  go_ret
  exact ⟨_, rfl, by simpa using ho4, HB3.out.trans hb4⟩
end Go.Proofs.YthcidkidpiaomaaGreatDoor.Od
end
