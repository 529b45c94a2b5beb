/- Contract of codec.DecodeSpacecraft at nil. -/
import Derived.Test.YteljhjljigbcjaaGreatDoorCvJ
set_option linter.unusedVariables false
namespace Go.Proofs.YteljhjljigbcjaaGreatDoor.Cv
open Go.RowKit

def sz : Array Value := #[.string ⟨#[]⟩, .slice none 0 0, .slice none 0 0, .slice none 0 0, .slice none 0 0]
theorem space_clo (w : World) (C : Nat) (T : TypeId) (hC : w.heap[C]? = some (.cells sz T (0, 0))) :
    Calls Tryz.prog 46 #[.pointer (some ⟨w.heap.size + 1 + 1, 0, none⟩), .pointer (some ⟨C, 0, none⟩)] (W3 w (.slice none 0 0))
      (Clo w (.slice none 0 0) [] (Out.bad 271 : Out Unit) (fun _ _ => True) (Away C w)) := by
  have hs := w3_src (Txt.nil w)
  have ho : rdB 1 12 [] 0 = .bad 271 := by rfl
  go_enter Tryz.func46, Tryz.ntmps46
  go_wp2_with fail
  refine (bytes_any 1 12 _ _ 0 _ [] hs ⟨by simp⟩ (by omega) (by omega)).mono ?_
  rintro e w1 ⟨q, hq, hm, hv⟩
  rw [ho] at hv; obtain rfl := hv
  go_wp2_with fail
  exact ⟨rfl, (clo_of_moved hm).1, (clo_of_moved hm).2, Away.ofMoved hm, rfl⟩
theorem entersS : ∀ args w, (callFunc 46 args).run Tryz.prog w = .ok (.enter 46 args) w := fun args w => by kernel_rfl

set_option maxRecDepth 100000 in
set_option maxHeartbeats 1000000 in
theorem DecodeSpacecraft_nil (w : World) :
    Calls Tryz.prog 25 #[.slice none 0 0] w fun e w' => Below w.heap.size w w' ∧ e = .returned (.tuple #[.agg sz, .int .i64 271]) := by
  have hmf : ∀ (fn : Fn) (first cap : Array Value) (w : World), (Instr.makeFunc fn first cap).run Tryz.prog w = .ok (.func fn first cap) w := fun _ _ _ _ => rfl
  obtain ⟨WE, hWE⟩ : ∃ W, W = (w.alloc (.cells sz 58)).alloc (.cells sz 58) := ⟨_, rfl⟩
  have hb : Below w.heap.size w WE := by rw [hWE]; exact ((Below.refl _ _).alloc (Nat.le_refl _) _).alloc (by simp) _
  have hsz : WE.heap.size = w.heap.size + 2 := by rw [hWE]; simp
  have hr : WE.heap[w.heap.size]? = some (.cells sz 58 (0, 0)) := by rw [hWE, Below.heap_alloc _ _ _ (by simp)]; exact heap_alloc_last _ _
  have hx : WE.heap[w.heap.size + 1]? = some (.cells sz 58 (0, 0)) := by
    have := heap_alloc_last (w.alloc (.cells sz 58)) (.cells sz 58)
    rw [hWE]; simpa using this
  have hdec := decode_any (.slice none 0 0) [] WE (Txt.nil _) 46 #[.pointer (some ⟨w.heap.size + 1, 0, none⟩)] entersS _ _ _ (space_clo WE (w.heap.size + 1) _ hx)
  rw [hsz] at hdec
  unfold sz at hWE
  go_enter Tryz.func25, Tryz.ntmps25
  go_wp2_with fail
  rw [← hWE]
  refine hdec.mono ?_
  rintro e w1 ⟨w0, hfin, haw, rfl⟩
  have hr1 : w1.heap[w.heap.size]? = some (.cells sz 58 (0, 0)) := by
    rw [hfin.block _ (by have := haw.size; omega) (by omega) (by omega), haw.block _ (by omega) (by omega)]; exact hr
  have kf : ∀ i, w1.frozen? ⟨w.heap.size, i, none⟩ = false := fun i => by simp [World.frozen?, hr1]
  have c0 : w1.cell? ⟨w.heap.size, 0, none⟩ = some (.string ⟨#[]⟩) := by rw [cell_of_row w1 _ 0 _ _ _ hr1]; rfl
  have c1 : w1.cell? ⟨w.heap.size, 1, none⟩ = some (.slice none 0 0) := by rw [cell_of_row w1 _ 1 _ _ _ hr1]; rfl
  have c2 : w1.cell? ⟨w.heap.size, 2, none⟩ = some (.slice none 0 0) := by rw [cell_of_row w1 _ 2 _ _ _ hr1]; rfl
  have c3 : w1.cell? ⟨w.heap.size, 3, none⟩ = some (.slice none 0 0) := by rw [cell_of_row w1 _ 3 _ _ _ hr1]; rfl
  have c4 : w1.cell? ⟨w.heap.size, 4, none⟩ = some (.slice none 0 0) := by rw [cell_of_row w1 _ 4 _ _ _ hr1]; rfl
  have f0 := kf 0
  have f1 := kf 1
  have f2 := kf 2
  have f3 := kf 3
  have f4 := kf 4
  have hbf : Below w.heap.size w w1 := ⟨(hfin.os.trans haw.os).trans hb.os, (hfin.tape.trans haw.tape).trans hb.tape, (hfin.output.trans haw.output).trans hb.output, by have := hfin.size; have := haw.size; omega,
    fun k hk => by rw [hfin.block k (by have := haw.size; omega) (by omega) (by omega), haw.block k (by omega) (by omega)]; exact hb.block k hk⟩
  have HR := Aside.mk hr1
  clear hr1 kf hWE
  go_wp2_with fail
  have hrow : (((((w1.setCell ⟨w.heap.size, 0, none⟩ (.string ⟨#[]⟩)).setCell ⟨w.heap.size, 1, none⟩ (.slice none 0 0)).setCell ⟨w.heap.size, 2, none⟩ (.slice none 0 0)).setCell ⟨w.heap.size, 3, none⟩ (.slice none 0 0)).setCell ⟨w.heap.size, 4, none⟩ (.slice none 0 0)).heap[w.heap.size]? = some (.cells sz 58 (0, 0)) := by
    have st : ∀ {W : World} {cs : Array Value} (i : Nat) (x : Value), W.heap[w.heap.size]? = some (.cells cs 58 (0, 0)) → (W.setCell ⟨w.heap.size, i, none⟩ x).heap[w.heap.size]? = some (.cells (cs.setIfInBounds i x) 58 (0, 0)) := fun i x h => by
      rw [setCell_eq_setRow _ w.heap.size i _ _ _ _ h]; exact setRow_heap _ w.heap.size _ _ _ _ h
    rw [st 4 _ (st 3 _ (st 2 _ (st 1 _ (st 0 _ HR.out))))]
    simp [sz]
  refine bodyPost_ret (results_cell_1 rfl _ _ w.heap.size 58 sz (0, 0) _ rfl hrow Tryz.underlying58 rfl (by kernel_rfl)) rfl ?_
  exact ⟨((((hbf.setCell (Nat.le_refl _) _).setCell (Nat.le_refl _) _).setCell (Nat.le_refl _) _).setCell (Nat.le_refl _) _).setCell (Nat.le_refl _) _, rfl⟩
end Go.Proofs.YteljhjljigbcjaaGreatDoor.Cv
