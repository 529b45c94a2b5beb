/- Contracts of decode's deferred closure and of decode. -/
import Derived.Test.YteljhjljigbcjaaGreatDoorCvG
import Derived.Defers
import Derived.Recover
import Derived.Laws.Pointers
import Derived.Laws.NewBlocks
set_option linter.unusedVariables false
namespace Go.Proofs.YteljhjljigbcjaaGreatDoor.Cv
open Go.RowKit

set_option maxRecDepth 100000 in
theorem catch_idle (pn pe : Addr) (w : World) :
    CallsD Tryz.prog 54 #[.pointer (some pn), .pointer (some pe)] .returning w fun e u' w' => e = .returned (.tuple #[]) ∧ u' = .returning ∧ w' = w := by
  refine callsD_of_wpS Tryz.func54 rfl fun c₀ cs hu => ?_
  apply wpS_seq
  apply wpS_region
  simp [wpOpsS, go_sem, recoverD, hu, Tryz.ntmps54, Exit.thenS]
  apply wpS_seq
  apply wpS_region
  simp [wpOpsS, go_sem, Exit.thenS]
  refine wpS_cond (t := false) (by simp [Act.eval, Array.replicate]) ?_
  simp only [Bool.false_eq_true, if_false]
  refine wpS_of_wp (wp_skip ?_)
  cases c₀
  simp_all [bodyPostS, results, Tryz.results54]

theorem assert_fail (k : Int) (w : World) : (Instr.typeAssert (.iface 93 (.agg #[.int .i64 k])) 20 93 true).run Tryz.prog w = .ok (.tuple #[.agg #[.int .i64 k], .bool true]) w := by kernel_rfl
set_option maxRecDepth 100000 in
theorem catch_panicking (a b : Nat) (k : Int) (older : List PanicEntry) (w : World) (x y : Int) (hab : a ≠ b) (hc : w.cell? ⟨a, 0, none⟩ = some (.int .i64 x)) (hz : w.frozen? ⟨a, 0, none⟩ = false) (hc' : w.cell? ⟨b, 0, none⟩ = some (.int .i64 y)) (hz' : w.frozen? ⟨b, 0, none⟩ = false) :
    CallsD Tryz.prog 54 #[.pointer (some ⟨a, 0, none⟩), .pointer (some ⟨b, 0, none⟩)] (.panicking ({ v := .iface 93 (.agg #[.int .i64 k]), recovered := false } :: older)) w fun e u' w' =>
      e = .returned (.tuple #[]) ∧ u' = .panicking ({ v := .iface 93 (.agg #[.int .i64 k]), recovered := true } :: older) ∧ w' = (((w.setCell ⟨a, 0, none⟩ (.int .i64 0)).setCell ⟨b, 0, none⟩ (.int .i64 k)).alloc (.cells #[.int .i64 k] 93)).drew := by
  refine callsD_of_wpS Tryz.func54 rfl fun c₀ cs hu => ?_
  apply wpS_seq
  apply wpS_region
  simp [wpOpsS, go_sem, recoverD, hu, Tryz.ntmps54, Exit.thenS]
  refine wpS_of_wp ?_
  generalize hK : (fun (e : Exit) (a' : Act) (w' : World) => _) = K
  have hk : ∀ (t : Array Value), K .normal ⟨t, []⟩ ((((w.setCell ⟨a, 0, none⟩ (.int .i64 0)).setCell ⟨b, 0, none⟩ (.int .i64 k)).alloc (.cells #[.int .i64 k] 93)).drew) := by
    intro t
    subst hK
    simp [bodyPostS, results, Tryz.results54]
  clear hK
  have hta := assert_fail k
  show Code.wp _ _ _ ⟨#[.pointer (some ⟨a, 0, none⟩), .pointer (some ⟨b, 0, none⟩), .iface 93 (.agg #[.int .i64 k]), undef, undef, .iface 93 (.agg #[.int .i64 k]), undef, undef, undef, undef, undef, undef, undef, undef, undef, undef, undef, undef], []⟩ _
  have ha := World.block_lt_of_cell? w _ hc
  have hb := World.block_lt_of_cell? w _ hc'
  have e1 : (w.alloc (.cells #[.int .i64 k] 93)).cell? ⟨a, 0, none⟩ = some (.int .i64 x) := by rw [World.cell?_alloc_past _ _ _ ha]; exact hc
  have e2 : (w.alloc (.cells #[.int .i64 k] 93)).cell? ⟨b, 0, none⟩ = some (.int .i64 y) := by rw [World.cell?_alloc_past _ _ _ hb]; exact hc'
  have e3 : (w.alloc (.cells #[.int .i64 k] 93)).cell? ⟨w.heap.size, 0, none⟩ = some (.int .i64 k) := by rw [cell_of_row _ _ 0 _ _ _ (heap_alloc_last w _)]; rfl
  go_wp2_with fail
  go_region
  all_goals exact hk _

theorem set_two {w : World} {B : Nat} {a b : Value} {T U : TypeId} (h : w.heap[B]? = some (.cells #[a] T (0, 0))) (k : w.heap[B + 1]? = some (.cells #[b] U (0, 0))) (x y : Value) :
    (((w.setCell ⟨B, 0, none⟩ x).setCell ⟨B + 1, 0, none⟩ y)).heap[B]? = some (.cells #[x] T (0, 0)) ∧ (((w.setCell ⟨B, 0, none⟩ x).setCell ⟨B + 1, 0, none⟩ y)).heap[B + 1]? = some (.cells #[y] U (0, 0)) := by
  have h1 : (w.setCell ⟨B, 0, none⟩ x).heap[B]? = some (.cells #[x] T (0, 0)) := by rw [setCell_eq_setRow w B 0 _ _ _ _ h]; exact setRow_heap w B _ _ _ _ h
  have h2 : (w.setCell ⟨B, 0, none⟩ x).heap[B + 1]? = some (.cells #[b] U (0, 0)) := by rw [Below.heap_setCell _ _ _ _ (by simp)]; exact k
  refine ⟨by rw [Below.heap_setCell _ _ _ _ (by simp)]; exact h1, ?_⟩
  rw [setCell_eq_setRow _ (B + 1) 0 _ _ _ _ h2]; exact setRow_heap _ (B + 1) _ _ _ _ h2
/-- but for the blocks B and B + 1 and new ones, w' is as w was -/
structure Fin2 (B : Nat) (w w' : World) : Prop where
  os : w'.os = w.os
  tape : w'.tape = w.tape
  output : w'.output = w.output
  size : w.heap.size ≤ w'.heap.size
  block : ∀ k, k < w.heap.size → k ≠ B → k ≠ B + 1 → w'.heap[k]? = w.heap[k]?
/-- the world in which decode calls its function -/
def W3 (w : World) (v : Value) : World := ((w.alloc (.cells #[.int .i64 0] 3)).alloc (.cells #[.int .i64 0] 31)).alloc (.cells #[v, .int .i64 0] 96)
/-- what decode's function does -/
def Clo {α : Type} (w : World) (v : Value) (L : List UInt8) (o : Out α) (X : α → World → Prop) (Y : World → Prop) (e : Ending) (w' : World) : Prop :=
  w'.heap[w.heap.size]? = some (.cells #[.int .i64 0] 3 (0, 0)) ∧ w'.heap[w.heap.size + 1]? = some (.cells #[.int .i64 0] 31 (0, 0)) ∧ Y w' ∧
  match o with
  | .ok a q => e = .returned (.tuple #[]) ∧ w'.heap[w.heap.size + 1 + 1]? = some (.cells #[v, .int .i64 q] 96 (0, 0)) ∧ X a w'
  | .bad k => e = .panicked (pan k)

set_option maxRecDepth 100000 in
set_option maxHeartbeats 1000000 in
theorem decode_any {α : Type} (v : Value) (L : List UInt8) (w : World) (h : Txt w v L) (F : Nat) (cap : Array Value) (hF : ∀ args w, (callFunc F args).run Tryz.prog w = .ok (.enter F args) w)
    (o : Out α) (X : α → World → Prop) (Y : World → Prop) (hf : Calls Tryz.prog F (#[.pointer (some ⟨w.heap.size + 1 + 1, 0, none⟩)] ++ cap) (W3 w v) (Clo w v L o X Y)) :
    Calls Tryz.prog 26 #[v, .func (.func F) #[] cap] w fun e w' => ∃ w0, Fin2 w.heap.size w0 w' ∧ Y w0 ∧
      match (generalizing := false) o with
      | .ok a q => e = .returned (.tuple #[.int .i64 q, .int .i64 0]) ∧ X a w0
      | .bad k => e = .returned (.tuple #[.int .i64 0, .int .i64 k]) := by
  have hmf : ∀ (fn : Fn) (first cap : Array Value) (w : World), (Instr.makeFunc fn first cap).run Tryz.prog w = .ok (.func fn first cap) w := fun _ _ _ _ => rfl
  obtain ⟨ao, c, rfl, h0, h1, h2, hcell⟩ := h
  clear hcell h0 h1 h2
  unfold W3 at hf
  cases o with
  | bad k =>
    go_enter_defers Tryz.func26, Tryz.ntmps26
    go_wp2_with fail
    refine hf.mono ?_
    rintro e w1 ⟨b0, b1, hY, rfl⟩
    have c0 : w1.cell? ⟨w.heap.size, 0, none⟩ = some (.int .i64 0) := by rw [cell_of_row w1 _ 0 _ _ _ b0]; rfl
    have c1 : w1.cell? ⟨w.heap.size + 1, 0, none⟩ = some (.int .i64 0) := by rw [cell_of_row w1 _ 0 _ _ _ b1]; rfl
    have f0 : w1.frozen? ⟨w.heap.size, 0, none⟩ = false := by simp [World.frozen?, b0]
    have f1 : w1.frozen? ⟨w.heap.size + 1, 0, none⟩ = false := by simp [World.frozen?, b1]
    go_wp2_with fail
    refine leaves_cons (f := 54) (args := #[.pointer (some ⟨w.heap.size, 0, none⟩), .pointer (some ⟨w.heap.size + 1, 0, none⟩)]) (by simp) (by simp [go_sem]) ?_
    refine (catch_panicking w.heap.size (w.heap.size + 1) k [] w1 0 0 (by omega) c0 f0 c1 f1).mono ?_
    rintro e u' w'' ⟨rfl, rfl, rfl⟩
    have k0 := set_two b0 b1 (.int .i64 0) (.int .i64 k)
    have hB := lt_of_heap b1
    have e0 : ((((w1.setCell ⟨w.heap.size, 0, none⟩ (.int .i64 0)).setCell ⟨w.heap.size + 1, 0, none⟩ (.int .i64 k)).alloc (.cells #[.int .i64 k] 93))).cell? ⟨w.heap.size, 0, none⟩ = some (.int .i64 0) := by
      rw [cell_of_row _ _ 0 _ _ _ (by rw [Below.heap_alloc _ _ _ (by simp only [size_setCell]; omega)]; exact k0.1)]; rfl
    have e1 : ((((w1.setCell ⟨w.heap.size, 0, none⟩ (.int .i64 0)).setCell ⟨w.heap.size + 1, 0, none⟩ (.int .i64 k)).alloc (.cells #[.int .i64 k] 93))).cell? ⟨w.heap.size + 1, 0, none⟩ = some (.int .i64 k) := by
      rw [cell_of_row _ _ 0 _ _ _ (by rw [Below.heap_alloc _ _ _ (by simp only [size_setCell]; omega)]; exact k0.2)]; rfl
    have hfin : Fin2 w.heap.size w1 (((w1.setCell ⟨w.heap.size, 0, none⟩ (.int .i64 0)).setCell ⟨w.heap.size + 1, 0, none⟩ (.int .i64 k)).alloc (.cells #[.int .i64 k] 93)).drew := by
      refine ⟨rfl, rfl, rfl, ?_, fun j hj h1 h2 => ?_⟩
      · show w1.heap.size ≤ (((w1.setCell ⟨w.heap.size, 0, none⟩ (.int .i64 0)).setCell ⟨w.heap.size + 1, 0, none⟩ (.int .i64 k)).alloc _).heap.size
        rw [World.size_alloc, size_setCell, size_setCell]; omega
      · show (((w1.setCell ⟨w.heap.size, 0, none⟩ (.int .i64 0)).setCell ⟨w.heap.size + 1, 0, none⟩ (.int .i64 k)).alloc _).heap[j]? = _
        rw [Below.heap_alloc _ _ _ (by simp only [size_setCell]; omega), Below.heap_setCell _ _ _ _ h2, Below.heap_setCell _ _ _ _ h1]
    simp [Leaves, settle, results, Tryz.results26, go_sem, e0, e1]
    exact ⟨w1, hfin, hY⟩
  | ok a q =>
    go_enter_defers Tryz.func26, Tryz.ntmps26
    go_wp2_with fail
    refine hf.mono ?_
    rintro e w1 ⟨b0, b1, hY, rfl, b2, hX⟩
    have c0 : w1.cell? ⟨w.heap.size, 0, none⟩ = some (.int .i64 0) := by rw [cell_of_row w1 _ 0 _ _ _ b0]; rfl
    have c1 : w1.cell? ⟨w.heap.size + 1, 0, none⟩ = some (.int .i64 0) := by rw [cell_of_row w1 _ 0 _ _ _ b1]; rfl
    have f0 : w1.frozen? ⟨w.heap.size, 0, none⟩ = false := by simp [World.frozen?, b0]
    have f1 : w1.frozen? ⟨w.heap.size + 1, 0, none⟩ = false := by simp [World.frozen?, b1]
    have c2 : w1.cell? ⟨w.heap.size + 1 + 1, 1, none⟩ = some (.int .i64 q) := by rw [cell_of_row w1 _ 1 _ _ _ b2]; rfl
    go_wp2_with fail
    refine leaves_cons (f := 54) (args := #[.pointer (some ⟨w.heap.size, 0, none⟩), .pointer (some ⟨w.heap.size + 1, 0, none⟩)]) (by simp) (by simp [go_sem]) ?_
    refine (catch_idle ⟨w.heap.size, 0, none⟩ ⟨w.heap.size + 1, 0, none⟩ _).mono ?_
    rintro e u' w'' ⟨rfl, rfl, rfl⟩
    have k0 := set_two b0 b1 (.int .i64 (q : Int)) (.int .i64 0)
    have hB := lt_of_heap b1
    have e0 : ((w1.setCell ⟨w.heap.size, 0, none⟩ (.int .i64 (q : Int))).setCell ⟨w.heap.size + 1, 0, none⟩ (.int .i64 0)).cell? ⟨w.heap.size, 0, none⟩ = some (.int .i64 q) := by rw [cell_of_row _ _ 0 _ _ _ k0.1]; rfl
    have e1 : ((w1.setCell ⟨w.heap.size, 0, none⟩ (.int .i64 (q : Int))).setCell ⟨w.heap.size + 1, 0, none⟩ (.int .i64 0)).cell? ⟨w.heap.size + 1, 0, none⟩ = some (.int .i64 0) := by rw [cell_of_row _ _ 0 _ _ _ k0.2]; rfl
    have hfin : Fin2 w.heap.size w1 ((w1.setCell ⟨w.heap.size, 0, none⟩ (.int .i64 (q : Int))).setCell ⟨w.heap.size + 1, 0, none⟩ (.int .i64 0)) :=
      ⟨rfl, rfl, rfl, by rw [size_setCell, size_setCell]; omega, fun j hj h1 h2 => by rw [Below.heap_setCell _ _ _ _ h2, Below.heap_setCell _ _ _ _ h1]⟩
    simp [Leaves, settle, results, Tryz.results26, go_sem, e0, e1]
    exact ⟨w1, hfin, hY, hX⟩
end Go.Proofs.YteljhjljigbcjaaGreatDoor.Cv
