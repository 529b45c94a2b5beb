/- The laws' fixed examples: they hold, whatever the world. -/
import Derived.Test.YteljhjljigbcjaaGreatDoorCvP
import Derived.Test.YteljhjljigbcjaaGreatDoorCvO
import Derived.Test.YteljhjljigbcjaaGreatDoorCvU
set_option linter.unusedVariables false
namespace Go.Proofs.YteljhjljigbcjaaGreatDoor.Cv
open Go.RowKit

theorem lit_txt (w : World) (L : List UInt8) (n : Nat) (hn : L.length = n) (hm : n ≤ 1000) : Txt (w.alloc (.cells (Lib.byteCells L).toArray 5)) (.slice (some ⟨w.heap.size, 0, none⟩) n n) L := by
  subst hn
  refine ⟨some ⟨w.heap.size, 0, none⟩, L.length, rfl, by simp, Nat.le_refl _, by simp only [maxLen]; omega, fun b hb j u hu => ?_⟩
  obtain rfl := Option.some.inj hb
  rw [show (⟨w.heap.size, 0, none⟩ : Addr).add j = ⟨w.heap.size, j, none⟩ from by unfold Addr.add; split <;> simp_all, cell_of_row _ _ j _ _ _ (heap_alloc_last w _)]
  simpa using hu
theorem x1 : rdE [2, 2, 97, 0, 9] 0 = .ok ⟨1, [97], []⟩ 4 := by rfl
theorem x2 : rdE [2, 2, 97] 0 = .bad 271 := by rfl
theorem x3 : rdE [2, 0, 0] 0 = .bad 272 := by rfl
theorem x4 : rdV [128, 0] 0 = .bad 272 := by rfl
theorem x5 : rdM [4, 2, 6, 8, 10, 0] 0 = .ok ⟨2, 1, 3, 4, 5, zeroE⟩ 6 := by rfl
theorem x6 : rdM [4, 2, 6, 8, 10, 0, 0] 0 = .bad 272 := by rfl
theorem v_0 : vint 0 = [0] := by unfold vint; rw [show zig 0 = 0 from rfl, enc_small (by decide)]; rfl
theorem v_1 : vint 1 = [2] := by unfold vint; rw [show zig 1 = 2 from rfl, enc_small (by decide)]; rfl
theorem v_2 : vint 2 = [4] := by unfold vint; rw [show zig 2 = 4 from rfl, enc_small (by decide)]; rfl
theorem v_3 : vint 3 = [6] := by unfold vint; rw [show zig 3 = 6 from rfl, enc_small (by decide)]; rfl
theorem v_4 : vint 4 = [8] := by unfold vint; rw [show zig 4 = 8 from rfl, enc_small (by decide)]; rfl
theorem v_5 : vint 5 = [10] := by unfold vint; rw [show zig 5 = 10 from rfl, enc_small (by decide)]; rfl
theorem v_m : vint (-1) = [1] := by unfold vint; rw [show zig (-1) = 1 from rfl, enc_small (by decide)]; rfl
theorem v_300 : vint 300 = [216, 4] := by unfold vint; rw [show zig 300 = 600 from rfl, enc_big (by decide), enc_small (by decide)]; rfl
theorem e_1 : encE ⟨1, [97], []⟩ = [2, 2, 97, 0] := by
  simp only [encE, bytesOf, List.length_cons, List.length_nil]
  rw [show ((0 + 1 : Nat) : Int) = 1 from rfl, show ((0 : Nat) : Int) = 0 from rfl, v_0, v_1]; rfl
theorem m_1 : encM ⟨2, 1, 3, 4, 5, zeroE⟩ = [4, 2, 6, 8, 10, 0] := by
  simp only [encM, encO, if_pos (show isZ zeroE from ⟨rfl, rfl, rfl⟩), v_0, v_1, v_2, v_3, v_4, v_5]; rfl
theorem c_1 : crc [49, 50, 51, 52, 53, 54, 55, 56, 57] = 3421780262 := by decide +kernel
theorem c_0 : crc [] = 0 := by decide +kernel

theorem wp_conv_txt {o : Oper} {a : Act} {w : World} {K : Act → World → Prop} {Q : Exit → Act → World → Prop} (x : Operand) (ho : o.op = .convert 22 9 x)
    (v : Value) (L : List UInt8) (hx : a.eval x = v) (ht : Txt w v L) (h : K (a.put o.dst (.string (str L))) w) : o.wp Tryz.prog a w K Q := by
  have := conv_txt ht
  unfold Oper.wp execOp
  simp only [ho, hx, this, Sem.run_bind, Sem.run_pure, Result.andThen_ok, Oper.upon_value]
  exact h
/-- what lay below n in X lies in w as it lay -/
structure Trk (n : Nat) (X w : World) : Prop where
  below : Below n X w
  le : n ≤ w.heap.size
theorem Trk.start (w : World) : Trk w.heap.size w w := ⟨Below.refl _ _, Nat.le_refl _⟩
theorem Trk.alloc {n : Nat} {X w : World} (h : Trk n X w) (o : Obj) : Trk n X (w.alloc o) := ⟨h.below.alloc h.le o, by rw [World.size_alloc]; have := h.le; omega⟩
theorem Trk.call {n : Nat} {X w w' : World} (h : Trk n X w) (b : Below w.heap.size w w') : Trk n X w' := ⟨h.below.trans (b.mono h.le), Nat.le_trans h.le b.size⟩
theorem lit_txt' (w : World) (L : List UInt8) (n k : Nat) (hk : w.heap.size = k) (hn : L.length = n) (hm : n ≤ 1000) : Txt (w.alloc (.cells (Lib.byteCells L).toArray 5)) (.slice (some ⟨k, 0, none⟩) n n) L := by
  subst hk; exact lit_txt w L n hn hm
end Go.Proofs.YteljhjljigbcjaaGreatDoor.Cv
