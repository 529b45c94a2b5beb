/- Contracts of the decoder's methods end and entry. -/
import Derived.Test.YteljhjljigbcjaaGreatDoorCvF
import Derived.Laws.BytesArg
import Derived.Deep.WholeRow
set_option linter.unusedVariables false
namespace Go.Proofs.YteljhjljigbcjaaGreatDoor.Cv
open Go.RowKit

/-- the string of a text -/
def str (L : List UInt8) : ByteArray := ⟨L.toArray⟩
theorem conv_txt {w : World} {v : Value} {L : List UInt8} (h : Txt w v L) : (convert 22 9 v).run Tryz.prog w = .ok (.string (str L)) w := by
  obtain ⟨ao, cap, rfl, h0, h1, h2, hc⟩ := h
  rw [run_convert_bytes_string w _ _ 5 _ _ _ Tryz.underlying22 Tryz.underlying5 Tryz.underlying9]
  cases ao with
  | none =>
    obtain ⟨e1, rfl⟩ := h0 rfl
    have hl : L = [] := List.length_eq_zero_iff.1 e1
    subst hl
    simp [Conv.bytesToString, str]
    rfl
  | some ad =>
    have hl : (loadCells ad L.length).run Tryz.prog w = .ok ((L.map fun b => (b.toNat : Int)).map (Value.int .u8)).toArray w := by
      have := run_loadCells_list (P := Tryz.prog) w ad (Lib.byteCells L) (fun j u hu => hc ad rfl j u hu)
      simpa [Lib.byteCells, Function.comp_def] using this
    rw [run_bytesToString w ad _ cap _ hl, foldl_push_bytes]
    simp [str, List.map_map, Function.comp_def, ByteArray.empty, ByteArray.emptyWithCapacity]
    rfl
theorem Moved.block {w w' : World} {g q k : Nat} (h : Moved w g q w') (hk : k < w.heap.size) (hg : k ≠ g) : w'.heap[k]? = w.heap[k]? := by
  rw [h.out.block k hk, Below.heap_setCell _ _ _ _ hg]
theorem Moved.ofAlloc {w w' : World} {g q : Nat} {o : Obj} (h : Moved (w.alloc o) g q w') (hg : g < w.heap.size) : Moved w g q w' := by
  have hs := h.size
  rw [show (w.alloc o).heap.size = w.heap.size + 1 from by simp] at hs
  refine ⟨⟨h.out.os, h.out.tape, h.out.output, by rw [size_setCell]; omega, fun k hk => ?_⟩⟩
  rw [h.out.block k (by simp; omega)]
  by_cases hkg : k = g
  · subst hkg
    simp only [World.setCell, Array.getElem?_modify, if_true]
    rw [Below.heap_alloc _ _ _ hk]
  · rw [Below.heap_setCell _ _ _ _ hkg, Below.heap_setCell _ _ _ _ hkg, Below.heap_alloc _ _ _ hk]
theorem below_row {B : Nat} {w0 w : World} {g : Nat} (h : Below B w0 w) (hg : B ≤ g) (cs : Array Value) : Below B w0 (w.setRow g cs) :=
  h.trans ⟨rfl, rfl, rfl, by simp [World.setRow], fun k hk => by simp only [World.setRow, Array.getElem?_modify]; rw [if_neg (by omega)]⟩
theorem Moved.row {w w' : World} {g q k : Nat} (h : Moved w g q w') (hk : w.heap.size ≤ k) (cs : Array Value) : Moved w g q (w'.setRow k cs) := ⟨below_row h.out hk cs⟩

theorem set_row3 {w : World} {k : Nat} {a b c : Value} {T : TypeId} (h : w.heap[k]? = some (.cells #[a, b, c] T (0, 0))) (x y z : Value) :
    (((w.setCell ⟨k, 0, none⟩ x).setCell ⟨k, 1, none⟩ y).setCell ⟨k, 2, none⟩ z).heap[k]? = some (.cells #[x, y, z] T (0, 0)) := by
  have h1 : (w.setCell ⟨k, 0, none⟩ x).heap[k]? = some (.cells #[x, b, c] T (0, 0)) := by rw [setCell_eq_setRow w k 0 _ _ _ _ h]; exact setRow_heap w k _ _ _ _ h
  have h2 : ((w.setCell ⟨k, 0, none⟩ x).setCell ⟨k, 1, none⟩ y).heap[k]? = some (.cells #[x, y, c] T (0, 0)) := by rw [setCell_eq_setRow _ k 1 _ _ _ _ h1]; exact setRow_heap _ k _ _ _ _ h1
  rw [setCell_eq_setRow _ k 2 _ _ _ _ h2]; exact setRow_heap _ k _ _ _ _ h2
theorem Own.setBelow {base : Nat} {w : World} {v : Value} {L : List UInt8} (h : Own base w v L) {a : Addr} (ha : a.block < base) (u : Value) : Own base (w.setCell a u) v L := ownsRow_setCell_below h ha u

set_option maxRecDepth 100000 in
set_option maxHeartbeats 1000000 in
theorem end_any (w : World) (g p : Nat) (v : Value) (L : List UInt8) (h : Src w g p v L) (hL : Aside (L.length < 1000000000)) :
    Calls Tryz.prog 45 #[.pointer (some ⟨g, 0, none⟩)] w fun e w' => Ans w g L (rdEnd L p) (fun _ u _ => u = .tuple #[]) e w' := by
  obtain ⟨ao, cap, rfl, h0, hc, hmx, hcell⟩ := h.txt
  have c0 : w.cell? ⟨g, 0, none⟩ = some (.slice ao L.length cap) := by rw [cell_of_row w g 0 _ _ _ h.here]; rfl
  have c1 : w.cell? ⟨g, 1, none⟩ = some (.int .i64 ((p : Nat) : Int)) := by rw [cell_of_row w g 1 _ _ _ h.here]; rfl
  have HL := h.le
  have HM := Moved.refl h
  clear hcell hmx h0
  by_cases hl : p < L.length
  · go_enter Tryz.func45, Tryz.ntmps45
    go_wp2_with fail
    go_quiet (fail)
    go_wp2_with (go_at_call 50; refine (fail_any _ _ _).mono ?_; rintro e w2 ⟨rfl, rfl⟩)
    refine ⟨rfl, p, HL, HM.drew _, ?_⟩
    rw [rdEnd, if_pos hl]
  · go_enter Tryz.func45, Tryz.ntmps45
    go_wp2_with fail
    go_quiet (fail)
    go_wp2_with fail
    go_end0
    refine ⟨p, HL, HM.drew _, ?_⟩
    rw [rdEnd, if_neg hl]
    exact ⟨rfl, _, rfl, rfl⟩

set_option maxRecDepth 100000 in
set_option maxHeartbeats 1000000 in
theorem entry_any (w : World) (g p : Nat) (v : Value) (L : List UInt8) (h : Src w g p v L) (hL : Aside (L.length < 1000000000)) :
    Calls Tryz.prog 41 #[.pointer (some ⟨g, 0, none⟩)] w fun e w' => Ans w g L (rdE L p) (fun x u w' => ∃ b, u = .agg #[.int .i64 x.kind, .string (str x.key), b] ∧ Own w.heap.size w' b x.body) e w' := by
  have hgl := lt_of_heap h.here
  have h' : ∀ o, Src (w.alloc o) g p v L := fun o => h.below ((Below.refl _ _).alloc (Nat.le_refl _) o)
  cases hN : rdN 1 4 L p with
  | bad k =>
    have HR : Aside (rdE L p = .bad k) := ⟨by simp [rdE, Dc.bind, hN]⟩
    go_enter Tryz.func41, Tryz.ntmps41
    go_wp2_with fail
    refine (number_any 1 4 _ g p v L (h' _) hL).mono ?_
    rintro e w1 ⟨q, hq, hm, hv⟩
    rw [hN] at hv; obtain rfl := hv
    go_wp2_with fail
    refine ⟨rfl, q, hq, hm.ofAlloc hgl, ?_⟩
    rw [HR.out]
  | ok n q1 =>
    cases hB : rdB 1 40 L q1 with
    | bad k =>
      have HR : Aside (rdE L p = .bad k) := ⟨by simp [rdE, Dc.bind, hN, hB]⟩
      go_enter Tryz.func41, Tryz.ntmps41
      go_wp2_with fail
      refine (number_any 1 4 _ g p v L (h' _) hL).mono ?_
      rintro e w1 ⟨q, hq, hm, hv⟩
      rw [hN] at hv; obtain ⟨rfl, u, rfl, rfl⟩ := hv
      have hs1 := (h' _).moved hq hm
      go_wp2_with fail
      refine (bytes_any 1 40 _ g q1 v L hs1 hL (by omega) (by omega)).mono ?_
      rintro e w2 ⟨q, hq2, hm2, hv⟩
      rw [hB] at hv; obtain rfl := hv
      go_wp2_with fail
      refine ⟨rfl, q, hq2, (hm.trans hm2).ofAlloc hgl, ?_⟩
      rw [HR.out]
    | ok s q2 =>
      cases hC : rdB 0 20000 L q2 with
      | bad k =>
        have HR : Aside (rdE L p = .bad k) := ⟨by simp [rdE, Dc.bind, hN, hB, hC]⟩
        go_enter Tryz.func41, Tryz.ntmps41
        go_wp2_with fail
        refine (number_any 1 4 _ g p v L (h' _) hL).mono ?_
        rintro e w1 ⟨q, hq, hm, hv⟩
        rw [hN] at hv; obtain ⟨rfl, u, rfl, rfl⟩ := hv
        have hs1 := (h' _).moved hq hm
        go_wp2_with fail
        refine (bytes_any 1 40 _ g q1 v L hs1 hL (by omega) (by omega)).mono ?_
        rintro e w2 ⟨q, hq2, hm2, hv⟩
        rw [hB] at hv; obtain ⟨rfl, v2, rfl, ho2⟩ := hv
        have hs2 := hs1.moved hq2 hm2
        have hcv := conv_txt ho2.txt
        go_wp2_with fail
        refine (bytes_any 0 20000 _ g q2 v L hs2 hL (by omega) (by omega)).mono ?_
        rintro e w3 ⟨q, hq3, hm3, hv⟩
        rw [hC] at hv; obtain rfl := hv
        go_wp2_with fail
        refine ⟨rfl, q, hq3, ((hm.trans hm2).trans hm3).ofAlloc hgl, ?_⟩
        rw [HR.out]
      | ok b q3 =>
        have HR : Aside (rdE L p = .ok ⟨n, s, b⟩ q3) := ⟨by simp [rdE, Dc.bind, Dc.ret, hN, hB, hC]⟩
        go_enter Tryz.func41, Tryz.ntmps41
        go_wp2_with fail
        refine (number_any 1 4 _ g p v L (h' _) hL).mono ?_
        rintro e w1 ⟨q, hq, hm, hv⟩
        rw [hN] at hv; obtain ⟨rfl, u, rfl, rfl⟩ := hv
        have hs1 := (h' _).moved hq hm
        have b1 := hm.block (k := w.heap.size) (by simp) (by omega)
        go_wp2_with fail
        refine (bytes_any 1 40 _ g q1 v L hs1 hL (by omega) (by omega)).mono ?_
        rintro e w2 ⟨q, hq2, hm2, hv⟩
        rw [hB] at hv; obtain ⟨rfl, v2, rfl, ho2⟩ := hv
        have hs2 := hs1.moved hq2 hm2
        have b2 := hm2.block (k := w.heap.size) (by have := hm.size; simp at this; omega) (by omega)
        have hcv := conv_txt ho2.txt
        go_wp2_with fail
        refine (bytes_any 0 20000 _ g q2 v L hs2 hL (by omega) (by omega)).mono ?_
        rintro e w3 ⟨q, hq3, hm3, hv⟩
        rw [hC] at hv; obtain ⟨rfl, v3, rfl, ho3⟩ := hv
        have b3 := hm3.block (k := w.heap.size) (by have h1 := hm.size; have := hm2.size; simp at h1; omega) (by omega)
        have hblk := (b3.trans (b2.trans b1)).trans (heap_alloc_last w _)
        obtain ⟨ao3, cap3, hv3, -, -, -, -⟩ := ho3.txt
        obtain ⟨nn, hnn⟩ : ∃ nn, b.length = nn := ⟨_, rfl⟩
        rw [hnn] at hv3
        subst hv3
        have hmm := ((hm.trans hm2).trans hm3).ofAlloc hgl
        have k0 : w3.cell? ⟨w.heap.size, 0, none⟩ = some (.int .i64 0) := by rw [cell_of_row w3 _ 0 _ _ _ hblk]; rfl
        have k1 : w3.cell? ⟨w.heap.size, 1, none⟩ = some (.string ⟨#[]⟩) := by rw [cell_of_row w3 _ 1 _ _ _ hblk]; rfl
        have k2 : w3.cell? ⟨w.heap.size, 2, none⟩ = some (.slice none 0 0) := by rw [cell_of_row w3 _ 2 _ _ _ hblk]; rfl
        have kf : ∀ i, w3.frozen? ⟨w.heap.size, i, none⟩ = false := fun i => by simp [World.frozen?, hblk]
        have f0 := kf 0
        have f1 := kf 1
        have f2 := kf 2
        have HB := Aside.mk hblk
        have HS2 : Aside (w.heap.size < w2.heap.size) := ⟨by have h1 := hm.size; have h2 := hm2.size; simp at h1; omega⟩
        have HO := Aside.mk ho3
        clear hblk b1 b2 b3 kf
        go_wp2_with fail
        refine bodyPost_ret (results_cell_row rfl _ _ w.heap.size 24 #[.int .i64 n, .string (str s), .slice ao3 nn cap3] (0, 0) _ rfl (set_row3 HB.out _ _ _) Tryz.underlying24 rfl (by kernel_rfl)) rfl ?_
        refine ⟨q3, hq3, ⟨((hmm.out.setCell (Nat.le_refl _) _).setCell (Nat.le_refl _) _).setCell (Nat.le_refl _) _⟩, ?_⟩
        rw [HR.out]
        refine ⟨rfl, _, rfl, _, rfl, ?_⟩
        exact ((HO.out.setBelow HS2.out _).setBelow HS2.out _).setBelow HS2.out _ |>.mono (Nat.le_of_lt HS2.out)
end Go.Proofs.YteljhjljigbcjaaGreatDoor.Cv
