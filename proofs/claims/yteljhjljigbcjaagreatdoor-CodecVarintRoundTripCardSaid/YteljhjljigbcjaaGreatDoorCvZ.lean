/- How the laws' arguments are opened (a slice of bytes, an entry, a message), and that they read afterwards as before. -/
import Derived.Test.YteljhjljigbcjaaGreatDoorCvS
import Derived.Carry
import Derived.ChangeSlices
import Derived.ChangeOld
import Derived.OpenShut
import Derived.ShutString
import Derived.Lib.SmallJoins
set_option linter.unusedVariables false
namespace Go.Proofs.YteljhjljigbcjaaGreatDoor.Cv
open Go.RowKit Go.ChangeShapes Go.WideShapes Go.ChangeAt

section
variable {H : Type} {enc : TypeId × Value → H}

set_option maxRecDepth 100000 in
theorem kept {t : TypeId} (hr : Tryz.prog.readableRec t = true) (ht : t < Tryz.prog.types.size) {W W' : World} {v : Value} {d : DataW H} {p : List MemPlace} (h : DataW.Trod enc Tryz.prog W 0 (fun _ => true) true t v d p) (hb : Below W.heap.size W W') :
    DataW.Trod enc Tryz.prog W' 0 (fun b => decide (b < W.heap.size)) true t v d p :=
  Below.trod (by kernel_rfl) hr ht h hb (by obtain ⟨n, hn⟩ := h; exact DataW.trod_lt n _ _ _ hn)

theorem cells_u8 : Tryz.prog.cellsOf 5 = 1 := by kernel_rfl
theorem txt_of_ints {W : World} {n : Nat} {v : Value} {x : DataW H × List MemPlace} (h : DataW.trod enc Tryz.prog W 0 (fun _ => true) true n 22 [v] = some x) : ∃ R, Txt W v R := by
  rcases open_ints Tryz.underlying22 Tryz.underlying5 cells_u8 h with ⟨hcs, _⟩ | ⟨a, len, cap, zs, hcs, _, hl, hm, hz, _, hcell, hw⟩
  · cases hcs
    exact ⟨[], Txt.nil W⟩
  · cases hcs
    simp only [if_true] at hz
    have hr : ∀ z ∈ zs, ((UInt8.ofNat z.toNat).toNat : Int) = z := fun z hz' => by
      have := hw z hz'
      simp [Lit.wf, IntKind.min, IntKind.max, IntKind.signed, IntKind.bits] at this
      rw [toNat_of _ (by omega)]; omega
    have hlen : ((zs.take len).map fun z => UInt8.ofNat z.toNat).length = len := by simp; omega
    refine ⟨(zs.take len).map fun z => UInt8.ofNat z.toNat, some a, cap, by rw [hlen], by simp, by rw [hlen]; exact hl, hm, fun b hb j u hu => ?_⟩
    obtain rfl := Option.some.inj hb
    have hj : j < len := by
      have := (List.getElem?_eq_some_iff.1 hu).1
      rw [len_cells, hlen] at this; exact this
    have hjz : j < zs.length := by omega
    rw [hcell j hjz, ← hu]
    simp only [Lib.byteCells, List.map_map, List.getElem?_map, List.getElem?_take, if_pos hj, List.getElem?_eq_getElem hjz, Option.map_some, Function.comp]
    rw [hr _ (List.getElem_mem hjz)]
    simp [List.getD, List.getElem?_eq_getElem hjz]

set_option maxRecDepth 100000 in
theorem open_bytes {W : World} {r : Reach} {b0 : Nat} {v : Value} {d : DataW H} {p : List MemPlace} (hv : Value.okWide Tryz.prog W r b0 22 v) (h : DataW.Trod enc Tryz.prog W 0 (fun _ => true) true 22 v d p) : ∃ R, Txt W v R := by
  obtain ⟨a, len, cap, rfl⟩ := okWide_slice Tryz.underlying22 hv
  obtain ⟨n, hn⟩ := h
  exact txt_of_ints (n := n) (x := (d, p)) hn
end
end Go.Proofs.YteljhjljigbcjaaGreatDoor.Cv
