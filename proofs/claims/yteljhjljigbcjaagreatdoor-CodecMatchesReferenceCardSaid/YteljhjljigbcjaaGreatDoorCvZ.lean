/- How the laws' arguments are opened (a slice of bytes, an entry, a message), and that they read afterwards as before. -/
import Derived.Test.YteljhjljigbcjaaGreatDoorCvS
import Derived.Carry
import Derived.ChangeSlices
import Derived.ChangeOld
import Derived.OpenShut
import Derived.ShutString
import Derived.Lib.SmallJoins
set_option linter.unusedVariables false
namespace Go.Proofs.YteljhjljigbcjaaGreatDoor.Cv
open Go.RowKit Go.ChangeShapes Go.WideShapes Go.ChangeAt

section
variable {H : Type} {enc : TypeId × Value → H}

set_option maxRecDepth 100000 in
theorem kept {t : TypeId} (hr : Tryz.prog.readableRec t = true) (ht : t < Tryz.prog.types.size) {W W' : World} {v : Value} {d : DataW H} {p : List MemPlace} (h : DataW.Trod enc Tryz.prog W 0 (fun _ => true) true t v d p) (hb : Below W.heap.size W W') :
    DataW.Trod enc Tryz.prog W' 0 (fun b => decide (b < W.heap.size)) true t v d p :=
  Below.trod (by kernel_rfl) hr ht h hb (by obtain ⟨n, hn⟩ := h; exact DataW.trod_lt n _ _ _ hn)

theorem cells_u8 : Tryz.prog.cellsOf 5 = 1 := by kernel_rfl
theorem txt_of_ints {W : World} {n : Nat} {v : Value} {x : DataW H × List MemPlace} (h : DataW.trod enc Tryz.prog W 0 (fun _ => true) true n 22 [v] = some x) : ∃ R, Txt W v R := by
  rcases open_ints Tryz.underlying22 Tryz.underlying5 cells_u8 h with ⟨hcs, _⟩ | ⟨a, len, cap, zs, hcs, _, hl, hm, hz, _, hcell, hw⟩
  · cases hcs
    exact ⟨[], Txt.nil W⟩
  · cases hcs
    simp only [if_true] at hz
    have hr : ∀ z ∈ zs, ((UInt8.ofNat z.toNat).toNat : Int) = z := fun z hz' => by
      have := hw z hz'
      simp [Lit.wf, IntKind.min, IntKind.max, IntKind.signed, IntKind.bits] at this
      rw [toNat_of _ (by omega)]; omega
    have hlen : ((zs.take len).map fun z => UInt8.ofNat z.toNat).length = len := by simp; omega
    refine ⟨(zs.take len).map fun z => UInt8.ofNat z.toNat, some a, cap, by rw [hlen], by simp, by rw [hlen]; exact hl, hm, fun b hb j u hu => ?_⟩
    obtain rfl := Option.some.inj hb
    have hj : j < len := by
      have := (List.getElem?_eq_some_iff.1 hu).1
      rw [len_cells, hlen] at this; exact this
    have hjz : j < zs.length := by omega
    rw [hcell j hjz, ← hu]
    simp only [Lib.byteCells, List.map_map, List.getElem?_map, List.getElem?_take, if_pos hj, List.getElem?_eq_getElem hjz, Option.map_some, Function.comp]
    rw [hr _ (List.getElem_mem hjz)]
    simp [List.getD, List.getElem?_eq_getElem hjz]

set_option maxRecDepth 100000 in
theorem open_bytes {W : World} {r : Reach} {b0 : Nat} {v : Value} {d : DataW H} {p : List MemPlace} (hv : Value.okWide Tryz.prog W r b0 22 v) (h : DataW.Trod enc Tryz.prog W 0 (fun _ => true) true 22 v d p) : ∃ R, Txt W v R := by
  obtain ⟨a, len, cap, rfl⟩ := okWide_slice Tryz.underlying22 hv
  obtain ⟨n, hn⟩ := h
  exact txt_of_ints (n := n) (x := (d, p)) hn

set_option maxRecDepth 100000 in
theorem open_entry {W : World} {r : Reach} {b0 : Nat} {v : Value} {d : DataW H} {p : List MemPlace} (hv : Value.okWide Tryz.prog W r b0 24 v) (h : DataW.Trod enc Tryz.prog W 0 (fun _ => true) true 24 v d p) :
    ∃ (a : Int) (s : ByteArray) (u : Value) (R : List UInt8), v = .agg #[.int .i64 a, .string s, u] ∧ (Lit.int .i64 a).wf = true ∧ Txt W u R := by
  obtain ⟨v0, v1, v2, y0, y1, y2, n, rfl, _, _, h0, h1, h2⟩ := Joins.open_agg3 Tryz.underlying24 (by kernel_rfl) (by kernel_rfl) hv h
  obtain ⟨a, e0, _, hw⟩ := DataW.trod_int Tryz.underlying3 h0
  obtain ⟨s, e1, _, _⟩ := DataW.trod_string Tryz.underlying9 h1
  obtain ⟨R, hR⟩ := txt_of_ints h2
  cases e0
  cases e1
  exact ⟨a, s, v2, R, rfl, hw, hR⟩

set_option maxRecDepth 100000 in
theorem open_message {W : World} {r : Reach} {b0 : Nat} {v : Value} {d : DataW H} {p : List MemPlace} (hv : Value.okWide Tryz.prog W r b0 27 v) (h : DataW.Trod enc Tryz.prog W 0 (fun _ => true) true 27 v d p) :
    ∃ (a b c e f k : Int) (s : ByteArray) (u : Value) (R : List UInt8), v = .agg #[.int .i64 a, .int .i64 b, .int .i64 c, .int .i64 e, .int .u32 f, .int .i64 k, .string s, u] ∧ (0 ≤ f ∧ f ≤ 4294967295) ∧ Txt W u R := by
  obtain ⟨cs, rfl, hsz⟩ := okWide_struct Tryz.underlying27 hv
  have hsz8 : cs.size = 8 := hsz.trans (by kernel_rfl)
  obtain ⟨c0, c1, c2, c3, c4, c5, c6, c7, rfl⟩ : ∃ c0 c1 c2 c3 c4 c5 c6 c7, cs = #[c0, c1, c2, c3, c4, c5, c6, c7] := by
    obtain ⟨l⟩ := cs
    match l, hsz8 with
    | [c0, c1, c2, c3, c4, c5, c6, c7], _ => exact ⟨c0, c1, c2, c3, c4, c5, c6, c7, rfl⟩
  obtain ⟨fuel, hf⟩ := h
  have e3 : Tryz.prog.cellsOf 3 = 1 := by kernel_rfl
  have e25 : Tryz.prog.cellsOf 25 = 1 := by kernel_rfl
  have e24 : Tryz.prog.cellsOf 24 = 3 := by kernel_rfl
  have e9 : Tryz.prog.cellsOf 9 = 1 := by kernel_rfl
  have e22 : Tryz.prog.cellsOf 22 = 1 := by kernel_rfl
  obtain ⟨xs, n, _, _, _, hlen, hx⟩ := DataW.trod_struct Tryz.underlying27 (cs := [c0, c1, c2, c3, c4, c5, c6, c7]) hf
  have hl6 : xs.length = 6 := hlen
  match xs, hl6 with
  | [y0, y1, y2, y3, y4, y5], _ =>
    have g0 : DataW.trod enc Tryz.prog W 0 (fun _ => true) true n 3 (([c0, c1, c2, c3, c4, c5, c6, c7].drop 0).take (Tryz.prog.cellsOf 3)) = some y0 := hx 0 _ rfl
    rw [e3] at g0
    have g1 : DataW.trod enc Tryz.prog W 0 (fun _ => true) true n 3 (([c0, c1, c2, c3, c4, c5, c6, c7].drop 1).take (Tryz.prog.cellsOf 3)) = some y1 := hx 1 _ rfl
    rw [e3] at g1
    have g2 : DataW.trod enc Tryz.prog W 0 (fun _ => true) true n 3 (([c0, c1, c2, c3, c4, c5, c6, c7].drop 2).take (Tryz.prog.cellsOf 3)) = some y2 := hx 2 _ rfl
    rw [e3] at g2
    have g3 : DataW.trod enc Tryz.prog W 0 (fun _ => true) true n 3 (([c0, c1, c2, c3, c4, c5, c6, c7].drop 3).take (Tryz.prog.cellsOf 3)) = some y3 := hx 3 _ rfl
    rw [e3] at g3
    have g4 : DataW.trod enc Tryz.prog W 0 (fun _ => true) true n 25 (([c0, c1, c2, c3, c4, c5, c6, c7].drop 4).take (Tryz.prog.cellsOf 25)) = some y4 := hx 4 _ rfl
    rw [e25] at g4
    have g5 : DataW.trod enc Tryz.prog W 0 (fun _ => true) true n 24 (([c0, c1, c2, c3, c4, c5, c6, c7].drop 5).take (Tryz.prog.cellsOf 24)) = some y5 := hx 5 _ rfl
    rw [e24] at g5
    obtain ⟨a, q0, _, _⟩ := DataW.trod_int (cs := [c0]) Tryz.underlying3 g0
    obtain ⟨b, q1, _, _⟩ := DataW.trod_int (cs := [c1]) Tryz.underlying3 g1
    obtain ⟨c, q2, _, _⟩ := DataW.trod_int (cs := [c2]) Tryz.underlying3 g2
    obtain ⟨e, q3, _, _⟩ := DataW.trod_int (cs := [c3]) Tryz.underlying3 g3
    obtain ⟨f, q4, _, hw⟩ := DataW.trod_int (cs := [c4]) Tryz.underlying25 g4
    obtain ⟨zs, n', _, _, _, hlen', hz⟩ := DataW.trod_struct (cs := [c5, c6, c7]) Tryz.underlying24 g5
    have hl3 : zs.length = 3 := hlen'
    match zs, hl3 with
    | [z0, z1, z2], _ =>
      have k0 : DataW.trod enc Tryz.prog W 0 (fun _ => true) true n' 3 (([c5, c6, c7].drop 0).take (Tryz.prog.cellsOf 3)) = some z0 := hz 0 _ rfl
      rw [e3] at k0
      have k1 : DataW.trod enc Tryz.prog W 0 (fun _ => true) true n' 9 (([c5, c6, c7].drop 1).take (Tryz.prog.cellsOf 9)) = some z1 := hz 1 _ rfl
      rw [e9] at k1
      have k2 : DataW.trod enc Tryz.prog W 0 (fun _ => true) true n' 22 (([c5, c6, c7].drop 2).take (Tryz.prog.cellsOf 22)) = some z2 := hz 2 _ rfl
      rw [e22] at k2
      obtain ⟨k, q5, _, _⟩ := DataW.trod_int (cs := [c5]) Tryz.underlying3 k0
      obtain ⟨s, q6, _, _⟩ := DataW.trod_string (cs := [c6]) Tryz.underlying9 k1
      obtain ⟨R, hR⟩ := txt_of_ints (v := c7) k2
      cases q0; cases q1; cases q2; cases q3; cases q4; cases q5; cases q6
      refine ⟨a, b, c, e, f, k, s, c7, R, rfl, ?_, hR⟩
      simp [Lit.wf, IntKind.min, IntKind.max, IntKind.signed, IntKind.bits] at hw
      omega
end
end Go.Proofs.YteljhjljigbcjaaGreatDoor.Cv
