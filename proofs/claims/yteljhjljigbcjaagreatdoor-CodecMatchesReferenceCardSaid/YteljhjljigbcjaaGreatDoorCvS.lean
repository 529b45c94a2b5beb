/- A slice of bytes that reads as a text; one of the call's own; AppendVarint over them. -/
import Derived.Test.YteljhjljigbcjaaGreatDoorCvA
import Derived.Test.YteljhjljigbcjaaGreatDoorCvN
set_option linter.unusedVariables false
namespace Go.Proofs.YteljhjljigbcjaaGreatDoor.Cv
open Go.RowKit

/-- the slice v reads as the text L -/
def Txt (w : World) (v : Value) (L : List UInt8) : Prop :=
  ∃ ao cap, v = .slice ao L.length cap ∧ (ao = none → L.length = 0 ∧ cap = 0) ∧ L.length ≤ cap ∧ cap ≤ maxLen ∧ ∀ b, ao = some b → ∀ j u, (Lib.byteCells L)[j]? = some u → w.cell? (b.add j) = some u
/-- the slice v is a row of the call's own, from block 'base' on, and reads as the text L -/
def Own (base : Nat) (w : World) (v : Value) (L : List UInt8) : Prop := w.ownsRow base 5 1 v L.length (Lib.byteCells L)

theorem len_cells (L : List UInt8) : (Lib.byteCells L).length = L.length := by simp [Lib.byteCells]
theorem Txt.nil (w : World) : Txt w (.slice none 0 0) [] := ⟨none, 0, rfl, fun _ => ⟨rfl, rfl⟩, by simp, by simp, by simp⟩
theorem Txt.below {w w' : World} {v : Value} {L : List UInt8} (h : Txt w v L) (hb : Below w.heap.size w w') : Txt w' v L := by
  obtain ⟨ao, cap, hv, h0, h1, h2, hc⟩ := h
  refine ⟨ao, cap, hv, h0, h1, h2, fun b hb' j u hu => ?_⟩
  have h3 := hc b hb' j u hu
  rw [hb.cell (World.block_lt_of_cell? w _ h3)]; exact h3
theorem Own.txt {base : Nat} {w : World} {v : Value} {L : List UInt8} (h : Own base w v L) : Txt w v L := by
  have h' := h
  obtain ⟨h1, h2⟩ := h
  rcases h2 with ⟨rfl, hn⟩ | ⟨g, cap, cur, rfl, hg, hh, hcap, hm, hs, ht⟩
  · exact ⟨none, 0, by rw [hn], fun _ => ⟨hn, rfl⟩, by omega, by simp, by simp⟩
  · refine ⟨some ⟨g, 0, none⟩, cap, rfl, by simp, hcap, hm, fun b hb j u hu => ?_⟩
    obtain rfl := Option.some.inj hb
    exact World.ownsRow.cells h' rfl j u hu
theorem Own.below {base : Nat} {w w' : World} {v : Value} {L : List UInt8} (h : Own base w v L) (hb : Below w.heap.size w w') : Own base w' v L := by
  obtain ⟨h1, h2⟩ := h
  refine ⟨h1, ?_⟩
  rcases h2 with h2 | ⟨g, cap, cur, hv, hg, hh, r⟩
  · exact Or.inl h2
  · have hlt : g < w.heap.size := by
      rcases Nat.lt_or_ge g w.heap.size with h | h
      · exact h
      · rw [Array.getElem?_eq_none h] at hh; exact absurd hh (by simp)
    exact Or.inr ⟨g, cap, cur, hv, hg, by rw [hb.block g hlt]; exact hh, r⟩
theorem Own.mono {base base' : Nat} {w : World} {v : Value} {L : List UInt8} (h : Own base' w v L) (hb : base ≤ base') : Own base w v L := ownsRow_mono h hb
theorem Own.nil (base : Nat) (w : World) : Own base w (.slice none 0 0) [] := World.ownsRow_nil w base _ _

theorem AppendVarint_txt (v : Value) (xs : List UInt8) (n : Int) (w : World) (h : Txt w v xs) (hn : in64 n) (hbd : xs.length ≤ 1000000000) :
    Calls Tryz.prog 15 #[v, .int .i64 n] w fun e w' => ∃ v', e = .returned v' ∧ Own w.heap.size w' v' (xs ++ vint n) ∧ Below w.heap.size w w' := by
  obtain ⟨ao, cap, rfl, h0, h1, h2, hc⟩ := h
  refine (AppendVarint_any ao xs.length cap xs n w h0 h1 h2 rfl hc hn.1 hn.2 hbd).mono ?_
  rintro e w' ⟨v', rfl, ho, hb⟩
  exact ⟨v', rfl, by simpa [Own] using ho, hb⟩
end Go.Proofs.YteljhjljigbcjaaGreatDoor.Cv
