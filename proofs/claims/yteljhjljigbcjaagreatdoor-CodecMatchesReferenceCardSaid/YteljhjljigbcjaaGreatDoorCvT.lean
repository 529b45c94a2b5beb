/- Contract of codec.crcTable: the table of the 256 bytes' steps, by value. -/
import Derived.Test.YteljhjljigbcjaaGreatDoorCvA
import Derived.Test.YteljhjljigbcjaaGreatDoorCvC
import Derived.Deep.WholeRow
import Derived.WalkLawsBesides
set_option linter.unusedVariables false
namespace Go.Proofs.YteljhjljigbcjaaGreatDoor.Cv
open Go.RowKit

def tabL : List Value := (List.range 256).map fun i => Value.int .u32 ((frs 8 i : Nat) : Int)
def tabA : Array Value := tabL.toArray
theorem tabA_size : tabA.size = 256 := by simp [tabA, tabL]
theorem tabA_at (i : Nat) (h : i < 256) : tabA[i]? = some (.int .u32 ((frs 8 i : Nat) : Int)) := by simp [tabA, tabL, h]
theorem zero_tab : ∃ Z : Array Value, Z.size = 256 ∧ (∀ w, (zeroValue 78).run Tryz.prog w = .ok (.agg Z) w) ∧ Z.all (·.oneCell') = true := by
  have h : (Tryz.prog.info? 78).map (fun i => (i.zero, i.size)) = some (some (.agg (Array.replicate 256 (.int .u32 0))), 256) := by kernel_rfl
  exact ⟨_, by simp, (zero_of_info h).1, by decide +kernel⟩
theorem info_tab : (Tryz.prog.info? 78).map (·.size) = some 256 := by kernel_rfl

theorem bits_fr (c : Nat) (h : c < 2 ^ 32) : bits .xor .u32 ((c : Int) / 2) (3988292384 * bits .and .u32 (c : Int) 1 % 4294967296) = ((fr c : Nat) : Int) := by
  have h1 := (bits_nat .u32 32 (by decide) wraps_u32 c 1 h (by decide)).1
  rw [show ((1 : Nat) : Int) = 1 from rfl] at h1
  rw [h1, Nat.and_one_is_mod]
  rcases Nat.mod_two_eq_zero_or_one c with hc | hc
  · rw [hc]
    have h2 := bits_xor_nat .u32 32 (by decide) wraps_u32 (c / 2) 0 (by omega) (by decide)
    simpa [fr, hc, Nat.shiftRight_eq_div_pow] using h2
  · rw [hc]
    have h2 := bits_xor_nat .u32 32 (by decide) wraps_u32 (c / 2) 3988292384 (by omega) (by decide)
    simpa [fr, hc, Nat.shiftRight_eq_div_pow] using h2
/-- the world's block g holds the row 'cur' -/
structure Row (w : World) (g : Nat) (cur : Array Value) : Prop where
  out : w.heap[g]? = some (.cells cur 78 (0, 0))
theorem Row.set {w : World} {g : Nat} {cur : Array Value} (h : Row w g cur) (i : Nat) (v : Value) : Row (w.setCell ⟨g, i, none⟩ v) g (cur.setIfInBounds i v) := by
  constructor
  rw [setCell_eq_setRow w g i cur _ _ v h.out]
  exact setRow_heap w g cur _ _ _ h.out
theorem Row.other {w : World} {g k i : Nat} {cur : Array Value} (h : Row w g cur) (v : Value) (hk : g ≠ k) : Row (w.setCell ⟨k, i, none⟩ v) g cur := ⟨by rw [Below.heap_setCell _ _ _ _ hk]; exact h.out⟩
theorem Row.cell {w : World} {g : Nat} {cur : Array Value} (h : Row w g cur) (i : Nat) : w.cell? ⟨g, i, none⟩ = cur[i]? := cell_of_row w g i cur _ _ h.out
theorem Row.frozen {w : World} {g : Nat} {cur : Array Value} (h : Row w g cur) (i : Nat) : w.frozen? ⟨g, i, none⟩ = false := by simp [World.frozen?, h.out]
structure Upto (cur : Array Value) (i : Nat) : Prop where
  size : cur.size = 256
  one : cur.all (·.oneCell') = true
  out : ∀ j, j < i → cur[j]? = tabA[j]?

set_option maxRecDepth 100000 in
set_option maxHeartbeats 1000000 in
theorem crcTable_any (w : World) : Calls Tryz.prog 39 #[] w fun e w' => e = .returned (.agg tabA) ∧ Below w.heap.size w w' := by
  obtain ⟨Z, hZs, hZ, hZ1⟩ := zero_tab
  go_enter Tryz.func39, Tryz.ntmps39
  go_wp2_with fail
  go_loopg [4] 256 (fun g v4 wr => ∃ (i : Nat) (cur : Array Value), v4 = .int .i64 i ∧ i + g = 256 ∧ Row wr (w.heap.size + 1) cur ∧ Row wr w.heap.size Z ∧ Upto cur i ∧ Below w.heap.size w wr)
  case atStart =>
    refine ⟨0, Z, rfl, rfl, ⟨?_⟩, ⟨?_⟩, ⟨hZs, hZ1, by omega⟩, ((Below.refl _ _).alloc (Nat.le_refl _) _).alloc (by simp) _⟩
    · have := heap_alloc_last (w.alloc (.cells Z 78)) (.cells Z 78)
      simpa using this
    · rw [Below.heap_alloc _ _ _ (by simp)]; exact heap_alloc_last _ _
  case round =>
    obtain ⟨i, cur, rfl, hg, hr, hr0, hu, hb⟩ := hrel
    obtain ⟨gk_1, hgk⟩ : ∃ x, x = gk := ⟨gk, rfl⟩
    by_cases hi : i < 256
    · go_wp2_with fail
      go_loopg [3, 9] 8 (fun g v3 v9 wr' => ∃ (k c : Nat), v9 = .int .i64 k ∧ k + g = 8 ∧ v3 = .int .u32 c ∧ Aside (frs g c = frs 8 i) ∧ Aside (c < 2 ^ 32) ∧ wr' = wr)
      case atStart => exact ⟨0, i, rfl, rfl, by go_num, ⟨rfl⟩, ⟨by omega⟩, rfl⟩
      case round =>
        obtain ⟨k, c, rfl, hk, rfl, HF, HC, rfl⟩ := hrel
        by_cases hk8 : k < 8
        · have hb1 := bits_fr c HC.out
          have HC' : Aside (fr c < 2 ^ 32) := ⟨fr_lt HC.out⟩
          cases gk with
          | zero => omega
          | succ gk =>
            have HF' : Aside (frs gk (fr c) = frs 8 i) := ⟨HF.out⟩
            clear HC HF
            go_wp2_with fail
            go_roundg gk
            case measure => omega
            case rel => exact ⟨k + 1, fr c, by go_num, by omega, rfl, HF', HC', rfl⟩
        · have : k = 8 := by omega
          subst this
          have HG : gk = 0 := by omega
          have hci : wr.cell? ⟨w.heap.size + 1, i, none⟩ = some (cur[i]'(by rw [hu.size]; exact hi)) := by rw [hr.cell, Array.getElem?_eq_getElem]
          have hfi := hr.frozen i
          go_wp2_with fail
          have hcc : c = frs 8 i := by have := HF.out; subst HG; exact this
          obtain ⟨go, rfl⟩ : ∃ go, gk_1 = go + 1 := ⟨gk_1 - 1, by omega⟩
          go_roundg go
          case measure => omega
          case rel =>
            refine ⟨i + 1, cur.setIfInBounds i (.int .u32 c), by go_num, by omega, hr.set i _, hr0.other _ (by omega), ⟨by simp [hu.size], ?_, ?_⟩, hb.setCell (by simp) _⟩
            · rw [Array.all_eq_true_iff_forall_mem]
              intro x hx
              rcases Array.mem_or_eq_of_mem_setIfInBounds hx with h | h
              · exact (Array.all_eq_true_iff_forall_mem.1 hu.one) x h
              · subst h; rfl
            · intro j hj
              rw [Array.getElem?_setIfInBounds]
              by_cases hji : i = j
              · subst hji; rw [if_pos rfl, if_pos (by rw [hu.size]; exact hi), tabA_at i hi, hcc]
              · rw [if_neg hji]; exact hu.out j (by omega)
    · have : i = 256 := by omega
      subst this
      have hcur : cur = tabA := by
        apply Array.ext_getElem?
        intro j
        by_cases hj : j < 256
        · exact hu.out j hj
        · rw [Array.getElem?_eq_none (by rw [hu.size]; omega), Array.getElem?_eq_none (by rw [tabA_size]; omega)]
      subst hcur
      have hio : (Tryz.prog.info? 78).map (·.size) = some tabA.size := by rw [info_tab, tabA_size]
      have hw : Row (wr.setRow w.heap.size tabA) w.heap.size tabA := ⟨setRow_heap wr _ Z _ _ _ hr0.out⟩
      have hone := hu.one
      have hzz : Z.size = tabA.size := by rw [hZs, tabA_size]
      go_wp2_with (first | (refine wpList_load_row rfl 78 _ rfl (w.heap.size + 1) rfl 78 tabA (0, 0) _ hr.out Tryz.underlying78 rfl hio ?_) | (refine wpList_store_row rfl 78 _ _ rfl w.heap.size tabA rfl rfl 78 Z hr0.out hio hzz hone ?_))
      refine bodyPost_ret (results_cell_row rfl _ _ w.heap.size 78 tabA (0, 0) _ rfl hw.out Tryz.underlying78 rfl hio) rfl ⟨rfl, ?_⟩
      exact hb.trans ⟨rfl, rfl, rfl, by simp [World.setRow], fun k hk => by simp only [World.setRow, Array.getElem?_modify]; rw [if_neg (by omega)]⟩
end Go.Proofs.YteljhjljigbcjaaGreatDoor.Cv
