/- What the laws of package fixed share: the laid variables, R1.Any, encloses. -/
import Derived.Test.YtbijolohpfkihaaDoorFxY
import Derived.Test.YtbijolohpfkihaaDoorRows
import Derived.Stop.LaidErr
import Derived.Lib.LaidTab
set_option linter.unusedVariables false
namespace Go.Proofs.YtbijolohpfkihaaDoor.Fx
open Go.RowKit Go.Proofs.YtbijolohpfkihaaDoorW.PrintWords

theorem star : "*" ++ "errors.errorString" = "*errors.errorString" := by decide
theorem rowErr (u : TypeId) (h : Tryd.prog.typeName? 3 u = some "*errors.errorString") : u = 110 :=
  typeName_ptr_named (nm := "errors.errorString") (by rw [star]; kernel_rfl) (by kernel_rfl) (by decide) u (by rw [star]; exact h)
theorem tabs_of_laid {W : World} (h : laidMet Tryd.prog Rows.fixedMatchesReferenceRow.laid W) : Tabs W := by
  have h3 := h.tail.tail
  refine ⟨Lib.tabIs_of_head (t := 106) (e := 49) (n := 20) gPow (by kernel_rfl) Tryd.underlying106 Tryd.underlying49 (by kernel_rfl) (by kernel_rfl) h3, ?_⟩
  obtain ⟨a, s, hv, _⟩ := laid_sentinel (tp := 110) (te := 112) (ts := 9) h3.tail.tail gRange (by kernel_rfl) Tryd.underlying53 rowErr Tryd.underlying110 Tryd.underlying112 rfl rfl Tryd.underlying9 (by kernel_rfl) (by kernel_rfl)
  exact ⟨_, _, hv⟩

theorem wf64 {a : Int} (h : (Lit.int .i64 a).wf = true) : -9223372036854775808 ≤ a ∧ a ≤ 9223372036854775807 := by
  simpa [Lit.wf, IntKind.min, IntKind.max, IntKind.signed, IntKind.bits] using h

/-- a number made of any int64 -/
def anyN (x : Int) : Int := Int.tmod x 2147483648
theorem anyN_bd (x : Int) : -2147483648 < anyN x ∧ anyN x < 2147483648 := by
  unfold anyN
  rcases Int.le_total 0 x with h | h
  · rw [Int.tmod_eq_emod_of_nonneg h]; omega
  · have := Int.tmod_eq_emod_of_nonneg (a := -x) (b := 2147483648) (by omega)
    rw [Int.neg_tmod] at this
    omega
theorem Any_any (x : Int) (w : World) :
    Calls Tryd.prog 15 #[.int .i64 x] w fun e w' => e = .returned (.int .i64 (anyN x)) ∧ w = w' := by
  go_enter Tryd.func15, Tryd.ntmps15
  go_wp2
  go_ret
  exact ⟨rfl, rfl⟩

/-- encloses, where it holds -/
theorem encloses_yes (lo hi unit exact : Int) (w : World) (h1 : lo * unit ≤ exact) (h2 : exact ≤ hi * unit) (h3 : hi - lo ≤ 1) (h4 : lo ≤ hi) (h5 : lo = hi ↔ exact % unit = 0) (hu : 0 < unit)
    (b1 : -9000000000000000000 ≤ lo * unit) (b2 : hi * unit ≤ 9000000000000000000) :
    Calls Tryd.prog 28 #[.int .i64 lo, .int .i64 hi, .int .i64 unit, .int .i64 exact] w fun e w' => e = .returned (.bool true) ∧ w = w' := by
  have e5 : (lo == hi) = (exact.tmod unit == 0) := by
    rw [Bool.eq_iff_iff, beq_iff_eq, beq_iff_eq, h5]
    exact ⟨fun h => Int.tmod_eq_zero_of_dvd (Int.dvd_of_emod_eq_zero h), fun h => Int.emod_eq_zero_of_dvd (Int.dvd_of_tmod_eq_zero h)⟩
  go_enter Tryd.func28, Tryd.ntmps28
  go_wp2
  go_ret
  exact ⟨rfl, rfl⟩
theorem enc_facts (X u : Int) (hu : 0 < u) : dn X u * u ≤ X ∧ X ≤ up X u * u ∧ up X u - dn X u ≤ 1 ∧ dn X u ≤ up X u ∧ (dn X u = up X u ↔ X % u = 0) := by
  have e := Int.mul_ediv_add_emod X u
  have m := Int.emod_nonneg X (show u ≠ 0 by omega)
  have m2 := Int.emod_lt_of_pos X hu
  unfold dn
  by_cases h : X % u = 0
  · rw [up_exact h, Int.mul_comm]
    refine ⟨by omega, by omega, by omega, by omega, fun _ => h, fun _ => rfl⟩
  · rw [up_next (by omega), Int.add_mul, Int.mul_comm (X / u)]
    refine ⟨by omega, by omega, by omega, by omega, fun h' => by omega, fun h' => absurd h' h⟩
theorem dn_bd {X u b : Int} (hu : 0 < u) (h0 : -b ≤ X) (h1 : X ≤ b) (hb : 0 ≤ b) : -b ≤ dn X u ∧ dn X u ≤ b := by
  unfold dn
  have e := Int.mul_ediv_add_emod X u
  have m := Int.emod_nonneg X (show u ≠ 0 by omega)
  have m2 := Int.emod_lt_of_pos X hu
  constructor
  · rcases Int.le_total 0 X with h | h
    · have := Int.ediv_nonneg h (Int.le_of_lt hu); omega
    · rcases Int.lt_or_le (X / u) (-b) with g | g
      · have h3 : X / u ≤ -b - 1 := by omega
        have := Int.mul_le_mul_of_nonneg_left h3 (Int.le_of_lt hu)
        have h4 : u * (-b - 1) = -(u * b) - u := by rw [Int.mul_sub, Int.mul_neg, Int.mul_one]
        have h5 : b ≤ u * b := by have := Int.mul_le_mul_of_nonneg_right (show 1 ≤ u by omega) hb; omega
        omega
      · exact g
  · rcases Int.le_total 0 X with h | h
    · exact Int.le_trans (Int.ediv_le_self _ h) h1
    · have : X / u ≤ 0 := Int.ediv_nonpos_of_nonpos_of_neg h (by omega)
      omega
theorem up_bd {X u b : Int} (hu : 0 < u) (h0 : -b ≤ X) (h1 : X ≤ b) (hb : 0 ≤ b) : -b ≤ up X u ∧ up X u ≤ b + 1 := by
  have := dn_bd hu h0 h1 hb
  have := enc_facts X u hu
  omega
theorem mul_hi {X u : Int} (hu : 0 < u) : up X u * u ≤ X + u ∧ X - u ≤ dn X u * u := by
  have e := Int.mul_ediv_add_emod X u
  have m := Int.emod_nonneg X (show u ≠ 0 by omega)
  have m2 := Int.emod_lt_of_pos X hu
  unfold dn
  by_cases h : X % u = 0
  · rw [up_exact h, Int.mul_comm]; omega
  · rw [up_next (by omega), Int.add_mul, Int.mul_comm (X / u)]; omega
theorem tdiv_near (X u : Int) (hu : 0 < u) : dn X u ≤ X.tdiv u ∧ X.tdiv u ≤ dn X u + 1 := by
  unfold dn
  rcases Int.le_total 0 X with h | h
  · rw [Int.tdiv_eq_ediv_of_nonneg h]; omega
  · have e1 : X.tdiv u = -((-X) / u) := by
      rw [← Int.tdiv_eq_ediv_of_nonneg (by omega : 0 ≤ -X), Int.neg_tdiv, Int.neg_neg]
    rw [e1]
    by_cases hz : X % u = 0
    · rw [(neg_ediv_exact hz).1]; omega
    · have h2 : 2 ≤ u := by
        rcases Int.lt_or_le u 2 with h | h
        · obtain rfl : u = 1 := by omega
          exact absurd (Int.emod_one X) hz
        · exact h
      rw [(neg_ediv_next h2 (by have := Int.emod_nonneg X (show u ≠ 0 by omega); omega)).1]; omega
/-- encloses at the floor and the ceiling -/
theorem encloses_div (X u : Int) (w : World) (hu : 0 < u) (hu' : u ≤ 4000000000000000000) (h0 : -5000000000000000000 ≤ X) (h1 : X ≤ 5000000000000000000) :
    Calls Tryd.prog 28 #[.int .i64 (dn X u), .int .i64 (up X u), .int .i64 u, .int .i64 X] w fun e w' => e = .returned (.bool true) ∧ w = w' := by
  obtain ⟨e1, e2, e3, e4, e5⟩ := enc_facts X u hu
  obtain ⟨m1, m2⟩ := mul_hi (X := X) hu
  exact encloses_yes _ _ _ _ w e1 e2 e3 e4 e5 hu (by omega) (by omega)
theorem alloc_new (w : World) (o : Obj) : (w.alloc o).heap[w.heap.size]? = some o := by show (w.heap.push _)[w.heap.size]? = _; simp
theorem alloc_cell {w w1 : World} {cs : Array Value} {T : TypeId} (hb : Below (w.alloc (.cells cs T)).heap.size (w.alloc (.cells cs T)) w1) (j : Nat) : w1.cell? ⟨w.heap.size, j, none⟩ = cs[j]? := by
  rw [hb.cell (p := ⟨w.heap.size, j, none⟩) (by simp), Lib.cell_of_heap (alloc_new w _)]
end Go.Proofs.YtbijolohpfkihaaDoor.Fx
