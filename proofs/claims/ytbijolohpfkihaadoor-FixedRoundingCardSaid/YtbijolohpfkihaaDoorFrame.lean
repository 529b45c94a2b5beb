/- An array of two whole numbers as an argument: opened and shut again. -/
import Derived.ProofKit
import Derived.OpenShut
import Derived.Lib.SmallJoins
import Derived.Test.YtbijolohpfkihaaDoorProg
namespace Go.Proofs.YtbijolohpfkihaaDoor.Frame
open Go.ChangeShapes Go.WideShapes Go.ChangeAt Go.RowKit Go.Joins
variable {H : Type} {enc : TypeId × Value → H} {P : Program} {w : World} {base : Nat} {spare : Nat → Bool} {held : Bool}

theorem open_arr2 {r : Reach} {b0 : Nat} {t e : TypeId} {k : IntKind} {v : Value} {d : DataW H} {p : List MemPlace} (ht : P.underlying t = some (.array 2 e)) (he : P.underlying e = some (.int k)) (hce : P.cellsOf e = 1) (hct : P.cellsOf t = 2)
    (hv : Value.okWide P w r b0 t v) (h : DataW.Trod enc P w base spare held t v d p) :
    ∃ (x y : Int), v = .agg #[.int k x, .int k y] ∧ d = .agg [.lit (.int k x), .lit (.int k y)] ∧ p = [] ∧ ((Lit.int k x).wf = true ∧ (Lit.int k y).wf = true) := by
  have hv' : ∃ cs : Array Value, v = .agg cs ∧ cs.size = P.cellsOf t := by
    simp only [Value.okWide, ht] at hv
    obtain ⟨cs, h1, h2, _⟩ := hv
    exact ⟨cs, h1, h2⟩
  obtain ⟨cs, rfl, hsz⟩ := hv'
  obtain ⟨c0, c1, rfl⟩ := array2 (hsz.trans hct)
  obtain ⟨fuel, hf⟩ := h
  obtain ⟨xs, m, rfl, hx, _, hn, hel⟩ := DataW.trod_array ht hf
  have h0 := hel 0 (by omega)
  have h1 := hel 1 (by omega)
  rw [hce] at h0 h1
  match xs, hn with
  | [x0, x1], _ =>
    simp only [Prod.mk.injEq] at hx
    have h0' : DataW.trod enc P w base spare held m e [c0] = some x0 := h0
    have h1' : DataW.trod enc P w base spare held m e [c1] = some x1 := h1
    obtain ⟨a, e0, rfl, wa⟩ := DataW.trod_int he h0'
    obtain ⟨b, e1, rfl, wb⟩ := DataW.trod_int he h1'
    simp at e0 e1
    subst e0 e1
    refine ⟨a, b, rfl, ?_, ?_, wa, wb⟩
    · rw [hx.1]; rfl
    · rw [hx.2]; rfl
theorem shut_arr2 {t e : TypeId} {k : IntKind} {x y : Int} (ht : P.underlying t = some (.array 2 e)) (he : P.underlying e = some (.int k)) (hce : P.cellsOf e = 1) (hct : P.cellsOf t = 2)
    (hw : (Lit.int k x).wf = true ∧ (Lit.int k y).wf = true) :
    DataW.Trod enc P w base spare held t (.agg #[.int k x, .int k y]) (.agg [.lit (.int k x), .lit (.int k y)]) [] := by
  refine ⟨2, ?_⟩
  have r2 : List.range 2 = [0, 1] := rfl
  simp [DataW.trod, ht, he, hce, hct, r2, Value.cells, hw.1, hw.2]
end Go.Proofs.YtbijolohpfkihaaDoor.Frame
