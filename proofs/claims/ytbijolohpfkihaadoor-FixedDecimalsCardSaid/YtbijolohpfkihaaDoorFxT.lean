/- What package fixed reads of the library's variables, and worlds that keep it. -/
import Derived.Test.YtbijolohpfkihaaDoorProg
import Derived.WalkKit
import Derived.WalkSmall
import Derived.KernelRfl
import Derived.Lib.LaidTab
import Derived.Lib.Builder
import Derived.Sort.Grow
import Derived.Test.YtbijolohpfkihaaDoorWWords
import Derived.Test.YtbijolohpfkihaaDoorShelf
set_option linter.unusedVariables false
namespace Go.Proofs.YtbijolohpfkihaaDoor.Fx
open Go.RowKit Go.Sort Go.Proofs.YtbijolohpfkihaaDoorW.PrintWords

theorem gPow : Tryd.prog.globalNamed "internal/strconv.uint64pow10" = some 2 := by kernel_rfl
theorem gRange : Tryd.prog.globalNamed "strconv.ErrRange" = some 1 := by kernel_rfl

/-- the tables and sentinels that FormatInt and ParseInt read -/
structure Tabs (w : World) : Prop where
  pow : Lib.TabIs Tryd.prog w "internal/strconv.uint64pow10" .u64 Lib.pow10Tab
  rng : ∃ tp p, w.var? Tryd.prog "strconv.ErrRange" = some #[.iface tp p]

theorem var_lt {w : World} {n : String} {g : Nat} {cs : Array Value} (hg : Tryd.prog.globalNamed n = some g) (h : w.var? Tryd.prog n = some cs) : g < w.heap.size := by
  unfold World.var? at h
  simp only [hg, Option.bind_some] at h
  rcases Nat.lt_or_ge g w.heap.size with h' | h'
  · exact h'
  · simp [Array.getElem?_eq_none h'] at h
theorem Tabs.below {w w' : World} (h : Tabs w) (hb : Below w.heap.size w w') : Tabs w' := by
  obtain ⟨hp, tp, p, hr⟩ := h
  exact ⟨var?_below hb gPow (var_lt gPow hp) hp, tp, p, var?_below hb gRange (var_lt gRange hr) hr⟩
theorem Tabs.later {B : Nat} {w w' : World} (h : Tabs w) (hb : Below B w w') (hB : w.heap.size ≤ B) : Tabs w' := h.below (hb.mono hB)

theorem Grow_below {B : Nat} {w w1 : World} (h : Below B w w1) (hB : B ≤ w1.heap.size) (os : Array Obj) : Below B w (grow w1 os) :=
  h.trans ⟨rfl, rfl, rfl, by simp [grow], fun k hk => by simp only [grow]; rw [Array.getElem?_append_left (by omega)]⟩

theorem IsBuilder_below {T e : TypeId} {B b : Nat} {bs : List Value} {w w1 : World} (h : Lib.IsBuilder T e B b bs w) (hb : Below w.heap.size w w1) : Lib.IsBuilder T e B b bs w1 := by
  have key : ∀ p, Lib.BuilderAt T e B b p bs w → Lib.BuilderAt T e B b p bs w1 := by
    rintro p ⟨h1, v, h2, h3, h4⟩
    refine ⟨h1, v, ?_, pw_own_below h3 hb, h4⟩
    rw [hb.block b ?_, h2]
    rcases Nat.lt_or_ge b w.heap.size with h' | h'
    · exact h'
    · simp [Array.getElem?_eq_none h'] at h2
  rcases h with h | h
  · exact .inl (key _ h)
  · exact .inr (key _ h)
/-- A fresh Builder. -/
theorem IsBuilder_new {T e : TypeId} (w : World) : Lib.IsBuilder T e w.heap.size w.heap.size [] (w.alloc (.cells #[.pointer none, .slice none 0 0] T)) :=
  .inl ⟨Nat.le_refl _, .slice none 0 0, by show (w.heap.push _)[w.heap.size]? = _; simp, own_nil _ _ _ _, by simp [Value.ownBlock]⟩

/-- FormatInt at base 10, by the frame alone. -/
theorem FormatInt_B (n : Int) (w : World) (h0 : -9223372036854775808 ≤ n) (h1 : n ≤ 9223372036854775807) (ht : Tabs w) :
    Calls Tryd.prog 42 #[.int .i64 n, .int .i64 10] w fun e w' => e = .returned (.string ⟨(Lib.itoa n).toArray⟩) ∧ Below w.heap.size w w' := by
  refine (Tryd.strconv_FormatInt_10 n h0 h1 w ht.pow).mono ?_
  rintro e w' ⟨rfl, k, os, rfl⟩
  exact ⟨rfl, Grow_below (below_drewN (Below.refl _ _) k) (Nat.le_refl _) os⟩
end Go.Proofs.YtbijolohpfkihaaDoor.Fx
