/- Contract of codec.AppendVarint: the text and the varint behind it, in a row of the call's own. -/
import Derived.Test.YteljhjljigbcjaaGreatDoorChecked
import Derived.Test.YteljhjljigbcjaaGreatDoorCvB
import Derived.Test.YteljhjljigbcjaaGreatDoorCvM
import Derived.Test.YteljhjljigbcjaaGreatDoorCvX
import Derived.Deep.LoopGhost
import Derived.WalkSpells
import Derived.WalkSmall
set_option linter.unusedVariables false
namespace Go.Proofs.YteljhjljigbcjaaGreatDoor.Cv
open Go.RowKit

structure Aside (p : Prop) : Prop where
  out : p

set_option maxRecDepth 100000 in
set_option maxHeartbeats 1000000 in
theorem Clip_any (ao : Option Addr) (n cap : Nat) (w : World) (h0 : ao = none → n = 0 ∧ cap = 0) (hc : n ≤ cap) (hm : cap ≤ maxLen) :
    Calls Tryz.prog 38 #[.slice ao n cap] w fun e w' => e = .returned (.slice ao n n) ∧ w = w' := by
  cases ao with
  | none =>
    obtain ⟨rfl, rfl⟩ := h0 rfl
    go_enter Tryz.func38, Tryz.ntmps38
    go_wp2
    go_ret
    exact ⟨rfl, rfl⟩
  | some ad =>
    obtain ⟨b, o, l⟩ := ad
    go_enter Tryz.func38, Tryz.ntmps38
    go_wp2
    go_ret
    exact ⟨rfl, rfl⟩

theorem info_u8 : (Tryz.prog.info? 5).map (fun i => (i.zero, i.size, i.bytes)) = some (some (.int .u8 0), 1, 1) := by kernel_rfl
theorem or128_nat : ∀ a : Nat, a < 256 → a ||| 128 = a % 128 + 128 := by decide +kernel
theorem or128 (u : Nat) : bits BinOp.or IntKind.u8 ((u : Int) % 256) 128 = ((u % 128 + 128 : Nat) : Int) := by
  have h := (bits_nat .u8 8 (by decide) wraps_u8 (u % 256) 128 (by omega) (by decide)).2
  rw [or128_nat _ (by omega), show u % 256 % 128 = u % 128 from by omega] at h
  exact h
theorem one_cell (w : World) (x : Value) (T : TypeId) : ∀ j u, [x][j]? = some u → (w.alloc (.cells #[x] T)).cell? ((⟨w.heap.size, 0, none⟩ : Addr).add j) = some u := by
  intro j u h
  cases j with
  | zero => simp at h; subst h; rw [Addr.add_lit, World.cell?_alloc_at] <;> simp
  | succ j => simp at h
set_option maxRecDepth 100000 in
set_option maxHeartbeats 1000000 in
theorem AppendVarint_any (ao : Option Addr) (m cap : Nat) (xs : List UInt8) (n : Int) (w : World) (h0 : ao = none → m = 0 ∧ cap = 0) (hc : m ≤ cap) (hm : cap ≤ maxLen) (hx : xs.length = m)
    (hcell : ∀ b, ao = some b → ∀ j u, (Lib.byteCells xs)[j]? = some u → w.cell? (b.add j) = some u) (n0 : -9223372036854775808 ≤ n) (n1 : n ≤ 9223372036854775807) (hbd : m ≤ 1000000000) :
    Calls Tryz.prog 15 #[.slice ao m cap, .int .i64 n] w fun e w' => ∃ v', e = .returned v' ∧ w'.ownsRow w.heap.size 5 1 v' (m + (vint n).length) (Lib.byteCells (xs ++ vint n)) ∧ Below w.heap.size w w' := by
  have hz := zig_bits n n0 n1
  have hzl := zig_lt n n0 n1
  have hv : vint n = enc (zig n) := rfl
  obtain ⟨Z, hZ⟩ : ∃ Z, zig n = Z := ⟨_, rfl⟩
  rw [hZ] at hz hzl hv
  have HV := Aside.mk hv
  clear hv hZ
  go_enter Tryz.func15, Tryz.ntmps15
  go_wp2_with fail
  refine (Clip_any ao m cap w h0 hc hm).mono ?_
  rintro e w' ⟨rfl, rfl⟩
  go_wp2_with fail
  go_loopg [0, 5] 10 (fun g v0 v5 wr => ∃ (ys : List UInt8) (u : Nat), v5 = .int .u64 u ∧ Aside (u < 128 ^ g) ∧ Held w.heap.size 5 wr v0 (Lib.byteCells ys) ∧ Aside (ys ++ enc u = xs ++ vint n) ∧ ys.length + g = m + 10 ∧ Below w.heap.size w wr)
  case atStart => exact ⟨xs, Z, rfl, ⟨Nat.lt_of_lt_of_le hzl (by decide)⟩, Or.inl ⟨ao, m, rfl, fun h => (h0 h).1, by simp [Lib.byteCells, hx], hcell⟩, ⟨by rw [HV.out]⟩, by omega, Below.refl _ _⟩
  case round =>
    obtain ⟨ys, u, rfl, HU, hh, HE, hl, hb⟩ := hrel
    by_cases hu : u < 128
    · obtain ⟨i0, hi, hz0, hz1, hz2⟩ := info_parts info_u8
      have hbs := hb.size
      have hlen : (Lib.byteCells ys).length = ys.length := by simp [Lib.byteCells]
      have hcu : Lib.byteCells (ys ++ [UInt8.ofNat u]) = Lib.byteCells ys ++ [.int .u8 u] := by
        simp only [Lib.byteCells, List.map_append, List.map_cons, List.map_nil, toNat_of u (by omega)]
      have hfin : xs ++ vint n = ys ++ [UInt8.ofNat u] := by rw [← HE.out, enc_small hu]
      have hfl : m + (vint n).length = ys.length + 1 := by have := congrArg List.length hfin; simp at this; omega
      have HC := Aside.mk hcu
      have HF := Aside.mk hfin
      have HL := Aside.mk hfl
      clear hcu hfin hfl
      go_wp2_with (first | (at_builtin; refine wpList_append_held _ rfl (.tmp 25) (.tmp 28) 22 rfl w.heap.size 5 i0 (.int .u8 0) 1 Tryz.underlying22 hi hz0 hz1 hz2 rfl _ (Lib.byteCells ys) rfl (hh.below ((Below.refl _ _).alloc (Nat.le_refl _) _)) ⟨wr.heap.size, 0, none⟩ 1 1 [.int .u8 u] rfl (by omega) rfl (one_cell _ _ _) (by intro u' hu'; simp at hu'; subst hu'; rfl) (by rw [hlen]; simp only [maxLen]; omega) (by omega) (by simp; omega) ?_; intro v' w1 hown hb1))
      go_ret
      refine ⟨v', rfl, ?_, (hb.alloc hbs _).trans hb1⟩
      rw [HF.out, HL.out, HC.out, ← hlen]; exact hown
    · obtain ⟨i0, hi, hz0, hz1, hz2⟩ := info_parts info_u8
      have hbs := hb.size
      have hlen : (Lib.byteCells ys).length = ys.length := by simp [Lib.byteCells]
      cases gk with
      | zero => have := HU.out; simp at this; omega
      | succ g =>
        have hor := or128 u
        have heb := enc_big hu
        have HU' : Aside (u / 128 < 128 ^ g) := ⟨by have := HU.out; rw [Nat.pow_succ] at this; omega⟩
        obtain ⟨B, hB⟩ : ∃ B, u % 128 + 128 = B := ⟨_, rfl⟩
        rw [hB] at hor heb
        have hB1 : B < 256 := by omega
        have HC : Aside (Lib.byteCells (ys ++ [UInt8.ofNat B]) = Lib.byteCells ys ++ [.int .u8 B]) := ⟨by simp only [Lib.byteCells, List.map_append, List.map_cons, List.map_nil, toNat_of B hB1]⟩
        have HF : Aside ((ys ++ [UInt8.ofNat B]) ++ enc (u / 128) = xs ++ vint n) := ⟨by rw [← HE.out, heb, List.append_assoc]; rfl⟩
        clear heb hB HU HE
        go_wp2_with (first | (at_builtin; refine wpList_append_held _ rfl (.tmp 19) (.tmp 23) 22 rfl w.heap.size 5 i0 (.int .u8 0) 1 Tryz.underlying22 hi hz0 hz1 hz2 rfl _ (Lib.byteCells ys) rfl (hh.below ((Below.refl _ _).alloc (Nat.le_refl _) _)) ⟨wr.heap.size, 0, none⟩ 1 1 [.int .u8 B] rfl (by omega) rfl (one_cell _ _ _) (by intro u' hu'; simp at hu'; subst hu'; rfl) (by rw [hlen]; simp only [maxLen]; omega) (by omega) (by simp; omega) ?_; intro v' w1 hown hb1))
        go_roundg g
        case measure => omega
        case rel => exact ⟨ys ++ [UInt8.ofNat B], u / 128, by go_num, HU', Or.inr (by rw [HC.out, List.length_append]; exact hown), HF, by rw [List.length_append, List.length_cons, List.length_nil]; omega, (hb.alloc hbs _).trans hb1⟩
end Go.Proofs.YteljhjljigbcjaaGreatDoor.Cv
