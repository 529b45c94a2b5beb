/- Contracts of the decoder's methods fail, varint, number. -/
import Derived.Test.YteljhjljigbcjaaGreatDoorCvS
import Derived.Test.YteljhjljigbcjaaGreatDoorCvN
import Derived.WalkLawsBesides
import Derived.Deep.QuietTactic
set_option linter.unusedVariables false
namespace Go.Proofs.YteljhjljigbcjaaGreatDoor.Cv
open Go.RowKit

/-- the panic of a failure -/
def pan (k : Int) : List PanicEntry := [{ v := .iface 93 (.agg #[.int .i64 k]), recovered := false }]

/-- the decoder in block g: its text L in the slice v, its place p -/
structure Src (w : World) (g p : Nat) (v : Value) (L : List UInt8) : Prop where
  here : w.heap[g]? = some (.cells #[v, .int .i64 p] 96 (0, 0))
  txt : Txt w v L
  ne : ∀ b n c, v = .slice (some b) n c → 0 < L.length → b.block ≠ g
  le : p ≤ L.length

/-- the decoder in block g has come to q, and new blocks may be there -/
structure Moved (w : World) (g q : Nat) (w' : World) : Prop where
  out : Below w.heap.size (w.setCell ⟨g, 1, none⟩ (.int .i64 q)) w'

theorem size_setCell (w : World) (a : Addr) (v : Value) : (w.setCell a v).heap.size = w.heap.size := by simp [World.setCell]
theorem heap_set {w : World} {g p : Nat} {v : Value} (h : w.heap[g]? = some (.cells #[v, .int .i64 p] 96 (0, 0))) (q : Nat) :
    (w.setCell ⟨g, 1, none⟩ (.int .i64 q)).heap[g]? = some (.cells #[v, .int .i64 q] 96 (0, 0)) := by
  rw [setCell_eq_setRow w g 1 _ _ _ _ h]
  exact setRow_heap w g _ _ _ _ h
theorem lt_of_heap {w : World} {g : Nat} {o : Obj} (h : w.heap[g]? = some o) : g < w.heap.size := by
  rcases Nat.lt_or_ge g w.heap.size with h' | h'
  · exact h'
  · rw [Array.getElem?_eq_none h'] at h; exact absurd h (by simp)
theorem block_add (a : Addr) (j : Nat) : (a.add j).block = a.block := by unfold Addr.add; split <;> rfl
theorem Txt.set {w : World} {g i : Nat} {u v : Value} {L : List UInt8} (h : Txt w v L) (hn : ∀ b n c, v = .slice (some b) n c → 0 < L.length → b.block ≠ g) : Txt (w.setCell ⟨g, i, none⟩ u) v L := by
  obtain ⟨ao, cap, rfl, h0, h1, h2, hc⟩ := h
  refine ⟨ao, cap, rfl, h0, h1, h2, fun b hb j x hx => ?_⟩
  have := hc b hb j x hx
  rw [World.cell?_of_block (w := w) (Below.heap_setCell _ _ _ _ (by rw [block_add]; exact hn b _ _ (by rw [hb]) (by have := (List.getElem?_eq_some_iff.1 hx).1; rw [len_cells] at this; omega)))]
  exact this
theorem Src.set {w : World} {g p : Nat} {v : Value} {L : List UInt8} (h : Src w g p v L) (q : Nat) (hq : q ≤ L.length) : Src (w.setCell ⟨g, 1, none⟩ (.int .i64 q)) g q v L :=
  ⟨heap_set h.here q, h.txt.set h.ne, h.ne, hq⟩
theorem Src.below {w w' : World} {g p : Nat} {v : Value} {L : List UInt8} (h : Src w g p v L) (hb : Below w.heap.size w w') : Src w' g p v L :=
  ⟨by rw [hb.block g (lt_of_heap h.here)]; exact h.here, h.txt.below hb, h.ne, h.le⟩
theorem Src.moved {w w' : World} {g p q : Nat} {v : Value} {L : List UInt8} (h : Src w g p v L) (hq : q ≤ L.length) (hm : Moved w g q w') : Src w' g q v L :=
  (h.set q hq).below (by rw [size_setCell]; exact hm.out)
theorem Moved.set (w : World) (g q : Nat) : Moved w g q (w.setCell ⟨g, 1, none⟩ (.int .i64 q)) := ⟨Below.refl _ _⟩
theorem setCell_twice {w : World} {g : Nat} (u v : Value) : (w.setCell ⟨g, 1, none⟩ u).setCell ⟨g, 1, none⟩ v = w.setCell ⟨g, 1, none⟩ v := by
  simp only [World.setCell]
  congr 1
  apply Array.ext_getElem?
  intro i
  simp only [Array.getElem?_modify]
  by_cases h : g = i
  · subst h
    simp only [if_true]
    cases w.heap[g]? with
    | none => rfl
    | some o => cases o <;> simp
  · simp only [h, if_false]
theorem Below.put {B : Nat} {w w' : World} (h : Below B w w') (a : Addr) (u : Value) : Below B (w.setCell a u) (w'.setCell a u) := by
  refine ⟨h.os, h.tape, h.output, by rw [size_setCell, size_setCell]; exact h.size, fun k hk => ?_⟩
  by_cases hka : k = a.block
  · subst hka
    simp only [World.setCell, Array.getElem?_modify]
    rw [h.block _ hk]
  · rw [Below.heap_setCell _ _ _ _ hka, Below.heap_setCell _ _ _ _ hka]; exact h.block _ hk
theorem Moved.trans {w w1 w2 : World} {g q r : Nat} (h : Moved w g q w1) (k : Moved w1 g r w2) : Moved w g r w2 := by
  have h1 := Below.put h.out ⟨g, 1, none⟩ (.int .i64 r)
  rw [setCell_twice] at h1
  have hs := h.out.size
  rw [size_setCell] at hs
  exact ⟨h1.trans (k.out.mono hs)⟩
theorem Moved.below {w w1 w2 : World} {g q : Nat} (h : Moved w g q w1) (k : Below w1.heap.size w1 w2) : Moved w g q w2 := by
  have hs := h.out.size
  rw [size_setCell] at hs
  exact ⟨h.out.trans (k.mono hs)⟩
theorem Moved.size {w w1 : World} {g q : Nat} (h : Moved w g q w1) : w.heap.size ≤ w1.heap.size := by
  have hs := h.out.size
  rwa [size_setCell] at hs

theorem Moved.refl {w : World} {g p : Nat} {v : Value} {L : List UInt8} (h : Src w g p v L) : Moved w g p w := by
  refine ⟨⟨rfl, rfl, rfl, by rw [size_setCell]; exact Nat.le_refl _, fun k hk => ?_⟩⟩
  by_cases hkg : k = g
  · subst hkg; rw [heap_set h.here p]; exact h.here
  · rw [Below.heap_setCell _ _ _ _ hkg]

theorem Moved.drew {w w1 : World} {g q : Nat} (h : Moved w g q w1) (n : Nat) : Moved w g q (w1.drewN n) := ⟨below_drewN h.out n⟩
theorem Txt.drew {w : World} {v : Value} {L : List UInt8} (h : Txt w v L) (n : Nat) : Txt (w.drewN n) v L := h.below (below_drewN (Below.refl _ _) n)
theorem Src.drew {w : World} {g p : Nat} {v : Value} {L : List UInt8} (h : Src w g p v L) (n : Nat) : Src (w.drewN n) g p v L := ⟨h.here, h.txt.drew n, h.ne, h.le⟩
/-- what a method of the decoder answers -/
def Ans {α : Type} (w : World) (g : Nat) (L : List UInt8) (o : Out α) (val : α → Value → World → Prop) (e : Ending) (w' : World) : Prop :=
  ∃ q, q ≤ L.length ∧ Moved w g q w' ∧ (match o with
    | .ok a q' => q' = q ∧ ∃ v, e = .returned v ∧ val a v w'
    | .bad k => e = .panicked (pan k))

set_option maxRecDepth 100000 in
theorem fail_any (a : Value) (k : Int) (w : World) : Calls Tryz.prog 50 #[a, .int .i64 k] w fun e w' => e = .panicked (pan k) ∧ w = w' := by
  go_enter Tryz.func50, Tryz.ntmps50
  go_wp2
  exact ⟨rfl, rfl, rfl⟩

theorem andnot_all : ∀ X : Nat, X < 256 → bits .andNot .u8 (X : Int) 128 = ((X % 128 : Nat) : Int) := by decide +kernel
theorem andnot (X : Nat) (h : X < 256) : bits .andNot .u8 (X : Int) 128 = ((X % 128 : Nat) : Int) := andnot_all X h
theorem wraps_i64 (n : Int) (h0 : 0 ≤ n) (h1 : n < 2 ^ 63) : IntKind.i64.wrap n = n := by rw [IntKind.wrap_i64]; omega
theorem xor_neg (a : Nat) (h : a < 2 ^ 63) : bits .xor .i64 (a : Int) (-1) = -((a : Nat) : Int) - 1 := by
  have e : BitVec.ofInt 64 (-1) = BitVec.ofNat 64 18446744073709551615 := by decide
  show IntKind.i64.wrap (((BitVec.ofInt 64 (a : Int) ^^^ BitVec.ofInt 64 (-1)).toNat : Nat) : Int) = _
  rw [e, BitVec.ofInt_natCast, BitVec.toNat_xor, BitVec.toNat_ofNat, BitVec.toNat_ofNat, Nat.mod_eq_of_lt (show a < 2 ^ 64 by omega), Nat.mod_eq_of_lt (show 18446744073709551615 < 2 ^ 64 by decide), xor_ones a (by omega), IntKind.wrap_i64]
  omega
theorem zag_bits (U : Nat) (h : U < 2 ^ 64) : bits .xor .i64 (wrap64 ((U : Int) / 2)) (wrap64 (-wrap64 (bits .and .u64 (U : Int) 1))) = zag U := by
  have h1 := (bits_nat .u64 64 (by decide) wraps_u64 U 1 h (by decide)).1
  rw [show ((1 : Nat) : Int) = 1 from rfl] at h1
  rw [h1, Nat.and_one_is_mod]
  rcases Nat.mod_two_eq_zero_or_one U with hc | hc
  · rw [hc]
    unfold zag
    rw [if_pos hc]
    have e1 : wrap64 ((U : Int) / 2) = ((U / 2 : Nat) : Int) := by simp only [wrap64]; omega
    rw [e1, show wrap64 (-wrap64 ((0 : Nat) : Int)) = ((0 : Nat) : Int) from by simp [wrap64], bits_xor_nat .i64 63 (by decide) wraps_i64 (U / 2) 0 (by omega) (by decide), Nat.xor_zero]
  · rw [hc]
    unfold zag
    rw [if_neg (by omega)]
    have e1 : wrap64 ((U : Int) / 2) = ((U / 2 : Nat) : Int) := by simp only [wrap64]; omega
    rw [e1, show wrap64 (-wrap64 ((1 : Nat) : Int)) = -1 from by simp [wrap64]]
    exact xor_neg (U / 2) (by omega)
theorem or_add (a Y i : Nat) (ha : a < 128 ^ i) : a ||| Y * 128 ^ i = a + Y * 128 ^ i := by
  have e : (128 : Nat) ^ i = 2 ^ (7 * i) := by rw [Nat.pow_mul]
  rw [e] at ha ⊢
  rw [Nat.or_comm, Nat.mul_comm, ← Nat.two_pow_add_eq_or_of_lt ha, Nat.add_comm]
theorem or_bits (a Y i : Nat) (ha : a < 128 ^ i) (hY : Y < 128) (hi : i ≤ 8) : bits .or .u64 (a : Int) (IntKind.u64.wrap ((Y : Int) * 2 ^ (7 * i))) = ((a + Y * 128 ^ i : Nat) : Int) := by
  have e : (2 : Nat) ^ (7 * i) = 128 ^ i := by rw [Nat.pow_mul]
  have hp : 128 ^ i ≤ 128 ^ 8 := Nat.pow_le_pow_right (by decide) hi
  have hb : Y * 128 ^ i < 2 ^ 64 := by
    have := Nat.mul_le_mul (show Y ≤ 127 by omega) hp
    have : 127 * 128 ^ 8 < 2 ^ 64 := by decide
    omega
  have hw : IntKind.u64.wrap ((Y : Int) * 2 ^ (7 * i)) = ((Y * 128 ^ i : Nat) : Int) := by
    have : ((Y : Int) * 2 ^ (7 * i)) = ((Y * 128 ^ i : Nat) : Int) := by rw [← e]; push_cast; rfl
    rw [this]
    exact wraps_u64 _ (by omega) (by exact_mod_cast hb)
  rw [hw, (bits_nat .u64 64 (by decide) wraps_u64 a _ (by have : 128 ^ 8 < 2 ^ 64 := by decide
                                                          omega) hb).2, or_add a Y i ha]
theorem top_bits (a : Nat) (ha : a < 128 ^ 9) :
    bits .xor .i64 (wrap64 (bits .or .u64 (a : Int) (IntKind.u64.wrap (IntKind.u64.wrap (bits .andNot .u8 1 128) * 9223372036854775808)) / 2))
      (wrap64 (-wrap64 (bits .and .u64 (bits .or .u64 (a : Int) (IntKind.u64.wrap (IntKind.u64.wrap (bits .andNot .u8 1 128) * 9223372036854775808))) 1))) = zag (a + 1 * 128 ^ 9) := by
  have e : IntKind.u64.wrap (IntKind.u64.wrap (bits .andNot .u8 1 128) * 9223372036854775808) = ((1 * 128 ^ 9 : Nat) : Int) := by decide +kernel
  have h1 : 128 ^ 9 + 1 * 128 ^ 9 = 2 ^ 64 := by decide
  rw [e, (bits_nat .u64 64 (by decide) wraps_u64 a _ (by omega) (by decide)).2, or_add a 1 9 ha, zag_bits _ (by omega)]
set_option maxRecDepth 100000 in
set_option maxHeartbeats 1000000 in
theorem varint_any (w : World) (g p : Nat) (v : Value) (L : List UInt8) (h : Src w g p v L) (hL : Aside (L.length < 1000000000)) :
    Calls Tryz.prog 28 #[.pointer (some ⟨g, 0, none⟩)] w fun e w' => Ans w g L (rdV L p) (fun n u _ => u = .int .i64 n) e w' := by
  go_enter Tryz.func28, Tryz.ntmps28
  go_wp2_with fail
  go_loopg [3, 4] 9 (fun k v3 v4 wr => ∃ (i a : Nat), v3 = .int .u64 a ∧ v4 = .int .i64 (7 * (i : Int)) ∧ i + k = 9 ∧ Aside (a < 128 ^ i) ∧ Aside (dec (L.drop (p + i)) i a = dec (L.drop p) 0 0) ∧ Src wr g (p + i) v L ∧ Moved w g (p + i) wr)
  case atStart => exact ⟨0, 0, rfl, rfl, rfl, ⟨by decide⟩, ⟨rfl⟩, h, Moved.refl h⟩
  case round =>
    obtain ⟨i, a, rfl, rfl, hk, HA, HD, hs, hm⟩ := hrel
    obtain ⟨ao, cap, rfl, h0, hc, hmx, hcell⟩ := hs.txt
    have c0 : wr.cell? ⟨g, 0, none⟩ = some (.slice ao L.length cap) := by rw [cell_of_row wr g 0 _ _ _ hs.here]; rfl
    have c1 : wr.cell? ⟨g, 1, none⟩ = some (.int .i64 ((p + i : Nat) : Int)) := by rw [cell_of_row wr g 1 _ _ _ hs.here]; rfl
    have f1 : wr.frozen? ⟨g, 1, none⟩ = false := by simp [World.frozen?, hs.here]
    by_cases hl : p + i = L.length
    · have hz : ((L.length : Nat) : Int) = ((p + i : Nat) : Int) := by omega
      go_wp2_with fail
      go_quiet (fail)
      go_wp2_with (go_at_call 50; refine (fail_any _ _ _).mono ?_; rintro e w1 ⟨rfl, rfl⟩)
      refine ⟨rfl, p + i, by omega, hm.drew _, ?_⟩
      have : rdV L p = .bad 271 := by
        unfold rdV; rw [← HD.out, List.drop_of_length_le (by omega)]; rfl
      rw [this]
    · have hlt : p + i < L.length := by have := hs.le; omega
      have hz : ¬ ((p + i : Nat) : Int) = (L.length : Int) := by omega
      obtain ⟨ad, rfl⟩ : ∃ ad, ao = some ad := by
        cases ao with
        | none => have := h0 rfl; omega
        | some ad => exact ⟨ad, rfl⟩
      obtain ⟨x, hx⟩ : ∃ x, x = L[p + i] := ⟨_, rfl⟩
      have hd : L.drop (p + i) = x :: L.drop (p + i + 1) := by rw [hx]; exact List.drop_eq_getElem_cons hlt
      have hcw : wr.cell? (ad.add (p + i)) = some (.int .u8 x.toNat) := hcell ad rfl (p + i) _ (by simp [Lib.byteCells, hlt, hx])
      have hx256 : x.toNat < 256 := x.toNat_lt
      obtain ⟨X, hX⟩ : ∃ X, x.toNat = X := ⟨_, rfl⟩
      rw [hX] at hcw hx256
      have hdec : dec (L.drop (p + i)) i a = if (i = 9 ∧ X ≠ 1) ∨ (0 < i ∧ X = 0) then .bad 272 else if X < 128 then .ok (a + X * 128 ^ i) (i + 1) else dec (L.drop (p + i + 1)) (i + 1) (a + X % 128 * 128 ^ i) := by rw [hd, ← hX]; rfl
      rw [HD.out] at hdec
      have HE := Aside.mk hdec
      clear hdec hd hx hX
      have hpi : wrap64 (((p + i : Nat) : Int) + 1) = ((p + i + 1 : Nat) : Int) := by have := hL.out; simp only [wrap64]; omega
      obtain ⟨r, hr⟩ : ∃ r, r = p + i := ⟨_, rfl⟩
      rw [← hr] at hcw hs hm hz hlt c1 HE hpi
      have hzb : ((r : Int) == (L.length : Int)) = false := by simpa using hz
      clear h0 hcell hmx hc
      have hAN := andnot X hx256
      obtain ⟨Y, hY⟩ : ∃ Y, X % 128 = Y := ⟨_, rfl⟩
      have hY128 : Y < 128 := by omega
      rw [hY] at hAN
      have hWY : IntKind.u64.wrap (Y : Int) = (Y : Int) := by rw [wrap_u64]; omega
      have HR := Aside.mk hr
      clear hr hl
      have HYX := Aside.mk hY
      clear hY
      have hfail : i = 9 ∧ X ≠ 1 ∨ 0 < i ∧ X = 0 → rdV L p = .bad 272 := fun hb => by
        unfold rdV; rw [HE.out, if_pos hb]
      have hret : ¬ (i = 9 ∧ X ≠ 1 ∨ 0 < i ∧ X = 0) → X < 128 → rdV L p = .ok (zag (a + X * 128 ^ i)) (r + 1) := fun hb h8 => by
        unfold rdV; rw [HE.out, if_neg hb, if_pos h8]
        show Out.ok _ _ = _
        rw [HR.out]; congr 1
      have hnext : ¬ (i = 9 ∧ X ≠ 1 ∨ 0 < i ∧ X = 0) → ¬ X < 128 → dec (L.drop (p + (i + 1))) (i + 1) (a + X % 128 * 128 ^ i) = dec (L.drop p) 0 0 := fun hb h8 => by
        rw [HE.out, if_neg hb, if_neg h8, HR.out]; rfl
      have HF := Aside.mk hfail
      have HRT := Aside.mk hret
      have HN := Aside.mk hnext
      clear hfail hret hnext HE
      have hmr : ∀ n, Moved w g (r + 1) ((wr.drewN n).setCell ⟨g, 1, none⟩ (.int .i64 ((r : Int) + 1))) := fun n => by
        have := (hm.drew n).trans (Moved.set (wr.drewN n) g (r + 1))
        simpa using this
      have hsr : ∀ n, Src ((wr.drewN n).setCell ⟨g, 1, none⟩ (.int .i64 ((r : Int) + 1))) g (r + 1) (.slice (some ad) L.length cap) L := fun n => by
        have := (hs.drew n).set (r + 1) hlt
        simpa using this
      have HMR := Aside.mk hmr
      have HSR := Aside.mk hsr
      clear hmr hsr
      by_cases hi0 : i = 0
      · subst hi0
        have ha : a = 0 := by have := HA.out; simp at this; exact this
        subst ha
        have hor : bits .or .u64 0 (Y : Int) = (Y : Int) := by
          have := (bits_nat .u64 64 (by decide) wraps_u64 0 Y (by decide) (by omega)).2
          simpa using this
        have hzag := zag_bits Y (by omega)
        by_cases hX128 : X < 128
        · go_wp2_with fail
          go_quiet (fail)
          go_wp2_with fail
          go_quiet (fail)
          go_wp2_with fail
          go_ret
          refine ⟨r + 1, by omega, HMR.out _, ?_⟩
          rw [HRT.out (by omega) hX128]
          refine ⟨rfl, _, rfl, ?_⟩
          have hXY : X = Y := by have := HYX.out; omega
          rw [show 0 + X * 128 ^ 0 = Y from by simp [hXY], ← hzag]
          have hz2 : wrap64 ((Y : Int) / 2) = (Y : Int) / 2 := by simp only [wrap64]; omega
          first | rfl | (rw [hz2]; rfl)
        · go_wp2_with fail
          go_quiet (fail)
          go_wp2_with fail
          go_quiet (fail)
          go_wp2_with fail
          go_roundg 8
          case measure => omega
          case rel => exact ⟨1, Y, rfl, rfl, rfl, ⟨by omega⟩, ⟨by have := HN.out (by omega) hX128; rw [HYX.out] at this; simpa using this⟩, by rw [show p + 1 = r + 1 from by have := HR.out; omega]; exact HSR.out _, by rw [show p + 1 = r + 1 from by have := HR.out; omega]; exact HMR.out _⟩
      · by_cases hi9 : i = 9
        · subst hi9
          clear hAN hWY
          by_cases hX1 : X = 1
          · subst hX1
            go_wp2_with fail
            go_quiet (fail)
            go_wp2_with fail
            go_quiet (fail)
            go_wp2_with fail
            go_ret
            refine ⟨r + 1, by omega, HMR.out _, ?_⟩
            rw [HRT.out (by omega) (by omega)]
            refine ⟨rfl, _, rfl, ?_⟩
            exact congrArg _ (top_bits a HA.out)
          · have hX1b : ((X : Int) == 1) = false := by simp; omega
            go_wp2_with fail
            go_quiet (fail)
            go_wp2_with fail
            go_quiet (fail)
            go_wp2_with (go_at_call 50; refine (fail_any _ _ _).mono ?_; rintro e w1 ⟨rfl, rfl⟩)
            refine ⟨rfl, r, by omega, hm.drew _, ?_⟩
            rw [HF.out (by simp [hX1])]
        · have h63 : ((7 * (i : Int)) == 63) = false := by simp; omega
          by_cases hX0 : X = 0
          · subst hX0
            go_wp2_with fail
            go_quiet (fail)
            go_wp2_with fail
            go_quiet (fail)
            go_wp2_with (go_at_call 50; refine (fail_any _ _ _).mono ?_; rintro e w1 ⟨rfl, rfl⟩)
            refine ⟨rfl, r, by omega, hm.drew _, ?_⟩
            rw [HF.out (by simp; omega)]
          · have hX0b : ((X : Int) == 0) = false := by simp; omega
            have hor := or_bits a Y i HA.out hY128 (by omega)
            obtain ⟨U, hU⟩ : ∃ U, a + Y * 128 ^ i = U := ⟨_, rfl⟩
            rw [hU] at hor
            have hUl : U < 128 ^ (i + 1) := by
              have := HA.out
              have := Nat.mul_le_mul_right (128 ^ i) (show Y ≤ 127 by omega)
              rw [Nat.pow_succ]; omega
            have hU64 : U < 2 ^ 64 := by
              have : 128 ^ (i + 1) ≤ 128 ^ 9 := Nat.pow_le_pow_right (by decide) (by omega)
              have : 128 ^ 9 < 2 ^ 64 := by decide
              omega
            have hzag := zag_bits U hU64
            have HU := Aside.mk hU
            have HUL := Aside.mk hUl
            clear hU hUl hU64
            by_cases hX128 : X < 128
            · have hXY : X = Y := by have := HYX.out; omega
              have HXY := Aside.mk hXY
              clear hXY
              go_wp2_with fail
              go_quiet (fail)
              go_wp2_with fail
              go_quiet (fail)
              go_wp2_with fail
              go_ret
              refine ⟨r + 1, by omega, HMR.out _, ?_⟩
              rw [HRT.out (by omega) hX128, HXY.out, HU.out]
              exact ⟨rfl, _, rfl, rfl⟩
            · have h7 : wrap64 (7 * (i : Int) + 7) = 7 * ((i + 1 : Nat) : Int) := by simp only [wrap64]; omega
              go_wp2_with fail
              go_quiet (fail)
              go_wp2_with fail
              go_quiet (fail)
              go_wp2_with fail
              obtain ⟨go, hgo⟩ : ∃ go, gk = go + 1 := ⟨gk - 1, by omega⟩
              go_roundg go
              case measure => omega
              case rel => exact ⟨i + 1, U, rfl, by go_num, by omega, HUL, ⟨by have := HN.out (by omega) hX128; rw [HYX.out, HU.out] at this; exact this⟩, by rw [show p + (i + 1) = r + 1 from by have := HR.out; omega]; exact HSR.out _, by rw [show p + (i + 1) = r + 1 from by have := HR.out; omega]; exact HMR.out _⟩
end Go.Proofs.YteljhjljigbcjaaGreatDoor.Cv
