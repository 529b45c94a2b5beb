/- Contract of fixed.Format. -/
import Derived.Test.YtbijolohpfkihaaDoorFxA
import Derived.Test.YtbijolohpfkihaaDoorFxT
import Derived.Test.YtbijolohpfkihaaDoorBld
import Derived.Deep.LoopGhost
import Derived.Laws.BitsLemmas
import Derived.Deep.DeepCutAuto
import Derived.Deep.CutBlock
import Derived.Outline
set_option linter.unusedVariables false
namespace Go.Proofs.YtbijolohpfkihaaDoor.Fx
open Go.RowKit Go.Proofs.YtbijolohpfkihaaDoorW.PrintWords

/-- the fractional digits of f/65536, without trailing zeros -/
def fracL : Nat → Int → List UInt8
  | 0, _ => []
  | k + 1, f => if f ≤ 0 then [] else UInt8.ofNat (48 + (f * 10 / 65536).toNat) :: fracL k (f * 10 % 65536)
/-- the decimal representation of x from 0 on -/
def fmtP (x : Int) : List UInt8 := Lib.decDigits (x / 65536).toNat ++ (if x % 65536 = 0 then [] else 46 :: fracL 16 (x % 65536))
/-- the decimal representation of x -/
def fmtL (x : Int) : List UInt8 := if x < 0 then 45 :: fmtP (-x) else fmtP x

theorem strCells_bytes (l : List UInt8) : Lib.strCells ⟨l.toArray⟩ = Lib.byteCells l := by simp [Lib.strCells, Lib.byteCells]
theorem byteCells_append (a b : List UInt8) : Lib.byteCells (a ++ b) = Lib.byteCells a ++ Lib.byteCells b := by simp [Lib.byteCells]
theorem and_low (x : Int) (h0 : 0 ≤ x) (h1 : x < 9223372036854775808) : bits .and .i64 x 65535 = x % 65536 :=
  bits_mask .i64 63 (by decide) (fun n h0 h1 => by rw [IntKind.wrap_i64]; omega) 16 (by decide) x h0 (by omega)
theorem decDigits_len (u : Nat) : (Lib.decDigits u).length ≤ u + 1 := by
  induction u using Nat.strongRecOn with
  | _ u ih =>
    unfold Lib.decDigits
    split
    · simp
    · have := ih (u / 10) (by omega)
      simp only [List.length_append, List.length_cons, List.length_nil]
      omega
theorem size_mk (l : List UInt8) : ByteArray.size ⟨l.toArray⟩ = l.length := by simp [ByteArray.size]
theorem itoa_pos (n : Int) (h : 0 ≤ n) : Lib.itoa n = Lib.decDigits n.toNat := by unfold Lib.itoa; rw [if_neg (by omega)]

theorem dvd_start (f : Int) : (65536 : Int) ∣ f * 2 ^ 16 := ⟨f, by omega⟩
theorem dvd_round {f : Int} {g : Nat} (h : (65536 : Int) ∣ f * 2 ^ (g + 1)) : (65536 : Int) ∣ (f * 10 % 65536) * 2 ^ g := by
  obtain ⟨m, hm⟩ := h
  have e := Int.mul_ediv_add_emod (f * 10) 65536
  refine ⟨5 * m - (f * 10 / 65536) * 2 ^ g, ?_⟩
  have e1 : f * 10 % 65536 = f * 10 - 65536 * (f * 10 / 65536) := by omega
  rw [e1]
  generalize f * 10 / 65536 = q
  rw [Int.pow_succ] at hm
  generalize (2 : Int) ^ g = p at *
  rw [Int.sub_mul, Int.mul_sub]
  have : f * 10 * p = 5 * (f * (p * 2)) := by
    rw [Int.mul_comm p 2, ← Int.mul_assoc f 2 p, Int.mul_comm f 2]
    rw [Int.mul_assoc 2 f p, ← Int.mul_assoc 5 2]
    rw [Int.mul_comm f 10, Int.mul_assoc]; rfl
  rw [this, hm, Int.mul_assoc 65536 q p]
  omega

/-- What stays of Format behind the integer part: the loop over the fractional digits, and String. -/
def FmtRel (w : World) (total : List UInt8) (g : Nat) (v : Value) (wr : World) : Prop :=
  ∃ (f : Int) (l : List UInt8), v = .int .i64 f ∧ 0 ≤ f ∧ f < 65536 ∧ (65536 : Int) ∣ f * 2 ^ g ∧ g ≤ 16 ∧ l.length + g ≤ 70000 ∧ l ++ fracL g f = total ∧
    Lib.IsBuilder 64 5 w.heap.size w.heap.size (Lib.byteCells l) wr ∧ Below w.heap.size w wr

set_option maxRecDepth 100000 in
set_option maxHeartbeats 1000000 in
/-- fixed.Format at every number. -/
theorem Format_any (x0 : Int) (w : World) (h0 : -2147483648 < x0) (h1 : x0 < 2147483648) (ht : Tabs w) :
    Calls Tryd.prog 26 #[.int .i64 x0] w fun e w' => e = .returned (.string ⟨(fmtL x0).toArray⟩) ∧ Below w.heap.size w w' := by
  have hb0 : Below w.heap.size w (w.alloc (.cells #[.pointer none, .slice none 0 0] 64)) := (Below.refl _ _).alloc (Nat.le_refl _) _
  have hB0 := IsBuilder_new (T := 64) (e := 5) w
  go_enter Tryd.func26, Tryd.ntmps26
  go_upto_if 5 with (fail)
  go_cut [0] (fun v wc => ∃ (x : Int) (pre : List UInt8), v = .int .i64 x ∧ 0 ≤ x ∧ x < 2147483648 ∧ pre.length ≤ 1 ∧ Hid (fmtL x0 = pre ++ fmtP x) ∧ Lib.IsBuilder 64 5 w.heap.size w.heap.size (Lib.byteCells pre) wc ∧ w.heap.size + 1 ≤ wc.heap.size ∧ Below w.heap.size w wc)
  case first =>
    by_cases hneg : x0 < 0
    · have hfm : fmtL x0 = [45] ++ fmtP (-x0) := by simp [fmtL, hneg]
      have HM := Lib.hid hfm
      clear hfm
      go_wp2_with (first | (go_at_call 40; refine (Bld.WriteByte _ _ _ _ _ hB0 (by simp) (by simp)).mono ?_; rintro e w3 ⟨rfl, hB3, hb3⟩))
      have hs3 := hb3.size
      rw [World.size_alloc] at hs3
      go_wp2
      go_meet
      case rel => exact ⟨-x0, [45], rfl, by omega, by omega, by simp, HM, hB3, hs3, hb0.trans hb3⟩
    · have hfm : fmtL x0 = [] ++ fmtP x0 := by simp [fmtL, hneg]
      have HM := Lib.hid hfm
      clear hfm
      go_wp2
      go_meet
      case rel => exact ⟨x0, [], rfl, by omega, by omega, by simp, HM, hB0, by simp, hb0⟩
  case rest =>
    obtain ⟨x, pre, rfl, x1, x2, hpre, HM, hBc, hsc, hbc⟩ := hcut
    have htc := ht.below hbc
    have hand := and_low x x1 (by omega)
    have hlen := decDigits_len (x / 65536).toNat
    have hit := itoa_pos (x / 65536) (by omega)
    have HI := Lib.hid hit
    clear hit hB0 hb0
    go_wp2_with (first | (go_at_call 42; refine (FormatInt_B (x / 65536) _ (by omega) (by omega) htc).mono ?_; rintro e w1 ⟨rfl, hb1⟩))
    rw [HI.out]
    have hB1 := IsBuilder_below hBc hb1
    have hs1 := hb1.size
    have hbw1 : Below w.heap.size w w1 := hbc.trans (hb1.mono (by omega))
    have hsz : (Lib.byteCells pre).length + ByteArray.size ⟨(Lib.decDigits (x / 65536).toNat).toArray⟩ ≤ 140737488355328 := by rw [size_mk, Lib.byteCells_length]; omega
    refine (Bld.WriteString _ _ _ _ _ hB1 hsz (by omega)).mono ?_
    rintro e w2 ⟨rfl, hB2, hb2⟩
    rw [strCells_bytes, ← byteCells_append] at hB2
    have hs2 := hb2.size
    have hl1 : (pre ++ Lib.decDigits (x / 65536).toNat).length ≤ 60000 := by rw [List.length_append]; omega
    have hassoc : fmtL x0 = (pre ++ Lib.decDigits (x / 65536).toNat) ++ (if x % 65536 = 0 then [] else 46 :: fracL 16 (x % 65536)) := by rw [HM.out, fmtP, List.append_assoc]
    have HA := Lib.hid hassoc
    clear hsz hassoc HM HI hB1 hBc hlen
    generalize pre ++ Lib.decDigits (x / 65536).toNat = l0 at *
    by_cases hf : x % 65536 = 0
    · have hfin : fmtL x0 = l0 := by rw [HA.out, if_pos hf, List.append_nil]
      have HF := Lib.hid hfin
      have hf0 : decide (0 < x % 65536) = false := by simp; omega
      clear hfin HA hf
      go_wp2_with fail
      go_loopg [0] 1 (fun g v wr => w2 = wr ∧ v = .int .i64 (x % 65536))
      case atStart => exact ⟨rfl, rfl⟩
      case round =>
        obtain ⟨rfl, rfl⟩ := hrel
        go_wp2_with (first | (go_at_call 43; refine (Tryd.Builder_String_any _ _ _ _ hB2 (by omega)).mono ?_; rintro e w3 ⟨rfl, hb3⟩))
        go_ret
        rw [HF.out]
        exact ⟨rfl, hbw1.trans (hb2.trans hb3)⟩
    · have hlast : fmtL x0 = (l0 ++ [46]) ++ fracL 16 (x % 65536) := by rw [HA.out, if_neg hf, List.append_assoc]; rfl
      have HL := Lib.hid hlast
      have hf0 : 0 < x % 65536 := by omega
      clear hlast HA hf
      have hsz2 : (Lib.byteCells l0).length + 1 ≤ 140737488355328 := by rw [Lib.byteCells_length]; omega
      go_wp2_with (first | (go_at_call 40; refine (Bld.WriteByte _ _ _ _ _ hB2 hsz2 (by omega)).mono ?_; rintro e w3 ⟨rfl, hB3, hb3⟩))
      have hs3 := hb3.size
      have hB3' : Lib.IsBuilder 64 5 w.heap.size w.heap.size (Lib.byteCells (l0 ++ [46])) w3 := by rw [byteCells_append]; exact hB3
      have hl2 : (l0 ++ [46]).length ≤ 60001 := by rw [List.length_append, List.length_cons, List.length_nil]; omega
      clear hand hsz2 hB3 hB2
      generalize l0 ++ [46] = l2 at *
      go_loopg [0] 16 (fun g v wr => FmtRel w (l2 ++ fracL 16 (x % 65536)) g v wr)
      case atStart => exact ⟨x % 65536, l2, rfl, by omega, by omega, dvd_start _, by omega, by omega, rfl, hB3', hbw1.trans (hb2.trans hb3)⟩
      case round =>
        obtain ⟨f, l, rfl, f0, f1, fd, fg, fl, ft, fB, fb⟩ := hrel
        have FT := Lib.hid ft
        have FD := Lib.hid fd
        clear ft fd
        have hbs := fb.size
        by_cases hz : f = 0
        · subst hz
          have hft : l2 ++ fracL 16 (x % 65536) = l := by
            rw [← FT.out]
            cases gk with
            | zero => simp [fracL]
            | succ g => simp [fracL]
          have HT := Lib.hid hft
          clear hft
          go_wp2_with (first | (go_at_call 43; refine (Tryd.Builder_String_any _ _ _ _ fB (by omega)).mono ?_; rintro e w4 ⟨rfl, hb4⟩))
          go_ret
          rw [HL.out, HT.out]
          exact ⟨rfl, fb.trans hb4⟩
        · have f2 : 0 < f := by omega
          cases gk with
          | zero =>
            have := FD.out
            rw [Int.pow_zero, Int.mul_one] at this
            have := Int.emod_eq_zero_of_dvd this
            omega
          | succ g =>
            have hand := and_low (f * 10) (by omega) (by omega)
            have hcl : (Lib.byteCells l).length + 1 ≤ 140737488355328 := by rw [Lib.byteCells_length]; omega
            go_wp2_with (first | (go_at_call 40; refine (Bld.WriteByte _ _ _ _ _ fB hcl (by omega)).mono ?_; rintro e w4 ⟨rfl, hB4, hb4⟩))
            have hB5 : Lib.IsBuilder 64 5 w.heap.size w.heap.size (Lib.byteCells (l ++ [UInt8.ofNat (48 + (f * 10 / 65536).toNat)])) w4 := by
              rw [byteCells_append]
              have e1 : Lib.byteCells [UInt8.ofNat (48 + (f * 10 / 65536).toNat)] = [.int .u8 (48 + f * 10 / 65536)] := by
                simp only [Lib.byteCells, List.map_cons, List.map_nil, UInt8.toNat_ofNat']
                rw [show ((48 + (f * 10 / 65536).toNat) % 2 ^ 8 : Nat) = 48 + (f * 10 / 65536).toNat from by omega]
                rw [show ((48 + (f * 10 / 65536).toNat : Nat) : Int) = 48 + f * 10 / 65536 from by omega]
              rw [e1]; exact hB4
            go_wp2
            go_roundg g
            case measure => omega
            case rel =>
              refine ⟨_, _, rfl, by omega, by omega, dvd_round FD.out, by omega, ?_, ?_, hB5, fb.trans hb4⟩
              · simp only [List.length_append, List.length_cons, List.length_nil]; omega
              · rw [← FT.out]
                simp only [fracL]
                rw [if_neg (by omega), List.append_assoc]; rfl
end Go.Proofs.YtbijolohpfkihaaDoor.Fx
