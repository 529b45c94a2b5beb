/- FxF FxP FxQ -/
import Derived.Deep.LoopGhost
import Derived.Laws.BitsLemmas
import Derived.Deep.DeepCutAuto
import Derived.Deep.CutBlock
import Derived.Outline
import Derived.Lib.ConvBytes
import Derived.Laws.BytesArg
import Derived.Lib.TrimByte
import Derived.Lib.ParseIntB
import Derived.Lib.Hide
import Derived.Test.YthcidkidpiaomaaGreatDoorKb02
import Derived.Test.YthcidkidpiaomaaGreatDoorKb03
section
set_option linter.unusedVariables false
namespace Go.Proofs.YthcidkidpiaomaaGreatDoor.Fx
open Go.RowKit Go.Proofs.YthcidkidpiaomaaGreatDoorW.PrintWords
def fracL : Nat → Int → List UInt8
  | 0, _ => []
  | k + 1, f => if f ≤ 0 then [] else UInt8.ofNat (48 + (f * 10 / 65536).toNat) :: fracL k (f * 10 % 65536)
def fmtP (x : Int) : List UInt8 := Lib.decDigits (x / 65536).toNat ++ (if x % 65536 = 0 then [] else 46 :: fracL 16 (x % 65536))
def fmtL (x : Int) : List UInt8 := if x < 0 then 45 :: fmtP (-x) else fmtP x
theorem strCells_bytes (l : List UInt8) : Lib.strCells ⟨l.toArray⟩ = Lib.byteCells l := by simp [Lib.strCells, Lib.byteCells]
theorem byteCells_append (a b : List UInt8) : Lib.byteCells (a ++ b) = Lib.byteCells a ++ Lib.byteCells b := by simp [Lib.byteCells]
theorem and_low (x : Int) (h0 : 0 ≤ x) (h1 : x < 9223372036854775808) : bits .and .i64 x 65535 = x % 65536 :=
  bits_mask .i64 63 (by decide) (fun n h0 h1 => by rw [IntKind.wrap_i64]; omega) 16 (by decide) x h0 (by omega)
theorem decDigits_len (u : Nat) : (Lib.decDigits u).length ≤ u + 1 := by
  induction u using Nat.strongRecOn with
  | _ u ih =>
    unfold Lib.decDigits
    split
    · simp
    · have := ih (u / 10) (by omega)
      simp only [List.length_append, List.length_cons, List.length_nil]
      omega
theorem size_mk (l : List UInt8) : ByteArray.size ⟨l.toArray⟩ = l.length := by simp [ByteArray.size]
theorem itoa_pos (n : Int) (h : 0 ≤ n) : Lib.itoa n = Lib.decDigits n.toNat := by unfold Lib.itoa; rw [if_neg (by omega)]
theorem dvd_start (f : Int) : (65536 : Int) ∣ f * 2 ^ 16 := ⟨f, by omega⟩
theorem dvd_round {f : Int} {g : Nat} (h : (65536 : Int) ∣ f * 2 ^ (g + 1)) : (65536 : Int) ∣ (f * 10 % 65536) * 2 ^ g := by
  obtain ⟨m, hm⟩ := h
  have e := Int.mul_ediv_add_emod (f * 10) 65536
  refine ⟨5 * m - (f * 10 / 65536) * 2 ^ g, ?_⟩
  have e1 : f * 10 % 65536 = f * 10 - 65536 * (f * 10 / 65536) := by omega
  rw [e1]
  generalize f * 10 / 65536 = q
  rw [Int.pow_succ] at hm
  generalize (2 : Int) ^ g = p at *
  rw [Int.sub_mul, Int.mul_sub]
  have : f * 10 * p = 5 * (f * (p * 2)) := by
    rw [Int.mul_comm p 2, ← Int.mul_assoc f 2 p, Int.mul_comm f 2]
    rw [Int.mul_assoc 2 f p, ← Int.mul_assoc 5 2]
    rw [Int.mul_comm f 10, Int.mul_assoc]; rfl
  rw [this, hm, Int.mul_assoc 65536 q p]
  omega
def FmtRel (w : World) (total : List UInt8) (g : Nat) (v : Value) (wr : World) : Prop :=
  ∃ (f : Int) (l : List UInt8), v = .int .i64 f ∧ 0 ≤ f ∧ f < 65536 ∧ (65536 : Int) ∣ f * 2 ^ g ∧ g ≤ 16 ∧ l.length + g ≤ 70000 ∧ l ++ fracL g f = total ∧
    Lib.IsBuilder 125 5 w.heap.size w.heap.size (Lib.byteCells l) wr ∧ Below w.heap.size w wr
set_option maxRecDepth 100000 in
set_option maxHeartbeats 1000000 in
theorem Format_any (x0 : Int) (w : World) (h0 : -2147483648 < x0) (h1 : x0 < 2147483648) (ht : Tabs w) :
    Calls Tryz.prog 139 #[.int .i64 x0] w fun e w' => e = .returned (.string ⟨(fmtL x0).toArray⟩) ∧ Below w.heap.size w w' := by
  have hb0 : Below w.heap.size w (w.alloc (.cells #[.pointer none, .slice none 0 0] 125)) := (Below.refl _ _).alloc (Nat.le_refl _) _
  have hB0 := IsBuilder_new (T := 125) (e := 5) w
  go_enter Tryz.func139, Tryz.ntmps139
  go_upto_if 5 with (fail)
  go_cut [0] (fun v wc => ∃ (x : Int) (pre : List UInt8), v = .int .i64 x ∧ 0 ≤ x ∧ x < 2147483648 ∧ pre.length ≤ 1 ∧ Hid (fmtL x0 = pre ++ fmtP x) ∧ Lib.IsBuilder 125 5 w.heap.size w.heap.size (Lib.byteCells pre) wc ∧ w.heap.size + 1 ≤ wc.heap.size ∧ Below w.heap.size w wc)
  case first =>
    by_cases hneg : x0 < 0
    · have hfm : fmtL x0 = [45] ++ fmtP (-x0) := by simp [fmtL, hneg]
      have HM := Lib.hid hfm
      clear hfm
      go_wp2_with (first | (go_at_call 158; refine (Bld.WriteByte _ _ _ _ _ hB0 (by simp) (by simp)).mono ?_; rintro e w3 ⟨rfl, hB3, hb3⟩))
      have hs3 := hb3.size
      rw [World.size_alloc] at hs3
      go_wp2
      go_meet
      case rel => exact ⟨-x0, [45], rfl, by omega, by omega, by simp, HM, hB3, hs3, hb0.trans hb3⟩
    · have hfm : fmtL x0 = [] ++ fmtP x0 := by simp [fmtL, hneg]
      have HM := Lib.hid hfm
      clear hfm
      go_wp2
      go_meet
      case rel => exact ⟨x0, [], rfl, by omega, by omega, by simp, HM, hB0, by simp, hb0⟩
  case rest =>
    obtain ⟨x, pre, rfl, x1, x2, hpre, HM, hBc, hsc, hbc⟩ := hcut
    have htc := ht.below hbc
    have hand := and_low x x1 (by omega)
    have hlen := decDigits_len (x / 65536).toNat
    have hit := itoa_pos (x / 65536) (by omega)
    have HI := Lib.hid hit
    clear hit hB0 hb0
    go_wp2_with (first | (go_at_call 159; refine (FormatInt_B (x / 65536) _ (by omega) (by omega) htc).mono ?_; rintro e w1 ⟨rfl, hb1⟩))
    rw [HI.out]
    have hB1 := IsBuilder_below hBc hb1
    have hs1 := hb1.size
    have hbw1 : Below w.heap.size w w1 := hbc.trans (hb1.mono (by omega))
    have hsz : (Lib.byteCells pre).length + ByteArray.size ⟨(Lib.decDigits (x / 65536).toNat).toArray⟩ ≤ 140737488355328 := by rw [size_mk, Lib.byteCells_length]; omega
    refine (Bld.WriteString _ _ _ _ _ hB1 hsz (by omega)).mono ?_
    rintro e w2 ⟨rfl, hB2, hb2⟩
    rw [strCells_bytes, ← byteCells_append] at hB2
    have hs2 := hb2.size
    have hl1 : (pre ++ Lib.decDigits (x / 65536).toNat).length ≤ 60000 := by rw [List.length_append]; omega
    have hassoc : fmtL x0 = (pre ++ Lib.decDigits (x / 65536).toNat) ++ (if x % 65536 = 0 then [] else 46 :: fracL 16 (x % 65536)) := by rw [HM.out, fmtP, List.append_assoc]
    have HA := Lib.hid hassoc
    clear hsz hassoc HM HI hB1 hBc hlen
    generalize pre ++ Lib.decDigits (x / 65536).toNat = l0 at *
    by_cases hf : x % 65536 = 0
    · have hfin : fmtL x0 = l0 := by rw [HA.out, if_pos hf, List.append_nil]
      have HF := Lib.hid hfin
      have hf0 : decide (0 < x % 65536) = false := by simp; omega
      clear hfin HA hf
      go_wp2_with fail
      go_loopg [0] 1 (fun g v wr => w2 = wr ∧ v = .int .i64 (x % 65536))
      case atStart => exact ⟨rfl, rfl⟩
      case round =>
        obtain ⟨rfl, rfl⟩ := hrel
        go_wp2_with (first | (go_at_call 98; refine (Tryz.Builder_String_any _ _ _ _ hB2 (by omega)).mono ?_; rintro e w3 ⟨rfl, hb3⟩))
        go_ret
        rw [HF.out]
        exact ⟨rfl, hbw1.trans (hb2.trans hb3)⟩
    · have hlast : fmtL x0 = (l0 ++ [46]) ++ fracL 16 (x % 65536) := by rw [HA.out, if_neg hf, List.append_assoc]; rfl
      have HL := Lib.hid hlast
      have hf0 : 0 < x % 65536 := by omega
      clear hlast HA hf
      have hsz2 : (Lib.byteCells l0).length + 1 ≤ 140737488355328 := by rw [Lib.byteCells_length]; omega
      go_wp2_with (first | (go_at_call 158; refine (Bld.WriteByte _ _ _ _ _ hB2 hsz2 (by omega)).mono ?_; rintro e w3 ⟨rfl, hB3, hb3⟩))
      have hs3 := hb3.size
      have hB3' : Lib.IsBuilder 125 5 w.heap.size w.heap.size (Lib.byteCells (l0 ++ [46])) w3 := by rw [byteCells_append]; exact hB3
      have hl2 : (l0 ++ [46]).length ≤ 60001 := by rw [List.length_append, List.length_cons, List.length_nil]; omega
      clear hand hsz2 hB3 hB2
      generalize l0 ++ [46] = l2 at *
      go_loopg [0] 16 (fun g v wr => FmtRel w (l2 ++ fracL 16 (x % 65536)) g v wr)
      case atStart => exact ⟨x % 65536, l2, rfl, by omega, by omega, dvd_start _, by omega, by omega, rfl, hB3', hbw1.trans (hb2.trans hb3)⟩
      case round =>
        obtain ⟨f, l, rfl, f0, f1, fd, fg, fl, ft, fB, fb⟩ := hrel
        have FT := Lib.hid ft
        have FD := Lib.hid fd
        clear ft fd
        have hbs := fb.size
        by_cases hz : f = 0
        · subst hz
          have hft : l2 ++ fracL 16 (x % 65536) = l := by
            rw [← FT.out]
            cases gk with
            | zero => simp [fracL]
            | succ g => simp [fracL]
          have HT := Lib.hid hft
          clear hft
          go_wp2_with (first | (go_at_call 98; refine (Tryz.Builder_String_any _ _ _ _ fB (by omega)).mono ?_; rintro e w4 ⟨rfl, hb4⟩))
          go_ret
          rw [HL.out, HT.out]
          exact ⟨rfl, fb.trans hb4⟩
        · have f2 : 0 < f := by omega
          cases gk with
          | zero =>
            have := FD.out
            rw [Int.pow_zero, Int.mul_one] at this
            have := Int.emod_eq_zero_of_dvd this
            omega
          | succ g =>
            have hand := and_low (f * 10) (by omega) (by omega)
            have hcl : (Lib.byteCells l).length + 1 ≤ 140737488355328 := by rw [Lib.byteCells_length]; omega
            go_wp2_with (first | (go_at_call 158; refine (Bld.WriteByte _ _ _ _ _ fB hcl (by omega)).mono ?_; rintro e w4 ⟨rfl, hB4, hb4⟩))
            have hB5 : Lib.IsBuilder 125 5 w.heap.size w.heap.size (Lib.byteCells (l ++ [UInt8.ofNat (48 + (f * 10 / 65536).toNat)])) w4 := by
              rw [byteCells_append]
              have e1 : Lib.byteCells [UInt8.ofNat (48 + (f * 10 / 65536).toNat)] = [.int .u8 (48 + f * 10 / 65536)] := by
                simp only [Lib.byteCells, List.map_cons, List.map_nil, UInt8.toNat_ofNat']
                rw [show ((48 + (f * 10 / 65536).toNat) % 2 ^ 8 : Nat) = 48 + (f * 10 / 65536).toNat from by omega]
                rw [show ((48 + (f * 10 / 65536).toNat : Nat) : Int) = 48 + f * 10 / 65536 from by omega]
              rw [e1]; exact hB4
            go_wp2
            go_roundg g
            case measure => omega
            case rel =>
              refine ⟨_, _, rfl, by omega, by omega, dvd_round FD.out, by omega, ?_, ?_, hB5, fb.trans hb4⟩
              · simp only [List.length_append, List.length_cons, List.length_nil]; omega
              · rw [← FT.out]
                simp only [fracL]
                rw [if_neg (by omega), List.append_assoc]; rfl
end Go.Proofs.YthcidkidpiaomaaGreatDoor.Fx
end
section
set_option linter.unusedVariables false
namespace Go.Proofs.YthcidkidpiaomaaGreatDoor.Fx
open Go.RowKit Go.Proofs.YthcidkidpiaomaaGreatDoorW.PrintWords
def dbl : List Int → List Int × Int
  | [] => ([], 0)
  | d :: t => ((2 * d + (dbl t).2) % 10 :: (dbl t).1, (2 * d + (dbl t).2) / 10)
def sf : Nat → List Int → Int → List Int × Int
  | 0, ds, out => (ds, out)
  | k + 1, ds, out => sf k (dbl ds).1 (2 * out + (dbl ds).2)
def Digs (ds : List Int) : Prop := ∀ d ∈ ds, 0 ≤ d ∧ d ≤ 9
theorem dbl_len (ds : List Int) : (dbl ds).1.length = ds.length := by
  induction ds with
  | nil => rfl
  | cons d t ih => simp [dbl, ih]
theorem dbl_ok {ds : List Int} (h : Digs ds) : Digs (dbl ds).1 ∧ 0 ≤ (dbl ds).2 ∧ (dbl ds).2 ≤ 1 := by
  induction ds with
  | nil => exact ⟨h, by simp [dbl], by simp [dbl]⟩
  | cons d t ih =>
    obtain ⟨h1, h2, h3⟩ := ih (fun x hx => h x (List.mem_cons_of_mem _ hx))
    have hd := h d (List.mem_cons_self ..)
    refine ⟨?_, ?_, ?_⟩
    · intro x hx
      simp only [dbl, List.mem_cons] at hx
      rcases hx with rfl | hx
      · omega
      · exact h1 x hx
    · simp only [dbl]; omega
    · simp only [dbl]; omega
structure Dig (w : World) (b : Nat) (ds : List Int) : Prop where
  cell : ∀ j, j < ds.length → w.cell? ⟨b, j, none⟩ = some (.int .u8 (48 + ds.getD j 0))
  free : ∀ j, j < ds.length → w.frozen? ⟨b, j, none⟩ = false
theorem Dig.set {w : World} {b : Nat} {ds : List Int} (h : Dig w b ds) (i : Nat) (hi : i < ds.length) (d : Int) :
    Dig (w.setCell ⟨b, i, none⟩ (.int .u8 (48 + d))) b (ds.set i d) := by
  constructor
  · intro j hj
    rw [List.length_set] at hj
    by_cases e : j = i
    · subst e
      rw [World.cell?_setCell_same _ _ _ (h.cell j hj)]
      simp [List.getD_eq_getElem?_getD, hi]
    · have hne : (⟨b, i, none⟩ : Addr) ≠ ⟨b, j, none⟩ := fun h' => e (by injection h' with _ h'; exact h'.symm)
      rw [World.cell?_setCell_other w _ _ _ hne, h.cell j hj]
      simp [List.getD_eq_getElem?_getD, List.getElem?_set_ne (Ne.symm e)]
  · intro j hj
    rw [List.length_set] at hj
    rw [World.frozen?_setCell]
    exact h.free j hj
theorem Dig.cast {w : World} {b : Nat} {ds ds' : List Int} (h : Dig w b ds) (e : ds = ds') : Dig w b ds' := e ▸ h
theorem bytesWorld_below (w : World) (e : TypeId) (s : ByteArray) : Below w.heap.size w (Lib.bytesWorld w e s) :=
  ⟨rfl, rfl, rfl, by rw [Lib.bytesWorld_size]; omega, fun k hk => Lib.bytesWorld_at_old w e s k hk⟩
theorem bytesWorld_dig (w : World) (e : TypeId) (s : ByteArray) (ds : List Int) (h : s.data.toList.map (fun b => (b.toNat : Int) - 48) = ds) (_hd : Digs ds) : Dig (Lib.bytesWorld w e s) w.heap.size ds := by
  have hl : ds.length = s.size := by rw [← h, List.length_map, Array.length_toList]; rfl
  constructor
  · intro j hj
    rw [Lib.bytesWorld_cell w e s j (by omega)]
    have hj' : j < s.data.toList.length := by rw [Array.length_toList]; have : s.data.size = s.size := rfl; omega
    rw [← h]
    simp only [List.getD_eq_getElem?_getD, List.getElem?_map, List.getElem?_eq_getElem hj', Option.map_some, Option.getD_some]
    rw [show (48 : Int) + (((s.data.toList[j]).toNat : Int) - 48) = ((s.data.toList[j]).toNat : Int) from by omega]
  · intro j hj
    have h1 : j < (Lib.bytesCells w e s).size := by simp [Lib.bytesCells]; have : s.data.size = s.size := rfl; omega
    simp only [World.frozen?, Lib.bytesWorld_at_new]
    simp; omega
theorem dropWhile_nil {α : Type} (p : α → Bool) : ∀ l : List α, l.dropWhile p = [] ↔ ∀ x ∈ l, p x = true
  | [] => by simp
  | a :: l => by
    have ih := dropWhile_nil p l
    cases h : p a
    · simp only [List.dropWhile_cons, h]
      simp [h]
    · simp only [List.dropWhile_cons, h, if_true, ih]
      simp [h]
theorem takeWhile_all {α : Type} (p : α → Bool) : ∀ l : List α, ∀ x ∈ l.takeWhile p, p x = true
  | [] => by simp
  | a :: l => by
    intro x hx
    cases h : p a
    · simp [h] at hx
    · simp only [List.takeWhile_cons, h, if_true, List.mem_cons] at hx
      rcases hx with rfl | hx
      · exact h
      · exact takeWhile_all p l x hx
theorem size_mk' (l : List UInt8) : ByteArray.size ⟨l.toArray⟩ = l.length := by simp [ByteArray.size]
theorem nums_any (l : List Int) (h : Digs l) : (Lib.trimB (l.map fun n => UInt8.ofNat (48 + n).toNat) 48).isEmpty = !(l.any (· != 0)) := by
  have hb : ∀ n : Int, 0 ≤ n ∧ n ≤ 9 → (UInt8.ofNat (48 + n).toNat == 48) = (n == 0) := by
    rintro n ⟨h0, h1⟩
    obtain ⟨k, rfl⟩ := Int.eq_ofNat_of_zero_le h0
    have : k < 10 := by omega
    rw [show (48 + (k : Int)).toNat = 48 + k from by omega]
    match k, this with
    | 0, _ => rfl
    | 1, _ => rfl
    | 2, _ => rfl
    | 3, _ => rfl
    | 4, _ => rfl
    | 5, _ => rfl
    | 6, _ => rfl
    | 7, _ => rfl
    | 8, _ => rfl
    | 9, _ => rfl
  have key : ∀ m : List UInt8, (Lib.trimB m 48).isEmpty = m.all (· == 48) := by
    intro m
    unfold Lib.trimB Lib.trimLeftB Lib.trimRightB
    rw [Bool.eq_iff_iff, List.isEmpty_iff, List.all_eq_true]
    constructor
    · intro h x hx
      have h1 : ∀ y ∈ (m.reverse.dropWhile (· == (48 : UInt8))).reverse, y == 48 := by
        exact (dropWhile_nil _ _).1 h
      have hx' := List.mem_reverse.2 hx
      rw [← List.takeWhile_append_dropWhile (p := (· == (48 : UInt8))) (l := m.reverse)] at hx'
      rcases List.mem_append.1 hx' with g | g
      · exact takeWhile_all _ _ x g
      · exact h1 x (List.mem_reverse.2 g)
    · intro h
      have : m.reverse.dropWhile (· == (48 : UInt8)) = [] := (dropWhile_nil _ _).2 (fun y hy => h y (List.mem_reverse.1 hy))
      rw [this]; rfl
  rw [key, List.all_map]
  induction l with
  | nil => rfl
  | cons d t ih =>
    rw [List.all_cons, List.any_cons, ih (fun x hx => h x (List.mem_cons_of_mem _ hx))]
    simp only [Function.comp]
    rw [hb d (h d (List.mem_cons_self ..))]
    cases hz : d == 0 <;> simp [bne, hz]
theorem take_drop_dbl {dk : List Int} {m : Nat} (h : m < dk.length) :
    (dk.take (m + 1) ++ (dbl (dk.drop (m + 1))).1).set m ((2 * dk.getD m 0 + (dbl (dk.drop (m + 1))).2) % 10) = dk.take m ++ (dbl (dk.drop m)).1 ∧ (dbl (dk.drop m)).2 = (2 * dk.getD m 0 + (dbl (dk.drop (m + 1))).2) / 10 ∧ (dk.take (m + 1) ++ (dbl (dk.drop (m + 1))).1).getD m 0 = dk.getD m 0 := by
  have hd : dk.drop m = dk[m] :: dk.drop (m + 1) := List.drop_eq_getElem_cons h
  have hg : dk.getD m 0 = dk[m] := by rw [List.getD_eq_getElem?_getD, List.getElem?_eq_getElem h]; rfl
  have ht : dk.take (m + 1) = dk.take m ++ [dk[m]] := (List.take_append_getElem h).symm
  have hl : (dk.take m).length = m := by rw [List.length_take]; omega
  refine ⟨?_, ?_, ?_⟩
  · rw [ht, hg, hd, List.append_assoc, List.set_append_right _ _ (by omega), hl, Nat.sub_self]
    simp [dbl]
  · rw [hd, hg]; simp [dbl]
  · rw [List.getD_eq_getElem?_getD, List.getElem?_append_left (by rw [List.length_take]; omega), List.getElem?_take_of_lt (by omega), ← List.getD_eq_getElem?_getD]
set_option maxRecDepth 100000 in
set_option maxHeartbeats 1000000 in
theorem parseFraction_any (s : ByteArray) (w : World) (hs : s.size ≤ 140737488351232) (ds : List Int) (hds : s.data.toList.map (fun b => (b.toNat : Int) - 48) = ds) (hd : Digs ds) :
    Calls Tryz.prog 197 #[.string s] w fun e w' => e = .returned (.tuple #[.int .i64 (sf 16 ds 0).2, .bool ((sf 16 ds 0).1.any (· != 0))]) ∧ Below w.heap.size w w' := by
  have hconv := fun w => Lib.run_convert_string_bytes (P := Tryz.prog) w 9 70 5 s Tryz.underlying9 Tryz.underlying70 Tryz.underlying5
  have HDS := Lib.hid hds
  clear hds
  go_enter Tryz.func197, Tryz.ntmps197
  go_wp2_with fail
  obtain ⟨wb, hwb⟩ : ∃ wb, Lib.bytesWorld w 5 s = wb := ⟨_, rfl⟩
  obtain ⟨cp, hcp⟩ : ∃ cp, grownCap w s.size 0 5 = cp := ⟨_, rfl⟩
  obtain ⟨b, hb⟩ : ∃ b, w.heap.size = b := ⟨_, rfl⟩
  have hn : ds.length = s.size := by rw [← HDS.out, List.length_map, Array.length_toList]; rfl
  have hsz : wb.heap.size = b + 1 := by rw [← hwb, Lib.bytesWorld_size, hb]
  have hbel : Below b w wb := by rw [← hwb, ← hb]; exact bytesWorld_below w _ s
  have hdig : Dig wb b ds := by rw [← hwb, ← hb]; exact bytesWorld_dig w _ s ds HDS.out hd
  rw [hwb, hcp, hb]
  clear hwb hcp hconv
  have HN := Lib.hid hn
  clear hn hsz
  go_loopg [5, 6, 7, 8, 11] 16 (fun g v5 v6 v7 v8 v11 wr => ∃ (out : Int) (dk : List Int), v5 = .int .i64 out ∧ v11 = .int .i64 (16 - (g : Int)) ∧ g ≤ 16 ∧ 0 ≤ out ∧ (out + 1) * 2 ^ g ≤ 65536 ∧ dk.length = s.size ∧ Digs dk ∧ sf g dk out = sf 16 ds 0 ∧ Dig wr b dk ∧ Below b w wr)
  case atStart => exact ⟨0, ds, rfl, rfl, by omega, by omega, by omega, HN.out, hd, rfl, hdig, hbel⟩
  case round =>
    obtain ⟨out, dk, rfl, rfl, hg, ho0, ho1, hlen, hdk, hsf, hdig, hbel⟩ := hrel
    cases gk with
    | zero =>
      have hback := run_convert_bytes_arg (P := Tryz.prog) wr 70 5 Tryz.underlying70 Tryz.underlying5 b 0 s.size cp (dk.map fun n => 48 + n) (by rw [List.length_map]; exact hlen) (fun i hi => by
        rw [Nat.zero_add, hdig.cell i (by omega)]
        simp [List.getD_eq_getElem?_getD, List.getElem?_eq_getElem (show i < dk.length by omega)]) 9 Tryz.underlying9
      have HSF := Lib.hid hsf
      clear hsf
      have hstr : strOfNums (dk.map fun n => 48 + n) = ⟨(dk.map fun n => UInt8.ofNat (48 + n).toNat).toArray⟩ := by simp [strOfNums, List.map_map, Function.comp_def]
      have hsl : (strOfNums (dk.map fun n => 48 + n)).size ≤ 9223372036854775807 := by rw [hstr, size_mk']; rw [List.length_map]; omega
      have hany := nums_any dk hdk
      have HSTR := Lib.hid hstr
      have HANY := Lib.hid hany
      clear hstr hany
      generalize strOfNums (dk.map fun n => 48 + n) = str at *
      go_wp2_with (first | (go_at_call 206; refine (Tryz.strings_Trim_one str 48 (by decide) _ hsl).mono ?_; rintro e w2 ⟨rfl, hw2⟩))
      go_ret2
      rw [HSTR.out, HANY.out, Bool.not_not]
      rw [← HSF.out, hb]
      refine ⟨rfl, ?_⟩
      rcases hw2 with rfl | rfl
      · exact hbel
      · exact hbel.drew
    | succ g =>
      have HSF := Lib.hid hsf
      clear hsf
      have hb2 : (2 * (out + 1)) * 2 ^ g ≤ 65536 := by rw [Int.pow_succ] at ho1; rw [Int.mul_comm 2, Int.mul_assoc, Int.mul_comm 2]; exact ho1
      have hpow : (1 : Int) ≤ 2 ^ g := Int.pow_pos (by omega)
      have ho2 : out ≤ 65535 := by
        have := Int.mul_le_mul_of_nonneg_left hpow (show 0 ≤ 2 * (out + 1) by omega)
        omega
      go_wp2_with fail
      go_loopg [6, 7, 8] s.size (fun m v6 v7 v8 wi => v6 = .int .u8 (dbl (dk.drop m)).2 ∧ v7 = .int .i64 ((m : Int) - 1) ∧ m ≤ s.size ∧ Dig wi b (dk.take m ++ (dbl (dk.drop m)).1) ∧ Below b w wi)
      case atStart => exact ⟨by rw [← hlen, List.drop_length]; rfl, rfl, by omega, hdig.cast (by rw [← hlen, List.drop_length, List.take_length]; simp [dbl]), hbel⟩
      case round =>
        obtain ⟨rfl, rfl, hm, hdig2, hbel2⟩ := hrel
        cases gk with
        | zero =>
          rw [List.drop_zero, List.take_zero, List.nil_append] at hdig2
          rw [List.drop_zero]
          obtain ⟨hdk', hc0, hc1⟩ := dbl_ok hdk
          have hlen' : (dbl dk).1.length = s.size := by rw [dbl_len, hlen]
          have HL := Lib.hid hlen'
          clear hlen'
          have hsf' : sf g (dbl dk).1 (2 * out + (dbl dk).2) = sf 16 ds 0 := HSF.out
          have HS' := Lib.hid hsf'
          clear hsf'
          go_wp2_with fail
          go_roundg g
          case measure => omega
          case rel =>
            refine ⟨2 * out + (dbl dk).2, (dbl dk).1, rfl, by go_num, by omega, by omega, ?_, HL.out, hdk', HS'.out, hdig2, hbel2⟩
            refine Int.le_trans ?_ hb2
            refine Int.mul_le_mul_of_nonneg_right ?_ (Int.le_of_lt (Int.pow_pos (by omega)))
            omega
        | succ m =>
          obtain ⟨hc1, hc2, hc3⟩ := take_drop_dbl (dk := dk) (m := m) (by omega)
          have hcell := hdig2.cell m (by rw [List.length_append, List.length_take, dbl_len, List.length_drop]; omega)
          have hfree := hdig2.free m (by rw [List.length_append, List.length_take, dbl_len, List.length_drop]; omega)
          rw [hc3] at hcell
          have hdm := hdk (dk.getD m 0) (by rw [List.getD_eq_getElem?_getD, List.getElem?_eq_getElem (by omega)]; exact List.getElem_mem _)
          obtain ⟨_, hcb0, hcb1⟩ := dbl_ok (ds := dk.drop (m + 1)) (fun x hx => hdk x (List.mem_of_mem_drop hx))
          have hnew := hdig2.set m (by rw [List.length_append, List.length_take, dbl_len, List.length_drop]; omega) ((2 * dk.getD m 0 + (dbl (dk.drop (m + 1))).2) % 10)
          rw [hc1] at hnew
          have HC2 := Lib.hid hc2
          clear hc1 hc2 hc3
          obtain ⟨cc, hcd⟩ : ∃ cc, (dbl (dk.drop (m + 1))).2 = cc := ⟨_, rfl⟩
          obtain ⟨dd, hdd⟩ : ∃ dd, dk.getD m 0 = dd := ⟨_, rfl⟩
          rw [hcd] at hcb0 hcb1 hnew HC2 ⊢
          rw [hdd] at hcell hdm hnew HC2
          have e48 : (48 : Int) + dd - 48 = dd := by omega
          clear hcd hdd
          go_wp2_with fail
          go_roundg m
          case measure => omega
          case rel =>
            exact ⟨by rw [HC2.out], by go_num, by omega, hnew, hbel2.setCell (Nat.le_refl _) _⟩
end Go.Proofs.YthcidkidpiaomaaGreatDoor.Fx
end
section
set_option linter.unusedVariables false
namespace Go.Proofs.YthcidkidpiaomaaGreatDoor.Fx
def dig (c : UInt8) : Bool := decide (48 ≤ c.toNat) && decide (c.toNat ≤ 57)
def skp (l : List UInt8) (i : Nat) : Nat := i + ((l.drop i).takeWhile dig).length
theorem skp_ge (l : List UInt8) (i : Nat) : i ≤ skp l i := by unfold skp; omega
theorem skp_le (l : List UInt8) (i : Nat) (h : i ≤ l.length) : skp l i ≤ l.length := by
  unfold skp
  have : ((l.drop i).takeWhile dig).length ≤ (l.drop i).length := (List.takeWhile_sublist _).length_le
  rw [List.length_drop] at this
  omega
theorem skp_end (l : List UInt8) (i : Nat) (h : l.length ≤ i) : skp l i = i := by
  unfold skp; rw [List.drop_eq_nil_of_le h]; simp
theorem skp_stop (l : List UInt8) (i : Nat) (h : i < l.length) (hd : dig l[i] = false) : skp l i = i := by
  unfold skp; rw [List.drop_eq_getElem_cons h, List.takeWhile_cons, if_neg (by simp [hd])]; rfl
theorem skp_next (l : List UInt8) (i : Nat) (h : i < l.length) (hd : dig l[i] = true) : skp l i = skp l (i + 1) := by
  unfold skp; rw [List.drop_eq_getElem_cons h, List.takeWhile_cons, if_pos hd]; simp; omega
theorem skp_dig (l : List UInt8) (i : Nat) : ∀ j (hj : j < l.length), i ≤ j → j < skp l i → dig l[j] = true := by
  intro j hj h1 h2
  unfold skp at h2
  have hk : j - i < ((l.drop i).takeWhile dig).length := by omega
  have hall : ∀ (m : List UInt8) (x : UInt8), x ∈ m.takeWhile dig → dig x = true := by
    intro m
    induction m with
    | nil => simp
    | cons a t ih =>
      intro x hx
      cases h : dig a
      · simp [h] at hx
      · simp only [List.takeWhile_cons, h, if_true, List.mem_cons] at hx
        rcases hx with rfl | hx
        · exact h
        · exact ih x hx
  have hpre : ∀ (m : List UInt8) (k : Nat) (hk : k < (m.takeWhile dig).length), ∃ hk' : k < m.length, (m.takeWhile dig)[k] = m[k] := by
    intro m k hk
    have hs := List.takeWhile_prefix (p := dig) (l := m)
    exact ⟨Nat.lt_of_lt_of_le hk hs.length_le, hs.getElem hk⟩
  obtain ⟨hk', e⟩ := hpre (l.drop i) (j - i) hk
  have := hall (l.drop i) _ (List.getElem_mem hk)
  rw [e, List.getElem_drop] at this
  simpa [show i + (j - i) = j from by omega] using this
def decN : List UInt8 → Nat → Nat
  | [], acc => acc
  | c :: r, acc => decN r (acc * 10 + (c.toNat - 48))
theorem decN_ge (l : List UInt8) : ∀ acc, acc ≤ decN l acc := by
  induction l with
  | nil => intro acc; exact Nat.le_refl _
  | cons c r ih => intro acc; have := ih (acc * 10 + (c.toNat - 48)); simp only [decN]; omega
theorem parseUintM_ok (M : Nat) (hM : M ≤ 18446744073709551615) (l : List UInt8) : ∀ acc, (∀ c ∈ l, dig c = true) → decN l acc ≤ M → Lib.parseUintM M acc l = .ok (decN l acc) := by
  induction l with
  | nil => intro acc _ _; simp only [Lib.parseUintM, decN]
  | cons c r ih =>
    intro acc hl h
    have hc := hl c (List.mem_cons_self ..)
    simp only [dig, Bool.and_eq_true, decide_eq_true_eq] at hc
    have hge := decN_ge r (acc * 10 + (c.toNat - 48))
    have hd : decN (c :: r) acc = decN r (acc * 10 + (c.toNat - 48)) := rfl
    rw [hd] at h ⊢
    rw [Lib.parseUintM, if_pos hc, if_neg (by omega), if_neg (by omega)]
    exact ih _ (fun x hx => hl x (List.mem_cons_of_mem _ hx)) h
theorem parseUintM_range (M : Nat) (l : List UInt8) : ∀ acc, (∀ c ∈ l, dig c = true) → acc ≤ M → M < decN l acc → Lib.parseUintM M acc l = .range := by
  induction l with
  | nil => intro acc _ h h'; rw [decN] at h'; omega
  | cons c r ih =>
    intro acc hl hacc h
    have hc := hl c (List.mem_cons_self ..)
    simp only [dig, Bool.and_eq_true, decide_eq_true_eq] at hc
    have hd : decN (c :: r) acc = decN r (acc * 10 + (c.toNat - 48)) := rfl
    rw [hd] at h
    rw [Lib.parseUintM, if_pos hc]
    by_cases h1 : 1844674407370955162 ≤ acc
    · rw [if_pos h1]
    · rw [if_neg h1]
      by_cases h2 : M < acc * 10 + (c.toNat - 48)
      · rw [if_pos h2]
      · rw [if_neg h2]
        exact ih _ (fun x hx => hl x (List.mem_cons_of_mem _ hx)) (by omega) h
theorem pow64 : (2 ^ 64 - 1 : Nat) = 18446744073709551615 := by decide
theorem pow63 : (2 ^ (64 - 1) : Nat) = 9223372036854775808 := by decide
theorem parseIntB_ok (l : List UInt8) (hne : l ≠ []) (hl : ∀ c ∈ l, dig c = true) (h : decN l 0 < 9223372036854775808) : Lib.parseIntB 64 l = .ok (decN l 0 : Int) := by
  match l, hne with
  | c :: r, _ =>
    have hc := hl c (List.mem_cons_self ..)
    simp only [dig, Bool.and_eq_true, decide_eq_true_eq] at hc
    have e : Lib.parseUintB 64 (if c.toNat = 43 ∨ c.toNat = 45 then r else c :: r) = .ok (decN (c :: r) 0) := by
      rw [if_neg (by omega)]
      unfold Lib.parseUintB
      rw [if_neg (by simp), pow64]
      exact parseUintM_ok _ (Nat.le_refl _) _ _ hl (by omega)
    unfold Lib.parseIntB
    simp only [e, pow63]
    rw [if_neg (by omega), if_neg (by omega), if_neg (by omega)]
theorem parseIntB_range (l : List UInt8) (hne : l ≠ []) (hl : ∀ c ∈ l, dig c = true) (h : 9223372036854775808 ≤ decN l 0) : Lib.parseIntB 64 l = .range := by
  match l, hne with
  | c :: r, _ =>
    have hc := hl c (List.mem_cons_self ..)
    simp only [dig, Bool.and_eq_true, decide_eq_true_eq] at hc
    by_cases h2 : decN (c :: r) 0 ≤ 18446744073709551615
    · have e : Lib.parseUintB 64 (if c.toNat = 43 ∨ c.toNat = 45 then r else c :: r) = .ok (decN (c :: r) 0) := by
        rw [if_neg (by omega)]
        unfold Lib.parseUintB
        rw [if_neg (by simp), pow64]
        exact parseUintM_ok _ (Nat.le_refl _) _ _ hl h2
      unfold Lib.parseIntB
      simp only [e, pow63]
      rw [if_pos (by omega)]
    · have e : Lib.parseUintB 64 (if c.toNat = 43 ∨ c.toNat = 45 then r else c :: r) = .range := by
        rw [if_neg (by omega)]
        unfold Lib.parseUintB
        rw [if_neg (by simp), pow64]
        exact parseUintM_range _ _ _ hl (by omega) (by omega)
      unfold Lib.parseIntB
      simp only [e]
end Go.Proofs.YthcidkidpiaomaaGreatDoor.Fx
end
