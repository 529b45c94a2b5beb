/- Contract of fixed.parseFraction: doubling a decimal fraction sixteen times. -/
import Derived.Test.YtbijolohpfkihaaDoorFxA
import Derived.Test.YtbijolohpfkihaaDoorFxT
import Derived.Lib.ConvBytes
import Derived.Laws.BytesArg
import Derived.Lib.TrimByte
import Derived.Deep.LoopGhost
import Derived.Deep.DeepCutAuto
import Derived.Deep.CutBlock
import Derived.Outline
set_option linter.unusedVariables false
namespace Go.Proofs.YtbijolohpfkihaaDoor.Fx
open Go.RowKit Go.Proofs.YtbijolohpfkihaaDoorW.PrintWords

/-- a decimal fraction doubled, from its last digit on, and the carry -/
def dbl : List Int → List Int × Int
  | [] => ([], 0)
  | d :: t => ((2 * d + (dbl t).2) % 10 :: (dbl t).1, (2 * d + (dbl t).2) / 10)
/-- .. k times; what is carried out, in binary -/
def sf : Nat → List Int → Int → List Int × Int
  | 0, ds, out => (ds, out)
  | k + 1, ds, out => sf k (dbl ds).1 (2 * out + (dbl ds).2)
def Digs (ds : List Int) : Prop := ∀ d ∈ ds, 0 ≤ d ∧ d ≤ 9
theorem dbl_len (ds : List Int) : (dbl ds).1.length = ds.length := by
  induction ds with
  | nil => rfl
  | cons d t ih => simp [dbl, ih]
theorem dbl_ok {ds : List Int} (h : Digs ds) : Digs (dbl ds).1 ∧ 0 ≤ (dbl ds).2 ∧ (dbl ds).2 ≤ 1 := by
  induction ds with
  | nil => exact ⟨h, by simp [dbl], by simp [dbl]⟩
  | cons d t ih =>
    obtain ⟨h1, h2, h3⟩ := ih (fun x hx => h x (List.mem_cons_of_mem _ hx))
    have hd := h d (List.mem_cons_self ..)
    refine ⟨?_, ?_, ?_⟩
    · intro x hx
      simp only [dbl, List.mem_cons] at hx
      rcases hx with rfl | hx
      · omega
      · exact h1 x hx
    · simp only [dbl]; omega
    · simp only [dbl]; omega

/-- the cells of a row of digits -/
structure Dig (w : World) (b : Nat) (ds : List Int) : Prop where
  cell : ∀ j, j < ds.length → w.cell? ⟨b, j, none⟩ = some (.int .u8 (48 + ds.getD j 0))
  free : ∀ j, j < ds.length → w.frozen? ⟨b, j, none⟩ = false
theorem Dig.set {w : World} {b : Nat} {ds : List Int} (h : Dig w b ds) (i : Nat) (hi : i < ds.length) (d : Int) :
    Dig (w.setCell ⟨b, i, none⟩ (.int .u8 (48 + d))) b (ds.set i d) := by
  constructor
  · intro j hj
    rw [List.length_set] at hj
    by_cases e : j = i
    · subst e
      rw [World.cell?_setCell_same _ _ _ (h.cell j hj)]
      simp [List.getD_eq_getElem?_getD, hi]
    · have hne : (⟨b, i, none⟩ : Addr) ≠ ⟨b, j, none⟩ := fun h' => e (by injection h' with _ h'; exact h'.symm)
      rw [World.cell?_setCell_other w _ _ _ hne, h.cell j hj]
      simp [List.getD_eq_getElem?_getD, List.getElem?_set_ne (Ne.symm e)]
  · intro j hj
    rw [List.length_set] at hj
    rw [World.frozen?_setCell]
    exact h.free j hj
theorem Dig.cast {w : World} {b : Nat} {ds ds' : List Int} (h : Dig w b ds) (e : ds = ds') : Dig w b ds' := e ▸ h

theorem bytesWorld_below (w : World) (e : TypeId) (s : ByteArray) : Below w.heap.size w (Lib.bytesWorld w e s) :=
  ⟨rfl, rfl, rfl, by rw [Lib.bytesWorld_size]; omega, fun k hk => Lib.bytesWorld_at_old w e s k hk⟩
theorem bytesWorld_dig (w : World) (e : TypeId) (s : ByteArray) (ds : List Int) (h : s.data.toList.map (fun b => (b.toNat : Int) - 48) = ds) (_hd : Digs ds) : Dig (Lib.bytesWorld w e s) w.heap.size ds := by
  have hl : ds.length = s.size := by rw [← h, List.length_map, Array.length_toList]; rfl
  constructor
  · intro j hj
    rw [Lib.bytesWorld_cell w e s j (by omega)]
    have hj' : j < s.data.toList.length := by rw [Array.length_toList]; have : s.data.size = s.size := rfl; omega
    rw [← h]
    simp only [List.getD_eq_getElem?_getD, List.getElem?_map, List.getElem?_eq_getElem hj', Option.map_some, Option.getD_some]
    rw [show (48 : Int) + (((s.data.toList[j]).toNat : Int) - 48) = ((s.data.toList[j]).toNat : Int) from by omega]
  · intro j hj
    have h1 : j < (Lib.bytesCells w e s).size := by simp [Lib.bytesCells]; have : s.data.size = s.size := rfl; omega
    simp only [World.frozen?, Lib.bytesWorld_at_new]
    simp; omega
theorem dropWhile_nil {α : Type} (p : α → Bool) : ∀ l : List α, l.dropWhile p = [] ↔ ∀ x ∈ l, p x = true
  | [] => by simp
  | a :: l => by
    have ih := dropWhile_nil p l
    cases h : p a
    · simp only [List.dropWhile_cons, h]
      simp [h]
    · simp only [List.dropWhile_cons, h, if_true, ih]
      simp [h]
theorem takeWhile_all {α : Type} (p : α → Bool) : ∀ l : List α, ∀ x ∈ l.takeWhile p, p x = true
  | [] => by simp
  | a :: l => by
    intro x hx
    cases h : p a
    · simp [h] at hx
    · simp only [List.takeWhile_cons, h, if_true, List.mem_cons] at hx
      rcases hx with rfl | hx
      · exact h
      · exact takeWhile_all p l x hx
theorem size_mk' (l : List UInt8) : ByteArray.size ⟨l.toArray⟩ = l.length := by simp [ByteArray.size]
theorem nums_any (l : List Int) (h : Digs l) : (Lib.trimB (l.map fun n => UInt8.ofNat (48 + n).toNat) 48).isEmpty = !(l.any (· != 0)) := by
  have hb : ∀ n : Int, 0 ≤ n ∧ n ≤ 9 → (UInt8.ofNat (48 + n).toNat == 48) = (n == 0) := by
    rintro n ⟨h0, h1⟩
    obtain ⟨k, rfl⟩ := Int.eq_ofNat_of_zero_le h0
    have : k < 10 := by omega
    rw [show (48 + (k : Int)).toNat = 48 + k from by omega]
    match k, this with
    | 0, _ => rfl
    | 1, _ => rfl
    | 2, _ => rfl
    | 3, _ => rfl
    | 4, _ => rfl
    | 5, _ => rfl
    | 6, _ => rfl
    | 7, _ => rfl
    | 8, _ => rfl
    | 9, _ => rfl
  have key : ∀ m : List UInt8, (Lib.trimB m 48).isEmpty = m.all (· == 48) := by
    intro m
    unfold Lib.trimB Lib.trimLeftB Lib.trimRightB
    rw [Bool.eq_iff_iff, List.isEmpty_iff, List.all_eq_true]
    constructor
    · intro h x hx
      have h1 : ∀ y ∈ (m.reverse.dropWhile (· == (48 : UInt8))).reverse, y == 48 := by
        exact (dropWhile_nil _ _).1 h
      have hx' := List.mem_reverse.2 hx
      rw [← List.takeWhile_append_dropWhile (p := (· == (48 : UInt8))) (l := m.reverse)] at hx'
      rcases List.mem_append.1 hx' with g | g
      · exact takeWhile_all _ _ x g
      · exact h1 x (List.mem_reverse.2 g)
    · intro h
      have : m.reverse.dropWhile (· == (48 : UInt8)) = [] := (dropWhile_nil _ _).2 (fun y hy => h y (List.mem_reverse.1 hy))
      rw [this]; rfl
  rw [key, List.all_map]
  induction l with
  | nil => rfl
  | cons d t ih =>
    rw [List.all_cons, List.any_cons, ih (fun x hx => h x (List.mem_cons_of_mem _ hx))]
    simp only [Function.comp]
    rw [hb d (h d (List.mem_cons_self ..))]
    cases hz : d == 0 <;> simp [bne, hz]
theorem take_drop_dbl {dk : List Int} {m : Nat} (h : m < dk.length) :
    (dk.take (m + 1) ++ (dbl (dk.drop (m + 1))).1).set m ((2 * dk.getD m 0 + (dbl (dk.drop (m + 1))).2) % 10) = dk.take m ++ (dbl (dk.drop m)).1 ∧ (dbl (dk.drop m)).2 = (2 * dk.getD m 0 + (dbl (dk.drop (m + 1))).2) / 10 ∧ (dk.take (m + 1) ++ (dbl (dk.drop (m + 1))).1).getD m 0 = dk.getD m 0 := by
  have hd : dk.drop m = dk[m] :: dk.drop (m + 1) := List.drop_eq_getElem_cons h
  have hg : dk.getD m 0 = dk[m] := by rw [List.getD_eq_getElem?_getD, List.getElem?_eq_getElem h]; rfl
  have ht : dk.take (m + 1) = dk.take m ++ [dk[m]] := (List.take_append_getElem h).symm
  have hl : (dk.take m).length = m := by rw [List.length_take]; omega
  refine ⟨?_, ?_, ?_⟩
  · rw [ht, hg, hd, List.append_assoc, List.set_append_right _ _ (by omega), hl, Nat.sub_self]
    simp [dbl]
  · rw [hd, hg]; simp [dbl]
  · rw [List.getD_eq_getElem?_getD, List.getElem?_append_left (by rw [List.length_take]; omega), List.getElem?_take_of_lt (by omega), ← List.getD_eq_getElem?_getD]

set_option maxRecDepth 100000 in
set_option maxHeartbeats 1000000 in
theorem parseFraction_any (s : ByteArray) (w : World) (hs : s.size ≤ 140737488351232) (ds : List Int) (hds : s.data.toList.map (fun b => (b.toNat : Int) - 48) = ds) (hd : Digs ds) :
    Calls Tryd.prog 38 #[.string s] w fun e w' => e = .returned (.tuple #[.int .i64 (sf 16 ds 0).2, .bool ((sf 16 ds 0).1.any (· != 0))]) ∧ Below w.heap.size w w' := by
  have hconv := fun w => Lib.run_convert_string_bytes (P := Tryd.prog) w 9 62 5 s Tryd.underlying9 Tryd.underlying62 Tryd.underlying5
  have HDS := Lib.hid hds
  clear hds
  go_enter Tryd.func38, Tryd.ntmps38
  go_wp2_with fail
  obtain ⟨wb, hwb⟩ : ∃ wb, Lib.bytesWorld w 5 s = wb := ⟨_, rfl⟩
  obtain ⟨cp, hcp⟩ : ∃ cp, grownCap w s.size 0 5 = cp := ⟨_, rfl⟩
  obtain ⟨b, hb⟩ : ∃ b, w.heap.size = b := ⟨_, rfl⟩
  have hn : ds.length = s.size := by rw [← HDS.out, List.length_map, Array.length_toList]; rfl
  have hsz : wb.heap.size = b + 1 := by rw [← hwb, Lib.bytesWorld_size, hb]
  have hbel : Below b w wb := by rw [← hwb, ← hb]; exact bytesWorld_below w _ s
  have hdig : Dig wb b ds := by rw [← hwb, ← hb]; exact bytesWorld_dig w _ s ds HDS.out hd
  rw [hwb, hcp, hb]
  clear hwb hcp hconv
  have HN := Lib.hid hn
  clear hn hsz
  go_loopg [5, 6, 7, 8, 11] 16 (fun g v5 v6 v7 v8 v11 wr => ∃ (out : Int) (dk : List Int), v5 = .int .i64 out ∧ v11 = .int .i64 (16 - (g : Int)) ∧ g ≤ 16 ∧ 0 ≤ out ∧ (out + 1) * 2 ^ g ≤ 65536 ∧ dk.length = s.size ∧ Digs dk ∧ sf g dk out = sf 16 ds 0 ∧ Dig wr b dk ∧ Below b w wr)
  case atStart => exact ⟨0, ds, rfl, rfl, by omega, by omega, by omega, HN.out, hd, rfl, hdig, hbel⟩
  case round =>
    obtain ⟨out, dk, rfl, rfl, hg, ho0, ho1, hlen, hdk, hsf, hdig, hbel⟩ := hrel
    cases gk with
    | zero =>
      have hback := run_convert_bytes_arg (P := Tryd.prog) wr 62 5 Tryd.underlying62 Tryd.underlying5 b 0 s.size cp (dk.map fun n => 48 + n) (by rw [List.length_map]; exact hlen) (fun i hi => by
        rw [Nat.zero_add, hdig.cell i (by omega)]
        simp [List.getD_eq_getElem?_getD, List.getElem?_eq_getElem (show i < dk.length by omega)]) 9 Tryd.underlying9
      have HSF := Lib.hid hsf
      clear hsf
      have hstr : strOfNums (dk.map fun n => 48 + n) = ⟨(dk.map fun n => UInt8.ofNat (48 + n).toNat).toArray⟩ := by simp [strOfNums, List.map_map, Function.comp_def]
      have hsl : (strOfNums (dk.map fun n => 48 + n)).size ≤ 9223372036854775807 := by rw [hstr, size_mk']; rw [List.length_map]; omega
      have hany := nums_any dk hdk
      have HSTR := Lib.hid hstr
      have HANY := Lib.hid hany
      clear hstr hany
      generalize strOfNums (dk.map fun n => 48 + n) = str at *
      go_wp2_with (first | (go_at_call 50; refine (Tryd.strings_Trim_one str 48 (by decide) _ hsl).mono ?_; rintro e w2 ⟨rfl, hw2⟩))
      go_ret2
      rw [HSTR.out, HANY.out, Bool.not_not]
      rw [← HSF.out, hb]
      refine ⟨rfl, ?_⟩
      rcases hw2 with rfl | rfl
      · exact hbel
      · exact hbel.drew
    | succ g =>
      have HSF := Lib.hid hsf
      clear hsf
      have hb2 : (2 * (out + 1)) * 2 ^ g ≤ 65536 := by rw [Int.pow_succ] at ho1; rw [Int.mul_comm 2, Int.mul_assoc, Int.mul_comm 2]; exact ho1
      have hpow : (1 : Int) ≤ 2 ^ g := Int.pow_pos (by omega)
      have ho2 : out ≤ 65535 := by
        have := Int.mul_le_mul_of_nonneg_left hpow (show 0 ≤ 2 * (out + 1) by omega)
        omega
      go_wp2_with fail
      go_loopg [6, 7, 8] s.size (fun m v6 v7 v8 wi => v6 = .int .u8 (dbl (dk.drop m)).2 ∧ v7 = .int .i64 ((m : Int) - 1) ∧ m ≤ s.size ∧ Dig wi b (dk.take m ++ (dbl (dk.drop m)).1) ∧ Below b w wi)
      case atStart => exact ⟨by rw [← hlen, List.drop_length]; rfl, rfl, by omega, hdig.cast (by rw [← hlen, List.drop_length, List.take_length]; simp [dbl]), hbel⟩
      case round =>
        obtain ⟨rfl, rfl, hm, hdig2, hbel2⟩ := hrel
        cases gk with
        | zero =>
          rw [List.drop_zero, List.take_zero, List.nil_append] at hdig2
          rw [List.drop_zero]
          obtain ⟨hdk', hc0, hc1⟩ := dbl_ok hdk
          have hlen' : (dbl dk).1.length = s.size := by rw [dbl_len, hlen]
          have HL := Lib.hid hlen'
          clear hlen'
          have hsf' : sf g (dbl dk).1 (2 * out + (dbl dk).2) = sf 16 ds 0 := HSF.out
          have HS' := Lib.hid hsf'
          clear hsf'
          go_wp2_with fail
          go_roundg g
          case measure => omega
          case rel =>
            refine ⟨2 * out + (dbl dk).2, (dbl dk).1, rfl, by go_num, by omega, by omega, ?_, HL.out, hdk', HS'.out, hdig2, hbel2⟩
            refine Int.le_trans ?_ hb2
            refine Int.mul_le_mul_of_nonneg_right ?_ (Int.le_of_lt (Int.pow_pos (by omega)))
            omega
        | succ m =>
          obtain ⟨hc1, hc2, hc3⟩ := take_drop_dbl (dk := dk) (m := m) (by omega)
          have hcell := hdig2.cell m (by rw [List.length_append, List.length_take, dbl_len, List.length_drop]; omega)
          have hfree := hdig2.free m (by rw [List.length_append, List.length_take, dbl_len, List.length_drop]; omega)
          rw [hc3] at hcell
          have hdm := hdk (dk.getD m 0) (by rw [List.getD_eq_getElem?_getD, List.getElem?_eq_getElem (by omega)]; exact List.getElem_mem _)
          obtain ⟨_, hcb0, hcb1⟩ := dbl_ok (ds := dk.drop (m + 1)) (fun x hx => hdk x (List.mem_of_mem_drop hx))
          have hnew := hdig2.set m (by rw [List.length_append, List.length_take, dbl_len, List.length_drop]; omega) ((2 * dk.getD m 0 + (dbl (dk.drop (m + 1))).2) % 10)
          rw [hc1] at hnew
          have HC2 := Lib.hid hc2
          clear hc1 hc2 hc3
          obtain ⟨cc, hcd⟩ : ∃ cc, (dbl (dk.drop (m + 1))).2 = cc := ⟨_, rfl⟩
          obtain ⟨dd, hdd⟩ : ∃ dd, dk.getD m 0 = dd := ⟨_, rfl⟩
          rw [hcd] at hcb0 hcb1 hnew HC2 ⊢
          rw [hdd] at hcell hdm hnew HC2
          have e48 : (48 : Int) + dd - 48 = dd := by omega
          clear hcd hdd
          go_wp2_with fail
          go_roundg m
          case measure => omega
          case rel =>
            exact ⟨by rw [HC2.out], by go_num, by omega, hnew, hbel2.setCell (Nat.le_refl _) _⟩
end Go.Proofs.YtbijolohpfkihaaDoor.Fx
