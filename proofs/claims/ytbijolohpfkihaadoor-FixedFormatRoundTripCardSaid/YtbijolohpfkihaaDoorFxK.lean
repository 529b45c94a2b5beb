/- The reference's Parse answers as 'parseL': plain laws over the printed functions. -/
import Derived.Test.YtbijolohpfkihaaDoorPParsex
import Derived.Test.YtbijolohpfkihaaDoorFxR
set_option linter.unusedVariables false
namespace Go.Proofs.YtbijolohpfkihaaDoor.Fx
open Go.RowKit Go.Proofs.YtbijolohpfkihaaDoorW.PrintWords Go.Proofs.YtbijolohpfkihaaDoor.PParse

theorem bt_nat (s : ByteArray) (i : Nat) (h : i < s.data.toList.length) : bt s (i : Int) = (s.data.toList[i].toNat : Int) := by
  unfold bt
  rw [Int.toNat_natCast, dif_pos (by rw [toList_size] at h; exact h)]
  rfl
theorem isDigit_eq (c : UInt8) : armillaryref01_IsDigit.f (c.toNat : Int) = some (dig c) := by
  unfold armillaryref01_IsDigit.f dig
  by_cases h : (48 : Int) ≤ c.toNat
  · rw [if_pos (by omega)]
    congr 1
    rw [Bool.eq_iff_iff, Bool.and_eq_true, decide_eq_true_iff, decide_eq_true_iff, decide_eq_true_iff]
    omega
  · rw [if_neg (by omega)]
    congr 1
    rw [eq_comm, Bool.and_eq_false_iff, decide_eq_false_iff_not]
    exact .inl (by omega)

theorem skip_eq (s : ByteArray) (hs : s.size ≤ 140737488351232) : ∀ (d k i : Nat), i + d = s.size → d < k → armillaryref01_skipDigits.l0 k s (i : Int) = some ((skp s.data.toList i : Nat) : Int) := by
  intro d
  induction d with
  | zero =>
    intro k i hi hk
    obtain ⟨k, rfl⟩ : ∃ m, k = m + 1 := ⟨k - 1, by omega⟩
    rw [skp_end _ _ (by rw [toList_size]; omega)]
    simp only [armillaryref01_skipDigits.l0]
    rw [if_neg (by omega)]
  | succ d ih =>
    intro k i hi hk
    obtain ⟨k, rfl⟩ : ∃ m, k = m + 1 := ⟨k - 1, by omega⟩
    have hl : i < s.data.toList.length := by rw [toList_size]; omega
    simp only [armillaryref01_skipDigits.l0]
    rw [if_pos (by omega), if_pos (by omega), bt_nat s i hl, isDigit_eq, Option.bind_some]
    cases hd : dig (s.data.toList[i]) with
    | true =>
      rw [if_pos rfl, skp_next _ _ hl hd]
      have := ih k (i + 1) (by omega) (by omega)
      rw [show wrap64 ((i : Int) + 1) = ((i + 1 : Nat) : Int) from by unfold wrap64; omega]
      exact this
    | false =>
      rw [if_neg (by simp), skp_stop _ _ hl hd]

theorem hasPrefix_iff (l : List UInt8) : Lib.hasPrefix l [45] = true ↔ ∃ h : 0 < l.length, l[0] = 45 := by
  cases l with
  | nil => simp [Lib.hasPrefix]
  | cons a t =>
    have e : Lib.hasPrefix (a :: t) [45] = ((45 : UInt8) == a) := by unfold Lib.hasPrefix; simp only [List.isPrefixOf, Bool.and_true]
    rw [e, beq_iff_eq]
    exact ⟨fun h => ⟨by simp, h.symm⟩, fun ⟨_, h⟩ => Eq.symm h⟩

theorem scan_eq (s : ByteArray) (hs : s.size ≤ 140737488351232) (k : Nat) (hk : s.size + 5 < k) :
    armillaryref01_ScanDecimal.f k s = some (!badN s.data.toList, (enN s.data.toList : Int), (ptN s.data.toList : Int)) := by
  have hst := stN_le s.data.toList
  have hpt := ptN_le s.data.toList
  have hpg := ptN_ge s.data.toList
  rw [toList_size] at hst hpt
  have h1 : armillaryref01_ScanDecimal.f k s = armillaryref01_ScanDecimal.j1 (k - 1) s (stN s.data.toList : Nat) := by
    obtain ⟨k, rfl⟩ : ∃ m, k = m + 1 := ⟨k - 1, by omega⟩
    unfold armillaryref01_ScanDecimal.f
    by_cases h0 : 0 < s.size
    · have hl : 0 < s.data.toList.length := by rw [toList_size]; exact h0
      rw [if_pos (by omega), if_pos (by omega)]
      have hb : bt s 0 = (s.data.toList[0].toNat : Int) := bt_nat s 0 hl
      rw [hb]
      simp only [armillaryref01_ScanDecimal.j0]
      by_cases hm : s.data.toList[0] = 45
      · have : stN s.data.toList = 1 := by unfold stN; rw [if_pos ((hasPrefix_iff _).2 ⟨hl, hm⟩)]
        rw [this, hm, if_pos (by decide)]; rfl
      · have : stN s.data.toList = 0 := by unfold stN; rw [if_neg (fun h => hm ((hasPrefix_iff _).1 h).2)]
        rw [this, if_neg]
        · rfl
        · rw [beq_iff_eq]
          intro h
          exact hm (UInt8.toNat_inj.1 (by have e : (45 : UInt8).toNat = 45 := rfl; omega))
    · have : stN s.data.toList = 0 := by omega
      rw [if_neg (by omega), this]
      simp only [armillaryref01_ScanDecimal.j0]; rfl
  rw [h1]
  obtain ⟨k, rfl⟩ : ∃ m, k = m + 3 := ⟨k - 3, by omega⟩
  rw [show k + 3 - 1 = (k + 1) + 1 from rfl]
  have hsk : armillaryref01_skipDigits.f (k + 1) s (stN s.data.toList : Nat) = some (ptN s.data.toList : Int) := by
    unfold armillaryref01_skipDigits.f
    exact skip_eq s hs (s.size - stN s.data.toList) (k + 1) _ (by omega) (by omega)
  have hj1 : ∀ x, armillaryref01_ScanDecimal.j1 ((k + 1) + 1) s x = (armillaryref01_skipDigits.f (k + 1) s x).bind fun t102 => (if t102 = x then (armillaryref01_ScanDecimal.j2 (k + 1) s x t102 true) else (armillaryref01_ScanDecimal.j2 (k + 1) s x t102 (t102 == (s.size : Int)))) := fun x => by rw [armillaryref01_ScanDecimal.j1]
  rw [hj1, hsk, Option.bind_some]
  have hj2 : ∀ x y z, armillaryref01_ScanDecimal.j2 (k + 1) s x y z = if z = true then (some (decide (y > x), y, y)) else (if 0 ≤ y then (if y < (s.size : Int) then (if (bt s y) = 46 then ((armillaryref01_skipDigits.f k s (wrap64 (y + 1))).bind fun t103 => (if t103 = (s.size : Int) then (some (decide (t103 > (wrap64 (y + 1))), t103, y)) else (some (false, t103, y)))) else (some (false, y, y))) else (none)) else (none)) := fun x y z => by rw [armillaryref01_ScanDecimal.j2]
  by_cases he : ptN s.data.toList = stN s.data.toList
  · have hd : dotN s.data.toList = false := by unfold dotN; simp; omega
    have hen : enN s.data.toList = ptN s.data.toList := by unfold enN; rw [hd]; rfl
    have hbad : badN s.data.toList = true := by unfold badN; simp [he]
    rw [if_pos (by omega), hj2, if_pos rfl, hen, hbad]
    simp; omega
  · rw [if_neg (by omega), hj2]
    by_cases hle : ptN s.data.toList = s.size
    · have hd : dotN s.data.toList = false := by unfold dotN; rw [List.getElem?_eq_none (by rw [toList_size]; omega)]; simp
      have hen : enN s.data.toList = ptN s.data.toList := by unfold enN; rw [hd]; rfl
      have hbad : badN s.data.toList = false := by unfold badN; rw [hen, toList_size]; simp; omega
      rw [if_pos (by rw [beq_iff_eq]; omega), hen, hbad]
      simp; omega
    · have hl : ptN s.data.toList < s.data.toList.length := by rw [toList_size]; omega
      rw [if_neg (by rw [beq_iff_eq]; omega), if_pos (by omega), if_pos (by omega), bt_nat s _ hl]
      by_cases hdot : s.data.toList[ptN s.data.toList] = 46
      · have hd : dotN s.data.toList = true := by unfold dotN; rw [List.getElem?_eq_getElem hl, hdot]; simp; omega
        have hen : enN s.data.toList = skp s.data.toList (ptN s.data.toList + 1) := by unfold enN; rw [hd]; rfl
        have hel := enN_le s.data.toList
        rw [toList_size] at hel
        rw [if_pos (by rw [hdot]; rfl)]
        have hsk2 : armillaryref01_skipDigits.f k s (wrap64 ((ptN s.data.toList : Int) + 1)) = some (enN s.data.toList : Int) := by
          rw [show wrap64 ((ptN s.data.toList : Int) + 1) = ((ptN s.data.toList + 1 : Nat) : Int) from by unfold wrap64; omega, hen]
          unfold armillaryref01_skipDigits.f
          exact skip_eq s hs (s.size - (ptN s.data.toList + 1)) k _ (by omega) (by omega)
        rw [hsk2, Option.bind_some]
        rw [show wrap64 ((ptN s.data.toList : Int) + 1) = ((ptN s.data.toList + 1 : Nat) : Int) from by unfold wrap64; omega]
        have hge := skp_ge s.data.toList (ptN s.data.toList + 1)
        rw [← hen] at hge
        by_cases hq : enN s.data.toList = s.size
        · rw [if_pos (by omega)]
          have hbad : badN s.data.toList = decide (enN s.data.toList = ptN s.data.toList + 1) := by unfold badN; rw [toList_size]; simp [he, hq]
          rw [hbad]
          congr 2
          rw [Bool.eq_iff_iff]; simp; omega
        · rw [if_neg (by omega)]
          have hbad : badN s.data.toList = true := by unfold badN; rw [toList_size]; simp; omega
          rw [hbad]; rfl
      · have hd : dotN s.data.toList = false := by
          unfold dotN; rw [List.getElem?_eq_getElem hl]
          simp only [Bool.and_eq_false_iff]
          right
          rw [beq_eq_false_iff_ne]
          intro h; exact hdot (Option.some.inj h)
        have hen : enN s.data.toList = ptN s.data.toList := by unfold enN; rw [hd]; rfl
        have hbad : badN s.data.toList = true := by unfold badN; rw [hen, toList_size]; simp; omega
        rw [if_neg, hen, hbad]
        · rfl
        · intro h
          exact hdot (UInt8.toNat_inj.1 (by have e : (46 : UInt8).toNat = 46 := rfl; omega))
theorem scale_l2 (ds : List Int) (hd : Digs ds) (hn : ds.length ≤ 140737488351232) (out x7 : Int) (m : Nat) : ∀ j, j ≤ ds.length →
    armillaryref01_scaleFraction.l2 (m + j + 1) (ds.take j ++ (dbl (ds.drop j)).1) out x7 (dbl (ds.drop j)).2 ((j : Int) - 1) = armillaryref01_scaleFraction.l1 m (dbl ds).1 (wrap64 ((wrap64 (2 * out)) + (dbl ds).2)) (wrap64 (x7 + 1)) := by
  intro j
  induction j with
  | zero =>
    intro _
    rw [armillaryref01_scaleFraction.l2, if_neg (by omega)]
    simp
  | succ j ih =>
    intro hj
    obtain ⟨hc1, hc2, hc3⟩ := take_drop_dbl (dk := ds) (m := j) (by omega)
    have hdm := hd (ds.getD j 0) (by rw [List.getD_eq_getElem?_getD, List.getElem?_eq_getElem (by omega)]; exact List.getElem_mem _)
    obtain ⟨_, hcb0, hcb1⟩ := dbl_ok (ds := ds.drop (j + 1)) (fun x hx => hd x (List.mem_of_mem_drop hx))
    have hlen : (ds.take (j + 1) ++ (dbl (ds.drop (j + 1))).1).length = ds.length := by rw [List.length_append, List.length_take, dbl_len, List.length_drop]; omega
    have hrd : rd (ds.take (j + 1) ++ (dbl (ds.drop (j + 1))).1) (((j + 1 : Nat) : Int) - 1) = ds.getD j 0 := by
      unfold rd
      rw [show (((j + 1 : Nat) : Int) - 1).toNat = j from by omega]; exact hc3
    rw [show m + (j + 1) + 1 = (m + j + 1) + 1 from by omega, armillaryref01_scaleFraction.l2, if_pos (by omega), if_pos (by omega), if_pos (by rw [hlen]; omega), hrd]
    have e1 : wrap64 (wrap64 (2 * ds.getD j 0) + (dbl (ds.drop (j + 1))).2) = 2 * ds.getD j 0 + (dbl (ds.drop (j + 1))).2 := by
      generalize ds.getD j 0 = d at *
      generalize (dbl (ds.drop (j + 1))).2 = c at *
      unfold wrap64; omega
    rw [e1, Int.tmod_eq_emod_of_nonneg (by omega), Int.tdiv_eq_ediv_of_nonneg (by omega), show (((j + 1 : Nat) : Int) - 1).toNat = j from by omega, hc1, ← hc2]
    have e2 : wrap64 (dbl (ds.drop j)).2 = (dbl (ds.drop j)).2 := by rw [hc2]; unfold wrap64; omega
    have e3 : wrap64 (((j + 1 : Nat) : Int) - 1 - 1) = (j : Int) - 1 := by unfold wrap64; omega
    rw [e2, e3]
    exact ih (by omega)
theorem scale_l1 (n : Nat) (hn : n ≤ 140737488351232) : ∀ (g : Nat) (m : Nat) (ds : List Int) (out : Int), g ≤ 16 → Digs ds → ds.length = n → 0 ≤ out → (out + 1) * 2 ^ g ≤ 65536 →
    armillaryref01_scaleFraction.l1 (m + g * (n + 2) + 1) ds out (16 - (g : Int)) = some (sf g ds out) := by
  intro g
  induction g with
  | zero =>
    intro m ds out _ _ _ _ _
    rw [armillaryref01_scaleFraction.l1, if_neg (by omega)]; rfl
  | succ g ih =>
    intro m ds out hg hd hl h0 h1
    have hb2 : (2 * (out + 1)) * 2 ^ g ≤ 65536 := by rw [Int.pow_succ] at h1; rw [Int.mul_comm 2, Int.mul_assoc, Int.mul_comm 2]; exact h1
    have hpow : (1 : Int) ≤ 2 ^ g := Int.pow_pos (by omega)
    have ho2 : out ≤ 65535 := by
      have := Int.mul_le_mul_of_nonneg_left hpow (show 0 ≤ 2 * (out + 1) by omega)
      omega
    obtain ⟨hd', hc0, hc1⟩ := dbl_ok hd
    have hw : wrap64 ((ds.length : Int) - 1) = ((n : Nat) : Int) - 1 := by rw [hl]; unfold wrap64; omega
    rw [armillaryref01_scaleFraction.l1, if_pos (by omega), hw]
    have h2 := scale_l2 ds hd (by omega) out (16 - ((g + 1 : Nat) : Int)) (m + g * (n + 2) + 1) n (by omega)
    rw [← hl, List.drop_length, List.take_length] at h2
    simp only [dbl, List.append_nil] at h2
    rw [hl] at h2
    rw [show m + (g + 1) * (n + 2) = m + g * (n + 2) + 1 + n + 1 from by rw [Nat.add_mul]; omega, h2]
    have e1 : wrap64 (wrap64 (2 * out) + (dbl ds).2) = 2 * out + (dbl ds).2 := by
      generalize (dbl ds).2 = c at *
      unfold wrap64; omega
    have e2 : wrap64 (16 - ((g + 1 : Nat) : Int) + 1) = 16 - (g : Int) := by unfold wrap64; omega
    rw [e1, e2, ih m _ _ (by omega) hd' (by rw [dbl_len, hl]) (by omega) ?_]
    · rfl
    · refine Int.le_trans ?_ hb2
      exact Int.mul_le_mul_of_nonneg_right (by omega) (Int.le_of_lt (Int.pow_pos (by omega)))
theorem scale_l0 (s : ByteArray) (hs : s.size ≤ 140737488351232) (hd : ∀ c ∈ s.data.toList, dig c = true) (m : Nat) : ∀ (d i : Nat) (acc : List Int), i + d = s.size → acc.length = i → s.size < 17592186044416 →
    armillaryref01_scaleFraction.l0 (m + d + 1) s acc 0 (i : Int) = armillaryref01_scaleFraction.l1 m (acc ++ (s.data.toList.drop i).map fun b => (b.toNat : Int) - 48) 0 0 := by
  intro d
  induction d with
  | zero =>
    intro i acc hi ha hb
    rw [armillaryref01_scaleFraction.l0, if_neg (by omega), List.drop_eq_nil_of_le (by rw [toList_size]; omega)]
    simp
  | succ d ih =>
    intro i acc hi ha hb
    have hl : i < s.data.toList.length := by rw [toList_size]; omega
    have hdig := hd _ (List.getElem_mem hl)
    simp only [dig, Bool.and_eq_true, decide_eq_true_eq] at hdig
    rw [show m + (d + 1) + 1 = (m + d + 1) + 1 from by omega, armillaryref01_scaleFraction.l0, if_pos (by omega), if_pos (by omega), if_pos (by omega), bt_nat s i hl]
    rw [show wrap64 ((i : Int) + 1) = ((i + 1 : Nat) : Int) from by unfold wrap64; omega, ih (i + 1) _ (by omega) (by rw [List.length_append, ha]; rfl) hb]
    rw [List.drop_eq_getElem_cons hl, List.map_cons, List.append_assoc]
    rw [show ((s.data.toList[i].toNat : Int) - 48) % 256 = (s.data.toList[i].toNat : Int) - 48 from by omega]
    rfl
theorem scale_eq (s : ByteArray) (hs : s.size < 17592186044416) (hd : ∀ c ∈ s.data.toList, dig c = true) (k : Nat) (hk : 20 * s.size + 40 < k) :
    armillaryref01_scaleFraction.f k s = some (sf 16 (s.data.toList.map fun b => (b.toNat : Int) - 48) 0) := by
  unfold armillaryref01_scaleFraction.f
  obtain ⟨m, rfl⟩ : ∃ m, k = (m + 16 * (s.size + 2) + 1) + s.size + 1 := ⟨k - 1 - s.size - 1 - 16 * (s.size + 2), by omega⟩
  have h0 := scale_l0 s (by omega) hd (m + 16 * (s.size + 2) + 1) s.size 0 [] (by omega) rfl hs
  rw [List.drop_zero, List.nil_append] at h0
  rw [show (0 : Int) = ((0 : Nat) : Int) from rfl]
  refine h0.trans ?_
  have h1 := scale_l1 s.size (by omega) 16 m (s.data.toList.map fun b => (b.toNat : Int) - 48) 0 (by omega) (dig_digs hd) (by rw [List.length_map, toList_size]) (by omega) (by omega)
  exact h1

/-- the integer part, cut off at a million -/
def satN (acc : Int) : List UInt8 → Int
  | [] => acc
  | c :: r => satN (min (acc * 10 + ((c.toNat : Int) - 48)) 1000000) r
theorem satN_dec (l : List UInt8) (hl : ∀ c ∈ l, dig c = true) : ∀ n : Nat, n ≤ 1000000 → satN (n : Int) l = min ((decN l n : Nat) : Int) 1000000 := by
  induction l with
  | nil => intro n hn; simp only [satN, decN]; omega
  | cons c r ih =>
    intro n hn
    have hc := hl c (List.mem_cons_self ..)
    simp only [dig, Bool.and_eq_true, decide_eq_true_eq] at hc
    simp only [satN, decN]
    have hr := fun x hx => hl x (List.mem_cons_of_mem c hx)
    by_cases h : n * 10 + (c.toNat - 48) ≤ 1000000
    · rw [show min ((n : Int) * 10 + ((c.toNat : Int) - 48)) 1000000 = ((n * 10 + (c.toNat - 48) : Nat) : Int) from by omega]
      exact ih hr _ h
    · rw [show min ((n : Int) * 10 + ((c.toNat : Int) - 48)) 1000000 = ((1000000 : Nat) : Int) from by omega, ih hr _ (by omega)]
      have h1 := decN_ge r 1000000
      have h2 := decN_ge r (n * 10 + (c.toNat - 48))
      omega
theorem satN_bd (l : List UInt8) (hl : ∀ c ∈ l, dig c = true) : 0 ≤ satN 0 l ∧ satN 0 l ≤ 1000000 := by
  have := satN_dec l hl 0 (by omega)
  rw [show ((0 : Nat) : Int) = 0 from rfl] at this
  rw [this]; omega
theorem sf_digs (k : Nat) : ∀ (ds : List Int) (out : Int), Digs ds → Digs (sf k ds out).1 := by
  induction k with
  | zero => intro ds out h; exact h
  | succ k ih => intro ds out h; exact ih _ _ (dbl_ok h).1

theorem parse_l1 (x9 lo : Int) (ds : List Int) (hd : Digs ds) (hn : ds.length ≤ 140737488351232) (hlo0 : 0 ≤ lo) (hlo : lo ≤ 70000000000) (m : Nat) : ∀ (d i : Nat) (hi : Int), i + d = ds.length → (hi = lo ∨ hi = lo + 1) →
    armillaryref01_Parse.l1 (m + d + 1) x9 ds lo hi (i : Int) = (armillaryref01_Valid.f (if (ds.drop i).any (· != 0) then lo + 1 else hi)).bind fun t120 => (if t120 = true then (if x9 = 1 then (some (wrap64 (-(if (ds.drop i).any (· != 0) then lo + 1 else hi)), wrap64 (-lo), 0, 0)) else (some (lo, (if (ds.drop i).any (· != 0) then lo + 1 else hi), 0, 0))) else (some (0, 0, 0, 2))) := by
  intro d
  induction d with
  | zero =>
    intro i hi h h'
    rw [armillaryref01_Parse.l1, if_neg (by omega), List.drop_eq_nil_of_le (by omega)]
    simp
  | succ d ih =>
    intro i hi h h'
    have hl : i < ds.length := by omega
    have hdi := hd (ds[i]) (List.getElem_mem hl)
    have hrd : rd ds (i : Int) = ds[i] := by unfold rd; rw [Int.toNat_natCast, List.getD_eq_getElem?_getD, List.getElem?_eq_getElem hl]; rfl
    rw [show m + (d + 1) + 1 = (m + d + 1) + 1 from by omega, armillaryref01_Parse.l1, if_pos (by omega), if_pos (by omega), hrd]
    rw [show wrap64 ((i : Int) + 1) = ((i + 1 : Nat) : Int) from by unfold wrap64; omega]
    rw [List.drop_eq_getElem_cons hl, List.any_cons]
    by_cases hz : ds[i] > 0
    · have hne : (ds[i] != 0) = true := by rw [bne_iff_ne]; omega
      rw [if_pos hz, show wrap64 (lo + 1) = lo + 1 from by unfold wrap64; omega, ih (i + 1) (lo + 1) (by omega) (.inr rfl), hne]
      simp
    · have hne : (ds[i] != 0) = false := by rw [bne_eq_false_iff_eq]; omega
      rw [if_neg hz, ih (i + 1) hi (by omega) h', hne]
      simp

/-- what Parse does behind the integer part -/
def restP (k : Nat) (s : ByteArray) (x8 x9 x10 : Int) : Option (Int × Int × Int × Int) :=
  if 0 ≤ (mn (wrap64 (x8 + 1)) (s.size : Int)) then (if (mn (wrap64 (x8 + 1)) (s.size : Int)) ≤ (s.size : Int) then ((armillaryref01_scaleFraction.f k (s.extract ((mn (wrap64 (x8 + 1)) (s.size : Int)) : Int).toNat s.size)).bind fun bt115 => (armillaryref01_Parse.l1 k x9 bt115.1 (wrap64 ((wrap64 (x10 * 65536)) + bt115.2)) (wrap64 ((wrap64 (x10 * 65536)) + bt115.2)) 0)) else (none)) else (none)
theorem parse_l0 (s : ByteArray) (hs : s.size ≤ 140737488351232) (x9 : Int) (pt : Nat) (hpt : pt ≤ s.size) (m : Nat) : ∀ (d i : Nat) (n : Int), i + d = pt → 0 ≤ n → n ≤ 1000000 → (∀ j (hj : j < s.data.toList.length), i ≤ j → j < pt → dig s.data.toList[j] = true) →
    armillaryref01_Parse.l0 (m + d + 1) s (pt : Int) x9 n (i : Int) = restP m s (pt : Int) x9 (satN n ((s.data.toList.drop i).take (pt - i))) := by
  intro d
  induction d with
  | zero =>
    intro i n h h0 h1 hd
    rw [armillaryref01_Parse.l0, if_neg (by omega), show pt - i = 0 from by omega]
    rfl
  | succ d ih =>
    intro i n h h0 h1 hd
    have hl : i < s.data.toList.length := by rw [toList_size]; omega
    have hdig := hd i hl (Nat.le_refl _) (by omega)
    simp only [dig, Bool.and_eq_true, decide_eq_true_eq] at hdig
    rw [show m + (d + 1) + 1 = (m + d + 1) + 1 from by omega, armillaryref01_Parse.l0, if_pos (by omega), if_pos (by omega), if_pos (by omega), bt_nat s i hl]
    rw [show wrap64 ((i : Int) + 1) = ((i + 1 : Nat) : Int) from by unfold wrap64; omega]
    have e : mn (wrap64 (wrap64 (n * 10) + ((s.data.toList[i].toNat : Int) - 48) % 256)) 1000000 = min (n * 10 + ((s.data.toList[i].toNat : Int) - 48)) 1000000 := by
      unfold mn wrap64; omega
    rw [e, ih (i + 1) _ (by omega) (by omega) (by omega) (fun j hj h2 h3 => hd j hj (by omega) h3)]
    rw [List.drop_eq_getElem_cons hl, show pt - i = (pt - (i + 1)) + 1 from by omega, List.take_succ_cons]
    rfl
theorem restP_eq (s : ByteArray) (hs : s.size < 17592186044416) (hbad : badN s.data.toList = false) (m : Nat) (hm : 40 * s.size + 100 < m) (x9 : Int) (hx : (x9 = 1) ↔ stN s.data.toList = 1) :
    restP m s (ptN s.data.toList : Nat) x9 (satN 0 (intL s.data.toList)) = some (parseL s.data.toList) := by
  have hpt := ptN_le s.data.toList
  rw [toList_size] at hpt
  have hen : enN s.data.toList = s.size := by
    have hel := enN_le s.data.toList
    unfold badN at hbad
    simp only [Bool.or_eq_false_iff, decide_eq_false_iff_not] at hbad
    rw [toList_size] at hel hbad
    omega
  have hid := intL_dig s.data.toList
  have hsat := satN_dec (intL s.data.toList) hid 0 (by omega)
  rw [show ((0 : Nat) : Int) = 0 from rfl, show decN (intL s.data.toList) 0 = intN s.data.toList from rfl] at hsat
  obtain ⟨q, hq⟩ : ∃ q : Nat, mn (wrap64 ((ptN s.data.toList : Int) + 1)) (s.size : Int) = (q : Int) := ⟨min (ptN s.data.toList + 1) s.size, by unfold mn wrap64; omega⟩
  have hq2 : q = min (ptN s.data.toList + 1) (enN s.data.toList) := by rw [hen]; have := hq; unfold mn wrap64 at this; omega
  have hql : q ≤ s.size := by omega
  have hfl : (s.extract q s.size).data.toList = frL s.data.toList := by rw [Lib.extract_data]; unfold frL; rw [← hq2, hen]
  have hfs : (s.extract q s.size).size ≤ s.size := by rw [ByteArray.size_extract]; omega
  have hfd : ∀ c ∈ (s.extract q s.size).data.toList, dig c = true := by rw [hfl]; exact frL_dig _
  have hsc := scale_eq (s.extract q s.size) (by omega) hfd m (by omega)
  rw [hfl, show (frL s.data.toList).map (fun b => (b.toNat : Int) - 48) = frN s.data.toList from rfl] at hsc
  have hdg : Digs (frN s.data.toList) := dig_digs (frL_dig _)
  obtain ⟨b0, b1⟩ := sf_bound 16 (frN s.data.toList) 0 hdg (by omega)
  unfold restP
  rw [hq, if_pos (by omega), if_pos (by omega), Int.toNat_natCast, hsc, Option.bind_some]
  have hfrl : (frN s.data.toList).length ≤ s.size := by
    have e1 : (frN s.data.toList).length = (s.extract q s.size).size := by
      have : (frN s.data.toList).length = (frL s.data.toList).length := by unfold frN; rw [List.length_map]
      rw [this, ← hfl, toList_size]
    omega
  have hlen : (sf 16 (frN s.data.toList) 0).1.length = (frN s.data.toList).length := by
    have : ∀ (k : Nat) (ds : List Int) (out : Int), (sf k ds out).1.length = ds.length := by
      intro k
      induction k with
      | zero => intro ds out; rfl
      | succ k ih => intro ds out; simp only [sf]; rw [ih, dbl_len]
    exact this 16 _ _
  obtain ⟨iN, hin0⟩ : ∃ iN, intN s.data.toList = iN := ⟨_, rfl⟩
  obtain ⟨fr, hfr⟩ : ∃ fr, (sf 16 (frN s.data.toList) 0).2 = fr := ⟨_, rfl⟩
  rw [hfr] at b0 b1 ⊢
  rw [hin0] at hsat
  obtain ⟨N, hN⟩ : ∃ N, satN 0 (intL s.data.toList) = N := ⟨_, rfl⟩
  rw [hN] at hsat ⊢
  have hlo : wrap64 (wrap64 (N * 65536) + fr) = N * 65536 + fr := by unfold wrap64; omega
  rw [hlo]
  obtain ⟨m, rfl⟩ : ∃ m', m = m' + (sf 16 (frN s.data.toList) 0).1.length + 1 := ⟨m - (sf 16 (frN s.data.toList) 0).1.length - 1, by omega⟩
  have h1 := parse_l1 x9 (N * 65536 + fr) (sf 16 (frN s.data.toList) 0).1 (sf_digs 16 _ _ hdg) (by omega) (by omega) (by omega) m (sf 16 (frN s.data.toList) 0).1.length 0 (N * 65536 + fr) (by omega) (.inl rfl)
  rw [List.drop_zero, show ((0 : Nat) : Int) = 0 from rfl] at h1
  rw [h1]
  obtain ⟨ix, hix⟩ : ∃ ix, (sf 16 (frN s.data.toList) 0).1.any (· != 0) = ix := ⟨_, rfl⟩
  have hloN : loN s.data.toList = iN * 65536 + fr := by unfold loN; rw [hin0, hfr]
  have hhiN : hiN s.data.toList = if ix then iN * 65536 + fr + 1 else iN * 65536 + fr := by unfold hiN; rw [hix, hloN]
  rw [hix]
  obtain ⟨hv, hhv⟩ : ∃ hv, (if ix = true then N * 65536 + fr + 1 else N * 65536 + fr) = hv := ⟨_, rfl⟩
  have hv0 : N * 65536 + fr ≤ hv ∧ hv ≤ N * 65536 + fr + 1 := by rw [← hhv]; split <;> omega
  rw [hhv]
  clear h1 hsc hid hfd hdg hix
  have hN0 : 0 ≤ N ∧ N ≤ 1000000 := by omega
  have hval : armillaryref01_Valid.f hv = some (decide (hv < 2147483648)) := by
    unfold armillaryref01_Valid.f
    exact if_pos (by omega)
  rw [hval, Option.bind_some]
  have hpl : parseL s.data.toList = if 32768 ≤ iN ∨ 2147483648 ≤ hiN s.data.toList then (0, 0, 0, 2) else if stN s.data.toList = 1 then (-hiN s.data.toList, -loN s.data.toList, 0, 0) else (loN s.data.toList, hiN s.data.toList, 0, 0) := by
    unfold parseL
    rw [hbad, hin0, if_neg (show ¬ (false = true) by simp)]
  rw [hpl]
  have hNi : ¬ 32768 ≤ iN → N = (iN : Int) := fun h => by omega
  have hNb : 32768 ≤ iN → 32768 ≤ N := fun h => by omega
  clear hq hq2 hql hfl hfs hfrl hlen hm hs hpt hen hsat hN hpl hval hlo
  by_cases hbig : 32768 ≤ iN
  · have hN9 := hNb hbig
    have e1 : decide (hv < 2147483648) = false := decide_eq_false (by omega)
    rw [e1, if_pos (show 32768 ≤ iN ∨ 2147483648 ≤ hiN s.data.toList from Or.inl hbig)]
    rw [if_neg (show ¬ (false = true) by simp)]
  · have hNe : N = iN := hNi hbig
    clear hNi hNb
    subst hNe
    rw [hhv] at hhiN
    rw [hhiN, hloN]
    by_cases hlt : hv < 2147483648
    · have e1 : decide (hv < 2147483648) = true := decide_eq_true hlt
      have e2 : ¬ (32768 ≤ iN ∨ 2147483648 ≤ hv) := by omega
      have e3 : wrap64 (-hv) = -hv := by unfold wrap64; omega
      have e4 : wrap64 (-((iN : Int) * 65536 + fr)) = -((iN : Int) * 65536 + fr) := by unfold wrap64; omega
      rw [e1, if_neg e2, e3, e4]
      rw [if_pos (show (true = true) from rfl)]
      by_cases hs1 : stN s.data.toList = 1
      · rw [if_pos hs1, if_pos (hx.2 hs1)]
      · rw [if_neg hs1, if_neg (fun h => hs1 (hx.1 h))]
    · have e1 : decide (hv < 2147483648) = false := decide_eq_false hlt
      have e2 : 32768 ≤ iN ∨ 2147483648 ≤ hv := by omega
      rw [e1, if_pos e2]
      rw [if_neg (show ¬ (false = true) by simp)]

/-- R1.Parse answers as 'parseL'. -/
theorem RParse_any (s : ByteArray) (w : World) (hs : s.size < 17592186044416) :
    Calls Tryd.prog 25 #[.string s] w fun e w' => e = .returned (tup4 (parseL s.data.toList)) ∧ Below w.heap.size w w' := by
  obtain ⟨r1, r2, r3, r4, hr⟩ : ∃ r1 r2 r3 r4, parseL s.data.toList = (r1, r2, r3, r4) := ⟨_, _, _, _, rfl⟩
  have key : armillaryref01_Parse.f (50 * s.size + 200) s = some (r1, r2, r3, r4) := by
    rw [← hr]
    unfold armillaryref01_Parse.f
    rw [scan_eq s (by omega) _ (by omega), Option.bind_some]
    cases hbad : badN s.data.toList with
    | true =>
      rw [if_neg (by simp)]
      unfold parseL
      rw [hbad]; rfl
    | false =>
      rw [if_pos (by simp)]
      have hpt := ptN_le s.data.toList
      have hpg := ptN_ge s.data.toList
      have hne : ptN s.data.toList ≠ stN s.data.toList := by
        unfold badN at hbad
        simp only [Bool.or_eq_false_iff, decide_eq_false_iff_not] at hbad
        exact hbad.1
      rw [toList_size] at hpt
      have hl : 0 < s.data.toList.length := by rw [toList_size]; omega
      rw [if_pos (by omega), show bt s 0 = (s.data.toList[0].toNat : Int) from bt_nat s 0 hl]
      have hdg : ∀ j (hj : j < s.data.toList.length), stN s.data.toList ≤ j → j < ptN s.data.toList → dig s.data.toList[j] = true := fun j hj h1 h2 => skp_dig _ _ j hj h1 h2
      have hgo : ∀ x9 : Int, x9 = (stN s.data.toList : Int) → armillaryref01_Parse.j0 (50 * s.size + 200) s (ptN s.data.toList : Int) x9 0 = some (parseL s.data.toList) := by
        intro x9 hx
        have hst : stN s.data.toList = 0 ∨ stN s.data.toList = 1 := by unfold stN; split <;> simp
        rw [show 50 * s.size + 200 = (50 * s.size + 199) + 1 from rfl, armillaryref01_Parse.j0]
        obtain ⟨m, hm⟩ : ∃ m, 50 * s.size + 199 = m + (ptN s.data.toList - stN s.data.toList) + 1 := ⟨50 * s.size + 198 - (ptN s.data.toList - stN s.data.toList), by omega⟩
        have h0 := parse_l0 s (by omega) x9 (ptN s.data.toList) hpt m (ptN s.data.toList - stN s.data.toList) (stN s.data.toList) 0 (by omega) (by omega) (by omega) hdg
        rw [← hm, ← hx] at h0
        rw [h0]
        exact restP_eq s hs hbad m (by omega) x9 (by omega)
      by_cases hm : s.data.toList[0] = 45
      · have hst : stN s.data.toList = 1 := by unfold stN; rw [if_pos ((hasPrefix_iff _).2 ⟨hl, hm⟩)]
        rw [hm, if_pos (by decide)]
        exact hgo 1 (by rw [hst]; rfl)
      · have hst : stN s.data.toList = 0 := by unfold stN; rw [if_neg (fun h => hm ((hasPrefix_iff _).1 h).2)]
        rw [if_neg]
        · exact hgo 0 (by rw [hst]; rfl)
        · intro h
          exact hm (UInt8.toNat_inj.1 (by have e : (45 : UInt8).toNat = 45 := rfl; omega))
  rw [hr]
  exact armillaryref01_Parse.calls _ s r1 r2 r3 r4 w key
/-- R1.ScanDecimal, by what it tells of a text. -/
theorem RScan_any (s : ByteArray) (w : World) (hs : s.size ≤ 140737488351232) :
    Calls Tryd.prog 29 #[.string s] w fun e w' => e = .returned (.tuple #[.bool (!badN s.data.toList), .int .i64 (enN s.data.toList : Nat), .int .i64 (ptN s.data.toList : Nat)]) ∧ Drawn0 w w' :=
  armillaryref01_ScanDecimal.calls (s.size + 6) s _ _ _ w (scan_eq s hs _ (by omega))
end Go.Proofs.YtbijolohpfkihaaDoor.Fx
