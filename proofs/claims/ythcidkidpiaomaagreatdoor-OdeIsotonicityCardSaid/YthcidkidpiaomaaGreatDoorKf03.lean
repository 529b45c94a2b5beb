/- FxQ FxR OdP OdF -/
import Derived.Lib.ParseIntB
import Derived.Lib.Hide
import Derived.Lib.IndexBytes
import Derived.ProofKit
import Derived.WalkKit
import Derived.KernelRfl
import Derived.Below
import Derived.Laws.AppendOwn
import Derived.Deep.WholeRow
import Derived.Test.YthcidkidpiaomaaGreatDoorKf02
section
set_option linter.unusedVariables false
namespace Go.Proofs.YthcidkidpiaomaaGreatDoor.Fx
def dig (c : UInt8) : Bool := decide (48 ≤ c.toNat) && decide (c.toNat ≤ 57)
def skp (l : List UInt8) (i : Nat) : Nat := i + ((l.drop i).takeWhile dig).length
theorem skp_ge (l : List UInt8) (i : Nat) : i ≤ skp l i := by unfold skp; omega
theorem skp_le (l : List UInt8) (i : Nat) (h : i ≤ l.length) : skp l i ≤ l.length := by
  unfold skp
  have : ((l.drop i).takeWhile dig).length ≤ (l.drop i).length := (List.takeWhile_sublist _).length_le
  rw [List.length_drop] at this
  omega
theorem skp_end (l : List UInt8) (i : Nat) (h : l.length ≤ i) : skp l i = i := by
  unfold skp; rw [List.drop_eq_nil_of_le h]; simp
theorem skp_stop (l : List UInt8) (i : Nat) (h : i < l.length) (hd : dig l[i] = false) : skp l i = i := by
  unfold skp; rw [List.drop_eq_getElem_cons h, List.takeWhile_cons, if_neg (by simp [hd])]; rfl
theorem skp_next (l : List UInt8) (i : Nat) (h : i < l.length) (hd : dig l[i] = true) : skp l i = skp l (i + 1) := by
  unfold skp; rw [List.drop_eq_getElem_cons h, List.takeWhile_cons, if_pos hd]; simp; omega
theorem skp_dig (l : List UInt8) (i : Nat) : ∀ j (hj : j < l.length), i ≤ j → j < skp l i → dig l[j] = true := by
  intro j hj h1 h2
  unfold skp at h2
  have hk : j - i < ((l.drop i).takeWhile dig).length := by omega
  have hall : ∀ (m : List UInt8) (x : UInt8), x ∈ m.takeWhile dig → dig x = true := by
    intro m
    induction m with
    | nil => simp
    | cons a t ih =>
      intro x hx
      cases h : dig a
      · simp [h] at hx
      · simp only [List.takeWhile_cons, h, if_true, List.mem_cons] at hx
        rcases hx with rfl | hx
        · exact h
        · exact ih x hx
  have hpre : ∀ (m : List UInt8) (k : Nat) (hk : k < (m.takeWhile dig).length), ∃ hk' : k < m.length, (m.takeWhile dig)[k] = m[k] := by
    intro m k hk
    have hs := List.takeWhile_prefix (p := dig) (l := m)
    exact ⟨Nat.lt_of_lt_of_le hk hs.length_le, hs.getElem hk⟩
  obtain ⟨hk', e⟩ := hpre (l.drop i) (j - i) hk
  have := hall (l.drop i) _ (List.getElem_mem hk)
  rw [e, List.getElem_drop] at this
  simpa [show i + (j - i) = j from by omega] using this
def decN : List UInt8 → Nat → Nat
  | [], acc => acc
  | c :: r, acc => decN r (acc * 10 + (c.toNat - 48))
theorem decN_ge (l : List UInt8) : ∀ acc, acc ≤ decN l acc := by
  induction l with
  | nil => intro acc; exact Nat.le_refl _
  | cons c r ih => intro acc; have := ih (acc * 10 + (c.toNat - 48)); simp only [decN]; omega
theorem parseUintM_ok (M : Nat) (hM : M ≤ 18446744073709551615) (l : List UInt8) : ∀ acc, (∀ c ∈ l, dig c = true) → decN l acc ≤ M → Lib.parseUintM M acc l = .ok (decN l acc) := by
  induction l with
  | nil => intro acc _ _; simp only [Lib.parseUintM, decN]
  | cons c r ih =>
    intro acc hl h
    have hc := hl c (List.mem_cons_self ..)
    simp only [dig, Bool.and_eq_true, decide_eq_true_eq] at hc
    have hge := decN_ge r (acc * 10 + (c.toNat - 48))
    have hd : decN (c :: r) acc = decN r (acc * 10 + (c.toNat - 48)) := rfl
    rw [hd] at h ⊢
    rw [Lib.parseUintM, if_pos hc, if_neg (by omega), if_neg (by omega)]
    exact ih _ (fun x hx => hl x (List.mem_cons_of_mem _ hx)) h
theorem parseUintM_range (M : Nat) (l : List UInt8) : ∀ acc, (∀ c ∈ l, dig c = true) → acc ≤ M → M < decN l acc → Lib.parseUintM M acc l = .range := by
  induction l with
  | nil => intro acc _ h h'; rw [decN] at h'; omega
  | cons c r ih =>
    intro acc hl hacc h
    have hc := hl c (List.mem_cons_self ..)
    simp only [dig, Bool.and_eq_true, decide_eq_true_eq] at hc
    have hd : decN (c :: r) acc = decN r (acc * 10 + (c.toNat - 48)) := rfl
    rw [hd] at h
    rw [Lib.parseUintM, if_pos hc]
    by_cases h1 : 1844674407370955162 ≤ acc
    · rw [if_pos h1]
    · rw [if_neg h1]
      by_cases h2 : M < acc * 10 + (c.toNat - 48)
      · rw [if_pos h2]
      · rw [if_neg h2]
        exact ih _ (fun x hx => hl x (List.mem_cons_of_mem _ hx)) (by omega) h
theorem pow64 : (2 ^ 64 - 1 : Nat) = 18446744073709551615 := by decide
theorem pow63 : (2 ^ (64 - 1) : Nat) = 9223372036854775808 := by decide
theorem parseIntB_ok (l : List UInt8) (hne : l ≠ []) (hl : ∀ c ∈ l, dig c = true) (h : decN l 0 < 9223372036854775808) : Lib.parseIntB 64 l = .ok (decN l 0 : Int) := by
  match l, hne with
  | c :: r, _ =>
    have hc := hl c (List.mem_cons_self ..)
    simp only [dig, Bool.and_eq_true, decide_eq_true_eq] at hc
    have e : Lib.parseUintB 64 (if c.toNat = 43 ∨ c.toNat = 45 then r else c :: r) = .ok (decN (c :: r) 0) := by
      rw [if_neg (by omega)]
      unfold Lib.parseUintB
      rw [if_neg (by simp), pow64]
      exact parseUintM_ok _ (Nat.le_refl _) _ _ hl (by omega)
    unfold Lib.parseIntB
    simp only [e, pow63]
    rw [if_neg (by omega), if_neg (by omega), if_neg (by omega)]
theorem parseIntB_range (l : List UInt8) (hne : l ≠ []) (hl : ∀ c ∈ l, dig c = true) (h : 9223372036854775808 ≤ decN l 0) : Lib.parseIntB 64 l = .range := by
  match l, hne with
  | c :: r, _ =>
    have hc := hl c (List.mem_cons_self ..)
    simp only [dig, Bool.and_eq_true, decide_eq_true_eq] at hc
    by_cases h2 : decN (c :: r) 0 ≤ 18446744073709551615
    · have e : Lib.parseUintB 64 (if c.toNat = 43 ∨ c.toNat = 45 then r else c :: r) = .ok (decN (c :: r) 0) := by
        rw [if_neg (by omega)]
        unfold Lib.parseUintB
        rw [if_neg (by simp), pow64]
        exact parseUintM_ok _ (Nat.le_refl _) _ _ hl h2
      unfold Lib.parseIntB
      simp only [e, pow63]
      rw [if_pos (by omega)]
    · have e : Lib.parseUintB 64 (if c.toNat = 43 ∨ c.toNat = 45 then r else c :: r) = .range := by
        rw [if_neg (by omega)]
        unfold Lib.parseUintB
        rw [if_neg (by simp), pow64]
        exact parseUintM_range _ _ _ hl (by omega) (by omega)
      unfold Lib.parseIntB
      simp only [e]
end Go.Proofs.YthcidkidpiaomaaGreatDoor.Fx
end
section
set_option linter.unusedVariables false
namespace Go.Proofs.YthcidkidpiaomaaGreatDoor.Fx
open Go.RowKit Go.Proofs.YthcidkidpiaomaaGreatDoorW.PrintWords
theorem toList_size (s : ByteArray) : s.data.toList.length = s.size := by rw [Array.length_toList]; rfl
theorem byte_at (s : ByteArray) (k : Nat) (h : k < s.size) : s.data.toList[k]'(by rw [toList_size]; exact h) = s[k] := rfl
theorem skipDigits_any (s : ByteArray) (i : Nat) (w : World) (hs : s.size ≤ 140737488351232) (hi : i ≤ s.size) :
    Calls Tryz.prog 195 #[.string s, .int .i64 i] w fun e w' => e = .returned (.int .i64 (skp s.data.toList i : Nat)) ∧ w = w' := by
  go_enter Tryz.func195, Tryz.ntmps195
  go_wp2
  go_loopg [1] (s.size - i) (fun g v wr => ∃ k : Nat, v = .int .i64 k ∧ k + g = s.size ∧ Aside0 (skp s.data.toList k = skp s.data.toList i) ∧ w = wr)
  case atStart => exact ⟨i, rfl, by omega, ⟨rfl⟩, rfl⟩
  case round =>
    obtain ⟨k, rfl, hk, HK, rfl⟩ := hrel
    by_cases hlt : k < s.size
    · have hll : k < s.data.toList.length := by rw [toList_size]; exact hlt
      have hb0 : (0 : Int) ≤ (s[k].toNat : Int) := by omega
      by_cases h1 : (48 : Int) ≤ (s[k].toNat : Int)
      · by_cases h2 : (s[k].toNat : Int) ≤ 57
        · have hd : skp s.data.toList k = skp s.data.toList (k + 1) := skp_next _ _ hll (by rw [byte_at _ _ hlt]; simp [dig]; omega)
          have HN : Aside0 (skp s.data.toList (k + 1) = skp s.data.toList i) := ⟨hd.symm.trans HK.out⟩
          clear hd
          go_wp2
          go_roundg (s.size - (k + 1))
          case measure => omega
          case rel => exact ⟨k + 1, by go_num, by omega, HN, rfl⟩
        · have hd : skp s.data.toList k = k := skp_stop _ _ hll (by rw [byte_at _ _ hlt]; simp [dig]; omega)
          have HN : Aside0 (skp s.data.toList i = k) := ⟨HK.out.symm.trans hd⟩
          clear hd
          go_wp2
          go_ret
          rw [HN.out]
          exact ⟨rfl, rfl⟩
      · have hd : skp s.data.toList k = k := skp_stop _ _ hll (by rw [byte_at _ _ hlt]; simp [dig]; omega)
        have HN : Aside0 (skp s.data.toList i = k) := ⟨HK.out.symm.trans hd⟩
        clear hd
        go_wp2
        go_ret
        rw [HN.out]
        exact ⟨rfl, rfl⟩
    · have hd : skp s.data.toList k = k := skp_end _ _ (by rw [toList_size]; omega)
      have HN : Aside0 (skp s.data.toList i = k) := ⟨HK.out.symm.trans hd⟩
      clear hd
      go_wp2
      go_ret
      rw [HN.out]
      exact ⟨rfl, rfl⟩
def stN (l : List UInt8) : Nat := if Lib.hasPrefix l [45] then 1 else 0
def ptN (l : List UInt8) : Nat := skp l (stN l)
def dotN (l : List UInt8) : Bool := decide (stN l < ptN l) && (l[ptN l]? == some 46)
def enN (l : List UInt8) : Nat := if dotN l then skp l (ptN l + 1) else ptN l
theorem hasPrefix_len {l : List UInt8} (h : Lib.hasPrefix l [45] = true) : 1 ≤ l.length := by
  cases l with
  | nil => simp [Lib.hasPrefix] at h
  | cons a t => simp
theorem stN_le (l : List UInt8) : stN l ≤ l.length := by
  unfold stN
  split
  · rename_i h; exact hasPrefix_len h
  · omega
theorem ptN_le (l : List UInt8) : ptN l ≤ l.length := skp_le _ _ (stN_le l)
theorem ptN_ge (l : List UInt8) : stN l ≤ ptN l := skp_ge _ _
theorem dotN_lt {l : List UInt8} (h : dotN l = true) : ptN l + 1 ≤ l.length := by
  unfold dotN at h
  rw [Bool.and_eq_true] at h
  have h2 := h.2
  rcases Nat.lt_or_ge (ptN l) l.length with g | g
  · exact g
  · rw [List.getElem?_eq_none g] at h2; simp at h2
theorem enN_ge (l : List UInt8) : ptN l ≤ enN l := by
  unfold enN
  split
  · have := skp_ge l (ptN l + 1); omega
  · exact Nat.le_refl _
theorem enN_le (l : List UInt8) : enN l ≤ l.length := by
  unfold enN
  split
  · rename_i h; exact skp_le _ _ (dotN_lt h)
  · exact ptN_le _
def badN (l : List UInt8) : Bool := decide (ptN l = stN l) || (decide (enN l = ptN l + 1) || decide (enN l < l.length))
def intL (l : List UInt8) : List UInt8 := (l.drop (stN l)).take (ptN l - stN l)
def intN (l : List UInt8) : Nat := decN (intL l) 0
def frL (l : List UInt8) : List UInt8 := (l.drop (min (ptN l + 1) (enN l))).take (enN l - min (ptN l + 1) (enN l))
def frN (l : List UInt8) : List Int := (frL l).map fun b => (b.toNat : Int) - 48
def loN (l : List UInt8) : Int := intN l * 65536 + (sf 16 (frN l) 0).2
def hiN (l : List UInt8) : Int := if (sf 16 (frN l) 0).1.any (· != 0) then loN l + 1 else loN l
def parseL (l : List UInt8) : Int × Int × Int × Int :=
  if badN l then (0, 0, (enN l : Nat), 10)
  else if 32768 ≤ intN l ∨ 2147483648 ≤ hiN l then (0, 0, 0, 2)
  else if stN l = 1 then (-hiN l, -loN l, 0, 0) else (loN l, hiN l, 0, 0)
def tup4 (r : Int × Int × Int × Int) : Value := .tuple #[.int .i64 r.1, .int .i64 r.2.1, .int .i64 r.2.2.1, .int .i64 r.2.2.2]
theorem results_tmp4 {fn : Func} {t u v x : Tmp} (h : fn.results = #[.tmp t, .tmp u, .tmp v, .tmp x]) (tmps : Array Value) (P : Program) (w : World) :
    (results fn tmps).run P w = .ok (.tuple #[tmps.getD t undef, tmps.getD u undef, tmps.getD v undef, tmps.getD x undef]) w := by
  simp [results, h]
theorem ParseInt_ok (s : ByteArray) (hs : s.size ≤ 140737488351232) (v : Int) (h : Lib.parseIntB 64 s.data.toList = .ok v) (w : World) :
    Calls Tryz.prog 196 #[.string s, .int .i64 10, .int .i64 64] w fun e w' => e = .returned (.tuple #[.int .i64 v, .nilIface]) ∧ Below w.heap.size w w' := by
  refine (Tryz.strconv_ParseInt_10_at64_ok s (by omega) v h w).mono ?_
  rintro e w' ⟨rfl, h | ⟨t, h⟩⟩
  · subst h; exact ⟨rfl, Below.refl _ _⟩
  · subst h; exact ⟨rfl, bytesWorld_below _ _ _⟩
theorem ParseInt_range (s : ByteArray) (hs : s.size ≤ 140737488351232) (h : Lib.parseIntB 64 s.data.toList = .range) (w : World) (ht : Tabs w) :
    Calls Tryz.prog 196 #[.string s, .int .i64 10, .int .i64 64] w fun e w' => ∃ (v : Int) (N : Nat), e = .returned (.tuple #[.int .i64 v, .iface 226 (.pointer (some ⟨N, 0, none⟩))]) ∧ Below w.heap.size w w' := by
  obtain ⟨tp, p, hr⟩ := ht.rng
  refine (Tryz.strconv_ParseInt_10_at64_range_var s (by omega) h tp p w hr).mono ?_
  rintro e w' ⟨N, rfl, _, _, hb⟩
  exact ⟨_, N, rfl, hb⟩
theorem sf_bound (k : Nat) : ∀ (ds : List Int) (out : Int), Digs ds → 0 ≤ out → 0 ≤ (sf k ds out).2 ∧ (sf k ds out).2 + 1 ≤ (out + 1) * 2 ^ k := by
  induction k with
  | zero => intro ds out _ h; simp only [sf, Int.pow_zero]; omega
  | succ k ih =>
    intro ds out hd h
    obtain ⟨h1, h2, h3⟩ := dbl_ok hd
    obtain ⟨i1, i2⟩ := ih (dbl ds).1 (2 * out + (dbl ds).2) h1 (by omega)
    simp only [sf]
    refine ⟨i1, Int.le_trans i2 ?_⟩
    have e : (out + 1) * 2 ^ (k + 1) = (2 * out + 2) * 2 ^ k := by rw [Int.pow_succ, Int.mul_comm (2 ^ k) 2, ← Int.mul_assoc]; congr 1; omega
    rw [e]
    exact Int.mul_le_mul_of_nonneg_right (by omega) (Int.le_of_lt (Int.pow_pos (by omega)))
theorem dig_digs {l : List UInt8} (h : ∀ c ∈ l, dig c = true) : Digs (l.map fun b => (b.toNat : Int) - 48) := by
  intro d hd
  obtain ⟨c, hc, rfl⟩ := List.mem_map.1 hd
  have := h c hc
  simp only [dig, Bool.and_eq_true, decide_eq_true_eq] at this
  omega
theorem mem_mid {l : List UInt8} {a b : Nat} {c : UInt8} (h : c ∈ (l.drop a).take (b - a)) : ∃ j, ∃ hj : j < l.length, a ≤ j ∧ j < b ∧ l[j] = c := by
  obtain ⟨k, hk, rfl⟩ := List.getElem_of_mem h
  have hk' := hk
  rw [List.length_take, List.length_drop] at hk'
  exact ⟨a + k, by omega, by omega, by omega, by rw [List.getElem_take, List.getElem_drop]⟩
theorem intL_dig (l : List UInt8) : ∀ c ∈ intL l, dig c = true := by
  intro c hc
  obtain ⟨j, hj, h1, h2, rfl⟩ := mem_mid hc
  exact skp_dig l (stN l) j hj h1 h2
theorem frL_dig (l : List UInt8) : ∀ c ∈ frL l, dig c = true := by
  intro c hc
  obtain ⟨j, hj, h1, h2, rfl⟩ := mem_mid hc
  cases hd : dotN l
  · have e : enN l = ptN l := by unfold enN; rw [hd]; rfl
    omega
  · have e : enN l = skp l (ptN l + 1) := by unfold enN; rw [hd]; rfl
    rw [e] at h2
    exact skp_dig l (ptN l + 1) j hj (by omega) h2
theorem Valid_yes (x : Int) (w : World) (h : -2147483648 < x) (h' : x < 2147483648) :
    Calls Tryz.prog 141 #[.int .i64 x] w fun e w' => e = .returned (.bool true) ∧ Drawn0 w w' :=
  (Valid_any x w).mono fun _ _ ⟨e, k⟩ => ⟨by rw [e]; simp [h, h'], k⟩
theorem Valid_no (x : Int) (w : World) (h' : 2147483648 ≤ x) :
    Calls Tryz.prog 141 #[.int .i64 x] w fun e w' => e = .returned (.bool false) ∧ Drawn0 w w' :=
  (Valid_any x w).mono fun _ _ ⟨e, k⟩ => ⟨by rw [e]; have : ¬ x < 2147483648 := by omega
                                             simp [this], k⟩
theorem HasPrefix_any (s p : ByteArray) (w : World) :
    Calls Tryz.prog 194 #[.string s, .string p] w fun e w' => e = .returned (.bool (Lib.hasPrefix s.data.toList p.data.toList)) ∧ w = w' :=
  (Tryz.strings_HasPrefix s p w).mono fun _ _ ⟨h, k⟩ => ⟨h, k.symm⟩
set_option maxRecDepth 100000 in
set_option maxHeartbeats 1000000 in
theorem Parse_any (s : ByteArray) (w : World) (hs : s.size ≤ 140737488351232) (ht : Tabs w) :
    Calls Tryz.prog 188 #[.string s] w fun e w' => e = .returned (tup4 (parseL s.data.toList)) ∧ Below w.heap.size w w' := by
  have hst := stN_le s.data.toList
  have hpt := ptN_le s.data.toList
  have hpg := ptN_ge s.data.toList
  rw [toList_size] at hst hpt
  go_enter Tryz.func188, Tryz.ntmps188
  go_upto_if 16 with (first | (go_at_call 194; refine (HasPrefix_any s ⟨#[45]⟩ _).mono ?_; rintro e w' ⟨rfl, rfl⟩))
  go_cut [6] (fun v wc => v = .int .i64 (stN s.data.toList : Nat) ∧ w = wc)
  case first =>
    cases hp : Lib.hasPrefix s.data.toList [45]
    · have h0 : stN s.data.toList = 0 := by unfold stN; rw [hp]; rfl
      have H0 := Aside0.mk h0
      clear h0
      go_wp2
      go_meet
      case rel => exact ⟨by rw [H0.out]; rfl, rfl⟩
    · have h0 : stN s.data.toList = 1 := by unfold stN; rw [hp]; rfl
      have H0 := Aside0.mk h0
      clear h0
      go_wp2
      go_meet
      case rel => exact ⟨by rw [H0.out]; rfl, rfl⟩
  case rest =>
    obtain ⟨rfl, rfl⟩ := hcut
    obtain ⟨st, hst0⟩ : ∃ st, stN s.data.toList = st := ⟨_, rfl⟩
    obtain ⟨pt, hpt0⟩ : ∃ pt, ptN s.data.toList = pt := ⟨_, rfl⟩
    have hsk : skp s.data.toList st = pt := by rw [← hst0]; exact hpt0
    rw [hst0] at hst hpg
    rw [hpt0] at hpt hpg
    have HST := Aside0.mk hst0
    have HPT := Aside0.mk hpt0
    have HSK := Aside0.mk hsk
    rw [hst0]
    clear hst0 hpt0 hsk
    go_upto_region 6 with (first | (go_at_call 195; refine (skipDigits_any s st _ hs hst).mono ?_; rintro e w' ⟨rfl, rfl⟩; rw [HSK.out]))
    go_cut [35] (fun v wc => v = .bool (dotN s.data.toList) ∧ w = wc)
    case first =>
      by_cases h1 : st < pt
      · by_cases h2 : pt < s.size
        · have hget : s.data.toList[pt]? = some s[pt] := by
            rw [List.getElem?_eq_getElem (by rw [toList_size]; exact h2)]; rfl
          have hd : dotN s.data.toList = ((s[pt].toNat : Int) == 46) := by
            unfold dotN
            rw [HST.out, HPT.out, hget]
            simp only [h1, decide_true, Bool.true_and]
            rw [Bool.eq_iff_iff]
            simp only [beq_iff_eq, Option.some.injEq]
            constructor
            · intro e; rw [e]; rfl
            · intro e; exact UInt8.toNat_inj.1 (by have e46 : (46 : UInt8).toNat = 46 := rfl; omega)
          have HD := Aside0.mk hd
          clear hd hget
          go_wp2
          go_meet
          case rel => exact ⟨by rw [HD.out], rfl⟩
        · have hd : dotN s.data.toList = false := by
            unfold dotN
            rw [HPT.out, List.getElem?_eq_none (by rw [toList_size]; omega)]; simp
          have HD := Aside0.mk hd
          clear hd
          go_wp2
          go_meet
          case rel => exact ⟨by rw [HD.out], rfl⟩
      · have hd : dotN s.data.toList = false := by unfold dotN; rw [HST.out, HPT.out]; simp [h1]
        have HD := Aside0.mk hd
        clear hd
        go_wp2
        go_meet
        case rel => exact ⟨by rw [HD.out], rfl⟩
    case rest =>
      obtain ⟨rfl, rfl⟩ := hcut
      go_upto_if 35 with (fail)
      go_cut [8] (fun v wc => v = .int .i64 (enN s.data.toList : Nat) ∧ w = wc)
      case first =>
        cases hdot : dotN s.data.toList
        · have he : enN s.data.toList = pt := by unfold enN; rw [hdot, HPT.out]; rfl
          have HE := Aside0.mk he
          clear he hdot
          go_wp2
          go_meet
          case rel => exact ⟨by rw [HE.out], rfl⟩
        · have he : skp s.data.toList (pt + 1) = enN s.data.toList := by unfold enN; rw [hdot, HPT.out]; rfl
          have HE := Aside0.mk he
          have hps : pt + 1 ≤ s.size := by have := dotN_lt hdot; rw [HPT.out, toList_size] at this; exact this
          clear he hdot
          go_wp2_with fail
          rw [show ((pt : Int) + 1) = ((pt + 1 : Nat) : Int) from by omega]
          refine (skipDigits_any s (pt + 1) _ hs hps).mono ?_
          rintro e w' ⟨rfl, rfl⟩
          go_wp2
          go_meet
          case rel => exact ⟨by rw [HE.out], rfl⟩
      case rest =>
        obtain ⟨rfl, rfl⟩ := hcut
        have heg := enN_ge s.data.toList
        have hel := enN_le s.data.toList
        rw [toList_size] at hel
        rw [HPT.out] at heg
        obtain ⟨en, hen0⟩ : ∃ en, enN s.data.toList = en := ⟨_, rfl⟩
        rw [hen0] at heg hel ⊢
        have HEN := Aside0.mk hen0
        clear hen0
        go_upto_region 8 with (fail)
        go_cut [54] (fun v wc => v = .bool (badN s.data.toList) ∧ w = wc)
        case first =>
          have hbad : badN s.data.toList = (decide (pt = st) || (decide (en = pt + 1) || decide (en < s.size))) := by unfold badN; rw [HST.out, HPT.out, HEN.out, toList_size]
          have HB := Aside0.mk hbad
          clear hbad
          by_cases h1 : pt = st
          · have hr : badN s.data.toList = true := by rw [HB.out]; simp [h1]
            have HR := Aside0.mk hr
            subst h1
            clear hr HB
            go_wp2
            go_meet
            case rel => exact ⟨by rw [HR.out], rfl⟩
          · have b1 : ((pt : Int) == (st : Int)) = false := by simp; omega
            by_cases h2 : en = pt + 1
            · have hr : badN s.data.toList = true := by rw [HB.out]; simp [h2]
              have HR := Aside0.mk hr
              have b2 : ((en : Int) == (pt : Int) + 1) = true := by rw [beq_iff_eq]; omega
              clear hr HB h2 h1
              go_wp2
              go_meet
              case rel => exact ⟨by rw [HR.out], rfl⟩
            · have b2 : ((en : Int) == (pt : Int) + 1) = false := by rw [beq_eq_false_iff_ne]; omega
              have hr : badN s.data.toList = decide (en < s.size) := by rw [HB.out]; simp [h1, h2]
              have HR := Aside0.mk hr
              clear hr HB h2 h1
              go_wp2
              go_meet
              case rel => exact ⟨by rw [HR.out]; try simp, rfl⟩
        case rest =>
          obtain ⟨rfl, rfl⟩ := hcut
          cases hbad : badN s.data.toList
          case true =>
            have hres : tup4 (parseL s.data.toList) = .tuple #[.int .i64 0, .int .i64 0, .int .i64 en, .int .i64 10] := by unfold parseL; rw [hbad, HEN.out]; rfl
            have HRES := Aside0.mk hres
            clear hres hbad
            go_wp2
            try simp only [Exit.inBlock, Exit.then]
            refine bodyPost_ret (results_tmp4 rfl _ _ _) rfl ?_
            rw [HRES.out]
            exact ⟨rfl, Below.refl _ _⟩
          case false =>
            have hne : st < pt ∧ en = s.size := by
              unfold badN at hbad
              rw [HST.out, HPT.out, HEN.out, toList_size] at hbad
              simp only [Bool.or_eq_false_iff, decide_eq_false_iff_not] at hbad
              omega
            obtain ⟨hne, hens⟩ := hne
            have hres0 : parseL s.data.toList = if 32768 ≤ intN s.data.toList ∨ 2147483648 ≤ hiN s.data.toList then (0, 0, 0, 2) else if stN s.data.toList = 1 then (-hiN s.data.toList, -loN s.data.toList, 0, 0) else (loN s.data.toList, hiN s.data.toList, 0, 0) := by
              unfold parseL; rw [hbad]; rfl
            have HRES0 := Aside0.mk hres0
            have hil : (s.extract st pt).data.toList = intL s.data.toList := by rw [Lib.extract_data]; unfold intL; rw [HST.out, HPT.out]
            have hidig := intL_dig s.data.toList
            have hine : intL s.data.toList ≠ [] := by
              intro h
              have := congrArg List.length h
              unfold intL at this
              rw [HST.out, HPT.out, List.length_take, List.length_drop, toList_size] at this
              simp only [List.length_nil] at this
              omega
            have hsz : (s.extract st pt).size ≤ 140737488351232 := by rw [ByteArray.size_extract]; omega
            have HIL := Aside0.mk hil
            clear hres0 hil hbad
            obtain ⟨iN, hiN0⟩ : ∃ iN, intN s.data.toList = iN := ⟨_, rfl⟩
            have HIN := Aside0.mk hiN0
            clear hiN0
            by_cases hbig : 9223372036854775808 ≤ iN
            · have hpr : Lib.parseIntB 64 (s.extract st pt).data.toList = .range := by rw [HIL.out]; exact parseIntB_range _ hine hidig (by have := HIN.out; unfold intN at this; omega)
              have hres : tup4 (parseL s.data.toList) = .tuple #[.int .i64 0, .int .i64 0, .int .i64 0, .int .i64 2] := by rw [HRES0.out, HIN.out, if_pos (.inl (by omega))]; rfl
              have HPR := Aside0.mk hpr
              have HRES := Aside0.mk hres
              clear hpr hres hbig
              go_wp2_with (first | (go_at_call 196; refine (ParseInt_range _ hsz HPR.out _ ht).mono ?_; rintro e w1 ⟨v, N, rfl, hb1⟩))
              try simp only [Exit.inBlock, Exit.then]
              refine bodyPost_ret (results_tmp4 rfl _ _ _) rfl ?_
              rw [HRES.out]
              exact ⟨rfl, hb1⟩
            · have hpr : Lib.parseIntB 64 (s.extract st pt).data.toList = .ok (iN : Int) := by rw [HIL.out, ← HIN.out]; exact parseIntB_ok _ hine hidig (by have := HIN.out; unfold intN at this; omega)
              obtain ⟨z, hz⟩ : ∃ z : Int, (iN : Int) = z := ⟨_, rfl⟩
              rw [hz] at hpr
              have hz0 : 0 ≤ z := by omega
              have hz1 : (32768 ≤ iN) ↔ (32768 ≤ z) := by omega
              have HPR := Aside0.mk hpr
              have HZ := Aside0.mk hz
              have HZ1 := Aside0.mk hz1
              clear hpr hbig hz hz1
              by_cases hbig2 : 32768 ≤ z
              · have hres : tup4 (parseL s.data.toList) = .tuple #[.int .i64 0, .int .i64 0, .int .i64 0, .int .i64 2] := by rw [HRES0.out, HIN.out, if_pos (.inl (HZ1.out.2 hbig2))]; rfl
                have HRES := Aside0.mk hres
                clear hres
                go_wp2_with (first | (go_at_call 196; refine (ParseInt_ok _ hsz _ HPR.out _).mono ?_; rintro e w1 ⟨rfl, hb1⟩))
                try simp only [Exit.inBlock, Exit.then]
                refine bodyPost_ret (results_tmp4 rfl _ _ _) rfl ?_
                rw [HRES.out]
                exact ⟨rfl, hb1⟩
              · go_upto_region 13 with (first | (go_at_call 196; refine (ParseInt_ok _ hsz _ HPR.out _).mono ?_; rintro e w1 ⟨rfl, hb1⟩))
                clear hsz hidig
                obtain ⟨mn, hmn⟩ : ∃ mn : Nat, min ((pt : Int) + 1) (s.size : Int) = (mn : Int) := ⟨min (pt + 1) s.size, by omega⟩
                have hmn2 : mn ≤ s.size := by omega
                have hmn3 : min (ptN s.data.toList + 1) (enN s.data.toList) = mn := by rw [HPT.out, HEN.out]; omega
                have hfl : (s.extract mn s.size).data.toList = frL s.data.toList := by rw [Lib.extract_data]; unfold frL; rw [hmn3, HEN.out, hens]
                have hds : (s.extract mn s.size).data.toList.map (fun b => (b.toNat : Int) - 48) = frN s.data.toList := by rw [hfl]; rfl
                have hdg : Digs (frN s.data.toList) := dig_digs (frL_dig s.data.toList)
                have hfs : (s.extract mn s.size).size ≤ 140737488351232 := by rw [ByteArray.size_extract]; omega
                have hb := sf_bound 16 (frN s.data.toList) 0 hdg (by omega)
                obtain ⟨fr, hfr⟩ : ∃ fr, (sf 16 (frN s.data.toList) 0).2 = fr := ⟨_, rfl⟩
                obtain ⟨ix, hix⟩ : ∃ ix, (sf 16 (frN s.data.toList) 0).1.any (· != 0) = ix := ⟨_, rfl⟩
                rw [hfr] at hb
                obtain ⟨hb0, hb1⟩ := hb
                have hb2 : fr ≤ 65535 := by omega
                have hlo : loN s.data.toList = z * 65536 + fr := by unfold loN; rw [HIN.out, HZ.out, hfr]
                have hhi : hiN s.data.toList = if ix then z * 65536 + fr + 1 else z * 65536 + fr := by unfold hiN; rw [hix, hlo]
                have HDS := Aside0.mk hds
                have HFR := Aside0.mk hfr
                have HIX := Aside0.mk hix
                have HLO := Aside0.mk hlo
                have HHI := Aside0.mk hhi
                have HMN2 := Aside0.mk hmn2
                clear hmn3 hfl hds hfr hb1 hlo hix hhi
                go_wp2_with fail
                refine (parseFraction_any _ _ hfs _ HDS.out hdg).mono ?_
                rintro e w2 ⟨rfl, hb3⟩
                rw [HFR.out, HIX.out]
                clear hmn hmn2 hfs hdg
                have hz2 : z ≤ 32767 := by omega
                clear hs hst hpg hpt hel heg hne hens hine hbig2
                obtain ⟨lo, hlo1⟩ : ∃ lo, z * 65536 + fr = lo := ⟨_, rfl⟩
                have hl0 : 0 ≤ lo := by omega
                have hl1 : lo ≤ 2147483647 := by omega
                have HLO1 := Aside0.mk hlo1
                clear hlo1
                go_upto_if 86 with (fail)
                rw [HLO1.out]
                obtain ⟨h, hh⟩ : ∃ h, hiN s.data.toList = h := ⟨_, rfl⟩
                have HH := Aside0.mk hh
                clear hh
                go_cut [14] (fun v wc => v = .int .i64 h ∧ lo ≤ h ∧ h ≤ lo + 1 ∧ w2 = wc)
                case first =>
                  cases ix
                  · have e : h = lo := by rw [← HH.out, HHI.out, ← HLO1.out]; rfl
                    have E := Aside0.mk e
                    clear e
                    go_wp2
                    go_meet
                    case rel => exact ⟨by rw [E.out], by rw [E.out]; omega, by rw [E.out]; omega, rfl⟩
                  · have e : h = lo + 1 := by rw [← HH.out, HHI.out, ← HLO1.out]; rfl
                    have E := Aside0.mk e
                    clear e
                    go_wp2
                    go_meet
                    case rel => exact ⟨by rw [E.out], by rw [E.out]; omega, by rw [E.out]; omega, rfl⟩
                case rest =>
                  obtain ⟨rfl, hh0, hh1, rfl⟩ := hcut
                  have hbw : Below w.heap.size w w2 := hb1.trans (hb3.mono hb1.size)
                  by_cases hv : h < 2147483648
                  · by_cases hs1 : 0 < st
                    · have hst1 : stN s.data.toList = 1 := by rw [HST.out]; have := HST.out; unfold stN at this; split at this <;> omega
                      have hres : tup4 (parseL s.data.toList) = .tuple #[.int .i64 (-h), .int .i64 (-lo), .int .i64 0, .int .i64 0] := by
                        rw [HRES0.out, HIN.out, HH.out, HLO.out, HLO1.out, hst1, if_neg (by have := HZ.out; omega), if_pos rfl]; rfl
                      have HRES := Aside0.mk hres
                      clear hres hst1
                      go_wp2_with (go_at_call 141; refine (Valid_yes _ _ (by omega) hv).mono ?_; rintro e w3 ⟨rfl, hd3⟩)
                      try simp only [Exit.inBlock, Exit.then]
                      refine bodyPost_ret (results_tmp4 rfl _ _ _) rfl ?_
                      rw [HRES.out]
                      exact ⟨rfl, hbw.trans (hd3.below.mono hbw.size)⟩
                    · have hst1 : stN s.data.toList = 0 := by rw [HST.out]; omega
                      have hres : tup4 (parseL s.data.toList) = .tuple #[.int .i64 lo, .int .i64 h, .int .i64 0, .int .i64 0] := by
                        rw [HRES0.out, HIN.out, HH.out, HLO.out, HLO1.out, hst1, if_neg (by have := HZ.out; omega), if_neg (by omega)]; rfl
                      have HRES := Aside0.mk hres
                      clear hres hst1
                      go_wp2_with (go_at_call 141; refine (Valid_yes _ _ (by omega) hv).mono ?_; rintro e w3 ⟨rfl, hd3⟩)
                      try simp only [Exit.inBlock, Exit.then]
                      refine bodyPost_ret (results_tmp4 rfl _ _ _) rfl ?_
                      rw [HRES.out]
                      exact ⟨rfl, hbw.trans (hd3.below.mono hbw.size)⟩
                  · have hres : tup4 (parseL s.data.toList) = .tuple #[.int .i64 0, .int .i64 0, .int .i64 0, .int .i64 2] := by
                      rw [HRES0.out, HH.out, if_pos (.inr (by omega))]; rfl
                    have HRES := Aside0.mk hres
                    clear hres
                    go_wp2_with (go_at_call 141; refine (Valid_no _ _ (by omega)).mono ?_; rintro e w3 ⟨rfl, hd3⟩)
                    try simp only [Exit.inBlock, Exit.then]
                    refine bodyPost_ret (results_tmp4 rfl _ _ _) rfl ?_
                    rw [HRES.out]
                    exact ⟨rfl, hbw.trans (hd3.below.mono hbw.size)⟩
end Go.Proofs.YthcidkidpiaomaaGreatDoor.Fx
end
section
set_option linter.unusedVariables false
namespace Go.Proofs.YthcidkidpiaomaaGreatDoor.Od
def isWs (c : UInt8) : Bool := c == 32 || c == 9 || c == 13
def isLt (c : UInt8) : Bool := 97 ≤ c && c ≤ 122
def isDg (c : UInt8) : Bool := 48 ≤ c && c ≤ 57
def isLD (c : UInt8) : Bool := isLt c || isDg c
def isCh (c : UInt8) : Bool := [43, 45, 42, 47, 40, 41, 91, 93, 44, 61, 39].contains c
def skp (f : UInt8 → Bool) (L : List UInt8) (p : Nat) : Nat := p + ((L.drop p).takeWhile f).length
def sub (L : List UInt8) (a b : Nat) : List UInt8 := (L.drop a).take (b - a)
structure Tok where
  kind : Int
  lo : Nat
  hi : Nat
def numEnd (L : List UInt8) (q : Nat) : Nat :=
  let e := skp isDg L q
  if L[e]? = some 46 ∧ (L[e + 1]?).any isDg = true then skp isDg L (e + 1) else e
def tokAt (nl : Bool) (L : List UInt8) (q : Nat) : Tok :=
  match L[q]? with
  | none => ⟨0, q, q⟩
  | some c =>
    if isLt c then ⟨1, q, skp isLD L q⟩
    else if isDg c then ⟨2, q, numEnd L q⟩
    else if isCh c || (c == 10 && nl) then ⟨3, q, q + 1⟩
    else ⟨4, q, q⟩
def peekT (nl : Bool) (L : List UInt8) (p : Nat) : Tok := tokAt nl L (skp isWs L p)
structure Nd where
  op : Int
  n : Int
  lo : Int
  hi : Int
  deriving DecidableEq
inductive Tr
  | num (lo hi : Int)
  | var (n : Nat)
  | time
  | un (op : Int) (a : Tr)
  | bin (op : Int) (a b : Tr)
def flat : Tr → List Nd
  | .num lo hi => [⟨1, 0, lo, hi⟩]
  | .var n => [⟨2, n, 0, 0⟩]
  | .time => [⟨3, 0, 0, 0⟩]
  | .un op a => ⟨op, 0, 0, 0⟩ :: flat a
  | .bin op a b => ⟨op, 0, 0, 0⟩ :: (flat a ++ flat b)
structure PS where
  pos : Nat
  names : List (Nat × Nat)
  bad : Bool
inductive Res (α : Type)
  | ok (a : α) (s : PS)
  | err (code : Int) (off : Nat)
def Pr (α : Type) : Type := PS → Res α
def Pr.bind {α β : Type} (m : Pr α) (f : α → Pr β) : Pr β := fun s =>
  match m s with
  | .ok a s' => f a s'
  | .err c o => .err c o
def Pr.ret {α : Type} (a : α) : Pr α := fun s => .ok a s
def Pr.map {α β : Type} (m : Pr α) (f : α → β) : Pr β := m.bind fun a => Pr.ret (f a)
section
variable (nl : Bool) (L : List UInt8)
def Tok.txt (L : List UInt8) (t : Tok) : List UInt8 := if t.kind = 0 ∨ t.kind = 4 then [] else sub L t.lo t.hi
def errAt (p : Nat) : Int × Nat := let t := peekT nl L p; (if t.kind = 0 then 71 else 70, t.lo)
def fail {α : Type} : Pr α := fun s => .err (errAt nl L s.pos).1 (errAt nl L s.pos).2
def isTok (text : List UInt8) (p : Nat) : Bool := let t := peekT nl L p; (t.kind == 3 || t.kind == 1) && t.txt L == text
def accept (text : List UInt8) : Pr Bool := fun s =>
  if isTok nl L text s.pos then .ok true { s with pos := (peekT nl L s.pos).lo + text.length }
  else .ok false { s with pos := (peekT nl L s.pos).lo }
def expect (text : List UInt8) : Pr Unit := (accept nl L text).bind fun b => if b then Pr.ret () else fail nl L
def number : Pr (Int × Int) := fun s =>
  let t := peekT nl L s.pos
  if t.kind = 2 then
    let r := Fx.parseL (sub L t.lo t.hi)
    .ok (r.1, r.2.1) ⟨t.hi, s.names, s.bad || decide (r.2.2.2 ≠ 0)⟩
  else fail nl L { s with pos := t.lo }
def signed : Pr (Int × Int) := (accept nl L [45]).bind fun b => if b then (number nl L).map fun r => (-r.2, -r.1) else number nl L
def maxV : Int := 2147483648
def paren (sum : Pr Tr) : Pr Tr := (expect nl L [40]).bind fun _ => sum.bind fun e => (expect nl L [41]).bind fun _ => Pr.ret e
def bounds : Pr Tr := (signed nl L).bind fun a => (expect nl L [44]).bind fun _ => (signed nl L).bind fun b => (expect nl L [93]).bind fun _ => Pr.ret (Tr.num a.1 b.2)
def wAll : List UInt8 := [97, 108, 108]
def wT : List UInt8 := [116]
def wSqr : List UInt8 := [115, 113, 114]
def wSqrt : List UInt8 := [115, 113, 114, 116]
def atom (sum : Pr Tr) : Pr Tr := fun s =>
  let t := peekT nl L s.pos
  let s1 : PS := { s with pos := t.lo }
  if t.kind = 2 then (number nl L).map (fun r => Tr.num r.1 r.2) s1
  else if isTok nl L [91] s.pos then bounds nl L { s with pos := t.lo + 1 }
  else if isTok nl L wAll s.pos then .ok (Tr.num (-maxV) maxV) { s with pos := t.lo + 3 }
  else if isTok nl L wT s.pos then .ok Tr.time { s with pos := t.lo + 1 }
  else if isTok nl L wSqr s.pos then (paren nl L sum).map (Tr.un 5) { s with pos := t.lo + 3 }
  else if isTok nl L wSqrt s.pos then (paren nl L sum).map (Tr.un 6) { s with pos := t.lo + 4 }
  else if t.kind = 1 then .ok (Tr.var s.names.length) ⟨t.hi, s.names ++ [(t.lo, t.hi)], s.bad⟩
  else if isTok nl L [40] s.pos then paren nl L sum s1
  else fail nl L s1
def factor (sum : Pr Tr) : Nat → Pr Tr
  | 0 => fail nl L
  | k + 1 => (accept nl L [45]).bind fun b => if b then (factor sum k).map (Tr.un 4) else atom nl L sum
def chain (operand : Pr Tr) (c d : List UInt8) (f g : Int) : Nat → Tr → Pr Tr
  | 0, _ => fail nl L
  | k + 1, e => (accept nl L c).bind fun b => if b then operand.bind fun r => chain operand c d f g k (Tr.bin f e r)
      else (accept nl L d).bind fun b => if b then operand.bind fun r => chain operand c d f g k (Tr.bin g e r) else Pr.ret e
def product (sum : Pr Tr) (k : Nat) : Pr Tr := (factor nl L sum k).bind fun e => chain nl L (factor nl L sum k) [42] [47] 9 10 k e
def sum : Nat → Pr Tr
  | 0 => fail nl L
  | n + 1 => (product nl L (sum n) (L.length + 1)).bind fun e => chain nl L (product nl L (sum n) (L.length + 1)) [43] [45] 7 8 (L.length + 1) e
end
def idxOf (vars : List (List UInt8)) (x : List UInt8) : Option Nat := vars.findIdx? (· == x)
def resolve (L : List UInt8) (names : List (Nat × Nat)) (vars : List (List UInt8)) : List Nd → List Nd × Option Nat
  | [] => ([], none)
  | x :: r =>
    if x.op = 2 then
      let nm := names.getD x.n.toNat (0, 0)
      match idxOf vars (sub L nm.1 nm.2) with
      | none => (x :: r, some nm.1)
      | some k => let q := resolve L names vars r; ({ x with n := k } :: q.1, q.2)
    else let q := resolve L names vars r; (x :: q.1, q.2)
def arity (op : Int) : Int := if 1 ≤ op ∧ op ≤ 3 then 0 else if 4 ≤ op ∧ op ≤ 6 then 1 else if 7 ≤ op ∧ op ≤ 10 then 2 else -1
def okIv (lo hi : Int) : Bool := (lo == -maxV && hi == maxV) || (decide (-maxV < lo) && decide (lo < maxV) && decide (-maxV < hi) && decide (hi < maxV) && decide (lo ≤ hi))
def okNd (n : Int) (x : Nd) : Bool :=
  if x.op = 1 then x.n == 0 && okIv x.lo x.hi
  else if x.op = 2 then decide (0 ≤ x.n) && decide (x.n < n) && x.lo == 0 && x.hi == 0
  else decide (0 ≤ arity x.op) && x.n == 0 && x.lo == 0 && x.hi == 0
def exLen : Int → List Nd → Nat
  | _, [] => 1
  | m, x :: r => if m + arity x.op - 1 = 0 then 1 else exLen (m + arity x.op - 1) r + 1
def okEx (n : Int) (e : List Nd) : Bool := decide (0 < e.length) && decide (e.length ≤ 200) && e.all (okNd n) && exLen 1 e == e.length
def keyword (x : List UInt8) : Bool := x == wT || x == wSqr || x == wSqrt || x == wAll
def okName (x : List UInt8) : Bool := decide (0 < x.length) && decide (x.length ≤ 12) && (x.head?).any isLt && !keyword x && x.all isLD
inductive Ans (α : Type)
  | ok (a : α)
  | err (off : Nat) (code : Int)
def parseExpr (L : List UInt8) (vars : List (List UInt8)) : Ans (List Nd) :=
  if 8000 < L.length then .err 0 2
  else match sum false L (L.length + 1) ⟨0, [], false⟩ with
    | .err c o => .err o c
    | .ok e s =>
      if (peekT false L s.pos).kind ≠ 0 then .err (errAt false L s.pos).2 (errAt false L s.pos).1
      else match resolve L s.names vars (flat e) with
        | (_, some o) => .err o 72
        | (e', none) => if s.bad || !okEx vars.length e' then .err 0 2 else .ok e'
section
variable (L : List UInt8)
def skipNl : Nat → Bool → Pr Bool
  | 0, b => Pr.ret b
  | k + 1, b => (accept true L [10]).bind fun a => if a then skipNl k true else Pr.ret b
def lineStart : Pr Tok := fun s =>
  let t := peekT true L s.pos
  if t.kind ≠ 1 ∨ keyword (sub L t.lo t.hi) = true then fail true L { s with pos := t.lo }
  else ((expect true L [39]).bind fun _ => (expect true L [61]).bind fun _ => Pr.ret t) { s with pos := t.hi }
def lines : Nat → List Tok → List Tr → Pr (List Tok × List Tr)
  | 0, _, _ => fail true L
  | k + 1, ns, es => (lineStart L).bind fun t => (sum true L (L.length + 1)).bind fun e => (skipNl L (L.length + 1) false).bind fun sep => fun s =>
      let p := peekT true L s.pos
      if p.kind = 0 then .ok (ns ++ [t], es ++ [e]) { s with pos := p.lo }
      else if sep then lines k (ns ++ [t]) (es ++ [e]) { s with pos := p.lo }
      else fail true L { s with pos := p.lo }
def allLines : Pr (List Tok × List Tr) := (skipNl L (L.length + 1) false).bind fun _ => lines L (L.length + 1) [] []
def resAll (pn : List (Nat × Nat)) (vars : List (List UInt8)) : List Tok → List Tr → List (List UInt8) → Ans (List (List Nd))
  | t :: ts, e :: es, seen =>
    let x := sub L t.lo t.hi
    if seen.contains x then .err t.lo 72
    else match resolve L pn vars (flat e) with
      | (_, some o) => .err o 72
      | (e', none) => match resAll pn vars ts es (seen ++ [x]) with
        | .ok r => .ok (e' :: r)
        | .err o c => .err o c
  | _, _, _ => .ok []
end
def okNames : List (List UInt8) → List (List UInt8) → Bool
  | [], _ => true
  | x :: r, seen => okName x && !seen.contains x && okNames r (seen ++ [x])
def okSys (names : List (List UInt8)) (fs : List (List Nd)) : Bool :=
  decide (1 ≤ names.length) && decide (names.length ≤ 6) && decide (fs.length = names.length) && okNames names [] && fs.all (okEx names.length)
def parseSys (L : List UInt8) : Ans (List (List UInt8) × List (List Nd)) :=
  if 8000 < L.length then .err 0 2
  else match allLines L ⟨0, [], false⟩ with
    | .err c o => .err o c
    | .ok r s =>
      let names := r.1.map fun t => sub L t.lo t.hi
      match resAll L s.names names r.1 r.2 [] with
      | .err o c => .err o c
      | .ok fs => if !s.bad && okSys names fs then .ok (names, fs) else .err 0 2
def fmtIv (lo hi : Int) : List UInt8 :=
  if lo = -maxV ∧ hi = maxV then wAll else if lo = hi ∧ 0 ≤ lo then Fx.fmtL lo else [91] ++ Fx.fmtL lo ++ [44, 32] ++ Fx.fmtL hi ++ [93]
def opCh (op : Int) : UInt8 := if op = 7 then 43 else if op = 8 then 45 else if op = 9 then 42 else 47
def fmtT (vars : List (List UInt8)) : Tr → List UInt8
  | .num lo hi => fmtIv lo hi
  | .var n => vars.getD n []
  | .time => wT
  | .un op a => (if op = 4 then [40, 45] else if op = 5 then wSqr ++ [40] else wSqrt ++ [40]) ++ fmtT vars a ++ [41]
  | .bin op a b => [40] ++ fmtT vars a ++ [32, opCh op, 32] ++ fmtT vars b ++ [41]
def fmtS (names : List (List UInt8)) (vars : List (List UInt8)) : List Tr → List UInt8
  | [] => []
  | t :: ts => match names with
    | [] => []
    | x :: xs => x ++ [39, 32, 61, 32] ++ fmtT vars t ++ [10] ++ fmtS xs vars ts
end Go.Proofs.YthcidkidpiaomaaGreatDoor.Od
end
section
set_option linter.unusedVariables false
namespace Go.Proofs.YthcidkidpiaomaaGreatDoor.Od
open Go.RowKit
structure Aside (p : Prop) : Prop where
  out : p
def isPT (PT TT : TypeId) : Obj → Bool
  | .cells _ T _ => T == PT || T == TT
  | _ => false
structure Fr (PT TT : TypeId) (B : Nat → Prop) (w w' : World) : Prop where
  os : w'.os = w.os
  tape : w'.tape = w.tape
  output : w'.output = w.output
  size : w.heap.size ≤ w'.heap.size
  block : ∀ k o, w.heap[k]? = some o → (B k ∨ isPT PT TT o = false) → w'.heap[k]? = some o
theorem heap_lt {w : World} {g : Nat} {o : Obj} (h : w.heap[g]? = some o) : g < w.heap.size := by
  rcases Nat.lt_or_ge g w.heap.size with h' | h'
  · exact h'
  · rw [Array.getElem?_eq_none h'] at h; exact absurd h (by simp)
section
variable {PT TT : TypeId} {B : Nat → Prop} {w w1 w2 : World}
theorem Fr.refl (w : World) : Fr PT TT B w w := ⟨rfl, rfl, rfl, Nat.le_refl _, fun _ _ h _ => h⟩
theorem Fr.trans (h : Fr PT TT B w w1) (k : Fr PT TT B w1 w2) : Fr PT TT B w w2 :=
  ⟨k.os.trans h.os, k.tape.trans h.tape, k.output.trans h.output, Nat.le_trans h.size k.size, fun i o ho hi => k.block i o (h.block i o ho hi) hi⟩
theorem Fr.of (h : Below w.heap.size w w1) : Fr PT TT B w w1 := ⟨h.os, h.tape, h.output, h.size, fun k o ho _ => by rw [h.block k (heap_lt ho)]; exact ho⟩
theorem Fr.less {B' : Nat → Prop} (h : Fr PT TT B w w1) (hB : ∀ k, B' k → B k) : Fr PT TT B' w w1 := ⟨h.os, h.tape, h.output, h.size, fun k o ho hk => h.block k o ho (hk.imp (hB k) id)⟩
theorem Fr.below {n : Nat} (h : Fr PT TT B w w1) (hn : n ≤ w.heap.size) (hB : ∀ k, k < n → B k) : Below n w w1 := ⟨h.os, h.tape, h.output, h.size, fun k hk => by
  have hlt : k < w.heap.size := Nat.lt_of_lt_of_le hk hn
  rw [Array.getElem?_eq_getElem hlt]
  exact h.block k _ (Array.getElem?_eq_getElem hlt) (Or.inl (hB k hk))⟩
theorem Fr.set {g i : Nat} {cs : Array Value} {m : Nat × Nat} (hg : w.heap[g]? = some (.cells cs PT m)) (hB : ¬ B g) (u : Value) : Fr PT TT B w (w.setCell ⟨g, i, none⟩ u) :=
  ⟨rfl, rfl, rfl, by simp [World.setCell], fun k o ho hk => by
    by_cases e : k = g
    · subst e
      rw [hg] at ho; cases ho
      rcases hk with hk | hk
      · exact absurd hk hB
      · simp [isPT] at hk
    · rw [Below.heap_setCell _ _ _ _ e]; exact ho⟩
theorem Fr.grown {row : Option Nat} (h : w.grownBy w1 row) (hr : ∀ k, row = some k → ¬ B k ∧ ∃ cs m, w.heap[k]? = some (.cells cs TT m)) : Fr PT TT B w w1 :=
  ⟨h.os, h.tape, h.output, h.size, fun k o ho hk => by
    by_cases e : row = some k
    · obtain ⟨hb, cs, m, hc⟩ := hr k e
      rw [hc] at ho; cases ho
      rcases hk with hk | hk
      · exact absurd hk hb
      · simp [isPT] at hk
    · rw [h.block k (heap_lt ho) (fun e' => e e'.symm)]; exact ho⟩
theorem Fr.drew (h : Fr PT TT B w w1) : Fr PT TT B w w1.drew := ⟨h.os, h.tape, h.output, h.size, h.block⟩
theorem Fr.cell {g : Nat} {cs : Array Value} {T : TypeId} {m : Nat × Nat} (h : Fr PT TT B w w1) (hg : w.heap[g]? = some (.cells cs T m)) (hT : (T == PT || T == TT) = false) : w1.heap[g]? = some (.cells cs T m) := h.block g _ hg (Or.inr hT)
end
def nd4 (x : Nd) : List Value := [.int .i64 x.op, .int .i64 x.n, .int .i64 x.lo, .int .i64 x.hi]
def nds (e : List Nd) : List Value := e.flatMap nd4
theorem nds_len (e : List Nd) : (nds e).length = e.length * 4 := by
  induction e with
  | nil => rfl
  | cons x r ih => simp only [nds, List.flatMap_cons, List.length_append] at *; rw [ih]; simp [nd4]; omega
theorem nds_app (a b : List Nd) : nds (a ++ b) = nds a ++ nds b := by simp [nds]
structure Rd (w : World) (v : Value) (e : List Nd) : Prop where
  out : ∃ ao cap, v = .slice ao e.length cap ∧ (ao = none → e.length = 0 ∧ cap = 0) ∧ e.length ≤ cap ∧ cap ≤ maxLen ∧ ∀ b, ao = some b → ∀ j u, (nds e)[j]? = some u → w.cell? (b.add j) = some u
def OwnN (B : Nat) (w : World) (v : Value) (e : List Nd) : Prop := w.ownsRow B 79 4 v e.length (nds e)
theorem OwnN.rd {B : Nat} {w : World} {v : Value} {e : List Nd} (h : OwnN B w v e) : Rd w v e := by
  have h' := h
  obtain ⟨h1, h2⟩ := h
  rcases h2 with ⟨rfl, hn⟩ | ⟨g, cap, cur, rfl, hg, hh, hcap, hm, hs, ht⟩
  · exact ⟨none, 0, by rw [hn], fun _ => ⟨hn, rfl⟩, by omega, by simp, by simp⟩
  · refine ⟨some ⟨g, 0, none⟩, cap, rfl, by simp, hcap, hm, fun b hb j u hu => ?_⟩
    obtain rfl := Option.some.inj hb
    exact World.ownsRow.cells h' rfl j u hu
theorem Rd.below {w w' : World} {v : Value} {e : List Nd} (h : Rd w v e) (hb : Below w.heap.size w w') : Rd w' v e := by
  obtain ⟨ao, cap, hv, h0, h1, h2, hc⟩ := h.out
  refine ⟨ao, cap, hv, h0, h1, h2, fun b hb' j u hu => ?_⟩
  have h3 := hc b hb' j u hu
  rw [hb.cell (World.block_lt_of_cell? w _ h3)]; exact h3
theorem OwnN.fr {PT TT : TypeId} {B : Nat → Prop} {B' : Nat} {w w1 : World} {v : Value} {e : List Nd} (h : OwnN B' w v e) (hf : Fr PT TT B w w1) (hT : ((79 : Nat) == PT || (79 : Nat) == TT) = false) : OwnN B' w1 v e := by
  obtain ⟨h1, h2⟩ := h
  refine ⟨h1, ?_⟩
  rcases h2 with h2 | ⟨g, cap, cur, hv, hg, hh, r⟩
  · exact Or.inl h2
  · exact Or.inr ⟨g, cap, cur, hv, hg, hf.cell hh hT, r⟩
theorem OwnN.mono {B B' : Nat} {w : World} {v : Value} {e : List Nd} (h : OwnN B' w v e) (hb : B ≤ B') : OwnN B w v e := by
  obtain ⟨h1, h2⟩ := h
  refine ⟨h1, ?_⟩
  rcases h2 with h2 | ⟨g, cap, cur, hv, hg, r⟩
  · exact Or.inl h2
  · exact Or.inr ⟨g, cap, cur, hv, by omega, r⟩
def tokS (s : ByteArray) (n : Nat × Nat) : List Value := [.int .i64 1, .string (s.extract n.1 n.2), .int .i64 (n.1 : Nat)]
def toks (s : ByteArray) (ns : List (Nat × Nat)) : List Value := ns.flatMap (tokS s)
def OwnT (B : Nat → Prop) (w : World) (v : Value) (n : Nat) (xs : List Value) : Prop := w.ownsRow 0 108 3 v n xs ∧ ∀ k, v.ownBlock = some k → ¬ B k
structure Par (w : World) (g : Nat) (B : Nat → Prop) (s : ByteArray) (nl : Bool) (σ : PS) : Prop where
  here : ∃ v, w.heap[g]? = some (.cells #[.string s, .int .i64 (σ.pos : Nat), .bool nl, v, .bool σ.bad] 104 (0, 0)) ∧ OwnT B w v σ.names.length (toks s σ.names)
  le : σ.pos ≤ s.size
  base : ¬ B g
  len : s.size ≤ 8000
  few : σ.names.length ≤ σ.pos
  bnd : ∀ k, B k → k < w.heap.size
abbrev FrP := Fr 104 108
abbrev FrQ := Fr 104 104
theorem Fr.wide {PT TT : TypeId} {B : Nat → Prop} {w w' : World} (h : Fr PT PT B w w') : Fr PT TT B w w' :=
  ⟨h.os, h.tape, h.output, h.size, fun k o ho hk => h.block k o ho (by
    rcases hk with hk | hk
    · exact Or.inl hk
    · refine Or.inr ?_
      cases o <;> simp_all [isPT])⟩
theorem Fr.setNew {PT TT : TypeId} {B : Nat → Prop} {g i : Nat} {w w1 : World} (h : Fr PT TT B w w1) (hg : w.heap.size ≤ g) (u : Value) : Fr PT TT B w (w1.setCell ⟨g, i, none⟩ u) :=
  ⟨h.os, h.tape, h.output, by simpa [World.setCell] using h.size, fun k o ho hk => by
    have hlt := heap_lt ho
    rw [Below.heap_setCell _ _ _ _ (by show k ≠ g; omega)]
    exact h.block k o ho hk⟩
theorem row_cell {w : World} {g i : Nat} {cs : Array Value} {T : TypeId} {m : Nat × Nat} (h : w.heap[g]? = some (.cells cs T m)) (x : Value) : (w.setCell ⟨g, i, none⟩ x).heap[g]? = some (.cells (cs.setIfInBounds i x) T m) := by
  rw [setCell_eq_setRow w g i _ _ _ _ h]; exact setRow_heap w g _ _ _ _ h
theorem owns_set {w : World} {B g i : Nat} {cs : Array Value} {T T' : TypeId} {m : Nat × Nat} {sz n : Nat} {v x : Value} {xs : List Value} (h : w.ownsRow B T sz v n xs) (hg : w.heap[g]? = some (.cells cs T' m)) (hT : T ≠ T') : (w.setCell ⟨g, i, none⟩ x).ownsRow B T sz v n xs := by
  obtain ⟨h1, h2⟩ := h
  refine ⟨h1, ?_⟩
  rcases h2 with h2 | ⟨g', cap, cur, hv, hg', hh, r⟩
  · exact Or.inl h2
  · refine Or.inr ⟨g', cap, cur, hv, hg', ?_, r⟩
    have hne : g' ≠ g := by
      rintro rfl
      rw [hg] at hh
      cases hh
      exact hT rfl
    rw [Below.heap_setCell _ _ _ _ hne]; exact hh
theorem owns_below {w w' : World} {B : Nat} {T : TypeId} {sz n : Nat} {v : Value} {xs : List Value} (h : w.ownsRow B T sz v n xs) (hb : Below w.heap.size w w') : w'.ownsRow B T sz v n xs := by
  obtain ⟨h1, h2⟩ := h
  refine ⟨h1, ?_⟩
  rcases h2 with h2 | ⟨g', cap, cur, hv, hg', hh, r⟩
  · exact Or.inl h2
  · exact Or.inr ⟨g', cap, cur, hv, hg', by rw [hb.block g' (heap_lt hh)]; exact hh, r⟩
theorem Par.below {w w' : World} {g : Nat} {B : Nat → Prop} {s : ByteArray} {nl : Bool} {σ : PS} (h : Par w g B s nl σ) (hb : Below w.heap.size w w') : Par w' g B s nl σ := by
  obtain ⟨v, hh, ho⟩ := h.here
  exact ⟨⟨v, by rw [hb.block g (heap_lt hh)]; exact hh, ⟨owns_below ho.1 hb, ho.2⟩⟩, h.le, h.base, h.len, h.few, fun k hk => Nat.lt_of_lt_of_le (h.bnd k hk) hb.size⟩
theorem Par.set {w : World} {g : Nat} {B : Nat → Prop} {s : ByteArray} {nl : Bool} {σ : PS} (h : Par w g B s nl σ) (q : Nat) (hq : q ≤ s.size) (hge : σ.pos ≤ q) : Par (w.setCell ⟨g, 1, none⟩ (.int .i64 (q : Nat))) g B s nl { σ with pos := q } := by
  obtain ⟨v, hh, ho⟩ := h.here
  exact ⟨⟨v, row_cell hh _, ⟨owns_set ho.1 hh (by decide), ho.2⟩⟩, hq, h.base, h.len, Nat.le_trans h.few hge, fun k hk => by simpa [World.setCell] using h.bnd k hk⟩
theorem Par.fr {w : World} {g : Nat} {B : Nat → Prop} {s : ByteArray} {nl : Bool} {σ : PS} (h : Par w g B s nl σ) (i : Nat) (u : Value) : FrP B w (w.setCell ⟨g, i, none⟩ u) := by
  obtain ⟨v, hh, ho⟩ := h.here
  exact Fr.set (i := i) hh h.base u
theorem Par.frQ {w : World} {g : Nat} {B : Nat → Prop} {s : ByteArray} {nl : Bool} {σ : PS} (h : Par w g B s nl σ) (i : Nat) (u : Value) : FrQ B w (w.setCell ⟨g, i, none⟩ u) := by
  obtain ⟨v, hh, ho⟩ := h.here
  exact Fr.set (i := i) hh h.base u
def pan (o : Nat) (c : Int) : List PanicEntry := [{ v := .iface 148 (.agg #[.int .i64 (o : Nat), .int .i64 c]), recovered := false }]
def Got {α : Type} (w : World) (g : Nat) (B : Nat → Prop) (s : ByteArray) (nl : Bool) (r : Res α) (val : α → Value → World → Prop) (e : Ending) (w' : World) : Prop :=
  FrP B w w' ∧ match r with
    | .ok a σ => (∃ u, e = .returned u ∧ val a u w') ∧ Par w' g B s nl σ
    | .err c o => e = .panicked (pan o c)
def GotQ {α : Type} (w : World) (g : Nat) (B : Nat → Prop) (s : ByteArray) (nl : Bool) (r : Res α) (val : α → Value → World → Prop) (e : Ending) (w' : World) : Prop :=
  FrQ B w w' ∧ match r with
    | .ok a σ => (∃ u, e = .returned u ∧ val a u w') ∧ Par w' g B s nl σ
    | .err c o => e = .panicked (pan o c)
def Same3 (g : Nat) (w w' : World) : Prop := w'.cell? ⟨g, 3, none⟩ = w.cell? ⟨g, 3, none⟩
theorem GotQ.got {α : Type} {w : World} {g : Nat} {B : Nat → Prop} {s : ByteArray} {nl : Bool} {r : Res α} {val : α → Value → World → Prop} {e : Ending} {w' : World} (h : GotQ w g B s nl r val e w') : Got w g B s nl r val e w' := ⟨h.1.wide, h.2⟩
end Go.Proofs.YthcidkidpiaomaaGreatDoor.Od
end
