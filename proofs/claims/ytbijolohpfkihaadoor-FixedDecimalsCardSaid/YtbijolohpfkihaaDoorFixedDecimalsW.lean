/- FixedDecimals: the walk. -/
import Derived.Test.YtbijolohpfkihaaDoorFxG
import Derived.Test.YtbijolohpfkihaaDoorFxU
import Derived.Test.YtbijolohpfkihaaDoorFxL
set_option linter.unusedVariables false
namespace Go.Proofs.YtbijolohpfkihaaDoor.Fx
open Go.RowKit Go.Proofs.YtbijolohpfkihaaDoorW.PrintWords

theorem decN_shift (l : List UInt8) : ∀ acc, decN l acc = acc * 10 ^ l.length + decN l 0 := by
  induction l with
  | nil => intro acc; simp [decN]
  | cons c r ih =>
    intro acc
    simp only [decN, List.length_cons, Nat.pow_succ]
    rw [ih (acc * 10 + (c.toNat - 48)), ih (0 * 10 + (c.toNat - 48)), Nat.add_mul, Nat.add_mul, Nat.zero_mul, Nat.mul_assoc acc 10, Nat.mul_comm 10]
    omega
theorem decN_lt {l : List UInt8} (h : ∀ c ∈ l, dig c = true) : decN l 0 < 10 ^ l.length := by
  induction l with
  | nil => simp [decN]
  | cons c r ih =>
    have hc := h c (List.mem_cons_self ..)
    simp only [dig, Bool.and_eq_true, decide_eq_true_eq] at hc
    have hr := ih (fun x hx => h x (List.mem_cons_of_mem _ hx))
    simp only [decN, List.length_cons, Nat.pow_succ]
    rw [decN_shift, Nat.zero_mul, Nat.zero_add]
    have : (c.toNat - 48) * 10 ^ r.length ≤ 9 * 10 ^ r.length := Nat.mul_le_mul_right _ (by omega)
    omega
theorem val_decN {l : List UInt8} (h : ∀ c ∈ l, dig c = true) : val (l.map fun b => (b.toNat : Int) - 48) = (decN l 0 : Nat) := by
  induction l with
  | nil => rfl
  | cons c r ih =>
    have hc := h c (List.mem_cons_self ..)
    simp only [dig, Bool.and_eq_true, decide_eq_true_eq] at hc
    have hr := ih (fun x hx => h x (List.mem_cons_of_mem _ hx))
    simp only [List.map_cons, val, List.length_map, decN]
    rw [hr, decN_shift r (0 * 10 + (c.toNat - 48)), Nat.zero_mul, Nat.zero_add]
    have e : ((c.toNat : Int) - 48) = ((c.toNat - 48 : Nat) : Int) := by omega
    rw [e]
    push_cast
    rfl
/-- the digits behind the 1 of a million and f -/
theorem six_digits (f : Nat) (hf : f < 1000000) : ∃ F : List UInt8, Lib.decDigits (1000000 + f) = 49 :: F ∧ F.length = 6 ∧ (∀ c ∈ F, dig c = true) ∧ decN F 0 = f := by
  obtain ⟨d1, d2, d3, d4⟩ := decDigits_facts (1000000 + f)
  have hl := decDigits_lenk 6 (1000000 + f) (by omega)
  obtain ⟨x, t, hx⟩ := List.exists_cons_of_ne_nil d2
  rw [hx] at d1 d3 hl d4
  have hxd := d1 x (List.mem_cons_self ..)
  have htd : ∀ c ∈ t, dig c = true := fun c hc => d1 c (List.mem_cons_of_mem _ hc)
  simp only [dig, Bool.and_eq_true, decide_eq_true_eq] at hxd
  have h1 := decN_lt htd
  simp only [decN] at d3
  rw [decN_shift, Nat.zero_mul, Nat.zero_add] at d3
  simp only [List.length_cons] at hl
  have hl6 : t.length = 6 := by
    rcases Nat.lt_or_ge t.length 6 with g | g
    · exfalso
      have h2 : 10 ^ t.length ≤ 10 ^ 5 := Nat.pow_le_pow_right (by omega) (by omega)
      have h3 : (x.toNat - 48) * 10 ^ t.length ≤ 9 * 10 ^ 5 := Nat.mul_le_mul (by omega) h2
      omega
    · omega
  rw [hl6] at d3 h1
  have hx1 : x.toNat - 48 = 1 := by omega
  have hx49 : x = 49 := UInt8.toNat_inj.1 (by have e : (49 : UInt8).toNat = 49 := rfl; omega)
  exact ⟨t, by rw [hx, hx49], hl6, htd, by omega⟩
theorem up_scale {X u k : Int} (hu : 0 < u) (hk : 0 < k) : dn (X * k) (u * k) = dn X u ∧ up (X * k) (u * k) = up X u := by
  have e1 : X * k / (u * k) = X / u := Int.mul_ediv_mul_of_pos_left X u hk
  have e2 : X * k % (u * k) = X % u * k := by
    rw [Int.emod_def, e1, Int.emod_def, Int.sub_mul, Int.mul_right_comm]
  refine ⟨e1, ?_⟩
  unfold up
  rw [e1, e2]
  by_cases hz : X % u = 0
  · rw [hz, Int.zero_mul, if_pos rfl]
  · rw [if_neg hz, if_neg]
    intro h
    rcases Int.mul_eq_zero.1 h with g | g
    · exact hz g
    · omega
theorem zeros_dig (k : Nat) : ∀ c ∈ List.replicate k (48 : UInt8), dig c = true := by
  intro c hc
  rw [List.eq_of_mem_replicate hc]; decide
theorem decN_zeros (k : Nat) : decN (List.replicate k 48) 0 = 0 := by
  induction k with
  | zero => rfl
  | succ k ih => rw [List.replicate_succ]; exact ih
theorem decN_append (l m : List UInt8) : ∀ acc, decN (l ++ m) acc = decN m (decN l acc) := by
  induction l with
  | nil => intro acc; rfl
  | cons c r ih => intro acc; exact ih _
/-- the bounds at six digits and zeros behind them -/
theorem txt_zeros (N : Nat) {F : List UInt8} (hF : ∀ c ∈ F, dig c = true) (hl : F.length = 6) (k : Nat) :
    txtLo N (F ++ List.replicate k 48) = N * 65536 + dn ((decN F 0 : Nat) * 65536) 1000000 ∧ txtHi N (F ++ List.replicate k 48) = N * 65536 + up ((decN F 0 : Nat) * 65536) 1000000 := by
  have hd : ∀ c ∈ F ++ List.replicate k 48, dig c = true := by
    intro c hc
    rcases List.mem_append.1 hc with g | g
    · exact hF c g
    · exact zeros_dig k c g
  have hv := val_decN hd
  rw [decN_append, decN_shift, decN_zeros, Nat.add_zero, List.length_replicate] at hv
  have hlen : (F ++ List.replicate k 48).length = 6 + k := by rw [List.length_append, hl, List.length_replicate]
  unfold txtLo txtHi
  rw [hv, hlen, Int.pow_add, show (10 : Int) ^ 6 = 1000000 from rfl]
  have e : ((decN F 0 * 10 ^ k : Nat) : Int) * 65536 = ((decN F 0 : Nat) * 65536 : Int) * 10 ^ k := by
    push_cast
    rw [Int.mul_right_comm]
  rw [e, (up_scale (by omega) (pow10_pos k)).1, (up_scale (by omega) (pow10_pos k)).2]
  exact ⟨rfl, rfl⟩
/-- the text of N and six digits, zeros behind them, a sign ahead -/
theorem parse_six (neg : Bool) (N : Nat) (hN : N < 30001) {F : List UInt8} (hF : ∀ c ∈ F, dig c = true) (hl : F.length = 6) (k : Nat) :
    parseL ((if neg then [45] else []) ++ (Lib.decDigits N ++ 46 :: (F ++ List.replicate k 48))) = if neg then (-(N * 65536 + up ((decN F 0 : Nat) * 65536) 1000000), -(N * 65536 + dn ((decN F 0 : Nat) * 65536) 1000000), 0, 0) else (N * 65536 + dn ((decN F 0 : Nat) * 65536) 1000000, N * 65536 + up ((decN F 0 : Nat) * 65536) 1000000, 0, 0) := by
  obtain ⟨d1, d2, d3, _⟩ := decDigits_facts N
  obtain ⟨z1, z2⟩ := txt_zeros N hF hl k
  have hlt := decN_lt hF
  rw [hl] at hlt
  have hb : up ((decN F 0 : Nat) * 65536) 1000000 ≤ 65536 := by
    unfold up
    split <;> omega
  have hne : F ++ List.replicate k 48 ≠ [] := by intro e; have := congrArg List.length e; rw [List.length_append, hl] at this; simp at this
  have ht : (if neg then [45] else []) ++ (Lib.decDigits N ++ 46 :: (F ++ List.replicate k 48)) = txt neg (Lib.decDigits N) (F ++ List.replicate k 48) := by unfold txt; rw [if_neg hne]
  have hd : ∀ c ∈ F ++ List.replicate k 48, dig c = true := by
    intro c hc
    rcases List.mem_append.1 hc with g | g
    · exact hF c g
    · exact zeros_dig k c g
  rw [ht, parse_txt d1 d2 hd (by rw [d3]; omega) (by rw [d3, z2]; omega), d3, z1, z2]

set_option maxRecDepth 100000 in
set_option maxHeartbeats 2000000 in
theorem FixedDecimals_walk (n f z : Int) (wn : (Lit.int .u16 n).wf = true) (wf : (Lit.int .u32 f).wf = true) (wz : (Lit.int .u8 z).wf = true) (w : World) (ht : Tabs w) :
    Calls Tryd.prog 11 #[.int .u16 n, .int .u32 f, .int .u8 z] w fun e w' => e = .returned (.bool true) ∧ Below w.heap.size w w' := by
  have n0 : 0 ≤ n ∧ n < 65536 := by simp [Lit.wf, IntKind.min, IntKind.max, IntKind.signed, IntKind.bits] at wn; omega
  have f0 : 0 ≤ f ∧ f < 4294967296 := by simp [Lit.wf, IntKind.min, IntKind.max, IntKind.signed, IntKind.bits] at wf; omega
  have z0 : 0 ≤ z ∧ z < 256 := by simp [Lit.wf, IntKind.min, IntKind.max, IntKind.signed, IntKind.bits] at wz; omega
  clear wn wf wz
  go_enter Tryd.func11, Tryd.ntmps11
  go_wp2_with fail
  refine (sanity_any _ ht).mono ?_
  rintro e w1 ⟨rfl, hb⟩
  go_wp2_with fail
  obtain ⟨N, hN⟩ : ∃ N : Nat, n % 30000 = N := ⟨(n % 30000).toNat, by omega⟩
  obtain ⟨fr, hfr⟩ : ∃ N : Nat, f % 1000000 = N := ⟨(f % 1000000).toNat, by omega⟩
  obtain ⟨kk, hkk⟩ : ∃ N : Nat, z % 21 = N := ⟨(z % 21).toNat, by omega⟩
  have hN1 : N < 30000 := by omega
  have hfr1 : fr < 1000000 := by omega
  have hkk1 : kk < 21 := by omega
  rw [hN, hfr, hkk]
  clear hN hfr hkk
  obtain ⟨F, hF1, hF2, hF3, hF4⟩ := six_digits fr hfr1
  have c1 := RFormatInt_any (1000000 + fr) w1 (by omega)
  rw [show ((1000000 + fr : Nat) : Int) = 1000000 + (fr : Int) from by omega, hF1] at c1
  obtain ⟨D, hD⟩ : ∃ D : ByteArray, (⟨(49 :: F).toArray⟩ : ByteArray) = D := ⟨_, rfl⟩
  rw [hD] at c1
  have hD7 : D.size = 7 := by rw [← hD]; simp [ByteArray.size, hF2]
  have hDe : D.extract 1 7 = ⟨F.toArray⟩ := by
    rw [← hD]; apply ByteArray.ext; simp [ByteArray.data_extract]
    have : 6 = F.length := by omega
    rw [this, List.take_length]
  refine c1.mono ?_
  clear c1 hF1
  rintro e w2 ⟨rfl, hb2⟩
  replace hb := below_next hb hb2
  clear hb2
  go_wp2_with fail
  have hDsz : D.size = 7 := hD7
  clear hD hDe hDsz hD7
  obtain ⟨X, hX⟩ : ∃ X : ByteArray, (⟨#[46]⟩ : ByteArray) ++ ⟨F.toArray⟩ = X := ⟨_, rfl⟩
  rw [hX]
  have hX' : X = ⟨(46 :: F).toArray⟩ := by rw [← hX]; exact append_mk [46] F
  have c2 := RFormatInt_any N w2 (by omega)
  have lN : (Lib.decDigits N).length ≤ 5 := decDigits_lenk 4 N (by omega)
  obtain ⟨D1, hD1⟩ : ∃ D : ByteArray, (⟨(Lib.decDigits N).toArray⟩ : ByteArray) = D := ⟨_, rfl⟩
  rw [hD1] at c2
  refine c2.mono ?_
  clear c2 hX
  rintro e w3 ⟨rfl, hb2⟩
  replace hb := below_next hb hb2
  clear hb2
  obtain ⟨S, hS⟩ : ∃ S : ByteArray, D1 ++ X = S := ⟨_, rfl⟩
  have hS' : S = ⟨(Lib.decDigits N ++ 46 :: F).toArray⟩ := by rw [← hS, ← hD1, hX']; exact append_mk _ _
  have hSs : S.size ≤ 20 := by rw [hS', size_mk2, List.length_append, List.length_cons]; omega
  have hp0 := congrArg tup4 (parse_six false N (by omega) hF3 hF2 0)
  rw [hF4] at hp0
  obtain ⟨lo, hlo⟩ : ∃ lo, N * 65536 + dn ((fr : Nat) * 65536) 1000000 = lo := ⟨_, rfl⟩
  obtain ⟨hi, hhi⟩ : ∃ hi, N * 65536 + up ((fr : Nat) * 65536) 1000000 = hi := ⟨_, rfl⟩
  rw [hlo, hhi] at hp0
  have hpS : tup4 (parseL S.data.toList) = .tuple #[.int .i64 lo, .int .i64 hi, .int .i64 0, .int .i64 0] := by
    rw [hS']
    have e : (if (false : Bool) = true then [45] else []) ++ (Lib.decDigits N ++ 46 :: (F ++ List.replicate 0 48)) = Lib.decDigits N ++ 46 :: F := by simp
    rw [e] at hp0
    exact hp0
  clear hp0
  have hD1s : D1.size ≤ 5 := by rw [← hD1, size_mk2]; exact lN
  have hXs : X.size = 7 := by rw [hX', size_mk2, List.length_cons, hF2]
  have HS := Aside0.mk hS
  have HD1 := Aside0.mk hD1
  have HX := Aside0.mk hX'
  have HS' := Aside0.mk hS'
  clear hS hD1 hX' hS'
  go_wp2_with fail
  rw [HS.out]
  refine (toVal (Parse_any S _ (by omega) (ht.below hb)) hpS).mono ?_
  rintro e w4 ⟨rfl, hb2⟩
  replace hb := below_next hb hb2
  clear hb2
  go_wp2_with fail
  have elo : dn (((N : Int) * 1000000 + fr) * 65536) 1000000 = lo := by rw [← hlo]; unfold dn; omega
  have ehi : up (((N : Int) * 1000000 + fr) * 65536) 1000000 = hi := by rw [← hhi]; unfold up; split <;> split <;> omega
  have c3 := encloses_div (((N : Int) * 1000000 + fr) * 65536) 1000000 w4 (by omega) (by omega) (by omega) (by omega)
  rw [elo, ehi] at c3
  refine c3.mono ?_
  clear c3 elo ehi
  rintro e w' ⟨rfl, rfl⟩
  go_wp2_with fail
  go_loopg [18, 19] kk (fun g v18 v19 wr => ∃ (P : ByteArray) (j : Nat), v18 = .string P ∧ v19 = .int .i64 j ∧ j + g = kk ∧ P.size ≤ 20 + j ∧ Aside0 (P = ⟨(Lib.decDigits N ++ 46 :: (F ++ List.replicate j 48)).toArray⟩) ∧ w4 = wr)
  case atStart => exact ⟨S, 0, rfl, rfl, by omega, by omega, ⟨by rw [HS'.out]; simp⟩, rfl⟩
  case round =>
    obtain ⟨P, j, rfl, rfl, hj, hPs, HP, rfl⟩ := hrel
    by_cases hjk : j = kk
    · have hpP : tup4 (parseL P.data.toList) = .tuple #[.int .i64 lo, .int .i64 hi, .int .i64 0, .int .i64 0] := by
        have hp0 := congrArg tup4 (parse_six false N (by omega) hF3 hF2 j)
        rw [hF4, hlo, hhi] at hp0
        rw [HP.out]
        have e : (if (false : Bool) = true then [45] else []) ++ (Lib.decDigits N ++ 46 :: (F ++ List.replicate j 48)) = Lib.decDigits N ++ 46 :: (F ++ List.replicate j 48) := by simp
        rw [e] at hp0
        exact hp0
      obtain ⟨S1, hS1⟩ : ∃ S1 : ByteArray, (⟨(Lib.decDigits (N + 1)).toArray⟩ : ByteArray) = S1 := ⟨_, rfl⟩
      have lN1 : (Lib.decDigits (N + 1)).length ≤ 5 := decDigits_lenk 4 (N + 1) (by omega)
      have hS1s : S1.size ≤ 5 := by rw [← hS1, size_mk2]; exact lN1
      obtain ⟨S2, hS2⟩ : ∃ S2 : ByteArray, S1 ++ X = S2 := ⟨_, rfl⟩
      have hS2' : S2 = ⟨(Lib.decDigits (N + 1) ++ 46 :: F).toArray⟩ := by rw [← hS2, ← hS1, HX.out]; exact append_mk _ _
      have hS2s : S2.size ≤ 20 := by rw [hS2', size_mk2, List.length_append, List.length_cons]; omega
      have hpS2 : tup4 (parseL S2.data.toList) = .tuple #[.int .i64 (lo + 65536), .int .i64 (hi + 65536), .int .i64 0, .int .i64 0] := by
        have hp0 := congrArg tup4 (parse_six false (N + 1) (by omega) hF3 hF2 0)
        rw [hF4] at hp0
        rw [hS2']
        have e : (if (false : Bool) = true then [45] else []) ++ (Lib.decDigits (N + 1) ++ 46 :: (F ++ List.replicate 0 48)) = Lib.decDigits (N + 1) ++ 46 :: F := by simp
        rw [e] at hp0
        have e1 : ((N + 1 : Nat) : Int) * 65536 + dn ((fr : Nat) * 65536) 1000000 = lo + 65536 := by omega
        have e2 : ((N + 1 : Nat) : Int) * 65536 + up ((fr : Nat) * 65536) 1000000 = hi + 65536 := by omega
        rw [e1, e2] at hp0
        exact hp0
      obtain ⟨S3, hS3⟩ : ∃ S3 : ByteArray, (⟨#[45]⟩ : ByteArray) ++ S = S3 := ⟨_, rfl⟩
      have hS3' : S3 = ⟨(45 :: (Lib.decDigits N ++ 46 :: F)).toArray⟩ := by rw [← hS3, HS'.out]; exact append_mk [45] _
      have hS3s : S3.size ≤ 21 := by rw [hS3', size_mk2, List.length_cons, List.length_append, List.length_cons]; omega
      have hpS3 : tup4 (parseL S3.data.toList) = .tuple #[.int .i64 (-hi), .int .i64 (-lo), .int .i64 0, .int .i64 0] := by
        have hp0 := congrArg tup4 (parse_six true N (by omega) hF3 hF2 0)
        rw [hF4, hlo, hhi] at hp0
        rw [hS3']
        have e : (if (true : Bool) = true then [45] else []) ++ (Lib.decDigits N ++ 46 :: (F ++ List.replicate 0 48)) = 45 :: (Lib.decDigits N ++ 46 :: F) := by simp
        rw [e] at hp0
        exact hp0
      have blo : 0 ≤ lo ∧ lo ≤ 3000000000 := by rw [← hlo]; unfold dn; omega
      have bhi : 0 ≤ hi ∧ hi ≤ 3000000000 := by rw [← hhi]; unfold up; split <;> omega
      have c5 := fun w' => RFormatInt_any (N + 1) w' (by omega)
      rw [hS1, show ((N + 1 : Nat) : Int) = (N : Int) + 1 from by omega] at c5
      have HSS2 := Aside0.mk hS2
      have HSS3 := Aside0.mk hS3
      clear hS1 hS2 hS3 hS2' hS3' hlo hhi HD1 HX HP HS'
      go_wp2_with fail
      refine (toVal (Parse_any P _ (by omega) (ht.below hb)) hpP).mono ?_
      rintro e w5 ⟨rfl, hb2⟩
      replace hb := below_next hb hb2
      clear hb2
      go_wp2_with fail
      refine (c5 _).mono ?_
      rintro e w6 ⟨rfl, hb2⟩
      replace hb := below_next hb hb2
      clear hb2
      go_wp2_with fail
      rw [HSS2.out]
      refine (toVal (Parse_any S2 _ (by omega) (ht.below hb)) hpS2).mono ?_
      rintro e w7 ⟨rfl, hb2⟩
      replace hb := below_next hb hb2
      clear hb2
      go_wp2_with fail
      rw [HSS3.out]
      refine (toVal (Parse_any S3 _ (by omega) (ht.below hb)) hpS3).mono ?_
      rintro e w8 ⟨rfl, hb2⟩
      replace hb := below_next hb hb2
      clear hb2
      go_wp2
      go_ret
      exact ⟨rfl, hb⟩
    · have HQ : Aside0 (P ++ (⟨#[48]⟩ : ByteArray) = ⟨(Lib.decDigits N ++ 46 :: (F ++ List.replicate (j + 1) 48)).toArray⟩) := ⟨by
        rw [HP.out]
        refine (append_mk _ [48]).trans ?_
        simp [List.replicate_succ']⟩
      have hQs : (P ++ (⟨#[48]⟩ : ByteArray)).size ≤ 20 + (j + 1) := by
        rw [ByteArray.size_append, show (⟨#[48]⟩ : ByteArray).size = 1 from rfl]; omega
      have HQs := Aside0.mk hQs
      clear hQs
      go_wp2
      go_roundg (kk - (j + 1))
      case measure => omega
      case rel => exact ⟨_, j + 1, rfl, by go_num, by omega, HQs.out, HQ, rfl⟩
end Go.Proofs.YtbijolohpfkihaaDoor.Fx
