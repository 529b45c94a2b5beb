/- FixedFormatRoundTrip: the walk. -/
import Derived.Test.YtbijolohpfkihaaDoorFxK
import Derived.Test.YtbijolohpfkihaaDoorFxU
import Derived.Test.YtbijolohpfkihaaDoorFxL
set_option linter.unusedVariables false
namespace Go.Proofs.YtbijolohpfkihaaDoor.Fx
open Go.RowKit Go.Proofs.YtbijolohpfkihaaDoorW.PrintWords

/-- What the law asks of the representation of a. -/
theorem fmt_shape (a : Int) (h0 : -2147483648 < a) (h1 : a < 2147483648) :
    1 ≤ (fmtL a).length ∧ (fmtL a).length ≤ 24 ∧ badN (fmtL a) = false ∧
    (∃ c, (fmtL a)[0]? = some c ∧ ((c.toNat : Int) == 45) = decide (a < 0)) ∧
    (∃ c, (fmtL a)[if a < 0 then 1 else 0]? = some c ∧ (c.toNat = 48 → ptN (fmtL a) = (if a < 0 then 1 else 0) + 1)) ∧
    (if a < 0 then 1 else 0) < (fmtL a).length ∧ ptN (fmtL a) ≤ (fmtL a).length ∧
    (ptN (fmtL a) = (fmtL a).length ↔ a.tmod 65536 = 0) ∧
    (ptN (fmtL a) ≠ (fmtL a).length → ∃ c, (fmtL a)[(fmtL a).length - 1]? = some c ∧ c.toNat ≠ 48) := by
  obtain ⟨d1, d2, d3, d4⟩ := decDigits_facts (a.natAbs / 65536)
  have hF := fracL_dig 16 ((a.natAbs : Int) % 65536) (by omega) (by omega)
  obtain ⟨p1, p2, p3, p4, p5, p6⟩ := txt_parts (neg := decide (a < 0)) (D := fmtD a) (F := fmtF a) d1 d2 hF
  have hl5 := decDigits_lenk 4 (a.natAbs / 65536) (by omega)
  have hlF := fracL_len' 16 ((a.natAbs : Int) % 65536)
  obtain ⟨x, t, hx⟩ := List.exists_cons_of_ne_nil d2
  have hxd := d1 x (by rw [hx]; exact List.mem_cons_self ..)
  have hD : fmtD a = x :: t := hx
  rw [← fmtL_txt] at p1 p2 p3 p4 p5 p6
  have hsg : (if decide (a < 0) = true then 1 else 0 : Nat) = if a < 0 then 1 else 0 := by simp
  rw [hsg] at p1 p2
  have hfd : (fmtD a).length = t.length + 1 := by rw [hD]; rfl
  have htxt : fmtL a = (if a < 0 then [45] else []) ++ (x :: (t ++ (if fmtF a = [] then [] else 46 :: fmtF a))) := by
    rw [fmtL_txt]; unfold txt; rw [hD]; simp
  have hlen : (fmtL a).length = (if a < 0 then 1 else 0) + (t.length + 1) + (if fmtF a = [] then 0 else (fmtF a).length + 1) := by
    rw [htxt]
    by_cases hn : a < 0
    · rw [if_pos hn, if_pos hn]; split <;> simp <;> omega
    · rw [if_neg hn, if_neg hn]
      split
      · simp
      · simp; omega
  have htl : t.length ≤ 4 := by rw [hx] at hl5; simp at hl5; omega
  have hFl : (fmtF a).length ≤ 16 := hlF
  have htm : a.tmod 65536 = 0 ↔ (a.natAbs : Int) % 65536 = 0 := by
    rcases Int.le_total 0 a with h | h
    · rw [Int.tmod_eq_emod_of_nonneg h]; omega
    · obtain ⟨n, rfl⟩ : ∃ n, a = -n := ⟨-a, by omega⟩
      rw [Int.neg_tmod, Int.tmod_eq_emod_of_nonneg (by omega)]; omega
  have hnil : fmtF a = [] ↔ (a.natAbs : Int) % 65536 = 0 := fracL_nil (by omega) (by omega)
  simp only [dig, Bool.and_eq_true, decide_eq_true_eq] at hxd
  rw [hfd] at p2
  refine ⟨by rw [hlen]; omega, by rw [hlen]; split <;> split <;> omega, p4, ?_, ?_, by rw [hlen]; omega, by rw [p2, hlen]; omega, ?_, ?_⟩
  · by_cases hn : a < 0
    · refine ⟨45, by rw [htxt, if_pos hn]; rfl, ?_⟩
      rw [decide_eq_true hn]; rfl
    · refine ⟨x, by rw [htxt, if_neg hn]; rfl, ?_⟩
      rw [decide_eq_false hn, beq_eq_false_iff_ne]; omega
  · refine ⟨x, ?_, ?_⟩
    · rw [htxt]
      by_cases hn : a < 0
      · rw [if_pos hn, if_pos hn]; rfl
      · rw [if_neg hn, if_neg hn]; rfl
    · intro hc
      have h48 : x = 48 := UInt8.toNat_inj.1 (by have e : (48 : UInt8).toNat = 48 := rfl; omega)
      have hu := d4 (by rw [hx, h48]; rfl)
      have hl1 := decDigits_lenk 0 (a.natAbs / 65536) (by omega)
      rw [hx, List.length_cons] at hl1
      rw [p2]; omega
  · rw [p2, hlen, htm, ← hnil]
    by_cases hf : fmtF a = []
    · simp [hf]
    · rw [if_neg hf]
      exact ⟨fun h => by omega, fun h => absurd h hf⟩
  · intro hne
    have hf : fmtF a ≠ [] := by
      intro e
      apply hne
      rw [p2, hlen, if_pos e]; omega
    have hpos : 0 < (a.natAbs : Int) % 65536 := by
      have : ¬ (a.natAbs : Int) % 65536 = 0 := fun e => hf (hnil.2 e)
      omega
    obtain ⟨l, c, e, hc⟩ := fracL_last 16 ((a.natAbs : Int) % 65536) hpos (by omega) (dvd_start _)
    have he : fmtF a = l ++ [c] := e
    refine ⟨c, ?_, fun h => hc (UInt8.toNat_inj.1 (by have e : (48 : UInt8).toNat = 48 := rfl; omega))⟩
    have htx : fmtL a = ((if a < 0 then [45] else []) ++ (x :: (t ++ (46 :: l)))) ++ [c] := by
      rw [htxt, if_neg hf, he]; simp
    rw [htx, List.length_append, List.length_cons, List.length_nil, Nat.add_sub_cancel, List.getElem?_append_right (Nat.le_refl _), Nat.sub_self]; rfl
where
  fracL_len' : ∀ (g : Nat) (f : Int), (fracL g f).length ≤ g := by
    intro g
    induction g with
    | zero => intro f; simp [fracL]
    | succ g ih =>
      intro f
      simp only [fracL]
      split
      · simp
      · simp only [List.length_cons]; have := ih (f * 10 % 65536); omega

set_option maxRecDepth 100000 in
set_option maxHeartbeats 2000000 in
theorem FixedFormatRoundTrip_walk (a : Int) (wa : (Lit.int .i64 a).wf = true) (w : World) (ht : Tabs w) :
    Calls Tryd.prog 8 #[.int .i64 a] w fun e w' => e = .returned (.bool true) ∧ Below w.heap.size w w' := by
  obtain ⟨A, hA⟩ : ∃ A, anyN a = A := ⟨_, rfl⟩
  have hA1 := anyN_bd a
  rw [hA] at hA1
  obtain ⟨hA1, hA2⟩ := hA1
  have HA := Aside0.mk hA
  clear hA wa
  obtain ⟨s1, s2, s3, ⟨c0, s4, s5⟩, ⟨c1, s6, s7⟩, s8, s9, s10, s11⟩ := fmt_shape A hA1 hA2
  have hpar := congrArg tup4 (parse_fmt A hA1 hA2)
  obtain ⟨str, hstr⟩ : ∃ str : ByteArray, (⟨(fmtL A).toArray⟩ : ByteArray) = str := ⟨_, rfl⟩
  have hdl : str.data.toList = fmtL A := by rw [← hstr]
  have hsz : str.size = (fmtL A).length := by rw [← hstr]; simp [ByteArray.size]
  rw [← hdl] at s3 s4 s6 s7 s9 s10 s11 hpar s1 s2 s8
  rw [toList_size] at s1 s2 s8 s9 s10 s11
  have HSTR := Aside0.mk hstr
  have HPAR := Aside0.mk hpar
  clear hstr hpar hdl hsz
  obtain ⟨pt, hpt⟩ : ∃ pt, ptN str.data.toList = pt := ⟨_, rfl⟩
  rw [hpt] at s7 s9 s10 s11
  have hl0 : 0 < str.size := by omega
  have b0 : ((str[0].toNat : Int) == 45) = decide (A < 0) := by
    have h : 0 < str.data.toList.length := by rw [toList_size]; exact hl0
    rw [List.getElem?_eq_getElem h, Option.some.injEq] at s4
    rw [← s5, ← s4]; rfl
  obtain ⟨sg, hsg⟩ : ∃ sg : Nat, (if A < 0 then 1 else 0) = sg := ⟨_, rfl⟩
  rw [hsg] at s6 s7 s8
  have b1 : (str[sg].toNat : Int) = (c1.toNat : Int) := by
    have h : sg < str.data.toList.length := by rw [toList_size]; exact s8
    rw [List.getElem?_eq_getElem h, Option.some.injEq] at s6
    rw [← s6]; rfl
  have hl9 : str.size - 1 < str.size := by omega
  have b2 : pt ≠ str.size → ((str[str.size - 1].toNat : Int) == 48) = false := by
    intro hne
    obtain ⟨c, e1, e2⟩ := s11 hne
    have h : str.size - 1 < str.data.toList.length := by rw [toList_size]; exact hl9
    rw [List.getElem?_eq_getElem h, Option.some.injEq] at e1
    have e3 : (str[str.size - 1].toNat : Int) = (c.toNat : Int) := by rw [← e1]; rfl
    rw [e3, beq_eq_false_iff_ne]; omega
  have z1 : ((str.size : Int) == 0) = false := by rw [beq_eq_false_iff_ne]; omega
  have z2 : ¬ str = ByteArray.empty := by intro e; rw [e] at hl0; exact absurd hl0 (by decide)
  clear s11
  have HPT := Aside0.mk hpt
  have HB := Aside0.mk s3
  clear hpt s3 s4 s5 s6 s1
  go_enter Tryd.func8, Tryd.ntmps8
  go_wp2_with fail
  refine (sanity_any _ ht).mono ?_
  rintro e w1 ⟨rfl, hb⟩
  go_wp2_with fail
  refine (Any_any a _).mono ?_
  rintro e w' ⟨rfl, rfl⟩
  rw [HA.out]
  go_wp2_with fail
  refine (Format_any A _ hA1 hA2 (ht.below hb)).mono ?_
  rintro e w2 ⟨rfl, hb2⟩
  replace hb := below_next hb hb2
  clear hb2
  rw [HSTR.out]
  go_wp2_with fail
  refine (toVal (v' := .tuple #[.int .i64 A, .int .i64 A, .int .i64 0, .int .i64 0]) (Parse_any str _ (by omega) (ht.below hb)) HPAR.out).mono ?_
  rintro e w1 ⟨rfl, hb2⟩
  replace hb := below_next hb hb2
  clear hb2
  have HSG := Aside0.mk hsg
  have HB2 := Aside0.mk b2
  have HS7 := Aside0.mk s7
  have HS10 := Aside0.mk s10
  clear hsg b2 s7 s10
  go_wp2_with fail
  refine (toBelow (v' := .tuple #[.bool true, .int .i64 (enN str.data.toList : Nat), .int .i64 (pt : Nat)]) (RScan_any str _ (by omega)) (by rw [HB.out, HPT.out]; rfl)).mono ?_
  rintro e w2 ⟨rfl, hb2⟩
  replace hb := below_next hb hb2
  clear hb2
  obtain ⟨en, hen⟩ : ∃ en, enN str.data.toList = en := ⟨_, rfl⟩
  rw [hen]
  clear hen
  by_cases hn : A < 0
  · have hn' : decide (A < 0) = true := decide_eq_true hn
    rw [hn'] at b0
    have hsg1 : sg = 1 := by rw [← HSG.out, if_pos hn]
    subst hsg1
    by_cases hp : pt = str.size
    · have t0 : (A.tmod 65536 == 0) = true := by rw [beq_iff_eq]; exact HS10.out.1 hp
      have t1 : ((pt : Int) == (str.size : Int)) = true := by rw [beq_iff_eq]; omega
      by_cases hc : c1.toNat = 48
      · have q1 : ((str[1].toNat : Int) != 48) = false := by rw [b1, bne_eq_false_iff_eq]; omega
        have q2 : ((pt : Int) == 2) = true := by rw [beq_iff_eq]; have := HS7.out hc; omega
        clear b1 hp
        go_wp2
        go_ret
        exact ⟨rfl, hb⟩
      · have q1 : ((str[1].toNat : Int) != 48) = true := by rw [b1, bne_iff_ne]; omega
        clear b1 hp
        go_wp2
        go_ret
        exact ⟨rfl, hb⟩
    · have t0 : (A.tmod 65536 == 0) = false := by rw [beq_eq_false_iff_ne]; exact fun h => hp (HS10.out.2 h)
      have t1 : ((pt : Int) == (str.size : Int)) = false := by rw [beq_eq_false_iff_ne]; omega
      have t2' := HB2.out hp
      have t2 : ((str[str.size - 1].toNat : Int) != 48) = true := by rw [bne_iff_ne]; exact beq_eq_false_iff_ne.1 t2'
      clear t2'
      by_cases hc : c1.toNat = 48
      · have q1 : ((str[1].toNat : Int) != 48) = false := by rw [b1, bne_eq_false_iff_eq]; omega
        have q2 : ((pt : Int) == 2) = true := by rw [beq_iff_eq]; have := HS7.out hc; omega
        clear b1 hp
        go_wp2
        go_ret
        exact ⟨rfl, hb⟩
      · have q1 : ((str[1].toNat : Int) != 48) = true := by rw [b1, bne_iff_ne]; omega
        clear b1 hp
        go_wp2
        go_ret
        exact ⟨rfl, hb⟩
  · have hn' : decide (A < 0) = false := decide_eq_false hn
    rw [hn'] at b0
    have hsg1 : sg = 0 := by rw [← HSG.out, if_neg hn]
    subst hsg1
    by_cases hp : pt = str.size
    · have t0 : (A.tmod 65536 == 0) = true := by rw [beq_iff_eq]; exact HS10.out.1 hp
      have t0' : (A % 65536 == 0) = true := by rw [← Int.tmod_eq_emod_of_nonneg (by omega)]; exact t0
      have t1 : ((pt : Int) == (str.size : Int)) = true := by rw [beq_iff_eq]; omega
      by_cases hc : c1.toNat = 48
      · have q1 : ((str[0].toNat : Int) != 48) = false := by rw [b1, bne_eq_false_iff_eq]; omega
        have q2 : ((pt : Int) == 1) = true := by rw [beq_iff_eq]; have := HS7.out hc; omega
        clear b1 hp
        go_wp2
        go_ret
        exact ⟨rfl, hb⟩
      · have q1 : ((str[0].toNat : Int) != 48) = true := by rw [b1, bne_iff_ne]; omega
        clear b1 hp
        go_wp2
        go_ret
        exact ⟨rfl, hb⟩
    · have t0 : (A.tmod 65536 == 0) = false := by rw [beq_eq_false_iff_ne]; exact fun h => hp (HS10.out.2 h)
      have t0' : (A % 65536 == 0) = false := by rw [← Int.tmod_eq_emod_of_nonneg (by omega)]; exact t0
      have t1 : ((pt : Int) == (str.size : Int)) = false := by rw [beq_eq_false_iff_ne]; omega
      have t2' := HB2.out hp
      have t2 : ((str[str.size - 1].toNat : Int) != 48) = true := by rw [bne_iff_ne]; exact beq_eq_false_iff_ne.1 t2'
      clear t2'
      by_cases hc : c1.toNat = 48
      · have q1 : ((str[0].toNat : Int) != 48) = false := by rw [b1, bne_eq_false_iff_eq]; omega
        have q2 : ((pt : Int) == 1) = true := by rw [beq_iff_eq]; have := HS7.out hc; omega
        clear b1 hp
        go_wp2
        go_ret
        exact ⟨rfl, hb⟩
      · have q1 : ((str[0].toNat : Int) != 48) = true := by rw [b1, bne_iff_ne]; omega
        clear b1 hp
        go_wp2
        go_ret
        exact ⟨rfl, hb⟩
end Go.Proofs.YtbijolohpfkihaaDoor.Fx
