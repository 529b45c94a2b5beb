/- OiE -/
import Derived.Test.YthcidkidpiaomaaGreatDoorKf19
import Derived.Test.YthcidkidpiaomaaGreatDoorKf20
import Derived.Test.YthcidkidpiaomaaGreatDoorKf23
import Derived.Test.YthcidkidpiaomaaGreatDoorKg01
section
set_option linter.unusedVariables false
set_option linter.unusedSimpArgs false
namespace Go.Proofs.YthcidkidpiaomaaGreatDoor.Od
open Go.RowKit Rg
theorem arity_flat {vars : List (List UInt8)} : ∀ t, okT vars t → ∀ x ∈ flat t, 0 ≤ arity x.op
  | .num lo hi, _, x, hx => by obtain rfl := List.mem_singleton.1 hx; exact (by decide : (0 : Int) ≤ 0)
  | .var n, _, x, hx => by obtain rfl := List.mem_singleton.1 hx; exact (by decide : (0 : Int) ≤ 0)
  | .time, _, x, hx => by obtain rfl := List.mem_singleton.1 hx; exact (by decide : (0 : Int) ≤ 0)
  | .un op a, h, x, hx => by
    rcases List.mem_cons.1 hx with rfl | hx
    · have := kids_arity (t := .un op a) h
      show 0 ≤ arity op
      unfold hdN at this; simp only at this; omega
    · exact arity_flat a h.2 x hx
  | .bin op a b, h, x, hx => by
    rcases List.mem_cons.1 hx with rfl | hx
    · have := kids_arity (t := .bin op a b) h
      show 0 ≤ arity op
      unfold hdN at this; simp only at this; omega
    · rcases List.mem_append.1 hx with hx | hx
      · exact arity_flat a h.2.1 x hx
      · exact arity_flat b h.2.2 x hx
def opW (b o c : Nat) (ks : List Tr) (j : Nat) : Value := .slice (some ⟨b, o + stK ks j * 4, none⟩) ((ks[j]?.map fun k => (flat k).length).getD 0) (c - stK ks j)
set_option maxRecDepth 100000 in
set_option maxHeartbeats 8000000 in
theorem rOperands_any {vars : List (List UInt8)} (t : Tr) (hok : okT vars t) (v : Value) (w : World) (h : RdN w v (flat t)) :
    Calls Tryz.prog 23 #[v] w fun e' w' => ∃ vo, e' = .returned vo ∧ Fs w' vo ((kids t).map flat) ∧ Below w.heap.size w w' := by
  have hfew := h.few
  have hnl : (flat t).length = 1 + ((kids t).flatMap flat).length := by rw [flat_kids, List.length_cons]; omega
  rcases h.out with ⟨h0, -⟩ | ⟨b, o, c, rfl, hcp, hc⟩
  · exact absurd h0 (flat_ne t)
  · obtain ⟨n, hn⟩ : ∃ n, (flat t).length = n := ⟨_, rfl⟩
    rw [hn] at hfew hcp hnl ⊢
    have HC := Aside.mk hc
    have HNN := Aside.mk hn
    have HK := Aside.mk (And.intro hnl (And.intro hcp hfew))
    have HAR := Aside.mk (kids_arity hok)
    have HKO := Aside.mk (kids_ok hok)
    have hk2 : (kids t).length ≤ 2 := by cases t <;> simp [kids]
    obtain ⟨ks, hks⟩ : ∃ ks, kids t = ks := ⟨_, rfl⟩
    have HFL : Aside (flat t = hdN t :: ks.flatMap flat) := ⟨by rw [flat_kids, hks]⟩
    rw [hks] at HK HAR HKO hk2 ⊢
    have hx0 : (flat t)[0]? = some (hdN t) := by rw [flat_kids]; rfl
    have c0 : w.cell? ⟨b, o, none⟩ = some (.int .i64 (hdN t).op) := hc 0 _ (by have := nds_get (flat t) 0 _ 0 hx0 (by decide); exact this)
    have c1 : w.cell? ⟨b, o + 1, none⟩ = some (.int .i64 (hdN t).n) := hc 1 _ (by have := nds_get (flat t) 0 _ 1 hx0 (by decide); exact this)
    have hnpos : (0 : Int) < (n : Int) := by omega
    obtain ⟨M, hM⟩ : ∃ M, ks.length = M := ⟨_, rfl⟩
    rw [hM] at HAR hk2
    have HM := Aside.mk hM
    have HK2 := Aside.mk hk2
    have HAB : Aside (Below w.heap.size w w) := ⟨Below.refl _ _⟩
    clear hks hx0 hc h hn hM hnl
    go_enter Tryz.func23, Tryz.ntmps23
    go_wp2_with fail
    have HB0 : Aside (Below w.heap.size w (w.alloc (.cells #[] 26))) := ⟨(Below.refl _ _).alloc (Nat.le_refl _) _⟩
    have HO0 : Aside ((w.alloc (.cells #[] 26)).ownsRow w.heap.size 26 1 (.slice (some ⟨w.heap.size, 0, none⟩) 0 0) 0 []) := ⟨⟨rfl, Or.inr ⟨w.heap.size, 0, #[], rfl, Nat.le_refl _, heap_alloc_last _ _, Nat.le_refl _, by simp [maxLen], rfl, by simp⟩⟩⟩
    have HARI : Aside (∀ x ∈ flat t, 0 ≤ arity x.op) := ⟨arity_flat t hok⟩
    have HC0 := Aside.mk c0
    generalize w.alloc (.cells #[] 26) = W at HB0 HO0 ⊢
    clear c0 c1
    go_loopg [3, 4, 5, 6] M (fun m v3 v4 v5 v6 wr => ∃ (i : Nat) (us : List Value) (vz : Value), v3 = vz ∧ v5 = .int .i64 (i : Nat) ∧ v4 = .int .i64 (stK ks i : Nat) ∧ Aside (i ≤ M ∧ M - i ≤ m ∧ us.length = i) ∧ Aside (∀ j, j < i → us[j]? = some (opW b o c ks j)) ∧ Aside (wr.ownsRow w.heap.size 26 1 vz i us) ∧ Aside (Below w.heap.size w wr))
    case atStart => exact ⟨0, [], _, rfl, rfl, rfl, ⟨by simp⟩, ⟨fun j hj => by omega⟩, HO0, HB0⟩
    case round =>
      clear HO0 HB0
      obtain ⟨i, us, vz, rfl, rfl, rfl, HI, HU, HO, HB⟩ := hrel
      obtain ⟨va, vl, vc, rfl⟩ := row_slice HO.out
      have c0 := (HB.out.cell (World.block_lt_of_cell? w _ HC0.out)).trans HC0.out
      go_wp2_with fail
      refine (rArity_any _ wr).mono ?_
      rintro e' w1 ⟨rfl, hw1⟩
      have hw1' := hw1.symm
      subst hw1'
      rw [HAR.out]
      clear c0 hw1
      by_cases hi : i < M
      · have hi' : (i : Int) < (M : Int) := by omega
        obtain ⟨k, hk⟩ : ∃ k, ks[i]? = some k := ⟨_, List.getElem?_eq_getElem (by rw [HM.out]; exact hi)⟩
        have hss := stK_succ hk
        have hle2 := stK_le ks (i + 1) (by rw [HM.out]; omega)
        have hnl := HK.out.1
        obtain ⟨st, hst⟩ : ∃ st, stK ks i = st := ⟨_, rfl⟩
        obtain ⟨l, hl⟩ : ∃ l, (flat k).length = l := ⟨_, rfl⟩
        have hcw : ∀ j u, (nds (flat t))[j]? = some u → wr.cell? ⟨b, o + j, none⟩ = some u := fun j u hu => by
          have := HC.out j u hu
          rw [HB.out.cell (p := ⟨b, o + j, none⟩) (World.block_lt_of_cell? w _ this)]; exact this
        have hdrop : (flat t).drop st = flat k ++ (ks.drop (i + 1)).flatMap flat := by
          rw [HFL.out, ← hst, stK_drop]
          obtain ⟨hlk, rfl⟩ := List.getElem?_eq_some_iff.1 hk
          rw [List.drop_eq_getElem_cons hlk, List.flatMap_cons]
        rw [hst, hl] at hss
        rw [hss] at hle2
        have hstn : st + l ≤ n := by omega
        have hrd : RdN wr (.slice (some ⟨b, o + st * 4, none⟩) (n - st) (c - st)) (((flat t).drop st).take (n - st)) := RdN.tail hcw HNN.out HK.out.2.1 HK.out.2.2 st (n - st) (c - st) (by omega) (by have := HK.out.2.1; omega)
        rw [List.take_of_length_le (by rw [List.length_drop, HNN.out]; omega)] at hrd
        have HRD := Aside.mk hrd
        have HEL : Aside (rlV (rlen ((flat t).drop st) 1) = (l : Int)) := ⟨by
          have h1 : exLen 1 ((flat t).drop st) = l := by rw [hdrop, exLen_flat k (HKO.out k (List.mem_of_getElem? hk)) 1 _ (by omega), if_pos rfl, hl]
          have h2 := exLen_rlen ((flat t).drop st) 1 (fun x hx => HARI.out x (List.mem_of_mem_drop hx)) (Nat.le_refl _)
          have h3 : ((flat t).drop st).length = n - st := by rw [List.length_drop, HNN.out]
          have h4 : ((1 : Nat) : Int) = 1 := rfl
          rw [h4, h1, h3] at h2
          cases h5 : rlen ((flat t).drop st) 1 with
          | none => rw [h5] at h2; simp at h2; omega
          | some q => rw [h5] at h2; simp only [Option.getD_some] at h2; rw [← h2]; rfl⟩
        have HKK := Aside.mk hk
        have HST := Aside.mk (And.intro hst (And.intro hl hss))
        have hstn' : (st : Int) ≤ (n : Int) := by omega
        have hstc' : (st : Int) ≤ (c : Int) := by have := HK.out.2.1; omega
        have hl1 := flat_pos k
        have hcne : ¬ c = st := by have := HK.out.2.1; omega
        have hcne' : ¬ st = c := by omega
        have hcne2 : ¬ ((st : Int) = (c : Int)) := by omega
        have hcne3 : ¬ (c - st = 0) := by omega
        rw [hst]
        clear hk hss hle2 hst hl hcw hdrop hrd hnl hl1
        go_wp2_with fail
        refine (rLen_any _ _ (Nat.le_refl _) _ wr HRD.out).mono ?_
        rintro e' w2 ⟨rfl, hb2⟩
        rw [HEL.out]
        have HB2 := Aside.mk (HB.out.trans (hb2.mono HB.out.size))
        have HO2 := Aside.mk (owns_below HO.out hb2)
        obtain ⟨en, hen⟩ : ∃ en, st + l = en := ⟨_, rfl⟩
        have hws : IntKind.i64.wrap ((st : Int) + (l : Int)) = (en : Int) := by rw [IntWalk.i64_in _ (by have := HK.out.2.2; omega)]; omega
        have hse : (st : Int) ≤ (en : Int) := by omega
        have hec : (en : Int) ≤ (c : Int) := by have := HK.out.2.1; omega
        have hse2 : st ≤ en := by omega
        have hlen : en - st = l := by omega
        have hlne : ¬ en = st := by have := flat_pos k; have := HST.out.2.1; omega
        have hlne2 : ¬ st = en := by omega
        have hlne3 : ¬ (en - st = 0) := by omega
        have hal : Below w2.heap.size w2 (w2.alloc (.cells #[.slice (some ⟨b, o + st * 4, none⟩) (en - st) (c - st)] 26)) := (Below.refl _ _).alloc (Nat.le_refl _) _
        have HRK : Aside ((w2.alloc (.cells #[.slice (some ⟨b, o + st * 4, none⟩) (en - st) (c - st)] 26)).heap[w2.heap.size]? = some (.cells #[.slice (some ⟨b, o + st * 4, none⟩) (en - st) (c - st)] 26 (0, 0))) := ⟨heap_alloc_last _ _⟩
        have HO3 := Aside.mk (owns_below HO2.out hal)
        have HB3 := Aside.mk (HB2.out.trans (hal.mono HB2.out.size))
        have HEN := Aside.mk (And.intro hen hlen)
        clear hb2 hal hen hlen
        go_wp2_with (first | (at_builtin; refine wpList_append_sl _ rfl (.tmp 21) (.tmp 28) rfl w.heap.size _ us i HI.out.2.2 rfl HO3.out _ _ _ _ rfl HRK.out (by have := HI.out; omega) HB3.out.size ?_; intro ao5 cap w4 ho4 hb4))
        obtain ⟨go, hgo⟩ : ∃ go, gk = go + 1 := ⟨gk - 1, by have := HI.out; omega⟩
        have HU4 : Aside (∀ j, j < i + 1 → (us ++ [.slice (some ⟨b, o + st * 4, none⟩) (en - st) (c - st)])[j]? = some (opW b o c ks j)) := ⟨fun j hj => by
          have hul := HI.out.2.2
          by_cases hji : j < i
          · rw [List.getElem?_append_left (by omega)]; exact HU.out j hji
          · have hje : j = i := by omega
            subst hje
            rw [List.getElem?_append_right (by omega), hul, Nat.sub_self]
            unfold opW
            rw [HKK.out, HST.out.1]
            simp only [Option.map_some, Option.getD_some, HST.out.2.1, HEN.out.2]
            rfl⟩
        have HO4 := Aside.mk ho4
        have HB4 := Aside.mk (HB3.out.trans hb4)
        have hst2 : (en : Int) = (stK ks (i + 1) : Nat) := by have := HST.out.2.2; have := HEN.out.1; omega
        rw [hst2]
        clear ho4 hb4 hst2
        go_roundg go
        case measure => omega
        case rel => exact ⟨i + 1, us ++ [_], _, rfl, rfl, rfl, ⟨by have := HI.out; simp; omega⟩, HU4, HO4, HB4⟩
      · have hi' : ¬ ((i : Int) < (M : Int)) := by omega
        go_wp2_with fail
        go_ret
        refine ⟨_, rfl, ?_, HB.out⟩
        have hin : i = M := by have := HI.out; omega
        subst hin
        have hul : us.length = ks.length := by rw [HI.out.2.2, HM.out]
        have hcw : ∀ j u, (nds (flat t))[j]? = some u → wr.cell? ⟨b, o + j, none⟩ = some u := fun j u hu => by
          have := HC.out j u hu
          rw [HB.out.cell (p := ⟨b, o + j, none⟩) (World.block_lt_of_cell? w _ this)]; exact this
        have hrow := HO.out
        rcases hrow.2 with ⟨hv, h0⟩ | ⟨g, cap, cur, hv, hg, hh, hcap, hm, hsz, htk⟩
        · refine ⟨Or.inl ⟨?_, none, 0, hv⟩, by rw [List.length_map, HM.out]; have := HK2.out; omega⟩
          rw [List.map_eq_nil_iff]; exact List.length_eq_zero_iff.1 (by rw [HM.out]; exact h0)
        · refine ⟨Or.inr ⟨g, 0, cap, us, by rw [List.length_map, HM.out]; exact hv, by rw [List.length_map]; exact hul, fun j u hu => ?_, fun j u e hu he => ?_⟩, by rw [List.length_map, HM.out]; have := HK2.out; omega⟩
          · have hj := (List.getElem?_eq_some_iff.1 hu).1
            have hrow2 : wr.ownsRow w.heap.size 26 1 (.slice (some ⟨g, 0, none⟩) i cap) i us := by rw [← hv]; exact hrow
            rw [Nat.zero_add, hrow2.cellAt j (by rw [HI.out.2.2] at hj; omega)]; exact hu
          · have hj := (List.getElem?_eq_some_iff.1 hu).1
            rw [HU.out j (by rw [HI.out.2.2] at hj; exact hj)] at hu
            obtain rfl := Option.some.inj hu
            rw [List.getElem?_map] at he
            cases hkj : ks[j]? with
            | none => rw [hkj] at he; cases he
            | some k =>
              rw [hkj] at he
              obtain rfl := Option.some.inj he
              have hss := stK_succ hkj
              have hjl := (List.getElem?_eq_some_iff.1 hkj).1
              have hle2 := stK_le ks (j + 1) (by omega)
              have hnl := HK.out.1
              have := RdN.tail hcw HNN.out HK.out.2.1 HK.out.2.2 (stK ks j) (flat k).length (c - stK ks j) (by omega) (by have := HK.out.2.1; omega)
              have hdrop : (flat t).drop (stK ks j) = flat k ++ (ks.drop (j + 1)).flatMap flat := by
                rw [HFL.out, stK_drop]
                obtain ⟨hlk, rfl⟩ := List.getElem?_eq_some_iff.1 hkj
                rw [List.drop_eq_getElem_cons hlk, List.flatMap_cons]
              rw [hdrop, List.take_left] at this
              unfold opW
              rw [hkj]
              exact this
theorem enters_rf1 : ∀ args w, (callFunc 140 args).run Tryz.prog w = .ok (.enter 140 args) w := fun args w => by kernel_rfl
theorem rFmt_any (x0 : Int) (w : World) (h0 : -2147483648 < x0) (h1 : x0 < 2147483648) (s : ByteArray) (hs : (⟨(Fx.fmtL x0).toArray⟩ : ByteArray) = s) :
    Calls Tryz.prog 140 #[.int .i64 x0] w fun e w' => e = .returned (.string s) ∧ Below w.heap.size w w' := by
  subst hs
  exact rFormat1_any x0 (by omega) (by omega) w
set_option maxRecDepth 100000 in
set_option maxHeartbeats 8000000 in
theorem rFormatInterval_any (lo hi : Int) (w : World) (h : okIv lo hi = true) :
    Calls Tryz.prog 100 #[.agg #[.int .i64 lo, .int .i64 hi]] w fun e w' => (∃ s, e = .returned (.string s) ∧ s.data.toList = fmtIv lo hi) ∧ Below w.heap.size w w' := by
  have hrow := heap_alloc_last w (.cells #[.int .i64 lo, .int .i64 hi] 29)
  have hb0 : Below w.heap.size w (w.alloc (.cells #[.int .i64 lo, .int .i64 hi] 29)) := (Below.refl _ _).alloc (Nat.le_refl _) _
  have HOK := Aside.mk h
  have HB := Aside.mk hb0
  have HR := Aside.mk hrow
  have HF : Aside (fmtIv lo hi = if lo = -maxV ∧ hi = maxV then wAll else if lo = hi ∧ 0 ≤ lo then Fx.fmtL lo else [91] ++ Fx.fmtL lo ++ [44, 32] ++ Fx.fmtL hi ++ [93]) := ⟨rfl⟩
  clear h hb0 hrow
  go_enter Tryz.func100, Tryz.ntmps100
  go_wp2_with fail
  obtain ⟨g, hg⟩ : ∃ g, w.heap.size = g := ⟨_, rfl⟩
  have HG := Aside.mk hg
  rw [hg] at HR HB
  simp only [hg]
  generalize w.alloc (.cells #[.int .i64 lo, .int .i64 hi] 29) = W at HB HR ⊢
  refine (rIsEntire_any lo hi W).mono ?_
  rintro e w1 ⟨rfl, hb1⟩
  have HR1 := Aside.mk ((hb1.block _ (lt_of HR.out)).trans HR.out)
  have HB1 := Aside.mk (HB.out.trans (hb1.mono (Nat.le_of_lt (lt_of HR.out))))
  have c0 : w1.cell? ⟨g, 0, none⟩ = some (.int .i64 lo) := by rw [cell_of_row _ _ 0 _ _ _ HR1.out]; rfl
  have c1 : w1.cell? ⟨g, 1, none⟩ = some (.int .i64 hi) := by rw [cell_of_row _ _ 1 _ _ _ HR1.out]; rfl
  have hl : g < w1.heap.size := lt_of HR1.out
  clear hb1 HB HR hg
  obtain ⟨b, hb⟩ : ∃ b, isEnt lo hi = b := ⟨_, rfl⟩
  have HBE := Aside.mk hb
  rw [hb]
  clear hb
  cases b with
  | true =>
    go_wp2_with fail
    go_ret
    refine ⟨⟨_, rfl, ?_⟩, HG.out ▸ HB1.out⟩
    have := HBE.out
    unfold isEnt at this
    simp only [Bool.and_eq_true, beq_iff_eq] at this
    rw [HF.out, if_pos this]
    rfl
  | false =>
    have hne : ¬ (lo = -maxV ∧ hi = maxV) := by
      have := HBE.out
      unfold isEnt at this
      intro hh
      rw [hh.1, hh.2] at this
      exact absurd this (by decide)
    have hv : (vld lo && (vld hi && decide (lo ≤ hi))) = true := by
      have := HOK.out
      rw [okIv_eq, HBE.out, Bool.false_or] at this
      exact this
    unfold vld at hv
    simp only [Bool.and_eq_true, decide_eq_true_eq] at hv
    have HV := Aside.mk hv
    have HF : Aside (fmtIv lo hi = if lo = hi ∧ 0 ≤ lo then Fx.fmtL lo else [91] ++ Fx.fmtL lo ++ [44, 32] ++ Fx.fmtL hi ++ [93]) := ⟨by rw [HF.out, if_neg hne]⟩
    clear hne hv
    by_cases he : lo = hi ∧ 0 ≤ lo
    · obtain ⟨rfl, h0⟩ := he
      have hge : (0 : Int) ≤ lo := h0
      have HF2 : Aside (fmtIv lo lo = Fx.fmtL lo) := ⟨by rw [HF.out, if_pos ⟨rfl, h0⟩]⟩
      go_wp2_with fail
      refine (rFormat1_any lo (by have := HV.out; omega) (by have := HV.out; omega) w1).mono ?_
      rintro e w2 ⟨rfl, hb2⟩
      have HB2 := Aside.mk (HB1.out.trans (hb2.mono (HG.out ▸ HB1.out.size)))
      clear hb2
      go_wp2_with fail
      go_ret
      exact ⟨⟨_, rfl, by rw [HF2.out]⟩, HG.out ▸ HB2.out⟩
    · have HF : Aside (fmtIv lo hi = [91] ++ Fx.fmtL lo ++ [44, 32] ++ Fx.fmtL hi ++ [93]) := ⟨by rw [HF.out, if_neg he]⟩
      obtain ⟨A, hA⟩ : ∃ A : ByteArray, ⟨(Fx.fmtL lo).toArray⟩ = A := ⟨_, rfl⟩
      obtain ⟨Z, hZ⟩ : ∃ Z : ByteArray, ⟨(Fx.fmtL hi).toArray⟩ = Z := ⟨_, rfl⟩
      have hAs : A.size ≤ 23 := by rw [← hA]; exact fmtL_len (by have := HV.out; omega) (by have := HV.out; omega)
      have hZs : Z.size ≤ 23 := by rw [← hZ]; exact fmtL_len (by have := HV.out; omega) (by have := HV.out; omega)
      have HA := Aside.mk hA
      have HZ := Aside.mk hZ
      clear hA hZ
      by_cases hq : lo = hi
      case' pos =>
        have hge : ¬ (0 : Int) ≤ lo := fun h0 => he ⟨hq, h0⟩
        have hq2 : (lo == hi) = true := by simpa using hq
        clear hq he
        go_wp2_with fail
      case' neg =>
        have hq2 : (lo == hi) = false := by simpa using hq
        clear hq he
        go_wp2_with fail
      all_goals
      refine region_v [18, 19, 20, 21, 22, 23, 24, 25, 26, 27] 10 [.pointer (some ⟨g, 0, none⟩), .int .i64 lo, .string A, .string ((⟨#[91]⟩ : ByteArray) ++ A), .string (((⟨#[91]⟩ : ByteArray) ++ A) ++ (⟨#[44, 32]⟩ : ByteArray)), .pointer (some ⟨g, 1, none⟩), .int .i64 hi, .string Z, .string ((((⟨#[91]⟩ : ByteArray) ++ A) ++ (⟨#[44, 32]⟩ : ByteArray)) ++ Z), .string (((((⟨#[91]⟩ : ByteArray) ++ A) ++ (⟨#[44, 32]⟩ : ByteArray)) ++ Z) ++ (⟨#[93]⟩ : ByteArray))] rfl rfl ?_ ?_
      · iterate 2 (refine AllV.val rfl (fun w hb => by simp [execOp, Act.eval, kp hb c0, kp hb c1, go_sem]) ?_)
        refine AllV.call (fun w => run_call (args := #[.int .i64 lo]) enters_rf1 (by simp [Act.eval])) (fun w hb => (rFmt_any lo w (by have := HV.out; omega) (by have := HV.out; omega) A HA.out).mono (by rintro e w' ⟨rfl, hb2⟩; exact ⟨_, rfl, hb2, rfl⟩)) ?_
        refine AllV.val rfl (fun w hb => by simp [execOp, Act.eval, go_sem]; omega) ?_
        refine AllV.val rfl (fun w hb => by simp [execOp, Act.eval, go_sem]; omega) ?_
        iterate 2 (refine AllV.val rfl (fun w hb => by simp [execOp, Act.eval, kp hb c0, kp hb c1, go_sem]) ?_)
        refine AllV.call (fun w => run_call (args := #[.int .i64 hi]) enters_rf1 (by simp [Act.eval])) (fun w hb => (rFmt_any hi w (by have := HV.out; omega) (by have := HV.out; omega) Z HZ.out).mono (by rintro e w' ⟨rfl, hb2⟩; exact ⟨_, rfl, hb2, rfl⟩)) ?_
        refine AllV.val rfl (fun w hb => by simp [execOp, Act.eval, go_sem]; omega) ?_
        refine AllV.val rfl (fun w hb => by simp [execOp, Act.eval, go_sem]; omega) ?_
        exact AllV.nil
      intro w2 hb
      simp only [List.drop_succ_cons, List.drop_zero]
      have HH2 := Aside.mk hb
      clear hb
      have HB2 := Aside.mk (HB1.out.trans (HH2.out.mono (HG.out ▸ HB1.out.size)))
      go_wp2_with fail
      go_ret
      refine ⟨⟨_, rfl, ?_⟩, HG.out ▸ HB2.out⟩
      rw [HF.out, ← HA.out, ← HZ.out]
      simp [ByteArray.data_append]
set_option maxRecDepth 100000 in
set_option maxHeartbeats 16000000 in
theorem rFormatExpr_n {vars : List ByteArray} (hnm : ∀ x ∈ strL vars, okName x = true) : ∀ (n : Nat) (t : Tr), (flat t).length ≤ n → okT (strL vars) t → ∀ (v vn : Value) (w : World), RdN w v (flat t) → Strs w vn vars →
    Calls Tryz.prog 39 #[v, vn] w fun e' w' => (∃ s, e' = .returned (.string s) ∧ s.data.toList = fmtT (strL vars) t) ∧ Below w.heap.size w w'
  | 0, t, hn, _ => absurd (List.length_eq_zero_iff.1 (Nat.le_zero.1 hn)) (flat_ne t)
  | n + 1, t, hn, hok => by
    intro v vn w hrd hsv
    have IH : Aside (∀ k ∈ kids t, ∀ (v vn : Value) (w : World), RdN w v (flat k) → Strs w vn vars →
      Calls Tryz.prog 39 #[v, vn] w fun e' w' => (∃ s, e' = .returned (.string s) ∧ s.data.toList = fmtT (strL vars) k) ∧ Below w.heap.size w w') := ⟨fun k hk => rFormatExpr_n hnm n k (by have := kid_len hk; omega) (kids_ok hok k hk)⟩
    have HOK := Aside.mk hok
    have HNM := Aside.mk hnm
    have HRD := Aside.mk hrd
    have HSV := Aside.mk hsv
    have HAR := Aside.mk (kids_arity hok)
    have HKL : Aside (∀ k ∈ kids t, (fmtT (strL vars) k).length ≤ 252022) := ⟨fun k hk => by
      have h1 := fmtT_len hnm k (kids_ok hok k hk)
      have h2 := kid_len hk
      have h3 := hrd.few
      omega⟩
    clear hn hok hnm hrd hsv
    go_enter Tryz.func39, Tryz.ntmps39
    go_wp2_with fail
    refine (rOperands_any t HOK.out v w HRD.out).mono ?_
    rintro e' w1 ⟨vo, rfl, hfs, hb1⟩
    have HB1 := Aside.mk hb1
    obtain ⟨ao, c, rfl, hat⟩ := hfs.at
    have HFS := Aside.mk hfs
    have HAT := Aside.mk hat
    rw [List.length_map]
    obtain ⟨M, hM⟩ : ∃ M, (kids t).length = M := ⟨_, rfl⟩
    have hM2 : M ≤ 2 := by rw [← hM]; cases t <;> simp [kids]
    have HM := Aside.mk (And.intro hM hM2)
    rw [hM]
    clear hM hfs hat hb1
    go_wp2_with fail
    have HB0 : Aside (Below w1.heap.size w1 (w1.alloc (.cells #[] 9))) := ⟨(Below.refl _ _).alloc (Nat.le_refl _) _⟩
    have HO0 : Aside ((w1.alloc (.cells #[] 9)).ownsRow w1.heap.size 9 1 (.slice (some ⟨w1.heap.size, 0, none⟩) 0 0) 0 (([] : List ByteArray).map Value.string)) := ⟨⟨rfl, Or.inr ⟨w1.heap.size, 0, #[], rfl, Nat.le_refl _, heap_alloc_last _ _, Nat.le_refl _, by simp [maxLen], rfl, by simp⟩⟩⟩
    generalize w1.alloc (.cells #[] 9) = W1 at HB0 HO0 ⊢
    go_loopg [6, 7] M (fun m v6 v7 wr => ∃ (i : Nat) (xs : List ByteArray) (vz : Value), v6 = vz ∧ v7 = .int .i64 (i : Nat) ∧ Aside (i ≤ M ∧ M - i ≤ m ∧ xs.length = i) ∧ Aside (∀ j, j < i → ∃ k y, (kids t)[j]? = some k ∧ xs[j]? = some y ∧ y.data.toList = fmtT (strL vars) k) ∧ Aside (wr.ownsRow w1.heap.size 9 1 vz i (xs.map Value.string)) ∧ Aside (Below w1.heap.size w1 wr))
    case atStart => exact ⟨0, [], _, rfl, rfl, ⟨by simp⟩, ⟨fun j hj => by omega⟩, HO0, HB0⟩
    case round =>
      clear HO0 HB0
      obtain ⟨i, xs, vz, rfl, rfl, HI, HX, HO, HB⟩ := hrel
      obtain ⟨va, vl, vc, rfl⟩ := row_slice HO.out
      by_cases hi : i < M
      · have hi' : (i : Int) < (M : Int) := by omega
        have hi2 : i < M := hi
        obtain ⟨k, hk⟩ : ∃ k, (kids t)[i]? = some k := ⟨_, List.getElem?_eq_getElem (by rw [HM.out.1]; exact hi)⟩
        have HK := Aside.mk hk
        obtain ⟨b, o, u, rfl, hu, hru⟩ := HAT.out i (flat k) (by rw [List.getElem?_map, hk]; rfl)
        have hi6 : (i : Int) < 9223372036854775807 := by have := HM.out.2; omega
        have hu' : wr.cell? ⟨b, o + i, none⟩ = some u := by rw [HB.out.cell (p := ⟨b, o + i, none⟩) (World.block_lt_of_cell? w1 _ hu)]; exact hu
        obtain ⟨au, cu, rfl⟩ := hru.slice
        have HRU := Aside.mk (hru.below HB.out)
        clear hk hu hru hi
        go_wp2_with fail
        have hbw : Below w.heap.size w wr := HB1.out.trans (HB.out.mono HB1.out.size)
        refine (IH.out k (List.mem_of_getElem? HK.out) _ vn wr HRU.out (HSV.out.below hbw)).mono ?_
        rintro e' w2 ⟨⟨y, rfl, hy⟩, hb2⟩
        have HY := Aside.mk hy
        have HO2 := Aside.mk (owns_below HO.out hb2)
        have HB2 := Aside.mk (HB.out.trans (hb2.mono HB.out.size))
        have hal : Below w2.heap.size w2 (w2.alloc (.cells #[.string y] 9)) := (Below.refl _ _).alloc (Nat.le_refl _) _
        have HRK := Aside.mk (heap_alloc_last w2 (.cells #[.string y] 9))
        have HO3 := Aside.mk (owns_below HO2.out hal)
        have HB3 := Aside.mk (HB2.out.trans (hal.mono HB2.out.size))
        clear hb2 hal hy hbw
        go_wp2_with (first | (at_builtin; refine wpList_append_str _ rfl (.tmp 17) (.tmp 24) rfl w1.heap.size _ xs i HI.out.2.2 rfl HO3.out _ _ rfl HRK.out (by have := HI.out; have := HM.out.2; omega) HB3.out.size ?_; intro ao5 cap w4 ho4 hb4))
        obtain ⟨go, hgo⟩ : ∃ go, gk = go + 1 := ⟨gk - 1, by have := HI.out; omega⟩
        have HX4 : Aside (∀ j, j < i + 1 → ∃ k z, (kids t)[j]? = some k ∧ (xs ++ [y])[j]? = some z ∧ z.data.toList = fmtT (strL vars) k) := ⟨fun j hj => by
          have hul := HI.out.2.2
          by_cases hji : j < i
          · obtain ⟨k2, z, h1, h2, h3⟩ := HX.out j hji
            exact ⟨k2, z, h1, by rw [List.getElem?_append_left (by omega)]; exact h2, h3⟩
          · have hje : j = i := by omega
            subst hje
            exact ⟨k, y, HK.out, by rw [List.getElem?_append_right (by omega), hul, Nat.sub_self]; rfl, HY.out⟩⟩
        have HO4 := Aside.mk ho4
        have HB4 := Aside.mk (HB3.out.trans hb4)
        clear ho4 hb4
        go_roundg go
        case measure => omega
        case rel => exact ⟨i + 1, xs ++ [y], _, rfl, rfl, ⟨by have := HI.out; simp; omega⟩, HX4, HO4, HB4⟩
      · have hi' : ¬ ((i : Int) < (M : Int)) := by omega
        have him : i = M := by have := HI.out; omega
        subst him
        have hfew := HRD.out.few
        rcases HRD.out.out with ⟨h0, -⟩ | ⟨b, o, c2, rfl, hcp, hc⟩
        · exact absurd h0 (flat_ne t)
        have hbw : Below w.heap.size w wr := HB1.out.trans (HB.out.mono HB1.out.size)
        have HBW := Aside.mk hbw
        have hx0 : (flat t)[0]? = some (hdN t) := by rw [flat_kids]; rfl
        have cell : ∀ r, r < 4 → ∀ u, (nd4 (hdN t))[r]? = some u → wr.cell? ⟨b, o + (0 * 4 + r), none⟩ = some u := fun r hr u hu => by
          have := hc (0 * 4 + r) u (by rw [nds_get _ 0 _ r hx0 hr]; exact hu)
          rw [hbw.cell (p := ⟨b, o + (0 * 4 + r), none⟩) (World.block_lt_of_cell? w _ this)]; exact this
        have c0 := cell 0 (by decide) _ rfl
        have c1 := cell 1 (by decide) _ rfl
        have c2' := cell 2 (by decide) _ rfl
        have c3 := cell 3 (by decide) _ rfl
        simp only [Nat.zero_mul, Nat.zero_add, Nat.add_zero] at c0 c1 c2' c3
        have HSV2 := Aside.mk (HSV.out.below hbw)
        obtain ⟨nn, hnn⟩ : ∃ nn, (flat t).length = nn := ⟨_, rfl⟩
        have hnpos : (0 : Int) < (nn : Int) := by have := flat_pos t; omega
        rw [hnn]
        clear hc hx0 cell hbw hcp hfew HRD IH hnn
        simp only [kids] at HM HX HKL
        cases t with
        | num lo hi =>
            simp only [hdN] at c0 c1 c2' c3
            go_wp2_with fail
            refine (rFormatInterval_any lo hi wr HOK.out).mono ?_
            rintro e' w5 ⟨⟨y, rfl, hy⟩, hb5⟩
            go_wp2_with fail
            go_ret
            exact ⟨⟨_, rfl, hy⟩, HBW.out.trans (hb5.mono HBW.out.size)⟩
        | var m =>
            simp only [hdN] at c0 c1 c2' c3
            have hm : m < vars.length := by have : m < (strL vars).length := HOK.out; simpa [strL] using this
            obtain ⟨y, hy⟩ : ∃ y, vars[m]? = some y := ⟨_, List.getElem?_eq_getElem hm⟩
            obtain ⟨av, cv, rfl, hv⟩ := HSV2.out.at
            obtain ⟨bv, ov, rfl, cy⟩ := hv m y hy
            have HY : Aside (y.data.toList = fmtT (strL vars) (.var m)) := ⟨by unfold fmtT strL; rw [List.getD_eq_getElem?_getD, List.getElem?_map, hy]; rfl⟩
            have hm0 : (0 : Int) ≤ (m : Int) := by omega
            obtain ⟨nv, hnv⟩ : ∃ nv, vars.length = nv := ⟨_, rfl⟩
            rw [hnv] at hm ⊢
            have hm1 : (m : Int) < (nv : Int) := by omega
            clear hy hv hnv
            go_wp2_with fail
            go_ret
            exact ⟨⟨_, rfl, HY.out⟩, HBW.out⟩
        | time =>
            simp only [hdN] at c0 c1 c2' c3
            go_wp2_with fail
            go_ret
            exact ⟨⟨_, rfl, rfl⟩, HBW.out⟩
        | un op a =>
            simp only [hdN] at c0 c1 c2' c3
            obtain rfl : 1 = i := HM.out.1
            obtain ⟨k, y, hk, hxy, hy⟩ := HX.out 0 (by decide)
            obtain rfl : a = k := Option.some.inj hk
            have HY := Aside.mk hy
            have hys : y.size ≤ 252022 := by
              have := HKL.out a (List.mem_singleton.2 rfl)
              rw [← hy] at this; exact this
            obtain ⟨b5, c5, hv5, h5⟩ := strs_own HO.out HI.out.2.2 (by decide)
            injection hv5 with q1 q2 q3
            subst q1; subst q2; subst q3
            have cy := h5 0 y hxy
            have hop := HOK.out.1
            clear hk hxy hy h5
            rcases (show op = 4 ∨ op = 5 ∨ op = 6 by omega) with rfl | rfl | rfl
            all_goals
            go_wp2_with fail
            go_ret
            refine ⟨⟨_, rfl, ?_⟩, HBW.out⟩
            simp [fmtT, ← HY.out, wSqr, wSqrt, ByteArray.data_append]
        | bin op a z =>
          simp only [hdN] at c0 c1 c2' c3
          obtain rfl : 2 = i := HM.out.1
          obtain ⟨k, X, hk, hxy, hy⟩ := HX.out 0 (by decide)
          obtain rfl : a = k := Option.some.inj hk
          obtain ⟨k, Y, hk2, hxz, hz⟩ := HX.out 1 (by decide)
          obtain rfl : z = k := Option.some.inj hk2
          have HY := Aside.mk (And.intro hy hz)
          have hys : X.size ≤ 252022 := by
            have := HKL.out a (List.mem_cons_self ..)
            rw [← hy] at this; exact this
          have hzs : Y.size ≤ 252022 := by
            have := HKL.out z (List.mem_cons_of_mem _ (List.mem_singleton.2 rfl))
            rw [← hz] at this; exact this
          obtain ⟨bn, cn, hv5, h5⟩ := strs_own HO.out HI.out.2.2 (by decide)
          injection hv5 with q1 q2 q3
          subst q1; subst q2; subst q3
          have p0 := h5 0 X hxy
          have p1 := h5 1 Y hxz
          have hop := HOK.out.1
          have hop4 : op = 7 ∨ op = 8 ∨ op = 9 ∨ op = 10 := by omega
          obtain ⟨D, hD⟩ : ∃ D : ByteArray, (⟨#[opCh op]⟩ : ByteArray) = D := ⟨_, rfl⟩
          have hDs : D.size = 1 := by rw [← hD]; rfl
          have HDD := Aside.mk hD
          have HCC : Aside ((#[.int .u8 ((opCh op).toNat : Nat)] : Array Value) = (Lib.byteCells [opCh op]).toArray) := ⟨rfl⟩
          have n1 : ¬ op = 1 := by omega
          have n2 : ¬ op = 2 := by omega
          have n3 : ¬ op = 3 := by omega
          have n4 : ¬ op = 4 := by omega
          have n5 : ¬ op = 5 := by omega
          have n6 : ¬ op = 6 := by omega
          have HOP4 := Aside.mk hop4
          clear hk hk2 hxy hxz hy hz h5 hD hop4 hop
          go_wp2_with fail
          have hop4 := HOP4.out
          have hop7 : wrap64 (op - 7) = op - 7 := by unfold wrap64; omega
          have hnp0 : ¬ nn = 0 := by omega
          have hop8 : IntKind.i64.wrap (op - 7) = op - 7 := IntWalk.i64_in _ (by omega)
          refine region_u (T := tab2 [Sq.val (.slice (some ⟨bn, 0, none⟩) 2 vc), Sq.val (.pointer (some ⟨bn, 0, none⟩)), Sq.val (.string X), Sq.val (.string ((⟨#[40]⟩ : ByteArray) ++ X)), Sq.val (.string (((⟨#[40]⟩ : ByteArray) ++ X) ++ (⟨#[32]⟩ : ByteArray))), Sq.val (.slice (some ⟨b, o, none⟩) nn c2), Sq.val (.pointer (some ⟨b, o, none⟩)), Sq.val (.pointer (some ⟨b, o, none⟩)), Sq.val (.int .i64 op), Sq.val (.int .i64 (op - 7)), Sq.val (.int .u8 ((opCh op).toNat : Nat)), Sq.row wr.heap.size #[.int .u8 ((opCh op).toNat : Nat)] 5 1 1, Sq.val (.string D), Sq.val (.string ((((⟨#[40]⟩ : ByteArray) ++ X) ++ (⟨#[32]⟩ : ByteArray)) ++ D)), Sq.val (.string (((((⟨#[40]⟩ : ByteArray) ++ X) ++ (⟨#[32]⟩ : ByteArray)) ++ D) ++ (⟨#[32]⟩ : ByteArray))), Sq.val (.slice (some ⟨bn, 0, none⟩) 2 vc), Sq.val (.pointer (some ⟨bn, 1, none⟩)), Sq.val (.string Y), Sq.val (.string ((((((⟨#[40]⟩ : ByteArray) ++ X) ++ (⟨#[32]⟩ : ByteArray)) ++ D) ++ (⟨#[32]⟩ : ByteArray)) ++ Y)), Sq.val (.string (((((((⟨#[40]⟩ : ByteArray) ++ X) ++ (⟨#[32]⟩ : ByteArray)) ++ D) ++ (⟨#[32]⟩ : ByteArray)) ++ Y) ++ (⟨#[41]⟩ : ByteArray)))]) [69, 70, 71, 72, 73, 74, 75, 76, 77, 78, 79, 80, 81, 82, 83, 84, 85, 86, 87, 88] 20 (tells_q _) rfl rfl ?_ ?_
          · iterate 3 (refine AllV.val rfl (fun w hb => by simp [execOp, Act.eval, kp hb p0, hnpos, hnp0, kp hb c0, hop7, hop8, kp hb p1, go_sem]) ?_)
            refine AllV.val rfl (fun w hb => by simp [execOp, Act.eval, go_sem]; omega) ?_
            refine AllV.val rfl (fun w hb => by simp [execOp, Act.eval, go_sem]; omega) ?_
            iterate 5 (refine AllV.val rfl (fun w hb => by simp [execOp, Act.eval, kp hb p0, hnpos, hnp0, kp hb c0, hop7, hop8, kp hb p1, go_sem]) ?_)
            refine AllV.val rfl (fun w hb => by rcases hop4 with rfl | rfl | rfl | rfl <;> simp [execOp, Act.eval, opCh, go_sem] <;> rfl) ?_
            refine AllV.make (fun w hb => ⟨_, _, by simp [execOp, Act.eval, go_sem], ((Below.refl _ _).alloc (Nat.le_refl _) _), ⟨_, hb.size, rfl, heap_alloc_last _ _⟩⟩) ?_
            refine AllV.cons ?_ ?_
            · intro a w hz hb ho hg
              have e80 := (got_of hg (j := 11) rfl rfl rfl : Rg.Tab.S _ _ (a.tmps.getD 80 undef) w)
              obtain ⟨gq, Gq, eq, Rq⟩ := e80; have f80 : a.tmps[80]?.getD undef = .slice (some ⟨gq, 0, none⟩) 1 1 := (by rw [← Array.getD_eq_getD_getElem?]; exact eq); exact Or.inl ⟨wanted_none rfl, wp_value hb.size (by have hcv := conv_row (L := [opCh op]) (by rw [Rq, HCC.out]) 1 1 rfl; simp [execOp, Act.eval, f80, hcv, HDD.out, go_sem]) (Below.refl _ _) rfl⟩
            refine AllV.val rfl (fun w hb => by simp [execOp, Act.eval, go_sem]; omega) ?_
            refine AllV.val rfl (fun w hb => by simp [execOp, Act.eval, go_sem]; omega) ?_
            iterate 3 (refine AllV.val rfl (fun w hb => by simp [execOp, Act.eval, kp hb p0, hnpos, hnp0, kp hb c0, hop7, hop8, kp hb p1, go_sem]) ?_)
            refine AllV.val rfl (fun w hb => by simp [execOp, Act.eval, go_sem]; omega) ?_
            refine AllV.val rfl (fun w hb => by simp [execOp, Act.eval, go_sem]; omega) ?_
            exact AllV.nil
          intro us w2 hb hus fu hfu
          obtain ⟨g80, G80, e80, R80⟩ := hus 11 (by decide)
          rw [mrg_of (by kernel_rfl)] at hfu
          simp only [mrg, List.map_cons, List.map_nil, Sq.told, Option.getD_some, Option.getD_none, Nat.reduceAdd, Nat.reduceEqDiff, ↓reduceIte, e80] at hfu
          subst hfu
          clear hus e80
          simp only [List.drop_succ_cons, List.drop_zero]
          have HH2 := Aside.mk hb
          clear hb
          have HB9 := Aside.mk (HBW.out.trans (HH2.out.mono HBW.out.size))
          go_wp2_with fail
          go_ret
          refine ⟨⟨_, rfl, ?_⟩, HB9.out⟩
          simp [fmtT, ← HY.out.1, ← HY.out.2, ← HDD.out, ByteArray.data_append]
theorem rFE_any {vars : List ByteArray} (hnm : ∀ x ∈ strL vars, okName x = true) (t : Tr) (hok : okT (strL vars) t) (v vn : Value) (w : World) (h : RdN w v (flat t)) (hv : Strs w vn vars) (S : ByteArray) (hS : S.data.toList = fmtT (strL vars) t) :
    Calls Tryz.prog 39 #[v, vn] w fun e' w' => e' = .returned (.string S) ∧ Below w.heap.size w w' := by
  refine (rFormatExpr_n hnm _ t (Nat.le_refl _) hok v vn w h hv).mono ?_
  rintro e' w' ⟨⟨s, rfl, hs⟩, hb⟩
  refine ⟨?_, hb⟩
  rw [mk_str hs, mk_str hS]
theorem enters_rfe : ∀ args w, (callFunc 39 args).run Tryz.prog w = .ok (.enter 39 args) w := fun args w => by kernel_rfl
set_option maxRecDepth 100000 in
set_option maxHeartbeats 8000000 in
theorem rFormat_any {names : List ByteArray} (ts : List Tr) (hnm : ∀ x ∈ strL names, okName x = true) (hl : names.length = ts.length) (hok : ∀ t ∈ ts, okT (strL names) t) (h6 : names.length ≤ 6) (vn vf : Value) (w : World) (hn : Strs w vn names) (hf : Fs w vf (ts.map flat)) :
    Calls Tryz.prog 38 #[.agg #[vn, vf]] w fun e w' => (∃ s, e = .returned (.string s) ∧ s.data.toList = fmtS (strL names) (strL names) ts) ∧ Below w.heap.size w w' := by
  obtain ⟨av, cv, hvn, hna⟩ := hn.at
  obtain ⟨af, cf, hvf, hfa⟩ := hf.at
  rw [List.length_map, ← hl] at hvf
  have HNM := Aside.mk hnm
  have HOK := Aside.mk hok
  have HLN := Aside.mk hl
  have HSN := Aside.mk hn
  have HFL : Aside (∀ t ∈ ts, (flat t).length ≤ 9000) := ⟨fun t htm => by
    obtain ⟨i, hi⟩ := List.mem_iff_getElem?.1 htm
    obtain ⟨b, o, u, -, -, hr⟩ := hfa i (flat t) (by rw [List.getElem?_map, hi]; rfl)
    exact hr.few⟩
  have HNA := Aside.mk hna
  have HFA := Aside.mk hfa
  obtain ⟨M, hM⟩ : ∃ M, names.length = M := ⟨_, rfl⟩
  have HM := Aside.mk hM
  rw [hM] at hvn hvf h6 hl
  subst hvn hvf
  have H6 := Aside.mk h6
  clear hnm hok hn hna hfa hM hl hf
  have hal : Below w.heap.size w (w.alloc (.cells #[.slice av M cv, .slice af M cf] 25)) := (Below.refl _ _).alloc (Nat.le_refl _) _
  have HR := Aside.mk (heap_alloc_last w (.cells #[.slice av M cv, .slice af M cf] 25))
  have HB := Aside.mk hal
  clear hal
  go_enter Tryz.func38, Tryz.ntmps38
  go_wp2_with fail
  obtain ⟨g, hg⟩ : ∃ g, w.heap.size = g := ⟨_, rfl⟩
  have HG := Aside.mk hg
  rw [hg] at HR HB
  simp only [hg]
  generalize w.alloc (.cells #[.slice av M cv, .slice af M cf] 25) = W at HR HB ⊢
  clear hg
  have hM6 : (M : Int) ≤ 6 := by omega
  go_loopg [3, 4] M (fun m v3 v4 wr => ∃ (i : Nat) (S : ByteArray), v3 = .string S ∧ v4 = .int .i64 (i : Nat) ∧ Aside (i ≤ M ∧ M - i ≤ m) ∧ Aside (S.data.toList = fmtS ((strL names).take i) (strL names) (ts.take i)) ∧ Aside (S.size ≤ i * 252100) ∧ Aside (Below W.heap.size W wr))
  case atStart => exact ⟨0, ⟨#[]⟩, rfl, rfl, ⟨by simp⟩, ⟨by cases names <;> cases ts <;> simp [fmtS, strL]⟩, ⟨by simp [ByteArray.size]⟩, ⟨Below.refl _ _⟩⟩
  case round =>
    obtain ⟨i, S, rfl, rfl, HI, HS, HSZ, HBW⟩ := hrel
    have hgl : g < W.heap.size := lt_of HR.out
    have HWR : Aside (Below w.heap.size w wr) := ⟨HG.out ▸ HB.out.trans (HBW.out.mono (Nat.le_of_lt hgl))⟩
    have hrr := (HBW.out.block _ hgl).trans HR.out
    have k0 : wr.cell? ⟨g, 0, none⟩ = some (.slice av M cv) := by rw [cell_of_row _ _ 0 _ _ _ hrr]; rfl
    have k1 : wr.cell? ⟨g, 1, none⟩ = some (.slice af M cf) := by rw [cell_of_row _ _ 1 _ _ _ hrr]; rfl
    have hlg : g < wr.heap.size := lt_of hrr
    clear hrr hgl
    by_cases hi : i < M
    · have hi' : (i : Int) < (M : Int) := by omega
      have hi6 : (i : Int) < 9223372036854775807 := by omega
      obtain ⟨x, hx⟩ : ∃ x, names[i]? = some x := ⟨_, List.getElem?_eq_getElem (by rw [HM.out]; exact hi)⟩
      obtain ⟨t, ht⟩ : ∃ t, ts[i]? = some t := ⟨_, List.getElem?_eq_getElem (by rw [← HLN.out, HM.out]; exact hi)⟩
      obtain ⟨bv, ov, rfl, hcx⟩ := HNA.out i x hx
      obtain ⟨bf, of', u, rfl, hcu, hru⟩ := HFA.out i (flat t) (by rw [List.getElem?_map, ht]; rfl)
      have cx : wr.cell? ⟨bv, ov + i, none⟩ = some (.string x) := by rw [HWR.out.cell (p := ⟨bv, ov + i, none⟩) (World.block_lt_of_cell? w _ hcx)]; exact hcx
      have cu : wr.cell? ⟨bf, of' + i, none⟩ = some u := by rw [HWR.out.cell (p := ⟨bf, of' + i, none⟩) (World.block_lt_of_cell? w _ hcu)]; exact hcu
      obtain ⟨au, lu, ru, rfl⟩ : ∃ au lu ru, u = .slice au lu ru := by obtain ⟨a, c, h⟩ := hru.slice; exact ⟨a, _, c, h⟩
      have HRU := Aside.mk (hru.below HWR.out)
      have HSV := Aside.mk (HSN.out.below HWR.out)
      have okt := HOK.out t (List.mem_of_getElem? ht)
      have HOT := Aside.mk okt
      obtain ⟨F, hF⟩ : ∃ F : ByteArray, F.data.toList = fmtT (strL names) t := ⟨⟨(fmtT (strL names) t).toArray⟩, by simp⟩
      have HFF := Aside.mk hF
      have hFs : F.size ≤ 252022 := by
        have h1 := fmtT_len HNM.out t okt
        have h2 := HFL.out t (List.mem_of_getElem? ht)
        have : F.size = (fmtT (strL names) t).length := by rw [← hF]; rfl
        omega
      have hxs : x.size ≤ 12 := by
        have := HNM.out x.data.toList (List.mem_map.2 ⟨x, List.mem_of_getElem? hx, rfl⟩)
        unfold okName at this
        simp only [Bool.and_eq_true, decide_eq_true_eq] at this
        exact this.1.1.1.2
      have hSs : S.size ≤ 1512600 := by have := HSZ.out; have := H6.out; omega
      have HXS := Aside.mk (And.intro hxs hFs)
      have HTK : Aside (fmtS ((strL names).take (i + 1)) (strL names) (ts.take (i + 1)) = fmtS ((strL names).take i) (strL names) (ts.take i) ++ (x.data.toList ++ [39, 32, 61, 32] ++ fmtT (strL names) t ++ [10])) := ⟨fmtS_take_succ _ _ _ _ _ _ (by unfold strL; rw [List.getElem?_map, hx]; rfl) ht⟩
      clear hx ht hcx hcu hru okt hF hi
      go_wp2_with fail
      refine region_v [12, 13, 14, 15, 16, 17, 18, 19, 20, 21, 22, 23, 24, 25, 26, 27, 28, 29] 18 [.string S, .pointer (some ⟨g, 0, none⟩), .slice (some ⟨bv, ov, none⟩) M cv, .int .i64 (i : Nat), .pointer (some ⟨bv, ov + i, none⟩), .string x, .string (S ++ x), .string ((S ++ x) ++ (⟨#[39, 32, 61, 32]⟩ : ByteArray)), .pointer (some ⟨g, 1, none⟩), .slice (some ⟨bf, of', none⟩) M cf, .int .i64 (i : Nat), .pointer (some ⟨bf, of' + i, none⟩), .slice au lu ru, .pointer (some ⟨g, 0, none⟩), .slice (some ⟨bv, ov, none⟩) M cv, .string F, .string (((S ++ x) ++ (⟨#[39, 32, 61, 32]⟩ : ByteArray)) ++ F), .string ((((S ++ x) ++ (⟨#[39, 32, 61, 32]⟩ : ByteArray)) ++ F) ++ (⟨#[10]⟩ : ByteArray))] rfl rfl ?_ ?_
      · iterate 6 (refine AllV.val rfl (fun w hb => by simp [execOp, Act.eval, kp hb k0, hi', kp hb cx, kp hb k1, kp hb cu, go_sem]) ?_)
        refine AllV.val rfl (fun w hb => by simp [execOp, Act.eval, go_sem]; omega) ?_
        refine AllV.val rfl (fun w hb => by simp [execOp, Act.eval, go_sem]; omega) ?_
        iterate 7 (refine AllV.val rfl (fun w hb => by simp [execOp, Act.eval, kp hb k0, hi', kp hb cx, kp hb k1, kp hb cu, go_sem]) ?_)
        refine AllV.call (fun w => run_call (args := #[.slice au lu ru, .slice (some ⟨bv, ov, none⟩) M cv]) enters_rfe (by simp [Act.eval])) (fun w hb => (rFE_any HNM.out t HOT.out _ _ w (HRU.out.below hb) (HSV.out.below hb) F HFF.out).mono (by rintro e w' ⟨rfl, hb2⟩; exact ⟨_, rfl, hb2, rfl⟩)) ?_
        refine AllV.val rfl (fun w hb => by simp [execOp, Act.eval, go_sem]; omega) ?_
        refine AllV.val rfl (fun w hb => by simp [execOp, Act.eval, go_sem]; omega) ?_
        exact AllV.nil
      intro w2 hb
      simp only [List.drop_succ_cons, List.drop_zero]
      have HH2 := Aside.mk hb
      clear hb
      have HB2 := Aside.mk (HBW.out.trans (HH2.out.mono HBW.out.size))
      clear k0 k1 cx cu hlg
      go_wp2_with fail
      obtain ⟨go, hgo⟩ : ∃ go, gk = go + 1 := ⟨gk - 1, by have := HI.out; omega⟩
      go_roundg go
      case measure => omega
      case rel => exact ⟨i + 1, _, rfl, rfl, ⟨by have := HI.out; omega⟩, ⟨by rw [HTK.out, ← HS.out, ← HFF.out]; simp [ByteArray.data_append]⟩, ⟨by have := HSZ.out; have := HXS.out; simp only [ByteArray.size_append]; show S.size + x.size + 4 + F.size + 1 ≤ _; omega⟩, HB2⟩
    · have hi' : ¬ ((i : Int) < (M : Int)) := by omega
      have him : i = M := by have := HI.out; omega
      subst him
      have HT : Aside (S.data.toList = fmtS (strL names) (strL names) ts) := ⟨by
        rw [HS.out, List.take_of_length_le (by unfold strL; rw [List.length_map, HM.out]; exact Nat.le_refl _), List.take_of_length_le (by rw [← HLN.out, HM.out]; exact Nat.le_refl _)]⟩
      clear hi
      go_wp2_with fail
      go_ret
      exact ⟨⟨_, rfl, HT.out⟩, HWR.out⟩
end Go.Proofs.YthcidkidpiaomaaGreatDoor.Od
end
