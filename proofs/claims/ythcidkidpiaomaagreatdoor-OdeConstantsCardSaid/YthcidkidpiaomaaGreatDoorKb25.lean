/- OeH OeI OeJ -/
import Derived.Test.YthcidkidpiaomaaGreatDoorKb24
import Derived.Test.YthcidkidpiaomaaGreatDoorKb09
section
set_option linter.unusedVariables false
set_option linter.unusedSimpArgs false
namespace Go.Proofs.YthcidkidpiaomaaGreatDoor.Od
open Go.RowKit Rg
def kids : Tr → List Tr
  | .un _ a => [a]
  | .bin _ a b => [a, b]
  | _ => []
def hdN : Tr → Nd
  | .num lo hi => ⟨1, 0, lo, hi⟩
  | .var n => ⟨2, n, 0, 0⟩
  | .time => ⟨3, 0, 0, 0⟩
  | .un op _ => ⟨op, 0, 0, 0⟩
  | .bin op _ _ => ⟨op, 0, 0, 0⟩
theorem flat_kids (t : Tr) : flat t = hdN t :: (kids t).flatMap flat := by cases t <;> simp [flat, hdN, kids]
theorem kids_arity {vars : List (List UInt8)} {t : Tr} (h : okT vars t) : arity (hdN t).op = (kids t).length := by
  cases t with
  | num lo hi => rfl
  | var n => rfl
  | time => rfl
  | un op a => obtain ⟨hop, -⟩ := h; unfold arity hdN; simp only; rw [if_neg (by omega), if_pos hop]; rfl
  | bin op a b => obtain ⟨hop, -⟩ := h; unfold arity hdN; simp only; rw [if_neg (by omega), if_neg (by omega), if_pos hop]; rfl
theorem kids_ok {vars : List (List UInt8)} {t : Tr} (h : okT vars t) : ∀ k ∈ kids t, okT vars k := by
  cases t with
  | num lo hi => intro k hk; cases hk
  | var n => intro k hk; cases hk
  | time => intro k hk; cases hk
  | un op a => intro k hk; obtain rfl := List.mem_singleton.1 hk; exact h.2
  | bin op a b =>
    intro k hk
    rcases List.mem_cons.1 hk with rfl | hk
    · exact h.2.1
    · obtain rfl := List.mem_singleton.1 hk; exact h.2.2
def stK (ks : List Tr) (i : Nat) : Nat := 1 + ((ks.take i).map fun k => (flat k).length).sum
theorem stK_succ {ks : List Tr} {i : Nat} {k : Tr} (h : ks[i]? = some k) : stK ks (i + 1) = stK ks i + (flat k).length := by
  unfold stK
  rw [List.take_add_one, h]
  simp; omega
theorem stK_drop (x : Nd) : ∀ (ks : List Tr) (i : Nat), (x :: ks.flatMap flat).drop (stK ks i) = (ks.drop i).flatMap flat
  | ks, 0 => by simp [stK]
  | [], i + 1 => by simp [stK]
  | k :: ks, i + 1 => by
    have ih := stK_drop x ks i
    have e : stK (k :: ks) (i + 1) = (flat k).length + stK ks i := by unfold stK; simp; omega
    have e2 : (x :: (k :: ks).flatMap flat).drop ((flat k).length + stK ks i) = (x :: ks.flatMap flat).drop (stK ks i) := by
      have h1 : 1 ≤ stK ks i := by unfold stK; omega
      obtain ⟨m, hm⟩ : ∃ m, stK ks i = m + 1 := ⟨stK ks i - 1, by omega⟩
      rw [hm, show (flat k).length + (m + 1) = ((flat k).length + m) + 1 by omega, List.drop_succ_cons, List.drop_succ_cons, List.flatMap_cons, ← List.drop_drop, List.drop_left]
    rw [e, e2, ih, List.drop_succ_cons]
theorem stK_le (ks : List Tr) (i : Nat) (hi : i ≤ ks.length) : stK ks i ≤ 1 + (ks.flatMap flat).length := by
  have h := congrArg List.length (stK_drop ⟨0, 0, 0, 0⟩ ks i)
  rw [List.length_drop, List.length_cons] at h
  unfold stK at *
  have h2 : ((ks.take i).map fun k => (flat k).length).sum ≤ (ks.flatMap flat).length := by
    conv => rhs; rw [← List.take_append_drop i ks, List.flatMap_append, List.length_append]
    rw [List.length_flatMap]; omega
  omega
theorem RdN.tail {w : World} {b o c n : Nat} {e : List Nd} (hc : ∀ j u, (nds e)[j]? = some u → w.cell? ⟨b, o + j, none⟩ = some u) (hn : e.length = n) (hnc : n ≤ c) (hf : n ≤ 9000) (st m c' : Nat) (hst : st + m ≤ n) (hc' : m ≤ c') :
    RdN w (.slice (some ⟨b, o + st * 4, none⟩) m c') ((e.drop st).take m) := by
  have hl : ((e.drop st).take m).length = m := by rw [List.length_take, List.length_drop]; omega
  refine ⟨Or.inr ⟨b, o + st * 4, c', by rw [hl], by rw [hl]; exact hc', fun j u hu => ?_⟩, by omega⟩
  have hj : j < m * 4 := by have := (List.getElem?_eq_some_iff.1 hu).1; rw [nds_len, hl] at this; exact this
  have hq : (e.drop st).take m = (e.drop st).take m := rfl
  obtain ⟨i, r, hr, hjr⟩ : ∃ i r, r < 4 ∧ j = i * 4 + r := ⟨j / 4, j % 4, Nat.mod_lt _ (by decide), by omega⟩
  have him : i < m := by omega
  obtain ⟨x, hx⟩ : ∃ x, ((e.drop st).take m)[i]? = some x := ⟨_, List.getElem?_eq_getElem (by omega)⟩
  have hx2 : e[st + i]? = some x := by rw [List.getElem?_take_of_lt him, List.getElem?_drop] at hx; exact hx
  rw [hjr, nds_get _ i x r hx hr] at hu
  have := hc ((st + i) * 4 + r) u (by rw [nds_get e (st + i) x r hx2 hr]; exact hu)
  rw [show o + st * 4 + j = o + ((st + i) * 4 + r) by omega]; exact this
theorem wpList_append_sl (w : World) {ops : Array Oper} {rest : List Oper} {o : Oper} {a : Act} {Q : Exit → Act → World → Prop} (hg : o.guard = none) (p x : Operand) (hop : o.op = Op.call { callee := Callee.builtin Builtin.append, args := #[p, x], argTypes := #[23, 23] })
    (base : Nat) (v : Value) (us : List Value) (n : Nat) (hn : us.length = n) (hs : a.eval p = v) (h : w.ownsRow base 26 1 v n us) (ao : Option Addr) (l c : Nat) (gk : Nat) (hx : a.eval x = .slice (some ⟨gk, 0, none⟩) 1 1)
    (hr : w.heap[gk]? = some (.cells #[.slice ao l c] 26 (0, 0))) (hbd : n ≤ 9000) (hbase : base ≤ w.heap.size)
    (hK : ∀ ao2 cap w', w'.ownsRow base 26 1 (.slice ao2 (n + 1) cap) (n + 1) (us ++ [.slice ao l c]) → Below base w w' → wpList Tryz.prog ops Q rest (a.put o.dst (.slice ao2 (n + 1) cap)) w') :
    wpList Tryz.prog ops Q (o :: rest) a w := by
  subst hn
  obtain ⟨i0, hi, hz0, hz1, hz2⟩ := info_parts' info_sums
  have hcell : ∀ (j : Nat) (u : Value), [Value.slice ao l c][j]? = some u → w.cell? ((⟨gk, 0, none⟩ : Addr).add j) = some u := by
    intro j u hu
    cases j with
    | zero =>
      obtain rfl := Option.some.inj hu
      have := cell_of_row w gk 0 _ _ _ hr
      simpa [Addr.add] using this
    | succ j => cases hu
  have hone : ∀ u ∈ [Value.slice ao l c], u.oneCell' = true := by
    intro u hu
    obtain rfl := List.mem_singleton.1 hu
    rfl
  refine wpList_append_own_at w hg p x _ hop base 26 i0 _ 1 24 Tryz.underlying23 hi hz0 hz1 hz2 rfl (by omega) v us.length _ hs h ⟨gk, 0, none⟩ 1 1 [Value.slice ao l c] hx rfl hcell hone (by simp only [maxLen]; omega) (by omega) hbase ?_
  intro v' w' hown' hgr _ hat
  have hv : ∃ ao cap, v' = .slice ao (us.length + 1) cap := by
    obtain ⟨-, h2⟩ := hown'
    rcases h2 with ⟨rfl, hn⟩ | ⟨g', cap, cur, rfl, -⟩
    · omega
    · exact ⟨_, _, rfl⟩
  obtain ⟨ao2, cap, rfl⟩ := hv
  exact hK ao2 cap w' (by simpa using hown') ((Below.refl base w).grown hgr hbase (fun k hk => (World.ownsRow.lt h k hk).1))
end Go.Proofs.YthcidkidpiaomaaGreatDoor.Od
end
section
set_option linter.unusedVariables false
set_option linter.unusedSimpArgs false
namespace Go.Proofs.YthcidkidpiaomaaGreatDoor.Od
open Go.RowKit Rg
def opV (b o : Nat) (ks : List Tr) (j : Nat) : Value := .slice (some ⟨b, o + stK ks j * 4, none⟩) ((ks[j]?.map fun k => (flat k).length).getD 0) ((ks[j]?.map fun k => (flat k).length).getD 0)
set_option maxRecDepth 100000 in
set_option maxHeartbeats 8000000 in
theorem Operands_any {vars : List (List UInt8)} (t : Tr) (hok : okT vars t) (v : Value) (w : World) (h : RdN w v (flat t)) :
    Calls Tryz.prog 22 #[v] w fun e' w' => ∃ vo, e' = .returned vo ∧ Fs w' vo ((kids t).map flat) ∧ Below w.heap.size w w' := by
  have hfew := h.few
  have hnl : (flat t).length = 1 + ((kids t).flatMap flat).length := by rw [flat_kids, List.length_cons]; omega
  rcases h.out with ⟨h0, -⟩ | ⟨b, o, c, rfl, hcp, hc⟩
  · exact absurd h0 (flat_ne t)
  · obtain ⟨n, hn⟩ : ∃ n, (flat t).length = n := ⟨_, rfl⟩
    rw [hn] at hfew hcp hnl ⊢
    have HC := Aside.mk hc
    have HNN := Aside.mk hn
    have HK := Aside.mk (And.intro hnl (And.intro hcp hfew))
    have HAR := Aside.mk (kids_arity hok)
    have HKO := Aside.mk (kids_ok hok)
    have hk2 : (kids t).length ≤ 2 := by cases t <;> simp [kids]
    obtain ⟨ks, hks⟩ : ∃ ks, kids t = ks := ⟨_, rfl⟩
    have HFL : Aside (flat t = hdN t :: ks.flatMap flat) := ⟨by rw [flat_kids, hks]⟩
    rw [hks] at HK HAR HKO hk2 ⊢
    have hx0 : (flat t)[0]? = some (hdN t) := by rw [flat_kids]; rfl
    have c0 : w.cell? ⟨b, o, none⟩ = some (.int .i64 (hdN t).op) := hc 0 _ (by have := nds_get (flat t) 0 _ 0 hx0 (by decide); exact this)
    have c1 : w.cell? ⟨b, o + 1, none⟩ = some (.int .i64 (hdN t).n) := hc 1 _ (by have := nds_get (flat t) 0 _ 1 hx0 (by decide); exact this)
    have hnpos : (0 : Int) < (n : Int) := by omega
    obtain ⟨M, hM⟩ : ∃ M, ks.length = M := ⟨_, rfl⟩
    rw [hM] at HAR hk2
    have HM := Aside.mk hM
    have HK2 := Aside.mk hk2
    have HAB : Aside (Below w.heap.size w w) := ⟨Below.refl _ _⟩
    clear hks hx0 hc h hn hM hnl
    go_enter Tryz.func22, Tryz.ntmps22
    go_wp2_with fail
    refine (arity_any _ w).mono ?_
    rintro e' w1 ⟨rfl, hw1⟩
    have hw1' := hw1.symm
    subst hw1'
    rw [HAR.out]
    go_wp2_with fail
    go_loopg [3, 4, 11] M (fun m v3 v4 v11 wr => ∃ (i : Nat) (us : List Value), v11 = .int .i64 (i : Nat) ∧ v4 = .int .i64 (stK ks i : Nat) ∧ Aside (i ≤ M ∧ M - i ≤ m ∧ us.length = i) ∧ Aside (∀ j, j < i → us[j]? = some (opV b o ks j)) ∧ Aside (wr.ownsRow w.heap.size 26 1 v3 i us) ∧ Aside (Below w.heap.size w wr))
    case atStart => exact ⟨0, [], rfl, rfl, ⟨by simp⟩, ⟨fun j hj => by omega⟩, ⟨⟨rfl, Or.inl ⟨rfl, rfl⟩⟩⟩, HAB⟩
    case round =>
      obtain ⟨i, us, rfl, rfl, HI, HU, HO, HB⟩ := hrel
      by_cases hi : i < M
      · have hi' : (i : Int) < (M : Int) := by omega
        obtain ⟨k, hk⟩ : ∃ k, ks[i]? = some k := ⟨_, List.getElem?_eq_getElem (by rw [HM.out]; exact hi)⟩
        have hss := stK_succ hk
        have hle2 := stK_le ks (i + 1) (by rw [HM.out]; omega)
        have hnl := HK.out.1
        obtain ⟨st, hst⟩ : ∃ st, stK ks i = st := ⟨_, rfl⟩
        obtain ⟨l, hl⟩ : ∃ l, (flat k).length = l := ⟨_, rfl⟩
        have hcw : ∀ j u, (nds (flat t))[j]? = some u → wr.cell? ⟨b, o + j, none⟩ = some u := fun j u hu => by
          have := HC.out j u hu
          rw [HB.out.cell (p := ⟨b, o + j, none⟩) (World.block_lt_of_cell? w _ this)]; exact this
        have hdrop : (flat t).drop st = flat k ++ (ks.drop (i + 1)).flatMap flat := by
          rw [HFL.out, ← hst, stK_drop]
          obtain ⟨hlk, rfl⟩ := List.getElem?_eq_some_iff.1 hk
          rw [List.drop_eq_getElem_cons hlk, List.flatMap_cons]
        rw [hst, hl] at hss
        rw [hss] at hle2
        have hstn : st + l ≤ n := by omega
        have hrd : RdN wr (.slice (some ⟨b, o + st * 4, none⟩) (n - st) (c - st)) (((flat t).drop st).take (n - st)) := RdN.tail hcw HNN.out HK.out.2.1 HK.out.2.2 st (n - st) (c - st) (by omega) (by have := HK.out.2.1; omega)
        rw [List.take_of_length_le (by rw [List.length_drop, HNN.out]; omega)] at hrd
        have HRD := Aside.mk hrd
        have HEL : Aside (exLen 1 ((flat t).drop st) = l) := ⟨by rw [hdrop, exLen_flat k (HKO.out k (List.mem_of_getElem? hk)) 1 _ (by omega), if_pos rfl, hl]⟩
        have HKK := Aside.mk hk
        have HST := Aside.mk (And.intro hst (And.intro hl hss))
        have hstn' : (st : Int) ≤ (n : Int) := by omega
        have hstc' : (st : Int) ≤ (c : Int) := by have := HK.out.2.1; omega
        have hl1 := flat_pos k
        have hcne : ¬ c = st := by have := HK.out.2.1; omega
        have hcne' : ¬ st = c := by omega
        have hcne2 : ¬ ((st : Int) = (c : Int)) := by omega
        have hcne3 : ¬ (c - st = 0) := by omega
        rw [hst]
        clear hk hss hle2 hst hl hcw hdrop hrd hnl hl1
        go_wp2_with fail
        refine (exprLen_any _ _ wr HRD.out).mono ?_
        rintro e' w2 ⟨rfl, hb2⟩
        rw [HEL.out]
        have HB2 := Aside.mk (HB.out.trans (hb2.mono HB.out.size))
        have HO2 := Aside.mk (owns_below HO.out hb2)
        obtain ⟨en, hen⟩ : ∃ en, st + l = en := ⟨_, rfl⟩
        have hws : IntKind.i64.wrap ((st : Int) + (l : Int)) = (en : Int) := by rw [IntWalk.i64_in _ (by have := HK.out.2.2; omega)]; omega
        have hse : (st : Int) ≤ (en : Int) := by omega
        have hec : (en : Int) ≤ (c : Int) := by have := HK.out.2.1; omega
        have hse2 : st ≤ en := by omega
        have hlen : en - st = l := by omega
        have hlne : ¬ en = st := by have := flat_pos k; have := HST.out.2.1; omega
        have hlne2 : ¬ st = en := by omega
        have hlne3 : ¬ (en - st = 0) := by omega
        have hal : Below w2.heap.size w2 (w2.alloc (.cells #[.slice (some ⟨b, o + st * 4, none⟩) (en - st) (en - st)] 26)) := (Below.refl _ _).alloc (Nat.le_refl _) _
        have HRK : Aside ((w2.alloc (.cells #[.slice (some ⟨b, o + st * 4, none⟩) (en - st) (en - st)] 26)).heap[w2.heap.size]? = some (.cells #[.slice (some ⟨b, o + st * 4, none⟩) (en - st) (en - st)] 26 (0, 0))) := ⟨heap_alloc_last _ _⟩
        have HO3 := Aside.mk (owns_below HO2.out hal)
        have HB3 := Aside.mk (HB2.out.trans (hal.mono HB2.out.size))
        have HEN := Aside.mk (And.intro hen hlen)
        clear hb2 hal hen hlen
        go_wp2_with (first | (at_builtin; refine wpList_append_sl _ rfl (.tmp 19) (.tmp 25) rfl w.heap.size _ us i HI.out.2.2 rfl HO3.out _ _ _ _ rfl HRK.out (by have := HI.out; omega) HB3.out.size ?_; intro ao cap w4 ho4 hb4))
        obtain ⟨go, hgo⟩ : ∃ go, gk = go + 1 := ⟨gk - 1, by have := HI.out; omega⟩
        have HU4 : Aside (∀ j, j < i + 1 → (us ++ [.slice (some ⟨b, o + st * 4, none⟩) (en - st) (en - st)])[j]? = some (opV b o ks j)) := ⟨fun j hj => by
          have hul := HI.out.2.2
          by_cases hji : j < i
          · rw [List.getElem?_append_left (by omega)]; exact HU.out j hji
          · have hje : j = i := by omega
            subst hje
            rw [List.getElem?_append_right (by omega), hul, Nat.sub_self]
            unfold opV
            rw [HKK.out, HST.out.1]
            simp only [Option.map_some, Option.getD_some, HST.out.2.1, HEN.out.2]
            rfl⟩
        have HO4 := Aside.mk ho4
        have HB4 := Aside.mk (HB3.out.trans hb4)
        have hst2 : (en : Int) = (stK ks (i + 1) : Nat) := by have := HST.out.2.2; have := HEN.out.1; omega
        rw [hst2]
        clear ho4 hb4 hst2
        go_roundg go
        case measure => omega
        case rel => exact ⟨i + 1, us ++ [_], rfl, rfl, ⟨by have := HI.out; simp; omega⟩, HU4, HO4, HB4⟩
      · have hi' : ¬ ((i : Int) < (M : Int)) := by omega
        go_wp2_with fail
        go_ret
        refine ⟨_, rfl, ?_, HB.out⟩
        have hin : i = M := by have := HI.out; omega
        subst hin
        have hul : us.length = ks.length := by rw [HI.out.2.2, HM.out]
        have hcw : ∀ j u, (nds (flat t))[j]? = some u → wr.cell? ⟨b, o + j, none⟩ = some u := fun j u hu => by
          have := HC.out j u hu
          rw [HB.out.cell (p := ⟨b, o + j, none⟩) (World.block_lt_of_cell? w _ this)]; exact this
        have hrow := HO.out
        rcases hrow.2 with ⟨hv, h0⟩ | ⟨g, cap, cur, hv, hg, hh, hcap, hm, hsz, htk⟩
        · refine ⟨Or.inl ⟨?_, none, 0, hv⟩, by rw [List.length_map, HM.out]; have := HK2.out; omega⟩
          rw [List.map_eq_nil_iff]; exact List.length_eq_zero_iff.1 (by rw [HM.out]; exact h0)
        · refine ⟨Or.inr ⟨g, 0, cap, us, by rw [List.length_map, HM.out]; exact hv, by rw [List.length_map]; exact hul, fun j u hu => ?_, fun j u e hu he => ?_⟩, by rw [List.length_map, HM.out]; have := HK2.out; omega⟩
          · have hj := (List.getElem?_eq_some_iff.1 hu).1
            have hrow2 : wr.ownsRow w.heap.size 26 1 (.slice (some ⟨g, 0, none⟩) i cap) i us := by rw [← hv]; exact hrow
            rw [Nat.zero_add, hrow2.cellAt j (by rw [HI.out.2.2] at hj; omega)]; exact hu
          · have hj := (List.getElem?_eq_some_iff.1 hu).1
            rw [HU.out j (by rw [HI.out.2.2] at hj; exact hj)] at hu
            obtain rfl := Option.some.inj hu
            rw [List.getElem?_map] at he
            cases hkj : ks[j]? with
            | none => rw [hkj] at he; cases he
            | some k =>
              rw [hkj] at he
              obtain rfl := Option.some.inj he
              have hss := stK_succ hkj
              have hjl := (List.getElem?_eq_some_iff.1 hkj).1
              have hle2 := stK_le ks (j + 1) (by omega)
              have hnl := HK.out.1
              have := RdN.tail hcw HNN.out HK.out.2.1 HK.out.2.2 (stK ks j) (flat k).length (flat k).length (by omega) (Nat.le_refl _)
              have hdrop : (flat t).drop (stK ks j) = flat k ++ (ks.drop (j + 1)).flatMap flat := by
                rw [HFL.out, stK_drop]
                obtain ⟨hlk, rfl⟩ := List.getElem?_eq_some_iff.1 hkj
                rw [List.drop_eq_getElem_cons hlk, List.flatMap_cons]
              rw [hdrop, List.take_left] at this
              unfold opV
              rw [hkj]
              exact this
end Go.Proofs.YthcidkidpiaomaaGreatDoor.Od
end
section
set_option linter.unusedVariables false
set_option linter.unusedSimpArgs false
namespace Go.Proofs.YthcidkidpiaomaaGreatDoor.Od
open Go.RowKit Rg
theorem enters_fmt : ∀ args w, (callFunc 139 args).run Tryz.prog w = .ok (.enter 139 args) w := fun args w => by kernel_rfl
theorem mk_str {s : ByteArray} {l : List UInt8} (h : s.data.toList = l) : s = ⟨l.toArray⟩ := by
  subst h; cases s; rfl
theorem Fmt_any (x0 : Int) (w : World) (h0 : -2147483648 < x0) (h1 : x0 < 2147483648) (ht : Fx.Tabs w) (s : ByteArray) (hs : (⟨(Fx.fmtL x0).toArray⟩ : ByteArray) = s) :
    Calls Tryz.prog 139 #[.int .i64 x0] w fun e w' => e = .returned (.string s) ∧ Below w.heap.size w w' := by
  subst hs
  exact Fx.Format_any x0 w h0 h1 ht
set_option maxRecDepth 100000 in
set_option maxHeartbeats 8000000 in
theorem formatInterval_any (lo hi : Int) (w : World) (h : okIv lo hi = true) (ht : Fx.Tabs w) :
    Calls Tryz.prog 99 #[.agg #[.int .i64 lo, .int .i64 hi]] w fun e w' => (∃ s, e = .returned (.string s) ∧ s.data.toList = fmtIv lo hi) ∧ Below w.heap.size w w' := by
  have hrow := heap_alloc_last w (.cells #[.int .i64 lo, .int .i64 hi] 29)
  have hb0 : Below w.heap.size w (w.alloc (.cells #[.int .i64 lo, .int .i64 hi] 29)) := (Below.refl _ _).alloc (Nat.le_refl _) _
  have HOK := Aside.mk h
  have HT := Aside.mk (ht.below hb0)
  have HB := Aside.mk hb0
  have HR := Aside.mk hrow
  have HF : Aside (fmtIv lo hi = if lo = -maxV ∧ hi = maxV then wAll else if lo = hi ∧ 0 ≤ lo then Fx.fmtL lo else [91] ++ Fx.fmtL lo ++ [44, 32] ++ Fx.fmtL hi ++ [93]) := ⟨rfl⟩
  clear h ht hb0 hrow
  go_enter Tryz.func99, Tryz.ntmps99
  go_upto_if 3 with (fail)
  go_wp2_with fail
  obtain ⟨g, hg⟩ : ∃ g, w.heap.size = g := ⟨_, rfl⟩
  have HG := Aside.mk hg
  rw [hg] at HR HB
  simp only [hg]
  generalize w.alloc (.cells #[.int .i64 lo, .int .i64 hi] 29) = W at HT HB HR ⊢
  have hW : W.cell? ⟨g, 0, none⟩ = some (.int .i64 lo) := by rw [cell_of_row _ _ 0 _ _ _ HR.out]; rfl
  have hW1 : W.cell? ⟨g, 1, none⟩ = some (.int .i64 hi) := by rw [cell_of_row _ _ 1 _ _ _ HR.out]; rfl
  go_wp2_with fail
  refine (isEntire_any lo hi W).mono ?_
  rintro e w1 ⟨rfl, hb1⟩
  have hlw : g < W.heap.size := lt_of HR.out
  have HB1 := Aside.mk (HB.out.trans (hb1.mono (Nat.le_of_lt hlw)))
  have HT1 := Aside.mk (HT.out.below hb1)
  have c0 := (hb1.cell (p := ⟨g, 0, none⟩) hlw).trans hW
  have c1 := (hb1.cell (p := ⟨g, 1, none⟩) hlw).trans hW1
  have hl : g < w1.heap.size := Nat.lt_of_lt_of_le hlw hb1.size
  clear hb1 HB HT HR hW hW1 hlw hg
  obtain ⟨b, hb⟩ : ∃ b, isEnt lo hi = b := ⟨_, rfl⟩
  have HBE := Aside.mk hb
  rw [hb]
  clear hb
  cases b with
  | true =>
    go_wp2_with fail
    go_ret
    refine ⟨⟨_, rfl, ?_⟩, HG.out ▸ HB1.out⟩
    have := HBE.out
    unfold isEnt at this
    simp only [Bool.and_eq_true, beq_iff_eq] at this
    rw [HF.out, if_pos this]
    rfl
  | false =>
    have hne : ¬ (lo = -maxV ∧ hi = maxV) := by
      have := HBE.out
      unfold isEnt at this
      intro hh
      rw [hh.1, hh.2] at this
      exact absurd this (by decide)
    have hv : (vld lo && (vld hi && decide (lo ≤ hi))) = true := by
      have := HOK.out
      rw [okIv_eq, HBE.out, Bool.false_or] at this
      exact this
    unfold vld at hv
    simp only [Bool.and_eq_true, decide_eq_true_eq] at hv
    have HV := Aside.mk hv
    have HF : Aside (fmtIv lo hi = if lo = hi ∧ 0 ≤ lo then Fx.fmtL lo else [91] ++ Fx.fmtL lo ++ [44, 32] ++ Fx.fmtL hi ++ [93]) := ⟨by rw [HF.out, if_neg hne]⟩
    clear hne hv
    by_cases he : lo = hi ∧ 0 ≤ lo
    · obtain ⟨rfl, h0⟩ := he
      have hge : (0 : Int) ≤ lo := h0
      have HF2 : Aside (fmtIv lo lo = Fx.fmtL lo) := ⟨by rw [HF.out, if_pos ⟨rfl, h0⟩]⟩
      go_wp2_with fail
      refine (Fx.Format_any lo w1 (by have := HV.out; omega) (by have := HV.out; omega) HT1.out).mono ?_
      rintro e w2 ⟨rfl, hb2⟩
      have HB2 := Aside.mk (HB1.out.trans (hb2.mono (HG.out ▸ HB1.out.size)))
      clear hb2
      go_wp2_with fail
      go_ret
      exact ⟨⟨_, rfl, by rw [HF2.out]⟩, HG.out ▸ HB2.out⟩
    · have HF : Aside (fmtIv lo hi = [91] ++ Fx.fmtL lo ++ [44, 32] ++ Fx.fmtL hi ++ [93]) := ⟨by rw [HF.out, if_neg he]⟩
      obtain ⟨A, hA⟩ : ∃ A : ByteArray, ⟨(Fx.fmtL lo).toArray⟩ = A := ⟨_, rfl⟩
      obtain ⟨Z, hZ⟩ : ∃ Z : ByteArray, ⟨(Fx.fmtL hi).toArray⟩ = Z := ⟨_, rfl⟩
      have hAs : A.size ≤ 23 := by rw [← hA]; exact fmtL_len (by have := HV.out; omega) (by have := HV.out; omega)
      have hZs : Z.size ≤ 23 := by rw [← hZ]; exact fmtL_len (by have := HV.out; omega) (by have := HV.out; omega)
      have HA := Aside.mk hA
      have HZ := Aside.mk hZ
      clear hA hZ
      by_cases hq : lo = hi
      · have hge : ¬ (0 : Int) ≤ lo := fun h0 => he ⟨hq, h0⟩
        have hq2 : (lo == hi) = true := by simpa using hq
        clear hq he
        go_wp2_with fail
        refine region_list (T := tab2 [
            Sq.val (.pointer (some ⟨g, 0, none⟩)), Sq.val (.int .i64 lo), Sq.val (.string A), Sq.val (.string ((⟨#[91]⟩ : ByteArray) ++ A)), Sq.val (.string (((⟨#[91]⟩ : ByteArray) ++ A) ++ (⟨#[44, 32]⟩ : ByteArray))), Sq.val (.pointer (some ⟨g, 1, none⟩)), Sq.val (.int .i64 hi), Sq.val (.string Z), Sq.val (.string ((((⟨#[91]⟩ : ByteArray) ++ A) ++ (⟨#[44, 32]⟩ : ByteArray)) ++ Z)), Sq.val (.string (((((⟨#[91]⟩ : ByteArray) ++ A) ++ (⟨#[44, 32]⟩ : ByteArray)) ++ Z) ++ (⟨#[93]⟩ : ByteArray)))]) 10
          [_, _, _, _, _, _, _, _, _, _, _] (by kernel_rfl) (by kernel_rfl) (by kernel_rfl) (by kernel_rfl) (by kernel_rfl) (by kernel_rfl) rfl ?_ ?_
        · refine AllIn.cons ?_ ?_
          · intro a w hz hb ho hg
            have e1 : a.tmps.getD 1 undef = .pointer (some ⟨g, 0, none⟩) := ho 1 (by kernel_rfl)
            have f1 := Rg.gd e1
            exact wv hb rfl (by simp [execOp, Act.eval, e1, f1, go_sem]) rfl
          refine AllIn.cons ?_ ?_
          · intro a w hz hb ho hg
            have e20 : a.tmps.getD 20 undef = .pointer (some ⟨g, 0, none⟩) := got_of hg (j := 0) rfl rfl rfl
            have f20 := Rg.gd e20
            have q := (hb.cell (p := ⟨g, 0, none⟩) hl).trans c0
            exact wv hb rfl (by simp [execOp, Act.eval, e20, f20, q, go_sem]) rfl
          refine AllIn.cons ?_ ?_
          · intro a w hz hb ho hg
            have e21 : a.tmps.getD 21 undef = .int .i64 lo := got_of hg (j := 1) rfl rfl rfl
            have f21 := Rg.gd e21
            exact Or.inl ⟨wanted_none rfl, wp_calls hb.size (run_call (args := #[.int .i64 lo]) enters_fmt (by simp [Act.eval, f21])) ((Fmt_any lo w (by have := HV.out; omega) (by have := HV.out; omega) (HT1.out.below hb) A HA.out).mono (by rintro e w' ⟨rfl, hb2⟩; exact ⟨_, rfl, hb2, rfl⟩))⟩
          refine AllIn.cons ?_ ?_
          · intro a w hz hb ho hg
            have e22 : a.tmps.getD 22 undef = .string A := got_of hg (j := 2) rfl rfl rfl
            have f22 := Rg.gd e22
            exact Or.inl ⟨wanted_none rfl, wp_value hb.size (by simp [execOp, Act.eval, e22, f22, go_sem]; omega) (Below.refl _ _) rfl⟩
          refine AllIn.cons ?_ ?_
          · intro a w hz hb ho hg
            have e23 : a.tmps.getD 23 undef = .string ((⟨#[91]⟩ : ByteArray) ++ A) := got_of hg (j := 3) rfl rfl rfl
            have f23 := Rg.gd e23
            exact Or.inl ⟨wanted_none rfl, wp_value hb.size (by simp [execOp, Act.eval, e23, f23, go_sem]; omega) (Below.refl _ _) rfl⟩
          refine AllIn.cons ?_ ?_
          · intro a w hz hb ho hg
            have e1 : a.tmps.getD 1 undef = .pointer (some ⟨g, 0, none⟩) := ho 1 (by kernel_rfl)
            have f1 := Rg.gd e1
            exact wv hb rfl (by simp [execOp, Act.eval, e1, f1, go_sem]) rfl
          refine AllIn.cons ?_ ?_
          · intro a w hz hb ho hg
            have e25 : a.tmps.getD 25 undef = .pointer (some ⟨g, 1, none⟩) := got_of hg (j := 5) rfl rfl rfl
            have f25 := Rg.gd e25
            have q := (hb.cell (p := ⟨g, 1, none⟩) hl).trans c1
            exact wv hb rfl (by simp [execOp, Act.eval, e25, f25, q, go_sem]) rfl
          refine AllIn.cons ?_ ?_
          · intro a w hz hb ho hg
            have e26 : a.tmps.getD 26 undef = .int .i64 hi := got_of hg (j := 6) rfl rfl rfl
            have f26 := Rg.gd e26
            exact Or.inl ⟨wanted_none rfl, wp_calls hb.size (run_call (args := #[.int .i64 hi]) enters_fmt (by simp [Act.eval, f26])) ((Fmt_any hi w (by have := HV.out; omega) (by have := HV.out; omega) (HT1.out.below hb) Z HZ.out).mono (by rintro e w' ⟨rfl, hb2⟩; exact ⟨_, rfl, hb2, rfl⟩))⟩
          refine AllIn.cons ?_ ?_
          · intro a w hz hb ho hg
            have e24 : a.tmps.getD 24 undef = .string (((⟨#[91]⟩ : ByteArray) ++ A) ++ (⟨#[44, 32]⟩ : ByteArray)) := got_of hg (j := 4) rfl rfl rfl
            have e27 : a.tmps.getD 27 undef = .string Z := got_of hg (j := 7) rfl rfl rfl
            have f24 := Rg.gd e24
            have f27 := Rg.gd e27
            exact Or.inl ⟨wanted_none rfl, wp_value hb.size (by simp [execOp, Act.eval, e24, f24, e27, f27, go_sem]; omega) (Below.refl _ _) rfl⟩
          refine AllIn.cons ?_ ?_
          · intro a w hz hb ho hg
            have e28 : a.tmps.getD 28 undef = .string ((((⟨#[91]⟩ : ByteArray) ++ A) ++ (⟨#[44, 32]⟩ : ByteArray)) ++ Z) := got_of hg (j := 8) rfl rfl rfl
            have f28 := Rg.gd e28
            exact Or.inl ⟨wanted_none rfl, wp_value hb.size (by simp [execOp, Act.eval, e28, f28, go_sem]; omega) (Below.refl _ _) rfl⟩
          exact AllIn.nil
        intro a w2 hd hz hb ho hg
        have e20 : a.tmps.getD 20 undef = .pointer (some ⟨g, 0, none⟩) := hg 0 (by decide) _ _ rfl rfl
        have e21 : a.tmps.getD 21 undef = .int .i64 lo := hg 1 (by decide) _ _ rfl rfl
        have e22 : a.tmps.getD 22 undef = .string A := hg 2 (by decide) _ _ rfl rfl
        have e23 : a.tmps.getD 23 undef = .string ((⟨#[91]⟩ : ByteArray) ++ A) := hg 3 (by decide) _ _ rfl rfl
        have e24 : a.tmps.getD 24 undef = .string (((⟨#[91]⟩ : ByteArray) ++ A) ++ (⟨#[44, 32]⟩ : ByteArray)) := hg 4 (by decide) _ _ rfl rfl
        have e25 : a.tmps.getD 25 undef = .pointer (some ⟨g, 1, none⟩) := hg 5 (by decide) _ _ rfl rfl
        have e26 : a.tmps.getD 26 undef = .int .i64 hi := hg 6 (by decide) _ _ rfl rfl
        have e27 : a.tmps.getD 27 undef = .string Z := hg 7 (by decide) _ _ rfl rfl
        have e28 : a.tmps.getD 28 undef = .string ((((⟨#[91]⟩ : ByteArray) ++ A) ++ (⟨#[44, 32]⟩ : ByteArray)) ++ Z) := hg 8 (by decide) _ _ rfl rfl
        have e29 : a.tmps.getD 29 undef = .string (((((⟨#[91]⟩ : ByteArray) ++ A) ++ (⟨#[44, 32]⟩ : ByteArray)) ++ Z) ++ (⟨#[93]⟩ : ByteArray)) := hg 9 (by decide) _ _ rfl rfl
        have hA := ho.frame hz
        simp only [List.take_succ_cons, List.take_zero, List.filterMap_cons, List.filterMap_nil, List.foldl_cons, List.foldl_nil, e20, e21, e22, e23, e24, e25, e26, e27, e28, e29, List.setIfInBounds_toArray, List.set_cons_zero, List.set_cons_succ] at hA
        obtain ⟨tm, df⟩ := a
        simp only at hd hA
        subst hd
        subst hA
        simp only [List.drop_succ_cons, List.drop_zero]
        have HH2 := Aside.mk hb
        clear hz ho hg hb e20 e21 e22 e23 e24 e25 e26 e27 e28 e29
        go_wp2_with fail
        go_ret
        refine ⟨⟨_, rfl, ?_⟩, HG.out ▸ (HB1.out.trans (HH2.out.mono (HG.out ▸ HB1.out.size)))⟩
        rw [HF.out, ← HA.out, ← HZ.out]
        simp [ByteArray.data_append]
      · have hq2 : (lo == hi) = false := by simpa using hq
        clear he
        go_wp2_with fail
        refine region_list (T := tab2 [
            Sq.val (.pointer (some ⟨g, 0, none⟩)), Sq.val (.int .i64 lo), Sq.val (.string A), Sq.val (.string ((⟨#[91]⟩ : ByteArray) ++ A)), Sq.val (.string (((⟨#[91]⟩ : ByteArray) ++ A) ++ (⟨#[44, 32]⟩ : ByteArray))), Sq.val (.pointer (some ⟨g, 1, none⟩)), Sq.val (.int .i64 hi), Sq.val (.string Z), Sq.val (.string ((((⟨#[91]⟩ : ByteArray) ++ A) ++ (⟨#[44, 32]⟩ : ByteArray)) ++ Z)), Sq.val (.string (((((⟨#[91]⟩ : ByteArray) ++ A) ++ (⟨#[44, 32]⟩ : ByteArray)) ++ Z) ++ (⟨#[93]⟩ : ByteArray)))]) 10
          [_, _, _, _, _, _, _, _, _, _, _] (by kernel_rfl) (by kernel_rfl) (by kernel_rfl) (by kernel_rfl) (by kernel_rfl) (by kernel_rfl) rfl ?_ ?_
        · refine AllIn.cons ?_ ?_
          · intro a w hz hb ho hg
            have e1 : a.tmps.getD 1 undef = .pointer (some ⟨g, 0, none⟩) := ho 1 (by kernel_rfl)
            have f1 := Rg.gd e1
            exact wv hb rfl (by simp [execOp, Act.eval, e1, f1, go_sem]) rfl
          refine AllIn.cons ?_ ?_
          · intro a w hz hb ho hg
            have e20 : a.tmps.getD 20 undef = .pointer (some ⟨g, 0, none⟩) := got_of hg (j := 0) rfl rfl rfl
            have f20 := Rg.gd e20
            have q := (hb.cell (p := ⟨g, 0, none⟩) hl).trans c0
            exact wv hb rfl (by simp [execOp, Act.eval, e20, f20, q, go_sem]) rfl
          refine AllIn.cons ?_ ?_
          · intro a w hz hb ho hg
            have e21 : a.tmps.getD 21 undef = .int .i64 lo := got_of hg (j := 1) rfl rfl rfl
            have f21 := Rg.gd e21
            exact Or.inl ⟨wanted_none rfl, wp_calls hb.size (run_call (args := #[.int .i64 lo]) enters_fmt (by simp [Act.eval, f21])) ((Fmt_any lo w (by have := HV.out; omega) (by have := HV.out; omega) (HT1.out.below hb) A HA.out).mono (by rintro e w' ⟨rfl, hb2⟩; exact ⟨_, rfl, hb2, rfl⟩))⟩
          refine AllIn.cons ?_ ?_
          · intro a w hz hb ho hg
            have e22 : a.tmps.getD 22 undef = .string A := got_of hg (j := 2) rfl rfl rfl
            have f22 := Rg.gd e22
            exact Or.inl ⟨wanted_none rfl, wp_value hb.size (by simp [execOp, Act.eval, e22, f22, go_sem]; omega) (Below.refl _ _) rfl⟩
          refine AllIn.cons ?_ ?_
          · intro a w hz hb ho hg
            have e23 : a.tmps.getD 23 undef = .string ((⟨#[91]⟩ : ByteArray) ++ A) := got_of hg (j := 3) rfl rfl rfl
            have f23 := Rg.gd e23
            exact Or.inl ⟨wanted_none rfl, wp_value hb.size (by simp [execOp, Act.eval, e23, f23, go_sem]; omega) (Below.refl _ _) rfl⟩
          refine AllIn.cons ?_ ?_
          · intro a w hz hb ho hg
            have e1 : a.tmps.getD 1 undef = .pointer (some ⟨g, 0, none⟩) := ho 1 (by kernel_rfl)
            have f1 := Rg.gd e1
            exact wv hb rfl (by simp [execOp, Act.eval, e1, f1, go_sem]) rfl
          refine AllIn.cons ?_ ?_
          · intro a w hz hb ho hg
            have e25 : a.tmps.getD 25 undef = .pointer (some ⟨g, 1, none⟩) := got_of hg (j := 5) rfl rfl rfl
            have f25 := Rg.gd e25
            have q := (hb.cell (p := ⟨g, 1, none⟩) hl).trans c1
            exact wv hb rfl (by simp [execOp, Act.eval, e25, f25, q, go_sem]) rfl
          refine AllIn.cons ?_ ?_
          · intro a w hz hb ho hg
            have e26 : a.tmps.getD 26 undef = .int .i64 hi := got_of hg (j := 6) rfl rfl rfl
            have f26 := Rg.gd e26
            exact Or.inl ⟨wanted_none rfl, wp_calls hb.size (run_call (args := #[.int .i64 hi]) enters_fmt (by simp [Act.eval, f26])) ((Fmt_any hi w (by have := HV.out; omega) (by have := HV.out; omega) (HT1.out.below hb) Z HZ.out).mono (by rintro e w' ⟨rfl, hb2⟩; exact ⟨_, rfl, hb2, rfl⟩))⟩
          refine AllIn.cons ?_ ?_
          · intro a w hz hb ho hg
            have e24 : a.tmps.getD 24 undef = .string (((⟨#[91]⟩ : ByteArray) ++ A) ++ (⟨#[44, 32]⟩ : ByteArray)) := got_of hg (j := 4) rfl rfl rfl
            have e27 : a.tmps.getD 27 undef = .string Z := got_of hg (j := 7) rfl rfl rfl
            have f24 := Rg.gd e24
            have f27 := Rg.gd e27
            exact Or.inl ⟨wanted_none rfl, wp_value hb.size (by simp [execOp, Act.eval, e24, f24, e27, f27, go_sem]; omega) (Below.refl _ _) rfl⟩
          refine AllIn.cons ?_ ?_
          · intro a w hz hb ho hg
            have e28 : a.tmps.getD 28 undef = .string ((((⟨#[91]⟩ : ByteArray) ++ A) ++ (⟨#[44, 32]⟩ : ByteArray)) ++ Z) := got_of hg (j := 8) rfl rfl rfl
            have f28 := Rg.gd e28
            exact Or.inl ⟨wanted_none rfl, wp_value hb.size (by simp [execOp, Act.eval, e28, f28, go_sem]; omega) (Below.refl _ _) rfl⟩
          exact AllIn.nil
        intro a w2 hd hz hb ho hg
        have e20 : a.tmps.getD 20 undef = .pointer (some ⟨g, 0, none⟩) := hg 0 (by decide) _ _ rfl rfl
        have e21 : a.tmps.getD 21 undef = .int .i64 lo := hg 1 (by decide) _ _ rfl rfl
        have e22 : a.tmps.getD 22 undef = .string A := hg 2 (by decide) _ _ rfl rfl
        have e23 : a.tmps.getD 23 undef = .string ((⟨#[91]⟩ : ByteArray) ++ A) := hg 3 (by decide) _ _ rfl rfl
        have e24 : a.tmps.getD 24 undef = .string (((⟨#[91]⟩ : ByteArray) ++ A) ++ (⟨#[44, 32]⟩ : ByteArray)) := hg 4 (by decide) _ _ rfl rfl
        have e25 : a.tmps.getD 25 undef = .pointer (some ⟨g, 1, none⟩) := hg 5 (by decide) _ _ rfl rfl
        have e26 : a.tmps.getD 26 undef = .int .i64 hi := hg 6 (by decide) _ _ rfl rfl
        have e27 : a.tmps.getD 27 undef = .string Z := hg 7 (by decide) _ _ rfl rfl
        have e28 : a.tmps.getD 28 undef = .string ((((⟨#[91]⟩ : ByteArray) ++ A) ++ (⟨#[44, 32]⟩ : ByteArray)) ++ Z) := hg 8 (by decide) _ _ rfl rfl
        have e29 : a.tmps.getD 29 undef = .string (((((⟨#[91]⟩ : ByteArray) ++ A) ++ (⟨#[44, 32]⟩ : ByteArray)) ++ Z) ++ (⟨#[93]⟩ : ByteArray)) := hg 9 (by decide) _ _ rfl rfl
        have hA := ho.frame hz
        simp only [List.take_succ_cons, List.take_zero, List.filterMap_cons, List.filterMap_nil, List.foldl_cons, List.foldl_nil, e20, e21, e22, e23, e24, e25, e26, e27, e28, e29, List.setIfInBounds_toArray, List.set_cons_zero, List.set_cons_succ] at hA
        obtain ⟨tm, df⟩ := a
        simp only at hd hA
        subst hd
        subst hA
        simp only [List.drop_succ_cons, List.drop_zero]
        have HH2 := Aside.mk hb
        clear hz ho hg hb e20 e21 e22 e23 e24 e25 e26 e27 e28 e29
        go_wp2_with fail
        go_ret
        refine ⟨⟨_, rfl, ?_⟩, HG.out ▸ (HB1.out.trans (HH2.out.mono (HG.out ▸ HB1.out.size)))⟩
        rw [HF.out, ← HA.out, ← HZ.out]
        simp [ByteArray.data_append]
end Go.Proofs.YthcidkidpiaomaaGreatDoor.Od
end
