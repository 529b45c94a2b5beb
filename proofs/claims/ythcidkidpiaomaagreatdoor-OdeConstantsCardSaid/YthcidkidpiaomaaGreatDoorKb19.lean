/- OdW -/
import Derived.Deep.RegionWith
import Derived.Laws.StructEq
import Derived.Test.YthcidkidpiaomaaGreatDoorKb18
section
set_option linter.unusedVariables false
set_option linter.unusedSimpArgs false
namespace Go.Proofs.YthcidkidpiaomaaGreatDoor.Od
open Go.RowKit Rg
set_option maxRecDepth 100000 in
set_option maxHeartbeats 8000000 in
theorem arity_any (op : Int) (w : World) : Calls Tryz.prog 68 #[.int .i64 op] w fun e w' => e = .returned (.int .i64 (arity op)) ∧ w' = w := by
  by_cases h1 : 1 ≤ op
  · by_cases h2 : op ≤ 3
    · have HA : Aside (arity op = 0) := ⟨by unfold arity; rw [if_pos ⟨h1, h2⟩]⟩
      go_enter Tryz.func68, Tryz.ntmps68
      go_wp2_with fail
      go_ret
      rw [HA.out]; exact ⟨rfl, rfl⟩
    · by_cases h4 : 4 ≤ op
      · by_cases h5 : op ≤ 6
        · have HA : Aside (arity op = 1) := ⟨by unfold arity; rw [if_neg (by omega), if_pos ⟨h4, h5⟩]⟩
          go_enter Tryz.func68, Tryz.ntmps68
          go_wp2_with fail
          go_ret
          rw [HA.out]; exact ⟨rfl, rfl⟩
        · have h7 : 7 ≤ op := by omega
          by_cases h8 : op ≤ 10
          · have HA : Aside (arity op = 2) := ⟨by unfold arity; rw [if_neg (by omega), if_neg (by omega), if_pos ⟨h7, h8⟩]⟩
            go_enter Tryz.func68, Tryz.ntmps68
            go_wp2_with fail
            go_ret
            rw [HA.out]; exact ⟨rfl, rfl⟩
          · have HA : Aside (arity op = -1) := ⟨by unfold arity; rw [if_neg (by omega), if_neg (by omega), if_neg (by omega)]⟩
            go_enter Tryz.func68, Tryz.ntmps68
            go_wp2_with fail
            go_ret
            rw [HA.out]; exact ⟨rfl, rfl⟩
      · omega
  · have h4 : ¬ 4 ≤ op := by omega
    have h7 : ¬ 7 ≤ op := by omega
    have HA : Aside (arity op = -1) := ⟨by unfold arity; rw [if_neg (by omega), if_neg (by omega), if_neg (by omega)]⟩
    go_enter Tryz.func68, Tryz.ntmps68
    go_wp2_with fail
    go_ret
    rw [HA.out]; exact ⟨rfl, rfl⟩
def ndV (x : Nd) : Value := .agg #[.int .i64 x.op, .int .i64 x.n, .int .i64 x.lo, .int .i64 x.hi]
set_option maxRecDepth 100000 in
set_option maxHeartbeats 8000000 in
theorem validNode_any (x : Nd) (n : Int) (w : World) : Calls Tryz.prog 58 #[ndV x, .int .i64 n] w fun e w' => e = .returned (.bool (okNd n x)) ∧ Below w.heap.size w w' := by
  obtain ⟨op, xn, lo, hi⟩ := x
  unfold ndV
  simp only
  have HV : Aside (okNd n ⟨op, xn, lo, hi⟩ = if op = 1 then xn == 0 && okIv lo hi else if op = 2 then decide (0 ≤ xn) && decide (xn < n) && lo == 0 && hi == 0 else decide (0 ≤ arity op) && xn == 0 && lo == 0 && hi == 0) := ⟨rfl⟩
  have heq := eq_iv lo hi 0 0
  go_enter Tryz.func58, Tryz.ntmps58
  by_cases h1 : op = 1
  · subst h1
    by_cases h0 : xn = 0
    · subst h0
      go_wp2_with fail
      have hb0 : Below w.heap.size w (w.alloc (Obj.cells #[.int .i64 1, .int .i64 0, .int .i64 lo, .int .i64 hi] 79)) := (Below.refl _ _).alloc (Nat.le_refl _) _
      refine (ivValid_any lo hi _).mono ?_
      rintro e w1 ⟨rfl, hb1⟩
      go_wp2_with fail
      go_ret
      rw [HV.out]
      exact ⟨by simp, hb0.trans (hb1.mono hb0.size)⟩
    · have h0' : (xn == 0) = false := by rw [beq_eq_false_iff_ne]; exact h0
      go_wp2_with fail
      go_ret
      rw [HV.out]
      exact ⟨by simp [h0'], (Below.refl _ _).alloc (Nat.le_refl _) _⟩
  · have h1' : (op == 1) = false := by rw [beq_eq_false_iff_ne]; exact h1
    by_cases h2 : op = 2
    · subst h2
      by_cases h0 : 0 ≤ xn
      · have d0 : decide (0 ≤ xn) = true := by simpa using h0
        by_cases hn : xn < n
        · have dn : decide (xn < n) = true := by simpa using hn
          go_wp2_with fail
          go_ret
          rw [HV.out]
          exact ⟨by simp [h0, hn], (Below.refl _ _).alloc (Nat.le_refl _) _⟩
        · have dn : decide (xn < n) = false := by simpa using hn
          go_wp2_with fail
          go_ret
          rw [HV.out]
          exact ⟨by rw [dn]; simp, (Below.refl _ _).alloc (Nat.le_refl _) _⟩
      · have d0 : decide (0 ≤ xn) = false := by simpa using h0
        go_wp2_with fail
        go_ret
        rw [HV.out]
        exact ⟨by rw [d0]; simp, (Below.refl _ _).alloc (Nat.le_refl _) _⟩
    · have h2' : (op == 2) = false := by rw [beq_eq_false_iff_ne]; exact h2
      have HV2 : Aside (okNd n ⟨op, xn, lo, hi⟩ = (decide (0 ≤ arity op) && xn == 0 && lo == 0 && hi == 0)) := ⟨by rw [HV.out, if_neg h1, if_neg h2]⟩
      clear HV
      go_wp2_with fail
      refine (arity_any op _).mono ?_
      rintro e w1 ⟨rfl, rfl⟩
      have hb0 : Below w.heap.size w (w.alloc (Obj.cells #[.int .i64 op, .int .i64 xn, .int .i64 lo, .int .i64 hi] 79)) := (Below.refl _ _).alloc (Nat.le_refl _) _
      have HB := Aside.mk hb0
      obtain ⟨a, ha⟩ : ∃ a, arity op = a := ⟨_, rfl⟩
      rw [ha] at HV2 ⊢
      clear ha hb0
      by_cases hp : 0 ≤ a
      · have dp : decide (0 ≤ a) = true := by simpa using hp
        by_cases h0 : xn = 0
        · subst h0
          go_wp2_with fail
          go_ret
          rw [HV2.out]
          exact ⟨by simp [hp], HB.out⟩
        · have h0' : (xn == 0) = false := by rw [beq_eq_false_iff_ne]; exact h0
          go_wp2_with fail
          go_ret
          rw [HV2.out]
          exact ⟨by simp [h0'], HB.out⟩
      · have dp : decide (0 ≤ a) = false := by simpa using hp
        go_wp2_with fail
        go_ret
        rw [HV2.out]
        exact ⟨by rw [dp]; simp, HB.out⟩
structure RdN (w : World) (v : Value) (e : List Nd) : Prop where
  out : (e = [] ∧ ∃ ao c, v = .slice ao 0 c) ∨ ∃ b o c, v = .slice (some ⟨b, o, none⟩) e.length c ∧ e.length ≤ c ∧ ∀ j u, (nds e)[j]? = some u → w.cell? ⟨b, o + j, none⟩ = some u
  few : e.length ≤ 9000
theorem OwnN.rdN {B : Nat} {w : World} {v : Value} {e : List Nd} (h : OwnN B w v e) (hf : e.length ≤ 9000) : RdN w v e := by
  refine ⟨?_, hf⟩
  have h' := h
  obtain ⟨h1, h2⟩ := h
  rcases h2 with ⟨rfl, hn⟩ | ⟨g, cap, cur, rfl, hg, hh, hcap, hm, hs, ht⟩
  · exact Or.inl ⟨List.length_eq_zero_iff.1 hn, none, 0, rfl⟩
  · refine Or.inr ⟨g, 0, cap, rfl, hcap, fun j u hu => ?_⟩
    have hj : j < e.length * 4 := by
      have := (List.getElem?_eq_some_iff.1 hu).1
      rw [nds_len] at this; exact this
    rw [Nat.zero_add, World.ownsRow.cellAt h' j hj]; exact hu
theorem RdN.below {w w' : World} {v : Value} {e : List Nd} (h : RdN w v e) (hb : Below w.heap.size w w') : RdN w' v e := by
  refine ⟨?_, h.few⟩
  rcases h.out with h0 | ⟨b, o, c, hv, hcp, hc⟩
  · exact Or.inl h0
  · exact Or.inr ⟨b, o, c, hv, hcp, fun j u hu => by rw [hb.cell (World.block_lt_of_cell? w _ (hc j u hu))]; exact hc j u hu⟩
theorem RdN.slice {w : World} {v : Value} {e : List Nd} (h : RdN w v e) : ∃ ao c, v = .slice ao e.length c := by
  rcases h.out with ⟨rfl, ao, c, hv⟩ | ⟨b, o, c, hv, -⟩
  · exact ⟨ao, c, hv⟩
  · exact ⟨_, c, hv⟩
theorem exLen_step (m : Int) (x : Nd) (r : List Nd) : exLen m (x :: r) = if m + arity x.op - 1 = 0 then 1 else exLen (m + arity x.op - 1) r + 1 := rfl
theorem arity_bd (op : Int) : -1 ≤ arity op ∧ arity op ≤ 2 := by unfold arity; repeat (first | omega | split)
set_option maxRecDepth 100000 in
set_option maxHeartbeats 8000000 in
theorem exprLen_any (v : Value) (e : List Nd) (w : World) (h : RdN w v e) : Calls Tryz.prog 59 #[v] w fun e' w' => e' = .returned (.int .i64 (exLen 1 e : Nat)) ∧ Below w.heap.size w w' := by
  have hfew := h.few
  obtain ⟨n, hn⟩ : ∃ n, e.length = n := ⟨_, rfl⟩
  have HN := Aside.mk hn
  rcases h.out with ⟨rfl, ao, c, rfl⟩ | ⟨b, o, c, rfl, -, hc⟩
  · clear hn HN hfew h
    go_enter Tryz.func59, Tryz.ntmps59
    go_wp2_with fail
    go_loopg [3, 8] 0 (fun m v3 v8 w2 => v3 = .int .i64 1 ∧ v8 = .int .i64 0 ∧ w2 = w)
    case atStart => exact ⟨rfl, rfl, rfl⟩
    case round =>
      obtain ⟨rfl, rfl, hwr⟩ := hrel
      have hwr' := hwr.symm
      subst hwr'
      go_wp2_with fail
      go_ret
      exact ⟨rfl, Below.refl _ _⟩
  · rw [hn] at hfew ⊢
    have HC := Aside.mk hc
    clear hc h
    go_enter Tryz.func59, Tryz.ntmps59
    go_wp2_with fail
    go_loopg [3, 8] n (fun m v3 v8 wr => ∃ (i : Nat) (k : Int), v3 = .int .i64 k ∧ v8 = .int .i64 (i : Nat) ∧ Aside (i ≤ n ∧ n - i ≤ m ∧ -2 * (i : Int) - 1 ≤ k ∧ k ≤ (i : Int) + 1) ∧ Aside (exLen 1 e = exLen k (e.drop i) + i) ∧ Aside (Below w.heap.size w wr))
    case atStart => exact ⟨0, 1, rfl, rfl, ⟨by omega⟩, ⟨rfl⟩, ⟨Below.refl _ _⟩⟩
    case round =>
      obtain ⟨i, k, rfl, rfl, HI, HE, HB⟩ := hrel
      by_cases hi : i < n
      · have hi' : (i : Int) < (n : Int) := by omega
        obtain ⟨x, hx⟩ : ∃ x, e[i]? = some x := ⟨_, List.getElem?_eq_getElem (by rw [HN.out]; exact hi)⟩
        have hdr : e.drop i = x :: e.drop (i + 1) := by
          obtain ⟨hl, rfl⟩ := List.getElem?_eq_some_iff.1 hx
          exact List.drop_eq_getElem_cons hl
        have cell : ∀ r, r < 4 → ∀ u, (nd4 x)[r]? = some u → wr.cell? ⟨b, o + (i * 4 + r), none⟩ = some u := fun r hr u hu => by
          have := HC.out (i * 4 + r) u (by rw [nds_get e i x r hx hr]; exact hu)
          rw [HB.out.cell (p := ⟨b, o + (i * 4 + r), none⟩) (World.block_lt_of_cell? w _ this)]; exact this
        have c0 := cell 0 (by decide) _ rfl
        have c1 := cell 1 (by decide) _ rfl
        have c2 := cell 2 (by decide) _ rfl
        have c3 := cell 3 (by decide) _ rfl
        rw [Nat.add_zero] at c0
        rw [← Nat.add_assoc] at c1 c2 c3
        have HST := Aside.mk (exLen_step k x (e.drop (i + 1)))
        have HD := Aside.mk hdr
        obtain ⟨op, xn, lo, hi2⟩ := x
        simp only at c0 c1 c2 c3 HST
        clear hx hdr cell
        have hbd := arity_bd op
        have HB0 : Aside (Below w.heap.size w (wr.alloc (Obj.cells #[.int .i64 op, .int .i64 xn, .int .i64 lo, .int .i64 hi2] 79))) := ⟨HB.out.alloc HB.out.size _⟩
        go_wp2_with fail
        refine (arity_any op _).mono ?_
        rintro e' w1 ⟨rfl, hw1⟩
        have hw1' := hw1.symm
        subst hw1'
        obtain ⟨a, ha⟩ : ∃ a, arity op = a := ⟨_, rfl⟩
        rw [ha] at HST hbd ⊢
        have HBD := Aside.mk hbd
        have hI := HI.out
        have hwa : IntKind.i64.wrap (a - 1) = a - 1 := IntWalk.i64_in _ (by omega)
        have hwk : IntKind.i64.wrap (k + (a - 1)) = k + (a - 1) := IntWalk.i64_in _ (by omega)
        clear ha hbd hI
        by_cases hz : k + (a - 1) = 0
        · have HF : Aside (exLen 1 e = i + 1) := ⟨by rw [HE.out, HD.out, HST.out, if_pos (by omega)]; omega⟩
          have hwi : IntKind.i64.wrap ((i : Int) + 1) = (i : Int) + 1 := IntWalk.i64_in _ (by omega)
          go_wp2_with fail
          go_ret
          rw [HF.out]
          exact ⟨rfl, HB0.out⟩
        · have HF : Aside (exLen 1 e = exLen (k + (a - 1)) (e.drop (i + 1)) + ((i + 1 : Nat))) := ⟨by rw [HE.out, HD.out, HST.out, if_neg (by omega), show k + a - 1 = k + (a - 1) by omega]; omega⟩
          go_wp2_with fail
          obtain ⟨go, hgo⟩ : ∃ go, gk = go + 1 := ⟨gk - 1, by have := HI.out; omega⟩
          go_roundg go
          case measure => omega
          case rel => exact ⟨i + 1, k + (a - 1), rfl, rfl, ⟨by have := HI.out; have := HBD.out; omega⟩, HF, HB0⟩
      · have hi' : ¬ ((i : Int) < (n : Int)) := by omega
        have HF : Aside (exLen 1 e = n + 1) := ⟨by
          have hin : i = n := by have := HI.out; omega
          rw [HE.out, List.drop_of_length_le (by rw [HN.out, hin]; omega), hin]
          show 1 + n = n + 1
          omega⟩
        go_wp2_with fail
        go_ret
        rw [HF.out]
        exact ⟨rfl, HB.out⟩
theorem findIdx_drop {α : Type} (p : α → Bool) (e : List α) (i : Nat) (h : e.findIdx? p = ((e.drop i).findIdx? p).map (· + i)) {x : α} (hx : e[i]? = some x) (hp : p x = false) : e.findIdx? p = ((e.drop (i + 1)).findIdx? p).map (· + (i + 1)) := by
  obtain ⟨hl, rfl⟩ := List.getElem?_eq_some_iff.1 hx
  rw [h, List.drop_eq_getElem_cons hl, List.findIdx?_cons, hp]
  cases (e.drop (i + 1)).findIdx? p with
  | none => rfl
  | some k => simp; omega
theorem enters_vn : ∀ args w, (callFunc 57 args).run Tryz.prog w = .ok (.enter 57 args) w := fun args w => by kernel_rfl
set_option maxRecDepth 100000 in
set_option maxHeartbeats 8000000 in
theorem notValid_any (x : Nd) (n : Int) (gb : Nat) (w : World) (h : w.cell? ⟨gb, 0, none⟩ = some (.int .i64 n)) : Calls Tryz.prog 57 #[ndV x, .pointer (some ⟨gb, 0, none⟩)] w fun e w' => e = .returned (.bool (!okNd n x)) ∧ Below w.heap.size w w' := by
  obtain ⟨op, xn, lo, hi⟩ := x
  have hl := World.block_lt_of_cell? w _ h
  have hb0 : Below w.heap.size w (w.alloc (Obj.cells #[.int .i64 op, .int .i64 xn, .int .i64 lo, .int .i64 hi] 79)) := (Below.refl _ _).alloc (Nat.le_refl _) _
  have h1 : (w.alloc (Obj.cells #[.int .i64 op, .int .i64 xn, .int .i64 lo, .int .i64 hi] 79)).cell? ⟨gb, 0, none⟩ = some (.int .i64 n) := (hb0.cell (p := ⟨gb, 0, none⟩) hl).trans h
  have HB := Aside.mk hb0
  unfold ndV
  simp only
  clear hb0
  go_enter Tryz.func57, Tryz.ntmps57
  go_wp2_with fail
  refine (validNode_any ⟨op, xn, lo, hi⟩ n _).mono ?_
  rintro e w1 ⟨rfl, hb1⟩
  go_wp2_with fail
  go_ret
  exact ⟨rfl, HB.out.trans (hb1.mono HB.out.size)⟩
set_option maxRecDepth 100000 in
set_option maxHeartbeats 8000000 in
theorem indexFunc_any (v : Value) (e : List Nd) (w : World) (h : RdN w v e) (n : Int) (gb : Nat) (hb : w.cell? ⟨gb, 0, none⟩ = some (.int .i64 n)) :
    Calls Tryz.prog 103 #[v, .func (.func 57) #[] #[.pointer (some ⟨gb, 0, none⟩)]] w fun e' w' => e' = .returned (.int .i64 (idxV (e.findIdx? fun x => !okNd n x))) ∧ Below w.heap.size w w' := by
  have hfew := h.few
  have hen := enters_vn
  obtain ⟨N, hn⟩ : ∃ n, e.length = n := ⟨_, rfl⟩
  have HN := Aside.mk hn
  have HGB := Aside.mk hb
  rcases h.out with ⟨rfl, ao, c, rfl⟩ | ⟨b, o, c, rfl, -, hc⟩
  · clear hn HN hfew h hb
    go_enter Tryz.func103, Tryz.ntmps103
    go_wp2_with fail
    go_loopg [8] 0 (fun m v8 w2 => v8 = .int .i64 0 ∧ w2 = w)
    case atStart => exact ⟨rfl, rfl⟩
    case round =>
      obtain ⟨rfl, hwr⟩ := hrel
      have hwr' := hwr.symm
      subst hwr'
      go_wp2_with fail
      go_ret
      exact ⟨rfl, Below.refl _ _⟩
  · rw [hn] at hfew ⊢
    have HC := Aside.mk hc
    clear hc h hb
    go_enter Tryz.func103, Tryz.ntmps103
    go_wp2_with fail
    go_loopg [8] N (fun m v8 wr => ∃ (i : Nat), v8 = .int .i64 (i : Nat) ∧ Aside (i ≤ N ∧ N - i ≤ m) ∧ Aside (e.findIdx? (fun x => !okNd n x) = ((e.drop i).findIdx? (fun x => !okNd n x)).map (· + i)) ∧ Aside (Below w.heap.size w wr))
    case atStart => exact ⟨0, rfl, ⟨by omega⟩, ⟨by simp⟩, ⟨Below.refl _ _⟩⟩
    case round =>
      obtain ⟨i, rfl, HI, HE, HB⟩ := hrel
      by_cases hi : i < N
      · have hi' : (i : Int) < (N : Int) := by omega
        obtain ⟨x, hx⟩ : ∃ x, e[i]? = some x := ⟨_, List.getElem?_eq_getElem (by rw [HN.out]; exact hi)⟩
        have cell : ∀ r, r < 4 → ∀ u, (nd4 x)[r]? = some u → wr.cell? ⟨b, o + (i * 4 + r), none⟩ = some u := fun r hr u hu => by
          have := HC.out (i * 4 + r) u (by rw [nds_get e i x r hx hr]; exact hu)
          rw [HB.out.cell (p := ⟨b, o + (i * 4 + r), none⟩) (World.block_lt_of_cell? w _ this)]; exact this
        have c0 := cell 0 (by decide) _ rfl
        have c1 := cell 1 (by decide) _ rfl
        have c2 := cell 2 (by decide) _ rfl
        have c3 := cell 3 (by decide) _ rfl
        rw [Nat.add_zero] at c0
        rw [← Nat.add_assoc] at c1 c2 c3
        have HX := Aside.mk hx
        have HGB2 : Aside (wr.cell? ⟨gb, 0, none⟩ = some (.int .i64 n)) := ⟨by rw [HB.out.cell (p := ⟨gb, 0, none⟩) (World.block_lt_of_cell? w _ HGB.out)]; exact HGB.out⟩
        obtain ⟨op, xn, lo, hi2⟩ := x
        simp only at c0 c1 c2 c3
        clear hx cell
        go_wp2_with fail
        refine (notValid_any ⟨op, xn, lo, hi2⟩ n gb wr HGB2.out).mono ?_
        rintro e' w1 ⟨rfl, hb1⟩
        have HB1 := Aside.mk (HB.out.trans (hb1.mono HB.out.size))
        obtain ⟨q, hq⟩ : ∃ q, (!okNd n ⟨op, xn, lo, hi2⟩) = q := ⟨_, rfl⟩
        rw [hq]
        cases q with
        | true =>
          have HF : Aside (e.findIdx? (fun x => !okNd n x) = some i) := ⟨by
            obtain ⟨hl, hxx⟩ := List.getElem?_eq_some_iff.1 HX.out
            rw [HE.out, List.drop_eq_getElem_cons hl, List.findIdx?_cons, hxx, hq]; simp⟩
          clear hq hb1
          go_wp2_with fail
          go_ret
          rw [HF.out]
          exact ⟨rfl, HB1.out⟩
        | false =>
          have HF := Aside.mk (findIdx_drop _ e i HE.out HX.out hq)
          clear hq hb1
          go_wp2_with fail
          obtain ⟨go, hgo⟩ : ∃ go, gk = go + 1 := ⟨gk - 1, by have := HI.out; omega⟩
          go_roundg go
          case measure => omega
          case rel => exact ⟨i + 1, rfl, ⟨by have := HI.out; omega⟩, HF, HB1⟩
      · have hi' : ¬ ((i : Int) < (N : Int)) := by omega
        have HF : Aside (e.findIdx? (fun x => !okNd n x) = none) := ⟨by
          rw [HE.out, List.drop_of_length_le (by rw [HN.out]; omega)]; rfl⟩
        go_wp2_with fail
        go_ret
        rw [HF.out]
        exact ⟨rfl, HB.out⟩
theorem idxV_nonneg (p : Nd → Bool) (e : List Nd) : decide (0 ≤ idxV (e.findIdx? fun x => !p x)) = !e.all p := by
  cases h : e.findIdx? (fun x => !p x) with
  | none =>
    rw [List.findIdx?_eq_none_iff] at h
    have : e.all p = true := List.all_eq_true.2 fun x hx => by have := h x hx; simpa using this
    rw [this]; rfl
  | some k =>
    obtain ⟨hl, hp, -⟩ := List.findIdx?_eq_some_iff_getElem.1 h
    have : e.all p = false := by
      rw [List.all_eq_false]
      exact ⟨e[k], List.getElem_mem hl, by simpa using hp⟩
    rw [this]
    simp [idxV]
set_option maxRecDepth 100000 in
set_option maxHeartbeats 8000000 in
theorem containsFunc_any (v : Value) (e : List Nd) (w : World) (h : RdN w v e) (n : Int) (gb : Nat) (hb : w.cell? ⟨gb, 0, none⟩ = some (.int .i64 n)) :
    Calls Tryz.prog 56 #[v, .func (.func 57) #[] #[.pointer (some ⟨gb, 0, none⟩)]] w fun e' w' => e' = .returned (.bool (!e.all (okNd n))) ∧ Below w.heap.size w w' := by
  have HV := Aside.mk (idxV_nonneg (okNd n) e)
  obtain ⟨ao, c, rfl⟩ := h.slice
  have H := Aside.mk h
  obtain ⟨N, hn⟩ : ∃ n, e.length = n := ⟨_, rfl⟩
  rw [hn] at H ⊢
  clear h hn
  go_enter Tryz.func56, Tryz.ntmps56
  go_wp2_with fail
  refine (indexFunc_any _ e w H.out n gb hb).mono ?_
  rintro e' w1 ⟨rfl, hb1⟩
  obtain ⟨r, hr⟩ : ∃ r, idxV (e.findIdx? fun x => !okNd n x) = r := ⟨_, rfl⟩
  rw [hr] at HV ⊢
  clear hr
  go_wp2_with fail
  go_ret
  rw [← HV.out]
  exact ⟨rfl, hb1⟩
theorem RdN.re {w : World} {v : Value} {e : List Nd} (h : RdN w v e) {w' : World} (hb : Below w.heap.size w w') : RdN w' v e := h.below hb
set_option maxRecDepth 100000 in
set_option maxHeartbeats 8000000 in
theorem validExpr_any (v : Value) (e : List Nd) (n : Int) (w : World) (h : RdN w v e) : Calls Tryz.prog 14 #[v, .int .i64 n] w fun e' w' => e' = .returned (.bool (okEx n e)) ∧ Below w.heap.size w w' := by
  have hmf : ∀ (fn : Fn) (first cap : Array Value) (w : World), (Instr.makeFunc fn first cap).run Tryz.prog w = .ok (.func fn first cap) w := fun _ _ _ _ => rfl
  have hfew := h.few
  have HV : Aside (okEx n e = (decide (0 < e.length) && decide (e.length ≤ 200) && e.all (okNd n) && exLen 1 e == e.length)) := ⟨rfl⟩
  obtain ⟨ao, c, rfl⟩ := h.slice
  have H := Aside.mk h
  obtain ⟨N, hn⟩ : ∃ n, e.length = n := ⟨_, rfl⟩
  rw [hn] at H HV hfew ⊢
  clear h
  have hal : Below w.heap.size w (w.alloc (Obj.cells #[.int .i64 n] 3)) := (Below.refl _ _).alloc (Nat.le_refl _) _
  have HB := Aside.mk hal
  have HG : Aside ((w.alloc (Obj.cells #[.int .i64 n] 3)).cell? ⟨w.heap.size, 0, none⟩ = some (.int .i64 n)) := ⟨by rw [cell_of_row _ _ 0 _ _ _ (heap_alloc_last w _)]; rfl⟩
  clear hal
  by_cases h0 : 0 < N
  · have h0' : (0 : Int) < (N : Int) := by omega
    by_cases h2 : N ≤ 200
    · have h2' : (N : Int) ≤ 200 := by omega
      have HV : Aside (okEx n e = (e.all (okNd n) && exLen 1 e == N)) := ⟨by rw [HV.out]; simp [h0, h2]⟩
      go_enter Tryz.func14, Tryz.ntmps14
      go_wp2_with fail
      refine (containsFunc_any _ e _ (H.out.below HB.out) n w.heap.size HG.out).mono ?_
      rintro e' w1 ⟨rfl, hb1⟩
      have HB1 := Aside.mk (HB.out.trans (hb1.mono HB.out.size))
      obtain ⟨q, hq⟩ : ∃ q, e.all (okNd n) = q := ⟨_, rfl⟩
      rw [hq] at HV ⊢
      clear hq hb1
      cases q with
      | false =>
        go_wp2_with fail
        go_ret
        rw [HV.out]
        exact ⟨rfl, HB1.out⟩
      | true =>
        go_wp2_with fail
        refine (exprLen_any _ e _ (H.out.below HB1.out)).mono ?_
        rintro e' w2 ⟨rfl, hb2⟩
        have HB2 := Aside.mk (HB1.out.trans (hb2.mono HB1.out.size))
        obtain ⟨m, hm⟩ : ∃ m, exLen 1 e = m := ⟨_, rfl⟩
        rw [hm] at HV ⊢
        clear hm hb2
        go_wp2_with fail
        go_ret
        rw [HV.out]
        refine ⟨?_, HB2.out⟩
        by_cases hmn : m = N
        · subst hmn; simp
        · have : ¬ ((m : Int) = (N : Int)) := by omega
          rw [show (m == N) = false by simpa using hmn, show ((m : Int) == (N : Int)) = false by simpa using this]; rfl
    · have h2' : ¬ (N : Int) ≤ 200 := by omega
      have HV : Aside (okEx n e = false) := ⟨by rw [HV.out]; simp [h2]⟩
      go_enter Tryz.func14, Tryz.ntmps14
      go_wp2_with fail
      go_ret
      rw [HV.out]
      exact ⟨rfl, HB.out⟩
  · have h0' : ¬ (0 : Int) < (N : Int) := by omega
    have HV : Aside (okEx n e = false) := ⟨by rw [HV.out]; simp [h0]⟩
    go_enter Tryz.func14, Tryz.ntmps14
    go_wp2_with fail
    go_ret
    rw [HV.out]
    exact ⟨rfl, HB.out⟩
end Go.Proofs.YthcidkidpiaomaaGreatDoor.Od
end
