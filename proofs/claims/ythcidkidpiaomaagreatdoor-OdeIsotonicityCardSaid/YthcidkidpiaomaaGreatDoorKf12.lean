/- OdW OdX OdY -/
import Derived.Deep.RegionWith
import Derived.Laws.StructEq
import Derived.Shelf.Strings.SlTrimAscii
import Derived.Test.YthcidkidpiaomaaGreatDoorKf11
import Derived.Test.YthcidkidpiaomaaGreatDoorKf07
section
set_option linter.unusedVariables false
set_option linter.unusedSimpArgs false
namespace Go.Proofs.YthcidkidpiaomaaGreatDoor.Od
open Go.RowKit Rg
set_option maxRecDepth 100000 in
set_option maxHeartbeats 8000000 in
theorem arity_any (op : Int) (w : World) : Calls Tryz.prog 68 #[.int .i64 op] w fun e w' => e = .returned (.int .i64 (arity op)) ∧ w' = w := by
  by_cases h1 : 1 ≤ op
  · by_cases h2 : op ≤ 3
    · have HA : Aside (arity op = 0) := ⟨by unfold arity; rw [if_pos ⟨h1, h2⟩]⟩
      go_enter Tryz.func68, Tryz.ntmps68
      go_wp2_with fail
      go_ret
      rw [HA.out]; exact ⟨rfl, rfl⟩
    · by_cases h4 : 4 ≤ op
      · by_cases h5 : op ≤ 6
        · have HA : Aside (arity op = 1) := ⟨by unfold arity; rw [if_neg (by omega), if_pos ⟨h4, h5⟩]⟩
          go_enter Tryz.func68, Tryz.ntmps68
          go_wp2_with fail
          go_ret
          rw [HA.out]; exact ⟨rfl, rfl⟩
        · have h7 : 7 ≤ op := by omega
          by_cases h8 : op ≤ 10
          · have HA : Aside (arity op = 2) := ⟨by unfold arity; rw [if_neg (by omega), if_neg (by omega), if_pos ⟨h7, h8⟩]⟩
            go_enter Tryz.func68, Tryz.ntmps68
            go_wp2_with fail
            go_ret
            rw [HA.out]; exact ⟨rfl, rfl⟩
          · have HA : Aside (arity op = -1) := ⟨by unfold arity; rw [if_neg (by omega), if_neg (by omega), if_neg (by omega)]⟩
            go_enter Tryz.func68, Tryz.ntmps68
            go_wp2_with fail
            go_ret
            rw [HA.out]; exact ⟨rfl, rfl⟩
      · omega
  · have h4 : ¬ 4 ≤ op := by omega
    have h7 : ¬ 7 ≤ op := by omega
    have HA : Aside (arity op = -1) := ⟨by unfold arity; rw [if_neg (by omega), if_neg (by omega), if_neg (by omega)]⟩
    go_enter Tryz.func68, Tryz.ntmps68
    go_wp2_with fail
    go_ret
    rw [HA.out]; exact ⟨rfl, rfl⟩
def ndV (x : Nd) : Value := .agg #[.int .i64 x.op, .int .i64 x.n, .int .i64 x.lo, .int .i64 x.hi]
set_option maxRecDepth 100000 in
set_option maxHeartbeats 8000000 in
theorem validNode_any (x : Nd) (n : Int) (w : World) : Calls Tryz.prog 58 #[ndV x, .int .i64 n] w fun e w' => e = .returned (.bool (okNd n x)) ∧ Below w.heap.size w w' := by
  obtain ⟨op, xn, lo, hi⟩ := x
  unfold ndV
  simp only
  have HV : Aside (okNd n ⟨op, xn, lo, hi⟩ = if op = 1 then xn == 0 && okIv lo hi else if op = 2 then decide (0 ≤ xn) && decide (xn < n) && lo == 0 && hi == 0 else decide (0 ≤ arity op) && xn == 0 && lo == 0 && hi == 0) := ⟨rfl⟩
  have heq := eq_iv lo hi 0 0
  go_enter Tryz.func58, Tryz.ntmps58
  by_cases h1 : op = 1
  · subst h1
    by_cases h0 : xn = 0
    · subst h0
      go_wp2_with fail
      have hb0 : Below w.heap.size w (w.alloc (Obj.cells #[.int .i64 1, .int .i64 0, .int .i64 lo, .int .i64 hi] 79)) := (Below.refl _ _).alloc (Nat.le_refl _) _
      refine (ivValid_any lo hi _).mono ?_
      rintro e w1 ⟨rfl, hb1⟩
      go_wp2_with fail
      go_ret
      rw [HV.out]
      exact ⟨by simp, hb0.trans (hb1.mono hb0.size)⟩
    · have h0' : (xn == 0) = false := by rw [beq_eq_false_iff_ne]; exact h0
      go_wp2_with fail
      go_ret
      rw [HV.out]
      exact ⟨by simp [h0'], (Below.refl _ _).alloc (Nat.le_refl _) _⟩
  · have h1' : (op == 1) = false := by rw [beq_eq_false_iff_ne]; exact h1
    by_cases h2 : op = 2
    · subst h2
      by_cases h0 : 0 ≤ xn
      · have d0 : decide (0 ≤ xn) = true := by simpa using h0
        by_cases hn : xn < n
        · have dn : decide (xn < n) = true := by simpa using hn
          go_wp2_with fail
          go_ret
          rw [HV.out]
          exact ⟨by simp [h0, hn], (Below.refl _ _).alloc (Nat.le_refl _) _⟩
        · have dn : decide (xn < n) = false := by simpa using hn
          go_wp2_with fail
          go_ret
          rw [HV.out]
          exact ⟨by rw [dn]; simp, (Below.refl _ _).alloc (Nat.le_refl _) _⟩
      · have d0 : decide (0 ≤ xn) = false := by simpa using h0
        go_wp2_with fail
        go_ret
        rw [HV.out]
        exact ⟨by rw [d0]; simp, (Below.refl _ _).alloc (Nat.le_refl _) _⟩
    · have h2' : (op == 2) = false := by rw [beq_eq_false_iff_ne]; exact h2
      have HV2 : Aside (okNd n ⟨op, xn, lo, hi⟩ = (decide (0 ≤ arity op) && xn == 0 && lo == 0 && hi == 0)) := ⟨by rw [HV.out, if_neg h1, if_neg h2]⟩
      clear HV
      go_wp2_with fail
      refine (arity_any op _).mono ?_
      rintro e w1 ⟨rfl, rfl⟩
      have hb0 : Below w.heap.size w (w.alloc (Obj.cells #[.int .i64 op, .int .i64 xn, .int .i64 lo, .int .i64 hi] 79)) := (Below.refl _ _).alloc (Nat.le_refl _) _
      have HB := Aside.mk hb0
      obtain ⟨a, ha⟩ : ∃ a, arity op = a := ⟨_, rfl⟩
      rw [ha] at HV2 ⊢
      clear ha hb0
      by_cases hp : 0 ≤ a
      · have dp : decide (0 ≤ a) = true := by simpa using hp
        by_cases h0 : xn = 0
        · subst h0
          go_wp2_with fail
          go_ret
          rw [HV2.out]
          exact ⟨by simp [hp], HB.out⟩
        · have h0' : (xn == 0) = false := by rw [beq_eq_false_iff_ne]; exact h0
          go_wp2_with fail
          go_ret
          rw [HV2.out]
          exact ⟨by simp [h0'], HB.out⟩
      · have dp : decide (0 ≤ a) = false := by simpa using hp
        go_wp2_with fail
        go_ret
        rw [HV2.out]
        exact ⟨by rw [dp]; simp, HB.out⟩
structure RdN (w : World) (v : Value) (e : List Nd) : Prop where
  out : (e = [] ∧ ∃ ao c, v = .slice ao 0 c) ∨ ∃ b o c, v = .slice (some ⟨b, o, none⟩) e.length c ∧ e.length ≤ c ∧ ∀ j u, (nds e)[j]? = some u → w.cell? ⟨b, o + j, none⟩ = some u
  few : e.length ≤ 9000
theorem OwnN.rdN {B : Nat} {w : World} {v : Value} {e : List Nd} (h : OwnN B w v e) (hf : e.length ≤ 9000) : RdN w v e := by
  refine ⟨?_, hf⟩
  have h' := h
  obtain ⟨h1, h2⟩ := h
  rcases h2 with ⟨rfl, hn⟩ | ⟨g, cap, cur, rfl, hg, hh, hcap, hm, hs, ht⟩
  · exact Or.inl ⟨List.length_eq_zero_iff.1 hn, none, 0, rfl⟩
  · refine Or.inr ⟨g, 0, cap, rfl, hcap, fun j u hu => ?_⟩
    have hj : j < e.length * 4 := by
      have := (List.getElem?_eq_some_iff.1 hu).1
      rw [nds_len] at this; exact this
    rw [Nat.zero_add, World.ownsRow.cellAt h' j hj]; exact hu
theorem RdN.below {w w' : World} {v : Value} {e : List Nd} (h : RdN w v e) (hb : Below w.heap.size w w') : RdN w' v e := by
  refine ⟨?_, h.few⟩
  rcases h.out with h0 | ⟨b, o, c, hv, hcp, hc⟩
  · exact Or.inl h0
  · exact Or.inr ⟨b, o, c, hv, hcp, fun j u hu => by rw [hb.cell (World.block_lt_of_cell? w _ (hc j u hu))]; exact hc j u hu⟩
theorem RdN.slice {w : World} {v : Value} {e : List Nd} (h : RdN w v e) : ∃ ao c, v = .slice ao e.length c := by
  rcases h.out with ⟨rfl, ao, c, hv⟩ | ⟨b, o, c, hv, -⟩
  · exact ⟨ao, c, hv⟩
  · exact ⟨_, c, hv⟩
theorem exLen_step (m : Int) (x : Nd) (r : List Nd) : exLen m (x :: r) = if m + arity x.op - 1 = 0 then 1 else exLen (m + arity x.op - 1) r + 1 := rfl
theorem arity_bd (op : Int) : -1 ≤ arity op ∧ arity op ≤ 2 := by unfold arity; repeat (first | omega | split)
set_option maxRecDepth 100000 in
set_option maxHeartbeats 8000000 in
theorem exprLen_any (v : Value) (e : List Nd) (w : World) (h : RdN w v e) : Calls Tryz.prog 59 #[v] w fun e' w' => e' = .returned (.int .i64 (exLen 1 e : Nat)) ∧ Below w.heap.size w w' := by
  have hfew := h.few
  obtain ⟨n, hn⟩ : ∃ n, e.length = n := ⟨_, rfl⟩
  have HN := Aside.mk hn
  rcases h.out with ⟨rfl, ao, c, rfl⟩ | ⟨b, o, c, rfl, -, hc⟩
  · clear hn HN hfew h
    go_enter Tryz.func59, Tryz.ntmps59
    go_wp2_with fail
    go_loopg [3, 8] 0 (fun m v3 v8 w2 => v3 = .int .i64 1 ∧ v8 = .int .i64 0 ∧ w2 = w)
    case atStart => exact ⟨rfl, rfl, rfl⟩
    case round =>
      obtain ⟨rfl, rfl, hwr⟩ := hrel
      have hwr' := hwr.symm
      subst hwr'
      go_wp2_with fail
      go_ret
      exact ⟨rfl, Below.refl _ _⟩
  · rw [hn] at hfew ⊢
    have HC := Aside.mk hc
    clear hc h
    go_enter Tryz.func59, Tryz.ntmps59
    go_wp2_with fail
    go_loopg [3, 8] n (fun m v3 v8 wr => ∃ (i : Nat) (k : Int), v3 = .int .i64 k ∧ v8 = .int .i64 (i : Nat) ∧ Aside (i ≤ n ∧ n - i ≤ m ∧ -2 * (i : Int) - 1 ≤ k ∧ k ≤ (i : Int) + 1) ∧ Aside (exLen 1 e = exLen k (e.drop i) + i) ∧ Aside (Below w.heap.size w wr))
    case atStart => exact ⟨0, 1, rfl, rfl, ⟨by omega⟩, ⟨rfl⟩, ⟨Below.refl _ _⟩⟩
    case round =>
      obtain ⟨i, k, rfl, rfl, HI, HE, HB⟩ := hrel
      by_cases hi : i < n
      · have hi' : (i : Int) < (n : Int) := by omega
        obtain ⟨x, hx⟩ : ∃ x, e[i]? = some x := ⟨_, List.getElem?_eq_getElem (by rw [HN.out]; exact hi)⟩
        have hdr : e.drop i = x :: e.drop (i + 1) := by
          obtain ⟨hl, rfl⟩ := List.getElem?_eq_some_iff.1 hx
          exact List.drop_eq_getElem_cons hl
        have cell : ∀ r, r < 4 → ∀ u, (nd4 x)[r]? = some u → wr.cell? ⟨b, o + (i * 4 + r), none⟩ = some u := fun r hr u hu => by
          have := HC.out (i * 4 + r) u (by rw [nds_get e i x r hx hr]; exact hu)
          rw [HB.out.cell (p := ⟨b, o + (i * 4 + r), none⟩) (World.block_lt_of_cell? w _ this)]; exact this
        have c0 := cell 0 (by decide) _ rfl
        have c1 := cell 1 (by decide) _ rfl
        have c2 := cell 2 (by decide) _ rfl
        have c3 := cell 3 (by decide) _ rfl
        rw [Nat.add_zero] at c0
        rw [← Nat.add_assoc] at c1 c2 c3
        have HST := Aside.mk (exLen_step k x (e.drop (i + 1)))
        have HD := Aside.mk hdr
        obtain ⟨op, xn, lo, hi2⟩ := x
        simp only at c0 c1 c2 c3 HST
        clear hx hdr cell
        have hbd := arity_bd op
        have HB0 : Aside (Below w.heap.size w (wr.alloc (Obj.cells #[.int .i64 op, .int .i64 xn, .int .i64 lo, .int .i64 hi2] 79))) := ⟨HB.out.alloc HB.out.size _⟩
        go_wp2_with fail
        refine (arity_any op _).mono ?_
        rintro e' w1 ⟨rfl, hw1⟩
        have hw1' := hw1.symm
        subst hw1'
        obtain ⟨a, ha⟩ : ∃ a, arity op = a := ⟨_, rfl⟩
        rw [ha] at HST hbd ⊢
        have HBD := Aside.mk hbd
        have hI := HI.out
        have hwa : IntKind.i64.wrap (a - 1) = a - 1 := IntWalk.i64_in _ (by omega)
        have hwk : IntKind.i64.wrap (k + (a - 1)) = k + (a - 1) := IntWalk.i64_in _ (by omega)
        clear ha hbd hI
        by_cases hz : k + (a - 1) = 0
        · have HF : Aside (exLen 1 e = i + 1) := ⟨by rw [HE.out, HD.out, HST.out, if_pos (by omega)]; omega⟩
          have hwi : IntKind.i64.wrap ((i : Int) + 1) = (i : Int) + 1 := IntWalk.i64_in _ (by omega)
          go_wp2_with fail
          go_ret
          rw [HF.out]
          exact ⟨rfl, HB0.out⟩
        · have HF : Aside (exLen 1 e = exLen (k + (a - 1)) (e.drop (i + 1)) + ((i + 1 : Nat))) := ⟨by rw [HE.out, HD.out, HST.out, if_neg (by omega), show k + a - 1 = k + (a - 1) by omega]; omega⟩
          go_wp2_with fail
          obtain ⟨go, hgo⟩ : ∃ go, gk = go + 1 := ⟨gk - 1, by have := HI.out; omega⟩
          go_roundg go
          case measure => omega
          case rel => exact ⟨i + 1, k + (a - 1), rfl, rfl, ⟨by have := HI.out; have := HBD.out; omega⟩, HF, HB0⟩
      · have hi' : ¬ ((i : Int) < (n : Int)) := by omega
        have HF : Aside (exLen 1 e = n + 1) := ⟨by
          have hin : i = n := by have := HI.out; omega
          rw [HE.out, List.drop_of_length_le (by rw [HN.out, hin]; omega), hin]
          show 1 + n = n + 1
          omega⟩
        go_wp2_with fail
        go_ret
        rw [HF.out]
        exact ⟨rfl, HB.out⟩
theorem findIdx_drop {α : Type} (p : α → Bool) (e : List α) (i : Nat) (h : e.findIdx? p = ((e.drop i).findIdx? p).map (· + i)) {x : α} (hx : e[i]? = some x) (hp : p x = false) : e.findIdx? p = ((e.drop (i + 1)).findIdx? p).map (· + (i + 1)) := by
  obtain ⟨hl, rfl⟩ := List.getElem?_eq_some_iff.1 hx
  rw [h, List.drop_eq_getElem_cons hl, List.findIdx?_cons, hp]
  cases (e.drop (i + 1)).findIdx? p with
  | none => rfl
  | some k => simp; omega
theorem enters_vn : ∀ args w, (callFunc 57 args).run Tryz.prog w = .ok (.enter 57 args) w := fun args w => by kernel_rfl
set_option maxRecDepth 100000 in
set_option maxHeartbeats 8000000 in
theorem notValid_any (x : Nd) (n : Int) (gb : Nat) (w : World) (h : w.cell? ⟨gb, 0, none⟩ = some (.int .i64 n)) : Calls Tryz.prog 57 #[ndV x, .pointer (some ⟨gb, 0, none⟩)] w fun e w' => e = .returned (.bool (!okNd n x)) ∧ Below w.heap.size w w' := by
  obtain ⟨op, xn, lo, hi⟩ := x
  have hl := World.block_lt_of_cell? w _ h
  have hb0 : Below w.heap.size w (w.alloc (Obj.cells #[.int .i64 op, .int .i64 xn, .int .i64 lo, .int .i64 hi] 79)) := (Below.refl _ _).alloc (Nat.le_refl _) _
  have h1 : (w.alloc (Obj.cells #[.int .i64 op, .int .i64 xn, .int .i64 lo, .int .i64 hi] 79)).cell? ⟨gb, 0, none⟩ = some (.int .i64 n) := (hb0.cell (p := ⟨gb, 0, none⟩) hl).trans h
  have HB := Aside.mk hb0
  unfold ndV
  simp only
  clear hb0
  go_enter Tryz.func57, Tryz.ntmps57
  go_wp2_with fail
  refine (validNode_any ⟨op, xn, lo, hi⟩ n _).mono ?_
  rintro e w1 ⟨rfl, hb1⟩
  go_wp2_with fail
  go_ret
  exact ⟨rfl, HB.out.trans (hb1.mono HB.out.size)⟩
set_option maxRecDepth 100000 in
set_option maxHeartbeats 8000000 in
theorem indexFunc_any (v : Value) (e : List Nd) (w : World) (h : RdN w v e) (n : Int) (gb : Nat) (hb : w.cell? ⟨gb, 0, none⟩ = some (.int .i64 n)) :
    Calls Tryz.prog 103 #[v, .func (.func 57) #[] #[.pointer (some ⟨gb, 0, none⟩)]] w fun e' w' => e' = .returned (.int .i64 (idxV (e.findIdx? fun x => !okNd n x))) ∧ Below w.heap.size w w' := by
  have hfew := h.few
  have hen := enters_vn
  obtain ⟨N, hn⟩ : ∃ n, e.length = n := ⟨_, rfl⟩
  have HN := Aside.mk hn
  have HGB := Aside.mk hb
  rcases h.out with ⟨rfl, ao, c, rfl⟩ | ⟨b, o, c, rfl, -, hc⟩
  · clear hn HN hfew h hb
    go_enter Tryz.func103, Tryz.ntmps103
    go_wp2_with fail
    go_loopg [8] 0 (fun m v8 w2 => v8 = .int .i64 0 ∧ w2 = w)
    case atStart => exact ⟨rfl, rfl⟩
    case round =>
      obtain ⟨rfl, hwr⟩ := hrel
      have hwr' := hwr.symm
      subst hwr'
      go_wp2_with fail
      go_ret
      exact ⟨rfl, Below.refl _ _⟩
  · rw [hn] at hfew ⊢
    have HC := Aside.mk hc
    clear hc h hb
    go_enter Tryz.func103, Tryz.ntmps103
    go_wp2_with fail
    go_loopg [8] N (fun m v8 wr => ∃ (i : Nat), v8 = .int .i64 (i : Nat) ∧ Aside (i ≤ N ∧ N - i ≤ m) ∧ Aside (e.findIdx? (fun x => !okNd n x) = ((e.drop i).findIdx? (fun x => !okNd n x)).map (· + i)) ∧ Aside (Below w.heap.size w wr))
    case atStart => exact ⟨0, rfl, ⟨by omega⟩, ⟨by simp⟩, ⟨Below.refl _ _⟩⟩
    case round =>
      obtain ⟨i, rfl, HI, HE, HB⟩ := hrel
      by_cases hi : i < N
      · have hi' : (i : Int) < (N : Int) := by omega
        obtain ⟨x, hx⟩ : ∃ x, e[i]? = some x := ⟨_, List.getElem?_eq_getElem (by rw [HN.out]; exact hi)⟩
        have cell : ∀ r, r < 4 → ∀ u, (nd4 x)[r]? = some u → wr.cell? ⟨b, o + (i * 4 + r), none⟩ = some u := fun r hr u hu => by
          have := HC.out (i * 4 + r) u (by rw [nds_get e i x r hx hr]; exact hu)
          rw [HB.out.cell (p := ⟨b, o + (i * 4 + r), none⟩) (World.block_lt_of_cell? w _ this)]; exact this
        have c0 := cell 0 (by decide) _ rfl
        have c1 := cell 1 (by decide) _ rfl
        have c2 := cell 2 (by decide) _ rfl
        have c3 := cell 3 (by decide) _ rfl
        rw [Nat.add_zero] at c0
        rw [← Nat.add_assoc] at c1 c2 c3
        have HX := Aside.mk hx
        have HGB2 : Aside (wr.cell? ⟨gb, 0, none⟩ = some (.int .i64 n)) := ⟨by rw [HB.out.cell (p := ⟨gb, 0, none⟩) (World.block_lt_of_cell? w _ HGB.out)]; exact HGB.out⟩
        obtain ⟨op, xn, lo, hi2⟩ := x
        simp only at c0 c1 c2 c3
        clear hx cell
        go_wp2_with fail
        refine (notValid_any ⟨op, xn, lo, hi2⟩ n gb wr HGB2.out).mono ?_
        rintro e' w1 ⟨rfl, hb1⟩
        have HB1 := Aside.mk (HB.out.trans (hb1.mono HB.out.size))
        obtain ⟨q, hq⟩ : ∃ q, (!okNd n ⟨op, xn, lo, hi2⟩) = q := ⟨_, rfl⟩
        rw [hq]
        cases q with
        | true =>
          have HF : Aside (e.findIdx? (fun x => !okNd n x) = some i) := ⟨by
            obtain ⟨hl, hxx⟩ := List.getElem?_eq_some_iff.1 HX.out
            rw [HE.out, List.drop_eq_getElem_cons hl, List.findIdx?_cons, hxx, hq]; simp⟩
          clear hq hb1
          go_wp2_with fail
          go_ret
          rw [HF.out]
          exact ⟨rfl, HB1.out⟩
        | false =>
          have HF := Aside.mk (findIdx_drop _ e i HE.out HX.out hq)
          clear hq hb1
          go_wp2_with fail
          obtain ⟨go, hgo⟩ : ∃ go, gk = go + 1 := ⟨gk - 1, by have := HI.out; omega⟩
          go_roundg go
          case measure => omega
          case rel => exact ⟨i + 1, rfl, ⟨by have := HI.out; omega⟩, HF, HB1⟩
      · have hi' : ¬ ((i : Int) < (N : Int)) := by omega
        have HF : Aside (e.findIdx? (fun x => !okNd n x) = none) := ⟨by
          rw [HE.out, List.drop_of_length_le (by rw [HN.out]; omega)]; rfl⟩
        go_wp2_with fail
        go_ret
        rw [HF.out]
        exact ⟨rfl, HB.out⟩
theorem idxV_nonneg (p : Nd → Bool) (e : List Nd) : decide (0 ≤ idxV (e.findIdx? fun x => !p x)) = !e.all p := by
  cases h : e.findIdx? (fun x => !p x) with
  | none =>
    rw [List.findIdx?_eq_none_iff] at h
    have : e.all p = true := List.all_eq_true.2 fun x hx => by have := h x hx; simpa using this
    rw [this]; rfl
  | some k =>
    obtain ⟨hl, hp, -⟩ := List.findIdx?_eq_some_iff_getElem.1 h
    have : e.all p = false := by
      rw [List.all_eq_false]
      exact ⟨e[k], List.getElem_mem hl, by simpa using hp⟩
    rw [this]
    simp [idxV]
set_option maxRecDepth 100000 in
set_option maxHeartbeats 8000000 in
theorem containsFunc_any (v : Value) (e : List Nd) (w : World) (h : RdN w v e) (n : Int) (gb : Nat) (hb : w.cell? ⟨gb, 0, none⟩ = some (.int .i64 n)) :
    Calls Tryz.prog 56 #[v, .func (.func 57) #[] #[.pointer (some ⟨gb, 0, none⟩)]] w fun e' w' => e' = .returned (.bool (!e.all (okNd n))) ∧ Below w.heap.size w w' := by
  have HV := Aside.mk (idxV_nonneg (okNd n) e)
  obtain ⟨ao, c, rfl⟩ := h.slice
  have H := Aside.mk h
  obtain ⟨N, hn⟩ : ∃ n, e.length = n := ⟨_, rfl⟩
  rw [hn] at H ⊢
  clear h hn
  go_enter Tryz.func56, Tryz.ntmps56
  go_wp2_with fail
  refine (indexFunc_any _ e w H.out n gb hb).mono ?_
  rintro e' w1 ⟨rfl, hb1⟩
  obtain ⟨r, hr⟩ : ∃ r, idxV (e.findIdx? fun x => !okNd n x) = r := ⟨_, rfl⟩
  rw [hr] at HV ⊢
  clear hr
  go_wp2_with fail
  go_ret
  rw [← HV.out]
  exact ⟨rfl, hb1⟩
theorem RdN.re {w : World} {v : Value} {e : List Nd} (h : RdN w v e) {w' : World} (hb : Below w.heap.size w w') : RdN w' v e := h.below hb
set_option maxRecDepth 100000 in
set_option maxHeartbeats 8000000 in
theorem validExpr_any (v : Value) (e : List Nd) (n : Int) (w : World) (h : RdN w v e) : Calls Tryz.prog 14 #[v, .int .i64 n] w fun e' w' => e' = .returned (.bool (okEx n e)) ∧ Below w.heap.size w w' := by
  have hmf : ∀ (fn : Fn) (first cap : Array Value) (w : World), (Instr.makeFunc fn first cap).run Tryz.prog w = .ok (.func fn first cap) w := fun _ _ _ _ => rfl
  have hfew := h.few
  have HV : Aside (okEx n e = (decide (0 < e.length) && decide (e.length ≤ 200) && e.all (okNd n) && exLen 1 e == e.length)) := ⟨rfl⟩
  obtain ⟨ao, c, rfl⟩ := h.slice
  have H := Aside.mk h
  obtain ⟨N, hn⟩ : ∃ n, e.length = n := ⟨_, rfl⟩
  rw [hn] at H HV hfew ⊢
  clear h
  have hal : Below w.heap.size w (w.alloc (Obj.cells #[.int .i64 n] 3)) := (Below.refl _ _).alloc (Nat.le_refl _) _
  have HB := Aside.mk hal
  have HG : Aside ((w.alloc (Obj.cells #[.int .i64 n] 3)).cell? ⟨w.heap.size, 0, none⟩ = some (.int .i64 n)) := ⟨by rw [cell_of_row _ _ 0 _ _ _ (heap_alloc_last w _)]; rfl⟩
  clear hal
  by_cases h0 : 0 < N
  · have h0' : (0 : Int) < (N : Int) := by omega
    by_cases h2 : N ≤ 200
    · have h2' : (N : Int) ≤ 200 := by omega
      have HV : Aside (okEx n e = (e.all (okNd n) && exLen 1 e == N)) := ⟨by rw [HV.out]; simp [h0, h2]⟩
      go_enter Tryz.func14, Tryz.ntmps14
      go_wp2_with fail
      refine (containsFunc_any _ e _ (H.out.below HB.out) n w.heap.size HG.out).mono ?_
      rintro e' w1 ⟨rfl, hb1⟩
      have HB1 := Aside.mk (HB.out.trans (hb1.mono HB.out.size))
      obtain ⟨q, hq⟩ : ∃ q, e.all (okNd n) = q := ⟨_, rfl⟩
      rw [hq] at HV ⊢
      clear hq hb1
      cases q with
      | false =>
        go_wp2_with fail
        go_ret
        rw [HV.out]
        exact ⟨rfl, HB1.out⟩
      | true =>
        go_wp2_with fail
        refine (exprLen_any _ e _ (H.out.below HB1.out)).mono ?_
        rintro e' w2 ⟨rfl, hb2⟩
        have HB2 := Aside.mk (HB1.out.trans (hb2.mono HB1.out.size))
        obtain ⟨m, hm⟩ : ∃ m, exLen 1 e = m := ⟨_, rfl⟩
        rw [hm] at HV ⊢
        clear hm hb2
        go_wp2_with fail
        go_ret
        rw [HV.out]
        refine ⟨?_, HB2.out⟩
        by_cases hmn : m = N
        · subst hmn; simp
        · have : ¬ ((m : Int) = (N : Int)) := by omega
          rw [show (m == N) = false by simpa using hmn, show ((m : Int) == (N : Int)) = false by simpa using this]; rfl
    · have h2' : ¬ (N : Int) ≤ 200 := by omega
      have HV : Aside (okEx n e = false) := ⟨by rw [HV.out]; simp [h2]⟩
      go_enter Tryz.func14, Tryz.ntmps14
      go_wp2_with fail
      go_ret
      rw [HV.out]
      exact ⟨rfl, HB.out⟩
  · have h0' : ¬ (0 : Int) < (N : Int) := by omega
    have HV : Aside (okEx n e = false) := ⟨by rw [HV.out]; simp [h0]⟩
    go_enter Tryz.func14, Tryz.ntmps14
    go_wp2_with fail
    go_ret
    rw [HV.out]
    exact ⟨rfl, HB.out⟩
end Go.Proofs.YthcidkidpiaomaaGreatDoor.Od
end
section
set_option linter.unusedVariables false
set_option linter.unusedSimpArgs false
namespace Go.Proofs.YthcidkidpiaomaaGreatDoor.Od
open Go.RowKit Rg
def ExprPost (w : World) (s : ByteArray) (vars : List (List UInt8)) (e : Ending) (w' : World) : Prop :=
  Below w.heap.size w w' ∧ match Od.parseExpr s.data.toList vars with
    | .ok r => ∃ v, e = .returned (.tuple #[v, .int .i64 0, .int .i64 0]) ∧ OwnN w.heap.size w' v r
    | .err o c => e = .returned (.tuple #[.slice none 0 0, .int .i64 (o : Nat), .int .i64 c])
theorem field_kind (k : Int) (x : ByteArray) (q : Int) (w : World) : (Instr.field 108 (.agg #[.int .i64 k, .string x, .int .i64 q]) 0).run Tryz.prog w = .ok (.int .i64 k) w := by kernel_rfl
theorem errAt_at (nl : Bool) (L : List UInt8) (p : Nat) : errAt nl L (peekT nl L p).lo = errAt nl L p := by unfold errAt; rw [peekT_at]
theorem two_set {w : World} {g : Nat} {a b : Value} (h : w.heap[g]? = some (.cells #[a] 3 (0, 0))) (k : w.heap[g + 1]? = some (.cells #[b] 47 (0, 0))) (x y : Value) :
    ((w.setCell ⟨g, 0, none⟩ x).setCell ⟨g + 1, 0, none⟩ y).heap[g]? = some (.cells #[x] 3 (0, 0)) ∧ ((w.setCell ⟨g, 0, none⟩ x).setCell ⟨g + 1, 0, none⟩ y).heap[g + 1]? = some (.cells #[y] 47 (0, 0)) ∧ Below g w ((w.setCell ⟨g, 0, none⟩ x).setCell ⟨g + 1, 0, none⟩ y) ∧
      ∀ base v e, OwnN base w v e → OwnN base ((w.setCell ⟨g, 0, none⟩ x).setCell ⟨g + 1, 0, none⟩ y) v e := by
  have b1 := row_cell (i := 0) h x
  have b2 : (w.setCell ⟨g, 0, none⟩ x).heap[g + 1]? = some (.cells #[b] 47 (0, 0)) := by rw [Below.heap_setCell _ _ _ _ (by show g + 1 ≠ g; omega)]; exact k
  refine ⟨?_, row_cell (i := 0) b2 y, ((Below.refl _ _).setCell (p := ⟨g, 0, none⟩) (Nat.le_refl _) _).setCell (p := ⟨g + 1, 0, none⟩) (Nat.le_succ g) _, fun base v e ho => owns_set (owns_set ho h (by decide)) b2 (by decide)⟩
  rw [Below.heap_setCell _ _ _ _ (by show g ≠ g + 1; omega)]; exact b1
theorem Par.start {w : World} {g : Nat} {s : ByteArray} {nl : Bool} (n : Nat) (hh : w.heap[g]? = some (.cells #[.string s, .int .i64 0, .bool nl, .slice none 0 0, .bool false] 104 (0, 0))) (hg : n ≤ g) (h8 : s.size ≤ 8000) :
    Par w g (fun k => k < n) s nl ⟨0, [], false⟩ := by
  refine ⟨⟨.slice none 0 0, hh, ⟨⟨by simp [toks], Or.inl ⟨rfl, rfl⟩⟩, fun k hk => by cases hk⟩⟩, Nat.zero_le _, by omega, h8, by simp, fun k hk => by have := lt_of hh; omega⟩
set_option maxRecDepth 100000 in
set_option maxHeartbeats 8000000 in
theorem ParseExpr_any (s : ByteArray) (hs8 : s.size ≤ 100000) (vv : Value) (xs : List ByteArray) (w : World) (hs : Strs w vv xs) (hT : Fx.Tabs w) :
    Calls Tryz.prog 33 #[.string s, vv] w fun e w' => ExprPost w s (strL xs) e w' := by
  have hmf : ∀ (fn : Fn) (first cap : Array Value) (w : World), (Instr.makeFunc fn first cap).run Tryz.prog w = .ok (.func fn first cap) w := fun _ _ _ _ => rfl
  have hsl : s.data.toList.length = s.size := rfl
  have hfk := field_kind
  by_cases h8 : s.size ≤ 8000
  · have h8' : ¬ ((8000 : Int) < (s.size : Int)) := by omega
    go_enter_defers Tryz.func33, Tryz.ntmps33
    go_wp2_with fail
    obtain ⟨g1, hg1⟩ : ∃ g, w.heap.size = g := ⟨_, rfl⟩
    have HW : Aside (∀ W, W = ((w.alloc (Obj.cells #[.int .i64 0] 3)).alloc (Obj.cells #[.int .i64 0] 47)).alloc (Obj.cells #[.string s, .int .i64 0, .bool false, .slice none 0 0, .bool false] 104) →
        W.heap[g1]? = some (.cells #[.int .i64 0] 3 (0, 0)) ∧ W.heap[g1 + 1]? = some (.cells #[.int .i64 0] 47 (0, 0)) ∧ W.heap[g1 + 1 + 1]? = some (.cells #[.string s, .int .i64 0, .bool false, .slice none 0 0, .bool false] 104 (0, 0)) ∧ Below g1 w W) := ⟨by
      rintro W rfl
      subst hg1
      have a1 := heap_alloc_last w (Obj.cells #[.int .i64 0] 3)
      have a2 := heap_alloc_last (w.alloc (Obj.cells #[.int .i64 0] 3)) (Obj.cells #[.int .i64 0] 47)
      have a3 := heap_alloc_last ((w.alloc (Obj.cells #[.int .i64 0] 3)).alloc (Obj.cells #[.int .i64 0] 47)) (Obj.cells #[.string s, .int .i64 0, .bool false, .slice none 0 0, .bool false] 104)
      simp only [World.size_alloc] at a2 a3
      refine ⟨?_, ?_, a3, (((Below.refl _ _).alloc (Nat.le_refl _) _).alloc (by simp) _).alloc (by simp only [World.size_alloc]; omega) _⟩
      · rw [Below.heap_alloc _ _ _ (by simp only [World.size_alloc]; omega), Below.heap_alloc _ _ _ (by simp only [World.size_alloc]; omega)]; exact a1
      · rw [Below.heap_alloc _ _ _ (by simp only [World.size_alloc]; omega)]; exact a2⟩
    simp only [hg1]
    generalize hW : ((w.alloc (Obj.cells #[.int .i64 0] 3)).alloc (Obj.cells #[.int .i64 0] 47)).alloc (Obj.cells #[.string s, .int .i64 0, .bool false, .slice none 0 0, .bool false] 104) = W at HW ⊢
    obtain ⟨r0, r1, r2, hb⟩ := HW.out W rfl
    have HR0 := Aside.mk r0
    have HR1 := Aside.mk r1
    have HB := Aside.mk hb
    have HP := Aside.mk (Par.start g1 r2 (by omega) h8)
    have HTB : Aside (TB (fun k => k < g1) W) := ⟨by rw [← hg1] at hb ⊢; exact (TB.of hT).fr (Fr.of hb)⟩
    have HS := Aside.mk hs
    have HCL := Aside.mk (clo_expr g1 (g1 + 1) (by omega) (.int .i64 0) (.int .i64 0))
    have H8 := Aside.mk h8
    have HPE : Aside (Od.parseExpr s.data.toList (strL xs) = match Od.sum false s.data.toList (s.data.toList.length + 1) ⟨0, [], false⟩ with
        | .err c o => .err o c
        | .ok e σ =>
          if (peekT false s.data.toList σ.pos).kind ≠ 0 then .err (errAt false s.data.toList σ.pos).2 (errAt false s.data.toList σ.pos).1
          else match Od.resolve s.data.toList σ.names (strL xs) (flat e) with
            | (_, some o) => .err o 72
            | (e', none) => if σ.bad || !okEx (strL xs).length e' then .err 0 2 else .ok e') := ⟨by unfold Od.parseExpr; rw [if_neg (by omega)]; rfl⟩
    clear HW hW r0 r1 r2 hb hs hT h8
    refine (sum_any s false (s.data.toList.length + 1) W (g1 + 1 + 1) _ ⟨0, [], false⟩ HP.out HTB.out (by have := hsl; omega)).mono ?_
    rintro e w1 hg
    cases hx : Od.sum false s.data.toList (s.data.toList.length + 1) ⟨0, [], false⟩ with
    | err cc o =>
      rw [hx] at hg HPE
      have HA : Aside (Od.parseExpr s.data.toList (strL xs) = .err o cc) := ⟨HPE.out⟩
      clear hx HPE
      obtain ⟨hf, rfl⟩ := hg
      have b0 := hf.cell HR0.out (by decide)
      have b1 := hf.cell HR1.out (by decide)
      have HBL := Aside.mk (HB.out.trans (hf.below (Nat.le_of_lt (lt_of HR0.out)) fun k hk => hk))
      clear hf
      go_wp2_with fail
      refine leaves_cons (f := 92) (args := #[.pointer (some ⟨g1, 0, none⟩), .pointer (some ⟨g1 + 1, 0, none⟩)]) (by simp) (by simp [go_sem]) ?_
      refine (HCL.out.2 o cc [] w1 b0 b1).mono ?_
      rintro e u' w'' ⟨rfl, rfl, hb2, k0, k1⟩
      have e0 : w''.cell? ⟨g1, 0, none⟩ = some (.int .i64 (o : Nat)) := by rw [cell_of_row _ _ 0 _ _ _ k0]; rfl
      have e1 : w''.cell? ⟨g1 + 1, 0, none⟩ = some (.int .i64 cc) := by rw [cell_of_row _ _ 0 _ _ _ k1]; rfl
      simp [Leaves, settle, results, Tryz.results33, go_sem, e0, e1]
      refine ⟨hg1 ▸ (HBL.out.trans (hb2.mono (by omega))), ?_⟩
      rw [HA.out]
    | ok t σ1 =>
      rw [hx] at hg HPE
      obtain ⟨hf, ⟨u, rfl, ho⟩, hP1⟩ := hg
      have hgr := Gr.sum (nl := false) (L := s.data.toList) (s.data.toList.length + 1) _ t σ1 (Nat.zero_le _) hx
      have hvr := ((Nice.sum (nl := false) (L := s.data.toList) (s.data.toList.length + 1) 0) ⟨0, [], false⟩ (Nat.zero_le _) (by simp) (Nat.le_refl _)).1 _ _ hx
      have HVR := Aside.mk hvr.2.2.2
      have HL : Aside ((flat t).length ≤ 8000) := ⟨by have h2 := H8.out; omega⟩
      have HF1 := Aside.mk hf
      have HO1 := Aside.mk ho
      have HP1 := Aside.mk hP1
      clear hx hf ho hP1 hgr hvr
      go_wp2_with fail
      refine (peek_any w1 (g1 + 1 + 1) _ s false σ1 HP1.out).mono ?_
      rintro e w2 ⟨rfl, hf2, hP2⟩
      have HF2 := Aside.mk (HF1.out.trans hf2)
      have HP2 := Aside.mk hP2
      have HO2 := Aside.mk (HO1.out.frP hf2)
      clear hf2 hP2 HO1
      rw [tokV_eq]
      obtain ⟨KK, hKK⟩ : ∃ K, (peekT false s.data.toList σ1.pos).kind = K := ⟨_, rfl⟩
      rw [hKK] at HPE ⊢
      by_cases hk0 : KK = 0
      · subst hk0
        have HPE : Aside (Od.parseExpr s.data.toList (strL xs) = match Od.resolve s.data.toList σ1.names (strL xs) (flat t) with
          | (_, some o) => .err o 72
          | (e', none) => if σ1.bad || !okEx (strL xs).length e' then .err 0 2 else .ok e') := ⟨by rw [HPE.out]; rfl⟩
        obtain ⟨n, hn⟩ : ∃ n, (flat t).length = n := ⟨_, rfl⟩
        have hof : ∃ gv cap, u = .slice (some ⟨gv, 0, none⟩) n cap ∧ W.heap.size ≤ gv := by
          rcases HO2.out.2 with ⟨-, h0⟩ | ⟨gv, cap, cur, hu, hgv, -⟩
          · exact absurd (List.length_eq_zero_iff.1 h0) (flat_ne t)
          · rw [hn] at hu; exact ⟨gv, cap, hu, hgv⟩
        obtain ⟨gv, cap, rfl, hgv⟩ := hof
        have HGV := Aside.mk hgv
        have HN := Aside.mk hn
        have HBL2 := Aside.mk (HB.out.trans (HF2.out.below (Nat.le_of_lt (lt_of HR0.out)) fun k hk => hk))
        clear hgv hKK
        go_wp2_with fail
        refine (resolve_any w2 (g1 + 1 + 1) _ (fun k => k < W.heap.size) s false _ HP2.out gv cap (flat t) W.heap.size n hn (by have := HL.out; omega) HO2.out (by have := HGV.out; omega) vv xs (HS.out.below (hg1 ▸ HBL2.out)) (fun x hx h2 => HVR.out x hx h2)).mono ?_
        obtain ⟨R, hR⟩ : ∃ R, Od.resolve s.data.toList σ1.names (strL xs) (flat t) = R := ⟨_, rfl⟩
        have hRl : R.1.length = n := by rw [← hR, resolve_len]; exact hn
        rw [hR]
        rw [hR] at HPE
        rintro e w3 ⟨rfl, ho3, hf3, hs3, hP3⟩
        have b0 := Fr.cell hf3 (HF2.out.cell HR0.out (by decide)) (by decide)
        have b1 := Fr.cell hf3 (HF2.out.cell HR1.out (by decide)) (by decide)
        have HBL3 := Aside.mk (HBL2.out.trans (hf3.below (n := g1) (Nat.le_trans (Nat.le_of_lt (lt_of HR0.out)) HF2.out.size) fun k hk => Nat.lt_trans hk (lt_of HR0.out)))
        have HO3 : Aside (OwnN w.heap.size w3 (.slice (some ⟨gv, 0, none⟩) n cap) R.1) := ⟨ho3.mono (by have := lt_of HR0.out; omega)⟩
        have HP3 := Aside.mk hP3
        have c0 : w3.cell? ⟨g1, 0, none⟩ = some (.int .i64 0) := by rw [cell_of_row _ _ 0 _ _ _ b0]; rfl
        have c1 : w3.cell? ⟨g1 + 1, 0, none⟩ = some (.int .i64 0) := by rw [cell_of_row _ _ 0 _ _ _ b1]; rfl
        have f0 : w3.frozen? ⟨g1, 0, none⟩ = false := by simp [World.frozen?, b0]
        have f1 : w3.frozen? ⟨g1 + 1, 0, none⟩ = false := by simp [World.frozen?, b1]
        have HB0 := Aside.mk b0
        have HB1 := Aside.mk b1
        clear ho3 hf3 hs3 hP3 b0 b1 hR
        obtain ⟨e', so⟩ := R
        cases so with
        | some o =>
          have HA : Aside (Od.parseExpr s.data.toList (strL xs) = .err o 72) := ⟨HPE.out⟩
          have e1 : idxV ((e', some o) : List Nd × Option Nat).2 = (o : Int) := rfl
          have ho0 : (0 : Int) ≤ (o : Int) := by omega
          rw [e1]
          clear HPE e1
          go_wp2_with fail
          have st := two_set HB0.out HB1.out (.int .i64 (o : Nat)) (.int .i64 72)
          generalize (w3.setCell ⟨g1, 0, none⟩ (.int .i64 (o : Nat))).setCell ⟨g1 + 1, 0, none⟩ (.int .i64 72) = Z at st ⊢
          obtain ⟨z0, z1, zb, zo⟩ := st
          refine leaves_cons (f := 92) (args := #[.pointer (some ⟨g1, 0, none⟩), .pointer (some ⟨g1 + 1, 0, none⟩)]) (by simp) (by simp [go_sem]) ?_
          refine (HCL.out.1 Z).mono ?_
          rintro e u' w'' ⟨rfl, rfl, hb2⟩
          have e0 : w''.cell? ⟨g1, 0, none⟩ = some (.int .i64 (o : Nat)) := by rw [hb2.cell (p := ⟨g1, 0, none⟩) (lt_of z0), cell_of_row _ _ 0 _ _ _ z0]; rfl
          have e1 : w''.cell? ⟨g1 + 1, 0, none⟩ = some (.int .i64 72) := by rw [hb2.cell (p := ⟨g1 + 1, 0, none⟩) (lt_of z1), cell_of_row _ _ 0 _ _ _ z1]; rfl
          simp [Leaves, settle, results, Tryz.results33, go_sem, e0, e1]
          refine ⟨hg1 ▸ (HBL3.out.trans (zb.trans (hb2.mono (Nat.le_of_lt (lt_of z0))))), ?_⟩
          rw [HA.out]
        | none =>
          have HPE : Aside (Od.parseExpr s.data.toList (strL xs) = if σ1.bad || !okEx (strL xs).length e' then .err 0 2 else .ok e') := ⟨HPE.out⟩
          have e1 : idxV ((e', none) : List Nd × Option Nat).2 = -1 := rfl
          rw [e1]
          clear e1
          obtain ⟨-, -, c4, hlg, -, -, -⟩ := HP3.out.cells
          simp only at c4
          obtain ⟨bd, hbd⟩ : ∃ b, σ1.bad = b := ⟨_, rfl⟩
          rw [hbd] at c4 HPE
          clear hbd
          cases bd with
          | true =>
            have HA : Aside (Od.parseExpr s.data.toList (strL xs) = .err 0 2) := ⟨by rw [HPE.out]; rfl⟩
            clear HPE
            go_wp2_with fail
            have st := two_set HB0.out HB1.out (.int .i64 0) (.int .i64 2)
            generalize (w3.setCell ⟨g1, 0, none⟩ (.int .i64 0)).setCell ⟨g1 + 1, 0, none⟩ (.int .i64 2) = Z at st ⊢
            obtain ⟨z0, z1, zb, zo⟩ := st
            refine leaves_cons (f := 92) (args := #[.pointer (some ⟨g1, 0, none⟩), .pointer (some ⟨g1 + 1, 0, none⟩)]) (by simp) (by simp [go_sem]) ?_
            refine (HCL.out.1 Z).mono ?_
            rintro e u' w'' ⟨rfl, rfl, hb2⟩
            have e0 : w''.cell? ⟨g1, 0, none⟩ = some (.int .i64 0) := by rw [hb2.cell (p := ⟨g1, 0, none⟩) (lt_of z0), cell_of_row _ _ 0 _ _ _ z0]; rfl
            have e1 : w''.cell? ⟨g1 + 1, 0, none⟩ = some (.int .i64 2) := by rw [hb2.cell (p := ⟨g1 + 1, 0, none⟩) (lt_of z1), cell_of_row _ _ 0 _ _ _ z1]; rfl
            simp [Leaves, settle, results, Tryz.results33, go_sem, e0, e1]
            refine ⟨hg1 ▸ (HBL3.out.trans (zb.trans (hb2.mono (Nat.le_of_lt (lt_of z0))))), ?_⟩
            rw [HA.out]
            rfl
          | false =>
            obtain ⟨ao, cv, hvv⟩ := (HS.out).slice
            subst hvv
            simp only at hRl
            have hsl2 : ((strL xs).length : Int) = (xs.length : Int) := by unfold strL; rw [List.length_map]
            rw [hsl2] at HPE
            have HNE := Aside.mk hRl
            go_wp2_with fail
            refine (validExpr_any _ e' (xs.length : Int) w3 ((HO3.out).rdN (by have := HL.out; have := HN.out; have := HNE.out; omega))).mono ?_
            rintro e w4 ⟨rfl, hb4⟩
            have HBL4 := Aside.mk (HBL3.out.trans (hb4.mono (Nat.le_of_lt (lt_of HB0.out))))
            have HO4 : Aside (OwnN w.heap.size w4 (.slice (some ⟨gv, 0, none⟩) n cap) e') := ⟨owns_below HO3.out hb4⟩
            have HB0 := Aside.mk ((hb4.block _ (lt_of HB0.out)).trans HB0.out)
            have HB1 := Aside.mk ((hb4.block _ (lt_of HB1.out)).trans HB1.out)
            have c0 : w4.cell? ⟨g1, 0, none⟩ = some (.int .i64 0) := by rw [cell_of_row _ _ 0 _ _ _ HB0.out]; rfl
            have c1 : w4.cell? ⟨g1 + 1, 0, none⟩ = some (.int .i64 0) := by rw [cell_of_row _ _ 0 _ _ _ HB1.out]; rfl
            have f0 : w4.frozen? ⟨g1, 0, none⟩ = false := by simp [World.frozen?, HB0.out]
            have f1 : w4.frozen? ⟨g1 + 1, 0, none⟩ = false := by simp [World.frozen?, HB1.out]
            obtain ⟨q, hq⟩ : ∃ q, okEx (xs.length : Int) e' = q := ⟨_, rfl⟩
            rw [hq] at HPE ⊢
            clear hq hb4
            cases q with
            | true =>
              have HA : Aside (Od.parseExpr s.data.toList (strL xs) = .ok e') := ⟨by rw [HPE.out]; rfl⟩
              go_wp2_with fail
              have st := two_set HB0.out HB1.out (.int .i64 0) (.int .i64 0)
              generalize (w4.setCell ⟨g1, 0, none⟩ (.int .i64 0)).setCell ⟨g1 + 1, 0, none⟩ (.int .i64 0) = Z at st ⊢
              obtain ⟨z0, z1, zb, zo⟩ := st
              refine leaves_cons (f := 92) (args := #[.pointer (some ⟨g1, 0, none⟩), .pointer (some ⟨g1 + 1, 0, none⟩)]) (by simp) (by simp [go_sem]) ?_
              refine (HCL.out.1 Z).mono ?_
              rintro e u' w'' ⟨rfl, rfl, hb2⟩
              have e0 : w''.cell? ⟨g1, 0, none⟩ = some (.int .i64 0) := by rw [hb2.cell (p := ⟨g1, 0, none⟩) (lt_of z0), cell_of_row _ _ 0 _ _ _ z0]; rfl
              have e1 : w''.cell? ⟨g1 + 1, 0, none⟩ = some (.int .i64 0) := by rw [hb2.cell (p := ⟨g1 + 1, 0, none⟩) (lt_of z1), cell_of_row _ _ 0 _ _ _ z1]; rfl
              simp [Leaves, settle, results, Tryz.results33, go_sem, e0, e1]
              refine ⟨hg1 ▸ (HBL4.out.trans (zb.trans (hb2.mono (Nat.le_of_lt (lt_of z0))))), ?_⟩
              rw [HA.out]
              exact ⟨_, rfl, owns_below (zo _ _ _ HO4.out) hb2⟩
            | false =>
              have HA : Aside (Od.parseExpr s.data.toList (strL xs) = .err 0 2) := ⟨by rw [HPE.out]; rfl⟩
              go_wp2_with fail
              have st := two_set HB0.out HB1.out (.int .i64 0) (.int .i64 2)
              generalize (w4.setCell ⟨g1, 0, none⟩ (.int .i64 0)).setCell ⟨g1 + 1, 0, none⟩ (.int .i64 2) = Z at st ⊢
              obtain ⟨z0, z1, zb, zo⟩ := st
              refine leaves_cons (f := 92) (args := #[.pointer (some ⟨g1, 0, none⟩), .pointer (some ⟨g1 + 1, 0, none⟩)]) (by simp) (by simp [go_sem]) ?_
              refine (HCL.out.1 Z).mono ?_
              rintro e u' w'' ⟨rfl, rfl, hb2⟩
              have e0 : w''.cell? ⟨g1, 0, none⟩ = some (.int .i64 0) := by rw [hb2.cell (p := ⟨g1, 0, none⟩) (lt_of z0), cell_of_row _ _ 0 _ _ _ z0]; rfl
              have e1 : w''.cell? ⟨g1 + 1, 0, none⟩ = some (.int .i64 2) := by rw [hb2.cell (p := ⟨g1 + 1, 0, none⟩) (lt_of z1), cell_of_row _ _ 0 _ _ _ z1]; rfl
              simp [Leaves, settle, results, Tryz.results33, go_sem, e0, e1]
              refine ⟨hg1 ▸ (HBL4.out.trans (zb.trans (hb2.mono (Nat.le_of_lt (lt_of z0))))), ?_⟩
              rw [HA.out]
              rfl
      · have hKb : (KK == 0) = false := by rw [beq_eq_false_iff_ne]; exact hk0
        have HPE : Aside (Od.parseExpr s.data.toList (strL xs) = .err (errAt false s.data.toList σ1.pos).2 (errAt false s.data.toList σ1.pos).1) := ⟨by rw [HPE.out]; exact if_pos hk0⟩
        clear hKK
        go_wp2_with fail
        refine (fail_any (α := Tr) (fun _ _ _ => True) w2 (g1 + 1 + 1) _ s false _ HP2.out).mono ?_
        rintro e w3 ⟨hf3, he⟩
        have he : e = .panicked (pan (errAt false s.data.toList σ1.pos).2 (errAt false s.data.toList σ1.pos).1) := by
          rw [← errAt_at]; exact he
        obtain ⟨o, ho⟩ : ∃ o, (errAt false s.data.toList σ1.pos).2 = o := ⟨_, rfl⟩
        obtain ⟨cc, hcc⟩ : ∃ o, (errAt false s.data.toList σ1.pos).1 = o := ⟨_, rfl⟩
        rw [ho, hcc] at he HPE
        have HA := Aside.mk HPE.out
        subst he
        have hf := HF2.out.trans hf3
        have b0 := hf.cell HR0.out (by decide)
        have b1 := hf.cell HR1.out (by decide)
        have HBL := Aside.mk (HB.out.trans (hf.below (Nat.le_of_lt (lt_of HR0.out)) fun k hk => hk))
        clear hf hf3 ho hcc
        go_wp2_with fail
        refine leaves_cons (f := 92) (args := #[.pointer (some ⟨g1, 0, none⟩), .pointer (some ⟨g1 + 1, 0, none⟩)]) (by simp) (by simp [go_sem]) ?_
        refine (HCL.out.2 o cc [] w3 b0 b1).mono ?_
        rintro e u' w'' ⟨rfl, rfl, hb2, k0, k1⟩
        have e0 : w''.cell? ⟨g1, 0, none⟩ = some (.int .i64 (o : Nat)) := by rw [cell_of_row _ _ 0 _ _ _ k0]; rfl
        have e1 : w''.cell? ⟨g1 + 1, 0, none⟩ = some (.int .i64 cc) := by rw [cell_of_row _ _ 0 _ _ _ k1]; rfl
        simp [Leaves, settle, results, Tryz.results33, go_sem, e0, e1]
        refine ⟨hg1 ▸ (HBL.out.trans (hb2.mono (by omega))), ?_⟩
        rw [HA.out]
  · have h8' : (8000 : Int) < (s.size : Int) := by omega
    have HA : Aside (Od.parseExpr s.data.toList (strL xs) = .err 0 2) := ⟨by unfold Od.parseExpr; rw [if_pos (by omega)]⟩
    go_enter_defers Tryz.func33, Tryz.ntmps33
    go_wp2_with fail
    simp [bodyPostD, Leaves, settle, results, Tryz.results33, go_sem]
    refine ⟨((Below.refl _ _).alloc (Nat.le_refl _) _).alloc (by simp) _, ?_⟩
    rw [HA.out]
    rfl
end Go.Proofs.YthcidkidpiaomaaGreatDoor.Od
end
section
set_option linter.unusedVariables false
set_option linter.unusedSimpArgs false
namespace Go.Proofs.YthcidkidpiaomaaGreatDoor.Od
open Go.RowKit Rg
def kws : List ByteArray := [⟨#[116]⟩, ⟨#[115, 113, 114]⟩, ⟨#[115, 113, 114, 116]⟩, ⟨#[97, 108, 108]⟩]
theorem kws_contains (x : List UInt8) : (strL kws).contains x = keyword x := by
  unfold kws strL keyword wT wSqr wSqrt wAll
  simp only [List.map_cons, List.map_nil, List.contains_cons, List.contains_nil, Bool.or_false]
  simp only [Bool.or_assoc]
def kwRow : Obj := .cells #[.string ⟨#[116]⟩, .string ⟨#[115, 113, 114]⟩, .string ⟨#[115, 113, 114, 116]⟩, .string ⟨#[97, 108, 108]⟩] 9 (0, 0)
theorem kw_strs {w : World} {g : Nat} (h : w.heap[g]? = some kwRow) : Strs w (.slice (some ⟨g, 0, none⟩) 4 4) kws := by
  refine ⟨Or.inr ⟨g, 0, 4, rfl, by decide, fun j hj => ?_⟩, by decide⟩
  have hj : j < 4 := hj
  rw [Nat.zero_add, cell_of_row w g j _ _ _ h]
  rcases j with _ | _ | _ | _ | j
  · rfl
  · rfl
  · rfl
  · rfl
  · omega
set_option maxRecDepth 100000 in
theorem keywords_any (w : World) : Calls Tryz.prog 106 #[] w fun e w' => e = .returned (.slice (some ⟨w.heap.size, 0, none⟩) 4 4) ∧ w' = w.alloc kwRow := by
  go_enter Tryz.func106, Tryz.ntmps106
  go_wp2_with fail
  go_ret
  exact ⟨rfl, rfl⟩
theorem trimLeft_any (s cutset : ByteArray) (w : World) (hcs : cutset.size < 4294967281) (hascii : ∀ (j : Nat) (b : UInt8), cutset.data.toList[j]? = some b → b.toNat < 128) :
    Calls Tryz.prog 107 #[.string s, .string cutset] w fun e w' => e = .returned (.string ⟨(Lib.trimLeftS s.data.toList cutset.data.toList).toArray⟩) ∧ Below w.heap.size w w' :=
  Any.strings_TrimLeft_laid Tryz.trimLeft (by kernel_rfl) s cutset w hcs hascii
def ldSet : ByteArray := ⟨#[97, 98, 99, 100, 101, 102, 103, 104, 105, 106, 107, 108, 109, 110, 111, 112, 113, 114, 115, 116, 117, 118, 119, 120, 121, 122, 48, 49, 50, 51, 52, 53, 54, 55, 56, 57]⟩
set_option maxRecDepth 100000 in
theorem ldSet_nat : ∀ n, n < 256 → ldSet.data.toList.contains (UInt8.ofNat n) = isLD (UInt8.ofNat n) := by decide
theorem ldSet_isLD (c : UInt8) : ldSet.data.toList.contains c = isLD c := by
  have h := ldSet_nat c.toNat c.toNat_lt
  rwa [UInt8.ofNat_toNat] at h
theorem trim_all (l : List UInt8) : (Lib.trimLeftS l ldSet.data.toList).isEmpty = l.all isLD := by
  unfold Lib.trimLeftS
  induction l with
  | nil => rfl
  | cons c r ih =>
    rw [List.dropWhile_cons, ldSet_isLD, List.all_cons]
    cases h : isLD c
    · simp
    · simpa using ih
theorem ldSet_ascii : ∀ (j : Nat) (b : UInt8), ldSet.data.toList[j]? = some b → b.toNat < 128 := by
  intro j b h
  have hall : ∀ b ∈ ldSet.data.toList, b.toNat < 128 := by decide
  exact hall b (List.mem_of_getElem? h)
set_option maxRecDepth 100000 in
set_option maxHeartbeats 8000000 in
theorem validName_any (s : ByteArray) (w : World) : Calls Tryz.prog 61 #[.string s] w fun e w' => e = .returned (.bool (okName s.data.toList)) ∧ Below w.heap.size w w' := by
  have hsl : s.data.toList.length = s.size := rfl
  have HV : Aside (okName s.data.toList = (decide (0 < s.size) && decide (s.size ≤ 12) && (s.data.toList.head?).any isLt && !keyword s.data.toList && s.data.toList.all isLD)) := ⟨rfl⟩
  by_cases h0 : s.size = 0
  · have h0' : (s.size : Int) = 0 := by omega
    have HV : Aside (okName s.data.toList = false) := ⟨by rw [HV.out, h0]; rfl⟩
    go_enter Tryz.func61, Tryz.ntmps61
    go_wp2_with fail
    go_ret
    rw [HV.out]
    exact ⟨rfl, Below.refl _ _⟩
  · have h0' : ((s.size : Int) == 0) = false := by rw [beq_eq_false_iff_ne]; omega
    by_cases h12 : s.size ≤ 12
    · have h12' : ¬ ((12 : Int) < (s.size : Int)) := by omega
      have d12 : decide ((12 : Int) < (s.size : Int)) = false := by simpa using h12'
      have hlt : 0 < s.size := by omega
      have hlt' : (0 : Int) < (s.size : Int) := by omega
      obtain ⟨c, hc⟩ : ∃ c, s.data.toList[0]? = some c := ⟨_, List.getElem?_eq_getElem (by omega)⟩
      have hX : s[0].toNat = c.toNat := by rw [← (List.getElem?_eq_some_iff.1 hc).2]; rfl
      have HV : Aside (okName s.data.toList = (isLt c && !keyword s.data.toList && s.data.toList.all isLD)) := ⟨by
        rw [HV.out, List.head?_eq_getElem?, hc]; simp [hlt, h12]⟩
      clear hc
      go_enter Tryz.func61, Tryz.ntmps61
      go_wp2_with fail
      refine (isLetter_any c w).mono ?_
      rintro e w1 ⟨rfl, hw1⟩
      have hw1' := hw1.symm
      subst hw1
      clear hw1'
      obtain ⟨b1, hb1⟩ : ∃ b, isLt c = b := ⟨_, rfl⟩
      rw [hb1] at HV ⊢
      clear hb1
      cases b1 with
      | false =>
        go_wp2_with fail
        go_ret
        rw [HV.out]
        exact ⟨rfl, Below.refl _ _⟩
      | true =>
        go_wp2_with fail
        refine (keywords_any w).mono ?_
        rintro e w2 ⟨rfl, rfl⟩
        have HB2 : Aside (Below w.heap.size w (w.alloc kwRow)) := ⟨(Below.refl _ _).alloc (Nat.le_refl _) _⟩
        go_wp2_with fail
        refine (contains_any _ _ kws (kw_strs (heap_alloc_last w _)) s).mono ?_
        rintro e w3 ⟨rfl, rfl⟩
        rw [kws_contains]
        obtain ⟨b2, hb2⟩ : ∃ b, keyword s.data.toList = b := ⟨_, rfl⟩
        rw [hb2] at HV ⊢
        clear hb2
        cases b2 with
        | true =>
          go_wp2_with fail
          go_ret
          rw [HV.out]
          exact ⟨rfl, HB2.out⟩
        | false =>
          go_wp2_with fail
          refine (trimLeft_any s ldSet _ (by decide) ldSet_ascii).mono ?_
          rintro e w4 ⟨rfl, hb4⟩
          go_wp2_with fail
          go_ret
          rw [HV.out, ← trim_all]
          exact ⟨rfl, HB2.out.trans (hb4.mono HB2.out.size)⟩
    · have h12' : (12 : Int) < (s.size : Int) := by omega
      have d12 : decide ((12 : Int) < (s.size : Int)) = true := by simpa using h12'
      have HV : Aside (okName s.data.toList = false) := ⟨by rw [HV.out]; simp [h12]⟩
      go_enter Tryz.func61, Tryz.ntmps61
      go_wp2_with fail
      go_ret
      rw [HV.out]
      exact ⟨rfl, Below.refl _ _⟩
end Go.Proofs.YthcidkidpiaomaaGreatDoor.Od
end
