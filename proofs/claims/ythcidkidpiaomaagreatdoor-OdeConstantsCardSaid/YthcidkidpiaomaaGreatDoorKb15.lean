/- OdE OdG OdH OdI RegW -/
import Derived.Shelf.Spec.SlicesGrow
import Derived.Maps.AppendAt
import Derived.Test.YthcidkidpiaomaaGreatDoorKb14
import Derived.Test.YthcidkidpiaomaaGreatDoorKb08
import Derived.Test.YthcidkidpiaomaaGreatDoorKb07
section
set_option linter.unusedVariables false
set_option linter.unusedSimpArgs false
namespace Go.Proofs.YthcidkidpiaomaaGreatDoor.Od
open Go.RowKit Rg
theorem own_one {w : World} {B k : Nat} {x : Nd} {z : Nat} (hh : w.heap[k]? = some (.cells #[.int .i64 x.op, .int .i64 x.n, .int .i64 x.lo, .int .i64 x.hi] 79 (0, 0))) (hB : B ≤ k) (hz : z = 1) : OwnN B w (.slice (some ⟨k, 0, none⟩) z z) [x] := by
  subst hz
  exact ⟨by simp [nds, nd4], Or.inr ⟨k, 1, _, rfl, hB, hh, Nat.le_refl _, by simp [maxLen], rfl, by simp [nds, nd4]⟩⟩
set_option maxRecDepth 100000 in
set_option maxHeartbeats 8000000 in
theorem constant_any (lo hi : Int) (w : World) : Calls Tryz.prog 175 #[.agg #[.int .i64 lo, .int .i64 hi]] w fun e w' => ∃ v, e = .returned v ∧ OwnN w.heap.size w' v [⟨1, 0, lo, hi⟩] ∧ Below w.heap.size w w' := by
  go_enter Tryz.func175, Tryz.ntmps175
  go_wp2_with fail
  go_ret
  refine ⟨_, rfl, ?_, ?_⟩
  · refine own_one ?_ ?_ rfl
    · have := heap_alloc_last (w.alloc (.cells #[.int .i64 lo, .int .i64 hi] 29)) (.cells #[.int .i64 1, .int .i64 0, .int .i64 lo, .int .i64 hi] 79)
      simpa using this
    · simp
  · exact ((Below.refl _ _).alloc (Nat.le_refl _) _).alloc (by simp) _
theorem info_node : (Tryz.prog.info? 79).map (fun i => (i.zero, i.size, i.bytes)) = some (some (.agg #[.int .i64 0, .int .i64 0, .int .i64 0, .int .i64 0]), 4, 32) := by kernel_rfl
theorem info_parts' {P : Program} {t : TypeId} {z : Value} {a b : Nat} (h : (P.info? t).map (fun i => (i.zero, i.size, i.bytes)) = some (some z, a, b)) : ∃ i, P.info? t = some i ∧ i.zero = some z ∧ i.size = a ∧ i.bytes = b := by
  cases hi : P.info? t with
  | none => rw [hi] at h; cases h
  | some i =>
    rw [hi] at h
    simp only [Option.map_some, Option.some.injEq, Prod.mk.injEq] at h
    exact ⟨i, rfl, h.1, h.2.1, h.2.2⟩
theorem nds_one (e : List Nd) : ∀ u ∈ nds e, u.oneCell' = true := by
  intro u hu
  simp only [nds, List.mem_flatMap] at hu
  obtain ⟨x, _, hx⟩ := hu
  simp only [nd4, List.mem_cons, List.not_mem_nil, or_false] at hx
  rcases hx with rfl | rfl | rfl | rfl <;> rfl
theorem grow_any (n : Nat) (w : World) (hn : n ≤ 100000) : Calls Tryz.prog 173 #[.slice none 0 0, .int .i64 n] w fun e w' => ∃ v, e = .returned v ∧ OwnN w.heap.size w' v [] ∧ Below w.heap.size w w' := by
  obtain ⟨i0, hi, hz0, hz1, hz2⟩ := info_parts' info_node
  by_cases h0 : n = 0
  · subst h0
    refine (Any8.slices_Grow_room Tryz.growNode none 0 0 0 w (Nat.le_refl _) (by omega) (by omega) (by omega)).mono ?_
    rintro e w' ⟨rfl, rfl⟩
    exact ⟨_, rfl, ⟨rfl, Or.inl ⟨rfl, rfl⟩⟩, Below.refl _ _⟩
  · refine (Any8.slices_Grow_grow Tryz.growNode i0 _ hi hz0 (by omega) none 0 0 n [] w (Nat.le_refl _) (by omega) (by rw [hz2]; omega) (by omega) (by simp) (fun _ => rfl) (fun a ha => by cases ha)).mono ?_
    rintro e w' ⟨rfl, rfl⟩
    have hge := grownCap_ge w (0 + n) 0 79
    have hle := grownCap_le_maxLen w (0 + n) 0 79 (by unfold maxLen; omega)
    refine ⟨_, rfl, ⟨rfl, Or.inr ⟨w.heap.size, _, _, rfl, Nat.le_refl _, heap_alloc_last _ _, Nat.zero_le _, hle, ?_, by simp [nds]⟩⟩, ?_⟩
    · have hge' : 0 + n ≤ grownCap w (0 + n) 0 (Tryz.growNode_ren.t 25) := hge
      rw [Array.size_append, Array.size_append, size_zeroCells, size_zeroCells]
      show 0 + (0 + n - 0) * 4 + (grownCap w (0 + n) 0 (Tryz.growNode_ren.t 25) - (0 + n)) * 4 = _
      omega
    · exact ((Below.refl w.heap.size w).drew).alloc (Nat.le_refl _) _
theorem wpList_append_nodes (w : World) {ops : Array Oper} {rest : List Oper} {o : Oper} {a : Act} {Q : Exit → Act → World → Prop}
    (hg : o.guard = none) (s x : Operand) (hop : o.op = Op.call { callee := Callee.builtin Builtin.append, args := #[s, x], argTypes := #[26, 26] })
    (base : Nat) (v : Value) (A : List Nd) (hs : a.eval s = v) (h : OwnN base w v A) (u : Value) (E : List Nd) (hx : a.eval x = u) (hr : Rd w u E) (hne : E ≠ [])
    (hbd : A.length + E.length ≤ 100000) (hbase : base ≤ w.heap.size)
    (hK : ∀ v' w', OwnN base w' v' (A ++ E) → Below base w w' → wpList Tryz.prog ops Q rest (a.put o.dst v') w') :
    wpList Tryz.prog ops Q (o :: rest) a w := by
  obtain ⟨i0, hi, hz0, hz1, hz2⟩ := info_parts' info_node
  obtain ⟨ao, cap, rfl, h0, h1, h2, hc⟩ := hr.out
  cases ao with
  | none => exact absurd (List.length_eq_zero_iff.1 (h0 rfl).1) hne
  | some ad =>
    refine wpList_append_own_at w hg s x _ hop base 79 i0 _ 4 32 Tryz.underlying26 hi hz0 hz1 hz2 rfl (by omega) v A.length _ hs h ad E.length cap (nds E) hx (nds_len E) (hc ad rfl) (nds_one E) (by simp only [maxLen]; omega) (by omega) hbase ?_
    intro v' w' hown' hgr _ hat
    refine hK v' w' ?_ ((Below.refl base w).grown hgr hbase (fun k hk => (World.ownsRow.lt h k hk).1))
    unfold OwnN
    rw [List.length_append, nds_app]
    exact hown'
structure Opd (w : World) (g : Nat) (vs : List Value) (es : List (List Nd)) : Prop where
  len : vs.length = es.length
  cell : ∀ (j : Nat) (u : Value), vs[j]? = some u → w.cell? ⟨g, j, none⟩ = some u
  rd : ∀ (j : Nat) (u : Value) (e : List Nd), vs[j]? = some u → es[j]? = some e → Rd w u e ∧ e ≠ []
  few : (es.map List.length).sum ≤ 100000
def tot (es : List (List Nd)) (i : Nat) : Nat := ((es.take i).map List.length).sum
theorem tot_succ {es : List (List Nd)} {i : Nat} {e : List Nd} (h : es[i]? = some e) : tot es (i + 1) = tot es i + e.length := by
  unfold tot
  rw [List.take_add_one, h]
  simp
theorem tot_le (es : List (List Nd)) (i : Nat) : tot es i ≤ (es.map List.length).sum := by
  unfold tot
  conv => rhs; rw [← List.take_append_drop i es]
  rw [List.map_append, List.sum_append]
  omega
theorem tot_all (es : List (List Nd)) : tot es es.length = (es.map List.length).sum := by unfold tot; rw [List.take_length]
set_option maxRecDepth 100000 in
set_option maxHeartbeats 8000000 in
theorem concat_any (w : World) (g : Nat) (vs : List Value) (es : List (List Nd)) (n : Nat) (hn : es.length = n) (hn9 : n ≤ 9000) (h : Opd w g vs es) (ao : Option Addr) (hao : ao = some ⟨g, 0, none⟩) :
    Calls Tryz.prog 166 #[.slice ao n n] w fun e w' => ∃ v, e = .returned v ∧ OwnN w.heap.size w' v es.flatten ∧ Below w.heap.size w w' := by
  subst hao
  have HO := Aside.mk h
  have HN := Aside.mk hn
  clear h hn
  go_enter Tryz.func166, Tryz.ntmps166
  go_wp2_with fail
  go_loopg [3, 11] n (fun m v3 v11 wr => ∃ i : Nat, v3 = .int .i64 (tot es i : Nat) ∧ v11 = .int .i64 (i : Nat) ∧ Aside (i ≤ n ∧ n - i ≤ m) ∧ wr = w)
  case atStart => exact ⟨0, rfl, rfl, ⟨by omega⟩, rfl⟩
  case round =>
    obtain ⟨i, rfl, rfl, HI, hwr⟩ := hrel
    have hwr' := hwr.symm
    subst hwr'
    by_cases hi : i < n
    · obtain ⟨e, he⟩ : ∃ e, es[i]? = some e := ⟨_, List.getElem?_eq_getElem (by rw [HN.out]; exact hi)⟩
      obtain ⟨u, hu⟩ : ∃ u, vs[i]? = some u := ⟨_, List.getElem?_eq_getElem (by rw [HO.out.len, HN.out]; exact hi)⟩
      have hc := HO.out.cell i u hu
      obtain ⟨ao, cap, rfl, -, -, -, -⟩ := (HO.out.rd i u e hu he).1.out
      have HS := Aside.mk (tot_succ he)
      have HL := Aside.mk (And.intro (tot_le es (i + 1)) HO.out.few)
      obtain ⟨T, hT⟩ : ∃ T, tot es i = T := ⟨_, rfl⟩
      obtain ⟨l, hl⟩ : ∃ l, e.length = l := ⟨_, rfl⟩
      rw [hT, hl] at HS
      simp only [hT, hl] at hc ⊢
      have hw1 : IntKind.i64.wrap ((T : Int) + (l : Int)) = (T : Int) + (l : Int) := IntWalk.i64_in _ (by have := HS.out; have := HL.out; omega)
      have hw2 : IntKind.i64.wrap ((i : Int) + 1) = (i : Int) + 1 := IntWalk.i64_in _ (by omega)
      have hT0 : ¬ ((T : Int) + (l : Int) < 0) := by omega
      clear he hu hT hl
      go_wp2_with fail
      obtain ⟨go, hgo⟩ : ∃ go, gk = go + 1 := ⟨gk - 1, by have := HI.out; omega⟩
      go_roundg go
      case measure => omega
      case rel => exact ⟨i + 1, by rw [HS.out]; rfl, rfl, ⟨by have := HI.out; omega⟩, rfl⟩
    · have HIE : Aside (tot es i = (es.map List.length).sum) := ⟨by rw [← tot_all, HN.out]; congr 1; have := HI.out; omega⟩
      have hi' : ¬ ((i : Int) < (n : Int)) := by omega
      obtain ⟨T, hT⟩ : ∃ T, tot es i = T := ⟨_, rfl⟩
      have HT : Aside (T ≤ 100000) := ⟨by rw [← hT, HIE.out]; exact HO.out.few⟩
      rw [hT]
      clear hi HIE hT
      go_wp2_with fail
      refine (grow_any T _ HT.out).mono ?_
      rintro e w1 ⟨v1, rfl, ho1, hb1⟩
      have HO1 := Aside.mk ho1
      have HB1 := Aside.mk hb1
      clear ho1 hb1 HI hi'
      go_wp2_with fail
      go_loopg [6, 27] n (fun m v6 v27 w2 => ∃ j : Nat, Aside (OwnN w.heap.size w2 v6 (es.take j).flatten) ∧ v27 = .int .i64 (j : Nat) ∧ Aside (j ≤ n ∧ n - j ≤ m) ∧ Aside (Below w.heap.size w w2))
      case atStart => exact ⟨0, HO1, rfl, ⟨by omega⟩, HB1⟩
      case round =>
        obtain ⟨j, HOJ, rfl, HJ, HBJ⟩ := hrel
        by_cases hj : j < n
        · obtain ⟨e, he⟩ : ∃ e, es[j]? = some e := ⟨_, List.getElem?_eq_getElem (by rw [HN.out]; exact hj)⟩
          obtain ⟨u, hu⟩ : ∃ u, vs[j]? = some u := ⟨_, List.getElem?_eq_getElem (by rw [HO.out.len, HN.out]; exact hj)⟩
          have hc0 := HO.out.cell j u hu
          have hc := (HBJ.out.cell (World.block_lt_of_cell? w _ hc0)).trans hc0
          have HRD := Aside.mk (HO.out.rd j u e hu he)
          have HE := Aside.mk he
          have HFL : Aside ((es.take (j + 1)).flatten = (es.take j).flatten ++ e) := ⟨by rw [List.take_add_one, he]; simp⟩
          have HLN : Aside ((es.take j).flatten.length + e.length ≤ 100000) := ⟨by
            rw [← List.length_append, ← HFL.out, List.length_flatten]
            have := tot_le es (j + 1)
            have := HO.out.few
            unfold tot at *
            omega⟩
          have hw2 : IntKind.i64.wrap ((j : Int) + 1) = (j : Int) + 1 := IntWalk.i64_in _ (by omega)
          clear he hu
          go_wp2_with (first | (at_builtin; refine wpList_append_nodes _ rfl (.tmp 31) (.tmp 32) rfl w.heap.size _ (es.take j).flatten rfl HOJ.out _ e rfl (HRD.out.1.below HBJ.out) HRD.out.2 HLN.out HBJ.out.size ?_; intro v3 w3 ho3 hb3))
          obtain ⟨go, hgo⟩ : ∃ go, gk = go + 1 := ⟨gk - 1, by have := HJ.out; omega⟩
          go_roundg go
          case measure => omega
          case rel => exact ⟨j + 1, ⟨by rw [HFL.out]; exact ho3⟩, rfl, ⟨by have := HJ.out; omega⟩, ⟨HBJ.out.trans hb3⟩⟩
        · have HFL : Aside ((es.take j).flatten = es.flatten) := ⟨by rw [List.take_of_length_le (by rw [HN.out]; omega)]⟩
          have hj' : ¬ ((j : Int) < (n : Int)) := by omega
          go_wp2_with fail
          go_ret
          exact ⟨_, rfl, by rw [← HFL.out]; exact HOJ.out, HBJ.out⟩
theorem Opd.below {w w' : World} {g : Nat} {vs : List Value} {es : List (List Nd)} (h : Opd w g vs es) (hb : Below w.heap.size w w') : Opd w' g vs es :=
  ⟨h.len, fun j u hu => by have := h.cell j u hu; rw [hb.cell (World.block_lt_of_cell? w _ this)]; exact this, fun j u e hu he => ⟨(h.rd j u e hu he).1.below hb, (h.rd j u e hu he).2⟩, h.few⟩
set_option maxRecDepth 100000 in
set_option maxHeartbeats 8000000 in
theorem apply_any (w : World) (op : Int) (g : Nat) (vs : List Value) (es : List (List Nd)) (n : Nat) (hn : es.length = n) (hn9 : n ≤ 9000) (h : Opd w g vs es) (hne : es.flatten ≠ []) (hfew : (es.map List.length).sum + 1 ≤ 100000) (ao : Option Addr) (hao : ao = some ⟨g, 0, none⟩) :
    Calls Tryz.prog 153 #[.int .i64 op, .slice ao n n] w fun e w' => ∃ v, e = .returned v ∧ OwnN w.heap.size w' v (⟨op, 0, 0, 0⟩ :: es.flatten) ∧ Below w.heap.size w w' := by
  subst hao
  have HO := Aside.mk h
  have HN := Aside.mk hn
  have HNE := Aside.mk hne
  have HF : Aside ([(⟨op, 0, 0, 0⟩ : Nd)].length + es.flatten.length ≤ 100000) := ⟨by rw [List.length_flatten]; simp only [List.length_cons, List.length_nil]; omega⟩
  clear h hn hne hfew
  go_enter Tryz.func153, Tryz.ntmps153
  go_wp2_with fail
  have hal : Below w.heap.size w (w.alloc (.cells #[.int .i64 op, .int .i64 0, .int .i64 0, .int .i64 0] 79)) := (Below.refl _ _).alloc (Nat.le_refl _) _
  have HAL := Aside.mk hal
  refine (concat_any _ g vs es n HN.out hn9 (HO.out.below HAL.out) _ rfl).mono ?_
  rintro e w1 ⟨v1, rfl, ho1, hb1⟩
  have HO1 := Aside.mk ho1
  have HB1 := Aside.mk hb1
  have HOW : Aside (OwnN w.heap.size w1 (.slice (some ⟨w.heap.size, 0, none⟩) 1 1) [⟨op, 0, 0, 0⟩]) := ⟨by
    refine own_one ?_ (Nat.le_refl _) rfl
    rw [hb1.block _ (lt_of (heap_alloc_last _ _))]
    exact heap_alloc_last _ _⟩
  have HB2 : Aside (Below w.heap.size w w1) := ⟨hal.trans (hb1.mono hal.size)⟩
  clear ho1 hb1 hal
  go_wp2_with (first | (at_builtin; refine wpList_append_nodes _ rfl (.tmp 7) (.tmp 9) rfl w.heap.size _ [⟨op, 0, 0, 0⟩] rfl HOW.out _ es.flatten rfl HO1.out.rd HNE.out HF.out HB2.out.size ?_; intro v3 w3 ho3 hb3))
  go_ret
  exact ⟨_, rfl, ho3, HB2.out.trans hb3⟩
end Go.Proofs.YthcidkidpiaomaaGreatDoor.Od
end
section
set_option linter.unusedVariables false
set_option linter.unusedSimpArgs false
namespace Go.Proofs.YthcidkidpiaomaaGreatDoor.Od
open Go.RowKit Rg
set_option maxRecDepth 100000 in
set_option maxHeartbeats 8000000 in
theorem concat_nil (w : World) : Calls Tryz.prog 166 #[.slice none 0 0] w fun e w' => e = .returned (.slice none 0 0) ∧ w = w' := by
  go_enter Tryz.func166, Tryz.ntmps166
  go_wp2_with fail
  go_loopg [3, 11] 0 (fun m v3 v11 w2 => v3 = .int .i64 0 ∧ v11 = .int .i64 0 ∧ w2 = w)
  case atStart => exact ⟨rfl, rfl, rfl⟩
  case round =>
    obtain ⟨rfl, rfl, hwr⟩ := hrel
    have hwr' := hwr.symm
    subst hwr'
    go_wp2_with fail
    refine (Any8.slices_Grow_room Tryz.growNode none 0 0 0 _ (Nat.le_refl _) (by omega) (by omega) (by omega)).mono ?_
    rintro e w1 ⟨rfl, hw1⟩
    have hw1' := hw1.symm
    subst hw1'
    go_wp2_with fail
    go_loopg [6, 27] 0 (fun m v6 v27 w2 => v6 = .slice none 0 0 ∧ v27 = .int .i64 0 ∧ w2 = w)
    case atStart => exact ⟨rfl, rfl, rfl⟩
    case round =>
      obtain ⟨rfl, rfl, hwr⟩ := hrel
      have hwr' := hwr.symm
      subst hwr'
      go_wp2_with fail
      go_ret
      exact ⟨rfl, rfl⟩
set_option maxRecDepth 100000 in
set_option maxHeartbeats 8000000 in
theorem apply_nil (w : World) (op : Int) :
    Calls Tryz.prog 153 #[.int .i64 op, .slice none 0 0] w fun e w' => ∃ v, e = .returned v ∧ OwnN w.heap.size w' v [⟨op, 0, 0, 0⟩] ∧ Below w.heap.size w w' := by
  go_enter Tryz.func153, Tryz.ntmps153
  go_wp2_with fail
  refine (concat_nil _).mono ?_
  rintro e w1 ⟨rfl, rfl⟩
  go_wp2_with fail
  go_ret
  refine ⟨_, rfl, own_one ?_ (Nat.le_refl _) rfl, (Below.refl _ _).alloc (Nat.le_refl _) _⟩
  exact heap_alloc_last _ _
end Go.Proofs.YthcidkidpiaomaaGreatDoor.Od
end
section
set_option linter.unusedVariables false
set_option linter.unusedSimpArgs false
namespace Go.Proofs.YthcidkidpiaomaaGreatDoor.Od
open Go.RowKit Rg
def GotT (w : World) (g : Nat) (B : Nat → Prop) (s : ByteArray) (nl : Bool) (r : Res Tr) (e : Ending) (w' : World) : Prop := Got w g B s nl r (fun t u w' => OwnN w.heap.size w' u (flat t)) e w'
def Meets (f : Nat) (s : ByteArray) (nl : Bool) (m : Pr Tr) (n : Nat) : Prop :=
  ∀ (w : World) (g : Nat) (B : Nat → Prop) (σ : PS), Par w g B s nl σ → TB B w → s.size < n + σ.pos → Calls Tryz.prog f #[.pointer (some ⟨g, 0, none⟩)] w fun e w' => GotT w g B s nl (m σ) e w'
theorem OwnN.frP {B : Nat → Prop} {B' : Nat} {w w1 : World} {v : Value} {e : List Nd} (h : OwnN B' w v e) (hf : FrP B w w1) : OwnN B' w1 v e := h.fr hf (by decide)
set_option maxRecDepth 100000 in
set_option maxHeartbeats 8000000 in
theorem paren_any (s : ByteArray) (nl : Bool) (sum : Pr Tr) (n : Nat) (hs : Meets 93 s nl sum n) : Meets 177 s nl (Od.paren nl s.data.toList sum) (n + 1) := by
  intro w g B σ h hT hn
  have HP := Aside.mk h
  have HTB := Aside.mk hT
  have HS := Aside.mk hs
  have HN := Aside.mk hn
  clear h hT hs hn
  go_enter Tryz.func177, Tryz.ntmps177
  go_wp2_with fail
  refine (expect_any w g B s nl σ HP.out ⟨#[40]⟩).mono ?_
  rintro e w1 hg
  rw [show (⟨#[40]⟩ : ByteArray).data.toList = [40] from rfl] at hg
  cases hx : Od.expect nl s.data.toList [40] σ with
  | err c o =>
    have HX := Aside.mk hx
    rw [hx] at hg
    clear hx
    obtain ⟨hf, rfl⟩ := hg
    have HF := Aside.mk hf
    clear hf
    go_wp2_with fail
    unfold Od.paren Pr.bind
    rw [HX.out]
    exact ⟨rfl, HF.out, rfl⟩
  | ok a σ1 =>
    have HX := Aside.mk hx
    rw [hx] at hg
    obtain ⟨hf, ⟨u, rfl, rfl⟩, hP1⟩ := hg
    have HF := Aside.mk hf
    have HP1 := Aside.mk hP1
    have HG := Aside.mk (Goes.expect (nl := nl) (L := s.data.toList) [40] σ a σ1 HP.out.le hx)
    clear hf hP1 hx
    go_wp2_with fail
    refine (HS.out w1 g B σ1 HP1.out (HTB.out.fr HF.out) (by have := HG.out.1; have := HN.out; omega)).mono ?_
    rintro e w2 hg
    cases hy : sum σ1 with
    | err c o =>
      have HY := Aside.mk hy
      rw [hy] at hg
      clear hy
      obtain ⟨hf, rfl⟩ := hg
      have HF2 := Aside.mk (HF.out.trans hf)
      clear hf
      go_wp2_with fail
      unfold Od.paren Pr.bind
      rw [HX.out]
      simp only
      rw [HY.out]
      exact ⟨rfl, HF2.out, rfl⟩
    | ok t σ2 =>
      have HY := Aside.mk hy
      rw [hy] at hg
      clear hy
      obtain ⟨hf, ⟨u, rfl, ho⟩, hP2⟩ := hg
      have HF2 := Aside.mk (HF.out.trans hf)
      have HP2 := Aside.mk hP2
      have HO := Aside.mk (OwnN.mono ho HF.out.size)
      clear hf hP2 ho
      go_wp2_with fail
      refine (expect_any w2 g B s nl σ2 HP2.out ⟨#[41]⟩).mono ?_
      rintro e w3 hg
      rw [show (⟨#[41]⟩ : ByteArray).data.toList = [41] from rfl] at hg
      cases hz : Od.expect nl s.data.toList [41] σ2 with
      | err c o =>
        have HZ := Aside.mk hz
        rw [hz] at hg
        clear hz
        obtain ⟨hf, rfl⟩ := hg
        have HF3 := Aside.mk (HF2.out.trans hf)
        clear hf
        go_wp2_with fail
        unfold Od.paren Pr.bind
        rw [HX.out]
        simp only
        rw [HY.out]
        simp only
        rw [HZ.out]
        exact ⟨rfl, HF3.out, rfl⟩
      | ok a3 σ3 =>
        have HZ := Aside.mk hz
        rw [hz] at hg
        clear hz
        obtain ⟨hf, ⟨u3, rfl, rfl⟩, hP3⟩ := hg
        have HF3 := Aside.mk (HF2.out.trans hf)
        have HO3 := Aside.mk (HO.out.frP hf)
        have HP3 := Aside.mk hP3
        clear hf hP3
        go_wp2_with fail
        go_ret
        unfold Od.paren Pr.bind
        rw [HX.out]
        simp only
        rw [HY.out]
        simp only
        rw [HZ.out]
        exact ⟨HF3.out, ⟨_, rfl, HO3.out⟩, HP3.out⟩
end Go.Proofs.YthcidkidpiaomaaGreatDoor.Od
end
section
set_option linter.unusedVariables false
set_option linter.unusedSimpArgs false
namespace Go.Proofs.YthcidkidpiaomaaGreatDoor.Od
open Go.RowKit Rg
theorem opd_one {w : World} {u : Value} {T : TypeId} {e : List Nd} (h : Rd w u e) (hne : e ≠ []) (hl : e.length ≤ 9000) : Opd (w.alloc (.cells #[u] T)) w.heap.size [u] [e] := by
  refine ⟨rfl, fun j x hx => ?_, fun j x f hx hf => ?_, by simp; omega⟩
  · cases j with
    | zero =>
      obtain rfl := Option.some.inj hx
      rw [cell_of_row _ _ 0 _ _ _ (heap_alloc_last _ _)]; rfl
    | succ j => cases hx
  · cases j with
    | zero =>
      obtain rfl := Option.some.inj hx
      obtain rfl := Option.some.inj hf
      exact ⟨h.below ((Below.refl _ _).alloc (Nat.le_refl _) _), hne⟩
    | succ j => cases hx
theorem Par.inL {w : World} {g : Nat} {B : Nat → Prop} {s : ByteArray} {nl : Bool} {σ : PS} (h : Par w g B s nl σ) : σ.pos ≤ s.data.toList.length := h.le
set_option maxRecDepth 100000 in
set_option maxHeartbeats 8000000 in
theorem factor_any (s : ByteArray) (nl : Bool) (sum : Pr Tr) (n : Nat) (hg : Gr s.data.toList 0 sum) (ha : Meets 167 s nl (Od.atom nl s.data.toList sum) n) :
    ∀ k, ∀ (w : World) (g : Nat) (B : Nat → Prop) (σ : PS), Par w g B s nl σ → TB B w → s.size < n + σ.pos → s.size < k + σ.pos →
      Calls Tryz.prog 154 #[.pointer (some ⟨g, 0, none⟩)] w fun e w' => GotT w g B s nl (Od.factor nl s.data.toList sum k σ) e w' := by
  intro k
  induction k with
  | zero => intro w g B σ h hT hn hk; have := h.le; omega
  | succ k ih =>
    intro w g B σ h hT hn hk
    have HP := Aside.mk h
    have HTB := Aside.mk hT
    have HG := Aside.mk hg
    have HAT := Aside.mk ha
    have HN := Aside.mk hn
    have HK := Aside.mk hk
    have IH := Aside.mk ih
    clear h hT hg ha hn hk ih
    obtain ⟨b, σ', ha⟩ := accept_eq nl s.data.toList [45] σ
    have HA := Aside.mk ha
    clear ha
    have HE : Aside (Od.factor nl s.data.toList sum (k + 1) σ = (if b then ((Od.factor nl s.data.toList sum k).map (Tr.un 4)) else Od.atom nl s.data.toList sum) σ') := ⟨by
      conv => lhs; unfold Od.factor Pr.bind
      rw [HA.out]⟩
    go_enter Tryz.func154, Tryz.ntmps154
    go_wp2_with fail
    refine (accept_any w g B s nl σ HP.out ⟨#[45]⟩).mono ?_
    rintro e w1 hg
    rw [show (⟨#[45]⟩ : ByteArray).data.toList = [45] from rfl, HA.out] at hg
    obtain ⟨hf, ⟨u, rfl, rfl⟩, hP1⟩ := hg
    have HF := Aside.mk hf
    have HP1 := Aside.mk hP1
    clear hf hP1
    cases b with
    | true =>
      have HPOS := Aside.mk (accept_true HP.out.inL HA.out)
      go_wp2_with fail
      refine (IH.out w1 g B σ' HP1.out (HTB.out.fr HF.out) (by have := HN.out; have := HPOS.out.1; omega) (by have := HK.out; have := HPOS.out.1; omega)).mono ?_
      rintro e w2 hg
      cases hx : Od.factor nl s.data.toList sum k σ' with
      | err c o =>
        have HX := Aside.mk hx
        rw [hx] at hg
        clear hx
        obtain ⟨hf, rfl⟩ := hg
        have HF2 := Aside.mk (HF.out.trans hf)
        clear hf
        go_wp2_with fail
        rw [HE.out]
        simp only [if_true]
        unfold Pr.map Pr.bind
        rw [HX.out]
        exact ⟨rfl, HF2.out, rfl⟩
      | ok t σ2 =>
        have HX := Aside.mk hx
        have hgr := Gr.factor HG.out k σ' t σ2 HP1.out.inL hx
        rw [hx] at hg
        clear hx
        obtain ⟨hf, ⟨u, rfl, ho⟩, hP2⟩ := hg
        have HF2 := Aside.mk (HF.out.trans hf)
        have HP2 := Aside.mk hP2
        have HLEN : Aside ((flat t).length ≤ 8000) := ⟨by have h1 := hP2.len; have h2 : s.data.toList.length = s.size := rfl; omega⟩
        have HO := Aside.mk (opd_one (T := 26) ho.rd (flat_ne t) (by have := HLEN.out; omega))
        obtain ⟨ao, cap, hu, -⟩ := ho.rd.out
        obtain ⟨l, hl⟩ : ∃ l, (flat t).length = l := ⟨_, rfl⟩
        rw [hl] at hu
        subst hu
        clear hf hP2 ho hgr hl
        go_wp2_with fail
        refine (apply_any _ 4 w2.heap.size [_] [flat t] 1 rfl (by omega) HO.out (by simp [flat_ne]) (by have := HLEN.out; simp; omega) _ rfl).mono ?_
        rintro e w3 ⟨v3, rfl, ho3, hb3⟩
        have hb4 : Below w2.heap.size w2 w3 := ((Below.refl w2.heap.size w2).alloc (Nat.le_refl _) _).trans (hb3.mono (by simp))
        have HO3 : Aside (OwnN w.heap.size w3 v3 (flat (Tr.un 4 t))) := ⟨by
          have := OwnN.mono ho3 (B := w.heap.size) (Nat.le_trans HF2.out.size ((Below.refl w2.heap.size w2).alloc (Nat.le_refl _) _).size)
          simpa [flat] using this⟩
        have HF3 := Aside.mk (HF2.out.trans (Fr.of hb4))
        have HP3 := Aside.mk (HP2.out.below hb4)
        clear ho3 hb3 hb4
        go_wp2_with fail
        go_ret
        rw [HE.out]
        simp only [if_true]
        unfold Pr.map Pr.bind
        rw [HX.out]
        exact ⟨HF3.out, ⟨_, rfl, HO3.out⟩, HP3.out⟩
    | false =>
      have HPOS := Aside.mk (Goes.accept (nl := nl) (L := s.data.toList) [45] σ false σ' HP.out.inL HA.out)
      go_wp2_with fail
      refine (HAT.out w1 g B σ' HP1.out (HTB.out.fr HF.out) (by have := HN.out; have := HPOS.out.1; omega)).mono ?_
      rintro e w2 hg
      cases hx : Od.atom nl s.data.toList sum σ' with
      | err c o =>
        have HX := Aside.mk hx
        rw [hx] at hg
        clear hx
        obtain ⟨hf, rfl⟩ := hg
        have HF2 := Aside.mk (HF.out.trans hf)
        clear hf
        go_wp2_with fail
        rw [HE.out]
        simp only [Bool.false_eq_true, if_false]
        rw [HX.out]
        exact ⟨rfl, HF2.out, rfl⟩
      | ok t σ2 =>
        have HX := Aside.mk hx
        rw [hx] at hg
        clear hx
        obtain ⟨hf, ⟨u, rfl, ho⟩, hP2⟩ := hg
        have HF2 := Aside.mk (HF.out.trans hf)
        have HP2 := Aside.mk hP2
        have HO := Aside.mk (OwnN.mono ho HF.out.size)
        clear hf hP2 ho
        go_wp2_with fail
        go_ret
        rw [HE.out]
        simp only [Bool.false_eq_true, if_false]
        rw [HX.out]
        exact ⟨HF2.out, ⟨_, rfl, HO.out⟩, HP2.out⟩
end Go.Proofs.YthcidkidpiaomaaGreatDoor.Od
end
section
set_option linter.unusedVariables false
namespace Go.Proofs.YthcidkidpiaomaaGreatDoor.Rg
open Go.RowKit
structure TabW where
  S : Nat → Value → World → Prop
  R : Bool → World → World → Prop
  call : Nat
  E : Nat → World → World → Prop
  comp : ∀ j b w0 w w', R b w0 w → E j w w' → R (b || j == call) w0 w'
  mono : ∀ i j v w w', i ≠ j → S i v w → E j w w' → S i v w'
def GotW (T : TabW) (ops : Array Oper) (j : Nat) (a : Act) (w : World) : Prop := ∀ o d, ops[j]? = some o → o.dst = some d → T.S j (a.tmps.getD d undef) w
structure GoodW (T : TabW) (ops us : Array Oper) (a0 : Act) (w0 : World) (listed : Array Bool) (a : Act) (w : World) : Prop where
  defs : a.defers = a0.defers
  size : a.tmps.size = a0.tmps.size
  len : listed.size = ops.size
  below : T.R (listed.getD T.call false) w0 w
  old : Old us a0 a
  got : ∀ i, listed.getD i false = true → GotW T ops i a w
def StepW (P : Program) (T : TabW) (ops us : Array Oper) (Q : Exit → Act → World → Prop) (a0 : Act) (w0 : World) (i : Nat) (o : Oper) : Prop :=
  ∀ (b : Bool) (a : Act) (w : World), (i = T.call → b = false) → a.defers = a0.defers → a.tmps.size = a0.tmps.size → T.R b w0 w → Old us a0 a → (∀ e ∈ o.after.toList, Region.binds .any e = true → GotW T ops e.on a w) →
    Region.wanted o (yielded ops a.tmps) = true ∧ o.wp P a w (fun a' w' => ∃ v, a' = a.put o.dst v ∧ T.E i w w' ∧ T.S i v w') Q
section
variable {P : Program} {T : TabW} {ops us : Array Oper} {Q : Exit → Act → World → Prop} {a0 : Act} {w0 : World}
theorem GoodW.next {listed : Array Bool} {a : Act} {w w' : World} {i : Nat} {o : Oper} {v : Value} (h : GoodW T ops us a0 w0 listed a w) (hi : ops[i]? = some o) (hu : o ∈ us)
    (hdst : ∀ (i j : Nat) (o o' : Oper) (d : Tmp), ops[i]? = some o → ops[j]? = some o' → o.dst = some d → o'.dst = some d → i = j) (hsz : ∀ (i : Nat) (o : Oper) (d : Tmp), ops[i]? = some o → o.dst = some d → d < a0.tmps.size)
    (hb : T.E i w w') (hv : T.S i v w') : GoodW T ops us a0 w0 (listed.setIfInBounds i true) (a.put o.dst v) w' := by
  have hbw : T.R ((listed.setIfInBounds i true).getD T.call false) w0 w' := by
    have h1 := T.comp i _ _ _ _ h.below hb
    have h2 : i < listed.size := by rw [h.len]; exact (Array.getElem?_eq_some_iff.1 hi).1
    by_cases he : i = T.call
    · rw [← he, listed_at h2]
      have h3 : (i == T.call) = true := by simp [he]
      rw [h3, Bool.or_true] at h1
      exact h1
    · rw [listed_off (fun e => he e.symm)]
      have h3 : (i == T.call) = false := by simp [he]
      rw [h3, Bool.or_false] at h1
      exact h1
  refine ⟨by rw [put_defers]; exact h.defs, by rw [put_size]; exact h.size, by simpa using h.len, hbw, fun t ht => ?_, fun j hj => ?_⟩
  · rw [put_other, h.old t ht]
    intro e
    have := Array.all_eq_true_iff_forall_mem.1 ht o hu
    simp [e] at this
  · intro o' d ho' hd
    by_cases hij : j = i
    · subst hij
      rw [hi] at ho'; cases ho'
      rw [hd, put_same _ _ _ (by rw [h.size]; exact hsz j o d hi hd)]
      exact hv
    · rw [put_other _ _ _ _ (fun e => hij (hdst j i o' o d ho' hi hd e))]
      have hj' : listed.getD j false = true := by
        rw [Array.getD_eq_getD_getElem?, Array.getElem?_setIfInBounds, if_neg (fun e => hij e.symm)] at hj
        rw [Array.getD_eq_getD_getElem?]; exact hj
      exact T.mono _ _ _ _ _ hij (h.got j hj' o' d ho' hd) hb
theorem any_of_listW {l : List Oper} {m : Nat} (hm : m < l.length) (hs : succUpTo l m = true) (hes : edgesOk 0 l = true) (hch : chainOk l m = true)
    (hdst : ∀ (i j : Nat) (o o' : Oper) (d : Tmp), l.toArray[i]? = some o → l.toArray[j]? = some o' → o.dst = some d → o'.dst = some d → i = j) (hsz : ∀ (i : Nat) (o : Oper) (d : Tmp), l.toArray[i]? = some o → o.dst = some d → d < a0.tmps.size)
    (hstep : ∀ (i : Nat) (o : Oper), i < m → l[i]? = some o → StepW P T l.toArray (l.take m).toArray Q a0 w0 i o)
    (hend : ∀ listed a w, GoodW T l.toArray (l.take m).toArray a0 w0 listed a w → (∀ i, i < m → listed.getD i false = true) → wpList P l.toArray Q (l.drop m) a w) :
    ∀ (fuel : Nat) (listed : Array Bool) (a : Act) (w : World), (listed.toList.count false) ≤ fuel → GoodW T l.toArray (l.take m).toArray a0 w0 listed a w → Closed l.toArray listed → (∀ i, m ≤ i → listed.getD i false = false) → wpAny P .any l.toArray Q fuel listed a w := by
  obtain ⟨om, hom⟩ : ∃ om, l[m]? = some om := ⟨l[m], List.getElem?_eq_getElem hm⟩
  intro fuel
  induction fuel with
  | zero =>
    intro listed a w hc hg hcl hl
    exfalso
    have hlt : m < listed.size := by rw [hg.len]; simpa using hm
    have := hl m (Nat.le_refl _)
    rw [Array.getD_eq_getD_getElem?, Array.getElem?_eq_getElem hlt] at this
    simp at this
    have h0 : listed.toList.count false = 0 := by omega
    rw [List.count_eq_zero] at h0
    exact h0 (by rw [← this]; exact Array.mem_toList_iff.2 (Array.getElem_mem hlt))
  | succ fuel ih =>
    intro listed a w hc hg hcl hl
    have hlsz : listed.size = l.length := by rw [hg.len]; simp
    refine ⟨fun hr => ?_, fun i hi => ?_⟩
    · exfalso
      have := all_listed hes hg.len hr m (by simpa using hm)
      rw [hl m (Nat.le_refl _)] at this; cases this
    obtain ⟨o, ho, hli, he⟩ := mem_ready hi
    have ho' : l[i]? = some o := by simpa using ho
    have hil : i < l.length := (List.getElem?_eq_some_iff.1 ho').1
    have hcount := count_next hc hli
    by_cases hq : i < m
    · unfold wpOp
      simp only [ho]
      have hst := hstep i o hq ho' _ a w (fun e => by rw [← e, ← getD_flip (by omega)]; exact hli) hg.defs hg.size hg.below hg.old (fun e hem hb => hg.got e.on (he e hem hb))
      have hcl' : Closed l.toArray (listed.setIfInBounds i true) := by
        intro j oj hoj hj e hem hb
        rcases listed_next hj with rfl | hj
        · rw [ho] at hoj; cases hoj
          exact listed_keep (he e hem hb)
        · exact listed_keep (hcl j oj hoj hj e hem hb)
      have hl' : ∀ j, m ≤ j → (listed.setIfInBounds i true).getD j false = false := fun j hj => by rw [listed_off (by omega)]; exact hl j hj
      obtain ⟨hw, hst⟩ := hst
      rw [if_pos hw]
      refine Or.inl (Oper.wp_mono ?_ hst)
      rintro a' w' ⟨v, rfl, hb, hv⟩
      exact ih _ _ _ hcount (hg.next ho (by simp only [List.mem_toArray]; exact List.mem_take_iff_getElem.2 ⟨i, by omega, by rw [List.getElem?_eq_getElem hil] at ho'; exact Option.some.inj ho'⟩) hdst hsz hb hv) hcl' hl'
    · have him : i = m := by
        rcases Nat.lt_or_ge m i with h | h
        · have := chain_prev hch h ho' he
          rw [hl (i - 1) (by omega)] at this; cases this
        · omega
      subst him
      rw [hom] at ho'; cases ho'
      have hall : ∀ j, j < i → listed.getD j false = true := fun j hj => upto_all hs hcl hom he _ j (Nat.le_refl _) hj
      have hw := hend listed a w hg hall
      have hdr : l.drop i = om :: l.drop (i + 1) := by
        rw [List.drop_eq_getElem_cons hil]
        rw [List.getElem?_eq_getElem hil] at hom
        rw [Option.some.inj hom]
      rw [hdr] at hw
      have hnext : ∀ a' w', wpList P l.toArray Q (l.drop (i + 1)) a' w' → wpAny P .any l.toArray Q fuel (listed.setIfInBounds i true) a' w' := fun a' w' hh =>
        any_of_chain hes hch _ (i + 1) fuel _ a' w' (by omega) rfl (by simpa using hlsz) hcount
          (fun j hj => by
            by_cases hji : j = i
            · subst hji; exact listed_at (by omega)
            · rw [listed_off hji]; exact hall j (by omega))
          (fun j hj => by rw [listed_off (by omega)]; exact hl j (by omega)) hh
      unfold wpOp
      simp only [ho]
      unfold wpList at hw
      by_cases hwt : Region.wanted om (yielded l.toArray a.tmps) = true
      · rw [if_pos hwt] at hw ⊢
        rcases hw with hw | hw
        · exact Or.inl (Oper.wp_mono (fun a' w' => hnext a' w') hw)
        · exact Or.inr hw
      · rw [if_neg hwt] at hw ⊢
        exact hnext _ _ hw
def AllW (P : Program) (T : TabW) (ops us : Array Oper) (Q : Exit → Act → World → Prop) (a0 : Act) (w0 : World) : Nat → Nat → List Oper → Prop
  | _, 0, _ => True
  | _, _ + 1, [] => True
  | k, n + 1, o :: r => StepW P T ops us Q a0 w0 k o ∧ AllW P T ops us Q a0 w0 (k + 1) n r
theorem AllW.nil {ops us : Array Oper} {k : Nat} {l : List Oper} : AllW P T ops us Q a0 w0 k 0 l := by cases l <;> trivial
theorem AllW.cons {ops us : Array Oper} {k n : Nat} {o : Oper} {r : List Oper} (h : StepW P T ops us Q a0 w0 k o) (t : AllW P T ops us Q a0 w0 (k + 1) n r) : AllW P T ops us Q a0 w0 k (n + 1) (o :: r) := ⟨h, t⟩
theorem AllW.at {ops us : Array Oper} {l : List Oper} : ∀ {k n : Nat}, AllW P T ops us Q a0 w0 k n l → ∀ i o, i < n → l[i]? = some o → StepW P T ops us Q a0 w0 (k + i) o := by
  induction l with
  | nil => intro k n _ i o _ h; simp at h
  | cons x r ih =>
    intro k n h i o hi ho
    cases n with
    | zero => omega
    | succ n =>
      cases i with
      | zero => simp at ho; subst ho; exact h.1
      | succ i =>
        simp only [List.getElem?_cons_succ] at ho
        have := ih h.2 i o (by omega) ho
        rwa [show k + 1 + i = k + (i + 1) by omega] at this
theorem region_listW {id : Nat} {ops : Array Oper} (m : Nat) (l : List Oper) (hm : P.follows .mixedOrders = true) (hs : slotsOk l a0.tmps.size = true) (hes : edgesOk 0 l = true) (hsu : succUpTo l m = true) (hch : chainOk l m = true) (hml : Nat.blt m l.length = true) (hops : ops = l.toArray) (hb : T.R false w0 { w0 with drawn := w0.drawn + 1 }) (h : AllW P T ops (l.take m).toArray Q a0 w0 0 m l)
    (hend : ∀ a w, a.defers = a0.defers → a.tmps.size = a0.tmps.size → (∃ b, T.R b w0 w) → Old (l.take m).toArray a0 a → (∀ i, i < m → GotW T ops i a w) → wpList P ops Q (l.drop m) a w) : (Code.region id ops true).wp P Q a0 w0 := by
  subst hops
  refine wp_region_any hm ?_
  have hml' : m < l.length := by simpa [Nat.blt_eq] using hml
  refine any_of_listW (a0 := a0) (w0 := w0) hml' hsu hes hch (fun i j o o' d hi hj => slots_ne hs i j o o' d (by simpa using hi) (by simpa using hj)) (fun i o d hi => slots_lt hs i o d (by simpa using hi))
    (fun i o hi ho => by have := h.at i o hi ho; rwa [Nat.zero_add] at this) (fun listed a w hg hall => hend a w hg.defs hg.size ⟨_, hg.below⟩ hg.old (fun i hi => hg.got i (hall i hi))) _ _ _ _ ?_ ⟨rfl, rfl, by simp, (by rw [Array.getD_eq_getD_getElem?, Array.getElem?_replicate]; split <;> exact hb), fun _ _ => rfl, fun i hi => ?_⟩ (fun j o _ hj => ?_) (fun j hj => ?_)
  · simp
  · rw [Array.getD_eq_getD_getElem?, Array.getElem?_replicate] at hi
    split at hi <;> simp at hi
  · rw [Array.getD_eq_getD_getElem?, Array.getElem?_replicate] at hj
    split at hj <;> simp at hj
  · rw [Array.getD_eq_getD_getElem?, Array.getElem?_replicate]
    split <;> rfl
theorem gotW_of {a : Act} {w : World} {o : Oper} {j : Nat} {oj : Oper} {d : Tmp}
    (hgot : ∀ e ∈ o.after.toList, Region.binds .any e = true → GotW T ops e.on a w) (hj : ops[j]? = some oj) (hd : oj.dst = some d) (he : (o.after.toList.any fun e => e.on == j && Region.binds .any e) = true) : T.S j (a.tmps.getD d undef) w := by
  obtain ⟨e, hm, hh⟩ := List.any_eq_true.1 he
  simp only [Bool.and_eq_true, beq_iff_eq] at hh
  have := hgot e hm hh.2
  rw [hh.1] at this
  exact this oj d hj hd
theorem wp_valueW {i : Nat} {o : Oper} {a : Act} {w : World} {v : Value} (hr : (execOp a.eval o).run P w = .ok (.value v) w) (he : T.E i w w) (hv : T.S i v w) :
    o.wp P a w (fun a' w' => ∃ v, a' = a.put o.dst v ∧ T.E i w w' ∧ T.S i v w') Q := by
  unfold Oper.wp
  rw [hr, Oper.upon_value]
  exact ⟨v, rfl, he, hv⟩
theorem wp_callsW {i : Nat} {o : Oper} {a : Act} {w : World} {f : Nat} {args : Array Value} (hr : (execOp a.eval o).run P w = .ok (.enter f args) w)
    (hc : Calls P f args w fun e w' => (∃ v, e = .returned v ∧ T.E i w w' ∧ T.S i v w') ∨ (∃ ch, e = .panicked ch ∧ Q (.panic ch) a w')) :
    o.wp P a w (fun a' w' => ∃ v, a' = a.put o.dst v ∧ T.E i w w' ∧ T.S i v w') Q := by
  unfold Oper.wp
  rw [hr, Oper.upon_enter]
  refine hc.mono ?_
  rintro e w' (⟨v, rfl, he, hv⟩ | ⟨ch, rfl, hq⟩)
  · exact ⟨v, rfl, he, hv⟩
  · exact hq
end
end Go.Proofs.YthcidkidpiaomaaGreatDoor.Rg
end
