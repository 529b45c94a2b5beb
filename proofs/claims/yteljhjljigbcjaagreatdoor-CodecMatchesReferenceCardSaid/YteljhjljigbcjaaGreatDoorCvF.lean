/- Contracts of slices.Clone at bytes and of the decoder's method bytes. -/
import Derived.Test.YteljhjljigbcjaaGreatDoorCvE
import Derived.Deep.RegionHeld3
import Derived.Deep.RegionWith
import Derived.Lib.SliceRun
import Derived.Laws.AppendOwnNone
set_option linter.unusedVariables false
namespace Go.Proofs.YteljhjljigbcjaaGreatDoor.Cv
open Go.RowKit

theorem cells_one (L : List UInt8) : ∀ u ∈ Lib.byteCells L, u.oneCell' = true := by
  intro u hu
  simp only [Lib.byteCells, List.mem_map] at hu
  obtain ⟨x, _, rfl⟩ := hu
  rfl
theorem cells_append (L M : List UInt8) : Lib.byteCells (L ++ M) = Lib.byteCells L ++ Lib.byteCells M := by simp [Lib.byteCells]

theorem wpList_append_txt (w : World) {ops : Array Oper} {rest : List Oper} {o : Oper} {a : Act} {Q : Exit → Act → World → Prop}
    (hg : o.guard = none) (s x : Operand) (hop : o.op = Op.call { callee := Callee.builtin Builtin.append, args := #[s, x], argTypes := #[22, 22] })
    (base : Nat) (v : Value) (X : List UInt8) (hs : a.eval s = v) (hown : Own base w v X) (u : Value) (Y : List UInt8) (hx : a.eval x = u) (ht : Txt w u Y)
    (hbd : Aside (X.length + Y.length ≤ 2000000000)) (hbase : base ≤ w.heap.size)
    (hK : ∀ v' w', Own base w' v' (X ++ Y) → Below base w w' → wpList Tryz.prog ops Q rest (a.put o.dst v') w') :
    wpList Tryz.prog ops Q (o :: rest) a w := by
  obtain ⟨i0, hi, hz0, hz1, hz2⟩ := info_parts info_u8
  obtain ⟨ao, cap, rfl, h0, h1, h2, hc⟩ := ht
  have hb := hbd.out
  cases ao with
  | none =>
    obtain ⟨e1, rfl⟩ := h0 rfl
    have hl : Y = [] := List.length_eq_zero_iff.1 e1
    subst hl
    refine wpList_append_own_none hg s x _ hop base 5 i0 1 Tryz.underlying22 hi v X.length _ hs hown hx ?_
    exact hK v w (by simpa using hown) (Below.refl _ _)
  | some ad =>
    refine wpList_append_own w hg s x _ hop base 5 i0 (.int .u8 0) 1 1 Tryz.underlying22 hi hz0 hz1 hz2 rfl (by omega) v X.length _ hs hown ad Y.length cap (Lib.byteCells Y) hx (by simp [Lib.byteCells]) (hc ad rfl) (cells_one Y) (by simp only [maxLen]; omega) (by omega) hbase ?_
    intro v' w' hown' hgr _
    exact hK v' w' (by simpa [Own, cells_append] using hown') ((Below.refl base w).grown hgr hbase (fun k hk => (hown.lt k hk).1))

set_option maxRecDepth 100000 in
set_option maxHeartbeats 1000000 in
theorem Clone_txt (v : Value) (L : List UInt8) (w : World) (h : Txt w v L) (hL : Aside (L.length < 1000000000)) :
    Calls Tryz.prog 57 #[v] w fun e w' => ∃ v', e = .returned v' ∧ Own w.heap.size w' v' L ∧ Below w.heap.size w w' := by
  have hT := h
  obtain ⟨ao, cap, rfl, h0, h1, h2, hc⟩ := h
  have qT : ∀ (w : World) (a : Option Addr) (n c n' c' : Nat), (binOp .eql 22 (.slice a n c) (.slice none n' c')).run Tryz.prog w = .ok (.bool a.isNone) w := fun w a n c n' c' => Lib.run_eql_slice_nil w _ _ a n c n' c' Tryz.underlying22
  cases ao with
  | none =>
    obtain ⟨e1, rfl⟩ := h0 rfl
    have hl : L = [] := List.length_eq_zero_iff.1 e1
    subst hl
    go_enter Tryz.func57, Tryz.ntmps57
    go_wp2_with fail
    go_ret
    exact ⟨_, rfl, Own.nil _ _, Below.refl _ _⟩
  | some ad =>
    clear hc h0
    go_enter Tryz.func57, Tryz.ntmps57
    have ho : Own w.heap.size (w.alloc (.cells #[] 5)) (.slice (some ⟨w.heap.size, 0, none⟩) 0 0) [] := World.ownsRow_made (size := 1) w #[] 0 (Nat.le_refl _) (by simp) rfl
    have ht : Txt (w.alloc (.cells #[] 5)) (.slice (some ad) L.length cap) L := Txt.below hT ((Below.refl _ _).alloc (Nat.le_refl _) _)
    have HO := Aside.mk ho
    have HTX := Aside.mk ht
    clear ho ht
    go_wp2_with (first | (at_builtin; refine wpList_append_txt _ rfl (.tmp 5) (.tmp 6) rfl w.heap.size _ [] rfl HO.out _ L rfl HTX.out ⟨by have := hL.out; simp; omega⟩ (by simp) ?_; intro v' w1 hown hb1))
    go_ret
    exact ⟨v', rfl, hown, ((Below.refl _ _).alloc (Nat.le_refl _) _).trans hb1⟩

theorem Txt.sub {w : World} {ad : Addr} {cap : Nat} {L : List UInt8} (h : Txt w (.slice (some ad) L.length cap) L) (q n : Nat) (hq : q + n ≤ L.length) : Txt w (.slice (some (ad.add q)) n (cap - q)) ((L.drop q).take n) := by
  obtain ⟨ao, cap', e, h0, h1, h2, hc⟩ := h
  cases e
  have hl : ((L.drop q).take n).length = n := by simp; omega
  refine ⟨some (ad.add q), cap - q, by rw [hl], by simp, by rw [hl]; omega, by omega, fun b hb j u hu => ?_⟩
  obtain rfl := Option.some.inj hb
  have hj : j < n := by
    have := (List.getElem?_eq_some_iff.1 hu).1
    rw [len_cells, hl] at this; exact this
  have := hc ad rfl (q + j) u (by
    simp only [Lib.byteCells, List.map_take, List.map_drop, List.getElem?_take, List.getElem?_drop] at hu
    rw [if_pos hj] at hu
    exact hu)
  rw [Addr.add_add]; exact this

theorem Txt.sub' {w : World} {ad : Addr} {cap : Nat} {L : List UInt8} (h : Txt w (.slice (some ad) L.length cap) L) (q r n : Nat) (hq : q + n = r) (hr : r ≤ L.length) : Txt w (.slice (if cap = q then some ad else some (ad.add q)) (r - q) (cap - q)) ((L.drop q).take n) := by
  have h2 := h.sub q n (by omega)
  rw [show r - q = n by omega]
  by_cases hc : cap = q
  · rw [if_pos hc]
    obtain ⟨ao, cap', e, h0, h1, hm, hcl⟩ := h
    cases e
    have hn : n = 0 := by omega
    subst hn
    exact ⟨some ad, cap - q, by simp, by simp, by simp, by omega, fun b hb j u hu => by simp [Lib.byteCells] at hu⟩
  · rw [if_neg hc]; exact h2
theorem rdN_range {lo hi : Int} {L : List UInt8} {p q : Nat} {n : Int} (h : rdN lo hi L p = .ok n q) : lo ≤ n ∧ n ≤ hi := by
  simp only [rdN, Dc.bind] at h
  split at h
  · split at h
    · cases h
    · cases h; omega
  · cases h
set_option maxRecDepth 100000 in
set_option maxHeartbeats 1000000 in
theorem bytes_any (lo hi : Int) (w : World) (g p : Nat) (v : Value) (L : List UInt8) (h : Src w g p v L) (hL : Aside (L.length < 1000000000)) (hlo : 0 ≤ lo) (hhi : hi ≤ 1000000) :
    Calls Tryz.prog 47 #[.pointer (some ⟨g, 0, none⟩), .int .i64 lo, .int .i64 hi] w fun e w' => Ans w g L (rdB lo hi L p) (fun s u w' => Own w.heap.size w' u s) e w' := by
  cases ho : rdN lo hi L p with
  | bad k =>
    have HR : Aside (rdB lo hi L p = .bad k) := ⟨by simp [rdB, Dc.bind, ho]⟩
    go_enter Tryz.func47, Tryz.ntmps47
    go_wp2_with (go_at_call 44; refine (number_any lo hi w g p v L h hL).mono ?_; rintro e w1 ⟨q, hq, hm, hv⟩; rw [ho] at hv; obtain rfl := hv)
    refine ⟨rfl, q, hq, hm, ?_⟩
    rw [HR.out]
  | ok n q =>
    obtain ⟨hn0, hn1⟩ := rdN_range ho
    obtain ⟨N, rfl⟩ : ∃ N : Nat, n = (N : Int) := ⟨n.toNat, by omega⟩
    have hN : N ≤ 1000000 := by omega
    have HNN := Aside.mk hN
    clear hN
    have hrd : rdB lo hi L p = rdT N L q := by simp [rdB, Dc.bind, ho]
    have HR := Aside.mk hrd
    clear hrd hn0 hn1
    go_enter Tryz.func47, Tryz.ntmps47
    go_wp2_with (go_at_call 44; refine (number_any lo hi w g p v L h hL).mono ?_; rintro e w1 ⟨q', hq, hm, hv⟩; rw [ho] at hv; obtain ⟨rfl, u, rfl, rfl⟩ := hv)
    have hs1 := h.moved hq hm
    obtain ⟨ao, cap, rfl, h0, hc, hmx, hcell⟩ := hs1.txt
    have c0 : w1.cell? ⟨g, 0, none⟩ = some (.slice ao L.length cap) := by rw [cell_of_row w1 g 0 _ _ _ hs1.here]; rfl
    have c1 : w1.cell? ⟨g, 1, none⟩ = some (.int .i64 ((q : Nat) : Int)) := by rw [cell_of_row w1 g 1 _ _ _ hs1.here]; rfl
    have f1 : w1.frozen? ⟨g, 1, none⟩ = false := by simp [World.frozen?, hs1.here]
    have HL2 := Aside.mk hL.out
    have HQ := Aside.mk hq
    have HH0 := Aside.mk h0
    clear hcell hmx hq h0
    obtain ⟨R, hR⟩ : ∃ R, L.length - q = R := ⟨_, rfl⟩
    have hw : IntKind.i64.wrap ((L.length : Int) - (q : Int)) = (R : Int) := by have := hL.out; have := HQ.out; rw [IntKind.wrap_i64]; omega
    have HRR := Aside.mk hR
    clear hR
    by_cases hl : R < N
    · go_quiet (fail)
      go_wp2_with (go_at_call 50; refine (fail_any _ _ _).mono ?_; rintro e w2 ⟨rfl, rfl⟩)
      refine ⟨rfl, q, HQ.out, hm.drew _, ?_⟩
      rw [HR.out, rdT, if_pos (by rw [HRR.out]; exact hl)]
    · have hadd : wrap64 ((q : Int) + (N : Int)) = ((q + N : Nat) : Int) := by have := hL.out; have := HQ.out; have := HNN.out; simp only [wrap64]; omega
      have hqn : q + N ≤ L.length := by have := HRR.out; have := HQ.out; omega
      go_quiet (fail)
      go_wp2_with fail
      have hs2 : Src ((w1.drewN nq).setCell ⟨g, 1, none⟩ (.int .i64 ((q : Int) + (N : Int)))) g (q + N) (.slice ao L.length cap) L := by
        have := (hs1.drew nq).set (q + N) hqn
        rwa [Int.natCast_add] at this
      have hm2 : Moved w g (q + N) ((w1.drewN nq).setCell ⟨g, 1, none⟩ (.int .i64 ((q : Int) + (N : Int)))) := by
        have := (hm.drew nq).trans (Moved.set (w1.drewN nq) g (q + N))
        rwa [Int.natCast_add] at this
      generalize (w1.drewN nq).setCell ⟨g, 1, none⟩ (.int .i64 ((q : Int) + (N : Int))) = W2 at hs2 hm2 ⊢
      clear c0 c1 f1
      have c0 : W2.cell? ⟨g, 0, none⟩ = some (.slice ao L.length cap) := by rw [cell_of_row W2 g 0 _ _ _ hs2.here]; rfl
      have c1 : W2.cell? ⟨g, 1, none⟩ = some (.int .i64 ((q + N : Nat) : Int)) := by rw [cell_of_row W2 g 1 _ _ _ hs2.here]; rfl
      have hw2 : IntKind.i64.wrap (((q + N : Nat) : Int) - (N : Int)) = (q : Int) := by have := hL.out; rw [IntKind.wrap_i64]; omega
      obtain ⟨r, hr⟩ : ∃ r, q + N = r := ⟨_, rfl⟩
      rw [hr] at hs2 hm2 c1 hw2 hqn
      clear hw hadd hm hs1 h
      have HRE := Aside.mk hr
      clear hr
      cases ao with
      | none =>
        obtain ⟨e1, rfl⟩ := HH0.out rfl
        have hn0 : N = 0 := by have := HRE.out; omega
        have hq0 : q = 0 := by have := HRE.out; omega
        have hr0 : r = 0 := by omega
        subst hn0; subst hq0; subst hr0
        have hl0 : L = [] := List.length_eq_zero_iff.1 e1
        subst hl0
        have hgl : g < W2.drew.heap.size := lt_of_heap hs2.here
        have HLN : Aside (([] : List UInt8).length < 1000000000) := ⟨by simp⟩
        clear hw2
        go_region_with (first | (go_at_call 57; refine (Clone_txt _ [] _ (Txt.nil _) HLN).mono ?_; rintro e w3 ⟨v', rfl, ho3, hb3⟩; have k0 := (hb3.cell (p := ⟨g, 0, none⟩) hgl).trans c0; have k1 := (hb3.cell (p := ⟨g, 1, none⟩) hgl).trans c1))
        all_goals
          go_wp2_with fail
          go_ret
          refine ⟨0, by omega, hm2.below (((Below.refl _ _).drew).trans hb3), ?_⟩
          rw [HR.out, rdT, if_neg (by omega)]
          exact ⟨rfl, v', rfl, ho3.mono hm2.size⟩
      | some ad =>
        obtain ⟨ad', hif⟩ : ∃ ad', (if cap = q then some ad else some (ad.add q)) = some ad' := by split <;> exact ⟨_, rfl⟩
        have hsub := hs2.txt.sub' q r N HRE.out hqn
        rw [hif] at hsub
        have HSUB := Aside.mk hsub
        have HQN := Aside.mk hqn
        have b0 : (0 : Int) ≤ (q : Int) := by omega
        have b1 : (q : Int) ≤ (r : Int) := by have := HRE.out; omega
        have b2 : (r : Int) ≤ (cap : Int) := by omega
        have HLN : Aside (((L.drop q).take N).length < 1000000000) := ⟨by have := hL.out; simp; omega⟩
        have hgl : g < W2.drew.heap.size := lt_of_heap hs2.here
        clear hsub hqn
        go_region_held3 (fun w' => w'.cell? ⟨g, 0, none⟩ = some (.slice (some ad) L.length cap) ∧ w'.cell? ⟨g, 1, none⟩ = some (.int .i64 (r : Int))) (go_keep) (first | (go_at_call 57; refine (Clone_txt _ ((L.drop q).take N) _ (HSUB.out.below ((Below.refl _ _).drew)) HLN).mono ?_; rintro e w3 ⟨v', rfl, ho3, hb3⟩; have k0 := (hb3.cell (p := ⟨g, 0, none⟩) hgl).trans c0; have k1 := (hb3.cell (p := ⟨g, 1, none⟩) hgl).trans c1))
        go_wp2_with fail
        go_ret
        refine ⟨r, HQN.out, hm2.below (((Below.refl _ _).drew).trans hb3), ?_⟩
        rw [HR.out, rdT, if_neg (by rw [HRR.out]; exact hl)]
        exact ⟨HRE.out, v', rfl, ho3.mono hm2.size⟩
end Go.Proofs.YteljhjljigbcjaaGreatDoor.Cv
