/- OhE OhE1 OhE2 OhE3 -/
import Derived.Test.YthcidkidpiaomaaGreatDoorKf20
section
set_option linter.unusedVariables false
set_option linter.unusedSimpArgs false
namespace Go.Proofs.YthcidkidpiaomaaGreatDoor.Od
open Go.RowKit Rg
theorem OwnN.kept {B g : Nat} {w w' : World} {v : Value} {e : List Nd} (h : OwnN B w v e) (k : Kept g w w') (hg : g < B) : OwnN B w' v e := by
  obtain ⟨h1, h2⟩ := h
  refine ⟨h1, ?_⟩
  rcases h2 with h2 | ⟨g', cap, cur, hv, hg', hh, r⟩
  · exact Or.inl h2
  · exact Or.inr ⟨g', cap, cur, hv, hg', by rw [k.block g' (lt_of hh) (by omega)]; exact hh, r⟩
theorem RawN.kept {G g : Nat} {w w' : World} {v : Value} {e : List Nd} (h : RawN G w v e) (k : Kept g w w') (hg : G ≤ g) : RawN G w' v e := by
  obtain ⟨ao, c, hv, h1, h2, h3, h4⟩ := h
  refine ⟨ao, c, hv, h1, h2, fun i x hx => ?_, h4⟩
  obtain ⟨b, o, h5, h6, h7⟩ := h3 i x hx
  exact ⟨b, o, h5, h6, fun k' u hu => k.cell (h7 k' u hu) (by show b ≠ g; omega)⟩
theorem RawN.tail {G : Nat} {w : World} {b o K c : Nat} {x : Nd} {r : List Nd} (h : RawN G w (.slice (some ⟨b, o, none⟩) K c) (x :: r)) : RawN G w (.slice (some ⟨b, o + 4, none⟩) (K - 1) (c - 1)) r := by
  obtain ⟨ao, c', hv, h1, h2, h3, h4⟩ := h
  injection hv with e1 e2 e3
  subst e1; subst e2; subst e3
  simp only [List.length_cons] at h1
  refine ⟨some ⟨b, o + 4, none⟩, c - 1, by rw [List.length_cons]; rfl, by omega, by omega, fun i y hy => ?_, fun e => by cases e⟩
  obtain ⟨b', o', h5, h6, h7⟩ := h3 (i + 1) y (by rw [List.getElem?_cons_succ]; exact hy)
  injection h5 with h5
  injection h5 with h5 h5'
  subst h5; subst h5'
  refine ⟨b, o + 4, rfl, h6, fun k u hu => ?_⟩
  rw [show o + 4 + (i * 4 + k) = o + ((i + 1) * 4 + k) by omega]
  exact h7 k u hu
def okN (n : Nat) (t : Tr) : Prop := ∀ vars : List (List UInt8), vars.length = n → okT vars t
def BSpec (n d : Nat) : Prop := ∀ (e : List Nd) (g G : Nat) (v : Value) (w : World), G ≤ g → w.heap[g]? = some (.cells #[v, .int .i64 (n : Nat)] 90 (0, 0)) → RawN G w v e →
  Calls Tryz.prog 65 #[.pointer (some ⟨g, 0, none⟩), .int .i64 (d : Nat)] w fun e' w' => ∃ t v', e' = .returned v' ∧ okN n t ∧ (flat t).length + 1 ≤ 2 ^ (max d 1) ∧ OwnN w.heap.size w' v' (flat t) ∧ Kept g w w' ∧
    ∃ v2 e2, w'.heap[g]? = some (.cells #[v2, .int .i64 (n : Nat)] 90 (0, 0)) ∧ RawN G w' v2 e2
theorem pow_leaf (d : Nat) : 1 + 1 ≤ 2 ^ (max d 1) := by
  have := Nat.pow_le_pow_right (n := 2) (by decide) (show 1 ≤ max d 1 by omega)
  omega
theorem pow_un {k x : Nat} (hk : 1 ≤ k) (h : x + 1 ≤ 2 ^ (max k 1)) : (x + 1) + 1 ≤ 2 ^ (max (k + 1) 1) := by
  rw [show max k 1 = k by omega] at h
  rw [show max (k + 1) 1 = k + 1 by omega, Nat.pow_succ]
  omega
theorem pow_bin {k : Nat} {e f : List Nd} {x : Nd} (hk : 1 ≤ k) (h : e.length + 1 ≤ 2 ^ (max k 1)) (h' : f.length + 1 ≤ 2 ^ (max k 1)) : (x :: (e ++ f)).length + 1 ≤ 2 ^ (max (k + 1) 1) := by
  rw [show max k 1 = k by omega] at h h'
  rw [show max (k + 1) 1 = k + 1 by omega, Nat.pow_succ, List.length_cons, List.length_append]
  omega
theorem pow_un' {k x d : Nat} (hk : d = k + 1 ∧ 1 ≤ k) (h : x + 1 ≤ 2 ^ (max k 1)) : (x + 1) + 1 ≤ 2 ^ (max d 1) := by rw [hk.1]; exact pow_un hk.2 h
theorem pow_bin' {k d : Nat} {e f : List Nd} {x : Nd} (hk : d = k + 1 ∧ 1 ≤ k) (h : e.length + 1 ≤ 2 ^ (max k 1)) (h' : f.length + 1 ≤ 2 ^ (max k 1)) : (x :: (e ++ f)).length + 1 ≤ 2 ^ (max d 1) := by rw [hk.1]; exact pow_bin hk.2 h h'
theorem pow_small {k x : Nat} (hd : k + 1 ≤ 5) (h : x + 1 ≤ 2 ^ (max k 1)) : x ≤ 90000 := by
  have := Nat.pow_le_pow_right (n := 2) (by decide) (show max k 1 ≤ 5 by omega)
  omega
theorem pow_small2 {k x y : Nat} (hd : k + 1 ≤ 5) (h : x + 1 ≤ 2 ^ (max k 1)) (h' : y + 1 ≤ 2 ^ (max k 1)) : x + y ≤ 90000 := by
  have := Nat.pow_le_pow_right (n := 2) (by decide) (show max k 1 ≤ 5 by omega)
  omega
theorem okI_num {n : Nat} {a : Iv} (h : okI a) : okN n (.num a.1 a.2) := fun vars _ => h
theorem andb (k m : Int) (h0 : 0 ≤ m) (hm : m < 9223372036854775808) : ∃ x : Int, bits .and .i64 k m = x ∧ 0 ≤ x ∧ x ≤ m := by
  refine ⟨_, rfl, ?_⟩
  obtain ⟨m, rfl⟩ : ∃ z : Nat, m = z := ⟨m.toNat, by omega⟩
  have e : bits .and .i64 k (m : Int) = IntKind.i64.wrap (((BitVec.ofInt 64 k &&& BitVec.ofInt 64 (m : Int)).toNat : Nat) : Int) := rfl
  have hh : (BitVec.ofInt 64 (m : Int)).toNat = m := by rw [BitVec.ofInt_natCast, BitVec.toNat_ofNat]; omega
  rw [e, BitVec.toNat_and, hh]
  have := Nat.and_le_right (n := (BitVec.ofInt 64 k).toNat) (m := m)
  rw [IntKind.wrap_i64]
  omega
theorem wrap64_in {x : Int} (h : -9223372036854775808 ≤ x) (h' : x ≤ 9223372036854775807) : wrap64 x = x := by unfold wrap64; omega
def BGoal (n d g G : Nat) (w : World) : Prop := Calls Tryz.prog 65 #[.pointer (some ⟨g, 0, none⟩), .int .i64 (d : Nat)] w fun e' w' => ∃ t v', e' = .returned v' ∧ okN n t ∧ (flat t).length + 1 ≤ 2 ^ (max d 1) ∧ OwnN w.heap.size w' v' (flat t) ∧ Kept g w w' ∧
    ∃ v2 e2, w'.heap[g]? = some (.cells #[v2, .int .i64 (n : Nat)] 90 (0, 0)) ∧ RawN G w' v2 e2
structure BMid (w0 W : World) (g G n : Nat) (v : Value) (r : List Nd) (x : Nd) : Prop where
  kept : Kept g w0 W
  row : W.heap[g]? = some (.cells #[v, .int .i64 (n : Nat)] 90 (0, 0))
  raw : RawN G W v r
  nd : W.heap[w0.heap.size]? = some (.cells #[.int .i64 x.op, .int .i64 x.n, .int .i64 x.lo, .int .i64 x.hi] 79 (0, 0))
theorem bmid {w W : World} {g G n : Nat} {v0 v : Value} {r : List Nd} {x : Nd} (hW : W = (w.setCell ⟨g, 0, none⟩ v).alloc (.cells #[.int .i64 x.op, .int .i64 x.n, .int .i64 x.lo, .int .i64 x.hi] 79))
    (hr : w.heap[g]? = some (.cells #[v0, .int .i64 (n : Nat)] 90 (0, 0))) (h : RawN G w v r) (hG : G ≤ g) : BMid w W g G n v r x := by
  subst hW
  have hs : (w.setCell ⟨g, 0, none⟩ v).heap.size = w.heap.size := by simp [World.setCell]
  have h1 : (w.setCell ⟨g, 0, none⟩ v).heap[g]? = some (.cells #[v, .int .i64 (n : Nat)] 90 (0, 0)) := row_cell (i := 0) hr v
  have hk : Kept g w (w.setCell ⟨g, 0, none⟩ v) := Kept.set _
  have hal : Below (w.setCell ⟨g, 0, none⟩ v).heap.size (w.setCell ⟨g, 0, none⟩ v) ((w.setCell ⟨g, 0, none⟩ v).alloc (.cells #[.int .i64 x.op, .int .i64 x.n, .int .i64 x.lo, .int .i64 x.hi] 79)) := (Below.refl _ _).alloc (Nat.le_refl _) _
  have hl := heap_alloc_last (w.setCell ⟨g, 0, none⟩ v) (.cells #[.int .i64 x.op, .int .i64 x.n, .int .i64 x.lo, .int .i64 x.hi] 79)
  rw [hs] at hl
  exact ⟨hk.put (by have := hal; rw [hs] at this; exact this), (hal.block _ (lt_of h1)).trans h1, (h.kept hk hG).below hal, hl⟩
set_option maxRecDepth 100000 in
set_option maxHeartbeats 8000000 in
theorem build_nil (n d : Nat) (g G : Nat) (v : Value) (w : World) (hG : G ≤ g) (hr : w.heap[g]? = some (.cells #[v, .int .i64 (n : Nat)] 90 (0, 0))) (h : RawN G w v []) :
  Calls Tryz.prog 65 #[.pointer (some ⟨g, 0, none⟩), .int .i64 (d : Nat)] w fun e' w' => ∃ t v', e' = .returned v' ∧ okN n t ∧ (flat t).length + 1 ≤ 2 ^ (max d 1) ∧ OwnN w.heap.size w' v' (flat t) ∧ Kept g w w' ∧
    ∃ v2 e2, w'.heap[g]? = some (.cells #[v2, .int .i64 (n : Nat)] 90 (0, 0)) ∧ RawN G w' v2 e2 := by
  have HR := Aside.mk hr
  have HN := Aside.mk h
  have HG := Aside.mk hG
  obtain ⟨ao, c, rfl, -⟩ := h
  have c0 : w.cell? ⟨g, 0, none⟩ = some (.slice ao 0 c) := by rw [cell_of_row _ _ 0 _ _ _ hr]; rfl
  have hp : Aside (2 ≤ 2 ^ (max d 1)) := ⟨by
    have := Nat.pow_le_pow_right (n := 2) (by decide) (show 1 ≤ max d 1 by omega)
    simpa using this⟩
  clear hr hG
  go_enter Tryz.func65, Tryz.ntmps65
  go_wp2_with fail
  refine (rPoint_any 65536 w).mono ?_
  rintro e w1 ⟨rfl, hb1⟩
  have HB1 := Aside.mk hb1
  clear hb1
  go_wp2_with fail
  refine (rConst_any (newI 65536 65536) w1).mono ?_
  rintro e w2 ⟨v', rfl, ho, hb2⟩
  have HO := Aside.mk (ho.mono HB1.out.size)
  have HB2 := Aside.mk (HB1.out.trans (hb2.mono HB1.out.size))
  clear hb2 ho
  obtain ⟨av, cv, rfl, -⟩ := HO.out.rd.out
  go_wp2_with fail
  go_ret
  exact ⟨.num 65536 65536, _, rfl, okI_num (a := (65536, 65536)) (by show okIv _ _ = true; kernel_rfl), hp.out, HO.out, Kept.of HB2.out, _, _, (HB2.out.block _ (heap_lt HR.out)).trans HR.out, HN.out.below HB2.out⟩
end Go.Proofs.YthcidkidpiaomaaGreatDoor.Od
end
section
set_option linter.unusedSectionVars false
set_option linter.unusedVariables false
set_option linter.unusedSimpArgs false
namespace Go.Proofs.YthcidkidpiaomaaGreatDoor.Od
open Go.RowKit Rg
section
variable (n d g G : Nat) (w W : World) (x : Nd) (r : List Nd) (b o K : Nat) (X Y P E PE wd : Int)
 (HIH : Aside (2 ≤ d → BSpec n (d - 1))) (HNN : Aside (1 ≤ n ∧ n ≤ 6)) (HD5 : Aside (d ≤ 5)) (k0 : w.cell? ⟨b, o, none⟩ = some (.int .i64 x.op)) (k1 : w.cell? ⟨b, o + 1, none⟩ = some (.int .i64 x.n)) (k2 : w.cell? ⟨b, o + 2, none⟩ = some (.int .i64 x.lo)) (k3 : w.cell? ⟨b, o + 3, none⟩ = some (.int .i64 x.hi))
 (hX : bits .and .i64 x.op 255 = X) (hY : X.tmod 10 = Y) (hP : bits .and .i64 x.n 255 = P) (hE : bits .and .i64 x.n 1 = E) (hPEw : wrap64 (P * E) = PE) (hwd : wrap64 (1 + PE) = wd) (HWD : Aside (1 ≤ wd ∧ wd ≤ 256)) (HP : Aside (0 ≤ P ∧ P ≤ 255)) (HGs : Aside (G ≤ g ∧ g < w.heap.size ∧ b < G))
 (c0 : w.cell? ⟨g, 0, none⟩ = some (.slice (some ⟨b, o, none⟩) K 1)) (hfz : w.frozen? ⟨g, 0, none⟩ = false) (hK0 : ((K : Int) == 0) = false) (hK2 : (0 : Int) < (K : Int)) (hK3 : (1 : Int) ≤ (K : Int)) (hcK : (K : Int) ≤ ((1 : Nat) : Int)) (hgl : g < w.heap.size)
 (HM : Aside (BMid w W g G n (.slice (some ⟨b, o, none⟩) (K - 1) 0) r x)) (hW : W = (w.setCell ⟨g, 0, none⟩ (.slice (some ⟨b, o, none⟩) (K - 1) 0)).alloc (.cells #[.int .i64 x.op, .int .i64 x.n, .int .i64 x.lo, .int .i64 x.hi] 79))
include HIH HNN HD5 k0 k1 k2 k3 hX hY hP hE hPEw hwd HWD HP HGs c0 hfz hK0 hK2 hK3 hcK hgl HM hW
set_option maxRecDepth 100000 in
set_option maxHeartbeats 4000000 in
theorem build_q1_one (hQ : wrap64 (1 + Y) = 1)  : BGoal n d g G w := by
 unfold BGoal
 go_enter Tryz.func65, Tryz.ntmps65
 go_wp2_with fail
 rw [← hW]
 clear hW
 refine (rNear_any x.lo x.hi wd HWD.out.1 HWD.out.2 _).mono ?_
 rintro e w3 ⟨a, rfl, ha, hb2⟩
 have HA := Aside.mk ha
 have HB2 := Aside.mk hb2
 clear hb2 ha
 go_wp2_with fail
 refine (rConst_any a w3).mono ?_
 rintro e w4 ⟨v', rfl, ho, hb3⟩
 have HO := Aside.mk (ho.mono (Nat.le_trans HM.out.kept.size HB2.out.size))
 have HB3 := Aside.mk (HB2.out.trans (hb3.mono HB2.out.size))
 clear hb3 ho
 obtain ⟨av, cv, rfl, -⟩ := HO.out.rd.out
 go_wp2_with fail
 go_ret
 refine ⟨.num a.1 a.2, _, rfl, ?_⟩
 exact ⟨okI_num HA.out, pow_leaf d, HO.out, HM.out.kept.trans (Kept.of HB3.out), _, _, (HB3.out.block _ (lt_of HM.out.row)).trans HM.out.row, HM.out.raw.below HB3.out⟩
set_option maxRecDepth 100000 in
set_option maxHeartbeats 4000000 in
theorem build_q2_one (hQ : wrap64 (1 + Y) = 2)  : BGoal n d g G w := by
 have har : arity 2 = 0 := rfl
 unfold BGoal
 go_enter Tryz.func65, Tryz.ntmps65
 go_wp2_with fail
 rw [← hW]
 clear hW
 refine (rArity_any _ W).mono ?_
 rintro e w2 ⟨rfl, rfl⟩
 rw [har]
 have d1 : w2.cell? ⟨w.heap.size, 1, none⟩ = some (.int .i64 x.n) := by rw [cell_of_row _ _ 1 _ _ _ HM.out.nd]; rfl
 have e1 : w2.cell? ⟨g, 1, none⟩ = some (.int .i64 (n : Nat)) := by rw [cell_of_row _ _ 1 _ _ _ HM.out.row]; rfl
 have hnz : (n : Int) ≠ 0 := by have := HNN.out.1; omega
 obtain ⟨m, hM⟩ : ∃ m : Nat, P.tmod (n : Int) = m := ⟨(P.tmod (n : Int)).toNat, by rw [Int.tmod_eq_emod_of_nonneg HP.out.1]; have := Int.emod_nonneg P hnz; omega⟩
 have hM0 : Aside ((m : Int) < n) := ⟨by
  rw [← hM, Int.tmod_eq_emod_of_nonneg HP.out.1]
  exact Int.emod_lt_of_pos _ (by omega)⟩
 obtain ⟨gx, hgx⟩ : ∃ gx, w.heap.size = gx := ⟨_, rfl⟩
 have HGX := Aside.mk hgx
 rw [hgx] at d1
 simp only [hgx]
 clear hgx
 go_wp2_with fail
 go_region
 go_wp2_with fail
 go_ret
 have hsz := HM.out.kept.size
 have hal : Below w2.heap.size w2 (w2.alloc (.cells #[.int .i64 2, .int .i64 (m : Nat), .int .i64 0, .int .i64 0] 79)).drew := ((Below.refl _ _).alloc (Nat.le_refl _) _).drew
 exact ⟨.var m, _, rfl, fun vars hv => by show m < vars.length; have := hM0.out; omega, pow_leaf d, own_one (x := ⟨2, m, 0, 0⟩) (heap_alloc_last w2 _) (by rw [← HGX.out] at *; exact hsz) rfl, HM.out.kept.trans (Kept.of hal), _, _, (hal.block _ (lt_of HM.out.row)).trans HM.out.row, HM.out.raw.below hal⟩
set_option maxRecDepth 100000 in
set_option maxHeartbeats 4000000 in
theorem build_q3_one (hQ : wrap64 (1 + Y) = 3)  : BGoal n d g G w := by
 have har : arity 3 = 0 := rfl
 unfold BGoal
 go_enter Tryz.func65, Tryz.ntmps65
 go_wp2_with fail
 rw [← hW]
 clear hW
 refine (rArity_any _ W).mono ?_
 rintro e w2 ⟨rfl, rfl⟩
 rw [har]
 go_wp2_with fail
 go_ret
 have hsz := HM.out.kept.size
 have hal : Below w2.heap.size w2 (w2.alloc (.cells #[.int .i64 3, .int .i64 0, .int .i64 0, .int .i64 0] 79)) := (Below.refl _ _).alloc (Nat.le_refl _) _
 exact ⟨.time, _, rfl, fun vars hv => trivial, pow_leaf d, own_one (x := ⟨3, 0, 0, 0⟩) (heap_alloc_last w2 _) hsz rfl, HM.out.kept.trans (Kept.of hal), _, _, (hal.block _ (lt_of HM.out.row)).trans HM.out.row, HM.out.raw.below hal⟩
set_option maxRecDepth 100000 in
set_option maxHeartbeats 4000000 in
theorem build_q4c_one (Q : Int) (hQ : wrap64 (1 + Y) = Q) (hq : 4 ≤ Q ∧ Q ≤ 6) (hd : d < 2) : BGoal n d g G w := by
 have har : arity Q = 1 := by unfold arity; rw [if_neg (by omega), if_pos hq]
 have hne1 : (Q == 1) = false := by simp; omega
 have hne2 : (Q == 2) = false := by simp; omega
 have hne3 : (Q == 3) = false := by simp; omega
 have HQ := Aside.mk hq
 clear hq
 have hdi : (d : Int) < 2 := by omega
 clear hd
 unfold BGoal
 go_enter Tryz.func65, Tryz.ntmps65
 go_wp2_with fail
 rw [← hW]
 clear hW
 refine (rArity_any _ W).mono ?_
 rintro e w2 ⟨rfl, rfl⟩
 rw [har]
 have d1 : w2.cell? ⟨w.heap.size, 1, none⟩ = some (.int .i64 x.n) := by rw [cell_of_row _ _ 1 _ _ _ HM.out.nd]; rfl
 have d2 : w2.cell? ⟨w.heap.size, 2, none⟩ = some (.int .i64 x.lo) := by rw [cell_of_row _ _ 2 _ _ _ HM.out.nd]; rfl
 have d3 : w2.cell? ⟨w.heap.size, 3, none⟩ = some (.int .i64 x.hi) := by rw [cell_of_row _ _ 3 _ _ _ HM.out.nd]; rfl
 go_wp2_with fail
 refine (rNear_any x.lo x.hi wd HWD.out.1 HWD.out.2 _).mono ?_
 rintro e w3 ⟨a, rfl, ha, hb2⟩
 have HA := Aside.mk ha
 have HB2 := Aside.mk hb2
 clear hb2 ha
 go_wp2_with fail
 refine (rConst_any a w3).mono ?_
 rintro e w4 ⟨v', rfl, ho, hb3⟩
 have HO := Aside.mk (ho.mono (Nat.le_trans HM.out.kept.size HB2.out.size))
 have HB3 := Aside.mk (HB2.out.trans (hb3.mono HB2.out.size))
 clear hb3 ho
 obtain ⟨av, cv, rfl, -⟩ := HO.out.rd.out
 go_wp2_with fail
 go_ret
 refine ⟨.num a.1 a.2, _, rfl, ?_⟩
 exact ⟨okI_num HA.out, pow_leaf d, HO.out, HM.out.kept.trans (Kept.of HB3.out), _, _, (HB3.out.block _ (lt_of HM.out.row)).trans HM.out.row, HM.out.raw.below HB3.out⟩
set_option maxRecDepth 100000 in
set_option maxHeartbeats 4000000 in
theorem build_q4r_one (Q : Int) (hQ : wrap64 (1 + Y) = Q) (hq : 4 ≤ Q ∧ Q ≤ 6) (hd : ¬ d < 2) : BGoal n d g G w := by
 have har : arity Q = 1 := by unfold arity; rw [if_neg (by omega), if_pos hq]
 have hne1 : (Q == 1) = false := by simp; omega
 have hne2 : (Q == 2) = false := by simp; omega
 have hne3 : (Q == 3) = false := by simp; omega
 have HQ := Aside.mk hq
 clear hq
 obtain ⟨k, hk⟩ : ∃ k, d = k + 1 := ⟨d - 1, by omega⟩
 have HK1 : Aside (d = k + 1 ∧ 1 ≤ k) := ⟨by omega⟩
 have HI : Aside (BSpec n k) := ⟨by have := HIH.out (by omega); rw [hk] at this; exact this⟩
 have hdk : (d : Int) - 1 = (k : Nat) := by omega
 have hdi : ¬ (d : Int) < 2 := by omega
 have hwk : wrap64 ((d : Int) - 1) = (k : Nat) := by rw [hdk]; exact wrap64_in (by omega) (by have := HD5.out; omega)
 have hwk2 : wrap64 (k : Int) = (k : Nat) := by exact wrap64_in (by omega) (by have := HD5.out; omega)
 have HWK := Aside.mk (And.intro hdk (And.intro hwk hwk2))
 clear hd hk hdk hwk hwk2
 unfold BGoal
 go_enter Tryz.func65, Tryz.ntmps65
 go_wp2_with fail
 rw [← hW]
 clear hW
 refine (rArity_any _ W).mono ?_
 rintro e w2 ⟨rfl, rfl⟩
 rw [har]
 go_wp2_with fail
 refine (rArity_any _ _).mono ?_
 rintro e w3 ⟨rfl, rfl⟩
 rw [har]
 go_wp2_with fail
 try simp only [HWK.out.2.1]
 refine (HI.out _ g G _ w3 HGs.out.1 HM.out.row HM.out.raw).mono ?_
 rintro e w4 ⟨t, v', rfl, hok, hlen, ho, hkept, v2, e2, hr2, hraw2⟩
 have HT := Aside.mk (And.intro hok hlen)
 have HM2 := Aside.mk (And.intro (HM.out.kept.trans hkept) (And.intro hr2 hraw2))
 have HO := Aside.mk ho.rd
 clear hkept hr2 hraw2 ho hok hlen
 obtain ⟨av, cv, rfl, -⟩ := HO.out.out
 go_wp2_with fail
 refine (rUnary_any w4 Q _ (flat t) HO.out (flat_ne t) (pow_small (k := k) (by have := HD5.out; have := HK1.out.1; omega) HT.out.2)).mono ?_
 rintro e w5 ⟨v3, rfl, ho, hb⟩
 have HB := Aside.mk hb
 have HO5 := Aside.mk (ho.mono HM2.out.1.size)
 clear ho hb
 obtain ⟨LN, hLN⟩ : ∃ LN, (⟨Q, 0, 0, 0⟩ :: flat t : List Nd).length = LN := ⟨_, rfl⟩
 obtain ⟨av3, cv3, hv3, -⟩ := HO5.out.rd.out
 rw [hLN] at hv3
 subst hv3
 clear hLN
 go_wp2_with fail
 go_ret
 refine ⟨.un Q t, _, rfl, ?_⟩
 exact ⟨fun vars hv => ⟨HQ.out, HT.out.1 vars hv⟩, pow_un' HK1.out HT.out.2, HO5.out, HM2.out.1.trans (Kept.of HB.out), _, _, (HB.out.block _ (lt_of HM2.out.2.1)).trans HM2.out.2.1, HM2.out.2.2.below HB.out⟩
set_option maxRecDepth 100000 in
set_option maxHeartbeats 4000000 in
theorem build_q7c_one (Q : Int) (hQ : wrap64 (1 + Y) = Q) (hq : 7 ≤ Q ∧ Q ≤ 10) (hd : d < 2) : BGoal n d g G w := by
 have har : arity Q = 2 := by unfold arity; rw [if_neg (by omega), if_neg (by omega), if_pos hq]
 have hne1 : (Q == 1) = false := by simp; omega
 have hne2 : (Q == 2) = false := by simp; omega
 have hne3 : (Q == 3) = false := by simp; omega
 have HQ := Aside.mk hq
 clear hq
 have hdi : (d : Int) < 2 := by omega
 clear hd
 unfold BGoal
 go_enter Tryz.func65, Tryz.ntmps65
 go_wp2_with fail
 rw [← hW]
 clear hW
 refine (rArity_any _ W).mono ?_
 rintro e w2 ⟨rfl, rfl⟩
 rw [har]
 have d1 : w2.cell? ⟨w.heap.size, 1, none⟩ = some (.int .i64 x.n) := by rw [cell_of_row _ _ 1 _ _ _ HM.out.nd]; rfl
 have d2 : w2.cell? ⟨w.heap.size, 2, none⟩ = some (.int .i64 x.lo) := by rw [cell_of_row _ _ 2 _ _ _ HM.out.nd]; rfl
 have d3 : w2.cell? ⟨w.heap.size, 3, none⟩ = some (.int .i64 x.hi) := by rw [cell_of_row _ _ 3 _ _ _ HM.out.nd]; rfl
 go_wp2_with fail
 refine (rNear_any x.lo x.hi wd HWD.out.1 HWD.out.2 _).mono ?_
 rintro e w3 ⟨a, rfl, ha, hb2⟩
 have HA := Aside.mk ha
 have HB2 := Aside.mk hb2
 clear hb2 ha
 go_wp2_with fail
 refine (rConst_any a w3).mono ?_
 rintro e w4 ⟨v', rfl, ho, hb3⟩
 have HO := Aside.mk (ho.mono (Nat.le_trans HM.out.kept.size HB2.out.size))
 have HB3 := Aside.mk (HB2.out.trans (hb3.mono HB2.out.size))
 clear hb3 ho
 obtain ⟨av, cv, rfl, -⟩ := HO.out.rd.out
 go_wp2_with fail
 go_ret
 refine ⟨.num a.1 a.2, _, rfl, ?_⟩
 exact ⟨okI_num HA.out, pow_leaf d, HO.out, HM.out.kept.trans (Kept.of HB3.out), _, _, (HB3.out.block _ (lt_of HM.out.row)).trans HM.out.row, HM.out.raw.below HB3.out⟩
set_option maxRecDepth 100000 in
set_option maxHeartbeats 4000000 in
theorem build_q7r_one (Q : Int) (hQ : wrap64 (1 + Y) = Q) (hq : 7 ≤ Q ∧ Q ≤ 10) (hd : ¬ d < 2) : BGoal n d g G w := by
 have har : arity Q = 2 := by unfold arity; rw [if_neg (by omega), if_neg (by omega), if_pos hq]
 have hne1 : (Q == 1) = false := by simp; omega
 have hne2 : (Q == 2) = false := by simp; omega
 have hne3 : (Q == 3) = false := by simp; omega
 have HQ := Aside.mk hq
 clear hq
 obtain ⟨k, hk⟩ : ∃ k, d = k + 1 := ⟨d - 1, by omega⟩
 have HK1 : Aside (d = k + 1 ∧ 1 ≤ k) := ⟨by omega⟩
 have HI : Aside (BSpec n k) := ⟨by have := HIH.out (by omega); rw [hk] at this; exact this⟩
 have hdk : (d : Int) - 1 = (k : Nat) := by omega
 have hdi : ¬ (d : Int) < 2 := by omega
 have hwk : wrap64 ((d : Int) - 1) = (k : Nat) := by rw [hdk]; exact wrap64_in (by omega) (by have := HD5.out; omega)
 have hwk2 : wrap64 (k : Int) = (k : Nat) := by exact wrap64_in (by omega) (by have := HD5.out; omega)
 have HWK := Aside.mk (And.intro hdk (And.intro hwk hwk2))
 clear hd hk hdk hwk hwk2
 unfold BGoal
 go_enter Tryz.func65, Tryz.ntmps65
 go_wp2_with fail
 rw [← hW]
 clear hW
 refine (rArity_any _ W).mono ?_
 rintro e w2 ⟨rfl, rfl⟩
 rw [har]
 go_wp2_with fail
 refine (rArity_any _ _).mono ?_
 rintro e w3 ⟨rfl, rfl⟩
 rw [har]
 go_wp2_with fail
 try simp only [HWK.out.2.1]
 refine (HI.out _ g G _ w3 HGs.out.1 HM.out.row HM.out.raw).mono ?_
 rintro e w4 ⟨t, v', rfl, hok, hlen, ho, hkept, v2, e2, hr2, hraw2⟩
 have HT := Aside.mk (And.intro hok hlen)
 have HM2 := Aside.mk (And.intro (HM.out.kept.trans hkept) (And.intro hr2 hraw2))
 have HO := Aside.mk (ho.mono HM.out.kept.size)
 clear hkept hr2 hraw2 ho hok hlen
 obtain ⟨av, cv, rfl, -⟩ := HO.out.rd.out
 go_wp2_with fail
 try simp only [HWK.out.2.1]
 refine (HI.out _ g G _ w4 HGs.out.1 HM2.out.2.1 HM2.out.2.2).mono ?_
 rintro e w5 ⟨t', v'', rfl, hok, hlen, ho, hkept, v3, e3, hr2, hraw2⟩
 have HT' := Aside.mk (And.intro hok hlen)
 replace HO := Aside.mk (HO.out.kept hkept HGs.out.2.1).rd
 have HM3 := Aside.mk (And.intro (HM2.out.1.trans hkept) (And.intro hr2 hraw2))
 have HO' := Aside.mk ho.rd
 clear hkept hr2 hraw2 ho hok hlen
 obtain ⟨av', cv', rfl, -⟩ := HO'.out.out
 go_wp2_with fail
 refine (rBinary_any w5 Q _ _ (flat t) (flat t') HO.out (flat_ne t) HO'.out (flat_ne t') (pow_small2 (k := k) (by have := HD5.out; have := HK1.out.1; omega) HT.out.2 HT'.out.2)).mono ?_
 rintro e w6 ⟨v4, rfl, ho, hb⟩
 have HB := Aside.mk hb
 have HO5 := Aside.mk (ho.mono HM3.out.1.size)
 clear ho hb
 obtain ⟨LN, hLN⟩ : ∃ LN, (⟨Q, 0, 0, 0⟩ :: (flat t ++ flat t') : List Nd).length = LN := ⟨_, rfl⟩
 obtain ⟨av3, cv3, hv3, -⟩ := HO5.out.rd.out
 rw [hLN] at hv3
 subst hv3
 clear hLN
 go_wp2_with fail
 go_ret
 refine ⟨.bin Q t t', _, rfl, ?_⟩
 exact ⟨fun vars hv => ⟨HQ.out, HT.out.1 vars hv, HT'.out.1 vars hv⟩, pow_bin' HK1.out HT.out.2 HT'.out.2, HO5.out, HM3.out.1.trans (Kept.of HB.out), _, _, (HB.out.block _ (lt_of HM3.out.2.1)).trans HM3.out.2.1, HM3.out.2.2.below HB.out⟩
end
end Go.Proofs.YthcidkidpiaomaaGreatDoor.Od
end
section
set_option linter.unusedSectionVars false
set_option linter.unusedVariables false
set_option linter.unusedSimpArgs false
namespace Go.Proofs.YthcidkidpiaomaaGreatDoor.Od
open Go.RowKit Rg
section
variable (n d g G : Nat) (w W : World) (x : Nd) (r : List Nd) (c b o K : Nat) (X Y P E PE wd : Int)
 (HIH : Aside (2 ≤ d → BSpec n (d - 1))) (HNN : Aside (1 ≤ n ∧ n ≤ 6)) (HD5 : Aside (d ≤ 5)) (k0 : w.cell? ⟨b, o, none⟩ = some (.int .i64 x.op)) (k1 : w.cell? ⟨b, o + 1, none⟩ = some (.int .i64 x.n)) (k2 : w.cell? ⟨b, o + 2, none⟩ = some (.int .i64 x.lo)) (k3 : w.cell? ⟨b, o + 3, none⟩ = some (.int .i64 x.hi))
 (hX : bits .and .i64 x.op 255 = X) (hY : X.tmod 10 = Y) (hP : bits .and .i64 x.n 255 = P) (hE : bits .and .i64 x.n 1 = E) (hPEw : wrap64 (P * E) = PE) (hwd : wrap64 (1 + PE) = wd) (HWD : Aside (1 ≤ wd ∧ wd ≤ 256)) (HP : Aside (0 ≤ P ∧ P ≤ 255)) (HGs : Aside (G ≤ g ∧ g < w.heap.size ∧ b < G))
 (c0 : w.cell? ⟨g, 0, none⟩ = some (.slice (some ⟨b, o, none⟩) K c)) (hfz : w.frozen? ⟨g, 0, none⟩ = false) (hK0 : ((K : Int) == 0) = false) (hK2 : (0 : Int) < (K : Int)) (hK3 : (1 : Int) ≤ (K : Int)) (hcK : (K : Int) ≤ ((c : Nat) : Int)) (hgl : g < w.heap.size) (hc1 : ¬ c = 1) (hc3 : ¬ c - 1 = 0) (hc4 : (1 : Int) < (c : Int))
 (HM : Aside (BMid w W g G n (.slice (some ⟨b, o + 4, none⟩) (K - 1) (c - 1)) r x)) (hW : W = (w.setCell ⟨g, 0, none⟩ (.slice (some ⟨b, o + 4, none⟩) (K - 1) (c - 1))).alloc (.cells #[.int .i64 x.op, .int .i64 x.n, .int .i64 x.lo, .int .i64 x.hi] 79))
include HIH HNN HD5 k0 k1 k2 k3 hX hY hP hE hPEw hwd HWD HP HGs c0 hfz hK0 hK2 hK3 hcK hgl hc1 hc3 hc4 HM hW
set_option maxRecDepth 100000 in
set_option maxHeartbeats 4000000 in
theorem build_q1_more (hQ : wrap64 (1 + Y) = 1)  : BGoal n d g G w := by
 unfold BGoal
 go_enter Tryz.func65, Tryz.ntmps65
 go_wp2_with fail
 rw [← hW]
 clear hW
 refine (rNear_any x.lo x.hi wd HWD.out.1 HWD.out.2 _).mono ?_
 rintro e w3 ⟨a, rfl, ha, hb2⟩
 have HA := Aside.mk ha
 have HB2 := Aside.mk hb2
 clear hb2 ha
 go_wp2_with fail
 refine (rConst_any a w3).mono ?_
 rintro e w4 ⟨v', rfl, ho, hb3⟩
 have HO := Aside.mk (ho.mono (Nat.le_trans HM.out.kept.size HB2.out.size))
 have HB3 := Aside.mk (HB2.out.trans (hb3.mono HB2.out.size))
 clear hb3 ho
 obtain ⟨av, cv, rfl, -⟩ := HO.out.rd.out
 go_wp2_with fail
 go_ret
 refine ⟨.num a.1 a.2, _, rfl, ?_⟩
 exact ⟨okI_num HA.out, pow_leaf d, HO.out, HM.out.kept.trans (Kept.of HB3.out), _, _, (HB3.out.block _ (lt_of HM.out.row)).trans HM.out.row, HM.out.raw.below HB3.out⟩
set_option maxRecDepth 100000 in
set_option maxHeartbeats 4000000 in
theorem build_q2_more (hQ : wrap64 (1 + Y) = 2)  : BGoal n d g G w := by
 have har : arity 2 = 0 := rfl
 unfold BGoal
 go_enter Tryz.func65, Tryz.ntmps65
 go_wp2_with fail
 rw [← hW]
 clear hW
 refine (rArity_any _ W).mono ?_
 rintro e w2 ⟨rfl, rfl⟩
 rw [har]
 have d1 : w2.cell? ⟨w.heap.size, 1, none⟩ = some (.int .i64 x.n) := by rw [cell_of_row _ _ 1 _ _ _ HM.out.nd]; rfl
 have e1 : w2.cell? ⟨g, 1, none⟩ = some (.int .i64 (n : Nat)) := by rw [cell_of_row _ _ 1 _ _ _ HM.out.row]; rfl
 have hnz : (n : Int) ≠ 0 := by have := HNN.out.1; omega
 obtain ⟨m, hM⟩ : ∃ m : Nat, P.tmod (n : Int) = m := ⟨(P.tmod (n : Int)).toNat, by rw [Int.tmod_eq_emod_of_nonneg HP.out.1]; have := Int.emod_nonneg P hnz; omega⟩
 have hM0 : Aside ((m : Int) < n) := ⟨by
  rw [← hM, Int.tmod_eq_emod_of_nonneg HP.out.1]
  exact Int.emod_lt_of_pos _ (by omega)⟩
 obtain ⟨gx, hgx⟩ : ∃ gx, w.heap.size = gx := ⟨_, rfl⟩
 have HGX := Aside.mk hgx
 rw [hgx] at d1
 simp only [hgx]
 clear hgx
 go_wp2_with fail
 go_region
 go_wp2_with fail
 go_ret
 have hsz := HM.out.kept.size
 have hal : Below w2.heap.size w2 (w2.alloc (.cells #[.int .i64 2, .int .i64 (m : Nat), .int .i64 0, .int .i64 0] 79)).drew := ((Below.refl _ _).alloc (Nat.le_refl _) _).drew
 exact ⟨.var m, _, rfl, fun vars hv => by show m < vars.length; have := hM0.out; omega, pow_leaf d, own_one (x := ⟨2, m, 0, 0⟩) (heap_alloc_last w2 _) (by rw [← HGX.out] at *; exact hsz) rfl, HM.out.kept.trans (Kept.of hal), _, _, (hal.block _ (lt_of HM.out.row)).trans HM.out.row, HM.out.raw.below hal⟩
set_option maxRecDepth 100000 in
set_option maxHeartbeats 4000000 in
theorem build_q3_more (hQ : wrap64 (1 + Y) = 3)  : BGoal n d g G w := by
 have har : arity 3 = 0 := rfl
 unfold BGoal
 go_enter Tryz.func65, Tryz.ntmps65
 go_wp2_with fail
 rw [← hW]
 clear hW
 refine (rArity_any _ W).mono ?_
 rintro e w2 ⟨rfl, rfl⟩
 rw [har]
 go_wp2_with fail
 go_ret
 have hsz := HM.out.kept.size
 have hal : Below w2.heap.size w2 (w2.alloc (.cells #[.int .i64 3, .int .i64 0, .int .i64 0, .int .i64 0] 79)) := (Below.refl _ _).alloc (Nat.le_refl _) _
 exact ⟨.time, _, rfl, fun vars hv => trivial, pow_leaf d, own_one (x := ⟨3, 0, 0, 0⟩) (heap_alloc_last w2 _) hsz rfl, HM.out.kept.trans (Kept.of hal), _, _, (hal.block _ (lt_of HM.out.row)).trans HM.out.row, HM.out.raw.below hal⟩
set_option maxRecDepth 100000 in
set_option maxHeartbeats 4000000 in
theorem build_q4c_more (Q : Int) (hQ : wrap64 (1 + Y) = Q) (hq : 4 ≤ Q ∧ Q ≤ 6) (hd : d < 2) : BGoal n d g G w := by
 have har : arity Q = 1 := by unfold arity; rw [if_neg (by omega), if_pos hq]
 have hne1 : (Q == 1) = false := by simp; omega
 have hne2 : (Q == 2) = false := by simp; omega
 have hne3 : (Q == 3) = false := by simp; omega
 have HQ := Aside.mk hq
 clear hq
 have hdi : (d : Int) < 2 := by omega
 clear hd
 unfold BGoal
 go_enter Tryz.func65, Tryz.ntmps65
 go_wp2_with fail
 rw [← hW]
 clear hW
 refine (rArity_any _ W).mono ?_
 rintro e w2 ⟨rfl, rfl⟩
 rw [har]
 have d1 : w2.cell? ⟨w.heap.size, 1, none⟩ = some (.int .i64 x.n) := by rw [cell_of_row _ _ 1 _ _ _ HM.out.nd]; rfl
 have d2 : w2.cell? ⟨w.heap.size, 2, none⟩ = some (.int .i64 x.lo) := by rw [cell_of_row _ _ 2 _ _ _ HM.out.nd]; rfl
 have d3 : w2.cell? ⟨w.heap.size, 3, none⟩ = some (.int .i64 x.hi) := by rw [cell_of_row _ _ 3 _ _ _ HM.out.nd]; rfl
 go_wp2_with fail
 refine (rNear_any x.lo x.hi wd HWD.out.1 HWD.out.2 _).mono ?_
 rintro e w3 ⟨a, rfl, ha, hb2⟩
 have HA := Aside.mk ha
 have HB2 := Aside.mk hb2
 clear hb2 ha
 go_wp2_with fail
 refine (rConst_any a w3).mono ?_
 rintro e w4 ⟨v', rfl, ho, hb3⟩
 have HO := Aside.mk (ho.mono (Nat.le_trans HM.out.kept.size HB2.out.size))
 have HB3 := Aside.mk (HB2.out.trans (hb3.mono HB2.out.size))
 clear hb3 ho
 obtain ⟨av, cv, rfl, -⟩ := HO.out.rd.out
 go_wp2_with fail
 go_ret
 refine ⟨.num a.1 a.2, _, rfl, ?_⟩
 exact ⟨okI_num HA.out, pow_leaf d, HO.out, HM.out.kept.trans (Kept.of HB3.out), _, _, (HB3.out.block _ (lt_of HM.out.row)).trans HM.out.row, HM.out.raw.below HB3.out⟩
set_option maxRecDepth 100000 in
set_option maxHeartbeats 4000000 in
theorem build_q4r_more (Q : Int) (hQ : wrap64 (1 + Y) = Q) (hq : 4 ≤ Q ∧ Q ≤ 6) (hd : ¬ d < 2) : BGoal n d g G w := by
 have har : arity Q = 1 := by unfold arity; rw [if_neg (by omega), if_pos hq]
 have hne1 : (Q == 1) = false := by simp; omega
 have hne2 : (Q == 2) = false := by simp; omega
 have hne3 : (Q == 3) = false := by simp; omega
 have HQ := Aside.mk hq
 clear hq
 obtain ⟨k, hk⟩ : ∃ k, d = k + 1 := ⟨d - 1, by omega⟩
 have HK1 : Aside (d = k + 1 ∧ 1 ≤ k) := ⟨by omega⟩
 have HI : Aside (BSpec n k) := ⟨by have := HIH.out (by omega); rw [hk] at this; exact this⟩
 have hdk : (d : Int) - 1 = (k : Nat) := by omega
 have hdi : ¬ (d : Int) < 2 := by omega
 have hwk : wrap64 ((d : Int) - 1) = (k : Nat) := by rw [hdk]; exact wrap64_in (by omega) (by have := HD5.out; omega)
 have hwk2 : wrap64 (k : Int) = (k : Nat) := by exact wrap64_in (by omega) (by have := HD5.out; omega)
 have HWK := Aside.mk (And.intro hdk (And.intro hwk hwk2))
 clear hd hk hdk hwk hwk2
 unfold BGoal
 go_enter Tryz.func65, Tryz.ntmps65
 go_wp2_with fail
 rw [← hW]
 clear hW
 refine (rArity_any _ W).mono ?_
 rintro e w2 ⟨rfl, rfl⟩
 rw [har]
 go_wp2_with fail
 refine (rArity_any _ _).mono ?_
 rintro e w3 ⟨rfl, rfl⟩
 rw [har]
 go_wp2_with fail
 try simp only [HWK.out.2.1]
 refine (HI.out _ g G _ w3 HGs.out.1 HM.out.row HM.out.raw).mono ?_
 rintro e w4 ⟨t, v', rfl, hok, hlen, ho, hkept, v2, e2, hr2, hraw2⟩
 have HT := Aside.mk (And.intro hok hlen)
 have HM2 := Aside.mk (And.intro (HM.out.kept.trans hkept) (And.intro hr2 hraw2))
 have HO := Aside.mk ho.rd
 clear hkept hr2 hraw2 ho hok hlen
 obtain ⟨av, cv, rfl, -⟩ := HO.out.out
 go_wp2_with fail
 refine (rUnary_any w4 Q _ (flat t) HO.out (flat_ne t) (pow_small (k := k) (by have := HD5.out; have := HK1.out.1; omega) HT.out.2)).mono ?_
 rintro e w5 ⟨v3, rfl, ho, hb⟩
 have HB := Aside.mk hb
 have HO5 := Aside.mk (ho.mono HM2.out.1.size)
 clear ho hb
 obtain ⟨LN, hLN⟩ : ∃ LN, (⟨Q, 0, 0, 0⟩ :: flat t : List Nd).length = LN := ⟨_, rfl⟩
 obtain ⟨av3, cv3, hv3, -⟩ := HO5.out.rd.out
 rw [hLN] at hv3
 subst hv3
 clear hLN
 go_wp2_with fail
 go_ret
 refine ⟨.un Q t, _, rfl, ?_⟩
 exact ⟨fun vars hv => ⟨HQ.out, HT.out.1 vars hv⟩, pow_un' HK1.out HT.out.2, HO5.out, HM2.out.1.trans (Kept.of HB.out), _, _, (HB.out.block _ (lt_of HM2.out.2.1)).trans HM2.out.2.1, HM2.out.2.2.below HB.out⟩
set_option maxRecDepth 100000 in
set_option maxHeartbeats 4000000 in
theorem build_q7c_more (Q : Int) (hQ : wrap64 (1 + Y) = Q) (hq : 7 ≤ Q ∧ Q ≤ 10) (hd : d < 2) : BGoal n d g G w := by
 have har : arity Q = 2 := by unfold arity; rw [if_neg (by omega), if_neg (by omega), if_pos hq]
 have hne1 : (Q == 1) = false := by simp; omega
 have hne2 : (Q == 2) = false := by simp; omega
 have hne3 : (Q == 3) = false := by simp; omega
 have HQ := Aside.mk hq
 clear hq
 have hdi : (d : Int) < 2 := by omega
 clear hd
 unfold BGoal
 go_enter Tryz.func65, Tryz.ntmps65
 go_wp2_with fail
 rw [← hW]
 clear hW
 refine (rArity_any _ W).mono ?_
 rintro e w2 ⟨rfl, rfl⟩
 rw [har]
 have d1 : w2.cell? ⟨w.heap.size, 1, none⟩ = some (.int .i64 x.n) := by rw [cell_of_row _ _ 1 _ _ _ HM.out.nd]; rfl
 have d2 : w2.cell? ⟨w.heap.size, 2, none⟩ = some (.int .i64 x.lo) := by rw [cell_of_row _ _ 2 _ _ _ HM.out.nd]; rfl
 have d3 : w2.cell? ⟨w.heap.size, 3, none⟩ = some (.int .i64 x.hi) := by rw [cell_of_row _ _ 3 _ _ _ HM.out.nd]; rfl
 go_wp2_with fail
 refine (rNear_any x.lo x.hi wd HWD.out.1 HWD.out.2 _).mono ?_
 rintro e w3 ⟨a, rfl, ha, hb2⟩
 have HA := Aside.mk ha
 have HB2 := Aside.mk hb2
 clear hb2 ha
 go_wp2_with fail
 refine (rConst_any a w3).mono ?_
 rintro e w4 ⟨v', rfl, ho, hb3⟩
 have HO := Aside.mk (ho.mono (Nat.le_trans HM.out.kept.size HB2.out.size))
 have HB3 := Aside.mk (HB2.out.trans (hb3.mono HB2.out.size))
 clear hb3 ho
 obtain ⟨av, cv, rfl, -⟩ := HO.out.rd.out
 go_wp2_with fail
 go_ret
 refine ⟨.num a.1 a.2, _, rfl, ?_⟩
 exact ⟨okI_num HA.out, pow_leaf d, HO.out, HM.out.kept.trans (Kept.of HB3.out), _, _, (HB3.out.block _ (lt_of HM.out.row)).trans HM.out.row, HM.out.raw.below HB3.out⟩
set_option maxRecDepth 100000 in
set_option maxHeartbeats 4000000 in
theorem build_q7r_more (Q : Int) (hQ : wrap64 (1 + Y) = Q) (hq : 7 ≤ Q ∧ Q ≤ 10) (hd : ¬ d < 2) : BGoal n d g G w := by
 have har : arity Q = 2 := by unfold arity; rw [if_neg (by omega), if_neg (by omega), if_pos hq]
 have hne1 : (Q == 1) = false := by simp; omega
 have hne2 : (Q == 2) = false := by simp; omega
 have hne3 : (Q == 3) = false := by simp; omega
 have HQ := Aside.mk hq
 clear hq
 obtain ⟨k, hk⟩ : ∃ k, d = k + 1 := ⟨d - 1, by omega⟩
 have HK1 : Aside (d = k + 1 ∧ 1 ≤ k) := ⟨by omega⟩
 have HI : Aside (BSpec n k) := ⟨by have := HIH.out (by omega); rw [hk] at this; exact this⟩
 have hdk : (d : Int) - 1 = (k : Nat) := by omega
 have hdi : ¬ (d : Int) < 2 := by omega
 have hwk : wrap64 ((d : Int) - 1) = (k : Nat) := by rw [hdk]; exact wrap64_in (by omega) (by have := HD5.out; omega)
 have hwk2 : wrap64 (k : Int) = (k : Nat) := by exact wrap64_in (by omega) (by have := HD5.out; omega)
 have HWK := Aside.mk (And.intro hdk (And.intro hwk hwk2))
 clear hd hk hdk hwk hwk2
 unfold BGoal
 go_enter Tryz.func65, Tryz.ntmps65
 go_wp2_with fail
 rw [← hW]
 clear hW
 refine (rArity_any _ W).mono ?_
 rintro e w2 ⟨rfl, rfl⟩
 rw [har]
 go_wp2_with fail
 refine (rArity_any _ _).mono ?_
 rintro e w3 ⟨rfl, rfl⟩
 rw [har]
 go_wp2_with fail
 try simp only [HWK.out.2.1]
 refine (HI.out _ g G _ w3 HGs.out.1 HM.out.row HM.out.raw).mono ?_
 rintro e w4 ⟨t, v', rfl, hok, hlen, ho, hkept, v2, e2, hr2, hraw2⟩
 have HT := Aside.mk (And.intro hok hlen)
 have HM2 := Aside.mk (And.intro (HM.out.kept.trans hkept) (And.intro hr2 hraw2))
 have HO := Aside.mk (ho.mono HM.out.kept.size)
 clear hkept hr2 hraw2 ho hok hlen
 obtain ⟨av, cv, rfl, -⟩ := HO.out.rd.out
 go_wp2_with fail
 try simp only [HWK.out.2.1]
 refine (HI.out _ g G _ w4 HGs.out.1 HM2.out.2.1 HM2.out.2.2).mono ?_
 rintro e w5 ⟨t', v'', rfl, hok, hlen, ho, hkept, v3, e3, hr2, hraw2⟩
 have HT' := Aside.mk (And.intro hok hlen)
 replace HO := Aside.mk (HO.out.kept hkept HGs.out.2.1).rd
 have HM3 := Aside.mk (And.intro (HM2.out.1.trans hkept) (And.intro hr2 hraw2))
 have HO' := Aside.mk ho.rd
 clear hkept hr2 hraw2 ho hok hlen
 obtain ⟨av', cv', rfl, -⟩ := HO'.out.out
 go_wp2_with fail
 refine (rBinary_any w5 Q _ _ (flat t) (flat t') HO.out (flat_ne t) HO'.out (flat_ne t') (pow_small2 (k := k) (by have := HD5.out; have := HK1.out.1; omega) HT.out.2 HT'.out.2)).mono ?_
 rintro e w6 ⟨v4, rfl, ho, hb⟩
 have HB := Aside.mk hb
 have HO5 := Aside.mk (ho.mono HM3.out.1.size)
 clear ho hb
 obtain ⟨LN, hLN⟩ : ∃ LN, (⟨Q, 0, 0, 0⟩ :: (flat t ++ flat t') : List Nd).length = LN := ⟨_, rfl⟩
 obtain ⟨av3, cv3, hv3, -⟩ := HO5.out.rd.out
 rw [hLN] at hv3
 subst hv3
 clear hLN
 go_wp2_with fail
 go_ret
 refine ⟨.bin Q t t', _, rfl, ?_⟩
 exact ⟨fun vars hv => ⟨HQ.out, HT.out.1 vars hv, HT'.out.1 vars hv⟩, pow_bin' HK1.out HT.out.2 HT'.out.2, HO5.out, HM3.out.1.trans (Kept.of HB.out), _, _, (HB.out.block _ (lt_of HM3.out.2.1)).trans HM3.out.2.1, HM3.out.2.2.below HB.out⟩
end
end Go.Proofs.YthcidkidpiaomaaGreatDoor.Od
end
section
set_option linter.unusedVariables false
set_option linter.unusedSimpArgs false
namespace Go.Proofs.YthcidkidpiaomaaGreatDoor.Od
open Go.RowKit Rg
set_option maxRecDepth 100000 in
set_option maxHeartbeats 16000000 in
theorem build_step (n d : Nat) (hn : 1 ≤ n ∧ n ≤ 6) (ih : 2 ≤ d → BSpec n (d - 1)) (hd5 : d ≤ 5) : BSpec n d := by
  intro e g G v w hG hr h
  cases e with
  | nil => exact build_nil n d g G v w hG hr h
  | cons x r =>
    have HIH := Aside.mk ih
    have HNN := Aside.mk hn
    have HD5 := Aside.mk hd5
    have HN := Aside.mk h
    have hgl := lt_of hr
    obtain ⟨ao, c, rfl, h1, h2, h3, -⟩ := h
    obtain ⟨b, o, rfl, hbG, hc⟩ := h3 0 x rfl
    have k0 : w.cell? ⟨b, o, none⟩ = some (.int .i64 x.op) := hc 0 _ rfl
    have k1 : w.cell? ⟨b, o + 1, none⟩ = some (.int .i64 x.n) := hc 1 _ rfl
    have k2 : w.cell? ⟨b, o + 2, none⟩ = some (.int .i64 x.lo) := hc 2 _ rfl
    have k3 : w.cell? ⟨b, o + 3, none⟩ = some (.int .i64 x.hi) := hc 3 _ rfl
    obtain ⟨K, hK⟩ : ∃ K, (x :: r).length = K := ⟨_, rfl⟩
    have hK1 : 1 ≤ K := by rw [← hK]; simp
    rw [hK] at h1 hr HN
    obtain ⟨X, hX, hX0, hX1⟩ := andb x.op 255 (by decide) (by decide)
    obtain ⟨Y, hY⟩ : ∃ Y, X.tmod 10 = Y := ⟨_, rfl⟩
    have hY0 : 0 ≤ Y ∧ Y ≤ 9 := by
      rw [← hY, Int.tmod_eq_emod_of_nonneg hX0]; omega
    obtain ⟨Q, hQ⟩ : ∃ Q, wrap64 (1 + Y) = Q := ⟨_, rfl⟩
    have hQ0 : 1 ≤ Q ∧ Q ≤ 10 := by rw [wrap64_in (by omega) (by omega)] at hQ; omega
    obtain ⟨P, hP, hP0, hP1⟩ := andb x.n 255 (by decide) (by decide)
    obtain ⟨E, hE, hE0, hE1⟩ := andb x.n 1 (by decide) (by decide)
    have hPE0 : 0 ≤ P * E ∧ P * E ≤ 255 := by
      rcases (show E = 0 ∨ E = 1 by omega) with e | e <;> rw [e] <;> omega
    obtain ⟨PE, hPE⟩ : ∃ PE, P * E = PE := ⟨_, rfl⟩
    rw [hPE] at hPE0
    have hPEw : wrap64 (P * E) = PE := by rw [hPE]; exact wrap64_in (by omega) (by omega)
    obtain ⟨wd, hwd⟩ : ∃ wd, wrap64 (1 + PE) = wd := ⟨_, rfl⟩
    have hwd0 : 1 ≤ wd ∧ wd ≤ 256 := by rw [wrap64_in (by omega) (by omega)] at hwd; omega
    have HR := Aside.mk hr
    have HWD := Aside.mk hwd0
    have HP := Aside.mk (And.intro hP0 hP1)
    have HGs := Aside.mk (And.intro hG (And.intro hgl hbG))
    have HK := Aside.mk hK
    have c0 : w.cell? ⟨g, 0, none⟩ = some (.slice (some ⟨b, o, none⟩) K c) := by rw [cell_of_row _ _ 0 _ _ _ hr]; rfl
    have hfz : w.frozen? ⟨g, 0, none⟩ = false := frozen_of_row _ _ 0 _ _ hr
    have hK0 : ((K : Int) == 0) = false := by simp; omega
    have hK2 : (0 : Int) < (K : Int) := by omega
    have hK3 : (1 : Int) ≤ (K : Int) := by omega
    have hcK : (K : Int) ≤ (c : Int) := by omega
    clear ih hn hd5 hc h3 hr hX0 hX1 hG hY0 hPE hPE0 hwd0 hP0 hP1 hE0 hE1
    have main : ∀ tl : Value, RawN G w tl r → (c = 1 ∧ tl = .slice (some ⟨b, o, none⟩) (K - 1) 0) ∨ (2 ≤ c ∧ tl = .slice (some ⟨b, o + 4, none⟩) (K - 1) (c - 1)) → BGoal n d g G w := by
      intro tl hraw htl
      have HRAW := Aside.mk hraw
      obtain ⟨W, hW⟩ : ∃ W, W = (w.setCell ⟨g, 0, none⟩ tl).alloc (.cells #[.int .i64 x.op, .int .i64 x.n, .int .i64 x.lo, .int .i64 x.hi] 79) := ⟨_, rfl⟩
      have hmid := bmid hW HR.out hraw HGs.out.1
      have HM := Aside.mk hmid
      clear hraw hmid
      rcases htl with ⟨hcx, rfl⟩ | ⟨hcx, rfl⟩
      · subst hcx
        rcases (show Q = 1 ∨ Q = 2 ∨ Q = 3 ∨ (4 ≤ Q ∧ Q ≤ 6) ∨ (7 ≤ Q ∧ Q ≤ 10) by omega) with rfl | rfl | rfl | hq | hq
        · exact build_q1_one n d g G w W x r b o K X Y P E PE wd HIH HNN HD5 k0 k1 k2 k3 hX hY hP hE hPEw hwd HWD HP HGs c0 hfz hK0 hK2 hK3 hcK hgl  HM hW  hQ
        · exact build_q2_one n d g G w W x r b o K X Y P E PE wd HIH HNN HD5 k0 k1 k2 k3 hX hY hP hE hPEw hwd HWD HP HGs c0 hfz hK0 hK2 hK3 hcK hgl  HM hW  hQ
        · exact build_q3_one n d g G w W x r b o K X Y P E PE wd HIH HNN HD5 k0 k1 k2 k3 hX hY hP hE hPEw hwd HWD HP HGs c0 hfz hK0 hK2 hK3 hcK hgl  HM hW  hQ
        · by_cases hd : d < 2
          · exact build_q4c_one n d g G w W x r b o K X Y P E PE wd HIH HNN HD5 k0 k1 k2 k3 hX hY hP hE hPEw hwd HWD HP HGs c0 hfz hK0 hK2 hK3 hcK hgl  HM hW Q hQ hq hd
          · exact build_q4r_one n d g G w W x r b o K X Y P E PE wd HIH HNN HD5 k0 k1 k2 k3 hX hY hP hE hPEw hwd HWD HP HGs c0 hfz hK0 hK2 hK3 hcK hgl  HM hW Q hQ hq hd
        · by_cases hd : d < 2
          · exact build_q7c_one n d g G w W x r b o K X Y P E PE wd HIH HNN HD5 k0 k1 k2 k3 hX hY hP hE hPEw hwd HWD HP HGs c0 hfz hK0 hK2 hK3 hcK hgl  HM hW Q hQ hq hd
          · exact build_q7r_one n d g G w W x r b o K X Y P E PE wd HIH HNN HD5 k0 k1 k2 k3 hX hY hP hE hPEw hwd HWD HP HGs c0 hfz hK0 hK2 hK3 hcK hgl  HM hW Q hQ hq hd
      · have hc1 : ¬ c = 1 := by omega
        have hc3 : ¬ c - 1 = 0 := by omega
        have hc4 : (1 : Int) < (c : Int) := by omega
        rcases (show Q = 1 ∨ Q = 2 ∨ Q = 3 ∨ (4 ≤ Q ∧ Q ≤ 6) ∨ (7 ≤ Q ∧ Q ≤ 10) by omega) with rfl | rfl | rfl | hq | hq
        · exact build_q1_more n d g G w W x r c b o K X Y P E PE wd HIH HNN HD5 k0 k1 k2 k3 hX hY hP hE hPEw hwd HWD HP HGs c0 hfz hK0 hK2 hK3 hcK hgl hc1 hc3 hc4 HM hW  hQ
        · exact build_q2_more n d g G w W x r c b o K X Y P E PE wd HIH HNN HD5 k0 k1 k2 k3 hX hY hP hE hPEw hwd HWD HP HGs c0 hfz hK0 hK2 hK3 hcK hgl hc1 hc3 hc4 HM hW  hQ
        · exact build_q3_more n d g G w W x r c b o K X Y P E PE wd HIH HNN HD5 k0 k1 k2 k3 hX hY hP hE hPEw hwd HWD HP HGs c0 hfz hK0 hK2 hK3 hcK hgl hc1 hc3 hc4 HM hW  hQ
        · by_cases hd : d < 2
          · exact build_q4c_more n d g G w W x r c b o K X Y P E PE wd HIH HNN HD5 k0 k1 k2 k3 hX hY hP hE hPEw hwd HWD HP HGs c0 hfz hK0 hK2 hK3 hcK hgl hc1 hc3 hc4 HM hW Q hQ hq hd
          · exact build_q4r_more n d g G w W x r c b o K X Y P E PE wd HIH HNN HD5 k0 k1 k2 k3 hX hY hP hE hPEw hwd HWD HP HGs c0 hfz hK0 hK2 hK3 hcK hgl hc1 hc3 hc4 HM hW Q hQ hq hd
        · by_cases hd : d < 2
          · exact build_q7c_more n d g G w W x r c b o K X Y P E PE wd HIH HNN HD5 k0 k1 k2 k3 hX hY hP hE hPEw hwd HWD HP HGs c0 hfz hK0 hK2 hK3 hcK hgl hc1 hc3 hc4 HM hW Q hQ hq hd
          · exact build_q7r_more n d g G w W x r c b o K X Y P E PE wd HIH HNN HD5 k0 k1 k2 k3 hX hY hP hE hPEw hwd HWD HP HGs c0 hfz hK0 hK2 hK3 hcK hgl hc1 hc3 hc4 HM hW Q hQ hq hd
    by_cases hc1 : c = 1
    · refine main (.slice (some ⟨b, o, none⟩) (K - 1) 0) ?_ (Or.inl ⟨hc1, rfl⟩)
      have hr0 : r = [] := by
        have := HK.out
        cases r with
        | nil => rfl
        | cons y z => simp at this; omega
      have hk : K = 1 := by have := HK.out; rw [hr0] at this; simpa using this.symm
      rw [hr0, hk]
      exact ⟨_, _, rfl, Nat.le_refl _, Nat.zero_le _, fun i y hy => by simp at hy, fun e => by cases e⟩
    · exact main _ HN.out.tail (Or.inr ⟨by omega, rfl⟩)
theorem build_any (n : Nat) (hn : 1 ≤ n ∧ n ≤ 6) : ∀ d, d ≤ 5 → BSpec n d
  | 0, h => build_step n 0 hn (fun e => by omega) h
  | d + 1, h => build_step n (d + 1) hn (fun _ => build_any n hn d (by omega)) h
theorem RawN.take {G : Nat} {w : World} {ao : Option Addr} {L c : Nat} {e : List Nd} (h : RawN G w (.slice ao L c) e) (m : Nat) (hm : m ≤ L) : RawN G w (.slice ao m c) (e.take m) := by
  obtain ⟨ao', c', hv, h1, h2, h3, h4⟩ := h
  injection hv with e1 e2 e3
  subst e1; subst e2; subst e3
  have hl : (e.take m).length = m := by rw [List.length_take]; omega
  refine ⟨ao, c, by rw [hl], by omega, h2, fun i x hx => h3 i x ?_, h4⟩
  rw [List.getElem?_take] at hx
  split at hx
  · exact hx
  · cases hx
set_option maxRecDepth 100000 in
set_option maxHeartbeats 8000000 in
theorem rMade_any (v : Value) (e : List Nd) (most n : Nat) (hn : 1 ≤ n ∧ n ≤ 6) (w : World) (G : Nat) (hG : G ≤ w.heap.size) (h : RawN G w v e) :
    Calls Tryz.prog 19 #[v, .int .i64 (most : Nat), .int .i64 (n : Nat)] w fun e' w' => ∃ t v', e' = .returned v' ∧ okN n t ∧ (flat t).length ≤ 31 ∧ OwnN w.heap.size w' v' (flat t) ∧ Below w.heap.size w w' := by
  have HN := Aside.mk hn
  obtain ⟨ao, c, rfl, h1, h2, -, h4⟩ := id h
  obtain ⟨L, hL⟩ : ∃ L, e.length = L := ⟨_, rfl⟩
  rw [hL] at h h1
  obtain ⟨m, hm⟩ : ∃ m, min L most = m := ⟨_, rfl⟩
  have hmi : min (L : Int) (most : Int) = (m : Nat) := by rw [← hm]; omega
  have hmL : m ≤ L := by omega
  have HR := Aside.mk (h.take m hmL)
  have hm0 : (0 : Int) ≤ (m : Int) := by omega
  have hmc : (m : Int) ≤ (c : Int) := by omega
  have HAL : Aside (Below w.heap.size w (w.alloc (.cells #[.slice ao m c, .int .i64 (n : Nat)] 90))) := ⟨(Below.refl _ _).alloc (Nat.le_refl _) _⟩
  have HROW : Aside ((w.alloc (.cells #[.slice ao m c, .int .i64 (n : Nat)] 90)).heap[w.heap.size]? = some (.cells #[.slice ao m c, .int .i64 (n : Nat)] 90 (0, 0))) := ⟨heap_alloc_last _ _⟩
  have HG := Aside.mk hG
  rw [hL]
  clear hm hn h hL h1 hmL hG h4 h2
  go_enter Tryz.func19, Tryz.ntmps19
  go_wp2_with fail
  refine (build_any n HN.out 5 (Nat.le_refl _) _ w.heap.size G _ _ HG.out HROW.out (HR.out.below HAL.out)).mono ?_
  rintro e' w2 ⟨t, v', rfl, hok, hl, ho, hk, -⟩
  have HOK := Aside.mk (And.intro hok hl)
  have HO := Aside.mk (ho.mono HAL.out.size)
  have HB := Aside.mk (HAL.out.trans (hk.below (Nat.le_refl _) HAL.out.size))
  clear hok hl ho hk
  obtain ⟨av, cv, rfl, -⟩ := HO.out.rd.out
  go_wp2_with fail
  go_ret
  exact ⟨t, _, rfl, HOK.out.1, by have := HOK.out.2; simp at this; omega, HO.out, HB.out⟩
def n6 : List ByteArray := [⟨#[120]⟩, ⟨#[121]⟩, ⟨#[118, 120]⟩, ⟨#[118, 121]⟩, ⟨#[97, 49]⟩, ⟨#[122, 122]⟩]
end Go.Proofs.YthcidkidpiaomaaGreatDoor.Od
end
