/- Contracts of the reference's MadeEntry and Same. -/
import Derived.Test.YteljhjljigbcjaaGreatDoorCvK
import Derived.Test.YteljhjljigbcjaaGreatDoorRegT
import Derived.Test.YteljhjljigbcjaaGreatDoorCvR
import Derived.BigRegion
import Derived.BigQuiet
import Derived.IntWalk
import Derived.Deep.DeepCutAuto
set_option linter.unusedVariables false
set_option linter.unusedSimpArgs false
namespace Go.Proofs.YteljhjljigbcjaaGreatDoor.Cv
open Go.RowKit Rg

theorem pre_txt {w : World} {ad : Addr} {n cap : Nat} {L : List UInt8} (h : Txt w (.slice (some ad) n cap) L) (j : Nat) (hj : j ≤ L.length) : Txt w (.slice (some ad) j cap) (L.take j) := by
  obtain ⟨ao, cap', e, h0, h1, h2, hc⟩ := h
  cases e
  have hl : (L.take j).length = j := by simp; omega
  refine ⟨some ad, cap, by rw [hl], by simp, by rw [hl]; omega, h2, fun b hb i u hu => ?_⟩
  obtain rfl := Option.some.inj hb
  refine hc _ rfl i u ?_
  simp only [Lib.byteCells, List.map_take, List.getElem?_take] at hu
  split at hu
  · exact hu
  · cases hu
theorem and3 (k : Int) : ∃ m : Int, bits .and .i64 k 3 = m ∧ 0 ≤ m ∧ m ≤ 3 := by
  refine ⟨_, rfl, ?_⟩
  have e : bits .and .i64 k 3 = IntKind.i64.wrap (((BitVec.ofInt 64 k &&& BitVec.ofInt 64 3).toNat : Nat) : Int) := rfl
  rw [e, BitVec.toNat_and, show (BitVec.ofInt 64 3).toNat = 3 from by decide]
  have := Nat.and_le_right (n := (BitVec.ofInt 64 k).toNat) (m := 3)
  rw [IntKind.wrap_i64]
  omega

set_option maxRecDepth 100000 in
set_option maxHeartbeats 2000000 in
theorem Same_true (k : Int) (s : ByteArray) (u v : Value) (L : List UInt8) (w : World) (hu : Txt w u L) (hv : Txt w v L) :
    Calls Tryz.prog 21 #[entV k s u, entV k s v] w fun e w' => e = .returned (.bool true) ∧ Below w.heap.size w w' := by
  have hb : ∀ x y, Below w.heap.size w ((w.alloc x).alloc y) := fun x y => ((Below.refl _ _).alloc (Nat.le_refl _) _).alloc (by simp) _
  have cu : ∀ x y, (convert 22 9 u).run Tryz.prog ((w.alloc x).alloc y) = .ok (.string (str L)) ((w.alloc x).alloc y) := fun x y => conv_txt (hu.below (hb x y))
  have cv : ∀ x y, (convert 22 9 v).run Tryz.prog ((w.alloc x).alloc y) = .ok (.string (str L)) ((w.alloc x).alloc y) := fun x y => conv_txt (hv.below (hb x y))
  have HB := Aside.mk hb
  obtain ⟨a1, p1, hu1, -, -, -, -⟩ := hu
  obtain ⟨a2, p2, hv1, -, -, -, -⟩ := hv
  obtain ⟨n, hn⟩ : ∃ n, L.length = n := ⟨_, rfl⟩
  rw [hn] at hu1 hv1
  subst hu1
  subst hv1
  unfold entV
  clear hn hb
  go_enter Tryz.func21, Tryz.ntmps21
  go_wp2_with fail
  go_ret
  exact ⟨rfl, HB.out _ _⟩

set_option maxRecDepth 100000 in
set_option maxHeartbeats 2000000 in
theorem made_ok {m : Int} {L B : List UInt8} (m0 : 0 ≤ m) (m1 : m ≤ 3) (h1 : 1 ≤ L.length) (h2 : L.length ≤ 40) (h3 : B.length ≤ 60) : okE ⟨1 + m, L, B⟩ :=
  ⟨⟨by show 1 ≤ 1 + m; omega, by show 1 + m ≤ 4; omega⟩, ⟨h1, h2⟩, by show B.length ≤ 20000; omega⟩
theorem made_take {w : World} {ao : Option Addr} {n cap M : Nat} {B : List UInt8} (h : Txt w (.slice ao n cap) B) (hn : B.length = n) (h0 : ao = none → B.length = 0 ∧ cap = 0) (hM : M ≤ n) : Txt w (.slice ao M cap) (B.take M) := by
  rw [← hn] at h
  cases ao with
  | none =>
    obtain ⟨e1, rfl⟩ := h0 rfl
    have : M = 0 := by omega
    subst this
    exact Txt.nil w
  | some ad => exact pre_txt h M (by omega)
theorem arr29 (t : Array Value) (h : t.size = 29) : t = #[t.getD 0 undef, t.getD 1 undef, t.getD 2 undef, t.getD 3 undef, t.getD 4 undef, t.getD 5 undef, t.getD 6 undef, t.getD 7 undef, t.getD 8 undef, t.getD 9 undef, t.getD 10 undef, t.getD 11 undef, t.getD 12 undef, t.getD 13 undef, t.getD 14 undef, t.getD 15 undef, t.getD 16 undef, t.getD 17 undef, t.getD 18 undef, t.getD 19 undef, t.getD 20 undef, t.getD 21 undef, t.getD 22 undef, t.getD 23 undef, t.getD 24 undef, t.getD 25 undef, t.getD 26 undef, t.getD 27 undef, t.getD 28 undef] := by
  obtain ⟨l⟩ := t
  match l, h with
  | [x0, x1, x2, x3, x4, x5, x6, x7, x8, x9, x10, x11, x12, x13, x14, x15, x16, x17, x18, x19, x20, x21, x22, x23, x24, x25, x26, x27, x28], _ => rfl
structure MadeRel (w : World) (g1 : Nat) (m : Int) (n cap : Nat) (ao : Option Addr) (B : List UInt8) (v3 : Value) (wx : World) : Prop where
  out : ∃ (g2 M : Nat) (t : ByteArray), v3 = .pointer (some ⟨g2, 0, none⟩) ∧ Aside (w.heap.size ≤ g2 ∧ g1 ≠ g2 ∧ t.size ≤ 40 ∧ M ≤ 60 ∧ (B.take M).length = M ∧ M ≤ n ∧ Below w.heap.size w wx ∧ Txt w (.slice ao M cap) (B.take M)) ∧ Aside (wx.heap[g1]? = some (.cells #[.int .i64 0, .string ⟨#[]⟩, .slice none 0 0] 24 (0, 0))) ∧ Aside (wx.heap[g2]? = some (.cells #[.int .i64 (1 + m), .string t, .slice ao M cap] 24 (0, 0)))
theorem made_rel {w W w' : World} {g1 g2 : Nat} {m : Int} {n cap M : Nat} {t : ByteArray} {ao : Option Addr} {B : List UInt8} (h1 : w.heap.size ≤ W.heap.size) (h2 : g1 < W.heap.size) (h3 : Below w.heap.size w W)
    (h4 : W.heap[g1]? = some (.cells #[.int .i64 0, .string ⟨#[]⟩, .slice none 0 0] 24 (0, 0))) (hT : Txt w (.slice ao n cap) B) (hn : B.length = n) (h0 : ao = none → B.length = 0 ∧ cap = 0) (hb : Below W.heap.size W w') (hg : W.heap.size ≤ g2)
    (hr : w'.heap[g2]? = some (.cells #[.int .i64 0, .string ⟨#[]⟩, .slice none 0 0] 24 (0, 0))) (ht : t.size ≤ 40) (hM : M ≤ n ∧ M ≤ 60) :
    MadeRel w g1 m n cap ao B (.pointer (some ⟨g2, 0, none⟩)) (((w'.setCell ⟨g2, 0, none⟩ (.int .i64 (1 + m))).setCell ⟨g2, 1, none⟩ (.string t)).setCell ⟨g2, 2, none⟩ (.slice ao M cap)) := by
  have hbr : Below W.heap.size W (((w'.setCell ⟨g2, 0, none⟩ (.int .i64 (1 + m))).setCell ⟨g2, 1, none⟩ (.string t)).setCell ⟨g2, 2, none⟩ (.slice ao M cap)) := ((hb.setCell (p := ⟨g2, 0, none⟩) hg _).setCell (p := ⟨g2, 1, none⟩) hg _).setCell (p := ⟨g2, 2, none⟩) hg _
  refine ⟨g2, M, t, rfl, ⟨Nat.le_trans h1 hg, Nat.ne_of_lt (Nat.lt_of_lt_of_le h2 hg), ht, hM.2, ?_, hM.1, h3.trans (hbr.mono h1), made_take hT hn h0 hM.1⟩, ⟨?_⟩, ⟨?_⟩⟩
  · rw [List.length_take, hn]; omega
  · rw [hbr.block _ h2]; exact h4
  · exact set_row3 hr _ _ _
set_option maxRecDepth 100000 in
set_option maxHeartbeats 2000000 in
theorem MadeEntry_cut (k : Int) (s : ByteArray) (ao : Option Addr) (n cap : Nat) (B : List UInt8) (w : World) (h : Txt w (.slice ao n cap) B) (hn : B.length = n) :
    Calls Tryz.prog 19 #[entV k s (.slice ao n cap)] w fun e w' => Below w.heap.size w w' ∧ ∃ k' s' M, e = .returned (entV k' s' (.slice ao M cap)) ∧ okE ⟨k', s'.data.toList, B.take M⟩ ∧ M ≤ n ∧ M ≤ 60 := by
  obtain ⟨m, hm, m0, m1⟩ := and3 k
  have hT := Aside.mk h
  obtain ⟨ao', cap', he, h0, h1, h2, -⟩ := h
  cases he
  have H0 := Aside.mk h0
  clear h0
  obtain ⟨n, hn⟩ : ∃ n, B.length = n := ⟨_, rfl⟩
  rw [hn] at h1 hT
  have HN := Aside.mk hn
  unfold entV
  rw [hn]
  clear hn
  go_enter Tryz.func19, Tryz.ntmps19
  go_upto_region 1 with fail
  have q0 : ((w.alloc (.cells #[.int .i64 k, .string s, .slice ao n cap] 24)).alloc (.cells #[.int .i64 0, .string ⟨#[]⟩, .slice none 0 0] 24)).heap[w.heap.size]? = some (.cells #[.int .i64 k, .string s, .slice ao n cap] 24 (0, 0)) := by rw [Below.heap_alloc _ _ _ (by simp)]; exact heap_alloc_last _ _
  have q1 : ((w.alloc (.cells #[.int .i64 k, .string s, .slice ao n cap] 24)).alloc (.cells #[.int .i64 0, .string ⟨#[]⟩, .slice none 0 0] 24)).heap[w.heap.size + 1]? = some (.cells #[.int .i64 0, .string ⟨#[]⟩, .slice none 0 0] 24 (0, 0)) := by
    have := heap_alloc_last (w.alloc (.cells #[.int .i64 k, .string s, .slice ao n cap] 24)) (.cells #[.int .i64 0, .string ⟨#[]⟩, .slice none 0 0] 24)
    simpa using this
  have hbw : Below w.heap.size w ((w.alloc (.cells #[.int .i64 k, .string s, .slice ao n cap] 24)).alloc (.cells #[.int .i64 0, .string ⟨#[]⟩, .slice none 0 0] 24)) := ((Below.refl _ _).alloc (Nat.le_refl _) _).alloc (by simp) _
  generalize (w.alloc (.cells #[.int .i64 k, .string s, .slice ao n cap] 24)).alloc (.cells #[.int .i64 0, .string ⟨#[]⟩, .slice none 0 0] 24) = W at q0 q1 hbw ⊢
  obtain ⟨g0, hg0⟩ : ∃ g, w.heap.size = g := ⟨_, rfl⟩
  obtain ⟨g1, hg1⟩ : ∃ g, g0 + 1 = g := ⟨_, rfl⟩
  simp only [hg0] at q0 q1 ⊢
  simp only [hg1] at q1 ⊢
  have c0 : W.cell? ⟨g0, 0, none⟩ = some (.int .i64 k) := by rw [cell_of_row W _ 0 _ _ _ q0]; rfl
  have c1 : W.cell? ⟨g0, 1, none⟩ = some (.string s) := by rw [cell_of_row W _ 1 _ _ _ q0]; rfl
  have c2 : W.cell? ⟨g0, 2, none⟩ = some (.slice ao n cap) := by rw [cell_of_row W _ 2 _ _ _ q0]; rfl
  have HG : Aside (w.heap.size = g0 ∧ g0 + 1 = g1 ∧ g1 < W.heap.size) := ⟨hg0, hg1, lt_of_heap q1⟩
  have HQ1 := Aside.mk q1
  have HBW := Aside.mk hbw
  have hlt0 : g0 < W.heap.size := lt_of_heap q0
  clear q0 q1 hg0 hg1 hbw
  go_cut [3] (MadeRel w g1 m n cap ao B)
  case first J1 K1 hJ1 hK1 =>
    obtain ⟨J, hJ, hJ1⟩ : ∃ J : Nat, (if (40 : Int) < (s.size : Int) then 40 else (s.size : Int)) = J ∧ J ≤ s.size ∧ J ≤ 40 := ⟨min s.size 40, by split <;> omega, by omega, by omega⟩
    obtain ⟨M, hM, hM1⟩ : ∃ J : Nat, (if (60 : Int) < (n : Int) then 60 else (n : Int)) = J ∧ J ≤ n ∧ J ≤ 60 := ⟨min n 60, by split <;> omega, by omega, by omega⟩
    obtain ⟨t, ht⟩ : ∃ t, s.extract 0 J = t := ⟨_, rfl⟩
    have hM2 : M ≤ cap := by omega
    have HTS : Aside (t.size ≤ 40) := ⟨by rw [← ht, ByteArray.size_extract]; omega⟩
    have hm1 : IntKind.i64.wrap (1 + m) = 1 + m := IntWalk.i64_in _ (by omega)
    refine region_tail (T := tab2 [
      .val (.pointer (some ⟨g0, 0, none⟩)),
      .val (.int .i64 k),
      .val (.int .i64 m),
      .val (.int .i64 (1 + m)),
      .val (.pointer (some ⟨g0, 1, none⟩)),
      .val (.string s),
      .val (.pointer (some ⟨g0, 1, none⟩)),
      .val (.string s),
      .val (.int .i64 s.size),
      .val (.int .i64 J),
      .val (.string t),
      .val (.pointer (some ⟨g0, 2, none⟩)),
      .val (.slice ao n cap),
      .val (.pointer (some ⟨g0, 2, none⟩)),
      .val (.slice ao n cap),
      .val (.int .i64 n),
      .val (.int .i64 M),
      .val (.slice ao M cap),
      .val (.agg #[.int .i64 (1 + m), .string t, .slice ao M cap]),
      .new W.heap.size #[.int .i64 0, .string ⟨#[]⟩, .slice none 0 0] 24,
      .any])
      [_, _, _, _, _, _, _, _, _, _, _, _, _, _, _, _, _, _, _, _, _] _ (by kernel_rfl) (by kernel_rfl) (by kernel_rfl) (by kernel_rfl) rfl rfl ?_ ?_
    refine AllBut.cons ?_ ?_
    · intro a w hz hb ho hg
      have e1 : a.tmps.getD 1 undef = .pointer (some ⟨g0, 0, none⟩) := ho 1 (by kernel_rfl)
      refine Or.inl ⟨wanted_none rfl, wp_value hb.size (o := _) (w' := _) (v := _) (by simp [execOp, Act.eval, e1, go_sem]; done) (Below.refl _ _) rfl⟩
    refine AllBut.cons ?_ ?_
    · intro a w hz hb ho hg
      have e1 : a.tmps.getD 4 undef = .pointer (some ⟨g0, 0, none⟩) := got_of hg (j := 0) rfl rfl rfl
      have q := (hb.cell (p := ⟨g0, 0, none⟩) hlt0).trans c0
      refine Or.inl ⟨wanted_none rfl, wp_value hb.size (o := _) (w' := _) (v := _) (by simp [execOp, Act.eval, e1, q, go_sem]; done) (Below.refl _ _) rfl⟩
    refine AllBut.cons ?_ ?_
    · intro a w hz hb ho hg
      have e1 : a.tmps.getD 5 undef = .int .i64 k := got_of hg (j := 1) rfl rfl rfl
      refine Or.inl ⟨wanted_none rfl, wp_value hb.size (o := _) (w' := _) (v := _) (by simp [execOp, Act.eval, e1, hm, go_sem]; done) (Below.refl _ _) rfl⟩
    refine AllBut.cons ?_ ?_
    · intro a w hz hb ho hg
      have e1 : a.tmps.getD 6 undef = .int .i64 m := got_of hg (j := 2) rfl rfl rfl
      refine Or.inl ⟨wanted_none rfl, wp_value hb.size (o := _) (w' := _) (v := _) (by simp [execOp, Act.eval, e1, go_sem, hm1]; done) (Below.refl _ _) rfl⟩
    refine AllBut.cons ?_ ?_
    · intro a w hz hb ho hg
      have e1 : a.tmps.getD 1 undef = .pointer (some ⟨g0, 0, none⟩) := ho 1 (by kernel_rfl)
      refine Or.inl ⟨wanted_none rfl, wp_value hb.size (o := _) (w' := _) (v := _) (by simp [execOp, Act.eval, e1, go_sem]; done) (Below.refl _ _) rfl⟩
    refine AllBut.cons ?_ ?_
    · intro a w hz hb ho hg
      have e1 : a.tmps.getD 8 undef = .pointer (some ⟨g0, 1, none⟩) := got_of hg (j := 4) rfl rfl rfl
      have q := (hb.cell (p := ⟨g0, 1, none⟩) hlt0).trans c1
      refine Or.inl ⟨wanted_none rfl, wp_value hb.size (o := _) (w' := _) (v := _) (by simp [execOp, Act.eval, e1, q, go_sem]; done) (Below.refl _ _) rfl⟩
    refine AllBut.cons ?_ ?_
    · intro a w hz hb ho hg
      have e1 : a.tmps.getD 1 undef = .pointer (some ⟨g0, 0, none⟩) := ho 1 (by kernel_rfl)
      refine Or.inl ⟨wanted_none rfl, wp_value hb.size (o := _) (w' := _) (v := _) (by simp [execOp, Act.eval, e1, go_sem]; done) (Below.refl _ _) rfl⟩
    refine AllBut.cons ?_ ?_
    · intro a w hz hb ho hg
      have e1 : a.tmps.getD 10 undef = .pointer (some ⟨g0, 1, none⟩) := got_of hg (j := 6) rfl rfl rfl
      have q := (hb.cell (p := ⟨g0, 1, none⟩) hlt0).trans c1
      refine Or.inl ⟨wanted_none rfl, wp_value hb.size (o := _) (w' := _) (v := _) (by simp [execOp, Act.eval, e1, q, go_sem]; done) (Below.refl _ _) rfl⟩
    refine AllBut.cons ?_ ?_
    · intro a w hz hb ho hg
      have e1 : a.tmps.getD 11 undef = .string s := got_of hg (j := 7) rfl rfl rfl
      refine Or.inl ⟨wanted_none rfl, wp_value hb.size (o := _) (w' := _) (v := _) (by simp [execOp, Act.eval, e1, go_sem]; done) (Below.refl _ _) rfl⟩
    refine AllBut.cons ?_ ?_
    · intro a w hz hb ho hg
      have e1 : a.tmps.getD 12 undef = .int .i64 s.size := got_of hg (j := 8) rfl rfl rfl
      refine Or.inl ⟨wanted_none rfl, wp_value hb.size (o := _) (w' := _) (v := _) (by simp [execOp, Act.eval, e1, go_sem, hJ]; done) (Below.refl _ _) rfl⟩
    refine AllBut.cons ?_ ?_
    · intro a w hz hb ho hg
      have e1 : a.tmps.getD 9 undef = .string s := got_of hg (j := 5) rfl rfl rfl
      have e2 : a.tmps.getD 13 undef = .int .i64 J := got_of hg (j := 9) rfl rfl rfl
      refine Or.inl ⟨wanted_none rfl, wp_value hb.size (o := _) (w' := _) (v := _) (by simp [execOp, Act.eval, e1, e2, go_sem, hJ1, ht]; done) (Below.refl _ _) rfl⟩
    refine AllBut.cons ?_ ?_
    · intro a w hz hb ho hg
      have e1 : a.tmps.getD 1 undef = .pointer (some ⟨g0, 0, none⟩) := ho 1 (by kernel_rfl)
      refine Or.inl ⟨wanted_none rfl, wp_value hb.size (o := _) (w' := _) (v := _) (by simp [execOp, Act.eval, e1, go_sem]; done) (Below.refl _ _) rfl⟩
    refine AllBut.cons ?_ ?_
    · intro a w hz hb ho hg
      have e1 : a.tmps.getD 15 undef = .pointer (some ⟨g0, 2, none⟩) := got_of hg (j := 11) rfl rfl rfl
      have q := (hb.cell (p := ⟨g0, 2, none⟩) hlt0).trans c2
      refine Or.inl ⟨wanted_none rfl, wp_value hb.size (o := _) (w' := _) (v := _) (by simp [execOp, Act.eval, e1, q, go_sem]; done) (Below.refl _ _) rfl⟩
    refine AllBut.cons ?_ ?_
    · intro a w hz hb ho hg
      have e1 : a.tmps.getD 1 undef = .pointer (some ⟨g0, 0, none⟩) := ho 1 (by kernel_rfl)
      refine Or.inl ⟨wanted_none rfl, wp_value hb.size (o := _) (w' := _) (v := _) (by simp [execOp, Act.eval, e1, go_sem]; done) (Below.refl _ _) rfl⟩
    refine AllBut.cons ?_ ?_
    · intro a w hz hb ho hg
      have e1 : a.tmps.getD 17 undef = .pointer (some ⟨g0, 2, none⟩) := got_of hg (j := 13) rfl rfl rfl
      have q := (hb.cell (p := ⟨g0, 2, none⟩) hlt0).trans c2
      refine Or.inl ⟨wanted_none rfl, wp_value hb.size (o := _) (w' := _) (v := _) (by simp [execOp, Act.eval, e1, q, go_sem]; done) (Below.refl _ _) rfl⟩
    refine AllBut.cons ?_ ?_
    · intro a w hz hb ho hg
      have e1 : a.tmps.getD 18 undef = .slice ao n cap := got_of hg (j := 14) rfl rfl rfl
      refine Or.inl ⟨wanted_none rfl, wp_value hb.size (o := _) (w' := _) (v := _) (by simp [execOp, Act.eval, e1, go_sem]; done) (Below.refl _ _) rfl⟩
    refine AllBut.cons ?_ ?_
    · intro a w hz hb ho hg
      have e1 : a.tmps.getD 19 undef = .int .i64 n := got_of hg (j := 15) rfl rfl rfl
      refine Or.inl ⟨wanted_none rfl, wp_value hb.size (o := _) (w' := _) (v := _) (by simp [execOp, Act.eval, e1, go_sem, hM]; done) (Below.refl _ _) rfl⟩
    refine AllBut.cons ?_ ?_
    · intro a w hz hb ho hg
      have e1 : a.tmps.getD 16 undef = .slice ao n cap := got_of hg (j := 12) rfl rfl rfl
      have e2 : a.tmps.getD 20 undef = .int .i64 M := got_of hg (j := 16) rfl rfl rfl
      refine Or.inl ⟨wanted_none rfl, wp_value hb.size (o := _) (w' := _) (v := _) (by simp [execOp, Act.eval, e1, e2, go_sem, hM1, hM2]; done) (Below.refl _ _) rfl⟩
    refine AllBut.cons ?_ ?_
    · intro a w hz hb ho hg
      have e1 : a.tmps.getD 7 undef = .int .i64 (1 + m) := got_of hg (j := 3) rfl rfl rfl
      have e2 : a.tmps.getD 14 undef = .string t := got_of hg (j := 10) rfl rfl rfl
      have e3 : a.tmps.getD 21 undef = .slice ao M cap := got_of hg (j := 17) rfl rfl rfl
      have e1' : a.tmps[7]?.getD undef = .int .i64 (1 + m) := by simpa using e1
      have e2' : a.tmps[14]?.getD undef = .string t := by simpa using e2
      have e3' : a.tmps[21]?.getD undef = .slice ao M cap := by simpa using e3
      refine Or.inl ⟨wanted_none rfl, wp_value hb.size (o := _) (w' := _) (v := _) (by simp [execOp, Act.eval, e1', e2', e3', go_sem]; done) (Below.refl _ _) rfl⟩
    refine AllBut.cons ?_ ?_
    · intro a w hz hb ho hg
      refine Or.inl ⟨wanted_none rfl, wp_value hb.size (o := _) (w' := _) (v := _) (by simp [execOp, Act.eval, go_sem]; done) ((Below.refl _ _).alloc (Nat.le_refl _) _) ⟨_, hb.size, rfl, heap_alloc_last _ _⟩⟩
    exact AllBut.last
    intro a w' hd hz hb ho hg
    refine ⟨wanted_none rfl, ?_⟩
    obtain ⟨g2, hg2, e3, hrow⟩ : ∃ g, W.heap.size ≤ g ∧ a.tmps.getD 3 undef = .pointer (some ⟨g, 0, none⟩) ∧ w'.heap[g]? = some (.cells #[.int .i64 0, .string ⟨#[]⟩, .slice none 0 0] 24 (0, 0)) := hg 19 (by decide) _ _ rfl rfl
    have e2 : a.tmps.getD 22 undef = .agg #[.int .i64 (1 + m), .string t, .slice ao M cap] := hg 18 (by decide) _ _ rfl rfl
    have o1 : a.tmps.getD 1 undef = .pointer (some ⟨g0, 0, none⟩) := ho 1 (by kernel_rfl)
    have o0 : a.tmps.getD 0 undef = .agg #[.int .i64 k, .string s, .slice ao n cap] := ho 0 (by kernel_rfl)
    have o2 : a.tmps.getD 2 undef = .pointer (some ⟨g1, 0, none⟩) := ho 2 (by kernel_rfl)
    have q0 : w'.cell? ⟨g2, 0, none⟩ = some (.int .i64 0) := by rw [cell_of_row w' _ 0 _ _ _ hrow]; rfl
    have q1 : w'.cell? ⟨g2, 1, none⟩ = some (.string ⟨#[]⟩) := by rw [cell_of_row w' _ 1 _ _ _ hrow]; rfl
    have q2 : w'.cell? ⟨g2, 2, none⟩ = some (.slice none 0 0) := by rw [cell_of_row w' _ 2 _ _ _ hrow]; rfl
    have kf : ∀ i, w'.frozen? ⟨g2, i, none⟩ = false := fun i => by simp [World.frozen?, hrow]
    have k0 := kf 0
    have k1 := kf 1
    have k2 := kf 2
    have hA := arr29 a.tmps hz
    have HR := Aside.mk hrow
    have HH := Aside.mk hb
    clear kf hrow hb hg ho
    obtain ⟨tm, df⟩ := a
    simp only at hd
    subst hd
    simp only at hA e3 e2 o1 o0 o2
    rw [o0, o1, o2, e3] at hA
    rw [Array.getD_eq_getD_getElem?] at e3 e2
    unfold Oper.wp
    simp [execOp, Act.eval, e3, e2, q0, q1, q2, k0, k1, k2, go_sem]
    refine hK1 _ _ ?_
    rw [hA]
    go_meet
    exact made_rel (by have := HG.out; have := HBW.out.size; omega) HG.out.2.2 HBW.out HQ1.out hT.out HN.out H0.out HH.out hg2 HR.out HTS.out hM1
  case rest =>
    obtain ⟨⟨g2, M, t, rfl, HA, H1, H2⟩⟩ := hcut
    have c0 : wc.cell? ⟨g2, 0, none⟩ = some (.int .i64 (1 + m)) := by rw [cell_of_row wc _ 0 _ _ _ H2.out]; rfl
    have c1 : wc.cell? ⟨g2, 1, none⟩ = some (.string t) := by rw [cell_of_row wc _ 1 _ _ _ H2.out]; rfl
    have c2 : wc.cell? ⟨g2, 2, none⟩ = some (.slice ao M cap) := by rw [cell_of_row wc _ 2 _ _ _ H2.out]; rfl
    have f1 : wc.frozen? ⟨g2, 1, none⟩ = false := by simp [World.frozen?, H2.out]
    have d0 : wc.cell? ⟨g1, 0, none⟩ = some (.int .i64 0) := by rw [cell_of_row wc _ 0 _ _ _ H1.out]; rfl
    have d1 : wc.cell? ⟨g1, 1, none⟩ = some (.string ⟨#[]⟩) := by rw [cell_of_row wc _ 1 _ _ _ H1.out]; rfl
    have d2 : wc.cell? ⟨g1, 2, none⟩ = some (.slice none 0 0) := by rw [cell_of_row wc _ 2 _ _ _ H1.out]; rfl
    have kf : ∀ i, wc.frozen? ⟨g1, i, none⟩ = false := fun i => by simp [World.frozen?, H1.out]
    have k0 := kf 0
    have k1 := kf 1
    have k2 := kf 2
    have hne : g1 ≠ g2 := HA.out.2.1
    have hg1 : w.heap.size ≤ g1 := by have := HG.out; omega
    have HG1 := Aside.mk hg1
    clear kf hg1 hlt0 h1
    by_cases hz : t.size = 0
    · have hz' : ((t.size : Int) == 0) = true := by rw [hz]; rfl
      clear hz
      go_wp2_with fail
      have hbe := ((((HA.out.2.2.2.2.2.2.1).setCell (p := ⟨g2, 1, none⟩) HA.out.1 (.string ⟨#[107]⟩)).setCell (p := ⟨g1, 0, none⟩) HG1.out (.int .i64 (1 + m))).setCell (p := ⟨g1, 1, none⟩) HG1.out (.string ⟨#[107]⟩)).setCell (p := ⟨g1, 2, none⟩) HG1.out (.slice ao M cap)
      have hZ3 : (wc.setCell ⟨g2, 1, none⟩ (.string ⟨#[107]⟩)).heap[g1]? = some (.cells #[.int .i64 0, .string ⟨#[]⟩, .slice none 0 0] 24 (0, 0)) := by rw [Below.heap_setCell _ _ _ _ hne]; exact H1.out
      refine bodyPost_ret (results_cell_row rfl _ _ g1 24 #[.int .i64 (1 + m), .string ⟨#[107]⟩, .slice ao M cap] (0, 0) _ rfl (set_row3 hZ3 _ _ _) Tryz.underlying24 rfl (by kernel_rfl)) rfl ?_
      exact ⟨hbe, 1 + m, ⟨#[107]⟩, M, rfl, made_ok m0 m1 (show 1 ≤ 1 by decide) (show 1 ≤ 40 by decide) (by have := HA.out; omega), by have := HA.out; omega, by have := HA.out; omega⟩
    · have hz' : ((t.size : Int) == 0) = false := by rw [beq_eq_false_iff_ne]; omega
      have HZ := Aside.mk hz
      clear hz
      go_wp2_with fail
      have hbe := (((HA.out.2.2.2.2.2.2.1).setCell (p := ⟨g1, 0, none⟩) HG1.out (.int .i64 (1 + m))).setCell (p := ⟨g1, 1, none⟩) HG1.out (.string t)).setCell (p := ⟨g1, 2, none⟩) HG1.out (.slice ao M cap)
      refine bodyPost_ret (results_cell_row rfl _ _ g1 24 #[.int .i64 (1 + m), .string t, .slice ao M cap] (0, 0) _ rfl (set_row3 H1.out _ _ _) Tryz.underlying24 rfl (by kernel_rfl)) rfl ?_
      exact ⟨hbe, 1 + m, t, M, rfl, made_ok m0 m1 (show 1 ≤ t.size by have := HZ.out; omega) (show t.size ≤ 40 by have := HA.out; omega) (by have := HA.out; omega), by have := HA.out; omega, by have := HA.out; omega⟩
theorem MadeEntry_txt (k : Int) (s : ByteArray) (u : Value) (B : List UInt8) (w : World) (h : Txt w u B) :
    Calls Tryz.prog 19 #[entV k s u] w fun e w' => Below w.heap.size w w' ∧ ∃ k' s' u' B', e = .returned (entV k' s' u') ∧ okE ⟨k', s'.data.toList, B'⟩ ∧ Txt w' u' B' ∧ B'.length ≤ 60 := by
  have hT := h
  obtain ⟨ao, cap, rfl, h0, h1, h2, -⟩ := h
  refine (MadeEntry_cut k s ao B.length cap B w hT rfl).mono ?_
  rintro e w' ⟨hb, k', s', M, rfl, hok, hM, h60⟩
  exact ⟨hb, k', s', _, _, rfl, hok, (made_take hT rfl h0 hM).below hb, by simp; omega⟩
end Go.Proofs.YteljhjljigbcjaaGreatDoor.Cv
