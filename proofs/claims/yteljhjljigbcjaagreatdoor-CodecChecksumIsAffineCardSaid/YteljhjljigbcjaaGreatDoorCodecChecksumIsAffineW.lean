/- CodecChecksumIsAffine: the law's walk: it returns true at every input, and of the memory that was there nothing turns. -/
import Derived.Test.YteljhjljigbcjaaGreatDoorCvW
import Derived.Test.YteljhjljigbcjaaGreatDoorCvL
import Derived.Test.YteljhjljigbcjaaGreatDoorCvV
import Derived.Test.YteljhjljigbcjaaGreatDoorRegT
import Derived.Maps.AppendAt
import Derived.Deep.LoopGhost
import Derived.IntWalk
import Derived.Deep.DeepCutAuto
set_option linter.unusedVariables false
set_option linter.unusedSimpArgs false
namespace Go.Proofs.YteljhjljigbcjaaGreatDoor.Cv
open Go.RowKit Rg

/-- two rows of the call's own, in two blocks -/
structure Two (base : Nat) (w : World) (v : Value) (X : List UInt8) (u : Value) (Z : List UInt8) : Prop where
  fst : Own base w v X
  snd : Own base w u Z
  sv : ∃ g, v.ownBlock = some g
  su : ∃ g, u.ownBlock = some g
  ne : v.ownBlock ≠ u.ownBlock
theorem Two.symm {base : Nat} {w : World} {v u : Value} {X Z : List UInt8} (h : Two base w v X u Z) : Two base w u Z v X := ⟨h.snd, h.fst, h.su, h.sv, fun e => h.ne e.symm⟩
theorem Two.below {base : Nat} {w w' : World} {v u : Value} {X Z : List UInt8} (h : Two base w v X u Z) (hb : Below w.heap.size w w') : Two base w' v X u Z := ⟨h.fst.below hb, h.snd.below hb, h.sv, h.su, h.ne⟩
theorem wpList_append_two (w : World) {ops : Array Oper} {rest : List Oper} {o : Oper} {a : Act} {Q : Exit → Act → World → Prop}
    (hg : o.guard = none) (s x : Operand) (hop : o.op = Op.call { callee := Callee.builtin Builtin.append, args := #[s, x], argTypes := #[22, 22] })
    (base : Nat) (v : Value) (X : List UInt8) (u : Value) (Z : List UInt8) (hs : a.eval s = v) (h : Two base w v X u Z) (ad : Addr) (Y : List UInt8) (n cap : Nat) (hn : Y.length = n) (hx : a.eval x = .slice (some ad) n cap) (hc : ∀ j u, (Lib.byteCells Y)[j]? = some u → w.cell? (ad.add j) = some u)
    (hbd : Aside (X.length + n ≤ 2000000000)) (hbase : base ≤ w.heap.size)
    (hK : ∀ v' w', Two base w' v' (X ++ Y) u Z → Below base w w' → wpList Tryz.prog ops Q rest (a.put o.dst v') w') :
    wpList Tryz.prog ops Q (o :: rest) a w := by
  obtain ⟨i0, hi, hz0, hz1, hz2⟩ := info_parts info_u8
  have hb := hbd.out
  subst hn
  refine wpList_append_own_at w hg s x _ hop base 5 i0 (.int .u8 0) 1 1 Tryz.underlying22 hi hz0 hz1 hz2 rfl (by omega) v X.length _ hs h.fst ad Y.length cap (Lib.byteCells Y) hx (by simp [Lib.byteCells]) hc (cells_one Y) (by simp only [maxLen]; omega) (by omega) hbase ?_
  intro v' w' hown' hgr _ hat
  refine hK v' w' ⟨by simpa [Own, cells_append] using hown', World.ownsRow.kept h.snd hgr (Or.inr (fun e => h.ne e.symm)), ?_, h.su, ?_⟩ ((Below.refl base w).grown hgr hbase (fun k hk => (World.ownsRow.lt h.fst k hk).1))
  · rcases hat with e | e
    · rw [e]; exact h.sv
    · exact ⟨_, e⟩
  · rcases hat with e | e
    · rw [e]; exact h.ne
    · rw [e]
      obtain ⟨g, hg⟩ := h.su
      have := (World.ownsRow.lt h.snd g hg).2
      rw [hg]
      intro hh
      cases hh
      omega

theorem crc_lt (l : List UInt8) : crc l < 2 ^ 32 := by
  unfold crc
  exact Nat.xor_lt_two_pow (crcS_lt l _ (by decide)) (by decide)
theorem zip_take (A B : List UInt8) (i : Nat) (hi : i < A.length) (hj : i < B.length) : List.zipWith (· ^^^ ·) (A.take (i + 1)) (B.take (i + 1)) = List.zipWith (· ^^^ ·) (A.take i) (B.take i) ++ [A[i] ^^^ B[i]] := by
  rw [List.take_succ_eq_append_getElem hi, List.take_succ_eq_append_getElem hj, List.zipWith_append (by simp; omega)]
  rfl

set_option maxRecDepth 100000 in
set_option maxHeartbeats 8000000 in
theorem CodecChecksumIsAffine_in (va vb : Value) (A B : List UInt8) (at' y : Nat) (w : World) (hA : Txt w va A) (hB : Txt w vb B) (ha : at' < 65536) (hy : y < 256) :
    Calls Tryz.prog 7 #[va, vb, .int .u16 at', .int .u8 y] w fun e w' => e = .returned (.bool true) ∧ Below w.heap.size w w' := by
  have HA := Aside.mk hA
  have HB := Aside.mk hB
  obtain ⟨aoa, capa, rfl, ha0, hac, ham, hacell⟩ := hA
  obtain ⟨aob, capb, rfl, hb0, hbc, hbm, hbcell⟩ := hB
  have HCA := Aside.mk hacell
  have HCB := Aside.mk hbcell
  have H0 := Aside.mk (And.intro ha0 hb0)
  obtain ⟨n, hn⟩ : ∃ n, A.length = n := ⟨_, rfl⟩
  obtain ⟨nb, hnb⟩ : ∃ n, B.length = n := ⟨_, rfl⟩
  rw [hn, hnb]
  rw [hn] at hac HA
  rw [hnb] at hbc HB
  have HN := Aside.mk (And.intro hn hnb)
  clear ha0 hb0 hacell hbcell hn hnb ham hbm
  go_enter Tryz.func7, Tryz.ntmps7
  go_wp2_with fail
  refine (sanity_any w).mono ?_
  rintro e w1 ⟨rfl, b1⟩
  have HB1 := Aside.mk b1
  clear b1
  by_cases h1 : 500 < n
  · have d1 : decide ((500 : Int) < (n : Int)) = true := by simp; omega
    go_wp2_with fail
    go_ret
    exact ⟨rfl, HB1.out⟩
  have d1 : decide ((500 : Int) < (n : Int)) = false := by simp; omega
  by_cases h2 : nb < n
  · have d2 : decide (nb < n) = true := by simp; omega
    go_wp2_with fail
    go_ret
    exact ⟨rfl, HB1.out⟩
  have d2 : decide (nb < n) = false := by simp; omega
  have hn500 : n ≤ 500 := by omega
  have hnb' : n ≤ nb := by omega
  clear h1 h2
  have HNN := Aside.mk (And.intro hn500 hnb')
  have hd0 := hn500
  clear hn500 hnb' hd0
  go_wp2_with fail
  go_loopg [10, 11, 12] n (fun g v10 v11 v12 wr => ∃ (i : Nat) (p q : Value), p = v10 ∧ q = v11 ∧ v12 = .int .i64 i ∧ Aside (i + g = n) ∧ Aside (Two w1.heap.size wr p (List.zipWith (· ^^^ ·) (A.take i) (B.take i)) q (List.replicate i 0)) ∧ Aside (Below w1.heap.size w1 wr))
  case atStart =>
    refine ⟨0, _, _, rfl, rfl, rfl, ⟨by omega⟩, ⟨?_⟩, ⟨((Below.refl _ _).alloc (Nat.le_refl _) _).alloc (by simp) _⟩⟩
    have o1 : Own w1.heap.size (w1.alloc (.cells #[] 5)) (.slice (some ⟨w1.heap.size, 0, none⟩) 0 0) [] := World.ownsRow_made (size := 1) w1 #[] 0 (Nat.le_refl _) (by simp) rfl
    have o2 : Own (w1.alloc (.cells #[] 5)).heap.size ((w1.alloc (.cells #[] 5)).alloc (.cells #[] 5)) (.slice (some ⟨(w1.alloc (.cells #[] 5)).heap.size, 0, none⟩) 0 0) [] := World.ownsRow_made (size := 1) _ #[] 0 (Nat.le_refl _) (by simp) rfl
    have hsz : (w1.alloc (.cells #[] 5)).heap.size = w1.heap.size + 1 := by simp
    rw [hsz] at o2
    exact ⟨o1.below ((Below.refl _ _).alloc (Nat.le_refl _) _), o2.mono (Nat.le_succ _), ⟨_, rfl⟩, ⟨_, rfl⟩, by simp [Value.ownBlock]⟩
  case round =>
    obtain ⟨i, p, q, rfl, rfl, rfl, HG, HT, HW⟩ := hrel
    by_cases hi : i < n
    · obtain ⟨ada, rfl⟩ : ∃ ad, aoa = some ad := by
        cases aoa with
        | none => have := H0.out.1 rfl; have := HN.out; omega
        | some ad => exact ⟨ad, rfl⟩
      obtain ⟨adb, rfl⟩ : ∃ ad, aob = some ad := by
        cases aob with
        | none => have := H0.out.2 rfl; have := HN.out; have := HNN.out; omega
        | some ad => exact ⟨ad, rfl⟩
      have hiA : i < A.length := by rw [HN.out.1]; exact hi
      have hiB : i < B.length := by rw [HN.out.2]; have := HNN.out; omega
      obtain ⟨x, hx⟩ : ∃ x, x = A[i] := ⟨_, rfl⟩
      obtain ⟨z, hz⟩ : ∃ z, z = B[i] := ⟨_, rfl⟩
      have hca0 : w.cell? (ada.add i) = some (.int .u8 x.toNat) := HCA.out ada rfl i _ (by simp [Lib.byteCells, hiA, hx])
      have hcb0 : w.cell? (adb.add i) = some (.int .u8 z.toNat) := HCB.out adb rfl i _ (by simp [Lib.byteCells, hiB, hz])
      have hla0 := World.block_lt_of_cell? w _ hca0
      have hlb0 := World.block_lt_of_cell? w _ hcb0
      have hca : wr.cell? (ada.add i) = some (.int .u8 x.toNat) := by rw [HW.out.cell (Nat.lt_of_lt_of_le hla0 HB1.out.size), HB1.out.cell hla0]; exact hca0
      have hcb : wr.cell? (adb.add i) = some (.int .u8 z.toNat) := by rw [HW.out.cell (Nat.lt_of_lt_of_le hlb0 HB1.out.size), HB1.out.cell hlb0]; exact hcb0
      have hla := World.block_lt_of_cell? wr _ hca
      have hlb := World.block_lt_of_cell? wr _ hcb
      have hzt : Aside (List.zipWith (· ^^^ ·) (A.take (i + 1)) (B.take (i + 1)) = List.zipWith (· ^^^ ·) (A.take i) (B.take i) ++ [x ^^^ z]) := ⟨by rw [hx, hz]; exact zip_take A B i hiA hiB⟩
      have hxor := bits_xor_nat .u8 8 (by decide) wraps_u8 x.toNat z.toNat x.toNat_lt z.toNat_lt
      rw [← UInt8.toNat_xor] at hxor
      have hlz : Aside ((List.zipWith (· ^^^ ·) (A.take i) (B.take i)).length = i) := ⟨by simp; have := HNN.out; omega⟩
      obtain ⟨XZ, hXZ⟩ : ∃ XZ, x ^^^ z = XZ := ⟨_, rfl⟩
      rw [hXZ] at hzt hxor
      obtain ⟨X, hX⟩ : ∃ X, x.toNat = X := ⟨_, rfl⟩
      obtain ⟨Y, hY⟩ : ∃ Y, z.toNat = Y := ⟨_, rfl⟩
      obtain ⟨K, hK⟩ : ∃ K, XZ.toNat = K := ⟨_, rfl⟩
      rw [hX] at hca
      rw [hY] at hcb
      rw [hX, hY, hK] at hxor
      have HK := Aside.mk hK
      have hin : (i : Int) < (n : Int) := by omega
      have hinb : (i : Int) < (nb : Int) := by have := HNN.out; omega
      have hibd : (i : Int) < 1000 := by have := HNN.out; omega
      clear hca0 hcb0 hla0 hlb0 hX hY hK hXZ hx hz hiA hiB
      go_wp2_with fail
      refine region_list (T := tab2 [
          Sq.val (p),
          Sq.val (.slice (some ada) n capa),
          Sq.val (.int .i64 i),
          Sq.val (.pointer (some (ada.add i))),
          Sq.val (.int .u8 X),
          Sq.val (.slice (some adb) nb capb),
          Sq.val (.int .i64 i),
          Sq.val (.pointer (some (adb.add i))),
          Sq.val (.int .u8 Y),
          Sq.val (.int .u8 K),
          Sq.row wr.heap.size #[.int .u8 K] 5 1 1]) 11
        [_, _, _, _, _, _, _, _, _, _, _, _, _] (by kernel_rfl) (by kernel_rfl) (by kernel_rfl) (by kernel_rfl) (by kernel_rfl) (by kernel_rfl) rfl ?_ ?_
      · refine AllIn.cons ?_ ?_
        · intro a w hz hb ho hg
          have e10 : a.tmps.getD 10 undef = p := ho 10 (by kernel_rfl)
          have f10 := e10; rw [Array.getD_eq_getD_getElem?] at f10
          exact Or.inl ⟨wanted_none rfl, wp_value hb.size (by simp [execOp, Act.eval, e10, f10, go_sem]) (Below.refl _ _) rfl⟩
        refine AllIn.cons ?_ ?_
        · intro a w hz hb ho hg
          have e0 : a.tmps.getD 0 undef = .slice (some ada) n capa := ho 0 (by kernel_rfl)
          have f0 := e0; rw [Array.getD_eq_getD_getElem?] at f0
          exact Or.inl ⟨wanted_none rfl, wp_value hb.size (by simp [execOp, Act.eval, e0, f0, go_sem]) (Below.refl _ _) rfl⟩
        refine AllIn.cons ?_ ?_
        · intro a w hz hb ho hg
          have e12 : a.tmps.getD 12 undef = .int .i64 i := ho 12 (by kernel_rfl)
          have f12 := e12; rw [Array.getD_eq_getD_getElem?] at f12
          exact Or.inl ⟨wanted_none rfl, wp_value hb.size (by simp [execOp, Act.eval, e12, f12, go_sem]) (Below.refl _ _) rfl⟩
        refine AllIn.cons ?_ ?_
        · intro a w hz hb ho hg
          have e35 : a.tmps.getD 35 undef = .slice (some ada) n capa := got_of hg (j := 1) rfl rfl rfl
          have e36 : a.tmps.getD 36 undef = .int .i64 i := got_of hg (j := 2) rfl rfl rfl
          have f35 := e35; rw [Array.getD_eq_getD_getElem?] at f35
          have f36 := e36; rw [Array.getD_eq_getD_getElem?] at f36
          exact Or.inl ⟨wanted_none rfl, wp_value hb.size (by simp [execOp, Act.eval, e35, e36, f35, f36, hin, go_sem]) (Below.refl _ _) rfl⟩
        refine AllIn.cons ?_ ?_
        · intro a w hz hb ho hg
          have e37 : a.tmps.getD 37 undef = .pointer (some (ada.add i)) := got_of hg (j := 3) rfl rfl rfl
          have f37 := e37; rw [Array.getD_eq_getD_getElem?] at f37
          have q := (hb.cell (p := ada.add i) hla).trans hca
          exact Or.inl ⟨wanted_none rfl, wp_value hb.size (by simp [execOp, Act.eval, e37, f37, q, go_sem]) (Below.refl _ _) rfl⟩
        refine AllIn.cons ?_ ?_
        · intro a w hz hb ho hg
          have e1 : a.tmps.getD 1 undef = .slice (some adb) nb capb := ho 1 (by kernel_rfl)
          have f1 := e1; rw [Array.getD_eq_getD_getElem?] at f1
          exact Or.inl ⟨wanted_none rfl, wp_value hb.size (by simp [execOp, Act.eval, e1, f1, go_sem]) (Below.refl _ _) rfl⟩
        refine AllIn.cons ?_ ?_
        · intro a w hz hb ho hg
          have e12 : a.tmps.getD 12 undef = .int .i64 i := ho 12 (by kernel_rfl)
          have f12 := e12; rw [Array.getD_eq_getD_getElem?] at f12
          exact Or.inl ⟨wanted_none rfl, wp_value hb.size (by simp [execOp, Act.eval, e12, f12, go_sem]) (Below.refl _ _) rfl⟩
        refine AllIn.cons ?_ ?_
        · intro a w hz hb ho hg
          have e39 : a.tmps.getD 39 undef = .slice (some adb) nb capb := got_of hg (j := 5) rfl rfl rfl
          have e40 : a.tmps.getD 40 undef = .int .i64 i := got_of hg (j := 6) rfl rfl rfl
          have f39 := e39; rw [Array.getD_eq_getD_getElem?] at f39
          have f40 := e40; rw [Array.getD_eq_getD_getElem?] at f40
          exact Or.inl ⟨wanted_none rfl, wp_value hb.size (by simp [execOp, Act.eval, e39, e40, f39, f40, hin, hinb, go_sem]) (Below.refl _ _) rfl⟩
        refine AllIn.cons ?_ ?_
        · intro a w hz hb ho hg
          have e41 : a.tmps.getD 41 undef = .pointer (some (adb.add i)) := got_of hg (j := 7) rfl rfl rfl
          have f41 := e41; rw [Array.getD_eq_getD_getElem?] at f41
          have q := (hb.cell (p := adb.add i) hlb).trans hcb
          exact Or.inl ⟨wanted_none rfl, wp_value hb.size (by simp [execOp, Act.eval, e41, f41, q, go_sem]) (Below.refl _ _) rfl⟩
        refine AllIn.cons ?_ ?_
        · intro a w hz hb ho hg
          have e38 : a.tmps.getD 38 undef = .int .u8 X := got_of hg (j := 4) rfl rfl rfl
          have e42 : a.tmps.getD 42 undef = .int .u8 Y := got_of hg (j := 8) rfl rfl rfl
          have f38 := e38; rw [Array.getD_eq_getD_getElem?] at f38
          have f42 := e42; rw [Array.getD_eq_getD_getElem?] at f42
          exact Or.inl ⟨wanted_none rfl, wp_value hb.size (by simp [execOp, Act.eval, e38, e42, f38, f42, hxor, go_sem]) (Below.refl _ _) rfl⟩
        refine AllIn.cons ?_ ?_
        · intro a w hz hb ho hg
          have e43 : a.tmps.getD 43 undef = .int .u8 K := got_of hg (j := 9) rfl rfl rfl
          have f43 := e43; rw [Array.getD_eq_getD_getElem?] at f43
          exact Or.inl ⟨wanted_none rfl, wp_value hb.size (by simp [execOp, Act.eval, e43, f43, go_sem]) ((Below.refl _ _).alloc (Nat.le_refl _) _) ⟨_, hb.size, rfl, heap_alloc_last _ _⟩⟩
        exact AllIn.nil
      intro a w' hd hz hb ho hg
      have e34 : a.tmps.getD 34 undef = p := hg 0 (by decide) _ _ rfl rfl
      have e35 : a.tmps.getD 35 undef = .slice (some ada) n capa := hg 1 (by decide) _ _ rfl rfl
      have e36 : a.tmps.getD 36 undef = .int .i64 i := hg 2 (by decide) _ _ rfl rfl
      have e37 : a.tmps.getD 37 undef = .pointer (some (ada.add i)) := hg 3 (by decide) _ _ rfl rfl
      have e38 : a.tmps.getD 38 undef = .int .u8 X := hg 4 (by decide) _ _ rfl rfl
      have e39 : a.tmps.getD 39 undef = .slice (some adb) nb capb := hg 5 (by decide) _ _ rfl rfl
      have e40 : a.tmps.getD 40 undef = .int .i64 i := hg 6 (by decide) _ _ rfl rfl
      have e41 : a.tmps.getD 41 undef = .pointer (some (adb.add i)) := hg 7 (by decide) _ _ rfl rfl
      have e42 : a.tmps.getD 42 undef = .int .u8 Y := hg 8 (by decide) _ _ rfl rfl
      have e43 : a.tmps.getD 43 undef = .int .u8 K := hg 9 (by decide) _ _ rfl rfl
      have E44 := hg 10 (by decide) _ _ rfl rfl
      obtain ⟨g44, G44, e44, R44⟩ := E44
      have hA := ho.frame hz
      simp only [List.take_succ_cons, List.take_zero, List.filterMap_cons, List.filterMap_nil, List.foldl_cons, List.foldl_nil, e34, e35, e36, e37, e38, e39, e40, e41, e42, e43, e44, List.setIfInBounds_toArray, List.set_cons_zero, List.set_cons_succ] at hA
      obtain ⟨tm, df⟩ := a
      simp only at hd hA
      subst hd
      subst hA
      simp only [List.drop_succ_cons, List.drop_zero]
      have HH := Aside.mk hb
      clear hz ho hg hb e34 e35 e36 e37 e38 e39 e40 e41 e42 e43 e44
      have HR := Aside.mk R44
      clear R44 G44 hxor hca hcb
      refine wpList_append_two w' rfl (.tmp 34) (.tmp 44) rfl w1.heap.size p _ q _ rfl (HT.out.below HH.out) ⟨g44, 0, none⟩ [XZ] 1 1 rfl rfl ?_ ⟨by have := hlz.out; have := HNN.out; omega⟩ (Nat.le_trans HW.out.size HH.out.size) ?_
      · intro j u hu
        cases j with
        | zero =>
          simp [Lib.byteCells, HK.out] at hu
          subst hu
          rw [Addr.add_lit, cell_of_row _ _ _ _ _ _ HR.out]; rfl
        | succ j => simp [Lib.byteCells] at hu
      intro v5 w5 ht5 hb5
      have hsz5 : w1.heap.size ≤ w5.heap.size := Nat.le_trans (Nat.le_trans HW.out.size HH.out.size) hb5.size
      have HS5 := Aside.mk hsz5
      have HT5 := Aside.mk ht5.symm
      have HB5 : Aside (Below w1.heap.size w1 w5) := ⟨(HW.out.trans (HH.out.mono HW.out.size)).trans hb5⟩
      have HA5 : Aside (Below w5.heap.size w5 (w5.alloc (.cells #[.int .u8 0] 5))) := ⟨(Below.refl _ _).alloc (Nat.le_refl _) _⟩
      have HC5 : Aside (∀ j u, (Lib.byteCells [0])[j]? = some u → (w5.alloc (.cells #[.int .u8 0] 5)).cell? ((⟨w5.heap.size, 0, none⟩ : Addr).add j) = some u) := ⟨by
        intro j u hu
        exact one_cell w5 (.int .u8 0) 5 j u (by simpa [Lib.byteCells] using hu)⟩
      clear hsz5 ht5 hb5
      go_wp2_with (first | (at_builtin; refine wpList_append_two _ rfl (.tmp 46) (.tmp 47) rfl w1.heap.size q _ v5 _ rfl (HT5.out.below HA5.out) ⟨w5.heap.size, 0, none⟩ [0] 1 1 rfl rfl HC5.out ⟨by have := HNN.out; simp; omega⟩ (Nat.le_trans HS5.out HA5.out.size) ?_; intro v6 w6 ht6 hb6))
      obtain ⟨go, hgo⟩ : ∃ go, gk = go + 1 := ⟨gk - 1, by have := HG.out; omega⟩
      go_roundg go
      case measure => omega
      case rel =>
        refine ⟨i + 1, v5, v6, rfl, rfl, by go_num, ⟨by have := HG.out; omega⟩, ⟨?_⟩, ⟨HB5.out.trans ((HA5.out.mono HS5.out).trans hb6)⟩⟩
        rw [hzt.out, List.replicate_succ']
        exact ht6.symm
    · have hin : i = n := by have := HG.out; omega
      subst hin
      have hTA1 : Txt w1 (.slice aoa i capa) A := HA.out.below HB1.out
      have hTB1 : Txt w1 (.slice aob nb capb) B := HB.out.below HB1.out
      have hab : A.length = (B.take i).length := by rw [List.length_take]; have := HN.out; have := HNN.out; omega
      have hAi : A.take i = A := List.take_of_length_le (by rw [HN.out.1]; exact Nat.le_refl _)
      have hT := HT.out
      rw [hAi] at hT
      have haff := crc_affine A (B.take i) hab
      rw [HN.out.1] at haff
      obtain ⟨ZZ, hZZ⟩ : ∃ ZZ, List.zipWith (· ^^^ ·) A (B.take i) = ZZ := ⟨_, rfl⟩
      obtain ⟨ZR, hZR⟩ : ∃ ZZ, List.replicate i (0 : UInt8) = ZZ := ⟨_, rfl⟩
      rw [hZZ, hZR] at haff hT
      have HTP : Aside (Txt wr p ZZ) := ⟨hT.fst.txt⟩
      have HTQ : Aside (Txt wr q ZR) := ⟨hT.snd.txt⟩
      have HTA : Aside (Txt wr (.slice aoa i capa) A) := ⟨hTA1.below HW.out⟩
      have HTB : Aside (Txt wr (.slice aob i capb) (B.take i)) := ⟨(made_take hTB1 HN.out.2 (by have := H0.out.2; intro h; exact this h) HNN.out.2).below HW.out⟩
      obtain ⟨cS, hcS⟩ : ∃ c, crc ZZ = c := ⟨_, rfl⟩
      obtain ⟨cA, hcA⟩ : ∃ c, crc A = c := ⟨_, rfl⟩
      obtain ⟨cB, hcB⟩ : ∃ c, crc (B.take i) = c := ⟨_, rfl⟩
      obtain ⟨cZ, hcZ⟩ : ∃ c, crc ZR = c := ⟨_, rfl⟩
      rw [hcS, hcA, hcB, hcZ] at haff
      have lA : cA < 2 ^ 32 := by rw [← hcA]; exact crc_lt A
      have lB : cB < 2 ^ 32 := by rw [← hcB]; exact crc_lt _
      have lZ : cZ < 2 ^ 32 := by rw [← hcZ]; exact crc_lt _
      have hx1 := bits_xor_nat .u32 32 (by decide) wraps_u32 cA cB lA lB
      have hx2 := bits_xor_nat .u32 32 (by decide) wraps_u32 (cA ^^^ cB) cZ (Nat.xor_lt_two_pow lA lB) lZ
      rw [← haff] at hx2
      obtain ⟨D, hD⟩ : ∃ D, cA ^^^ cB = D := ⟨_, rfl⟩
      rw [hD] at hx1 hx2
      have hsl : (i : Int) ≤ (capb : Int) := by have := HNN.out; omega
      have HHCA := Aside.mk hcA
      have HBR : Aside (Below w.heap.size w wr) := ⟨HB1.out.trans (HW.out.mono HB1.out.size)⟩
      clear hT hTA1 hTB1 hab hAi haff lA lB lZ hD hZZ hZR
      go_wp2_with fail
      refine region_list (T := tab2 [
          Sq.val (p),
          Sq.val (.int .u32 cS),
          Sq.val (.slice aoa i capa),
          Sq.val (.int .u32 cA),
          Sq.val (.slice aob nb capb),
          Sq.val (.slice aoa i capa),
          Sq.val (.int .i64 i),
          Sq.val (.slice aob i capb),
          Sq.val (.int .u32 cB),
          Sq.val (.int .u32 D),
          Sq.val (q),
          Sq.val (.int .u32 cZ),
          Sq.val (.int .u32 cS)]) 13
        [_, _, _, _, _, _, _, _, _, _, _, _, _, _] (by kernel_rfl) (by kernel_rfl) (by kernel_rfl) (by kernel_rfl) (by kernel_rfl) (by kernel_rfl) rfl ?_ ?_
      · refine AllIn.cons ?_ ?_
        · intro a w hz hb ho hg
          have e10 : a.tmps.getD 10 undef = p := ho 10 (by kernel_rfl)
          have f10 := e10; rw [Array.getD_eq_getD_getElem?] at f10
          exact Or.inl ⟨wanted_none rfl, wp_value hb.size (by simp [execOp, Act.eval, e10, f10, go_sem]) (Below.refl _ _) rfl⟩
        refine AllIn.cons ?_ ?_
        · intro a w hz hb ho hg
          have e49 : a.tmps.getD 49 undef = p := got_of hg (j := 0) rfl rfl rfl
          have f49 := e49; rw [Array.getD_eq_getD_getElem?] at f49
          exact Or.inl ⟨wanted_none rfl, wp_calls hb.size (run_call (args := #[p]) enters17 (by simp [Act.eval, f49])) ((Checksum_txt (p) ZZ w (HTP.out.below hb)).mono (by rintro e w' ⟨rfl, hb'⟩; exact ⟨_, rfl, hb', by rw [hcS]; rfl⟩))⟩
        refine AllIn.cons ?_ ?_
        · intro a w hz hb ho hg
          have e0 : a.tmps.getD 0 undef = .slice aoa i capa := ho 0 (by kernel_rfl)
          have f0 := e0; rw [Array.getD_eq_getD_getElem?] at f0
          exact Or.inl ⟨wanted_none rfl, wp_value hb.size (by simp [execOp, Act.eval, e0, f0, go_sem]) (Below.refl _ _) rfl⟩
        refine AllIn.cons ?_ ?_
        · intro a w hz hb ho hg
          have e51 : a.tmps.getD 51 undef = .slice aoa i capa := got_of hg (j := 2) rfl rfl rfl
          have f51 := e51; rw [Array.getD_eq_getD_getElem?] at f51
          exact Or.inl ⟨wanted_none rfl, wp_calls hb.size (run_call (args := #[.slice aoa i capa]) enters17 (by simp [Act.eval, f51])) ((Checksum_txt (.slice aoa i capa) A w (HTA.out.below hb)).mono (by rintro e w' ⟨rfl, hb'⟩; exact ⟨_, rfl, hb', by rw [hcA]; rfl⟩))⟩
        refine AllIn.cons ?_ ?_
        · intro a w hz hb ho hg
          have e1 : a.tmps.getD 1 undef = .slice aob nb capb := ho 1 (by kernel_rfl)
          have f1 := e1; rw [Array.getD_eq_getD_getElem?] at f1
          exact Or.inl ⟨wanted_none rfl, wp_value hb.size (by simp [execOp, Act.eval, e1, f1, go_sem]) (Below.refl _ _) rfl⟩
        refine AllIn.cons ?_ ?_
        · intro a w hz hb ho hg
          have e0 : a.tmps.getD 0 undef = .slice aoa i capa := ho 0 (by kernel_rfl)
          have f0 := e0; rw [Array.getD_eq_getD_getElem?] at f0
          exact Or.inl ⟨wanted_none rfl, wp_value hb.size (by simp [execOp, Act.eval, e0, f0, go_sem]) (Below.refl _ _) rfl⟩
        refine AllIn.cons ?_ ?_
        · intro a w hz hb ho hg
          have e54 : a.tmps.getD 54 undef = .slice aoa i capa := got_of hg (j := 5) rfl rfl rfl
          have f54 := e54; rw [Array.getD_eq_getD_getElem?] at f54
          exact Or.inl ⟨wanted_none rfl, wp_value hb.size (by simp [execOp, Act.eval, e54, f54, go_sem]) (Below.refl _ _) rfl⟩
        refine AllIn.cons ?_ ?_
        · intro a w hz hb ho hg
          have e53 : a.tmps.getD 53 undef = .slice aob nb capb := got_of hg (j := 4) rfl rfl rfl
          have e55 : a.tmps.getD 55 undef = .int .i64 i := got_of hg (j := 6) rfl rfl rfl
          have f53 := e53; rw [Array.getD_eq_getD_getElem?] at f53
          have f55 := e55; rw [Array.getD_eq_getD_getElem?] at f55
          exact Or.inl ⟨wanted_none rfl, wp_value hb.size (by simp [execOp, Act.eval, e53, e55, f53, f55, hsl, go_sem]) (Below.refl _ _) rfl⟩
        refine AllIn.cons ?_ ?_
        · intro a w hz hb ho hg
          have e56 : a.tmps.getD 56 undef = .slice aob i capb := got_of hg (j := 7) rfl rfl rfl
          have f56 := e56; rw [Array.getD_eq_getD_getElem?] at f56
          exact Or.inl ⟨wanted_none rfl, wp_calls hb.size (run_call (args := #[.slice aob i capb]) enters17 (by simp [Act.eval, f56])) ((Checksum_txt (.slice aob i capb) (B.take i) w (HTB.out.below hb)).mono (by rintro e w' ⟨rfl, hb'⟩; exact ⟨_, rfl, hb', by rw [hcB]; rfl⟩))⟩
        refine AllIn.cons ?_ ?_
        · intro a w hz hb ho hg
          have e52 : a.tmps.getD 52 undef = .int .u32 cA := got_of hg (j := 3) rfl rfl rfl
          have e57 : a.tmps.getD 57 undef = .int .u32 cB := got_of hg (j := 8) rfl rfl rfl
          have f52 := e52; rw [Array.getD_eq_getD_getElem?] at f52
          have f57 := e57; rw [Array.getD_eq_getD_getElem?] at f57
          exact Or.inl ⟨wanted_none rfl, wp_value hb.size (by simp [execOp, Act.eval, e52, e57, f52, f57, hx1, go_sem]) (Below.refl _ _) rfl⟩
        refine AllIn.cons ?_ ?_
        · intro a w hz hb ho hg
          have e11 : a.tmps.getD 11 undef = q := ho 11 (by kernel_rfl)
          have f11 := e11; rw [Array.getD_eq_getD_getElem?] at f11
          exact Or.inl ⟨wanted_none rfl, wp_value hb.size (by simp [execOp, Act.eval, e11, f11, go_sem]) (Below.refl _ _) rfl⟩
        refine AllIn.cons ?_ ?_
        · intro a w hz hb ho hg
          have e59 : a.tmps.getD 59 undef = q := got_of hg (j := 10) rfl rfl rfl
          have f59 := e59; rw [Array.getD_eq_getD_getElem?] at f59
          exact Or.inl ⟨wanted_none rfl, wp_calls hb.size (run_call (args := #[q]) enters17 (by simp [Act.eval, f59])) ((Checksum_txt (q) ZR w (HTQ.out.below hb)).mono (by rintro e w' ⟨rfl, hb'⟩; exact ⟨_, rfl, hb', by rw [hcZ]; rfl⟩))⟩
        refine AllIn.cons ?_ ?_
        · intro a w hz hb ho hg
          have e58 : a.tmps.getD 58 undef = .int .u32 D := got_of hg (j := 9) rfl rfl rfl
          have e60 : a.tmps.getD 60 undef = .int .u32 cZ := got_of hg (j := 11) rfl rfl rfl
          have f58 := e58; rw [Array.getD_eq_getD_getElem?] at f58
          have f60 := e60; rw [Array.getD_eq_getD_getElem?] at f60
          exact Or.inl ⟨wanted_none rfl, wp_value hb.size (by simp [execOp, Act.eval, e58, e60, f58, f60, hx2, go_sem]) (Below.refl _ _) rfl⟩
        exact AllIn.nil
      intro a w' hd hz hb ho hg
      have e49 : a.tmps.getD 49 undef = p := hg 0 (by decide) _ _ rfl rfl
      have e50 : a.tmps.getD 50 undef = .int .u32 cS := hg 1 (by decide) _ _ rfl rfl
      have e51 : a.tmps.getD 51 undef = .slice aoa i capa := hg 2 (by decide) _ _ rfl rfl
      have e52 : a.tmps.getD 52 undef = .int .u32 cA := hg 3 (by decide) _ _ rfl rfl
      have e53 : a.tmps.getD 53 undef = .slice aob nb capb := hg 4 (by decide) _ _ rfl rfl
      have e54 : a.tmps.getD 54 undef = .slice aoa i capa := hg 5 (by decide) _ _ rfl rfl
      have e55 : a.tmps.getD 55 undef = .int .i64 i := hg 6 (by decide) _ _ rfl rfl
      have e56 : a.tmps.getD 56 undef = .slice aob i capb := hg 7 (by decide) _ _ rfl rfl
      have e57 : a.tmps.getD 57 undef = .int .u32 cB := hg 8 (by decide) _ _ rfl rfl
      have e58 : a.tmps.getD 58 undef = .int .u32 D := hg 9 (by decide) _ _ rfl rfl
      have e59 : a.tmps.getD 59 undef = q := hg 10 (by decide) _ _ rfl rfl
      have e60 : a.tmps.getD 60 undef = .int .u32 cZ := hg 11 (by decide) _ _ rfl rfl
      have e61 : a.tmps.getD 61 undef = .int .u32 cS := hg 12 (by decide) _ _ rfl rfl
      have hA := ho.frame hz
      simp only [List.take_succ_cons, List.take_zero, List.filterMap_cons, List.filterMap_nil, List.foldl_cons, List.foldl_nil, e49, e50, e51, e52, e53, e54, e55, e56, e57, e58, e59, e60, e61, List.setIfInBounds_toArray, List.set_cons_zero, List.set_cons_succ] at hA
      obtain ⟨tm, df⟩ := a
      simp only at hd hA
      subst hd
      subst hA
      simp only [List.drop_succ_cons, List.drop_zero]
      have HH := Aside.mk hb
      clear hz ho hg hb e49 e50 e51 e52 e53 e54 e55 e56 e57 e58 e59 e60 e61
      clear hx1 hx2
      have HW2 : Aside (Below w.heap.size w w') := ⟨HBR.out.trans (HH.out.mono HBR.out.size)⟩
      clear HT HTP HTQ HTA HTB HG HW
      by_cases hn0 : i = 0
      · have hn0' : ((i : Int) == 0) = true := by rw [hn0]; rfl
        clear hn0
        go_wp2_with fail
        go_ret
        exact ⟨rfl, HW2.out⟩
      have hn0' : ((i : Int) == 0) = false := by rw [beq_eq_false_iff_ne]; omega
      by_cases hy0 : y = 0
      · have hy0' : ((y : Int) == 0) = true := by rw [hy0]; rfl
        clear hy0 hn0
        go_wp2_with fail
        go_ret
        exact ⟨rfl, HW2.out⟩
      have hy0' : ((y : Int) == 0) = false := by rw [beq_eq_false_iff_ne]; omega
      have HYN := Aside.mk (And.intro hn0 hy0)
      clear hy0 hn0
      have HTA : Aside (Txt w' (.slice aoa i capa) A) := ⟨HA.out.below HW2.out⟩
      have ho0 : Own w'.heap.size (w'.alloc (.cells #[] 5)) (.slice (some ⟨w'.heap.size, 0, none⟩) 0 0) [] := World.ownsRow_made (size := 1) w' #[] 0 (Nat.le_refl _) (by simp) rfl
      have HO0 := Aside.mk ho0
      have HA0 : Aside (Below w'.heap.size w' (w'.alloc (.cells #[] 5))) := ⟨(Below.refl _ _).alloc (Nat.le_refl _) _⟩
      clear ho0
      go_wp2_with (first | (at_builtin; refine wpList_append_txt _ rfl (.tmp 71) (.tmp 72) rfl w'.heap.size _ [] rfl HO0.out _ A rfl (HTA.out.below HA0.out) ⟨by have := HN.out; have := HNN.out; simp; omega⟩ (by simp) ?_; intro v7 w7 ho7 hb7))
      have ho7' : Own w'.heap.size w7 v7 A := ho7
      obtain ⟨h71, h72⟩ := ho7'
      rcases h72 with ⟨-, h0⟩ | ⟨gc, cc, cur, hv7, hgcl, hrow, hcap, hccm, hcsz, htk⟩
      · exfalso; have := HYN.out; have := HN.out; omega
      rw [HN.out.1] at hv7 hcap htk
      rw [Nat.mul_one] at hcsz htk
      subst hv7
      have HROW := Aside.mk hrow
      have HCUR := Aside.mk (And.intro hcsz htk)
      have HCAP := Aside.mk (And.intro hcap hccm)
      have HGC := Aside.mk hgcl
      have HB7 : Aside (Below w'.heap.size w' w7) := ⟨HA0.out.trans hb7⟩
      obtain ⟨J, hJ⟩ : ∃ J, J = at' % i := ⟨_, rfl⟩
      have hJi : J < i := by rw [hJ]; exact Nat.mod_lt _ (by have := HYN.out; omega)
      have hJA : J < A.length := by rw [HN.out.1]; exact hJi
      have hgc := lt_of_heap hrow
      have hrem : (at' : Int) % (i : Int) = (J : Int) := by rw [hJ]; rfl
      have hrem2 : (at' : Int).tmod (i : Int) = (J : Int) := by rw [hJ]; rfl
      have hat : IntKind.i64.wrap (at' : Int) = (at' : Int) := IntWalk.i64_in _ (by omega)
      have hn1 : ¬ i = 0 := HYN.out.1
      have hJn : (J : Int) < (i : Int) := by omega
      obtain ⟨x, hx⟩ : ∃ x, x = A[J] := ⟨_, rfl⟩
      have hcur : cur[J]? = some (.int .u8 x.toNat) := by
        have h1 : (cur.toList.take i)[J]? = some (.int .u8 x.toNat) := by rw [htk, hx]; simp [Lib.byteCells, hJA]
        rw [List.getElem?_take] at h1
        simpa [hJi] using h1
      have hcc : w7.cell? ⟨gc, J, none⟩ = some (.int .u8 x.toNat) := by rw [cell_of_row w7 _ J _ _ _ hrow]; exact hcur
      obtain ⟨z, hz⟩ : ∃ z : UInt8, z = UInt8.ofNat y := ⟨_, rfl⟩
      have hzn : z.toNat = y := by rw [hz]; exact toNat_of y hy
      have hxk := bits_xor_nat .u8 8 (by decide) wraps_u8 x.toNat z.toNat x.toNat_lt z.toNat_lt
      rw [← UInt8.toNat_xor] at hxk
      have hxz : A = A.take J ++ x :: A.drop (J + 1) := by rw [hx, ← List.drop_eq_getElem_cons hJA]; exact (List.take_append_drop J A).symm
      have hset : A.set J (x ^^^ z) = A.take J ++ (x ^^^ z) :: A.drop (J + 1) := List.set_eq_take_append_cons_drop.trans (if_pos hJA)
      have hne : ¬ crc (A.set J (x ^^^ z)) = crc A := by
        intro h
        rw [hset] at h
        conv at h => rhs; rw [hxz]
        have h2 := crc_change _ _ _ _ h
        have h3 := congrArg (x ^^^ ·) h2
        simp only [← UInt8.xor_assoc, UInt8.xor_self, UInt8.zero_xor] at h3
        have := HYN.out.2
        rw [h3] at hzn
        exact this hzn.symm
      have HNE := Aside.mk hne
      obtain ⟨XZ, hXZ⟩ : ∃ XZ, x ^^^ z = XZ := ⟨_, rfl⟩
      rw [hXZ, hzn] at hxk
      rw [hXZ] at HNE
      obtain ⟨X, hX⟩ : ∃ X, x.toNat = X := ⟨_, rfl⟩
      obtain ⟨K, hK⟩ : ∃ K, XZ.toNat = K := ⟨_, rfl⟩
      rw [hX] at hcc hxk
      rw [hK] at hxk
      have HK := Aside.mk hK
      have HJ := Aside.mk hJA
      clear ho7 hb7 h71 hrow hcsz htk hcap hccm hgcl hJ hJA hcur hz hzn hxz hset hne hXZ hX hK hx
      refine region_list (T := tab2 [
          Sq.val (.slice (some ⟨gc, 0, none⟩) i cc),
          Sq.val (.int .u16 at'),
          Sq.val (.int .i64 at'),
          Sq.val (.slice aoa i capa),
          Sq.val (.int .i64 i),
          Sq.val (.int .i64 J),
          Sq.val (.slice (some ⟨gc, 0, none⟩) i cc),
          Sq.val (.int .u16 at'),
          Sq.val (.int .i64 at'),
          Sq.val (.slice aoa i capa),
          Sq.val (.int .i64 i),
          Sq.val (.int .i64 J),
          Sq.val (.pointer (some ⟨gc, J, none⟩)),
          Sq.val (.int .u8 X),
          Sq.val (.int .u8 y),
          Sq.val (.int .u8 K),
          Sq.val (.pointer (some ⟨gc, J, none⟩))]) 17
        [_, _, _, _, _, _, _, _, _, _, _, _, _, _, _, _, _, _] (by kernel_rfl) (by kernel_rfl) (by kernel_rfl) (by kernel_rfl) (by kernel_rfl) (by kernel_rfl) rfl ?_ ?_
      · refine AllIn.cons ?_ ?_
        · intro a w hz hb ho hg
          have e13 : a.tmps.getD 13 undef = .slice (some ⟨gc, 0, none⟩) i cc := ho 13 (by kernel_rfl)
          have f13 := e13; rw [Array.getD_eq_getD_getElem?] at f13
          exact Or.inl ⟨wanted_none rfl, wp_value hb.size (by simp [execOp, Act.eval, e13, f13, go_sem]) (Below.refl _ _) rfl⟩
        refine AllIn.cons ?_ ?_
        · intro a w hz hb ho hg
          have e2 : a.tmps.getD 2 undef = .int .u16 at' := ho 2 (by kernel_rfl)
          have f2 := e2; rw [Array.getD_eq_getD_getElem?] at f2
          exact Or.inl ⟨wanted_none rfl, wp_value hb.size (by simp [execOp, Act.eval, e2, f2, go_sem]) (Below.refl _ _) rfl⟩
        refine AllIn.cons ?_ ?_
        · intro a w hz hb ho hg
          have e75 : a.tmps.getD 75 undef = .int .u16 at' := got_of hg (j := 1) rfl rfl rfl
          have f75 := e75; rw [Array.getD_eq_getD_getElem?] at f75
          exact Or.inl ⟨wanted_none rfl, wp_value hb.size (by simp [execOp, Act.eval, e75, f75, hat, go_sem]) (Below.refl _ _) rfl⟩
        refine AllIn.cons ?_ ?_
        · intro a w hz hb ho hg
          have e0 : a.tmps.getD 0 undef = .slice aoa i capa := ho 0 (by kernel_rfl)
          have f0 := e0; rw [Array.getD_eq_getD_getElem?] at f0
          exact Or.inl ⟨wanted_none rfl, wp_value hb.size (by simp [execOp, Act.eval, e0, f0, go_sem]) (Below.refl _ _) rfl⟩
        refine AllIn.cons ?_ ?_
        · intro a w hz hb ho hg
          have e77 : a.tmps.getD 77 undef = .slice aoa i capa := got_of hg (j := 3) rfl rfl rfl
          have f77 := e77; rw [Array.getD_eq_getD_getElem?] at f77
          exact Or.inl ⟨wanted_none rfl, wp_value hb.size (by simp [execOp, Act.eval, e77, f77, go_sem]) (Below.refl _ _) rfl⟩
        refine AllIn.cons ?_ ?_
        · intro a w hz hb ho hg
          have e76 : a.tmps.getD 76 undef = .int .i64 at' := got_of hg (j := 2) rfl rfl rfl
          have e78 : a.tmps.getD 78 undef = .int .i64 i := got_of hg (j := 4) rfl rfl rfl
          have f76 := e76; rw [Array.getD_eq_getD_getElem?] at f76
          have f78 := e78; rw [Array.getD_eq_getD_getElem?] at f78
          exact Or.inl ⟨wanted_none rfl, wp_value hb.size (by simp [execOp, Act.eval, e76, e78, f76, f78, hrem, hrem2, hn1, go_sem]) (Below.refl _ _) rfl⟩
        refine AllIn.cons ?_ ?_
        · intro a w hz hb ho hg
          have e13 : a.tmps.getD 13 undef = .slice (some ⟨gc, 0, none⟩) i cc := ho 13 (by kernel_rfl)
          have f13 := e13; rw [Array.getD_eq_getD_getElem?] at f13
          exact Or.inl ⟨wanted_none rfl, wp_value hb.size (by simp [execOp, Act.eval, e13, f13, go_sem]) (Below.refl _ _) rfl⟩
        refine AllIn.cons ?_ ?_
        · intro a w hz hb ho hg
          have e2 : a.tmps.getD 2 undef = .int .u16 at' := ho 2 (by kernel_rfl)
          have f2 := e2; rw [Array.getD_eq_getD_getElem?] at f2
          exact Or.inl ⟨wanted_none rfl, wp_value hb.size (by simp [execOp, Act.eval, e2, f2, go_sem]) (Below.refl _ _) rfl⟩
        refine AllIn.cons ?_ ?_
        · intro a w hz hb ho hg
          have e81 : a.tmps.getD 81 undef = .int .u16 at' := got_of hg (j := 7) rfl rfl rfl
          have f81 := e81; rw [Array.getD_eq_getD_getElem?] at f81
          exact Or.inl ⟨wanted_none rfl, wp_value hb.size (by simp [execOp, Act.eval, e81, f81, hat, go_sem]) (Below.refl _ _) rfl⟩
        refine AllIn.cons ?_ ?_
        · intro a w hz hb ho hg
          have e0 : a.tmps.getD 0 undef = .slice aoa i capa := ho 0 (by kernel_rfl)
          have f0 := e0; rw [Array.getD_eq_getD_getElem?] at f0
          exact Or.inl ⟨wanted_none rfl, wp_value hb.size (by simp [execOp, Act.eval, e0, f0, go_sem]) (Below.refl _ _) rfl⟩
        refine AllIn.cons ?_ ?_
        · intro a w hz hb ho hg
          have e83 : a.tmps.getD 83 undef = .slice aoa i capa := got_of hg (j := 9) rfl rfl rfl
          have f83 := e83; rw [Array.getD_eq_getD_getElem?] at f83
          exact Or.inl ⟨wanted_none rfl, wp_value hb.size (by simp [execOp, Act.eval, e83, f83, go_sem]) (Below.refl _ _) rfl⟩
        refine AllIn.cons ?_ ?_
        · intro a w hz hb ho hg
          have e82 : a.tmps.getD 82 undef = .int .i64 at' := got_of hg (j := 8) rfl rfl rfl
          have e84 : a.tmps.getD 84 undef = .int .i64 i := got_of hg (j := 10) rfl rfl rfl
          have f82 := e82; rw [Array.getD_eq_getD_getElem?] at f82
          have f84 := e84; rw [Array.getD_eq_getD_getElem?] at f84
          exact Or.inl ⟨wanted_none rfl, wp_value hb.size (by simp [execOp, Act.eval, e82, e84, f82, f84, hrem, hrem2, hn1, go_sem]) (Below.refl _ _) rfl⟩
        refine AllIn.cons ?_ ?_
        · intro a w hz hb ho hg
          have e80 : a.tmps.getD 80 undef = .slice (some ⟨gc, 0, none⟩) i cc := got_of hg (j := 6) rfl rfl rfl
          have e85 : a.tmps.getD 85 undef = .int .i64 J := got_of hg (j := 11) rfl rfl rfl
          have f80 := e80; rw [Array.getD_eq_getD_getElem?] at f80
          have f85 := e85; rw [Array.getD_eq_getD_getElem?] at f85
          exact Or.inl ⟨wanted_none rfl, wp_value hb.size (by simp [execOp, Act.eval, e80, e85, f80, f85, hJn, go_sem]) (Below.refl _ _) rfl⟩
        refine AllIn.cons ?_ ?_
        · intro a w hz hb ho hg
          have e86 : a.tmps.getD 86 undef = .pointer (some ⟨gc, J, none⟩) := got_of hg (j := 12) rfl rfl rfl
          have f86 := e86; rw [Array.getD_eq_getD_getElem?] at f86
          have q := (hb.cell (p := ⟨gc, J, none⟩) hgc).trans hcc
          exact Or.inl ⟨wanted_none rfl, wp_value hb.size (by simp [execOp, Act.eval, e86, f86, q, go_sem]) (Below.refl _ _) rfl⟩
        refine AllIn.cons ?_ ?_
        · intro a w hz hb ho hg
          have e3 : a.tmps.getD 3 undef = .int .u8 y := ho 3 (by kernel_rfl)
          have f3 := e3; rw [Array.getD_eq_getD_getElem?] at f3
          exact Or.inl ⟨wanted_none rfl, wp_value hb.size (by simp [execOp, Act.eval, e3, f3, go_sem]) (Below.refl _ _) rfl⟩
        refine AllIn.cons ?_ ?_
        · intro a w hz hb ho hg
          have e87 : a.tmps.getD 87 undef = .int .u8 X := got_of hg (j := 13) rfl rfl rfl
          have e88 : a.tmps.getD 88 undef = .int .u8 y := got_of hg (j := 14) rfl rfl rfl
          have f87 := e87; rw [Array.getD_eq_getD_getElem?] at f87
          have f88 := e88; rw [Array.getD_eq_getD_getElem?] at f88
          exact Or.inl ⟨wanted_none rfl, wp_value hb.size (by simp [execOp, Act.eval, e87, e88, f87, f88, hxk, go_sem]) (Below.refl _ _) rfl⟩
        refine AllIn.cons ?_ ?_
        · intro a w hz hb ho hg
          have e74 : a.tmps.getD 74 undef = .slice (some ⟨gc, 0, none⟩) i cc := got_of hg (j := 0) rfl rfl rfl
          have e79 : a.tmps.getD 79 undef = .int .i64 J := got_of hg (j := 5) rfl rfl rfl
          have f74 := e74; rw [Array.getD_eq_getD_getElem?] at f74
          have f79 := e79; rw [Array.getD_eq_getD_getElem?] at f79
          exact Or.inl ⟨wanted_none rfl, wp_value hb.size (by simp [execOp, Act.eval, e74, e79, f74, f79, hJn, go_sem]) (Below.refl _ _) rfl⟩
        exact AllIn.nil
      intro a w16 hd hz hb ho hg
      have e74 : a.tmps.getD 74 undef = .slice (some ⟨gc, 0, none⟩) i cc := hg 0 (by decide) _ _ rfl rfl
      have e75 : a.tmps.getD 75 undef = .int .u16 at' := hg 1 (by decide) _ _ rfl rfl
      have e76 : a.tmps.getD 76 undef = .int .i64 at' := hg 2 (by decide) _ _ rfl rfl
      have e77 : a.tmps.getD 77 undef = .slice aoa i capa := hg 3 (by decide) _ _ rfl rfl
      have e78 : a.tmps.getD 78 undef = .int .i64 i := hg 4 (by decide) _ _ rfl rfl
      have e79 : a.tmps.getD 79 undef = .int .i64 J := hg 5 (by decide) _ _ rfl rfl
      have e80 : a.tmps.getD 80 undef = .slice (some ⟨gc, 0, none⟩) i cc := hg 6 (by decide) _ _ rfl rfl
      have e81 : a.tmps.getD 81 undef = .int .u16 at' := hg 7 (by decide) _ _ rfl rfl
      have e82 : a.tmps.getD 82 undef = .int .i64 at' := hg 8 (by decide) _ _ rfl rfl
      have e83 : a.tmps.getD 83 undef = .slice aoa i capa := hg 9 (by decide) _ _ rfl rfl
      have e84 : a.tmps.getD 84 undef = .int .i64 i := hg 10 (by decide) _ _ rfl rfl
      have e85 : a.tmps.getD 85 undef = .int .i64 J := hg 11 (by decide) _ _ rfl rfl
      have e86 : a.tmps.getD 86 undef = .pointer (some ⟨gc, J, none⟩) := hg 12 (by decide) _ _ rfl rfl
      have e87 : a.tmps.getD 87 undef = .int .u8 X := hg 13 (by decide) _ _ rfl rfl
      have e88 : a.tmps.getD 88 undef = .int .u8 y := hg 14 (by decide) _ _ rfl rfl
      have e89 : a.tmps.getD 89 undef = .int .u8 K := hg 15 (by decide) _ _ rfl rfl
      have e90 : a.tmps.getD 90 undef = .pointer (some ⟨gc, J, none⟩) := hg 16 (by decide) _ _ rfl rfl
      have hA := ho.frame hz
      simp only [List.take_succ_cons, List.take_zero, List.filterMap_cons, List.filterMap_nil, List.foldl_cons, List.foldl_nil, e74, e75, e76, e77, e78, e79, e80, e81, e82, e83, e84, e85, e86, e87, e88, e89, e90, List.setIfInBounds_toArray, List.set_cons_zero, List.set_cons_succ] at hA
      obtain ⟨tm, df⟩ := a
      simp only at hd hA
      subst hd
      subst hA
      simp only [List.drop_succ_cons, List.drop_zero]
      have HH16 := Aside.mk hb
      clear hz ho hg hb e74 e75 e76 e77 e78 e79 e80 e81 e82 e83 e84 e85 e86 e87 e88 e89 e90
      have hrow16 : w16.heap[gc]? = some (.cells cur 5 (0, 0)) := by rw [HH16.out.block _ hgc]; exact HROW.out
      have hcc16 : w16.cell? ⟨gc, J, none⟩ = some (.int .u8 X) := (HH16.out.cell (p := ⟨gc, J, none⟩) hgc).trans hcc
      have hfr : w16.frozen? ⟨gc, J, none⟩ = false := by simp [World.frozen?, hrow16]
      have hrow17 := set1 hrow16 (i := J) (.int .u8 K)
      have HB17 : Aside (Below w'.heap.size w' (w16.setCell ⟨gc, J, none⟩ (.int .u8 K))) := ⟨(HB7.out.trans (HH16.out.mono HB7.out.size)).setCell (p := ⟨gc, J, none⟩) HGC.out _⟩
      have hT17 : Txt (w16.setCell ⟨gc, J, none⟩ (.int .u8 K)) (.slice (some ⟨gc, 0, none⟩) i cc) (A.set J XZ) := by
        have e1 : Own 0 (w16.setCell ⟨gc, J, none⟩ (.int .u8 K)) (.slice (some ⟨gc, 0, none⟩) i cc) (A.set J XZ) := by
          refine ⟨by simp [len_cells], Or.inr ⟨gc, cc, _, ?_, Nat.zero_le _, hrow17, ?_, HCAP.out.2, ?_, ?_⟩⟩
          · rw [List.length_set, HN.out.1]
          · rw [List.length_set, HN.out.1]; exact HCAP.out.1
          · simpa using HCUR.out.1
          · rw [List.length_set, HN.out.1, Nat.mul_one, Array.toList_setIfInBounds, List.take_set, HCUR.out.2]
            simp [Lib.byteCells, List.map_set, HK.out]
        exact e1.txt
      have HT17 := Aside.mk hT17
      have HTA17 : Aside (Txt (w16.setCell ⟨gc, J, none⟩ (.int .u8 K)) (.slice aoa i capa) A) := ⟨HTA.out.below HB17.out⟩
      clear hT17 hrow17 hrow16 hcc hxk hrem hrem2
      go_wp2_with fail
      obtain ⟨c1, hc1⟩ : ∃ c, crc (A.set J XZ) = c := ⟨_, rfl⟩
      have HC1 := Aside.mk hc1
      clear hc1
      refine (Checksum_txt _ _ _ HT17.out).mono ?_
      rintro e w18 ⟨rfl, b18⟩
      rw [HC1.out]
      have HTA18 : Aside (Txt w18 (.slice aoa i capa) A) := ⟨HTA17.out.below b18⟩
      have HB18 : Aside (Below w'.heap.size w' w18) := ⟨HB17.out.trans (b18.mono HB17.out.size)⟩
      clear b18
      go_wp2_with fail
      refine (Checksum_txt _ _ _ HTA18.out).mono ?_
      rintro e w19 ⟨rfl, b19⟩
      rw [HHCA.out]
      have hcc : ((c1 : Int) != (cA : Int)) = true := by
        rw [bne_iff_ne]
        intro h
        have h' : c1 = cA := by omega
        exact HNE.out (by rw [HC1.out, HHCA.out]; exact h')
      have HB19 : Aside (Below w'.heap.size w' w19) := ⟨HB18.out.trans (b19.mono HB18.out.size)⟩
      clear b19
      go_wp2_with fail
      go_ret
      exact ⟨rfl, HW2.out.trans (HB19.out.mono HW2.out.size)⟩
theorem u16_of {n : Int} (h : (Lit.int .u16 n).wf = true) : 0 ≤ n ∧ n < 65536 := by
  simp [Lit.wf, IntKind.min, IntKind.max, IntKind.signed, IntKind.bits] at h
  exact ⟨by omega, by omega⟩
theorem u8_of' {n : Int} (h : (Lit.int .u8 n).wf = true) : 0 ≤ n ∧ n < 256 := by
  simp [Lit.wf, IntKind.min, IntKind.max, IntKind.signed, IntKind.bits] at h
  exact ⟨by omega, by omega⟩
theorem CodecChecksumIsAffine_walk (va : Value) (A : List UInt8) (vb : Value) (B : List UInt8) (c d : Int) {W : World} (hA : Txt W va A) (hB : Txt W vb B) (hc : (Lit.int .u16 c).wf = true) (hd : (Lit.int .u8 d).wf = true) (w : World) (hw : w = W) :
    Calls Tryz.prog 7 #[va, vb, .int .u16 c, .int .u8 d] w fun e w' => e = .returned (.bool true) ∧ Below w.heap.size w w' := by
  subst hw
  obtain ⟨h0, h1⟩ := u16_of hc
  obtain ⟨h2, h3⟩ := u8_of' hd
  obtain ⟨j, rfl⟩ : ∃ j : Nat, c = (j : Int) := ⟨c.toNat, by omega⟩
  obtain ⟨k, rfl⟩ : ∃ j : Nat, d = (j : Int) := ⟨d.toNat, by omega⟩
  exact CodecChecksumIsAffine_in va vb A B j k w hA hB (by omega) (by omega)
end Go.Proofs.YteljhjljigbcjaaGreatDoor.Cv
