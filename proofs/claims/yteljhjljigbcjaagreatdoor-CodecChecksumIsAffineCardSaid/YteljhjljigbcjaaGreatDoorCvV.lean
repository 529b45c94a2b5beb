/- Contracts of the reference's MadeMessage and SameMessage. -/
import Derived.Test.YteljhjljigbcjaaGreatDoorCvY
import Derived.Test.YteljhjljigbcjaaGreatDoorCvO
set_option linter.unusedVariables false
set_option linter.unusedSimpArgs false
namespace Go.Proofs.YteljhjljigbcjaaGreatDoor.Cv
open Go.RowKit

set_option maxRecDepth 100000 in
set_option maxHeartbeats 2000000 in
theorem SameMessage_true (a b c d s k : Int) (key : ByteArray) (u v : Value) (L : List UInt8) (w : World) (hu : Txt w u L) (hv : Txt w v L) :
    Calls Tryz.prog 24 #[msgV a b c d s k key u, msgV a b c d s k key v] w fun e w' => e = .returned (.bool true) ∧ Below w.heap.size w w' := by
  have hb : ∀ x y, Below w.heap.size w ((w.alloc x).alloc y) := fun x y => ((Below.refl _ _).alloc (Nat.le_refl _) _).alloc (by simp) _
  have hS : ∀ x y, Calls Tryz.prog 21 #[entV k key u, entV k key v] ((w.alloc x).alloc y) fun e w' => e = .returned (.bool true) ∧ Below ((w.alloc x).alloc y).heap.size ((w.alloc x).alloc y) w' := fun x y => Same_true k key u v L _ (hu.below (hb x y)) (hv.below (hb x y))
  have HB := Aside.mk hb
  have HS := Aside.mk hS
  obtain ⟨a1, p1, hu1, -, -, -, -⟩ := hu
  obtain ⟨a2, p2, hv1, -, -, -, -⟩ := hv
  obtain ⟨n, hn⟩ : ∃ n, L.length = n := ⟨_, rfl⟩
  rw [hn] at hu1 hv1
  subst hu1
  subst hv1
  unfold msgV
  clear hn hb hS
  go_enter Tryz.func24, Tryz.ntmps24
  go_wp2_with fail
  refine (HS.out _ _).mono ?_
  rintro e w1 ⟨rfl, b1⟩
  have hbe := (HB.out (.cells #[.int .i64 a, .int .i64 b, .int .i64 c, .int .i64 d, .int .u32 s, .int .i64 k, .string key, .slice a1 n p1] 27) (.cells #[.int .i64 a, .int .i64 b, .int .i64 c, .int .i64 d, .int .u32 s, .int .i64 k, .string key, .slice a2 n p2] 27))
  have HE : Aside (Below w.heap.size w w1) := ⟨hbe.trans (b1.mono hbe.size)⟩
  clear b1 hbe
  go_wp2_with fail
  go_ret
  exact ⟨rfl, HE.out⟩

theorem andm (k : Int) (m : Nat) (hm : m < 2 ^ 63) : ∃ x : Int, bits .and .i64 k (m : Int) = x ∧ 0 ≤ x ∧ x ≤ m := by
  refine ⟨_, rfl, ?_⟩
  have e : bits .and .i64 k (m : Int) = IntKind.i64.wrap (((BitVec.ofInt 64 k &&& BitVec.ofInt 64 (m : Int)).toNat : Nat) : Int) := rfl
  have hh : (BitVec.ofInt 64 (m : Int)).toNat = m := by rw [BitVec.ofInt_natCast, BitVec.toNat_ofNat]; omega
  rw [e, BitVec.toNat_and, hh]
  have := Nat.and_le_right (n := (BitVec.ofInt 64 k).toNat) (m := m)
  rw [IntKind.wrap_i64]
  omega
theorem set1 {w : World} {k i : Nat} {cs : Array Value} {T : TypeId} {m : Nat × Nat} (h : w.heap[k]? = some (.cells cs T m)) (x : Value) : (w.setCell ⟨k, i, none⟩ x).heap[k]? = some (.cells (cs.setIfInBounds i x) T m) := by
  rw [setCell_eq_setRow w k i _ _ _ _ h]; exact setRow_heap w k _ _ _ _ h
theorem set1' {w : World} {k i : Nat} {cs cs' : Array Value} {T : TypeId} {m : Nat × Nat} (h : w.heap[k]? = some (.cells cs T m)) (x : Value) (e : cs.setIfInBounds i x = cs') : (w.setCell ⟨k, i, none⟩ x).heap[k]? = some (.cells cs' T m) := by rw [← e]; exact set1 h x
theorem made_z {m1 a b c s : Int} (h1 : 0 ≤ m1 ∧ m1 ≤ 3) (ha : 0 ≤ a ∧ a ≤ 15) (hb : 0 ≤ b ∧ b ≤ 65535) (hc : 0 ≤ c ∧ c ≤ 65535) {e : Ent} (he : isZ e ∨ okE e) : okM ⟨1 + m1, a, b, c, s, e⟩ :=
  ⟨⟨by show 1 ≤ 1 + m1; omega, by show 1 + m1 ≤ 4; omega⟩, ⟨ha.1, by show a ≤ _; omega⟩, ⟨hb.1, by show b ≤ _; omega⟩, ⟨hc.1, by show c ≤ _; omega⟩, he⟩

/-- the last stores of MadeMessage, and its return -/
theorem made_end {w W : World} {g1 : Nat} {tm : Array Value} {a b c d s k : Int} {key : ByteArray} {ao : Option Addr} {n cap : Nat} {B : List UInt8} (hb : Below w.heap.size w W) (hg : w.heap.size ≤ g1)
    (hr : W.heap[g1]? = some (.cells #[.int .i64 0, .int .i64 0, .int .i64 0, .int .i64 0, .int .u32 0, .int .i64 0, .string ⟨#[]⟩, .slice none 0 0] 27 (0, 0))) (hT' : Txt w (.slice ao n cap) B) (hok : okM ⟨a, b, c, d, s, ⟨k, key.data.toList, B⟩⟩) (hB : B.length ≤ 60) (h2 : tm.getD 2 undef = .pointer (some ⟨g1, 0, none⟩)) :
    bodyPost Tryz.prog Tryz.f22 (fun e w' => Below w.heap.size w w' ∧ ∃ a' b' c' d' k' key' u' B', e = .returned (msgV a' b' c' d' s k' key' u') ∧ okM ⟨a', b', c', d', s, ⟨k', key'.data.toList, B'⟩⟩ ∧ Txt w' u' B' ∧ B'.length ≤ 60) Exit.ret ⟨tm, []⟩
      ((((((((W.setCell ⟨g1, 0, none⟩ (.int .i64 a)).setCell ⟨g1, 1, none⟩ (.int .i64 b)).setCell ⟨g1, 2, none⟩ (.int .i64 c)).setCell ⟨g1, 3, none⟩ (.int .i64 d)).setCell ⟨g1, 4, none⟩ (.int .u32 s)).setCell ⟨g1, 5, none⟩ (.int .i64 k)).setCell ⟨g1, 6, none⟩ (.string key)).setCell ⟨g1, 7, none⟩ (.slice ao n cap)) := by
  have r0 := hr
  have r1 := set1' r0 (i := 0) (.int .i64 a) (cs' := #[.int .i64 a, .int .i64 0, .int .i64 0, .int .i64 0, .int .u32 0, .int .i64 0, .string ⟨#[]⟩, .slice none 0 0]) rfl
  have r2 := set1' r1 (i := 1) (.int .i64 b) (cs' := #[.int .i64 a, .int .i64 b, .int .i64 0, .int .i64 0, .int .u32 0, .int .i64 0, .string ⟨#[]⟩, .slice none 0 0]) rfl
  have r3 := set1' r2 (i := 2) (.int .i64 c) (cs' := #[.int .i64 a, .int .i64 b, .int .i64 c, .int .i64 0, .int .u32 0, .int .i64 0, .string ⟨#[]⟩, .slice none 0 0]) rfl
  have r4 := set1' r3 (i := 3) (.int .i64 d) (cs' := #[.int .i64 a, .int .i64 b, .int .i64 c, .int .i64 d, .int .u32 0, .int .i64 0, .string ⟨#[]⟩, .slice none 0 0]) rfl
  have r5 := set1' r4 (i := 4) (.int .u32 s) (cs' := #[.int .i64 a, .int .i64 b, .int .i64 c, .int .i64 d, .int .u32 s, .int .i64 0, .string ⟨#[]⟩, .slice none 0 0]) rfl
  have r6 := set1' r5 (i := 5) (.int .i64 k) (cs' := #[.int .i64 a, .int .i64 b, .int .i64 c, .int .i64 d, .int .u32 s, .int .i64 k, .string ⟨#[]⟩, .slice none 0 0]) rfl
  have r7 := set1' r6 (i := 6) (.string key) (cs' := #[.int .i64 a, .int .i64 b, .int .i64 c, .int .i64 d, .int .u32 s, .int .i64 k, .string key, .slice none 0 0]) rfl
  have r8 := set1' r7 (i := 7) (.slice ao n cap) (cs' := #[.int .i64 a, .int .i64 b, .int .i64 c, .int .i64 d, .int .u32 s, .int .i64 k, .string key, .slice ao n cap]) rfl
  have hb' := (((((((hb.setCell (p := ⟨g1, 0, none⟩) hg (.int .i64 a)).setCell (p := ⟨g1, 1, none⟩) hg (.int .i64 b)).setCell (p := ⟨g1, 2, none⟩) hg (.int .i64 c)).setCell (p := ⟨g1, 3, none⟩) hg (.int .i64 d)).setCell (p := ⟨g1, 4, none⟩) hg (.int .u32 s)).setCell (p := ⟨g1, 5, none⟩) hg (.int .i64 k)).setCell (p := ⟨g1, 6, none⟩) hg (.string key)).setCell (p := ⟨g1, 7, none⟩) hg (.slice ao n cap)
  refine bodyPost_ret (results_cell_row rfl _ _ g1 27 #[.int .i64 a, .int .i64 b, .int .i64 c, .int .i64 d, .int .u32 s, .int .i64 k, .string key, .slice ao n cap] (0, 0) _ h2 r8 Tryz.underlying27 rfl (by kernel_rfl)) rfl ?_
  refine ⟨hb', a, b, c, d, k, key, .slice ao n cap, B, rfl, hok, ?_, hB⟩
  exact hT'.below hb'
set_option maxRecDepth 100000 in
set_option maxHeartbeats 4000000 in
theorem MadeMessage_txt (a b c d s k : Int) (key : ByteArray) (u : Value) (B : List UInt8) (w : World) (h : Txt w u B) :
    Calls Tryz.prog 22 #[msgV a b c d s k key u] w fun e w' => Below w.heap.size w w' ∧ ∃ a' b' c' d' k' key' u' B', e = .returned (msgV a' b' c' d' s k' key' u') ∧ okM ⟨a', b', c', d', s, ⟨k', key'.data.toList, B'⟩⟩ ∧ Txt w' u' B' ∧ B'.length ≤ 60 := by
  obtain ⟨x1, e1, h1⟩ := andm a 3 (by decide)
  obtain ⟨x2, e2, h2⟩ := andm b 15 (by decide)
  obtain ⟨x3, e3, h3⟩ := andm c 65535 (by decide)
  obtain ⟨x4, e4, h4⟩ := andm d 65535 (by decide)
  obtain ⟨x5, e5, h5⟩ := andm k 1 (by decide)
  have e1 : bits .and .i64 a 3 = x1 := e1
  have e2 : bits .and .i64 b 15 = x2 := e2
  have e3 : bits .and .i64 c 65535 = x3 := e3
  have e4 : bits .and .i64 d 65535 = x4 := e4
  have e5 : bits .and .i64 k 1 = x5 := e5
  have hw1 : IntKind.i64.wrap (1 + x1) = 1 + x1 := IntWalk.i64_in _ (by omega)
  have H1 := Aside.mk h1
  have H2 := Aside.mk h2
  have H3 := Aside.mk h3
  have H4 := Aside.mk h4
  have H5 := Aside.mk h5
  clear h1 h2 h3 h4 h5
  have hT := Aside.mk h
  obtain ⟨ao, cap, rfl, h0, -, -, -⟩ := h
  have H0 := Aside.mk h0
  clear h0
  obtain ⟨n, hn⟩ : ∃ n, B.length = n := ⟨_, rfl⟩
  rw [hn] at hT
  have HN := Aside.mk hn
  unfold msgV
  rw [hn]
  clear hn
  go_enter Tryz.func22, Tryz.ntmps22
  go_upto_region 1 with fail
  have q0 : ((w.alloc (.cells #[.int .i64 a, .int .i64 b, .int .i64 c, .int .i64 d, .int .u32 s, .int .i64 k, .string key, .slice ao n cap] 27)).alloc (.cells #[.int .i64 0, .int .i64 0, .int .i64 0, .int .i64 0, .int .u32 0, .int .i64 0, .string ⟨#[]⟩, .slice none 0 0] 27)).heap[w.heap.size]? = some (.cells #[.int .i64 a, .int .i64 b, .int .i64 c, .int .i64 d, .int .u32 s, .int .i64 k, .string key, .slice ao n cap] 27 (0, 0)) := by rw [Below.heap_alloc _ _ _ (by simp)]; exact heap_alloc_last _ _
  have q1 : ((w.alloc (.cells #[.int .i64 a, .int .i64 b, .int .i64 c, .int .i64 d, .int .u32 s, .int .i64 k, .string key, .slice ao n cap] 27)).alloc (.cells #[.int .i64 0, .int .i64 0, .int .i64 0, .int .i64 0, .int .u32 0, .int .i64 0, .string ⟨#[]⟩, .slice none 0 0] 27)).heap[w.heap.size + 1]? = some (.cells #[.int .i64 0, .int .i64 0, .int .i64 0, .int .i64 0, .int .u32 0, .int .i64 0, .string ⟨#[]⟩, .slice none 0 0] 27 (0, 0)) := by
    have := heap_alloc_last (w.alloc (.cells #[.int .i64 a, .int .i64 b, .int .i64 c, .int .i64 d, .int .u32 s, .int .i64 k, .string key, .slice ao n cap] 27)) (.cells #[.int .i64 0, .int .i64 0, .int .i64 0, .int .i64 0, .int .u32 0, .int .i64 0, .string ⟨#[]⟩, .slice none 0 0] 27)
    simpa using this
  have hbw : Below w.heap.size w ((w.alloc (.cells #[.int .i64 a, .int .i64 b, .int .i64 c, .int .i64 d, .int .u32 s, .int .i64 k, .string key, .slice ao n cap] 27)).alloc (.cells #[.int .i64 0, .int .i64 0, .int .i64 0, .int .i64 0, .int .u32 0, .int .i64 0, .string ⟨#[]⟩, .slice none 0 0] 27)) := ((Below.refl _ _).alloc (Nat.le_refl _) _).alloc (by simp) _
  generalize (w.alloc (.cells #[.int .i64 a, .int .i64 b, .int .i64 c, .int .i64 d, .int .u32 s, .int .i64 k, .string key, .slice ao n cap] 27)).alloc (.cells #[.int .i64 0, .int .i64 0, .int .i64 0, .int .i64 0, .int .u32 0, .int .i64 0, .string ⟨#[]⟩, .slice none 0 0] 27) = W at q0 q1 hbw ⊢
  obtain ⟨g0, hg0⟩ : ∃ g, w.heap.size = g := ⟨_, rfl⟩
  obtain ⟨g1, hg1⟩ : ∃ g, g0 + 1 = g := ⟨_, rfl⟩
  simp only [hg0] at q0 q1 ⊢
  simp only [hg1] at q1 ⊢
  have c0 : W.cell? ⟨g0, 0, none⟩ = some (.int .i64 a) := by rw [cell_of_row W _ 0 _ _ _ q0]; rfl
  have c1 : W.cell? ⟨g0, 1, none⟩ = some (.int .i64 b) := by rw [cell_of_row W _ 1 _ _ _ q0]; rfl
  have c2 : W.cell? ⟨g0, 2, none⟩ = some (.int .i64 c) := by rw [cell_of_row W _ 2 _ _ _ q0]; rfl
  have c3 : W.cell? ⟨g0, 3, none⟩ = some (.int .i64 d) := by rw [cell_of_row W _ 3 _ _ _ q0]; rfl
  have c4 : W.cell? ⟨g0, 4, none⟩ = some (.int .u32 s) := by rw [cell_of_row W _ 4 _ _ _ q0]; rfl
  have c5 : W.cell? ⟨g0, 5, none⟩ = some (.int .i64 k) := by rw [cell_of_row W _ 5 _ _ _ q0]; rfl
  have c6 : W.cell? ⟨g0, 6, none⟩ = some (.string key) := by rw [cell_of_row W _ 6 _ _ _ q0]; rfl
  have c7 : W.cell? ⟨g0, 7, none⟩ = some (.slice ao n cap) := by rw [cell_of_row W _ 7 _ _ _ q0]; rfl
  have hlt0 : g0 < W.heap.size := lt_of_heap q0
  have HG : Aside (w.heap.size = g0 ∧ g0 + 1 = g1 ∧ g1 < W.heap.size) := ⟨hg0, hg1, lt_of_heap q1⟩
  have HQ0 := Aside.mk q0
  have HQ1 := Aside.mk q1
  have HBW := Aside.mk hbw
  clear q0 q1 hg0 hg1 hbw
  go_upto_region 2 with fail
  have q2 := heap_alloc_last W (.cells #[.int .i64 (1 + x1), .int .i64 x2, .int .i64 x3, .int .i64 x4, .int .u32 s, .int .i64 0, .string ⟨#[]⟩, .slice none 0 0] 27)
  have hb2 : Below W.heap.size W (W.alloc (.cells #[.int .i64 (1 + x1), .int .i64 x2, .int .i64 x3, .int .i64 x4, .int .u32 s, .int .i64 0, .string ⟨#[]⟩, .slice none 0 0] 27)) := (Below.refl _ _).alloc (Nat.le_refl _) _
  generalize W.alloc (.cells #[.int .i64 (1 + x1), .int .i64 x2, .int .i64 x3, .int .i64 x4, .int .u32 s, .int .i64 0, .string ⟨#[]⟩, .slice none 0 0] 27) = W2 at q2 hb2 ⊢
  obtain ⟨g2, hg2⟩ : ∃ g, W.heap.size = g := ⟨_, rfl⟩
  have hp : g1 < W.heap.size := HG.out.2.2
  have p0 : W2.heap[g0]? = some (.cells #[.int .i64 a, .int .i64 b, .int .i64 c, .int .i64 d, .int .u32 s, .int .i64 k, .string key, .slice ao n cap] 27 (0, 0)) := by rw [hb2.block _ hlt0]; exact HQ0.out
  have p1 : W2.heap[g1]? = some (.cells #[.int .i64 0, .int .i64 0, .int .i64 0, .int .i64 0, .int .u32 0, .int .i64 0, .string ⟨#[]⟩, .slice none 0 0] 27 (0, 0)) := by rw [hb2.block _ hp]; exact HQ1.out
  have HB2 : Aside (Below w.heap.size w W2) := ⟨HBW.out.trans (hb2.mono HBW.out.size)⟩
  have HL : Aside (w.heap.size ≤ g1 ∧ w.heap.size ≤ g2 ∧ g0 < g1 ∧ g1 < g2 ∧ g2 < W2.heap.size) := ⟨by have := HG.out; omega, by have := HG.out; have := HBW.out.size; omega, by have := HG.out; omega, by omega, by rw [← hg2]; exact lt_of_heap q2⟩
  simp only [hg2] at q2 ⊢
  have hne : g1 ≠ g2 := by omega
  have HP0 := Aside.mk p0
  have HP1 := Aside.mk p1
  have HP2 := Aside.mk q2
  clear c0 c1 c2 c3 c4 c5 c6 c7 hlt0 hp hb2 hg2
  have c5 : W2.cell? ⟨g0, 5, none⟩ = some (.int .i64 k) := by rw [cell_of_row W2 _ 5 _ _ _ p0]; rfl
  have c6 : W2.cell? ⟨g0, 6, none⟩ = some (.string key) := by rw [cell_of_row W2 _ 6 _ _ _ p0]; rfl
  have c7 : W2.cell? ⟨g0, 7, none⟩ = some (.slice ao n cap) := by rw [cell_of_row W2 _ 7 _ _ _ p0]; rfl
  clear p0 p1 q2
  by_cases hx : x5 = 1
  · have hx' : (x5 == 1) = true := by rw [hx]; rfl
    clear hx
    go_wp2_with fail
    refine (MadeEntry_cut k key ao n cap B W2 (hT.out.below HB2.out) HN.out).mono ?_
    rintro e w3 ⟨b3, k', s', n3, rfl, hok, hn3, hB'⟩
    have HU := Aside.mk (made_take hT.out HN.out H0.out hn3)
    have r2 : w3.heap[g2]? = some (.cells #[.int .i64 (1 + x1), .int .i64 x2, .int .i64 x3, .int .i64 x4, .int .u32 s, .int .i64 0, .string ⟨#[]⟩, .slice none 0 0] 27 (0, 0)) := by rw [b3.block _ HL.out.2.2.2.2]; exact HP2.out
    have r1 : w3.heap[g1]? = some (.cells #[.int .i64 0, .int .i64 0, .int .i64 0, .int .i64 0, .int .u32 0, .int .i64 0, .string ⟨#[]⟩, .slice none 0 0] 27 (0, 0)) := by rw [b3.block _ (by have := HL.out; omega)]; exact HP1.out
    have HB3 : Aside (Below w.heap.size w w3) := ⟨HB2.out.trans (b3.mono HB2.out.size)⟩
    have HOK := Aside.mk hok
    have HBL := Aside.mk hB'
    clear c5 c6 c7 b3 hok hn3 hB'
    have d0 : w3.cell? ⟨g2, 0, none⟩ = some (.int .i64 (1 + x1)) := by rw [cell_of_row w3 _ 0 _ _ _ r2]; rfl
    have d1 : w3.cell? ⟨g2, 1, none⟩ = some (.int .i64 x2) := by rw [cell_of_row w3 _ 1 _ _ _ r2]; rfl
    have d2 : w3.cell? ⟨g2, 2, none⟩ = some (.int .i64 x3) := by rw [cell_of_row w3 _ 2 _ _ _ r2]; rfl
    have d3 : w3.cell? ⟨g2, 3, none⟩ = some (.int .i64 x4) := by rw [cell_of_row w3 _ 3 _ _ _ r2]; rfl
    have d4 : w3.cell? ⟨g2, 4, none⟩ = some (.int .u32 s) := by rw [cell_of_row w3 _ 4 _ _ _ r2]; rfl
    have d5 : w3.cell? ⟨g2, 5, none⟩ = some (.int .i64 0) := by rw [cell_of_row w3 _ 5 _ _ _ r2]; rfl
    have d6 : w3.cell? ⟨g2, 6, none⟩ = some (.string ⟨#[]⟩) := by rw [cell_of_row w3 _ 6 _ _ _ r2]; rfl
    have d7 : w3.cell? ⟨g2, 7, none⟩ = some (.slice none 0 0) := by rw [cell_of_row w3 _ 7 _ _ _ r2]; rfl
    have z0 : w3.cell? ⟨g1, 0, none⟩ = some (.int .i64 0) := by rw [cell_of_row w3 _ 0 _ _ _ r1]; rfl
    have z1 : w3.cell? ⟨g1, 1, none⟩ = some (.int .i64 0) := by rw [cell_of_row w3 _ 1 _ _ _ r1]; rfl
    have z2 : w3.cell? ⟨g1, 2, none⟩ = some (.int .i64 0) := by rw [cell_of_row w3 _ 2 _ _ _ r1]; rfl
    have z3 : w3.cell? ⟨g1, 3, none⟩ = some (.int .i64 0) := by rw [cell_of_row w3 _ 3 _ _ _ r1]; rfl
    have z4 : w3.cell? ⟨g1, 4, none⟩ = some (.int .u32 0) := by rw [cell_of_row w3 _ 4 _ _ _ r1]; rfl
    have z5 : w3.cell? ⟨g1, 5, none⟩ = some (.int .i64 0) := by rw [cell_of_row w3 _ 5 _ _ _ r1]; rfl
    have z6 : w3.cell? ⟨g1, 6, none⟩ = some (.string ⟨#[]⟩) := by rw [cell_of_row w3 _ 6 _ _ _ r1]; rfl
    have z7 : w3.cell? ⟨g1, 7, none⟩ = some (.slice none 0 0) := by rw [cell_of_row w3 _ 7 _ _ _ r1]; rfl
    have kf : ∀ i, w3.frozen? ⟨g1, i, none⟩ = false := fun i => by simp [World.frozen?, r1]
    have kg : ∀ i, w3.frozen? ⟨g2, i, none⟩ = false := fun i => by simp [World.frozen?, r2]
    have k0 := kf 0
    have k1 := kf 1
    have k2 := kf 2
    have k3 := kf 3
    have k4 := kf 4
    have k5 := kf 5
    have k6 := kf 6
    have k7 := kf 7
    have l5 := kg 5
    have l6 := kg 6
    have l7 := kg 7
    have HR1 := Aside.mk r1
    clear kf kg r1 r2
    unfold entV
    go_wp2_with fail
    have hb5 : Below w.heap.size w (((w3.setCell ⟨g2, 5, none⟩ (.int .i64 k')).setCell ⟨g2, 6, none⟩ (.string s')).setCell ⟨g2, 7, none⟩ (.slice ao n3 cap)) := ((HB3.out.setCell (p := ⟨g2, 5, none⟩) HL.out.2.1 _).setCell (p := ⟨g2, 6, none⟩) HL.out.2.1 _).setCell (p := ⟨g2, 7, none⟩) HL.out.2.1 _
    have hr5 : (((w3.setCell ⟨g2, 5, none⟩ (.int .i64 k')).setCell ⟨g2, 6, none⟩ (.string s')).setCell ⟨g2, 7, none⟩ (.slice ao n3 cap)).heap[g1]? = some (.cells #[.int .i64 0, .int .i64 0, .int .i64 0, .int .i64 0, .int .u32 0, .int .i64 0, .string ⟨#[]⟩, .slice none 0 0] 27 (0, 0)) := by
      rw [Below.heap_setCell _ _ _ _ hne, Below.heap_setCell _ _ _ _ hne, Below.heap_setCell _ _ _ _ hne]; exact HR1.out
    generalize ((w3.setCell ⟨g2, 5, none⟩ (.int .i64 k')).setCell ⟨g2, 6, none⟩ (.string s')).setCell ⟨g2, 7, none⟩ (.slice ao n3 cap) = W5 at hb5 hr5 ⊢
    refine made_end hb5 HL.out.1 hr5 HU.out (made_z H1.out H2.out H3.out H4.out (Or.inr HOK.out)) (by have := HBL.out; simp; omega) ?_
    rfl
  · have hx' : (x5 == 1) = false := by simp; omega
    clear hx
    have d0 : W2.cell? ⟨g2, 0, none⟩ = some (.int .i64 (1 + x1)) := by rw [cell_of_row W2 _ 0 _ _ _ HP2.out]; rfl
    have d1 : W2.cell? ⟨g2, 1, none⟩ = some (.int .i64 x2) := by rw [cell_of_row W2 _ 1 _ _ _ HP2.out]; rfl
    have d2 : W2.cell? ⟨g2, 2, none⟩ = some (.int .i64 x3) := by rw [cell_of_row W2 _ 2 _ _ _ HP2.out]; rfl
    have d3 : W2.cell? ⟨g2, 3, none⟩ = some (.int .i64 x4) := by rw [cell_of_row W2 _ 3 _ _ _ HP2.out]; rfl
    have d4 : W2.cell? ⟨g2, 4, none⟩ = some (.int .u32 s) := by rw [cell_of_row W2 _ 4 _ _ _ HP2.out]; rfl
    have d5 : W2.cell? ⟨g2, 5, none⟩ = some (.int .i64 0) := by rw [cell_of_row W2 _ 5 _ _ _ HP2.out]; rfl
    have d6 : W2.cell? ⟨g2, 6, none⟩ = some (.string ⟨#[]⟩) := by rw [cell_of_row W2 _ 6 _ _ _ HP2.out]; rfl
    have d7 : W2.cell? ⟨g2, 7, none⟩ = some (.slice none 0 0) := by rw [cell_of_row W2 _ 7 _ _ _ HP2.out]; rfl
    have z0 : W2.cell? ⟨g1, 0, none⟩ = some (.int .i64 0) := by rw [cell_of_row W2 _ 0 _ _ _ HP1.out]; rfl
    have z1 : W2.cell? ⟨g1, 1, none⟩ = some (.int .i64 0) := by rw [cell_of_row W2 _ 1 _ _ _ HP1.out]; rfl
    have z2 : W2.cell? ⟨g1, 2, none⟩ = some (.int .i64 0) := by rw [cell_of_row W2 _ 2 _ _ _ HP1.out]; rfl
    have z3 : W2.cell? ⟨g1, 3, none⟩ = some (.int .i64 0) := by rw [cell_of_row W2 _ 3 _ _ _ HP1.out]; rfl
    have z4 : W2.cell? ⟨g1, 4, none⟩ = some (.int .u32 0) := by rw [cell_of_row W2 _ 4 _ _ _ HP1.out]; rfl
    have z5 : W2.cell? ⟨g1, 5, none⟩ = some (.int .i64 0) := by rw [cell_of_row W2 _ 5 _ _ _ HP1.out]; rfl
    have z6 : W2.cell? ⟨g1, 6, none⟩ = some (.string ⟨#[]⟩) := by rw [cell_of_row W2 _ 6 _ _ _ HP1.out]; rfl
    have z7 : W2.cell? ⟨g1, 7, none⟩ = some (.slice none 0 0) := by rw [cell_of_row W2 _ 7 _ _ _ HP1.out]; rfl
    have kf : ∀ i, W2.frozen? ⟨g1, i, none⟩ = false := fun i => by simp [World.frozen?, HP1.out]
    have k0 := kf 0
    have k1 := kf 1
    have k2 := kf 2
    have k3 := kf 3
    have k4 := kf 4
    have k5 := kf 5
    have k6 := kf 6
    have k7 := kf 7
    clear kf c6 c7
    go_wp2_with fail
    refine made_end (a := 1 + x1) (b := x2) (c := x3) (d := x4) (s := s) (k := 0) (ao := none) (n := 0) (cap := 0) HB2.out HL.out.1 HP1.out (Txt.nil _) (B := []) (key := ⟨#[]⟩) (made_z H1.out H2.out H3.out H4.out (Or.inl ⟨rfl, rfl, rfl⟩)) (by decide) ?_
    rfl
end Go.Proofs.YteljhjljigbcjaaGreatDoor.Cv
