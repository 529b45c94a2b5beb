/- Contracts of codec.DecodeMessage and of its function. -/
import Derived.Test.YteljhjljigbcjaaGreatDoorCvI
set_option linter.unusedVariables false
set_option linter.unusedSimpArgs false
namespace Go.Proofs.YteljhjljigbcjaaGreatDoor.Cv
open Go.RowKit

/-- in the midst of DecodeMessage's function: the decoder at q, the box of its address, the message's cells -/
structure Mid (w W : World) (C : Nat) (T : TypeId) (v : Value) (L : List UInt8) (q : Nat) (cs : Array Value) : Prop where
  src : Src W (w.heap.size + 1 + 1) q v L
  box : W.heap[w.heap.size + 3]? = some (.cells #[.pointer (some ⟨w.heap.size + 1 + 1, 0, none⟩)] 63 (0, 0))
  row : W.heap[C]? = some (.cells cs T (0, 0))
  n0 : W.heap[w.heap.size]? = some (.cells #[.int .i64 0] 3 (0, 0))
  n1 : W.heap[w.heap.size + 1]? = some (.cells #[.int .i64 0] 31 (0, 0))
  away : Away C w W
  lt : C < w.heap.size
  nc : ∀ b n c, v = .slice (some b) n c → 0 < L.length → b.block ≠ C
theorem Mid.moved {w W W' : World} {C : Nat} {T : TypeId} {v : Value} {L : List UInt8} {q q' : Nat} {cs : Array Value} (h : Mid w W C T v L q cs) (hq : q' ≤ L.length) (hm : Moved W (w.heap.size + 1 + 1) q' W') : Mid w W' C T v L q' cs := by
  have hlt := h.lt
  have hb : ∀ k, k < W.heap.size → k ≠ w.heap.size + 1 + 1 → W'.heap[k]? = W.heap[k]? := fun k hk hg => hm.block hk hg
  have hw := lt_of_heap h.box
  refine ⟨h.src.moved hq hm, ?_, ?_, ?_, ?_, ?_, hlt, h.nc⟩
  · rw [hb _ hw (by omega)]; exact h.box
  · rw [hb _ (by omega) (by omega)]; exact h.row
  · rw [hb _ (by omega) (by omega)]; exact h.n0
  · rw [hb _ (by omega) (by omega)]; exact h.n1
  · exact ⟨hm.out.os.trans h.away.os, hm.out.tape.trans h.away.tape, hm.out.output.trans h.away.output, Nat.le_trans h.away.size hm.size, fun k hk hc => by rw [hb k (by omega) (by omega)]; exact h.away.block k hk hc⟩
theorem Mid.set {w W : World} {C : Nat} {T : TypeId} {v : Value} {L : List UInt8} {q : Nat} {cs : Array Value} (h : Mid w W C T v L q cs) (i : Nat) (x : Value) : Mid w (W.setCell ⟨C, i, none⟩ x) C T v L q (cs.setIfInBounds i x) := by
  have hlt := h.lt
  have hb : ∀ k, k ≠ C → (W.setCell ⟨C, i, none⟩ x).heap[k]? = W.heap[k]? := fun k hk => Below.heap_setCell _ _ _ _ hk
  have hx := h.src.txt
  refine ⟨⟨?_, ?_, h.src.ne, h.src.le⟩, ?_, ?_, ?_, ?_, h.away.set _ _, hlt, h.nc⟩
  · rw [hb _ (by omega)]; exact h.src.here
  · exact hx.set h.nc
  · rw [hb _ (by omega)]; exact h.box
  · rw [setCell_eq_setRow W C i _ _ _ _ h.row]; exact setRow_heap W C _ _ _ _ h.row
  · rw [hb _ (by omega)]; exact h.n0
  · rw [hb _ (by omega)]; exact h.n1
theorem Mid.cell {w W : World} {C : Nat} {T : TypeId} {v : Value} {L : List UInt8} {q : Nat} {cs : Array Value} (h : Mid w W C T v L q cs) (i : Nat) : W.cell? ⟨C, i, none⟩ = cs[i]? := cell_of_row W C i _ _ _ h.row
theorem Mid.frozen {w W : World} {C : Nat} {T : TypeId} {v : Value} {L : List UInt8} {q : Nat} {cs : Array Value} (h : Mid w W C T v L q cs) (i : Nat) : W.frozen? ⟨C, i, none⟩ = false := by simp [World.frozen?, h.row]
theorem Mid.boxed {w W : World} {C : Nat} {T : TypeId} {v : Value} {L : List UInt8} {q : Nat} {cs : Array Value} (h : Mid w W C T v L q cs) : W.cell? ⟨w.heap.size + 3, 0, none⟩ = some (.pointer (some ⟨w.heap.size + 1 + 1, 0, none⟩)) := by
  rw [cell_of_row W _ 0 _ _ _ h.box]; rfl

set_option maxRecDepth 100000 in
set_option maxHeartbeats 1000000 in
theorem index_any (w : World) (g p bx : Nat) (v : Value) (L : List UInt8) (h : Src w g p v L) (hL : Aside (L.length < 1000000000)) (hb : w.cell? ⟨bx, 0, none⟩ = some (.pointer (some ⟨g, 0, none⟩))) :
    Calls Tryz.prog 43 #[.pointer (some ⟨bx, 0, none⟩)] w fun e w' => Ans w g L (rdN 0 2147483647 L p) (fun n u _ => u = .int .i64 n) e w' := by
  cases ho : rdN 0 2147483647 L p with
  | bad k =>
    go_enter Tryz.func43, Tryz.ntmps43
    go_wp2_with fail
    refine (number_any 0 2147483647 w g p v L h hL).mono ?_
    rintro e w1 ⟨q, hq, hm, hv⟩
    rw [ho] at hv; obtain rfl := hv
    go_wp2_with fail
    exact ⟨rfl, q, hq, hm, rfl⟩
  | ok n q =>
    go_enter Tryz.func43, Tryz.ntmps43
    go_wp2_with fail
    refine (number_any 0 2147483647 w g p v L h hL).mono ?_
    rintro e w1 ⟨q, hq, hm, hv⟩
    rw [ho] at hv; obtain ⟨rfl, u, rfl, rfl⟩ := hv
    go_wp2_with fail
    go_ret
    exact ⟨_, hq, hm, rfl, _, rfl, rfl⟩

theorem Own.moved {base : Nat} {w w' : World} {g q : Nat} {v : Value} {L : List UInt8} (h : Own base w v L) (hm : Moved w g q w') (hg : g < base) : Own base w' v L := by
  obtain ⟨h1, h2⟩ := h
  refine ⟨h1, ?_⟩
  rcases h2 with h2 | ⟨g', cap, cur, hv, hg', hh, r⟩
  · exact Or.inl h2
  · exact Or.inr ⟨g', cap, cur, hv, hg', by rw [hm.block (lt_of_heap hh) (by omega)]; exact hh, r⟩
/-- the message's eight cells -/
def mcs (m : Msg) (b : Value) : Array Value := #[.int .i64 m.kind, .int .i64 m.src, .int .i64 m.view, .int .i64 m.seq, .int .u32 m.sum, .int .i64 m.e.kind, .string (str m.e.key), b]
def mz : Array Value := #[.int .i64 0, .int .i64 0, .int .i64 0, .int .i64 0, .int .u32 0, .int .i64 0, .string ⟨#[]⟩, .slice none 0 0]

set_option maxRecDepth 100000 in
set_option maxHeartbeats 4000000 in
theorem message_clo (w : World) (v : Value) (L : List UInt8) (h : Txt w v L) (hL : Aside (L.length < 1000000000)) (C : Nat) (T : TypeId) (hC : w.heap[C]? = some (.cells mz T (0, 0)))
    (hnc : ∀ b n c, v = .slice (some b) n c → 0 < L.length → b.block ≠ C) :
    Calls Tryz.prog 42 #[.pointer (some ⟨w.heap.size + 1 + 1, 0, none⟩), .pointer (some ⟨C, 0, none⟩)] (W3 w v)
      (Clo w v L (rdM L 0) (fun a w' => ∃ b, w'.heap[C]? = some (.cells (mcs a b) T (0, 0)) ∧ Own (w.heap.size + 1 + 1 + 1) w' b a.e.body) (Away C w)) := by
  have hmf : ∀ (fn : Fn) (first cap : Array Value) (w : World), (Instr.makeFunc fn first cap).run Tryz.prog w = .ok (.func fn first cap) w := fun _ _ _ _ => rfl
  have hs := w3_src h
  have hCl := lt_of_heap hC
  have hM : Mid w ((W3 w v).alloc (.cells #[.pointer (some ⟨w.heap.size + 1 + 1, 0, none⟩)] 63)) C T v L 0 mz := by
    have hba : ∀ k, k < w.heap.size + 3 → ((W3 w v).alloc (.cells #[.pointer (some ⟨w.heap.size + 1 + 1, 0, none⟩)] 63)).heap[k]? = (W3 w v).heap[k]? := fun k hk => Below.heap_alloc _ _ _ (by rw [w3_size]; exact hk)
    refine ⟨hs.below ((Below.refl _ _).alloc (Nat.le_refl _) _), ?_, ?_, ?_, ?_, ?_, hCl, hnc⟩
    · have := heap_alloc_last (W3 w v) (.cells #[.pointer (some ⟨w.heap.size + 1 + 1, 0, none⟩)] 63)
      rw [w3_size] at this; exact this
    · rw [hba _ (by omega), (w3_below w v).block C hCl]; exact hC
    · rw [hba _ (by omega)]; exact w3_0 w v
    · rw [hba _ (by omega)]; exact w3_1 w v
    · exact ⟨rfl, rfl, rfl, by rw [World.size_alloc, w3_size]; omega, fun k hk hc => by rw [hba _ (by omega)]; exact (w3_below w v).block k hk⟩
  have hsz := w3_size w v
  go_enter Tryz.func42, Tryz.ntmps42
  have bx := hM.boxed
  go_wp2_with fail
  refine (number_any 1 4 _ _ _ v L hM.src hL).mono ?_
  rintro e w1 ⟨q1', hq1, hm1, hv⟩
  cases h1 : rdN 1 4 L 0 with
  | bad k =>
    rw [h1] at hv; obtain rfl := hv
    have HR : rdM L 0 = .bad k := by simp [rdM, Dc.bind, h1]
    have M' := hM.moved hq1 hm1
    go_wp2_with fail
    refine ⟨rfl, M'.n0, M'.n1, M'.away, ?_⟩
    rw [HR]
  | ok n1 q1 =>
  rw [h1] at hv; obtain ⟨rfl, u, rfl, rfl⟩ := hv
  have M1 := hM.moved hq1 hm1
  have c1 : w1.cell? ⟨C, 0, none⟩ = some (.int .i64 0) := by rw [M1.cell]; rfl
  have f1 := M1.frozen 0
  clear hM bx
  have bx := (M1.set 0 (.int .i64 n1)).boxed
  go_wp2_with fail
  refine (index_any _ _ _ _ v L (M1.set 0 (.int .i64 n1)).src hL (M1.set 0 (.int .i64 n1)).boxed).mono ?_
  rintro e w2 ⟨q2', hq2, hm2, hv⟩
  cases h2 : rdN 0 2147483647 L q1 with
  | bad k =>
    rw [h2] at hv; obtain rfl := hv
    have HR : rdM L 0 = .bad k := by simp [rdM, Dc.bind, h1, h2]
    have M' := (M1.set 0 (.int .i64 n1)).moved hq2 hm2
    go_wp2_with fail
    refine ⟨rfl, M'.n0, M'.n1, M'.away, ?_⟩
    rw [HR]
  | ok n2 q2 =>
  rw [h2] at hv; obtain ⟨rfl, u, rfl, rfl⟩ := hv
  have M2 := (M1.set 0 (.int .i64 n1)).moved hq2 hm2
  go_wp2_with fail
  refine (index_any _ _ _ _ v L M2.src hL M2.boxed).mono ?_
  rintro e w3 ⟨q3', hq3, hm3, hv⟩
  cases h3 : rdN 0 2147483647 L q2 with
  | bad k =>
    rw [h3] at hv; obtain rfl := hv
    have HR : rdM L 0 = .bad k := by simp [rdM, Dc.bind, h1, h2, h3]
    have M' := M2.moved hq3 hm3
    go_wp2_with fail
    refine ⟨rfl, M'.n0, M'.n1, M'.away, ?_⟩
    rw [HR]
  | ok n3 q3 =>
  rw [h3] at hv; obtain ⟨rfl, u, rfl, rfl⟩ := hv
  have M3 := M2.moved hq3 hm3
  go_wp2_with fail
  refine (index_any _ _ _ _ v L M3.src hL M3.boxed).mono ?_
  rintro e w4 ⟨q4', hq4, hm4, hv⟩
  cases h4 : rdN 0 2147483647 L q3 with
  | bad k =>
    rw [h4] at hv; obtain rfl := hv
    have HR : rdM L 0 = .bad k := by simp [rdM, Dc.bind, h1, h2, h3, h4]
    have M' := M3.moved hq4 hm4
    go_wp2_with fail
    refine ⟨rfl, M'.n0, M'.n1, M'.away, ?_⟩
    rw [HR]
  | ok n4 q4 =>
  rw [h4] at hv; obtain ⟨rfl, u, rfl, rfl⟩ := hv
  have M4 := M3.moved hq4 hm4
  clear c1 f1
  have c1 : w4.cell? ⟨C, 1, none⟩ = some (.int .i64 0) := by rw [M4.cell]; rfl
  have c2 : w4.cell? ⟨C, 2, none⟩ = some (.int .i64 0) := by rw [M4.cell]; rfl
  have c3 : w4.cell? ⟨C, 3, none⟩ = some (.int .i64 0) := by rw [M4.cell]; rfl
  have f1 := M4.frozen 1
  have f2 := M4.frozen 2
  have f3 := M4.frozen 3
  have M4' := ((M4.set 1 (.int .i64 n2)).set 2 (.int .i64 n3)).set 3 (.int .i64 n4)
  clear bx
  have bx := M4'.boxed
  go_wp2_with fail
  refine (number_any 0 4294967295 _ _ _ v L M4'.src hL).mono ?_
  rintro e w5 ⟨q5', hq5, hm5, hv⟩
  cases h5 : rdN 0 4294967295 L q4 with
  | bad k =>
    rw [h5] at hv; obtain rfl := hv
    have HR : rdM L 0 = .bad k := by simp [rdM, Dc.bind, h1, h2, h3, h4, h5]
    have M' := M4'.moved hq5 hm5
    go_wp2_with fail
    refine ⟨rfl, M'.n0, M'.n1, M'.away, ?_⟩
    rw [HR]
  | ok n5 q5 =>
  rw [h5] at hv; obtain ⟨rfl, u, rfl, rfl⟩ := hv
  have M5 := M4'.moved hq5 hm5
  clear c1 c2 c3 f1 f2 f3 bx
  obtain ⟨r50, r51⟩ := rdN_range h5
  have hwr : n5 % 4294967296 = n5 := by omega
  have c1 : w5.cell? ⟨C, 4, none⟩ = some (.int .u32 0) := by rw [M5.cell]; rfl
  have f1 := M5.frozen 4
  have M5' := M5.set 4 (.int .u32 n5)
  have bx := M5'.boxed
  clear r50 r51
  go_wp2_with fail
  refine (number_any 0 1 _ _ _ v L M5'.src hL).mono ?_
  rintro e w6 ⟨q6', hq6, hm6, hv⟩
  cases h6 : rdN 0 1 L q5 with
  | bad k =>
    rw [h6] at hv; obtain rfl := hv
    have HR : rdM L 0 = .bad k := by simp [rdM, Dc.bind, h1, h2, h3, h4, h5, h6]
    have M' := M5'.moved hq6 hm6
    go_wp2_with fail
    refine ⟨rfl, M'.n0, M'.n1, M'.away, ?_⟩
    rw [HR]
  | ok n6 q6 =>
  rw [h6] at hv; obtain ⟨rfl, u, rfl, rfl⟩ := hv
  have M6 := M5'.moved hq6 hm6
  obtain ⟨r60, r61⟩ := rdN_range h6
  by_cases hn6 : n6 = 1
  · subst hn6
    clear r60 r61 hwr c1 f1 bx
    have bx := M6.boxed
    go_wp2_with fail
    refine (entry_any _ _ _ v L M6.src hL).mono ?_
    rintro e w7 ⟨q7', hq7, hm7, hv⟩
    have M7 := M6.moved hq7 hm7
    cases h7 : rdE L q6 with
    | bad k =>
      rw [h7] at hv; obtain rfl := hv
      have HR : rdM L 0 = .bad k := by simp [rdM, Dc.bind, Dc.ret, rdO, h1, h2, h3, h4, h5, h6, h7]
      go_wp2_with fail
      refine ⟨rfl, M7.n0, M7.n1, M7.away, ?_⟩
      rw [HR]
    | ok n7 q7 =>
      rw [h7] at hv; obtain ⟨rfl, u, rfl, b7, rfl, hO7⟩ := hv
      obtain ⟨ao3, cap3, hv3, -, -, -, -⟩ := hO7.txt
      obtain ⟨nn, hnn⟩ : ∃ nn, n7.body.length = nn := ⟨_, rfl⟩
      rw [hnn] at hv3
      subst hv3
      have c1 : w7.cell? ⟨C, 5, none⟩ = some (.int .i64 0) := by rw [M7.cell]; rfl
      have c2 : w7.cell? ⟨C, 6, none⟩ = some (.string ⟨#[]⟩) := by rw [M7.cell]; rfl
      have c3 : w7.cell? ⟨C, 7, none⟩ = some (.slice none 0 0) := by rw [M7.cell]; rfl
      have f1 := M7.frozen 5
      have f2 := M7.frozen 6
      have f3 := M7.frozen 7
      have M7' := ((M7.set 5 (.int .i64 n7.kind)).set 6 (.string (str n7.key))).set 7 (.slice ao3 nn cap3)
      have HO := Aside.mk hO7
      have hsz6 : Aside (w.heap.size + 1 + 1 + 1 < w6.heap.size) := ⟨lt_of_heap M6.box⟩
      clear bx hO7 hnn
      have bx := M7'.boxed
      go_wp2_with fail
      refine (end_any _ _ _ v L M7'.src hL).mono ?_
      rintro e w8 ⟨q8', hq8, hm8, hv⟩
      have M8 := M7'.moved hq8 hm8
      cases h8 : rdEnd L q7 with
      | bad k =>
        rw [h8] at hv; obtain rfl := hv
        have HR : rdM L 0 = .bad k := by simp [rdM, Dc.bind, Dc.ret, rdO, h1, h2, h3, h4, h5, h6, h7, h8]
        go_wp2_with fail
        refine ⟨rfl, M8.n0, M8.n1, M8.away, ?_⟩
        rw [HR]
      | ok n8 q8 =>
        rw [h8] at hv; obtain ⟨rfl, u, rfl, rfl⟩ := hv
        have HR : rdM L 0 = .ok ⟨n1, n2, n3, n4, n5, n7⟩ q8 := by simp [rdM, Dc.bind, Dc.ret, rdO, h1, h2, h3, h4, h5, h6, h7, h8]
        go_wp2_with fail
        go_end0
        refine ⟨M8.n0, M8.n1, M8.away, ?_⟩
        rw [HR]
        exact ⟨rfl, M8.src.here, _, M8.row, ((((HO.out.setBelow (by have := hsz6.out; show C < _; omega) _).setBelow (by have := hsz6.out; show C < _; omega) _).setBelow (by have := hsz6.out; show C < _; omega) _).moved hm8 (by have := hsz6.out; omega)).mono (by have := hsz6.out; omega)⟩
  · have hn0 : n6 = 0 := by omega
    subst hn0
    clear r60 r61 hwr c1 f1 bx hn6
    have bx := M6.boxed
    go_wp2_with fail
    refine (end_any _ _ _ v L M6.src hL).mono ?_
    rintro e w8 ⟨q8', hq8, hm8, hv⟩
    have M8 := M6.moved hq8 hm8
    cases h8 : rdEnd L q6 with
    | bad k =>
      rw [h8] at hv; obtain rfl := hv
      have HR : rdM L 0 = .bad k := by simp [rdM, Dc.bind, Dc.ret, rdO, h1, h2, h3, h4, h5, h6, h8]
      go_wp2_with fail
      refine ⟨rfl, M8.n0, M8.n1, M8.away, ?_⟩
      rw [HR]
    | ok n8 q8 =>
      rw [h8] at hv; obtain ⟨rfl, u, rfl, rfl⟩ := hv
      have HR : rdM L 0 = .ok ⟨n1, n2, n3, n4, n5, zeroE⟩ q8 := by simp [rdM, Dc.bind, Dc.ret, rdO, h1, h2, h3, h4, h5, h6, h8]
      go_wp2_with fail
      go_end0
      refine ⟨M8.n0, M8.n1, M8.away, ?_⟩
      rw [HR]
      exact ⟨rfl, M8.src.here, _, M8.row, Own.nil _ _⟩

theorem entersM : ∀ args w, (callFunc 42 args).run Tryz.prog w = .ok (.enter 42 args) w := fun args w => by kernel_rfl
theorem set_row8 {w : World} {k : Nat} {y0 y1 y2 y3 y4 y5 y6 y7 : Value} {T : TypeId} (h : w.heap[k]? = some (.cells #[y0, y1, y2, y3, y4, y5, y6, y7] T (0, 0))) (x0 x1 x2 x3 x4 x5 x6 x7 : Value) :
    ((((((((w.setCell ⟨k, 0, none⟩ x0).setCell ⟨k, 1, none⟩ x1).setCell ⟨k, 2, none⟩ x2).setCell ⟨k, 3, none⟩ x3).setCell ⟨k, 4, none⟩ x4).setCell ⟨k, 5, none⟩ x5).setCell ⟨k, 6, none⟩ x6).setCell ⟨k, 7, none⟩ x7).heap[k]? = some (.cells #[x0, x1, x2, x3, x4, x5, x6, x7] T (0, 0)) := by
  have st : ∀ {w : World} {cs : Array Value} (i : Nat) (x : Value), w.heap[k]? = some (.cells cs T (0, 0)) → (w.setCell ⟨k, i, none⟩ x).heap[k]? = some (.cells (cs.setIfInBounds i x) T (0, 0)) := fun i x h => by
    rw [setCell_eq_setRow _ k i _ _ _ _ h]; exact setRow_heap _ k _ _ _ _ h
  rw [st 7 x7 (st 6 x6 (st 5 x5 (st 4 x4 (st 3 x3 (st 2 x2 (st 1 x1 (st 0 x0 h)))))))]
  simp

set_option maxRecDepth 100000 in
set_option maxHeartbeats 1000000 in
theorem DecodeMessage_txt (w : World) (v : Value) (L : List UInt8) (h : Txt w v L) (hL : Aside (L.length < 1000000000)) :
    Calls Tryz.prog 23 #[v] w fun e w' => Below w.heap.size w w' ∧ (match rdM L 0 with
      | .ok a _ => ∃ b, e = .returned (.tuple #[.agg (mcs a b), .int .i64 0]) ∧ Own w.heap.size w' b a.e.body
      | .bad k => e = .returned (.tuple #[.agg mz, .int .i64 k])) := by
  have hmf : ∀ (fn : Fn) (first cap : Array Value) (w : World), (Instr.makeFunc fn first cap).run Tryz.prog w = .ok (.func fn first cap) w := fun _ _ _ _ => rfl
  obtain ⟨WE, hWE⟩ : ∃ W, W = (w.alloc (.cells mz 27)).alloc (.cells mz 27) := ⟨_, rfl⟩
  have hb : Below w.heap.size w WE := by rw [hWE]; exact ((Below.refl _ _).alloc (Nat.le_refl _) _).alloc (by simp) _
  have hsz : WE.heap.size = w.heap.size + 2 := by rw [hWE]; simp
  have hr : WE.heap[w.heap.size]? = some (.cells mz 27 (0, 0)) := by rw [hWE, Below.heap_alloc _ _ _ (by simp)]; exact heap_alloc_last _ _
  have hx : WE.heap[w.heap.size + 1]? = some (.cells mz 27 (0, 0)) := by
    have := heap_alloc_last (w.alloc (.cells mz 27)) (.cells mz 27)
    rw [hWE]; simpa using this
  have hT : Txt WE v L := h.below hb
  have hnc : ∀ b n c, v = .slice (some b) n c → 0 < L.length → b.block ≠ w.heap.size + 1 := by
    intro b n c hv hl hbk
    obtain ⟨ao, cap, rfl, h0, h1, h2, hc⟩ := h
    cases hv
    have h3 := hc b rfl 0 _ (by rw [List.getElem?_eq_getElem (by rw [len_cells]; exact hl)])
    have h4 := World.block_lt_of_cell? w _ h3
    rw [block_add] at h4
    omega
  have hdec := decode_any v L WE hT 42 #[.pointer (some ⟨w.heap.size + 1, 0, none⟩)] entersM _ _ _ (message_clo WE v L hT hL (w.heap.size + 1) _ hx hnc)
  rw [hsz] at hdec
  unfold mz at hWE
  cases ho : rdM L 0 with
  | bad k =>
    have hk0 : (k != 0) = true := by have := rdM_errs L 0 k ho; simp; omega
    rw [ho] at hdec
    go_enter Tryz.func23, Tryz.ntmps23
    go_wp2_with fail
    rw [← hWE]
    refine hdec.mono ?_
    rintro e w1 ⟨w0, hfin, haw, rfl⟩
    have hr1 : w1.heap[w.heap.size]? = some (.cells mz 27 (0, 0)) := by
      rw [hfin.block _ (by have := haw.size; omega) (by omega) (by omega), haw.block _ (by omega) (by omega)]; exact hr
    have kf : ∀ i, w1.frozen? ⟨w.heap.size, i, none⟩ = false := fun i => by simp [World.frozen?, hr1]
    have c0 : w1.cell? ⟨w.heap.size, 0, none⟩ = some (.int .i64 0) := by rw [cell_of_row w1 _ 0 _ _ _ hr1]; rfl
    have f0 := kf 0
    have c1 : w1.cell? ⟨w.heap.size, 1, none⟩ = some (.int .i64 0) := by rw [cell_of_row w1 _ 1 _ _ _ hr1]; rfl
    have f1 := kf 1
    have c2 : w1.cell? ⟨w.heap.size, 2, none⟩ = some (.int .i64 0) := by rw [cell_of_row w1 _ 2 _ _ _ hr1]; rfl
    have f2 := kf 2
    have c3 : w1.cell? ⟨w.heap.size, 3, none⟩ = some (.int .i64 0) := by rw [cell_of_row w1 _ 3 _ _ _ hr1]; rfl
    have f3 := kf 3
    have c4 : w1.cell? ⟨w.heap.size, 4, none⟩ = some (.int .u32 0) := by rw [cell_of_row w1 _ 4 _ _ _ hr1]; rfl
    have f4 := kf 4
    have c5 : w1.cell? ⟨w.heap.size, 5, none⟩ = some (.int .i64 0) := by rw [cell_of_row w1 _ 5 _ _ _ hr1]; rfl
    have f5 := kf 5
    have c6 : w1.cell? ⟨w.heap.size, 6, none⟩ = some (.string ⟨#[]⟩) := by rw [cell_of_row w1 _ 6 _ _ _ hr1]; rfl
    have f6 := kf 6
    have c7 : w1.cell? ⟨w.heap.size, 7, none⟩ = some (.slice none 0 0) := by rw [cell_of_row w1 _ 7 _ _ _ hr1]; rfl
    have f7 := kf 7
    have hbf : Below w.heap.size w w1 := ⟨(hfin.os.trans haw.os).trans hb.os, (hfin.tape.trans haw.tape).trans hb.tape, (hfin.output.trans haw.output).trans hb.output, by have := hfin.size; have := haw.size; omega,
      fun k hk => by rw [hfin.block k (by have := haw.size; omega) (by omega) (by omega), haw.block k (by omega) (by omega)]; exact hb.block k hk⟩
    have HR := Aside.mk hr1
    clear hr1 kf
    clear hWE
    go_wp2_with fail
    refine bodyPost_ret (results_cell_1 rfl _ _ w.heap.size 27 mz (0, 0) _ rfl (set_row8 HR.out _ _ _ _ _ _ _ _) Tryz.underlying27 rfl (by kernel_rfl)) rfl ?_
    exact ⟨(((((((hbf.setCell (Nat.le_refl _) _).setCell (Nat.le_refl _) _).setCell (Nat.le_refl _) _).setCell (Nat.le_refl _) _).setCell (Nat.le_refl _) _).setCell (Nat.le_refl _) _).setCell (Nat.le_refl _) _).setCell (Nat.le_refl _) _, rfl⟩
  | ok m q =>
    rw [ho] at hdec
    go_enter Tryz.func23, Tryz.ntmps23
    go_wp2_with fail
    rw [← hWE]
    refine hdec.mono ?_
    rintro e w1 ⟨w0, hfin, haw, rfl, b, hX, hO⟩
    have hr1 : w1.heap[w.heap.size]? = some (.cells mz 27 (0, 0)) := by
      rw [hfin.block _ (by have := haw.size; omega) (by omega) (by omega), haw.block _ (by omega) (by omega)]; exact hr
    have kf : ∀ i, w1.frozen? ⟨w.heap.size, i, none⟩ = false := fun i => by simp [World.frozen?, hr1]
    have c0 : w1.cell? ⟨w.heap.size, 0, none⟩ = some (.int .i64 0) := by rw [cell_of_row w1 _ 0 _ _ _ hr1]; rfl
    have f0 := kf 0
    have c1 : w1.cell? ⟨w.heap.size, 1, none⟩ = some (.int .i64 0) := by rw [cell_of_row w1 _ 1 _ _ _ hr1]; rfl
    have f1 := kf 1
    have c2 : w1.cell? ⟨w.heap.size, 2, none⟩ = some (.int .i64 0) := by rw [cell_of_row w1 _ 2 _ _ _ hr1]; rfl
    have f2 := kf 2
    have c3 : w1.cell? ⟨w.heap.size, 3, none⟩ = some (.int .i64 0) := by rw [cell_of_row w1 _ 3 _ _ _ hr1]; rfl
    have f3 := kf 3
    have c4 : w1.cell? ⟨w.heap.size, 4, none⟩ = some (.int .u32 0) := by rw [cell_of_row w1 _ 4 _ _ _ hr1]; rfl
    have f4 := kf 4
    have c5 : w1.cell? ⟨w.heap.size, 5, none⟩ = some (.int .i64 0) := by rw [cell_of_row w1 _ 5 _ _ _ hr1]; rfl
    have f5 := kf 5
    have c6 : w1.cell? ⟨w.heap.size, 6, none⟩ = some (.string ⟨#[]⟩) := by rw [cell_of_row w1 _ 6 _ _ _ hr1]; rfl
    have f6 := kf 6
    have c7 : w1.cell? ⟨w.heap.size, 7, none⟩ = some (.slice none 0 0) := by rw [cell_of_row w1 _ 7 _ _ _ hr1]; rfl
    have f7 := kf 7
    have hbf : Below w.heap.size w w1 := ⟨(hfin.os.trans haw.os).trans hb.os, (hfin.tape.trans haw.tape).trans hb.tape, (hfin.output.trans haw.output).trans hb.output, by have := hfin.size; have := haw.size; omega,
      fun k hk => by rw [hfin.block k (by have := haw.size; omega) (by omega) (by omega), haw.block k (by omega) (by omega)]; exact hb.block k hk⟩
    have HR := Aside.mk hr1
    clear hr1 kf
    have hO1 := hO.fin (by rw [← hsz] at hfin; exact hfin) (by omega)
    have hX1 : w1.heap[w.heap.size + 1]? = some (.cells (mcs m b) 27 (0, 0)) := by
      rw [hfin.block _ (lt_of_heap hX) (by omega) (by omega)]; exact hX
    obtain ⟨ao3, cap3, hv3, -, -, -, -⟩ := hO1.txt
    obtain ⟨nn, hnn⟩ : ∃ nn, m.e.body.length = nn := ⟨_, rfl⟩
    rw [hnn] at hv3
    subst hv3
    have d0 : w1.cell? ⟨w.heap.size + 1, 0, none⟩ = some (.int .i64 m.kind) := by rw [cell_of_row w1 _ 0 _ _ _ hX1]; rfl
    have d1 : w1.cell? ⟨w.heap.size + 1, 1, none⟩ = some (.int .i64 m.src) := by rw [cell_of_row w1 _ 1 _ _ _ hX1]; rfl
    have d2 : w1.cell? ⟨w.heap.size + 1, 2, none⟩ = some (.int .i64 m.view) := by rw [cell_of_row w1 _ 2 _ _ _ hX1]; rfl
    have d3 : w1.cell? ⟨w.heap.size + 1, 3, none⟩ = some (.int .i64 m.seq) := by rw [cell_of_row w1 _ 3 _ _ _ hX1]; rfl
    have d4 : w1.cell? ⟨w.heap.size + 1, 4, none⟩ = some (.int .u32 m.sum) := by rw [cell_of_row w1 _ 4 _ _ _ hX1]; rfl
    have d5 : w1.cell? ⟨w.heap.size + 1, 5, none⟩ = some (.int .i64 m.e.kind) := by rw [cell_of_row w1 _ 5 _ _ _ hX1]; rfl
    have d6 : w1.cell? ⟨w.heap.size + 1, 6, none⟩ = some (.string (str m.e.key)) := by rw [cell_of_row w1 _ 6 _ _ _ hX1]; rfl
    have d7 : w1.cell? ⟨w.heap.size + 1, 7, none⟩ = some (.slice ao3 nn cap3) := by rw [cell_of_row w1 _ 7 _ _ _ hX1]; rfl
    have HO := Aside.mk hO1
    clear hWE hO hO1 hX hX1 hnn
    go_wp2_with fail
    refine bodyPost_ret (results_cell_1 rfl _ _ w.heap.size 27 (mcs m (.slice ao3 nn cap3)) (0, 0) _ rfl (set_row8 HR.out _ _ _ _ _ _ _ _) Tryz.underlying27 rfl (by kernel_rfl)) rfl ?_
    refine ⟨(((((((hbf.setCell (Nat.le_refl _) _).setCell (Nat.le_refl _) _).setCell (Nat.le_refl _) _).setCell (Nat.le_refl _) _).setCell (Nat.le_refl _) _).setCell (Nat.le_refl _) _).setCell (Nat.le_refl _) _).setCell (Nat.le_refl _) _, _, rfl, ?_⟩
    have hlt : ∀ i, (⟨w.heap.size, i, none⟩ : Addr).block < w.heap.size + 2 + 1 + 1 + 1 := fun i => by show w.heap.size < _; omega
    exact ((((((((HO.out.setBelow (hlt 0) _).setBelow (hlt 1) _).setBelow (hlt 2) _).setBelow (hlt 3) _).setBelow (hlt 4) _).setBelow (hlt 5) _).setBelow (hlt 6) _).setBelow (hlt 7) _).mono (by omega)
end Go.Proofs.YteljhjljigbcjaaGreatDoor.Cv
