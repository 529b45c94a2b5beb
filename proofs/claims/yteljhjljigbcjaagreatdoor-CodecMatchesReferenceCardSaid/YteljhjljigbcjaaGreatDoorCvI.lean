/- Contracts of codec.Varint and codec.DecodeEntry. -/
import Derived.Test.YteljhjljigbcjaaGreatDoorCvH
set_option linter.unusedVariables false
namespace Go.Proofs.YteljhjljigbcjaaGreatDoor.Cv
open Go.RowKit

theorem w3_src {w : World} {v : Value} {L : List UInt8} (h : Txt w v L) : Src (W3 w v) (w.heap.size + 1 + 1) 0 v L := by
  have hb : Below w.heap.size w (W3 w v) := (((Below.refl _ _).alloc (Nat.le_refl _) _).alloc (by simp) _).alloc (by simp; omega) _
  refine ⟨?_, h.below hb, ?_, Nat.zero_le _⟩
  · have := heap_alloc_last ((w.alloc (.cells #[.int .i64 0] 3)).alloc (.cells #[.int .i64 0] 31)) (.cells #[v, .int .i64 0] 96)
    simpa [W3] using this
  · intro b n c hv hl
    intro hbk
    obtain ⟨ao, cap, rfl, h0, h1, h2, hc⟩ := h
    cases hv
    have h3 := hc b rfl 0 _ (by rw [List.getElem?_eq_getElem (by rw [len_cells]; exact hl)])
    have h4 := World.block_lt_of_cell? w _ h3
    rw [block_add] at h4
    omega
theorem w3_below (w : World) (v : Value) : Below w.heap.size w (W3 w v) := (((Below.refl _ _).alloc (Nat.le_refl _) _).alloc (by simp) _).alloc (by simp; omega) _
theorem w3_size (w : World) (v : Value) : (W3 w v).heap.size = w.heap.size + 3 := by simp [W3]
theorem w3_0 (w : World) (v : Value) : (W3 w v).heap[w.heap.size]? = some (.cells #[.int .i64 0] 3 (0, 0)) := by
  unfold W3
  rw [Below.heap_alloc _ _ _ (by simp; omega), Below.heap_alloc _ _ _ (by simp)]; exact heap_alloc_last _ _
theorem w3_1 (w : World) (v : Value) : (W3 w v).heap[w.heap.size + 1]? = some (.cells #[.int .i64 0] 31 (0, 0)) := by
  unfold W3
  rw [Below.heap_alloc _ _ _ (by simp)]
  have := heap_alloc_last (w.alloc (.cells #[.int .i64 0] 3)) (.cells #[.int .i64 0] 31)
  simpa using this
theorem fin2_below {W w0 w' : World} {B : Nat} (h : Fin2 B w0 w') (hb : Below B W w0) (hB : B ≤ w0.heap.size) : Below B W w' :=
  hb.trans ⟨h.os, h.tape, h.output, h.size, fun k hk => h.block k (by omega) (by omega) (by omega)⟩
/-- from a method's answer to the closure's: the decoder's own world W3, the cell of the result in block C below it -/
theorem clo_of_moved {w w' : World} {v : Value} {q : Nat} (hm : Moved (W3 w v) (w.heap.size + 1 + 1) q w') :
    w'.heap[w.heap.size]? = some (.cells #[.int .i64 0] 3 (0, 0)) ∧ w'.heap[w.heap.size + 1]? = some (.cells #[.int .i64 0] 31 (0, 0)) :=
  ⟨by rw [hm.block (by rw [w3_size]; omega) (by omega), w3_0], by rw [hm.block (by rw [w3_size]; omega) (by omega), w3_1]⟩

/-- but for block C, and new blocks, w' is as w was -/
structure Away (C : Nat) (w w' : World) : Prop where
  os : w'.os = w.os
  tape : w'.tape = w.tape
  output : w'.output = w.output
  size : w.heap.size ≤ w'.heap.size
  block : ∀ k, k < w.heap.size → k ≠ C → w'.heap[k]? = w.heap[k]?
theorem Away.ofMoved {w w' : World} {v : Value} {q C : Nat} (hm : Moved (W3 w v) (w.heap.size + 1 + 1) q w') : Away C w w' :=
  ⟨hm.out.os, hm.out.tape, hm.out.output, by have := hm.size; rw [w3_size] at this; omega, fun k hk _ => by rw [hm.block (by rw [w3_size]; omega) (by omega), (w3_below w v).block k hk]⟩
theorem Away.set {C : Nat} {w w' : World} (h : Away C w w') (i : Nat) (x : Value) : Away C w (w'.setCell ⟨C, i, none⟩ x) :=
  ⟨h.os, h.tape, h.output, by rw [size_setCell]; exact h.size, fun k hk hc => by rw [Below.heap_setCell _ _ _ _ hc]; exact h.block k hk hc⟩
theorem Away.fin {C : Nat} {w w0 w' : World} (h : Away C w w0) (k : Fin2 w.heap.size w0 w') : Away C w w' :=
  ⟨k.os.trans h.os, k.tape.trans h.tape, k.output.trans h.output, Nat.le_trans h.size k.size, fun j hj hc => by have := h.size; rw [k.block j (by omega) (by omega) (by omega)]; exact h.block j hj hc⟩
theorem Away.below {w w' : World} {o : Obj} (h : Away w.heap.size (w.alloc o) w') : Below w.heap.size w w' :=
  ⟨h.os, h.tape, h.output, by have := h.size; simp at this; omega, fun k hk => by rw [h.block k (by simp; omega) (by omega), Below.heap_alloc _ _ _ hk]⟩

set_option maxRecDepth 100000 in
set_option maxHeartbeats 1000000 in
theorem varint_clo (w : World) (v : Value) (L : List UInt8) (h : Txt w v L) (hL : Aside (L.length < 1000000000)) (C : Nat) (y : Value) (T : TypeId) (hC : w.heap[C]? = some (.cells #[y] T (0, 0))) :
    Calls Tryz.prog 27 #[.pointer (some ⟨w.heap.size + 1 + 1, 0, none⟩), .pointer (some ⟨C, 0, none⟩)] (W3 w v)
      (Clo w v L (rdV L 0) (fun n w' => w'.heap[C]? = some (.cells #[.int .i64 n] T (0, 0))) (Away C w)) := by
  have hs := w3_src h
  have hCl := lt_of_heap hC
  cases ho : rdV L 0 with
  | bad k =>
    go_enter Tryz.func27, Tryz.ntmps27
    go_wp2_with fail
    refine (varint_any _ _ 0 v L hs hL).mono ?_
    rintro e w1 ⟨q, hq, hm, hv⟩
    rw [ho] at hv; obtain rfl := hv
    go_wp2_with fail
    exact ⟨rfl, (clo_of_moved hm).1, (clo_of_moved hm).2, Away.ofMoved hm, rfl⟩
  | ok n q =>
    go_enter Tryz.func27, Tryz.ntmps27
    go_wp2_with fail
    refine (varint_any _ _ 0 v L hs hL).mono ?_
    rintro e w1 ⟨q, hq, hm, hv⟩
    rw [ho] at hv; obtain ⟨rfl, u, rfl, rfl⟩ := hv
    have hC1 : w1.heap[C]? = some (.cells #[y] T (0, 0)) := by rw [hm.block (by rw [w3_size]; omega) (by omega), (w3_below w v).block C hCl]; exact hC
    have c1 : w1.cell? ⟨C, 0, none⟩ = some y := by rw [cell_of_row w1 C 0 _ _ _ hC1]; rfl
    have f1 : w1.frozen? ⟨C, 0, none⟩ = false := by simp [World.frozen?, hC1]
    have hd := (hs.moved hq hm).here
    go_wp2_with fail
    go_end0
    refine ⟨?_, ?_, (Away.ofMoved hm).set _ _, rfl, ?_, ?_⟩
    · rw [Below.heap_setCell _ _ _ _ (by show w.heap.size ≠ C; omega)]; exact (clo_of_moved hm).1
    · rw [Below.heap_setCell _ _ _ _ (by show w.heap.size + 1 ≠ C; omega)]; exact (clo_of_moved hm).2
    · rw [Below.heap_setCell _ _ _ _ (by show w.heap.size + 1 + 1 ≠ C; omega)]; exact hd
    · rw [setCell_eq_setRow w1 C 0 _ _ _ _ hC1]; exact setRow_heap w1 C _ _ _ _ hC1

theorem entersV : ∀ args w, (callFunc 27 args).run Tryz.prog w = .ok (.enter 27 args) w := fun args w => by kernel_rfl

set_option maxRecDepth 100000 in
set_option maxHeartbeats 1000000 in
theorem Varint_txt (w : World) (v : Value) (L : List UInt8) (h : Txt w v L) (hL : Aside (L.length < 1000000000)) :
    Calls Tryz.prog 9 #[v] w fun e w' => Below w.heap.size w w' ∧ e = .returned (match rdV L 0 with
      | .ok n q => .tuple #[.int .i64 n, .int .i64 (q : Nat), .bool true]
      | .bad _ => .tuple #[.int .i64 0, .int .i64 0, .bool false]) := by
  have hmf : ∀ (fn : Fn) (first cap : Array Value) (w : World), (Instr.makeFunc fn first cap).run Tryz.prog w = .ok (.func fn first cap) w := fun _ _ _ _ => rfl
  have hT : Txt (w.alloc (.cells #[.int .i64 0] 2)) v L := h.below ((Below.refl _ _).alloc (Nat.le_refl _) _)
  have hclo := varint_clo (w.alloc (.cells #[.int .i64 0] 2)) v L hT hL w.heap.size _ _ (heap_alloc_last _ _)
  have hdec := decode_any v L (w.alloc (.cells #[.int .i64 0] 2)) hT 27 #[.pointer (some ⟨w.heap.size, 0, none⟩)] entersV _ _ _ hclo
  cases ho : rdV L 0 with
  | bad k =>
    have hk0 : (k != 0) = true := by have := rdV_errs L 0 k ho; simp; omega
    rw [ho] at hdec
    go_enter Tryz.func9, Tryz.ntmps9
    go_wp2_with fail
    refine hdec.mono ?_
    rintro e w1 ⟨w0, hfin, haw, rfl⟩
    go_wp2_with fail
    go_ret3
    exact ⟨(haw.fin hfin).below, rfl⟩
  | ok n q =>
    rw [ho] at hdec
    go_enter Tryz.func9, Tryz.ntmps9
    go_wp2_with fail
    refine hdec.mono ?_
    rintro e w1 ⟨w0, hfin, haw, rfl, hx⟩
    have hx1 : w1.heap[w.heap.size]? = some (.cells #[.int .i64 n] 2 (0, 0)) := by rw [hfin.block _ (lt_of_heap hx) (by simp) (by simp; omega)]; exact hx
    have c1 : w1.cell? ⟨w.heap.size, 0, none⟩ = some (.int .i64 n) := by rw [cell_of_row w1 _ 0 _ _ _ hx1]; rfl
    go_wp2_with fail
    go_ret3
    exact ⟨(haw.fin hfin).below, rfl⟩

set_option maxRecDepth 100000 in
set_option maxHeartbeats 1000000 in
theorem entry_clo (w : World) (v : Value) (L : List UInt8) (h : Txt w v L) (hL : Aside (L.length < 1000000000)) (C : Nat) (x y z : Value) (T : TypeId) (hC : w.heap[C]? = some (.cells #[x, y, z] T (0, 0))) :
    Calls Tryz.prog 40 #[.pointer (some ⟨w.heap.size + 1 + 1, 0, none⟩), .pointer (some ⟨C, 0, none⟩)] (W3 w v)
      (Clo w v L (rdE L 0) (fun a w' => ∃ b, w'.heap[C]? = some (.cells #[.int .i64 a.kind, .string (str a.key), b] T (0, 0)) ∧ Own (w.heap.size + 1 + 1 + 1) w' b a.body) (Away C w)) := by
  have hs := w3_src h
  have hCl := lt_of_heap hC
  cases ho : rdE L 0 with
  | bad k =>
    go_enter Tryz.func40, Tryz.ntmps40
    go_wp2_with fail
    refine (entry_any _ _ 0 v L hs hL).mono ?_
    rintro e w1 ⟨q, hq, hm, hv⟩
    rw [ho] at hv; obtain rfl := hv
    go_wp2_with fail
    exact ⟨rfl, (clo_of_moved hm).1, (clo_of_moved hm).2, Away.ofMoved hm, rfl⟩
  | ok a q =>
    go_enter Tryz.func40, Tryz.ntmps40
    go_wp2_with fail
    refine (entry_any _ _ 0 v L hs hL).mono ?_
    rintro e w1 ⟨q, hq, hm, hv⟩
    rw [ho] at hv; obtain ⟨rfl, u, rfl, b, rfl, hown⟩ := hv
    have hC1 : w1.heap[C]? = some (.cells #[x, y, z] T (0, 0)) := by rw [hm.block (by rw [w3_size]; omega) (by omega), (w3_below w v).block C hCl]; exact hC
    have c0 : w1.cell? ⟨C, 0, none⟩ = some x := by rw [cell_of_row w1 C 0 _ _ _ hC1]; rfl
    have c1 : w1.cell? ⟨C, 1, none⟩ = some y := by rw [cell_of_row w1 C 1 _ _ _ hC1]; rfl
    have c2 : w1.cell? ⟨C, 2, none⟩ = some z := by rw [cell_of_row w1 C 2 _ _ _ hC1]; rfl
    have kf : ∀ i, w1.frozen? ⟨C, i, none⟩ = false := fun i => by simp [World.frozen?, hC1]
    have f0 := kf 0
    have f1 := kf 1
    have f2 := kf 2
    have hd := (hs.moved hq hm).here
    rw [w3_size] at hown
    obtain ⟨ao3, cap3, hv3, -, -, -, -⟩ := hown.txt
    obtain ⟨nn, hnn⟩ : ∃ nn, a.body.length = nn := ⟨_, rfl⟩
    rw [hnn] at hv3
    subst hv3
    have HO := Aside.mk hown
    have HC1 := Aside.mk hC1
    clear kf hown hC1 hnn
    go_wp2_with fail
    go_end0
    have hne : ∀ j, w.heap.size ≤ j → j ≠ C := fun j hj => by omega
    have hh := hne _ (Nat.le_refl _)
    have hh1 := hne (w.heap.size + 1) (by omega)
    have hh2 := hne (w.heap.size + 1 + 1) (by omega)
    refine ⟨?_, ?_, (((Away.ofMoved hm).set _ _).set _ _).set _ _, rfl, ?_, _, set_row3 HC1.out _ _ _, ?_⟩
    · rw [Below.heap_setCell _ _ _ _ hh, Below.heap_setCell _ _ _ _ hh, Below.heap_setCell _ _ _ _ hh]; exact (clo_of_moved hm).1
    · rw [Below.heap_setCell _ _ _ _ hh1, Below.heap_setCell _ _ _ _ hh1, Below.heap_setCell _ _ _ _ hh1]; exact (clo_of_moved hm).2
    · rw [Below.heap_setCell _ _ _ _ hh2, Below.heap_setCell _ _ _ _ hh2, Below.heap_setCell _ _ _ _ hh2]; exact hd
    · exact ((HO.out.setBelow (by show C < _; omega) _).setBelow (by show C < _; omega) _).setBelow (by show C < _; omega) _

theorem results_cell_2 {P : Program} {fn : Func} {p a b : Tmp} {ty : TypeId} (h : fn.results = #[.cell p ty, .tmp a, .tmp b]) (tmps : Array Value) (w : World) (g : Nat) (t : TypeId) (cs : Array Value) (fr : Nat × Nat) (d : TypeDesc)
    (hp : tmps.getD p undef = .pointer (some ⟨g, 0, none⟩)) (hg : w.heap[g]? = some (.cells cs t fr))
    (hu : P.underlying ty = some d) (hd : (match d with | .struct _ | .array _ _ => true | _ => false) = true) (hi : (P.info? ty).map (·.size) = some cs.size) :
    (results fn tmps).run P w = .ok (.tuple #[.agg cs, tmps.getD a undef, tmps.getD b undef]) w := by
  have hp' : tmps[p]?.getD undef = .pointer (some ⟨g, 0, none⟩) := by simpa using hp
  simp [results, h, hp', asAddr, run_loadVar_row w g t ty cs fr d hg hu hd hi]
theorem results_cell_1 {P : Program} {fn : Func} {p a : Tmp} {ty : TypeId} (h : fn.results = #[.cell p ty, .tmp a]) (tmps : Array Value) (w : World) (g : Nat) (t : TypeId) (cs : Array Value) (fr : Nat × Nat) (d : TypeDesc)
    (hp : tmps.getD p undef = .pointer (some ⟨g, 0, none⟩)) (hg : w.heap[g]? = some (.cells cs t fr))
    (hu : P.underlying ty = some d) (hd : (match d with | .struct _ | .array _ _ => true | _ => false) = true) (hi : (P.info? ty).map (·.size) = some cs.size) :
    (results fn tmps).run P w = .ok (.tuple #[.agg cs, tmps.getD a undef]) w := by
  have hp' : tmps[p]?.getD undef = .pointer (some ⟨g, 0, none⟩) := by simpa using hp
  simp [results, h, hp', asAddr, run_loadVar_row w g t ty cs fr d hg hu hd hi]
theorem entersE : ∀ args w, (callFunc 40 args).run Tryz.prog w = .ok (.enter 40 args) w := fun args w => by kernel_rfl
theorem Own.fin {B base : Nat} {w0 w' : World} {v : Value} {L : List UInt8} (h : Own base w0 v L) (hf : Fin2 B w0 w') (hb : B + 1 < base) : Own base w' v L := by
  obtain ⟨h1, h2⟩ := h
  refine ⟨h1, ?_⟩
  rcases h2 with h2 | ⟨g, cap, cur, hv, hg, hh, r⟩
  · exact Or.inl h2
  · exact Or.inr ⟨g, cap, cur, hv, hg, by rw [hf.block g (lt_of_heap hh) (by omega) (by omega)]; exact hh, r⟩

set_option maxRecDepth 100000 in
set_option maxHeartbeats 1000000 in
theorem DecodeEntry_txt (w : World) (v : Value) (L : List UInt8) (h : Txt w v L) (hL : Aside (L.length < 1000000000)) :
    Calls Tryz.prog 20 #[v] w fun e w' => Below w.heap.size w w' ∧ (match rdE L 0 with
      | .ok a q => ∃ b, e = .returned (.tuple #[.agg #[.int .i64 a.kind, .string (str a.key), b], .int .i64 (q : Nat), .int .i64 0]) ∧ Own w.heap.size w' b a.body
      | .bad k => e = .returned (.tuple #[.agg #[.int .i64 0, .string ⟨#[]⟩, .slice none 0 0], .int .i64 0, .int .i64 k])) := by
  have hmf : ∀ (fn : Fn) (first cap : Array Value) (w : World), (Instr.makeFunc fn first cap).run Tryz.prog w = .ok (.func fn first cap) w := fun _ _ _ _ => rfl
  obtain ⟨WE, hWE⟩ : ∃ W, W = (w.alloc (.cells #[.int .i64 0, .string ⟨#[]⟩, .slice none 0 0] 24)).alloc (.cells #[.int .i64 0, .string ⟨#[]⟩, .slice none 0 0] 24) := ⟨_, rfl⟩
  have hb : Below w.heap.size w WE := by rw [hWE]; exact ((Below.refl _ _).alloc (Nat.le_refl _) _).alloc (by simp) _
  have hsz : WE.heap.size = w.heap.size + 2 := by rw [hWE]; simp
  have hr : WE.heap[w.heap.size]? = some (.cells #[.int .i64 0, .string ⟨#[]⟩, .slice none 0 0] 24 (0, 0)) := by rw [hWE, Below.heap_alloc _ _ _ (by simp)]; exact heap_alloc_last _ _
  have hx : WE.heap[w.heap.size + 1]? = some (.cells #[.int .i64 0, .string ⟨#[]⟩, .slice none 0 0] 24 (0, 0)) := by
    have := heap_alloc_last (w.alloc (.cells #[.int .i64 0, .string ⟨#[]⟩, .slice none 0 0] 24)) (.cells #[.int .i64 0, .string ⟨#[]⟩, .slice none 0 0] 24)
    rw [hWE]; simpa using this
  have hT : Txt WE v L := h.below hb
  have hdec := decode_any v L WE hT 40 #[.pointer (some ⟨w.heap.size + 1, 0, none⟩)] entersE _ _ _ (entry_clo WE v L hT hL (w.heap.size + 1) _ _ _ _ hx)
  rw [hsz] at hdec
  cases ho : rdE L 0 with
  | bad k =>
    have hk0 : (k != 0) = true := by have := rdE_errs L 0 k ho; simp; omega
    rw [ho] at hdec
    go_enter Tryz.func20, Tryz.ntmps20
    go_wp2_with fail
    rw [← hWE]
    refine hdec.mono ?_
    rintro e w1 ⟨w0, hfin, haw, rfl⟩
    have hr1 : w1.heap[w.heap.size]? = some (.cells #[.int .i64 0, .string ⟨#[]⟩, .slice none 0 0] 24 (0, 0)) := by
      rw [hfin.block _ (by have := haw.size; omega) (by omega) (by omega), haw.block _ (by omega) (by omega)]; exact hr
    have c0 : w1.cell? ⟨w.heap.size, 0, none⟩ = some (.int .i64 0) := by rw [cell_of_row w1 _ 0 _ _ _ hr1]; rfl
    have c1 : w1.cell? ⟨w.heap.size, 1, none⟩ = some (.string ⟨#[]⟩) := by rw [cell_of_row w1 _ 1 _ _ _ hr1]; rfl
    have c2 : w1.cell? ⟨w.heap.size, 2, none⟩ = some (.slice none 0 0) := by rw [cell_of_row w1 _ 2 _ _ _ hr1]; rfl
    have kf : ∀ i, w1.frozen? ⟨w.heap.size, i, none⟩ = false := fun i => by simp [World.frozen?, hr1]
    have f0 := kf 0
    have f1 := kf 1
    have f2 := kf 2
    have hbf : Below w.heap.size w w1 := ⟨(hfin.os.trans haw.os).trans hb.os, (hfin.tape.trans haw.tape).trans hb.tape, (hfin.output.trans haw.output).trans hb.output, by have := hfin.size; have := haw.size; omega,
      fun k hk => by rw [hfin.block k (by have := haw.size; omega) (by omega) (by omega), haw.block k (by omega) (by omega)]; exact hb.block k hk⟩
    have HR := Aside.mk hr1
    clear hr1 kf
    clear hWE
    go_wp2_with fail
    refine bodyPost_ret (results_cell_2 rfl _ _ w.heap.size 24 #[.int .i64 0, .string ⟨#[]⟩, .slice none 0 0] (0, 0) _ rfl (set_row3 HR.out _ _ _) Tryz.underlying24 rfl (by kernel_rfl)) rfl ?_
    exact ⟨((hbf.setCell (Nat.le_refl _) _).setCell (Nat.le_refl _) _).setCell (Nat.le_refl _) _, rfl⟩
  | ok n q =>
    rw [ho] at hdec
    go_enter Tryz.func20, Tryz.ntmps20
    go_wp2_with fail
    rw [← hWE]
    refine hdec.mono ?_
    rintro e w1 ⟨w0, hfin, haw, rfl, b, hX, hO⟩
    have hr1 : w1.heap[w.heap.size]? = some (.cells #[.int .i64 0, .string ⟨#[]⟩, .slice none 0 0] 24 (0, 0)) := by
      rw [hfin.block _ (by have := haw.size; omega) (by omega) (by omega), haw.block _ (by omega) (by omega)]; exact hr
    have c0 : w1.cell? ⟨w.heap.size, 0, none⟩ = some (.int .i64 0) := by rw [cell_of_row w1 _ 0 _ _ _ hr1]; rfl
    have c1 : w1.cell? ⟨w.heap.size, 1, none⟩ = some (.string ⟨#[]⟩) := by rw [cell_of_row w1 _ 1 _ _ _ hr1]; rfl
    have c2 : w1.cell? ⟨w.heap.size, 2, none⟩ = some (.slice none 0 0) := by rw [cell_of_row w1 _ 2 _ _ _ hr1]; rfl
    have kf : ∀ i, w1.frozen? ⟨w.heap.size, i, none⟩ = false := fun i => by simp [World.frozen?, hr1]
    have f0 := kf 0
    have f1 := kf 1
    have f2 := kf 2
    have hbf : Below w.heap.size w w1 := ⟨(hfin.os.trans haw.os).trans hb.os, (hfin.tape.trans haw.tape).trans hb.tape, (hfin.output.trans haw.output).trans hb.output, by have := hfin.size; have := haw.size; omega,
      fun k hk => by rw [hfin.block k (by have := haw.size; omega) (by omega) (by omega), haw.block k (by omega) (by omega)]; exact hb.block k hk⟩
    have HR := Aside.mk hr1
    clear hr1 kf
    have hO1 := hO.fin (by rw [← hsz] at hfin; exact hfin) (by omega)
    have hX1 : w1.heap[w.heap.size + 1]? = some (.cells #[.int .i64 n.kind, .string (str n.key), b] 24 (0, 0)) := by
      rw [hfin.block _ (lt_of_heap hX) (by omega) (by omega)]; exact hX
    obtain ⟨ao3, cap3, hv3, -, -, -, -⟩ := hO1.txt
    obtain ⟨nn, hnn⟩ : ∃ nn, n.body.length = nn := ⟨_, rfl⟩
    rw [hnn] at hv3
    subst hv3
    have d0 : w1.cell? ⟨w.heap.size + 1, 0, none⟩ = some (.int .i64 n.kind) := by rw [cell_of_row w1 _ 0 _ _ _ hX1]; rfl
    have d1 : w1.cell? ⟨w.heap.size + 1, 1, none⟩ = some (.string (str n.key)) := by rw [cell_of_row w1 _ 1 _ _ _ hX1]; rfl
    have d2 : w1.cell? ⟨w.heap.size + 1, 2, none⟩ = some (.slice ao3 nn cap3) := by rw [cell_of_row w1 _ 2 _ _ _ hX1]; rfl
    have HO := Aside.mk hO1
    clear hWE hO hO1 hX hX1 hnn
    go_wp2_with fail
    refine bodyPost_ret (results_cell_2 rfl _ _ w.heap.size 24 #[.int .i64 n.kind, .string (str n.key), .slice ao3 nn cap3] (0, 0) _ rfl (set_row3 HR.out _ _ _) Tryz.underlying24 rfl (by kernel_rfl)) rfl ?_
    refine ⟨((hbf.setCell (Nat.le_refl _) _).setCell (Nat.le_refl _) _).setCell (Nat.le_refl _) _, _, rfl, ?_⟩
    exact ((HO.out.setBelow (by show w.heap.size < _; omega) _).setBelow (by show w.heap.size < _; omega) _).setBelow (by show w.heap.size < _; omega) _ |>.mono (by omega)
end Go.Proofs.YteljhjljigbcjaaGreatDoor.Cv
