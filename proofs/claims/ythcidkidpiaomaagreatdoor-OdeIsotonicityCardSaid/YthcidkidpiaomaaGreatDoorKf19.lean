/- OcH OcI OhB OfA -/
import Derived.Laws.EntriesVeiled
import Derived.Carry
import Derived.ChangeSlices
import Derived.ChangeArms
import Derived.ChangeOld
import Derived.OpenShut
import Derived.ShutString
import Derived.Lib.SmallJoins
import Derived.Test.YthcidkidpiaomaaGreatDoorKf18
import Derived.Test.YthcidkidpiaomaaGreatDoorKf14
import Derived.Test.YthcidkidpiaomaaGreatDoorKf17
section
set_option linter.unusedVariables false
set_option linter.unusedSimpArgs false
namespace Go.Proofs.YthcidkidpiaomaaGreatDoor.Od
open Go.RowKit Rg
structure Ivs (w : World) (v : Value) (xs : List Iv) : Prop where
  out : ∃ ax cx, v = .slice ax xs.length cx ∧ ∀ j a, xs[j]? = some a → ∃ bx ox, ax = some ⟨bx, ox, none⟩ ∧ w.cell? ⟨bx, ox + j * 2, none⟩ = some (.int .i64 a.1) ∧ w.cell? ⟨bx, ox + j * 2 + 1, none⟩ = some (.int .i64 a.2)
  few : xs.length ≤ 9000
theorem Ivs.below {w w' : World} {v : Value} {xs : List Iv} (h : Ivs w v xs) (hb : Below w.heap.size w w') : Ivs w' v xs := by
  obtain ⟨ax, cx, hv, hc⟩ := h.out
  exact ⟨⟨ax, cx, hv, fun j a ha => by
    obtain ⟨bx, ox, h1, h2, h3⟩ := hc j a ha
    exact ⟨bx, ox, h1, by rw [hb.cell (World.block_lt_of_cell? w _ h2)]; exact h2, by rw [hb.cell (World.block_lt_of_cell? w _ h3)]; exact h3⟩⟩, h.few⟩
structure Boxes (w0 : World) (s : Nat) (v vx : Value) (tt : Iv) (W : World) : Prop where
  re : W.heap[s]? = some (.cells #[v] 26 (0, 0))
  rx : W.heap[s + 1]? = some (.cells #[vx] 27 (0, 0))
  rt : W.heap[s + 1 + 1]? = some (.cells #[.int .i64 tt.1, .int .i64 tt.2] 29 (0, 0))
  rr : W.heap[s + 1 + 1 + 1]? = some (.cells #[.int .i64 0, .int .i64 0] 29 (0, 0))
  fr : Below s w0 W
theorem Boxes.below {w0 W W' : World} {s : Nat} {v vx : Value} {tt : Iv} (h : Boxes w0 s v vx tt W) (hb : Below W.heap.size W W') : Boxes w0 s v vx tt W' := by
  have h1 := heap_lt h.re; have h2 := heap_lt h.rx; have h3 := heap_lt h.rt; have h4 := heap_lt h.rr
  exact ⟨by rw [hb.block _ h1]; exact h.re, by rw [hb.block _ h2]; exact h.rx, by rw [hb.block _ h3]; exact h.rt, by rw [hb.block _ h4]; exact h.rr, h.fr.trans (hb.mono (by omega))⟩
theorem Boxes.new (w : World) (v vx : Value) (tt : Iv) : Boxes w w.heap.size v vx tt ((((w.alloc (.cells #[v] 26)).alloc (.cells #[vx] 27)).alloc (.cells #[.int .i64 tt.1, .int .i64 tt.2] 29)).alloc (.cells #[.int .i64 0, .int .i64 0] 29)) := by
  have r1 := heap_alloc_last w (.cells #[v] 26)
  have e1 : (w.alloc (.cells #[v] 26)).heap.size = w.heap.size + 1 := World.size_alloc ..
  have b1 : Below w.heap.size w (w.alloc (.cells #[v] 26)) := (Below.refl _ _).alloc (Nat.le_refl _) _
  generalize w.alloc (.cells #[v] 26) = w1 at r1 e1 b1 ⊢
  have r2 := heap_alloc_last w1 (.cells #[vx] 27)
  have e2 : (w1.alloc (.cells #[vx] 27)).heap.size = w1.heap.size + 1 := World.size_alloc ..
  have b2 : Below w1.heap.size w1 (w1.alloc (.cells #[vx] 27)) := (Below.refl _ _).alloc (Nat.le_refl _) _
  generalize w1.alloc (.cells #[vx] 27) = w2 at r2 e2 b2 ⊢
  have r3 := heap_alloc_last w2 (.cells #[.int .i64 tt.1, .int .i64 tt.2] 29)
  have e3 : (w2.alloc (.cells #[.int .i64 tt.1, .int .i64 tt.2] 29)).heap.size = w2.heap.size + 1 := World.size_alloc ..
  have b3 : Below w2.heap.size w2 (w2.alloc (.cells #[.int .i64 tt.1, .int .i64 tt.2] 29)) := (Below.refl _ _).alloc (Nat.le_refl _) _
  generalize w2.alloc (.cells #[.int .i64 tt.1, .int .i64 tt.2] 29) = w3 at r3 e3 b3 ⊢
  have r4 := heap_alloc_last w3 (.cells #[.int .i64 0, .int .i64 0] 29)
  have b4 : Below w3.heap.size w3 (w3.alloc (.cells #[.int .i64 0, .int .i64 0] 29)) := (Below.refl _ _).alloc (Nat.le_refl _) _
  generalize w3.alloc (.cells #[.int .i64 0, .int .i64 0] 29) = w4 at r4 b4 ⊢
  rw [e1] at r2 e2 b2
  rw [e2] at r3 e3 b3
  rw [e3] at r4 b4
  refine ⟨?_, ?_, ?_, r4, ((b1.trans (b2.mono (by omega))).trans (b3.mono (by omega))).trans (b4.mono (by omega))⟩
  · rw [b4.block _ (by omega), b3.block _ (by omega), b2.block _ (by omega)]; exact r1
  · rw [b4.block _ (by omega), b3.block _ (by omega)]; exact r2
  · rw [b4.block _ (by omega)]; exact r3
theorem three_new (w : World) (x y z : Value) :
    let V := ((w.alloc (.cells #[x] 3)).alloc (.cells #[y] 94)).alloc (.cells #[z] 92)
    V.heap[w.heap.size]? = some (.cells #[x] 3 (0, 0)) ∧ V.heap[w.heap.size + 1]? = some (.cells #[y] 94 (0, 0)) ∧ V.heap[w.heap.size + 1 + 1]? = some (.cells #[z] 92 (0, 0)) ∧ Below w.heap.size w V := by
  intro V
  have r1 := heap_alloc_last w (.cells #[x] 3)
  have e1 : (w.alloc (.cells #[x] 3)).heap.size = w.heap.size + 1 := World.size_alloc ..
  have b1 : Below w.heap.size w (w.alloc (.cells #[x] 3)) := (Below.refl _ _).alloc (Nat.le_refl _) _
  have hV : V = ((w.alloc (.cells #[x] 3)).alloc (.cells #[y] 94)).alloc (.cells #[z] 92) := rfl
  generalize w.alloc (.cells #[x] 3) = w1 at r1 e1 b1 hV
  have r2 := heap_alloc_last w1 (.cells #[y] 94)
  have e2 : (w1.alloc (.cells #[y] 94)).heap.size = w1.heap.size + 1 := World.size_alloc ..
  have b2 : Below w1.heap.size w1 (w1.alloc (.cells #[y] 94)) := (Below.refl _ _).alloc (Nat.le_refl _) _
  generalize w1.alloc (.cells #[y] 94) = w2 at r2 e2 b2 hV
  have r3 := heap_alloc_last w2 (.cells #[z] 92)
  have b3 : Below w2.heap.size w2 V := by rw [hV]; exact (Below.refl _ _).alloc (Nat.le_refl _) _
  rw [← hV] at r3
  rw [e1] at r2 e2 b2
  rw [e2] at r3 b3
  refine ⟨?_, ?_, r3, (b1.trans (b2.mono (by omega))).trans (b3.mono (by omega))⟩
  · rw [b3.block _ (by omega), b2.block _ (by omega)]; exact r1
  · rw [b3.block _ (by omega)]; exact r2
set_option maxRecDepth 100000 in
set_option maxHeartbeats 8000000 in
theorem Eval_any {vars : List (List UInt8)} (t : Tr) (hok : okT vars t) (xs : List Iv) (tt : Iv) (hvl : vars.length ≤ xs.length) (hx : ∀ a ∈ xs, okI a) (ht : okI tt) (v vx : Value) (w : World) (h : RdN w v (flat t)) (hxr : Ivs w vx xs) (hE : Ends w) :
    Calls Tryz.prog 25 #[v, vx, ivV tt] w fun e' w' => e' = .returned (ivV (ev xs tt t)) ∧ Below w.heap.size w w' := by
  have HIH := Aside.mk (fun E i R w => evalC E (flat t) xs tt vars hvl hx ht _ t (Nat.le_refl _) hok i R w)
  have HRD := Aside.mk h
  have HXR := Aside.mk hxr
  have HEN := Aside.mk hE
  have HB := Aside.mk (Boxes.new w v vx tt)
  have hsl : ∃ ao l c, v = .slice ao l c := by obtain ⟨a, c, h⟩ := h.slice; exact ⟨a, _, c, h⟩
  have hsx : ∃ ao l c, vx = .slice ao l c := by obtain ⟨a, c, h, -⟩ := hxr.out; exact ⟨a, _, c, h⟩
  clear h hxr hE hx ht hok
  obtain ⟨ao, l, c, rfl⟩ := hsl
  obtain ⟨ax, lx, cx, rfl⟩ := hsx
  unfold ivV
  go_enter Tryz.func25, Tryz.ntmps25
  go_wp2_with fail
  obtain ⟨s, hs⟩ : ∃ s, w.heap.size = s := ⟨_, rfl⟩
  have HS := Aside.mk hs
  rw [hs] at HB
  simp only [hs]
  generalize (((w.alloc (.cells #[.slice ao l c] 26)).alloc (.cells #[.slice ax lx cx] 27)).alloc (.cells #[.int .i64 tt.1, .int .i64 tt.2] 29)).alloc (.cells #[.int .i64 0, .int .i64 0] 29) = W at HB ⊢
  refine (binaryOps_any W).mono ?_
  rintro e' w2 ⟨r, rfl, hr, hm, hb2⟩
  have HB2 := Aside.mk (HB.out.below hb2)
  have HM2 := Aside.mk hm
  have HSZ := Aside.mk (And.intro (heap_lt HB.out.rr) (And.intro hr hb2.size))
  clear hr hm hb2 hs
  obtain ⟨G, hG⟩ : ∃ G, w2.heap.size = G := ⟨_, rfl⟩
  have HGG := Aside.mk hG
  have HV := three_new w2 (.int .i64 0) (.map (some r)) (.func (.func 71) #[] #[.pointer (some ⟨s, 0, none⟩), .pointer (some ⟨G, 0, none⟩), .pointer (some ⟨s + 1, 0, none⟩), .pointer (some ⟨s + 1 + 1, 0, none⟩), .pointer (some ⟨G + 1 + 1, 0, none⟩), .pointer (some ⟨G + 1, 0, none⟩)])
  rw [hG] at HV
  have HVA := Aside.mk HV
  clear HV
  go_wp2_with fail
  generalize ((w2.alloc (.cells #[.int .i64 0] 3)).alloc (.cells #[.map (some r)] 94)).alloc (.cells #[.func (.func 71) #[] #[.pointer (some ⟨s, 0, none⟩), .pointer (some ⟨G, 0, none⟩), .pointer (some ⟨s + 1, 0, none⟩), .pointer (some ⟨s + 1 + 1, 0, none⟩), .pointer (some ⟨G + 1 + 1, 0, none⟩), .pointer (some ⟨G + 1, 0, none⟩)]] 92) = V at HVA ⊢
  obtain ⟨v1, v2, v3, v4⟩ := HVA.out
  rcases HRD.out.out with ⟨h0, -⟩ | ⟨b, o, c', hv, hcp, hc⟩
  · exact absurd h0 (flat_ne t)
  injection hv with q1 q2 q3
  subst q1 q2 q3
  obtain ⟨ax', cx', hvx, hcx⟩ := HXR.out.out
  injection hvx with q1 q2 q3
  subst q1 q2 q3
  have hbw : Below w2.heap.size w2 V := by rw [hG]; exact v4
  have HBV := HB2.out.below hbw
  have hsw := HS.out
  have hwV : Below w.heap.size w V := by rw [hsw]; exact HBV.fr
  have z := HSZ.out
  have hrl : r < w2.heap.size := lt_of HM2.out.choose_spec.choose_spec.1
  have e0 := World.block_lt_of_cell? w _ (HEN.out.pr 0 246 (by decide))
  have e1 := World.block_lt_of_cell? w _ (HEN.out.qu 0 249 (by decide))
  have hbl : b < w.heap.size := World.block_lt_of_cell? w _ (hc 0 _ (by rw [flat_kids]; rfl))
  have hfl : ∀ j u, (nds (flat t))[j]? = some u → V.cell? ⟨b, o + j, none⟩ = some u := fun j u hu => by rw [hwV.cell (p := ⟨b, o + j, none⟩) hbl]; exact hc j u hu
  have env : Env ⟨s, G, s + 1, s + 1 + 1, G + 1 + 1, G + 1, r, b, o, c, ax, cx⟩ (flat t) xs tt V := by
    refine ⟨by rw [cell_of_row _ _ 0 _ _ _ HBV.re]; rfl, by rw [cell_of_row _ _ 0 _ _ _ HBV.rx]; rfl, by rw [cell_of_row _ _ 0 _ _ _ HBV.rt]; rfl, by rw [cell_of_row _ _ 1 _ _ _ HBV.rt]; rfl, by rw [cell_of_row _ _ 0 _ _ _ v3]; rfl, by rw [cell_of_row _ _ 0 _ _ _ v2]; rfl, hfl, fun j a ha => ?_, HM2.out.below hbw, HEN.out.below hwV, HRD.out.few, ?_⟩
    · obtain ⟨bx, ox, h1, h2, h3⟩ := hcx j a ha
      have hbx := World.block_lt_of_cell? w _ h2
      simp only at hbx
      exact ⟨bx, ox, h1, by show bx ≠ G; omega, by rw [hwV.cell (World.block_lt_of_cell? w _ h2)]; exact h2, by rw [hwV.cell (World.block_lt_of_cell? w _ h3)]; exact h3⟩
    · simp only at e0 e1
      refine ⟨?_, ?_, ?_, ?_, ?_, ?_, ?_, ?_, ?_⟩ <;> simp only <;> omega
  refine (HIH.out _ 0 [] V env v1 (by simp)).mono ?_
  rintro e' w5 ⟨rfl, hk5, hc5⟩
  have hr5 := (hk5.block _ (heap_lt HBV.rr) (by simp only; omega)).trans HBV.rr
  have HR5 := Aside.mk hr5
  have HF5 : Aside (Below s w w5) := ⟨HBV.fr.trans (hk5.below (by simp only; omega) (by have := heap_lt HBV.re; omega))⟩
  clear hk5 hc5 env hfl hbl hrl hwV HBV hbw v1 v2 v3 v4 hc hcx e0 e1 z hr5
  unfold ivV
  go_wp2_with (first | (refine wpList_store_iv rfl (.tmp 6) (.tmp 13) rfl (s + 1 + 1 + 1) _ _ rfl rfl _ _ HR5.out ?_; intro w6 hr6 hb6 hk6 hs6))
  exact ret_iv rfl rfl hr6 ⟨rfl, by rw [HS.out]; exact HF5.out.trans (hb6.mono (by omega))⟩
end Go.Proofs.YthcidkidpiaomaaGreatDoor.Od
end
section
set_option linter.unusedVariables false
set_option linter.unusedSimpArgs false
namespace Go.Proofs.YthcidkidpiaomaaGreatDoor.Od
open Go.RowKit Rg
def ivc (xs : List Iv) : List Value := xs.flatMap fun a => [.int .i64 a.1, .int .i64 a.2]
theorem ivc_app (a b : List Iv) : ivc (a ++ b) = ivc a ++ ivc b := by simp [ivc]
theorem ivc_get (xs : List Iv) (j : Nat) (a : Iv) (h : xs[j]? = some a) : (ivc xs)[j * 2]? = some (.int .i64 a.1) ∧ (ivc xs)[j * 2 + 1]? = some (.int .i64 a.2) := by
  induction xs generalizing j with
  | nil => simp at h
  | cons x r ih =>
    cases j with
    | zero => obtain rfl := Option.some.inj h; simp [ivc]
    | succ j =>
      have := ih j (by simpa using h)
      have e : ivc (x :: r) = [.int .i64 x.1, .int .i64 x.2] ++ ivc r := rfl
      rw [e, show (j + 1) * 2 = 2 + j * 2 by omega, show 2 + j * 2 + 1 = 2 + (j * 2 + 1) by omega]
      rw [List.getElem?_append_right (by simp), List.getElem?_append_right (by simp)]
      simpa using this
theorem info_ivs : (Tryz.prog.info? 29).map (fun i => (i.zero, i.size, i.bytes)) = some (some (.agg #[.int .i64 0, .int .i64 0]), 2, 16) := by kernel_rfl
theorem wpList_append_iv (w : World) {ops : Array Oper} {rest : List Oper} {o : Oper} {a : Act} {Q : Exit → Act → World → Prop} (hg : o.guard = none) (p x : Operand) (hop : o.op = Op.call { callee := Callee.builtin Builtin.append, args := #[p, x], argTypes := #[27, 27] })
    (base : Nat) (v : Value) (ys : List Iv) (n : Nat) (hn : ys.length = n) (hs : a.eval p = v) (h : w.ownsRow base 29 2 v n (ivc ys)) (l u : Int) (gk : Nat) (hx : a.eval x = .slice (some ⟨gk, 0, none⟩) 1 1)
    (hr : w.heap[gk]? = some (.cells #[.int .i64 l, .int .i64 u] 29 (0, 0))) (hbd : n ≤ 9000) (hbase : base ≤ w.heap.size)
    (hK : ∀ ao2 cap w', w'.ownsRow base 29 2 (.slice ao2 (n + 1) cap) (n + 1) (ivc (ys ++ [(l, u)])) → Below base w w' → wpList Tryz.prog ops Q rest (a.put o.dst (.slice ao2 (n + 1) cap)) w') :
    wpList Tryz.prog ops Q (o :: rest) a w := by
  subst hn
  obtain ⟨i0, hi, hz0, hz1, hz2⟩ := info_parts' info_ivs
  have hcell : ∀ (j : Nat) (v : Value), [Value.int .i64 l, Value.int .i64 u][j]? = some v → w.cell? ((⟨gk, 0, none⟩ : Addr).add j) = some v := by
    intro j v hu
    rcases j with _ | _ | j
    · obtain rfl := Option.some.inj hu
      have := cell_of_row w gk 0 _ _ _ hr
      simpa [Addr.add] using this
    · obtain rfl := Option.some.inj hu
      have := cell_of_row w gk 1 _ _ _ hr
      simpa [Addr.add] using this
    · cases hu
  have hone : ∀ v ∈ [Value.int .i64 l, Value.int .i64 u], v.oneCell' = true := by
    intro v hv
    simp only [List.mem_cons, List.not_mem_nil, or_false] at hv
    rcases hv with rfl | rfl <;> rfl
  refine wpList_append_own_at w hg p x _ hop base 29 i0 _ 2 16 Tryz.underlying27 hi hz0 hz1 hz2 rfl (by omega) v ys.length _ hs h ⟨gk, 0, none⟩ 1 1 [Value.int .i64 l, Value.int .i64 u] hx rfl hcell hone (by simp only [maxLen]; omega) (by omega) hbase ?_
  intro v' w' hown' hgr _ hat
  have hv : ∃ ao cap, v' = .slice ao (ys.length + 1) cap := by
    obtain ⟨-, h2⟩ := hown'
    rcases h2 with ⟨rfl, hn⟩ | ⟨g', cap, cur, rfl, -⟩
    · omega
    · exact ⟨_, _, rfl⟩
  obtain ⟨ao2, cap, rfl⟩ := hv
  exact hK ao2 cap w' (by rw [ivc_app]; exact hown') ((Below.refl base w).grown hgr hbase (fun k hk => (World.ownsRow.lt h k hk).1))
theorem ivs_own {w : World} {base : Nat} {v : Value} {xs : List Iv} (h : w.ownsRow base 29 2 v xs.length (ivc xs)) (hf : xs.length ≤ 9000) : Ivs w v xs := by
  have h' := h
  obtain ⟨h1, h2⟩ := h
  rcases h2 with ⟨rfl, hz⟩ | ⟨g, cap, cur, rfl, hg, hh, hcap, hm, hs, ht⟩
  · refine ⟨⟨none, 0, by rw [hz], fun j a ha => ?_⟩, hf⟩
    have := (List.getElem?_eq_some_iff.1 ha).1
    omega
  · refine ⟨⟨_, cap, rfl, fun j a ha => ?_⟩, hf⟩
    have hj := (List.getElem?_eq_some_iff.1 ha).1
    obtain ⟨q1, q2⟩ := ivc_get xs j a ha
    refine ⟨g, 0, rfl, ?_, ?_⟩
    · rw [Nat.zero_add, h'.cellAt (j * 2) (by omega)]; exact q1
    · rw [Nat.zero_add, h'.cellAt (j * 2 + 1) (by omega)]; exact q2
theorem take_map_succ {α β : Type} (f : α → β) (l : List α) (i : Nat) (a : α) (h : l[i]? = some a) : (l.take (i + 1)).map f = (l.take i).map f ++ [f a] := by
  rw [List.take_add_one, h]; simp
set_option maxRecDepth 100000 in
set_option maxHeartbeats 8000000 in
theorem Derivatives_any {vars : List (List UInt8)} (ts : List Tr) (hok : ∀ t ∈ ts, okT vars t) (hts : ts.length ≤ 6) (xs : List Iv) (tt : Iv) (hvl : vars.length ≤ xs.length) (hx : ∀ a ∈ xs, okI a) (ht : okI tt) (vn vf vx : Value) (w : World) (h : Fs w vf (ts.map flat)) (hxr : Ivs w vx xs) (hE : Ends w) :
    Calls Tryz.prog 28 #[.agg #[vn, vf], vx, ivV tt] w fun e' w' => (∃ vo, e' = .returned vo ∧ Ivs w' vo (ts.map (ev xs tt))) ∧ Below w.heap.size w w' := by
  have HEV := Aside.mk (fun t (hm : t ∈ ts) v vx w h1 h2 h3 => Eval_any t (hok t hm) xs tt hvl hx ht v vx w h1 h2 h3)
  obtain ⟨af, cf, hvf, hfa⟩ := h.at
  rw [List.length_map] at hvf
  obtain ⟨M, hM⟩ : ∃ M, ts.length = M := ⟨_, rfl⟩
  have HM := Aside.mk (And.intro hM (hM ▸ hts))
  rw [hM] at hvf
  subst hvf
  have HFA := Aside.mk hfa
  have HXR := Aside.mk hxr
  have HEN := Aside.mk hE
  have hsx : ∃ ao l c, vx = .slice ao l c := by obtain ⟨a, c, h, -⟩ := hxr.out; exact ⟨a, _, c, h⟩
  obtain ⟨ax, lx, cx, rfl⟩ := hsx
  have hal : Below w.heap.size w ((w.alloc (.cells #[vn, .slice af M cf] 25)).alloc (.cells #[.int .i64 tt.1, .int .i64 tt.2] 29)) := ((Below.refl _ _).alloc (Nat.le_refl _) _).alloc (by simp) _
  have HB := Aside.mk hal
  have hrow := heap_alloc_last (w.alloc (.cells #[vn, .slice af M cf] 25)) (.cells #[.int .i64 tt.1, .int .i64 tt.2] 29)
  rw [World.size_alloc] at hrow
  have HRT := Aside.mk hrow
  have hrs := heap_alloc_last w (.cells #[vn, .slice af M cf] 25)
  have c1 : ((w.alloc (.cells #[vn, .slice af M cf] 25)).alloc (.cells #[.int .i64 tt.1, .int .i64 tt.2] 29)).cell? ⟨w.heap.size, 1, none⟩ = some (.slice af M cf) := by
    have hb1 : Below (w.heap.size + 1) (w.alloc (.cells #[vn, .slice af M cf] 25)) ((w.alloc (.cells #[vn, .slice af M cf] 25)).alloc (.cells #[.int .i64 tt.1, .int .i64 tt.2] 29)) := (Below.refl _ _).alloc (by simp) _
    rw [hb1.cell (p := ⟨w.heap.size, 1, none⟩) (by show w.heap.size < w.heap.size + 1; omega), cell_of_row _ _ 1 _ _ _ hrs]; rfl
  clear h hxr hE hx ht hok hfa hM hal hrow hrs hts hvl
  unfold ivV
  go_enter Tryz.func28, Tryz.ntmps28
  go_wp2_with fail
  obtain ⟨g, hg⟩ : ∃ g, w.heap.size = g := ⟨_, rfl⟩
  have HG := Aside.mk hg
  rw [hg] at HB HRT
  simp only [hg]
  clear hg c1
  generalize (w.alloc (.cells #[vn, .slice af M cf] 25)).alloc (.cells #[.int .i64 tt.1, .int .i64 tt.2] 29) = W at HB HRT ⊢
  go_loopg [7, 13] M (fun m v7 v13 wr => ∃ i : Nat, v13 = .int .i64 (i : Nat) ∧ Aside (i ≤ M ∧ M - i ≤ m) ∧ Aside (wr.ownsRow W.heap.size 29 2 v7 i (ivc ((ts.take i).map (ev xs tt)))) ∧ Aside (Below W.heap.size W wr))
  case atStart => exact ⟨0, rfl, ⟨by simp⟩, ⟨⟨rfl, Or.inl ⟨rfl, rfl⟩⟩⟩, ⟨Below.refl _ _⟩⟩
  case round =>
    obtain ⟨i, rfl, HI, HO, HBW⟩ := hrel
    have hwr : Below w.heap.size w wr := HG.out ▸ HB.out.trans (HBW.out.mono (Nat.le_of_lt (Nat.lt_of_lt_of_le (by omega) (heap_lt HRT.out))))
    have HWR := Aside.mk hwr
    by_cases hi : i < M
    · have hi' : (i : Int) < (M : Int) := by omega
      have hi6 : (i : Int) < 9223372036854775807 := by have := HI.out; have := HM.out.2; omega
      obtain ⟨t, ht⟩ : ∃ t, ts[i]? = some t := ⟨_, List.getElem?_eq_getElem (by rw [HM.out.1]; exact hi)⟩
      obtain ⟨bf, of', u, rfl, hcu, hru⟩ := HFA.out i (flat t) (by rw [List.getElem?_map, ht]; rfl)
      have cu : wr.cell? ⟨bf, of' + i, none⟩ = some u := by rw [hwr.cell (p := ⟨bf, of' + i, none⟩) (World.block_lt_of_cell? w _ hcu)]; exact hcu
      obtain ⟨au, lu, ru, rfl⟩ : ∃ au lu ru, u = .slice au lu ru := by obtain ⟨a, c, h⟩ := hru.slice; exact ⟨a, _, c, h⟩
      have hrt := (HBW.out.block _ (heap_lt HRT.out)).trans HRT.out
      have k0 : wr.cell? ⟨g + 1, 0, none⟩ = some (.int .i64 tt.1) := by rw [cell_of_row _ _ 0 _ _ _ hrt]; rfl
      have k1 : wr.cell? ⟨g + 1, 1, none⟩ = some (.int .i64 tt.2) := by rw [cell_of_row _ _ 1 _ _ _ hrt]; rfl
      have HC := Aside.mk (HEV.out t (List.mem_of_getElem? ht) _ (.slice ax lx cx) wr (hru.below hwr) (HXR.out.below hwr) (HEN.out.below hwr))
      have HTK := Aside.mk (take_map_succ (ev xs tt) ts i t ht)
      have HLN : Aside (((ts.take i).map (ev xs tt)).length = i) := ⟨by rw [List.length_map, List.length_take, HM.out.1]; omega⟩
      clear ht hcu hru hrt hwr hi
      go_wp2_with fail
      refine HC.out.mono ?_
      rintro e' w2 ⟨rfl, hb2⟩
      have HO2 := Aside.mk (owns_below HO.out hb2)
      have HBW2 := Aside.mk (HBW.out.trans (hb2.mono HBW.out.size))
      clear hb2 HC k0 k1 cu
      unfold ivV
      obtain ⟨va, hva⟩ : ∃ va, ev xs tt t = va := ⟨_, rfl⟩
      rw [hva] at HTK ⊢
      clear hva
      have hal : Below w2.heap.size w2 (w2.alloc (.cells #[.int .i64 va.1, .int .i64 va.2] 29)) := (Below.refl _ _).alloc (Nat.le_refl _) _
      have HRK := Aside.mk (heap_alloc_last w2 (.cells #[.int .i64 va.1, .int .i64 va.2] 29))
      have HO3 := Aside.mk (owns_below HO2.out hal)
      have HB3 := Aside.mk (HBW2.out.trans (hal.mono HBW2.out.size))
      clear hal
      go_wp2_with (first | (at_builtin; refine wpList_append_iv _ rfl (.tmp 17) (.tmp 22) rfl W.heap.size _ _ i HLN.out rfl HO3.out _ _ _ rfl HRK.out (by have := HI.out; have := HM.out.2; omega) HB3.out.size ?_; intro ao2 cap w4 ho4 hb4))
      obtain ⟨go, hgo⟩ : ∃ go, gk = go + 1 := ⟨gk - 1, by have := HI.out; omega⟩
      have HO4 : Aside (w4.ownsRow W.heap.size 29 2 (.slice ao2 (i + 1) cap) (i + 1) (ivc ((ts.take (i + 1)).map (ev xs tt)))) := ⟨by rw [HTK.out]; exact ho4⟩
      have HB4 := Aside.mk (HB3.out.trans hb4)
      clear ho4 hb4
      go_roundg go
      case measure => omega
      case rel => exact ⟨i + 1, rfl, ⟨by have := HI.out; omega⟩, HO4, HB4⟩
    · have hi' : ¬ ((i : Int) < (M : Int)) := by omega
      have him : i = M := by have := HI.out; omega
      subst him
      go_wp2_with fail
      go_ret
      have e2 : ts.take i = ts := List.take_of_length_le (by rw [HM.out.1]; exact Nat.le_refl _)
      have ho := HO.out
      rw [e2] at ho
      have hlen : (ts.map (ev xs tt)).length = i := by rw [List.length_map, HM.out.1]
      exact ⟨⟨_, rfl, ivs_own (base := W.heap.size) (by rw [hlen]; exact ho) (by rw [hlen]; have := HM.out.2; omega)⟩, HWR.out⟩
end Go.Proofs.YthcidkidpiaomaaGreatDoor.Od
end
section
set_option linter.unusedVariables false
namespace Go.Proofs.YthcidkidpiaomaaGreatDoor.Od
open Go.RowKit Go.ChangeShapes Go.WideShapes Go.ChangeAt
def RawN (G : Nat) (w : World) (v : Value) (e : List Nd) : Prop :=
  ∃ ao c, v = .slice ao e.length c ∧ e.length ≤ c ∧ c ≤ maxLen ∧ (∀ i x, e[i]? = some x → ∃ b o, ao = some ⟨b, o, none⟩ ∧ b < G ∧ ∀ k u, (nd4 x)[k]? = some u → w.cell? ⟨b, o + (i * 4 + k), none⟩ = some u) ∧ (ao = none → c = 0)
def RawI (G : Nat) (w : World) (v : Value) (e : List Iv) : Prop :=
  ∃ ao c, v = .slice ao e.length c ∧ e.length ≤ c ∧ c ≤ maxLen ∧ (∀ i x, e[i]? = some x → ∃ b o, ao = some ⟨b, o, none⟩ ∧ b < G ∧ w.cell? ⟨b, o + i * 2, none⟩ = some (.int .i64 x.1) ∧ w.cell? ⟨b, o + (i * 2 + 1), none⟩ = some (.int .i64 x.2)) ∧ (ao = none → c = 0)
def RawF (G : Nat) (w : World) (v : Value) (fs : List (List Nd)) : Prop :=
  ∃ ao c, v = .slice ao fs.length c ∧ fs.length ≤ c ∧ c ≤ maxLen ∧ (∀ i e, fs[i]? = some e → ∃ b o u, ao = some ⟨b, o, none⟩ ∧ b < G ∧ w.cell? ⟨b, o + i, none⟩ = some u ∧ RawN G w u e) ∧ (ao = none → c = 0)
theorem RawN.below {G : Nat} {w w' : World} {v : Value} {e : List Nd} (h : RawN G w v e) (hb : Below w.heap.size w w') : RawN G w' v e := by
  obtain ⟨ao, c, hv, h1, h2, h3, h4⟩ := h
  refine ⟨ao, c, hv, h1, h2, fun i x hx => ?_, h4⟩
  obtain ⟨b, o, h5, h6, h7⟩ := h3 i x hx
  exact ⟨b, o, h5, h6, fun k u hu => by have := h7 k u hu; rw [hb.cell (World.block_lt_of_cell? w _ this)]; exact this⟩
theorem RawI.below {G : Nat} {w w' : World} {v : Value} {e : List Iv} (h : RawI G w v e) (hb : Below w.heap.size w w') : RawI G w' v e := by
  obtain ⟨ao, c, hv, h1, h2, h3, h4⟩ := h
  refine ⟨ao, c, hv, h1, h2, fun i x hx => ?_, h4⟩
  obtain ⟨b, o, h5, h6, h7, h8⟩ := h3 i x hx
  exact ⟨b, o, h5, h6, by rw [hb.cell (World.block_lt_of_cell? w _ h7)]; exact h7, by rw [hb.cell (World.block_lt_of_cell? w _ h8)]; exact h8⟩
theorem RawF.below {G : Nat} {w w' : World} {v : Value} {fs : List (List Nd)} (h : RawF G w v fs) (hb : Below w.heap.size w w') : RawF G w' v fs := by
  obtain ⟨ao, c, hv, h1, h2, h3, h4⟩ := h
  refine ⟨ao, c, hv, h1, h2, fun i x hx => ?_, h4⟩
  obtain ⟨b, o, u, h5, h6, h7, h8⟩ := h3 i x hx
  exact ⟨b, o, u, h5, h6, by rw [hb.cell (World.block_lt_of_cell? w _ h7)]; exact h7, h8.below hb⟩
theorem nds_inv : ∀ (e : List Nd) (j : Nat) (u : Value), (nds e)[j]? = some u → ∃ x, e[j / 4]? = some x ∧ (nd4 x)[j % 4]? = some u
  | [], j, u, h => by simp [nds] at h
  | x :: r, j, u, h => by
    have e0 : nds (x :: r) = nd4 x ++ nds r := rfl
    rw [e0] at h
    by_cases hj : j < 4
    · rw [List.getElem?_append_left (by simpa [nd4] using hj)] at h
      rw [Nat.div_eq_of_lt hj, Nat.mod_eq_of_lt hj]
      exact ⟨x, rfl, h⟩
    · rw [List.getElem?_append_right (by simp [nd4]; omega), show (nd4 x).length = 4 from rfl] at h
      obtain ⟨y, h1, h2⟩ := nds_inv r (j - 4) u h
      refine ⟨y, ?_, by rw [← h2]; congr 1; omega⟩
      rw [show j / 4 = (j - 4) / 4 + 1 by omega, List.getElem?_cons_succ]
      exact h1
theorem RawN.rdN {G : Nat} {w : World} {v : Value} {e : List Nd} (h : RawN G w v e) (hf : e.length ≤ 9000) : RdN w v e := by
  obtain ⟨ao, c, hv, h1, h2, h3, h4⟩ := h
  refine ⟨?_, hf⟩
  cases e with
  | nil => exact Or.inl ⟨rfl, ao, c, hv⟩
  | cons x r =>
    obtain ⟨b, o, rfl, h6, h7⟩ := h3 0 x rfl
    refine Or.inr ⟨b, o, c, hv, h1, fun j u hu => ?_⟩
    obtain ⟨y, hy, hyu⟩ := nds_inv _ j u hu
    obtain ⟨b', o', h5, h6', h7'⟩ := h3 _ y hy
    injection h5 with h5
    injection h5 with h5 h5'
    subst h5; subst h5'
    have := h7' _ u hyu
    rw [show j / 4 * 4 + j % 4 = j by omega] at this
    exact this
theorem exists_list {α : Type} {P : Nat → α → Prop} : ∀ n, (∀ i, i < n → ∃ x, P i x) → ∃ l : List α, l.length = n ∧ ∀ i x, l[i]? = some x → P i x
  | 0, _ => ⟨[], rfl, fun i x h => by simp at h⟩
  | n + 1, h => by
    obtain ⟨l, hl, hp⟩ := exists_list n fun i hi => h i (by omega)
    obtain ⟨x, hx⟩ := h n (by omega)
    refine ⟨l ++ [x], by simp [hl], fun i y hy => ?_⟩
    by_cases hi : i < n
    · rw [List.getElem?_append_left (by omega)] at hy
      exact hp i y hy
    · have hi2 := (List.getElem?_eq_some_iff.1 hy).1
      simp only [List.length_append, List.length_cons, List.length_nil] at hi2
      obtain rfl : i = n := by omega
      rw [List.getElem?_append_right (by omega), hl, Nat.sub_self] at hy
      obtain rfl := Option.some.inj hy
      exact hx
section
variable {H : Type} {enc : TypeId × Value → H}
set_option maxRecDepth 100000 in
theorem kept {t : TypeId} (hr : Tryz.prog.readableRec t = true) (ht : t < Tryz.prog.types.size) {W W' : World} {v : Value} {d : DataW H} {p : List MemPlace} (h : DataW.Trod enc Tryz.prog W 0 (fun _ => true) true t v d p) (hb : Below W.heap.size W W') :
    DataW.Trod enc Tryz.prog W' 0 (fun b => decide (b < W.heap.size)) true t v d p :=
  Below.trod (by kernel_rfl) hr ht h hb (by obtain ⟨n, hn⟩ := h; exact DataW.trod_lt n _ _ _ hn)
theorem z_int : Tryz.prog.cellsOf 3 = 1 := by kernel_rfl
theorem z_i64 : Tryz.prog.cellsOf 2 = 1 := by kernel_rfl
theorem z_iv : Tryz.prog.cellsOf 29 = 2 := by kernel_rfl
theorem z_nd : Tryz.prog.cellsOf 79 = 4 := by kernel_rfl
theorem z_sn : Tryz.prog.cellsOf 26 = 1 := by kernel_rfl
theorem z_si : Tryz.prog.cellsOf 27 = 1 := by kernel_rfl
theorem z_sf : Tryz.prog.cellsOf 23 = 1 := by kernel_rfl
theorem z_u8 : Tryz.prog.cellsOf 5 = 1 := by kernel_rfl
variable {W : World} {n : Nat}
set_option maxRecDepth 100000 in
theorem iv_of {cs : List Value} {x : DataW H × List MemPlace} (h : DataW.trod enc Tryz.prog W 0 (fun _ => true) true n 29 cs = some x) : ∃ a b : Int, cs = [.int .i64 a, .int .i64 b] ∧ (Lit.int .i64 a).wf = true ∧ (Lit.int .i64 b).wf = true := by
  obtain ⟨xs, m, _, _, hl, hn, hx⟩ := DataW.trod_struct Tryz.underlying29 h
  rw [z_iv] at hl
  match cs, hl with
  | [c0, c1], _ =>
    have hn2 : xs.length = 2 := hn
    match xs, hn2 with
    | [y0, y1], _ =>
      have g0 : DataW.trod enc Tryz.prog W 0 (fun _ => true) true m 2 (([c0, c1].drop 0).take (Tryz.prog.cellsOf 2)) = some y0 := hx 0 _ rfl
      have g1 : DataW.trod enc Tryz.prog W 0 (fun _ => true) true m 2 (([c0, c1].drop 1).take (Tryz.prog.cellsOf 2)) = some y1 := hx 1 _ rfl
      rw [z_i64] at g0 g1
      obtain ⟨a, q0, _, w0⟩ := DataW.trod_int (cs := [c0]) Tryz.underlying2 g0
      obtain ⟨b, q1, _, w1⟩ := DataW.trod_int (cs := [c1]) Tryz.underlying2 g1
      cases q0; cases q1
      exact ⟨a, b, rfl, w0, w1⟩
set_option maxRecDepth 100000 in
theorem nd_of {cs : List Value} {x : DataW H × List MemPlace} (h : DataW.trod enc Tryz.prog W 0 (fun _ => true) true n 79 cs = some x) : ∃ y : Nd, cs = nd4 y ∧ (Lit.int .i64 y.op).wf = true ∧ (Lit.int .i64 y.n).wf = true ∧ (Lit.int .i64 y.lo).wf = true ∧ (Lit.int .i64 y.hi).wf = true := by
  obtain ⟨xs, m, _, _, hl, hn, hx⟩ := DataW.trod_struct Tryz.underlying79 h
  rw [z_nd] at hl
  match cs, hl with
  | [c0, c1, c2, c3], _ =>
    have hn2 : xs.length = 3 := hn
    match xs, hn2 with
    | [y0, y1, y2], _ =>
      have g0 : DataW.trod enc Tryz.prog W 0 (fun _ => true) true m 3 (([c0, c1, c2, c3].drop 0).take (Tryz.prog.cellsOf 3)) = some y0 := hx 0 _ rfl
      have g1 : DataW.trod enc Tryz.prog W 0 (fun _ => true) true m 3 (([c0, c1, c2, c3].drop 1).take (Tryz.prog.cellsOf 3)) = some y1 := hx 1 _ rfl
      have g2 : DataW.trod enc Tryz.prog W 0 (fun _ => true) true m 29 (([c0, c1, c2, c3].drop 2).take (Tryz.prog.cellsOf 29)) = some y2 := hx 2 _ rfl
      rw [z_int] at g0 g1
      rw [z_iv] at g2
      obtain ⟨a, q0, _, w0⟩ := DataW.trod_int (cs := [c0]) Tryz.underlying3 g0
      obtain ⟨b, q1, _, w1⟩ := DataW.trod_int (cs := [c1]) Tryz.underlying3 g1
      obtain ⟨l, r, q2, w2, w3⟩ := iv_of g2
      cases q0; cases q1; cases q2
      exact ⟨⟨a, b, l, r⟩, rfl, w0, w1, w2, w3⟩
theorem addr_zero {a : Addr} (h0 : ∃ u0, W.cell? a = some u0) : a = ⟨a.block, a.off, none⟩ := by
  obtain ⟨u0, h0⟩ := h0
  have hs : a.spot = none := by
    unfold World.cell? at h0
    split at h0
    · split at h0
      · cases h0
      · rename_i hh; cases e : a.spot with
        | none => rfl
        | some z => rw [e] at hh; simp at hh
    · cases h0
  obtain ⟨b, o, s⟩ := a
  simp only at hs
  subst hs
  rfl
theorem addr_at {a : Addr} {k : Nat} {u : Value} (h : W.cell? (a.add k) = some u) (h0 : ∃ u0, W.cell? a = some u0) : a.add k = ⟨a.block, a.off + k, none⟩ ∧ a.block < W.heap.size := by
  have hz := addr_zero h0
  obtain ⟨u0, h0⟩ := h0
  refine ⟨?_, World.block_lt_of_cell? W a h0⟩
  unfold Addr.add
  split
  · rename_i e; subst e
    rw [Nat.add_zero]; exact hz
  · rfl
theorem add_add (a : Addr) (i j : Nat) : (a.add i).add j = a.add (i + j) := by
  unfold Addr.add
  by_cases hi : i = 0 <;> by_cases hj : j = 0 <;> simp [hi, hj] <;> omega
theorem slice_of {t e : TypeId} {v : Value} {x : DataW H × List MemPlace} (ht : Tryz.prog.underlying t = some (.slice e)) (h : DataW.trod enc Tryz.prog W 0 (fun _ => true) true n t [v] = some x) :
    ∃ ao len c, v = .slice ao len c ∧ len ≤ c ∧ c ≤ maxLen ∧ (ao = none → len = 0 ∧ c = 0) ∧ ∀ i, i < len → ∃ a cs m y, ao = some a ∧ cs.length = Tryz.prog.cellsOf e ∧ DataW.trod enc Tryz.prog W 0 (fun _ => true) true m e cs = some y ∧ ∀ k u, cs[k]? = some u → W.cell? (a.add (i * Tryz.prog.cellsOf e + k)) = some u := by
  rcases DataW.trod_slice ht h with ⟨hcs, _⟩ | ⟨a, len, cap, elems, rest, m, _, hcs, _, hb, hl, hm, hlen, hel, -, -⟩
  · injection hcs with hcs
    exact ⟨none, 0, 0, hcs, Nat.le_refl _, by simp, fun _ => ⟨rfl, rfl⟩, fun i hi => by omega⟩
  · injection hcs with hcs
    refine ⟨some a, len, cap, hcs, hl, hm, (fun e => by cases e), fun i hi => ?_⟩
    have h1 := hel i hi
    rw [List.getElem?_eq_getElem (by omega), Option.bind_eq_some_iff] at h1
    obtain ⟨cs, h2, h3⟩ := h1
    obtain ⟨_, h4, h5⟩ := World.cells?_some h2
    refine ⟨a, cs, m, _, rfl, h4, h3, fun k u hu => ?_⟩
    have hk := (List.getElem?_eq_some_iff.1 hu).1
    have := h5 k (by omega)
    rw [add_add] at this
    rw [this]; exact hu
set_option maxRecDepth 100000 in
theorem nodes_of {v : Value} {x : DataW H × List MemPlace} (h : DataW.trod enc Tryz.prog W 0 (fun _ => true) true n 26 [v] = some x) : ∃ e, RawN W.heap.size W v e := by
  obtain ⟨ao, len, c, rfl, hl, hm, h0, hel⟩ := slice_of Tryz.underlying26 h
  have key : ∀ i, i < len → ∃ x : Nd, ∃ b o, ao = some ⟨b, o, none⟩ ∧ b < W.heap.size ∧ ∀ k u, (nd4 x)[k]? = some u → W.cell? ⟨b, o + (i * 4 + k), none⟩ = some u := by
    intro i hi
    obtain ⟨a0, cs0, m0, y0, e0, l0, t0, c0⟩ := hel 0 (by omega)
    obtain ⟨a, cs, m, y, e1, l1, t1, c1⟩ := hel i hi
    obtain ⟨y0', rfl, -⟩ := nd_of t0
    obtain ⟨y', rfl, -⟩ := nd_of t1
    rw [e0] at e1
    obtain rfl := Option.some.inj e1
    rw [z_nd] at c0 c1
    have hz : ∃ u0, W.cell? a0 = some u0 := ⟨_, by have := c0 0 _ rfl; simpa [Addr.add] using this⟩
    refine ⟨y', a0.block, a0.off, ?_, (addr_at (c0 0 _ rfl) hz).2, fun k u hu => ?_⟩
    · rw [e0]
      rw [← addr_zero hz]
    · have := c1 k u hu
      rw [(addr_at this hz).1] at this
      exact this
  obtain ⟨e, he, hp⟩ := exists_list len key
  exact ⟨e, ao, c, by rw [he], by rw [he]; exact hl, hm, hp, fun e => (h0 e).2⟩
set_option maxRecDepth 100000 in
theorem ivs_of {v : Value} {x : DataW H × List MemPlace} (h : DataW.trod enc Tryz.prog W 0 (fun _ => true) true n 27 [v] = some x) : ∃ e, RawI W.heap.size W v e := by
  obtain ⟨ao, len, c, rfl, hl, hm, h0, hel⟩ := slice_of Tryz.underlying27 h
  have key : ∀ i, i < len → ∃ x : Iv, ∃ b o, ao = some ⟨b, o, none⟩ ∧ b < W.heap.size ∧ W.cell? ⟨b, o + i * 2, none⟩ = some (.int .i64 x.1) ∧ W.cell? ⟨b, o + (i * 2 + 1), none⟩ = some (.int .i64 x.2) := by
    intro i hi
    obtain ⟨a0, cs0, m0, y0, e0, l0, t0, c0⟩ := hel 0 (by omega)
    obtain ⟨a, cs, m, y, e1, l1, t1, c1⟩ := hel i hi
    obtain ⟨y0', z0', rfl, -⟩ := iv_of t0
    obtain ⟨y', z', rfl, -⟩ := iv_of t1
    rw [e0] at e1
    obtain rfl := Option.some.inj e1
    rw [z_iv] at c0 c1
    have hz : ∃ u0, W.cell? a0 = some u0 := ⟨_, by have := c0 0 _ rfl; simpa [Addr.add] using this⟩
    refine ⟨(y', z'), a0.block, a0.off, ?_, (addr_at (c0 0 _ rfl) hz).2, ?_, ?_⟩
    · rw [e0]
      rw [← addr_zero hz]
    · have := c1 0 _ rfl
      rw [(addr_at this hz).1] at this
      exact this
    · have := c1 1 _ rfl
      rw [(addr_at this hz).1] at this
      exact this
  obtain ⟨e, he, hp⟩ := exists_list len key
  exact ⟨e, ao, c, by rw [he], by rw [he]; exact hl, hm, hp, fun e => (h0 e).2⟩
set_option maxRecDepth 100000 in
theorem exprs_of {v : Value} {x : DataW H × List MemPlace} (h : DataW.trod enc Tryz.prog W 0 (fun _ => true) true n 23 [v] = some x) : ∃ e, RawF W.heap.size W v e := by
  obtain ⟨ao, len, c, rfl, hl, hm, h0, hel⟩ := slice_of Tryz.underlying23 h
  have key : ∀ i, i < len → ∃ x : List Nd, ∃ b o u, ao = some ⟨b, o, none⟩ ∧ b < W.heap.size ∧ W.cell? ⟨b, o + i, none⟩ = some u ∧ RawN W.heap.size W u x := by
    intro i hi
    obtain ⟨a0, cs0, m0, y0, e0, l0, t0, c0⟩ := hel 0 (by omega)
    obtain ⟨a, cs, m, y, e1, l1, t1, c1⟩ := hel i hi
    rw [z_sn] at l0 l1 c0 c1
    match cs0, l0, cs, l1 with
    | [u0], _, [u], _ =>
      obtain ⟨E, hE⟩ := nodes_of t1
      rw [e0] at e1
      obtain rfl := Option.some.inj e1
      have hz : ∃ u0, W.cell? a0 = some u0 := ⟨_, by have := c0 0 _ rfl; simpa [Addr.add] using this⟩
      refine ⟨E, a0.block, a0.off, u, ?_, (addr_at (c0 0 _ rfl) hz).2, ?_, hE⟩
      · rw [e0]
        rw [← addr_zero hz]
      · have := c1 0 _ rfl
        rw [(addr_at this hz).1] at this
        rw [Nat.mul_one, Nat.add_zero] at this
        exact this
  obtain ⟨e, he, hp⟩ := exists_list len key
  exact ⟨e, ao, c, by rw [he], by rw [he]; exact hl, hm, hp, fun e => (h0 e).2⟩
set_option maxRecDepth 100000 in
theorem open_input {r : Reach} {b0 : Nat} {v : Value} {d : DataW H} {p : List MemPlace} (hv : Value.okWide Tryz.prog W r b0 31 v) (h : DataW.Trod enc Tryz.prog W 0 (fun _ => true) true 31 v d p) :
    ∃ (vf ve vx : Value) (a b k : Int) (fs : List (List Nd)) (e : List Nd) (xs : List Iv), v = .agg #[vf, ve, vx, .int .i64 a, .int .i64 b, .int .u8 k] ∧ RawF W.heap.size W vf fs ∧ RawN W.heap.size W ve e ∧ RawI W.heap.size W vx xs ∧ (Lit.int .i64 a).wf = true ∧ (Lit.int .i64 b).wf = true ∧ (0 ≤ k ∧ k ≤ 255) := by
  obtain ⟨cs, rfl, hsz⟩ := okWide_struct Tryz.underlying31 hv
  have hsz6 : cs.size = 6 := hsz.trans (by kernel_rfl)
  obtain ⟨c0, c1, c2, c3, c4, c5, rfl⟩ : ∃ c0 c1 c2 c3 c4 c5, cs = #[c0, c1, c2, c3, c4, c5] := by
    obtain ⟨l⟩ := cs
    match l, hsz6 with
    | [c0, c1, c2, c3, c4, c5], _ => exact ⟨c0, c1, c2, c3, c4, c5, rfl⟩
  obtain ⟨fuel, hf⟩ := h
  obtain ⟨xs, n, _, _, _, hlen, hx⟩ := DataW.trod_struct Tryz.underlying31 (cs := [c0, c1, c2, c3, c4, c5]) hf
  have hl5 : xs.length = 5 := hlen
  match xs, hl5 with
  | [y0, y1, y2, y3, y4], _ =>
    have g0 : DataW.trod enc Tryz.prog W 0 (fun _ => true) true n 23 (([c0, c1, c2, c3, c4, c5].drop 0).take (Tryz.prog.cellsOf 23)) = some y0 := hx 0 _ rfl
    have g1 : DataW.trod enc Tryz.prog W 0 (fun _ => true) true n 26 (([c0, c1, c2, c3, c4, c5].drop 1).take (Tryz.prog.cellsOf 26)) = some y1 := hx 1 _ rfl
    have g2 : DataW.trod enc Tryz.prog W 0 (fun _ => true) true n 27 (([c0, c1, c2, c3, c4, c5].drop 2).take (Tryz.prog.cellsOf 27)) = some y2 := hx 2 _ rfl
    have g3 : DataW.trod enc Tryz.prog W 0 (fun _ => true) true n 29 (([c0, c1, c2, c3, c4, c5].drop 3).take (Tryz.prog.cellsOf 29)) = some y3 := hx 3 _ rfl
    have g4 : DataW.trod enc Tryz.prog W 0 (fun _ => true) true n 5 (([c0, c1, c2, c3, c4, c5].drop 5).take (Tryz.prog.cellsOf 5)) = some y4 := hx 4 _ rfl
    rw [z_sf] at g0
    rw [z_sn] at g1
    rw [z_si] at g2
    rw [z_iv] at g3
    rw [z_u8] at g4
    obtain ⟨fs, hfs⟩ := exprs_of (v := c0) g0
    obtain ⟨e, he⟩ := nodes_of (v := c1) g1
    obtain ⟨is, his⟩ := ivs_of (v := c2) g2
    obtain ⟨a, b, q3, w3, w4⟩ := iv_of g3
    obtain ⟨k, q5, _, w5⟩ := DataW.trod_int (cs := [c5]) Tryz.underlying5 g4
    cases q3; cases q5
    refine ⟨c0, c1, c2, a, b, k, fs, e, is, rfl, hfs, he, his, w3, w4, ?_⟩
    simp [Lit.wf, IntKind.min, IntKind.max, IntKind.signed, IntKind.bits] at w5
    omega
end
end Go.Proofs.YthcidkidpiaomaaGreatDoor.Od
end
section
set_option linter.unusedVariables false
set_option linter.unusedSimpArgs false
namespace Go.Proofs.YthcidkidpiaomaaGreatDoor.Od
open Go.RowKit Rg
def rlen : List Nd → Nat → Option Nat
  | [], m => if m = 0 then some 0 else none
  | x :: r, m => if m = 0 then some 0 else if arity x.op < 0 then none else (rlen r (m - 1 + (arity x.op).toNat)).map (· + 1)
theorem rlen_zero (e : List Nd) : rlen e 0 = some 0 := by cases e <;> simp [rlen]
theorem rlen_le : ∀ (e : List Nd) (m n : Nat), rlen e m = some n → n ≤ e.length
  | [], m, n, h => by
    unfold rlen at h
    split at h
    · cases h; exact Nat.le_refl _
    · cases h
  | x :: r, m, n, h => by
    unfold rlen at h
    split at h
    · cases h; exact Nat.zero_le _
    · split at h
      · cases h
      · cases hr : rlen r (m - 1 + (arity x.op).toNat) with
        | none => rw [hr] at h; cases h
        | some k =>
          rw [hr] at h
          have := rlen_le r _ k hr
          cases h
          simp; omega
theorem rlen_add : ∀ (e : List Nd) (a b : Nat), rlen e (a + b) = (rlen e a).bind fun n => (rlen (e.drop n) b).map (n + ·)
  | [], a, b => by
    by_cases ha : a = 0
    · subst ha
      simp [rlen_zero]
    · simp [rlen, ha]
  | x :: r, a, b => by
    by_cases ha : a = 0
    · subst ha
      simp [rlen_zero]
    · have ih := rlen_add r (a - 1 + (arity x.op).toNat) b
      by_cases hx : arity x.op < 0
      · simp [rlen, ha, hx, show ¬ (a + b = 0) by omega]
      · have h1 : rlen (x :: r) (a + b) = (rlen r (a - 1 + (arity x.op).toNat + b)).map (· + 1) := by
          conv => lhs; unfold rlen
          rw [if_neg (by omega), if_neg hx, show a + b - 1 + (arity x.op).toNat = a - 1 + (arity x.op).toNat + b by omega]
        have h2 : rlen (x :: r) a = (rlen r (a - 1 + (arity x.op).toNat)).map (· + 1) := by
          conv => lhs; unfold rlen
          rw [if_neg ha, if_neg hx]
        rw [h1, h2, ih]
        cases hr : rlen r (a - 1 + (arity x.op).toNat) with
        | none => rfl
        | some n =>
          simp only [Option.bind_some, Option.map_some, List.drop_succ_cons]
          cases rlen (List.drop n r) b with
          | none => rfl
          | some k => simp only [Option.map_some]; congr 1; omega
theorem exLen_rlen : ∀ (e : List Nd) (m : Nat), (∀ x ∈ e, 0 ≤ arity x.op) → 1 ≤ m → exLen (m : Int) e = (rlen e m).getD (e.length + 1)
  | [], m, _, hm => by simp [exLen, rlen, show ¬ m = 0 by omega]
  | x :: r, m, h, hm => by
    have hx := h x (List.mem_cons_self ..)
    have ih := exLen_rlen r (m - 1 + (arity x.op).toNat) (fun y hy => h y (List.mem_cons_of_mem _ hy))
    have e1 : rlen (x :: r) m = (rlen r (m - 1 + (arity x.op).toNat)).map (· + 1) := by
      conv => lhs; unfold rlen
      rw [if_neg (by omega), if_neg (by omega)]
    rw [exLen_step, e1]
    by_cases h0 : (m : Int) + arity x.op - 1 = 0
    · rw [if_pos h0, show m - 1 + (arity x.op).toNat = 0 by omega, rlen_zero]; rfl
    · rw [if_neg h0, show (m : Int) + arity x.op - 1 = ((m - 1 + (arity x.op).toNat : Nat) : Int) by omega, ih (by omega)]
      cases rlen r (m - 1 + (arity x.op).toNat) <;> simp
theorem rlen_all : ∀ (e : List Nd) (m : Nat), rlen e m = some e.length → ∀ x ∈ e, 0 ≤ arity x.op
  | [], m, _, x, hx => by cases hx
  | y :: r, m, h, x, hx => by
    unfold rlen at h
    split at h
    · cases h
    · split at h
      · cases h
      · rename_i h1 h2
        cases hr : rlen r (m - 1 + (arity y.op).toNat) with
        | none => rw [hr] at h; cases h
        | some k =>
          rw [hr] at h
          simp only [Option.map_some, Option.some.injEq, List.length_cons] at h
          rcases List.mem_cons.1 hx with rfl | hx
          · omega
          · exact rlen_all r _ (by rw [hr]; congr 1; omega) x hx
def rlV : Option Nat → Int
  | none => -1
  | some n => (n : Nat)
theorem rlV_none : rlV none = -1 := rfl
theorem rlV_some (q : Nat) : rlV (some q) = (q : Int) := rfl
set_option maxRecDepth 100000 in
set_option maxHeartbeats 8000000 in
theorem rArity_any (op : Int) (w : World) : Calls Tryz.prog 69 #[.int .i64 op] w fun e w' => e = .returned (.int .i64 (arity op)) ∧ w' = w := by
  by_cases h1 : op < 1
  · have HA : Aside (arity op = -1) := ⟨by unfold arity; rw [if_neg (by omega), if_neg (by omega), if_neg (by omega)]⟩
    go_enter Tryz.func69, Tryz.ntmps69
    go_wp2_with fail
    go_ret
    rw [HA.out]; exact ⟨rfl, rfl⟩
  · by_cases h2 : 10 < op
    · have HA : Aside (arity op = -1) := ⟨by unfold arity; rw [if_neg (by omega), if_neg (by omega), if_neg (by omega)]⟩
      go_enter Tryz.func69, Tryz.ntmps69
      go_wp2_with fail
      go_ret
      rw [HA.out]; exact ⟨rfl, rfl⟩
    · by_cases h3 : op ≤ 3
      · have HA : Aside (arity op = 0) := ⟨by unfold arity; rw [if_pos (by omega)]⟩
        go_enter Tryz.func69, Tryz.ntmps69
        go_wp2_with fail
        go_ret
        rw [HA.out]; exact ⟨rfl, rfl⟩
      · by_cases h4 : op ≤ 6
        · have HA : Aside (arity op = 1) := ⟨by unfold arity; rw [if_neg (by omega), if_pos (by omega)]⟩
          go_enter Tryz.func69, Tryz.ntmps69
          go_wp2_with fail
          go_ret
          rw [HA.out]; exact ⟨rfl, rfl⟩
        · have HA : Aside (arity op = 2) := ⟨by unfold arity; rw [if_neg (by omega), if_neg (by omega), if_pos (by omega)]⟩
          go_enter Tryz.func69, Tryz.ntmps69
          go_wp2_with fail
          go_ret
          rw [HA.out]; exact ⟨rfl, rfl⟩
set_option maxRecDepth 100000 in
set_option maxHeartbeats 8000000 in
theorem rLen_any : ∀ (n : Nat) (e : List Nd), e.length ≤ n → ∀ (v : Value) (w : World), RdN w v e →
    Calls Tryz.prog 60 #[v] w fun e' w' => e' = .returned (.int .i64 (rlV (rlen e 1))) ∧ Below w.heap.size w w' := by
  intro n
  induction n with
  | zero =>
    intro e hn v w h
    obtain rfl := List.length_eq_zero_iff.1 (Nat.le_zero.1 hn)
    obtain ⟨ao, c, rfl⟩ := h.slice
    go_enter Tryz.func60, Tryz.ntmps60
    go_wp2_with fail
    go_ret
    exact ⟨rfl, Below.refl _ _⟩
  | succ n ih =>
    intro e hn v w h
    cases e with
    | nil =>
      obtain ⟨ao, c, rfl⟩ := h.slice
      go_enter Tryz.func60, Tryz.ntmps60
      go_wp2_with fail
      go_ret
      exact ⟨rfl, Below.refl _ _⟩
    | cons x r =>
      rcases h.out with ⟨h0, -⟩ | ⟨b, o, c, rfl, hcp, hc⟩
      · cases h0
      have HIH := Aside.mk ih
      have HRD := Aside.mk h
      have hfew := h.few
      have c0 : w.cell? ⟨b, o, none⟩ = some (.int .i64 x.op) := hc 0 _ rfl
      obtain ⟨N, hN⟩ : ∃ N, (x :: r).length = N := ⟨_, rfl⟩
      have hN1 : 0 < N := by rw [← hN]; simp
      have HN := Aside.mk (And.intro hN (And.intro hn (And.intro hcp hfew)))
      have HC := Aside.mk hc
      rw [hN]
      have hnpos : (0 : Int) < (N : Int) := by omega
      have hnz : ¬ ((N : Int) = 0) := by omega
      clear ih h hn hcp hc hfew hN
      go_enter Tryz.func60, Tryz.ntmps60
      go_wp2_with fail
      refine (rArity_any x.op w).mono ?_
      rintro e' w1 ⟨rfl, hw1⟩
      have hw1' := hw1.symm
      subst hw1'
      by_cases hx : arity x.op < 0
      · have HL : Aside (rlen (x :: r) 1 = none) := ⟨by simp [rlen, hx]⟩
        go_wp2_with fail
        go_ret
        rw [HL.out]
        exact ⟨rfl, Below.refl _ _⟩
      · have hbd := arity_bd x.op
        obtain ⟨K, hK⟩ : ∃ K : Nat, arity x.op = (K : Nat) := ⟨(arity x.op).toNat, by omega⟩
        have HK := Aside.mk hK
        have hK2 : K ≤ 2 := by omega
        have HK2 := Aside.mk hK2
        have HL : Aside (rlen (x :: r) 1 = (rlen r K).map (· + 1)) := ⟨by
          conv => lhs; unfold rlen
          rw [if_neg (by omega), if_neg hx]
          congr 2; omega⟩
        rw [hK]
        have hk0 : decide ((K : Int) < 0) = false := by simp
        have hnb : ((N : Int) == 0) = false := by simpa using hnz
        clear hx hbd hK
        go_wp2_with fail
        go_loopg [3, 4, 5] K (fun m v3 v4 v5 wr => ∃ (i l : Nat), v4 = .int .i64 (i : Nat) ∧ v3 = .int .i64 (l : Nat) ∧ Aside (i ≤ K ∧ K - i ≤ m ∧ 1 ≤ l ∧ l ≤ N) ∧ Aside ((rlen r i).map (· + 1) = some l) ∧ Aside (Below w.heap.size w wr))
        case atStart => exact ⟨0, 1, rfl, rfl, ⟨by omega⟩, ⟨by rw [rlen_zero]; rfl⟩, ⟨Below.refl _ _⟩⟩
        case round =>
          obtain ⟨i, l, rfl, rfl, HI, HR, HB⟩ := hrel
          have c0' : wr.cell? ⟨b, o, none⟩ = some (.int .i64 x.op) := by rw [HB.out.cell (p := ⟨b, o, none⟩) (World.block_lt_of_cell? w _ c0)]; exact c0
          go_wp2_with fail
          refine (rArity_any x.op wr).mono ?_
          rintro e' w2 ⟨rfl, hw2⟩
          have hw2' := hw2.symm
          subst hw2'
          rw [HK.out]
          by_cases hi : i < K
          · have hi' : (i : Int) < (K : Int) := by omega
            have hlN : (l : Int) ≤ (N : Int) := by have := HI.out; omega
            have hlc : (l : Int) ≤ (c : Int) := by have := HI.out; have := HN.out; omega
            have hrd : ∀ c', N - l ≤ c' → RdN wr (.slice (some ⟨b, o + l * 4, none⟩) (N - l) c') ((x :: r).drop l) := fun c' hc' => by
              have h := RdN.tail (w := wr) (b := b) (o := o) (c := c) (n := N) (e := x :: r) (fun j u hu => by
                have := HC.out j u hu
                rw [HB.out.cell (p := ⟨b, o + j, none⟩) (World.block_lt_of_cell? w _ this)]; exact this) HN.out.1 (by have := HN.out; omega) (by have := HN.out; omega) l (N - l) c' (by have := HI.out; omega) hc'
              rwa [List.take_of_length_le (by rw [List.length_drop, HN.out.1]; exact Nat.le_refl _)] at h
            have hdl : (x :: r).drop l = r.drop (l - 1) := by
              obtain ⟨q, hq⟩ : ∃ q, l = q + 1 := ⟨l - 1, by have := HI.out; omega⟩
              rw [hq]; rfl
            have hri : rlen r i = some (l - 1) := by
              have := HR.out
              cases hh : rlen r i with
              | none => rw [hh] at this; cases this
              | some k => rw [hh] at this; simp only [Option.map_some, Option.some.injEq] at this; congr 1; omega
            have HNX : Aside (rlen r (i + 1) = (rlen ((x :: r).drop l) 1).map (l - 1 + ·)) := ⟨by rw [rlen_add, hri, hdl]; rfl⟩
            have HAD : Aside (∀ q, rlen r (i + 1) = none → rlen r (i + 1 + q) = none) := ⟨fun q hq => by rw [rlen_add, hq]; rfl⟩
            have HLE : Aside (∀ q, rlen ((x :: r).drop l) 1 = some q → l + q ≤ N) := ⟨fun q hq => by
              have := rlen_le _ _ _ hq
              rw [List.length_drop, HN.out.1] at this
              have := HI.out; omega⟩
            have HRDS := Aside.mk hrd
            have HCALL : Aside (∀ v, RdN wr v ((x :: r).drop l) → Calls Tryz.prog 60 #[v] wr fun e' w' => e' = .returned (.int .i64 (rlV (rlen ((x :: r).drop l) 1))) ∧ Below wr.heap.size wr w') := ⟨fun v hv => HIH.out _ (by rw [List.length_drop, HN.out.1]; have := HI.out; have := HN.out; omega) v wr hv⟩
            obtain ⟨res, hres⟩ : ∃ res, rlen ((x :: r).drop l) 1 = res := ⟨_, rfl⟩
            have HRES := Aside.mk hres
            clear hrd hdl hri hi hres
            by_cases hcl : c = l
            · have HRD0 : Aside (RdN wr (.slice (some ⟨b, o, none⟩) (N - l) 0) ((x :: r).drop l)) := ⟨⟨Or.inl ⟨by rw [List.drop_eq_nil_iff, HN.out.1]; have := HI.out; have := HN.out; omega, some ⟨b, o, none⟩, 0, by rw [show N - l = 0 by have := HI.out; have := HN.out; omega]⟩, by rw [List.length_drop, HN.out.1]; have := HN.out; omega⟩⟩
              have hz : c - l = 0 := by omega
              clear hcl
              go_wp2_with fail
              refine (HCALL.out _ HRD0.out).mono ?_
              rintro e' w3 ⟨rfl, hb3⟩
              rw [HRES.out]
              have HB3 := Aside.mk (HB.out.trans (hb3.mono HB.out.size))
              clear hb3
              cases res with
              | none =>
                have HL2 : Aside (rlen (x :: r) 1 = none) := ⟨by
                  have h1 : rlen r (i + 1) = none := by rw [HNX.out, HRES.out]; rfl
                  have h2 := HAD.out (K - (i + 1)) h1
                  rw [show i + 1 + (K - (i + 1)) = K by have := HI.out; omega] at h2
                  rw [HL.out, h2]; rfl⟩
                rw [rlV_none]
                go_wp2_with fail
                go_ret
                rw [HL2.out]
                exact ⟨rfl, HB3.out⟩
              | some q =>
                have hq0 : ¬ ((q : Int) < 0) := by omega
                have HR2 : Aside ((rlen r (i + 1)).map (· + 1) = some (l + q)) := ⟨by rw [HNX.out, HRES.out]; simp only [Option.map_some]; congr 1; have := HI.out; omega⟩
                have hlq : (l : Int) + (q : Int) ≤ 9000 := by have := HLE.out q HRES.out; have := HN.out; omega
                have hi9 : (i : Int) < 9000 := by have := HI.out; have := HK2.out; omega
                obtain ⟨go, hgo⟩ : ∃ go, gk = go + 1 := ⟨gk - 1, by have := HI.out; have := hi'; omega⟩
                rw [rlV_some]
                go_wp2_with fail
                go_roundg go
                case measure => omega
                case rel => exact ⟨i + 1, l + q, by go_num, by go_num, ⟨by have := HI.out; have := HLE.out q HRES.out; omega⟩, HR2, HB3⟩
            · have hcne : ¬ l = c := fun h => hcl h.symm
              have hcne2 : ¬ ((l : Int) = (c : Int)) := by omega
              have hcne3 : ¬ (c - l = 0) := by have := HI.out; have := HN.out; omega
              go_wp2_with fail
              refine (HCALL.out _ (HRDS.out _ (by have := HI.out; have := HN.out; omega))).mono ?_
              rintro e' w3 ⟨rfl, hb3⟩
              rw [HRES.out]
              have HB3 := Aside.mk (HB.out.trans (hb3.mono HB.out.size))
              clear hb3
              cases res with
              | none =>
                have HL2 : Aside (rlen (x :: r) 1 = none) := ⟨by
                  have h1 : rlen r (i + 1) = none := by rw [HNX.out, HRES.out]; rfl
                  have h2 := HAD.out (K - (i + 1)) h1
                  rw [show i + 1 + (K - (i + 1)) = K by have := HI.out; omega] at h2
                  rw [HL.out, h2]; rfl⟩
                rw [rlV_none]
                go_wp2_with fail
                go_ret
                rw [HL2.out]
                exact ⟨rfl, HB3.out⟩
              | some q =>
                have hq0 : ¬ ((q : Int) < 0) := by omega
                have HR2 : Aside ((rlen r (i + 1)).map (· + 1) = some (l + q)) := ⟨by rw [HNX.out, HRES.out]; simp only [Option.map_some]; congr 1; have := HI.out; omega⟩
                have hlq : (l : Int) + (q : Int) ≤ 9000 := by have := HLE.out q HRES.out; have := HN.out; omega
                have hi9 : (i : Int) < 9000 := by have := HI.out; have := HK2.out; omega
                obtain ⟨go, hgo⟩ : ∃ go, gk = go + 1 := ⟨gk - 1, by have := HI.out; have := hi'; omega⟩
                rw [rlV_some]
                go_wp2_with fail
                go_roundg go
                case measure => omega
                case rel => exact ⟨i + 1, l + q, by go_num, by go_num, ⟨by have := HI.out; have := HLE.out q HRES.out; omega⟩, HR2, HB3⟩
          · have hi' : ¬ ((i : Int) < (K : Int)) := by omega
            have him : i = K := by have := HI.out; omega
            subst him
            go_wp2_with fail
            go_ret
            rw [HL.out, HR.out]
            exact ⟨rfl, HB.out⟩
end Go.Proofs.YthcidkidpiaomaaGreatDoor.Od
end
