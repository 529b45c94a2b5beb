/- OhI OhK OhJ -/
import Derived.Laws.BytesArg
import Derived.Deep.WholeRow
import Derived.Test.YthcidkidpiaomaaGreatDoorKf24
import Derived.Test.YthcidkidpiaomaaGreatDoorKf06
section
set_option linter.unusedVariables false
set_option linter.unusedSimpArgs false
namespace Go.Proofs.YthcidkidpiaomaaGreatDoor.Od
open Go.RowKit Rg
abbrev n6c : Array Value := #[.string ⟨#[120]⟩, .string ⟨#[121]⟩, .string ⟨#[118, 120]⟩, .string ⟨#[118, 121]⟩, .string ⟨#[97, 49]⟩, .string ⟨#[122, 122]⟩]
structure MSys (w0 : World) (G gR gS gN base n i k : Nat) (vf : Value) (fs : List (List Nd)) (vn vs : Value) (us : List Value) (ts : List Tr) (W : World) : Prop where
 fr : Below w0.heap.size w0 W
 size : base ≤ W.heap.size
 sys : W.heap[gS]? = some (.cells #[vn, vs] 25 (0, 0))
 res : W.heap[gR]? = some (.cells #[.slice none 0 0, .slice none 0 0] 25 (0, 0))
 nm : W.heap[gN]? = some (.cells n6c 9 (0, 0))
 lt : gR < base ∧ gS < base ∧ gN < base ∧ gR ≠ gS ∧ w0.heap.size ≤ gS ∧ w0.heap.size ≤ gR ∧ G ≤ w0.heap.size
 on : W.ownsRow base 9 1 vn i ((n6.take i).map Value.string)
 os : W.ownsRow base 26 1 vs k us
 len : us.length = k ∧ ts.length = k
 el : ∀ (j : Nat) (u : Value) (t : Tr), us[j]? = some u → ts[j]? = some t → okN n t ∧ (flat t).length ≤ 31 ∧ OwnN base W u (flat t)
 raw : RawF G W vf fs
theorem own_keep {base base' : Nat} {T T' : TypeId} {sz n sz' n' : Nat} {w w' : World} {v V : Value} {xs ys : List Value} (h : w.ownsRow base T sz v n xs) (hV : w.ownsRow base' T' sz' V n' ys) (hT : T ≠ T') {b : Nat} (hk : KeepR V b w w') : w'.ownsRow base T sz v n xs := by
 obtain ⟨h1, h2⟩ := h
 refine ⟨h1, ?_⟩
 rcases h2 with h2 | ⟨g, cap, cur, hv, hg, hh, r⟩
 ·exact Or.inl h2
 ·refine Or.inr ⟨g, cap, cur, hv, hg, hk.2 g _ (fun e => ?_) hh, r⟩
  obtain ⟨-, h3⟩ := hV
  rcases h3 with ⟨rfl, -⟩ | ⟨g', cap', cur', rfl, -, hh', -⟩
  ·cases e
  ·obtain rfl := Option.some.inj e
   rw [hh] at hh'
   injection hh' with hh'
   injection hh' with _ hh'
   exact hT hh'
theorem RawN.low {G m : Nat} {w w' : World} {v : Value} {e : List Nd} (h : RawN G w v e) (hb : Below m w w') (hG : G ≤ m) : RawN G w' v e := by
 obtain ⟨ao, c, hv, h1, h2, h3, h4⟩ := h
 refine ⟨ao, c, hv, h1, h2, fun i x hx => ?_, h4⟩
 obtain ⟨b, o, h5, h6, h7⟩ := h3 i x hx
 exact ⟨b, o, h5, h6, fun k u hu => by rw [hb.cell (p := ⟨b, o + (i * 4 + k), none⟩) (by show b < m; omega)]; exact h7 k u hu⟩
theorem RawF.low {G m : Nat} {w w' : World} {v : Value} {fs : List (List Nd)} (h : RawF G w v fs) (hb : Below m w w') (hG : G ≤ m) : RawF G w' v fs := by
 obtain ⟨ao, c, hv, h1, h2, h3, h4⟩ := h
 refine ⟨ao, c, hv, h1, h2, fun i x hx => ?_, h4⟩
 obtain ⟨b, o, u, h5, h6, h7, h8⟩ := h3 i x hx
 exact ⟨b, o, u, h5, h6, by rw [hb.cell (p := ⟨b, o + i, none⟩) (by show b < m; omega)]; exact h7, h8.low hb hG⟩
theorem wpList_run {ops : Array Oper} {rest : List Oper} {o : Oper} {a : Act} {w w' : World} {v : Value} {Q : Exit → Act → World → Prop} (hg : o.guard = none) (hr : (execOp a.eval o).run Tryz.prog w = .ok (.value v) w') (hK : wpList Tryz.prog ops Q rest (a.put o.dst v) w') : wpList Tryz.prog ops Q (o :: rest) a w := by
 unfold wpList
 rw [if_pos (wanted_none hg)]
 refine Or.inl ?_
 unfold Oper.wp
 rw [hr, Oper.upon_value]
 exact hK
theorem wpList_app_str (w : World) {ops : Array Oper} {rest : List Oper} {o : Oper} {a : Act} {Q : Exit → Act → World → Prop} (hg : o.guard = none) (p x : Operand) (hop : o.op = Op.call { callee := Callee.builtin Builtin.append, args := #[p, x], argTypes := #[22, 22] })
  (base : Nat) (v : Value) (us : List Value) (n : Nat) (hn : us.length = n) (hs : a.eval p = v) (h : w.ownsRow base 9 1 v n us) (u : Value) (hu1 : u.oneCell' = true) (gk : Nat) (hx : a.eval x = .slice (some ⟨gk, 0, none⟩) 1 1)
  (hr : w.heap[gk]? = some (.cells #[u] 9 (0, 0))) (hbd : n ≤ 9000) (hbase : base ≤ w.heap.size)
  (hK : ∀ ao cap w', w'.ownsRow base 9 1 (.slice ao (n + 1) cap) (n + 1) (us ++ [u]) → KeepR v base w w' → wpList Tryz.prog ops Q rest (a.put o.dst (.slice ao (n + 1) cap)) w') : wpList Tryz.prog ops Q (o :: rest) a w := by
 obtain ⟨ao, cap, w', h1, h2, h3⟩ := run_app_str w p x hop base v us n hn hs h u hu1 gk hx hr hbd hbase
 exact wpList_run hg h1 (hK ao cap w' h2 h3)
theorem wpList_app_sl (w : World) {ops : Array Oper} {rest : List Oper} {o : Oper} {a : Act} {Q : Exit → Act → World → Prop} (hg : o.guard = none) (p x : Operand) (hop : o.op = Op.call { callee := Callee.builtin Builtin.append, args := #[p, x], argTypes := #[23, 23] })
  (base : Nat) (v : Value) (us : List Value) (n : Nat) (hn : us.length = n) (hs : a.eval p = v) (h : w.ownsRow base 26 1 v n us) (u : Value) (hu1 : u.oneCell' = true) (gk : Nat) (hx : a.eval x = .slice (some ⟨gk, 0, none⟩) 1 1)
  (hr : w.heap[gk]? = some (.cells #[u] 26 (0, 0))) (hbd : n ≤ 9000) (hbase : base ≤ w.heap.size)
  (hK : ∀ ao cap w', w'.ownsRow base 26 1 (.slice ao (n + 1) cap) (n + 1) (us ++ [u]) → KeepR v base w w' → wpList Tryz.prog ops Q rest (a.put o.dst (.slice ao (n + 1) cap)) w') : wpList Tryz.prog ops Q (o :: rest) a w := by
 obtain ⟨ao, cap, w', h1, h2, h3⟩ := run_app_sl w p x hop base v us n hn hs h u hu1 gk hx hr hbd hbase
 exact wpList_run hg h1 (hK ao cap w' h2 h3)
theorem MSys.below {w0 : World} {G gR gS gN base n i k : Nat} {vf : Value} {fs : List (List Nd)} {vn vs : Value} {us : List Value} {ts : List Tr} {W W' : World} (h : MSys w0 G gR gS gN base n i k vf fs vn vs us ts W) (hb : Below W.heap.size W W') : MSys w0 G gR gS gN base n i k vf fs vn vs us ts W' :=
 ⟨h.fr.trans (hb.mono h.fr.size), Nat.le_trans h.size hb.size, (hb.block _ (lt_of h.sys)).trans h.sys, (hb.block _ (lt_of h.res)).trans h.res, (hb.block _ (lt_of h.nm)).trans h.nm, h.lt, owns_below h.on hb, owns_below h.os hb, h.len, fun j u t hu ht => ⟨(h.el j u t hu ht).1, (h.el j u t hu ht).2.1, owns_below (h.el j u t hu ht).2.2 hb⟩, h.raw.below hb⟩
theorem MSys.put0 {w0 : World} {G gR gS gN base n i k : Nat} {vf : Value} {fs : List (List Nd)} {vn vs : Value} {us : List Value} {ts : List Tr} {W w3 : World} (h : MSys w0 G gR gS gN base n i k vf fs vn vs us ts W) (hk : Below base W w3) (f : Nat) (v : Value) :
  Below w0.heap.size w0 (w3.setCell ⟨gS, f, none⟩ v) ∧ base ≤ (w3.setCell ⟨gS, f, none⟩ v).heap.size ∧ w3.heap[gS]? = some (.cells #[vn, vs] 25 (0, 0)) ∧ (w3.setCell ⟨gS, f, none⟩ v).heap[gR]? = some (.cells #[.slice none 0 0, .slice none 0 0] 25 (0, 0)) ∧
  (w3.setCell ⟨gS, f, none⟩ v).heap[gN]? = some (.cells n6c 9 (0, 0)) ∧ RawF G (w3.setCell ⟨gS, f, none⟩ v) vf fs := by
 obtain ⟨l1, l2, l3, l4, l5, l6, l7⟩ := h.lt
 have hs : (w3.setCell ⟨gS, f, none⟩ v).heap.size = w3.heap.size := by simp [World.setCell]
 have hsz := Nat.le_trans h.size hk.size
 have r1 := (hk.block gS l2).trans h.sys
 have r2 := (hk.block gR l1).trans h.res
 have r3 := (hk.block gN l3).trans h.nm
 have hne : gN ≠ gS := fun e => by
  rw [e, r1] at r3
  injection r3 with r3
  injection r3 with _ r3
  exact absurd r3 (by decide)
 have hb2 : Below w0.heap.size w3 (w3.setCell ⟨gS, f, none⟩ v) := (Kept.set (g := gS) (i := f) (w := w3) v).below l5 (Nat.le_trans (by omega) hsz)
 have hb1 : Below w0.heap.size W w3 := hk.mono (by omega)
 exact ⟨(h.fr.trans hb1).trans hb2, by rw [hs]; exact hsz, r1, by rw [Below.heap_setCell _ _ _ _ l4]; exact r2, by rw [Below.heap_setCell _ _ _ _ hne]; exact r3, (h.raw.low hb1 l7).low hb2 l7⟩
theorem MSys.addName {w0 : World} {G gR gS gN base n i k : Nat} {vf : Value} {fs : List (List Nd)} {vn vs : Value} {us : List Value} {ts : List Tr} {W w3 : World} (h : MSys w0 G gR gS gN base n i k vf fs vn vs us ts W) {v' : Value} {x : ByteArray} (hx : n6[i]? = some x) (ho : w3.ownsRow base 9 1 v' (i + 1) ((n6.take i).map Value.string ++ [.string x])) (hk : KeepR vn base W w3) :
  MSys w0 G gR gS gN base n (i + 1) k vf fs v' vs us ts (w3.setCell ⟨gS, 0, none⟩ v') := by
 obtain ⟨a1, a2, a3, a4, a5, a6⟩ := h.put0 hk.1 0 v'
 have e : (n6.take (i + 1)).map Value.string = (n6.take i).map Value.string ++ [.string x] := by rw [List.take_add_one, hx]; simp
 exact ⟨a1, a2, row_cell (i := 0) a3 v', a4, a5, h.lt, by rw [e]; exact owns_set ho a3 (by decide), owns_set (own_keep h.os h.on (by decide) hk) a3 (by decide), h.len,
  fun j u t hu ht => ⟨(h.el j u t hu ht).1, (h.el j u t hu ht).2.1, owns_set (own_keep (h.el j u t hu ht).2.2 h.on (by decide) hk) a3 (by decide)⟩, a6⟩
theorem MSys.addSum {w0 : World} {G gR gS gN base n i k : Nat} {vf : Value} {fs : List (List Nd)} {vn vs : Value} {us : List Value} {ts : List Tr} {W w3 : World} (h : MSys w0 G gR gS gN base n i k vf fs vn vs us ts W) {v' u' : Value} {t' : Tr} (hok : okN n t') (hl : (flat t').length ≤ 31) (hou : OwnN base W u' (flat t')) (ho : w3.ownsRow base 26 1 v' (k + 1) (us ++ [u'])) (hk : KeepR vs base W w3) :
  MSys w0 G gR gS gN base n i (k + 1) vf fs vn v' (us ++ [u']) (ts ++ [t']) (w3.setCell ⟨gS, 1, none⟩ v') := by
 obtain ⟨a1, a2, a3, a4, a5, a6⟩ := h.put0 hk.1 1 v'
 refine ⟨a1, a2, row_cell (i := 1) a3 v', a4, a5, h.lt, owns_set (own_keep h.on h.os (by decide) hk) a3 (by decide), owns_set ho a3 (by decide), ⟨by simp [h.len.1], by simp [h.len.2]⟩, fun j u t hu ht => ?_, a6⟩
 by_cases hj : j < k
 ·rw [List.getElem?_append_left (by rw [h.len.1]; exact hj)] at hu
  rw [List.getElem?_append_left (by rw [h.len.2]; exact hj)] at ht
  exact ⟨(h.el j u t hu ht).1, (h.el j u t hu ht).2.1, owns_set (own_keep (h.el j u t hu ht).2.2 h.os (by decide) hk) a3 (by decide)⟩
 ·have hj2 := (List.getElem?_eq_some_iff.1 hu).1
  rw [List.length_append, h.len.1, List.length_singleton] at hj2
  obtain rfl : j = k := by omega
  rw [List.getElem?_append_right (by rw [h.len.1]; omega), h.len.1, Nat.sub_self] at hu
  rw [List.getElem?_append_right (by rw [h.len.2]; omega), h.len.2, Nat.sub_self] at ht
  obtain rfl := Option.some.inj hu
  obtain rfl := Option.some.inj ht
  exact ⟨hok, hl, owns_set (own_keep hou h.os (by decide) hk) a3 (by decide)⟩
theorem nm_cell {w : World} {g : Nat} (h : w.heap[g]? = some (.cells n6c 9 (0, 0))) {i : Nat} (hi : i < 6) : ∃ x, n6[i]? = some x ∧ w.cell? ⟨g, i, none⟩ = some (.string x) := by
 rcases (show i = 0 ∨ i = 1 ∨ i = 2 ∨ i = 3 ∨ i = 4 ∨ i = 5 by omega) with rfl | rfl | rfl | rfl | rfl | rfl <;> exact ⟨_, rfl, by rw [cell_of_row _ _ _ _ _ _ h]; rfl⟩
theorem enters_made : ∀ args w, (callFunc 19 args).run Tryz.prog w = .ok (.enter 19 args) w := fun args w => by kernel_rfl
theorem own_off {base : Nat} {T T' : TypeId} {sz n : Nat} {w w' : World} {v : Value} {xs : List Value} {gR : Nat} {cs : Array Value} {m : Nat × Nat} (h : w.ownsRow base T sz v n xs) (hr : w.heap[gR]? = some (.cells cs T' m)) (hT : T ≠ T') (hk : ∀ k, k ≠ gR → w'.heap[k]? = w.heap[k]?) : w'.ownsRow base T sz v n xs := by
 obtain ⟨h1, h2⟩ := h
 refine ⟨h1, ?_⟩
 rcases h2 with h2 | ⟨g, cap, cur, hv, hg, hh, r⟩
 ·exact Or.inl h2
 ·have hne : g ≠ gR := fun e => by
   rw [e, hr] at hh
   injection hh with hh
   injection hh with _ hh
   exact hT hh.symm
  exact Or.inr ⟨g, cap, cur, hv, hg, by rw [hk g hne]; exact hh, r⟩
theorem info_sys : (Tryz.prog.info? 25).map (·.size) = some 2 := by kernel_rfl
theorem wpList_store_sys {ops : Array Oper} {rest : List Oper} {o : Oper} {a : Act} {w : World} {Q : Exit → Act → World → Prop} (hgd : o.guard = none) (x y : Operand) (ho : o.op = .store 25 x y)
  (g : Nat) {a1 a2 : Option Addr} {l1 l2 c1 c2 : Nat} (hx : a.eval x = .pointer (some ⟨g, 0, none⟩)) (hy : a.eval y = .agg #[.slice a1 l1 c1, .slice a2 l2 c2]) (u v : Value) (hg : w.heap[g]? = some (.cells #[u, v] 25 (0, 0)))
  (hK : ∀ w', w'.heap[g]? = some (.cells #[.slice a1 l1 c1, .slice a2 l2 c2] 25 (0, 0)) → Below g w w' → (∀ k, k ≠ g → w'.heap[k]? = w.heap[k]?) → wpList Tryz.prog ops Q rest (a.put o.dst undef) w') : wpList Tryz.prog ops Q (o :: rest) a w := by
 have hs : (w.setRow g #[.slice a1 l1 c1, .slice a2 l2 c2]).heap.size = w.heap.size := by unfold World.setRow; simp
 exact wpList_store_row hgd 25 x y ho g #[.slice a1 l1 c1, .slice a2 l2 c2] hx hy 25 _ hg info_sys rfl (by simp [Value.oneCell'])
  (hK _ (setRow_heap w g _ _ _ _ hg) ⟨rfl, rfl, rfl, by rw [hs]; exact Nat.le_refl _, fun k hk => setRow_other _ _ _ _ (by omega)⟩ (fun k hk => setRow_other _ _ _ _ hk))
theorem ret_sys {f : Func} {P : Ending → World → Prop} {tm : Array Value} {w : World} {g i : Nat} {p q : Value} (hf : f.results = #[.cell i 25]) (hi : tm.getD i undef = .pointer (some ⟨g, 0, none⟩)) (hr : w.heap[g]? = some (.cells #[p, q] 25 (0, 0)))
  (hP : P (.returned (.agg #[p, q])) w) : bodyPost Tryz.prog f P .ret ⟨tm, []⟩ w :=
 bodyPost_ret (results_cell_row hf _ _ g 25 #[p, q] (0, 0) _ hi hr Tryz.underlying25 rfl info_sys) rfl hP
theorem strs_own2 {w : World} {base n : Nat} {v : Value} {xs : List ByteArray} (h : w.ownsRow base 9 1 v n (xs.map Value.string)) (hn : xs.length = n) (h0 : 0 < n) (h9 : n ≤ 9000) : Strs w v xs := by
 have h' := h
 obtain ⟨h1, h2⟩ := h
 rcases h2 with ⟨rfl, hz⟩ | ⟨g, cap, cur, rfl, hg, hh, hcap, r⟩
 ·omega
 ·refine ⟨Or.inr ⟨g, 0, cap, by rw [hn], by rw [hn]; exact hcap, fun j hj => ?_⟩, by omega⟩
  rw [Nat.zero_add, World.ownsRow.cellAt h' j (by omega), List.getElem?_map, List.getElem?_eq_getElem hj, getElem!_pos xs j hj]; rfl
theorem fs_own {w : World} {base n : Nat} {v : Value} {us : List Value} {ts : List Tr} (h : w.ownsRow base 26 1 v n us) (hn : 0 < n) (h9 : n ≤ 9000) (hl : us.length = n ∧ ts.length = n) (he : ∀ (j : Nat) (u : Value) (t : Tr), us[j]? = some u → ts[j]? = some t → RdN w u (flat t)) : Fs w v (ts.map flat) := by
 have h' := h
 obtain ⟨h1, h2⟩ := h
 rcases h2 with ⟨rfl, h0⟩ | ⟨g, cap, cur, rfl, hg, hh, r⟩
 ·omega
 ·refine ⟨Or.inr ⟨g, 0, cap, us, by rw [List.length_map, hl.2], by rw [List.length_map, hl.1, hl.2], fun j u hu => ?_, fun j u e hu he' => ?_⟩, by rw [List.length_map]; omega⟩
  ·have hj : j < n := by have := (List.getElem?_eq_some_iff.1 hu).1; omega
   rw [Nat.zero_add, World.ownsRow.cellAt h' j (by omega)]; exact hu
  ·rw [List.getElem?_map, Option.map_eq_some_iff] at he'
   obtain ⟨t, ht, rfl⟩ := he'
   exact he j u t hu ht
structure FsR (w : World) (v : Value) (fs : List (List Nd)) : Prop where
 out : ∀ (j : Nat) (e : List Nd), fs[j]? = some e → ∃ b o c u, v = .slice (some ⟨b, o, none⟩) fs.length c ∧ w.cell? ⟨b, o + j, none⟩ = some u ∧ Rd w u e ∧ RdN w u e
theorem FsR.below {w w' : World} {v : Value} {fs : List (List Nd)} (h : FsR w v fs) (hb : Below w.heap.size w w') : FsR w' v fs := ⟨fun j e he => by
 obtain ⟨b, o, c, u, h1, h2, h3, h4⟩ := h.out j e he
 exact ⟨b, o, c, u, h1, by rw [hb.cell (World.block_lt_of_cell? w _ h2)]; exact h2, h3.below hb, h4.below hb⟩⟩
theorem fs_ownR {w : World} {base n : Nat} {v : Value} {us : List Value} {ts : List Tr} (h : w.ownsRow base 26 1 v n us) (hl : us.length = n ∧ ts.length = n) (he : ∀ (j : Nat) (u : Value) (t : Tr), us[j]? = some u → ts[j]? = some t → OwnN base w u (flat t) ∧ (flat t).length ≤ 9000) : FsR w v (ts.map flat) := ⟨fun j e hj => by
 rw [List.getElem?_map, Option.map_eq_some_iff] at hj
 obtain ⟨t, ht, rfl⟩ := hj
 have hjn : j < n := by have := (List.getElem?_eq_some_iff.1 ht).1; omega
 have hu : us[j]? = some us[j] := List.getElem?_eq_getElem (by omega)
 have h' := h
 obtain ⟨h1, h2⟩ := h
 rcases h2 with ⟨rfl, h0⟩ | ⟨g, cap, cur, rfl, hg, hh, r⟩
 ·omega
 ·exact ⟨g, 0, cap, _, by rw [List.length_map, hl.2], by rw [Nat.zero_add, World.ownsRow.cellAt h' j (by omega)]; exact hu, (he j _ t hu ht).1.rd, (he j _ t hu ht).1.rdN (he j _ t hu ht).2⟩⟩
inductive Sm
 | val (v : Value)
 | tree (n N : Nat)
 | trow (n N : Nat)
def Sm.ok : Sm → Value → World → Prop
 | .val v, u, _ => u = v
 | .tree n N, u, w => ∃ t, okN n t ∧ (flat t).length ≤ 31 ∧ OwnN N w u (flat t)
 | .trow n N, u, w => ∃ g e t, N ≤ g ∧ u = .slice (some ⟨g, 0, none⟩) 1 1 ∧ w.heap[g]? = some (.cells #[e] 26 (0, 0)) ∧ okN n t ∧ (flat t).length ≤ 31 ∧ OwnN N w e (flat t)
def tabm (l : List Sm) : Tab := ⟨fun i v w => ((l[i]?).getD (.val .nilFunc)).ok v w, true, fun i v w w' h hb hs => by
 revert h
 generalize (l[i]?).getD (.val .nilFunc) = s
 intro h
 cases s with
 | val u => exact h
 | tree n N =>
  obtain ⟨t, h1, h2, h3⟩ := h
  exact ⟨t, h1, h2, owns_below h3 (hs rfl)⟩
 | trow n N =>
  obtain ⟨g, e, t, h1, h2, h3, h4, h5, h6⟩ := h
  exact ⟨g, e, t, h1, h2, by rw [(hs rfl).block _ (heap_lt h3)]; exact h3, h4, h5, owns_below h6 (hs rfl)⟩⟩
def Sm.told : Sm → Option Value
 | .val v => some v
 | _ => none
set_option maxRecDepth 100000 in
set_option maxHeartbeats 16000000 in
theorem rMadeSys_anyR (vf : Value) (fs : List (List Nd)) (most n : Nat) (hn : 1 ≤ n ∧ n ≤ 6) (w : World) (G : Nat) (hG : G ≤ w.heap.size) (h : RawF G w vf fs) :
  Calls Tryz.prog 18 #[vf, .int .i64 (most : Nat), .int .i64 (n : Nat)] w fun e w' => ∃ (vn vs : Value) (ts : List Tr), e = .returned (.agg #[vn, vs]) ∧ Strs w' vn (n6.take n) ∧ Fs w' vs (ts.map flat) ∧ FsR w' vs (ts.map flat) ∧ ts.length = n ∧ (∀ t ∈ ts, okN n t) ∧ (∀ t ∈ ts, (flat t).length ≤ 31) ∧ Below w.heap.size w w' := by
 have HN := Aside.mk hn
 have HRAW := Aside.mk h
 have HG := Aside.mk hG
 obtain ⟨ao, c, rfl, h1, h2, -, h4⟩ := h
 obtain ⟨L, hL⟩ : ∃ L, fs.length = L := ⟨_, rfl⟩
 have HL := Aside.mk hL
 rw [hL] at HRAW ⊢
 clear hn hG h1 h2 h4 hL
 go_enter Tryz.func18, Tryz.ntmps18
 go_wp2_with fail
 obtain ⟨gR, hgR⟩ : ∃ g, w.heap.size = g := ⟨_, rfl⟩
 obtain ⟨W, hW⟩ : ∃ W, W = ((w.alloc (.cells #[.slice none 0 0, .slice none 0 0] 25)).alloc (.cells n6c 9)).alloc (.cells #[.slice none 0 0, .slice none 0 0] 25) := ⟨_, rfl⟩
 have HS0 : Aside (MSys w G gR (gR + 1 + 1) (gR + 1) W.heap.size n 0 0 (.slice ao L c) fs (.slice none 0 0) (.slice none 0 0) [] [] W) := ⟨by
  have s1 : (w.alloc (.cells #[.slice none 0 0, .slice none 0 0] 25)).heap.size = gR + 1 := by rw [World.size_alloc, hgR]
  have s2 : ((w.alloc (.cells #[.slice none 0 0, .slice none 0 0] 25)).alloc (.cells n6c 9)).heap.size = gR + 1 + 1 := by rw [World.size_alloc, s1]
  have hb : Below w.heap.size w W := by rw [hW]; exact (((Below.refl _ _).alloc (Nat.le_refl _) _).alloc (by simp) _).alloc (by simp; omega) _
  have s3 : W.heap.size = gR + 1 + 1 + 1 := by rw [hW, World.size_alloc, s2]
  refine ⟨hb, Nat.le_refl _, ?_, ?_, ?_, ⟨by omega, by omega, by omega, by omega, by omega, by omega, HG.out⟩, ⟨rfl, Or.inl ⟨rfl, rfl⟩⟩, ⟨rfl, Or.inl ⟨rfl, rfl⟩⟩, ⟨rfl, rfl⟩, fun j u t hu _ => by simp at hu, HRAW.out.below hb⟩
  ·have := heap_alloc_last ((w.alloc (.cells #[.slice none 0 0, .slice none 0 0] 25)).alloc (.cells n6c 9)) (.cells #[.slice none 0 0, .slice none 0 0] 25)
   rw [s2, ← hW] at this; exact this
  ·have := heap_alloc_last w (.cells #[.slice none 0 0, .slice none 0 0] 25)
   rw [hW, Below.heap_alloc _ _ _ (by rw [s2]; omega), Below.heap_alloc _ _ _ (by rw [s1]; omega), ← hgR]; exact this
  ·have := heap_alloc_last (w.alloc (.cells #[.slice none 0 0, .slice none 0 0] 25)) (.cells n6c 9)
   rw [s1] at this
   rw [hW, Below.heap_alloc _ _ _ (by rw [s2]; omega)]; exact this⟩
 rw [← hW]
 simp only [hgR]
 have HGR := Aside.mk hgR
 clear hgR hW HRAW
 obtain ⟨gN, hgN⟩ : ∃ g, gR + 1 = g := ⟨_, rfl⟩
 obtain ⟨gS, hgS⟩ : ∃ g, gN + 1 = g := ⟨_, rfl⟩
 simp only [hgN] at HS0 ⊢
 simp only [hgS] at HS0 ⊢
 obtain ⟨base, hbase⟩ : ∃ b, W.heap.size = b := ⟨_, rfl⟩
 rw [hbase] at HS0
 clear hgN hgS hbase
 go_loopg [9, 10] n (fun m v9 v10 wr => ∃ (i : Nat) (vn vs : Value) (us : List Value) (ts : List Tr), v9 = .int .i64 (i : Nat) ∧ Aside (i ≤ n ∧ n - i ≤ m) ∧ Aside (MSys w G gR gS gN base n i i (.slice ao L c) fs vn vs us ts wr))
 case atStart => exact ⟨0, _, _, [], [], rfl, ⟨by omega⟩, HS0⟩
 case round =>
  clear HS0
  obtain ⟨i, vn, vs, us, ts, rfl, HI, HM⟩ := hrel
  by_cases hi : i < n
  ·have hi' : (i : Int) < (n : Int) := by omega
   have hi6 : i < 6 := by have := HN.out; omega
   have HI6 := Aside.mk hi6
   clear hi
   have HI0 := Aside.mk hi'
   have hal : Below wr.heap.size wr (wr.alloc (.cells #[] 79)) := (Below.refl _ _).alloc (Nat.le_refl _) _
   have HM1 := Aside.mk (HM.out.below hal)
   by_cases hL : i < L
   case' pos =>
    have hL' : (i : Int) < (L : Int) := by omega
    obtain ⟨e, he⟩ : ∃ e, fs[i]? = some e := ⟨_, List.getElem?_eq_getElem (by rw [HL.out]; exact hL)⟩
    obtain ⟨ao2, c2, hv2, hl2, hc2, hel, -⟩ := HM.out.raw
    injection hv2 with hv2 hv3 hv4
    subst hv2; subst hv4
    obtain ⟨b, o, u, rfl, hbG, hcu, hru⟩ := hel i e he
    have cu : (wr.alloc (.cells #[] 79)).cell? ⟨b, o + i, none⟩ = some u := by rw [hal.cell (World.block_lt_of_cell? wr _ hcu)]; exact hcu
    have HRU := Aside.mk (hru.below hal)
    obtain ⟨aw, cw, rfl, -⟩ := hru
    clear hel he hv3 hl2 hc2 hcu hal HM
    go_wp2_with fail
    generalize wr.alloc (.cells #[] 79) = W1 at HM1 HRU ⊢
    obtain ⟨ve, hve⟩ : ∃ ve, Value.slice aw e.length cw = ve := ⟨_, rfl⟩
    have hvs : ∃ a l c, ve = .slice a l c := ⟨_, _, _, hve.symm⟩
    rw [hve] at HRU ⊢
    clear hve
   case' neg =>
    have hL' : ¬ (i : Int) < (L : Int) := by omega
    obtain ⟨e, he⟩ : ∃ e : List Nd, e = [] := ⟨_, rfl⟩
    have HRU : Aside (RawN G (wr.alloc (.cells #[] 79)) (.slice (some ⟨wr.heap.size, 0, none⟩) 0 0) e) := ⟨by rw [he]; exact ⟨_, 0, rfl, Nat.le_refl _, Nat.zero_le _, fun i x hx => by simp at hx, fun e => by cases e⟩⟩
    clear hal HM he
    go_wp2_with fail
    obtain ⟨ve, hve⟩ : ∃ ve, Value.slice (some ⟨wr.heap.size, 0, none⟩) 0 0 = ve := ⟨_, rfl⟩
    have hvs : ∃ a l c, ve = .slice a l c := ⟨_, _, _, hve.symm⟩
    rw [hve] at HRU ⊢
    clear hve
    generalize wr.alloc (.cells #[] 79) = W1 at HM1 HRU ⊢
   all_goals
   obtain ⟨x, hx, cN⟩ := nm_cell HM1.out.nm HI6.out
   have HX := Aside.mk hx
   have c0 : W1.cell? ⟨gS, 0, none⟩ = some vn := by rw [cell_of_row _ _ 0 _ _ _ HM1.out.sys]; rfl
   have hlS : gS < W1.heap.size := lt_of HM1.out.sys
   have hlN : gN < W1.heap.size := lt_of HM1.out.nm
   have hi6i : (i : Int) < 6 := by have := HI6.out; omega
   clear hx hL' hi'
   refine region_u (T := tab2 [Sq.val (.pointer (some ⟨gS, 0, none⟩)), Sq.val (vn), Sq.val (.slice (some ⟨gN, 0, none⟩) 6 6), Sq.val (.int .i64 (i : Nat)), Sq.val (.pointer (some ⟨gN, i, none⟩)), Sq.val (.string x), Sq.row W1.heap.size #[.string x] 9 1 1]) [27, 28, 29, 30, 31, 32, 33] 7 (tells_q _) rfl rfl ?_ ?_
   ·iterate 6 (refine AllV.val rfl (fun w hb => by simp [execOp, Act.eval, kp hb c0, hi6i, kp hb cN, go_sem]) ?_)
    refine AllV.make (fun w hb => ⟨_, _, by simp [execOp, Act.eval, go_sem], ((Below.refl _ _).alloc (Nat.le_refl _) _), ⟨_, hb.size, rfl, heap_alloc_last _ _⟩⟩) ?_
    exact AllV.nil
   intro uq W2 hb hus fu hfu
   obtain ⟨g33, G33, e33, R33⟩ := hus 6 (by decide)
   rw [mrg_of (by kernel_rfl)] at hfu
   simp only [mrg, List.map_cons, List.map_nil, Sq.told, Option.getD_some, Option.getD_none, Nat.reduceAdd, Nat.reduceEqDiff, ↓reduceIte, e33] at hfu
   subst hfu
   clear hus e33
   simp only [List.drop_succ_cons, List.drop_zero]
   have HH2 := Aside.mk hb
   clear hb
   have HM2 := Aside.mk (HM1.out.below HH2.out)
   have HRU2 := Aside.mk (HRU.out.below HH2.out)
   have HR33 := Aside.mk R33
   have HL33 : Aside (((n6.take i).map Value.string).length = i) := ⟨by rw [List.length_map, List.length_take]; have := HI6.out; show min i 6 = i; omega⟩
   clear c0 cN hlS hlN hi6i R33 G33
   refine wpList_app_str _ rfl (.tmp 28) (.tmp 33) rfl base _ _ i HL33.out rfl HM2.out.on (.string x) rfl g33 rfl HR33.out (by have := HI6.out; omega) HM2.out.size ?_
   intro ao3 cap3 w3 ho3 hk3
   have hr3 := (hk3.1.block gS HM2.out.lt.2.1).trans HM2.out.sys
   have c3 : w3.cell? ⟨gS, 0, none⟩ = some vn := by rw [cell_of_row _ _ 0 _ _ _ hr3]; rfl
   have z3 : w3.frozen? ⟨gS, 0, none⟩ = false := frozen_of_row _ _ 0 _ _ hr3
   have HM3 := Aside.mk (HM2.out.addName HX.out ho3 hk3)
   have HRU5 : Aside (RawN G (w3.setCell ⟨gS, 0, none⟩ (.slice ao3 (i + 1) cap3)) ve e) := ⟨(HRU2.out.low hk3.1 (by have := HM2.out.lt; omega)).low ((Kept.set (g := gS) (i := 0) (w := w3) (.slice ao3 (i + 1) cap3)).below (n := w.heap.size) HM2.out.lt.2.2.2.2.1 (by have := HM2.out.lt; have := Nat.le_trans HM2.out.size hk3.1.size; omega)) HM2.out.lt.2.2.2.2.2.2⟩
   have HGS := Aside.mk HM2.out.lt
   clear ho3 hk3 hr3 HM2 HRU2 HRU HM1
   go_wp2_with fail
   generalize w3.setCell ⟨gS, 0, none⟩ (.slice ao3 (i + 1) cap3) = W5 at HM3 HRU5 ⊢
   have d1 : W5.cell? ⟨gS, 1, none⟩ = some vs := by rw [cell_of_row _ _ 1 _ _ _ HM3.out.sys]; rfl
   have hlS5 : gS < W5.heap.size := lt_of HM3.out.sys
   have HGB : Aside (G ≤ W5.heap.size) := ⟨by have := HGS.out; have := HM3.out.size; omega⟩
   clear c3 z3
   refine region_list (T := tabm [
     Sm.val (.pointer (some ⟨gS, 1, none⟩)), Sm.val (vs), Sm.val (ve), Sm.val (.int .i64 (most : Nat)), Sm.val (.int .i64 (n : Nat)), Sm.tree n W5.heap.size, Sm.trow n W5.heap.size]) 7
    [_, _, _, _, _, _, _, _, _, _] (by kernel_rfl) (by kernel_rfl) (by kernel_rfl) (by kernel_rfl) (by kernel_rfl) (by kernel_rfl) rfl ?_ ?_
   ·refine AllIn.cons ?_ ?_
    ·intro a w hz hb ho hg
     have e7 : a.tmps.getD 7 undef = .pointer (some ⟨gS, 0, none⟩) := ho 7 (by kernel_rfl)
     have f7 := Rg.gd e7
     exact wv hb rfl (by simp [execOp, Act.eval, e7, f7, go_sem]) rfl
    refine AllIn.cons ?_ ?_
    ·intro a w hz hb ho hg
     have e36 : a.tmps.getD 36 undef = .pointer (some ⟨gS, 1, none⟩) := got_of hg (j := 0) rfl rfl rfl
     have f36 := Rg.gd e36
     have q := (hb.cell (p := ⟨gS, 1, none⟩) hlS5).trans d1
     exact wv hb rfl (by simp [execOp, Act.eval, e36, f36, q, go_sem]) rfl
    refine AllIn.cons ?_ ?_
    ·intro a w hz hb ho hg
     have e10 : a.tmps.getD 10 undef = ve := ho 10 (by kernel_rfl)
     have f10 := Rg.gd e10
     exact wv hb rfl (by simp [execOp, Act.eval, e10, f10, go_sem]) rfl
    refine AllIn.cons ?_ ?_
    ·intro a w hz hb ho hg
     have e1 : a.tmps.getD 1 undef = .int .i64 (most : Nat) := ho 1 (by kernel_rfl)
     have f1 := Rg.gd e1
     exact wv hb rfl (by simp [execOp, Act.eval, e1, f1, go_sem]) rfl
    refine AllIn.cons ?_ ?_
    ·intro a w hz hb ho hg
     have e2 : a.tmps.getD 2 undef = .int .i64 (n : Nat) := ho 2 (by kernel_rfl)
     have f2 := Rg.gd e2
     exact wv hb rfl (by simp [execOp, Act.eval, e2, f2, go_sem]) rfl
    refine AllIn.cons ?_ ?_
    ·intro a w hz hb ho hg
     have e38 : a.tmps.getD 38 undef = ve := got_of hg (j := 2) rfl rfl rfl
     have e39 : a.tmps.getD 39 undef = .int .i64 (most : Nat) := got_of hg (j := 3) rfl rfl rfl
     have e40 : a.tmps.getD 40 undef = .int .i64 (n : Nat) := got_of hg (j := 4) rfl rfl rfl
     have f38 := Rg.gd e38
     have f39 := Rg.gd e39
     have f40 := Rg.gd e40
     exact Or.inl ⟨wanted_none rfl, wp_calls hb.size (run_call (args := #[ve, .int .i64 (most : Nat), .int .i64 (n : Nat)]) enters_made (by simp [Act.eval, f38, f39, f40])) ((rMade_any ve e most n HN.out w G (Nat.le_trans HGB.out hb.size) (HRU5.out.below hb)).mono (by rintro e' w' ⟨t, v', rfl, hok, hl, ho, hb2⟩; exact ⟨_, rfl, hb2, t, hok, hl, ho.mono hb.size⟩))⟩
    refine AllIn.cons ?_ ?_
    ·intro a w hz hb ho hg
     have e41 := (got_of hg (j := 5) rfl rfl rfl : Rg.Tab.S _ _ (a.tmps.getD 41 undef) w)
     obtain ⟨t, hok, hl, ho⟩ := e41; obtain ⟨av, cv, hv, -⟩ := ho.rd.out; have f41 : a.tmps[41]?.getD undef = .slice av (flat t).length cv := (by rw [← Array.getD_eq_getD_getElem?]; exact hv); exact Or.inl ⟨wanted_none rfl, wp_value (w' := w.alloc (.cells #[.slice av (flat t).length cv] 26)) hb.size (by simp [execOp, Act.eval, f41, go_sem]) ((Below.refl _ _).alloc (Nat.le_refl _) _) ⟨_, _, t, hb.size, rfl, heap_alloc_last _ _, hok, hl, (by rw [hv] at ho; exact owns_below ho ((Below.refl _ _).alloc (Nat.le_refl _) _))⟩⟩
    exact AllIn.nil
   intro a W6 hd hz hb ho hg
   have e36 : a.tmps.getD 36 undef = .pointer (some ⟨gS, 1, none⟩) := hg 0 (by decide) _ _ rfl rfl
   have e37 : a.tmps.getD 37 undef = vs := hg 1 (by decide) _ _ rfl rfl
   have e38 : a.tmps.getD 38 undef = ve := hg 2 (by decide) _ _ rfl rfl
   have e39 : a.tmps.getD 39 undef = .int .i64 (most : Nat) := hg 3 (by decide) _ _ rfl rfl
   have e40 : a.tmps.getD 40 undef = .int .i64 (n : Nat) := hg 4 (by decide) _ _ rfl rfl
   have E41 := hg 5 (by decide) _ _ rfl rfl
   have E42 := hg 6 (by decide) _ _ rfl rfl
   obtain ⟨u41, e41⟩ : ∃ u, a.tmps.getD 41 undef = u := ⟨_, rfl⟩
   obtain ⟨g42, u42, t42, G42, e42, R42, ok42, l42, o42⟩ := E42
   have hA := ho.frame hz
   simp only [List.take_succ_cons, List.take_zero, List.filterMap_cons, List.filterMap_nil, List.foldl_cons, List.foldl_nil, e36, e37, e38, e39, e40, e41, e42, List.setIfInBounds_toArray, List.set_cons_zero, List.set_cons_succ] at hA
   obtain ⟨tm, df⟩ := a
   simp only at hd hA
   subst hd
   subst hA
   simp only [List.drop_succ_cons, List.drop_zero]
   have HH5 := Aside.mk hb
   clear hz ho hg hb e36 e37 e38 e39 e40 e41 e42
   obtain ⟨av5, cv5, rfl, -⟩ := o42.rd.out
   have HM6 := Aside.mk (HM3.out.below HH5.out)
   have HO6 := Aside.mk (And.intro ok42 (And.intro l42 (o42.mono (HM3.out.size))))
   clear d1 hlS5 o42 ok42 l42
   refine wpList_app_sl _ rfl (.tmp 37) (.tmp 42) rfl base _ us i HM6.out.len.1 rfl HM6.out.os _ rfl g42 rfl R42 (by have := HI6.out; omega) HM6.out.size ?_
   intro ao7 cap7 w7 ho7 hk7
   have hr7 := (hk7.1.block gS HM6.out.lt.2.1).trans HM6.out.sys
   have c7 : w7.cell? ⟨gS, 1, none⟩ = some vs := by rw [cell_of_row _ _ 1 _ _ _ hr7]; rfl
   have z7 : w7.frozen? ⟨gS, 1, none⟩ = false := frozen_of_row _ _ 1 _ _ hr7
   have HM7 := Aside.mk (HM6.out.addSum HO6.out.1 HO6.out.2.1 HO6.out.2.2 ho7 hk7)
   clear ho7 hk7 hr7 HM6 R42 G42
   go_wp2_with fail
   obtain ⟨go, hgo⟩ : ∃ go, gk = go + 1 := ⟨gk - 1, by have := HI.out; have := HI0.out; omega⟩
   go_roundg go
   case measure => omega
   case rel => exact ⟨i + 1, _, _, _, _, rfl, ⟨by have := HI.out; have := HI0.out; omega⟩, HM7⟩
  ·have hi' : ¬ ((i : Int) < (n : Int)) := by omega
   have him : i = n := by have := HI.out; omega
   subst him
   have hs0 : wr.cell? ⟨gS, 0, none⟩ = some vn := by rw [cell_of_row _ _ 0 _ _ _ HM.out.sys]; rfl
   have hs1 : wr.cell? ⟨gS, 1, none⟩ = some vs := by rw [cell_of_row _ _ 1 _ _ _ HM.out.sys]; rfl
   have hv1 : ∃ a l c, vn = .slice a l c := by
    obtain ⟨-, h3⟩ := HM.out.on
    rcases h3 with ⟨h3, -⟩ | ⟨g', cap', cur', h3, -⟩
    ·exact ⟨_, _, _, h3⟩
    ·exact ⟨_, _, _, h3⟩
   have hv2 : ∃ a l c, vs = .slice a l c := by
    obtain ⟨-, h3⟩ := HM.out.os
    rcases h3 with ⟨h3, -⟩ | ⟨g', cap', cur', h3, -⟩
    ·exact ⟨_, _, _, h3⟩
    ·exact ⟨_, _, _, h3⟩
   obtain ⟨a1, l1, c1, rfl⟩ := hv1
   obtain ⟨a2, l2, c2, rfl⟩ := hv2
   clear hi
   have HRES := Aside.mk HM.out.res
   go_wp2_with (first | (refine wpList_store_sys rfl (.tmp 6) (.tmp 45) rfl gR rfl rfl _ _ HRES.out ?_; intro w3 hr3 hb3 hk3))
   refine ret_sys rfl rfl hr3 ?_
   have hn1 := HN.out
   have hon := own_off HM.out.on HM.out.res (by decide) hk3
   have hos := own_off HM.out.os HM.out.res (by decide) hk3
   refine ⟨_, _, rfl, strs_own2 hon (by rw [List.length_take]; show min i 6 = i; omega) (by omega) (by omega), ts, fs_own hos (by omega) (by omega) HM.out.len (fun j u t hu ht => ?_), fs_ownR hos HM.out.len (fun j u t hu ht => ⟨(own_off (HM.out.el j u t hu ht).2.2 HM.out.res (by decide) hk3 : OwnN base w3 u (flat t)), by have := (HM.out.el j u t hu ht).2.1; omega⟩), HM.out.len.2, fun t ht => ?_, fun t ht => ?_, HM.out.fr.trans (hb3.mono HM.out.lt.2.2.2.2.2.1)⟩
   ·have := HM.out.el j u t hu ht
    exact OwnN.rdN (own_off this.2.2 HM.out.res (by decide) hk3 : OwnN base w3 u (flat t)) (by omega)
   ·obtain ⟨j, hj⟩ := List.getElem?_of_mem ht
    have hjl := (List.getElem?_eq_some_iff.1 hj).1
    exact (HM.out.el j _ t (List.getElem?_eq_getElem (by have := HM.out.len; omega)) hj).1
   ·obtain ⟨j, hj⟩ := List.getElem?_of_mem ht
    have hjl := (List.getElem?_eq_some_iff.1 hj).1
    exact (HM.out.el j _ t (List.getElem?_eq_getElem (by have := HM.out.len; omega)) hj).2.1
theorem rMadeSys_any (vf : Value) (fs : List (List Nd)) (most n : Nat) (hn : 1 ≤ n ∧ n ≤ 6) (w : World) (G : Nat) (hG : G ≤ w.heap.size) (h : RawF G w vf fs) :
  Calls Tryz.prog 18 #[vf, .int .i64 (most : Nat), .int .i64 (n : Nat)] w fun e w' => ∃ (vn vs : Value) (ts : List Tr), e = .returned (.agg #[vn, vs]) ∧ Strs w' vn (n6.take n) ∧ Fs w' vs (ts.map flat) ∧ ts.length = n ∧ (∀ t ∈ ts, okN n t) ∧ (∀ t ∈ ts, (flat t).length ≤ 31) ∧ Below w.heap.size w w' := by
 refine (rMadeSys_anyR vf fs most n hn w G hG h).mono ?_
 rintro e w' ⟨vn, vs, ts, h1, h2, h3, -, h4⟩
 exact ⟨vn, vs, ts, h1, h2, h3, h4⟩
end Go.Proofs.YthcidkidpiaomaaGreatDoor.Od
end
section
set_option linter.unusedVariables false
namespace Go.Proofs.YthcidkidpiaomaaGreatDoor.Od
open Go.RowKit Rg
theorem conv_row {w : World} {g : Nat} {L : List UInt8} {m : Nat × Nat} (h : w.heap[g]? = some (.cells (Lib.byteCells L).toArray 5 m)) (n cap : Nat) (hn : L.length = n) : (convert 70 9 (.slice (some ⟨g, 0, none⟩) n cap)).run Tryz.prog w = .ok (.string ⟨L.toArray⟩) w := by
  subst hn
  rw [run_convert_bytes_string w _ _ 5 _ _ _ Tryz.underlying70 Tryz.underlying5 Tryz.underlying9]
  have hl : (loadCells ⟨g, 0, none⟩ L.length).run Tryz.prog w = .ok ((L.map fun b => (b.toNat : Int)).map (Value.int .u8)).toArray w := by
    have := run_loadCells_list (P := Tryz.prog) w ⟨g, 0, none⟩ (Lib.byteCells L) (fun j u hu => by
      have hj := (List.getElem?_eq_some_iff.1 hu).1
      have e : (⟨g, 0, none⟩ : Addr).add j = ⟨g, j, none⟩ := by unfold Addr.add; split <;> simp_all
      rw [e, cell_of_row w _ j _ _ _ h]
      simpa using hu)
    simpa [Lib.byteCells, Function.comp_def] using this
  rw [run_bytesToString w ⟨g, 0, none⟩ _ cap _ hl, foldl_push_bytes]
  simp [List.map_map, Function.comp_def, ByteArray.empty, ByteArray.emptyWithCapacity]
  rfl
end Go.Proofs.YthcidkidpiaomaaGreatDoor.Od
end
section
set_option linter.unusedVariables false
set_option linter.unusedSimpArgs false
namespace Go.Proofs.YthcidkidpiaomaaGreatDoor.Od
open Go.RowKit Rg
set_option maxRecDepth 100000 in
set_option maxHeartbeats 8000000 in
theorem rDim_any (vf ve vx : Value) (a b : Int) (K : Nat) (hK : K ≤ 255) (w : World) : Calls Tryz.prog 13 #[.agg #[vf, ve, vx, .int .i64 a, .int .i64 b, .int .u8 (K : Nat)]] w fun e w' => e = .returned (.int .i64 ((1 + K % 4 : Nat) : Int)) ∧ Below w.heap.size w w' := by
 have hal : Below w.heap.size w (w.alloc (.cells #[vf, ve, vx, .int .i64 a, .int .i64 b, .int .u8 (K : Nat)] 31)) := (Below.refl _ _).alloc (Nat.le_refl _) _
 have HB := Aside.mk hal
 have hw : Aside (wrap64 (K : Int) = K) := ⟨wrap64_in (by omega) (by omega)⟩
 have hm : Aside ((K : Int).tmod 4 = ((K % 4 : Nat) : Int)) := ⟨by rw [Int.tmod_eq_emod_of_nonneg (by omega)]; omega⟩
 obtain ⟨M, hM⟩ : ∃ M, K % 4 = M := ⟨_, rfl⟩
 have hM4 : M ≤ 3 := by omega
 have hw2 : Aside (wrap64 (1 + (M : Int)) = ((1 + M : Nat) : Int)) := ⟨by rw [wrap64_in (by omega) (by omega)]; omega⟩
 rw [hM] at hm ⊢
 clear hal hK hM hM4
 go_enter Tryz.func13, Tryz.ntmps13
 go_wp2_with fail
 try simp only [hw.out, hm.out, hw2.out]
 go_wp2_with fail
 go_ret
 try simp only [hw.out, hm.out, hw2.out]
 exact ⟨rfl, HB.out⟩
theorem sum_le {α : Type} (f : α → Nat) {m : Nat} : ∀ (l : List α), (∀ x ∈ l, f x ≤ m) → (l.map f).sum ≤ m * l.length
 | [], _ => by simp
 | x :: r, h => by
  have h1 := h x (List.mem_cons_self ..)
  have h2 := sum_le f r fun y hy => h y (List.mem_cons_of_mem _ hy)
  rw [List.map_cons, List.sum_cons, List.length_cons, Nat.mul_succ]; omega
theorem okSys_flat {names : List (List UInt8)} {ts : List Tr} (hv : ∀ x ∈ names, okName x = true) (hnd : names.Nodup) (h1 : 1 ≤ names.length) (h6 : names.length ≤ 6) (hl : names.length = ts.length) (ht : ∀ t ∈ ts, okT names t) (h200 : ∀ t ∈ ts, (flat t).length ≤ 200) : okSys names (ts.map flat) = true := by
 unfold okSys
 rw [okNames_of names [] hv (by simpa using hnd)]
 simp only [Bool.and_eq_true, decide_eq_true_eq, List.length_map, List.all_map, List.all_eq_true, Function.comp, and_true]
 exact ⟨⟨⟨h1, h6⟩, hl.symm⟩, fun t hm => okEx_flat (ht t hm) (h200 t hm)⟩
def qn (K i : Nat) : ByteArray := ⟨#[113, UInt8.ofNat (97 + (K + i) % 26), UInt8.ofNat (48 + i)]⟩
def qns (K i : Nat) : List ByteArray := (List.range i).map (qn K)
theorem qns_succ (K i : Nat) : qns K (i + 1) = qns K i ++ [qn K i] := by unfold qns; rw [List.range_succ, List.map_append]; rfl
theorem qns_len (K i : Nat) : (qns K i).length = i := by unfold qns; simp
theorem qn_ok (K i : Nat) (hi : i < 10) : okName (qn K i).data.toList = true := by
 show okName [113, UInt8.ofNat (97 + (K + i) % 26), UInt8.ofNat (48 + i)] = true
 have h1 : ∀ m, m < 26 → isLD (UInt8.ofNat (97 + m)) = true := by decide
 have h2 : ∀ m, m < 10 → isLD (UInt8.ofNat (48 + m)) = true := by decide
 have h3 : isLD 113 = true := by decide
 unfold okName keyword wT wSqr wSqrt wAll
 simp only [List.all_cons, List.all_nil, h1 _ (Nat.mod_lt _ (by decide : 0 < 26)), h2 i hi, h3, List.head?_cons, Option.any_some, List.length_cons, List.length_nil, Bool.and_true]
 simp [isLt]
theorem qn_inj (K i j : Nat) (hi : i < 10) (hj : j < 10) (h : (qn K i).data.toList = (qn K j).data.toList) : i = j := by
 have h : [113, UInt8.ofNat (97 + (K + i) % 26), UInt8.ofNat (48 + i)] = [113, UInt8.ofNat (97 + (K + j) % 26), UInt8.ofNat (48 + j)] := h
 injection h with _ h
 injection h with _ h
 injection h with h _
 have := congrArg UInt8.toNat h
 rw [UInt8.toNat_ofNat', UInt8.toNat_ofNat'] at this
 omega
theorem qns_ok (K n : Nat) (hn : n ≤ 6) : (∀ x ∈ strL (qns K n), okName x = true) ∧ (strL (qns K n)).Nodup ∧ (strL (qns K n)).length = n := by
 refine ⟨fun x hx => ?_, ?_, by unfold strL; rw [List.length_map, qns_len]⟩
 ·unfold strL qns at hx
  rw [List.map_map, List.mem_map] at hx
  obtain ⟨i, hi, rfl⟩ := hx
  exact qn_ok K i (by have := List.mem_range.1 hi; omega)
 ·unfold strL qns
  rw [List.map_map]
  refine List.pairwise_map.2 ?_
  refine List.Pairwise.imp_of_mem ?_ (List.nodup_range (n := n))
  intro i j hi hj hne e
  exact hne (qn_inj K i j (by have := List.mem_range.1 hi; omega) (by have := List.mem_range.1 hj; omega) e)
theorem qn_cells (S i : Nat) (hS : S ≤ 255) (hi : i < 10) : (#[.int .u8 113, .int .u8 (wrap64 (97 + (wrap64 (wrap64 (S : Int) + (i : Int))).tmod 26) % 256), .int .u8 (wrap64 (48 + (i : Int)) % 256)] : Array Value) = (Lib.byteCells (qn S i).data.toList).toArray := by
 have e1 : wrap64 (S : Int) = S := wrap64_in (by omega) (by omega)
 have e2 : wrap64 ((S : Int) + (i : Int)) = ((S + i : Nat) : Int) := by rw [wrap64_in (by omega) (by omega)]; omega
 have e3 : (((S + i : Nat) : Int)).tmod 26 = (((S + i) % 26 : Nat) : Int) := by rw [Int.tmod_eq_emod_of_nonneg (by omega)]; omega
 have e4 : wrap64 (97 + (((S + i) % 26 : Nat) : Int)) % 256 = ((97 + (S + i) % 26 : Nat) : Int) := by rw [wrap64_in (by omega) (by omega)]; omega
 have e5 : wrap64 (48 + (i : Int)) % 256 = ((48 + i : Nat) : Int) := by rw [wrap64_in (by omega) (by omega)]; omega
 rw [e1, e2, e3, e4, e5]
 have f1 : ((UInt8.ofNat (97 + (S + i) % 26)).toNat : Int) = ((97 + (S + i) % 26 : Nat) : Int) := by rw [UInt8.toNat_ofNat']; omega
 have f2 : ((UInt8.ofNat (48 + i)).toNat : Int) = ((48 + i : Nat) : Int) := by rw [UInt8.toNat_ofNat']; omega
 show _ = (Lib.byteCells [113, UInt8.ofNat (97 + (S + i) % 26), UInt8.ofNat (48 + i)]).toArray
 unfold Lib.byteCells
 simp only [List.map_cons, List.map_nil]
 rw [f1, f2]
 rfl
structure Ren (w3 : World) (gB base S i : Nat) (vs v : Value) (W : World) : Prop where
 fr : Below w3.heap.size w3 W
 sys : W.heap[gB]? = some (.cells #[v, vs] 25 (0, 0))
 on : W.ownsRow base 9 1 v i ((qns S i).map Value.string)
 size : base ≤ W.heap.size
 lt : gB < base ∧ w3.heap.size ≤ gB
theorem Ren.below {w3 : World} {gB base S i : Nat} {vs v : Value} {W W' : World} (h : Ren w3 gB base S i vs v W) (hb : Below W.heap.size W W') : Ren w3 gB base S i vs v W' :=
 ⟨h.fr.trans (hb.mono h.fr.size), (hb.block _ (lt_of h.sys)).trans h.sys, owns_below h.on hb, Nat.le_trans h.size hb.size, h.lt⟩
theorem Ren.add {w3 : World} {gB base S i : Nat} {vs v v' : Value} {W w4 : World} (h : Ren w3 gB base S i vs v W) (ho : w4.ownsRow base 9 1 v' (i + 1) ((qns S i ++ [qn S i]).map Value.string)) (hb : Below base W w4) : Ren w3 gB base S (i + 1) vs v' (w4.setCell ⟨gB, 0, none⟩ v') := by
 have hr := (hb.block _ h.lt.1).trans h.sys
 have hs : (w4.setCell ⟨gB, 0, none⟩ v').heap.size = w4.heap.size := by simp [World.setCell]
 have hsz := Nat.le_trans h.size hb.size
 refine ⟨(h.fr.trans (hb.mono (by have := h.lt; omega))).trans ((Kept.set (g := gB) (i := 0) (w := w4) v').below h.lt.2 (by have := h.lt; omega)), row_cell (i := 0) hr v', ?_, by rw [hs]; exact hsz, h.lt⟩
 rw [qns_succ]
 exact owns_set ho hr (by decide)
set_option maxRecDepth 100000 in
set_option maxHeartbeats 32000000 in
theorem OdeRenaming_walk (vf ve vx : Value) (a b k : Int) (fs : List (List Nd)) (e0 : List Nd) (xs0 : List Iv) (sh : Int) (w : World) (hf : RawF w.heap.size w vf fs) (hne : RawN w.heap.size w ve e0) (hxs : RawI w.heap.size w vx xs0) (wa : (Lit.int .i64 a).wf = true) (wb : (Lit.int .i64 b).wf = true) (wk : 0 ≤ k ∧ k ≤ 255) (wsh : (Lit.int .u8 sh).wf = true) (hL : Lb w) :
  Calls Tryz.prog 9 #[.agg #[vf, ve, vx, .int .i64 a, .int .i64 b, .int .u8 k], .int .u8 sh] w fun e w' => e = .returned (.bool true) ∧ Below w.heap.size w w' := by
 have hsh : 0 ≤ sh ∧ sh ≤ 255 := by simp [Lit.wf, IntKind.min, IntKind.max, IntKind.signed, IntKind.bits] at wsh; omega
 obtain ⟨K, rfl⟩ : ∃ K : Nat, k = K := ⟨k.toNat, by omega⟩
 obtain ⟨S, rfl⟩ : ∃ S : Nat, sh = S := ⟨sh.toNat, by omega⟩
 have HKS : Aside (K ≤ 255 ∧ S ≤ 255) := ⟨by omega⟩
 obtain ⟨n, hn⟩ : ∃ n, 1 + K % 4 = n := ⟨_, rfl⟩
 have HN : Aside (1 ≤ n ∧ n ≤ 4) := ⟨by omega⟩
 have HNE := Aside.mk hn
 have HL := Aside.mk hL
 have HF := Aside.mk hf
 have hal : Below w.heap.size w (w.alloc (.cells #[vf, ve, vx, .int .i64 a, .int .i64 b, .int .u8 (K : Nat)] 31)) := (Below.refl _ _).alloc (Nat.le_refl _) _
 have hrow : (w.alloc (.cells #[vf, ve, vx, .int .i64 a, .int .i64 b, .int .u8 (K : Nat)] 31)).heap[w.heap.size]? = some (.cells #[vf, ve, vx, .int .i64 a, .int .i64 b, .int .u8 (K : Nat)] 31 (0, 0)) := heap_alloc_last _ _
 have HAL := Aside.mk hal
 have HROW := Aside.mk hrow
 obtain ⟨af, cf, rfl, -⟩ := hf
 obtain ⟨ae, ce, rfl, -⟩ := hne
 obtain ⟨ax, cx, rfl, -⟩ := hxs
 clear wa wb wk wsh hsh hn hL hal hrow
 go_enter Tryz.func9, Tryz.ntmps9
 go_wp2_with fail
 generalize w.alloc _ = W at HAL HROW ⊢
 obtain ⟨g2, hg2⟩ : ∃ g, w.heap.size = g := ⟨_, rfl⟩
 have HG2 := Aside.mk hg2
 simp only [hg2]
 rw [hg2] at HROW
 clear hg2
 refine (sanity_any W (HL.out.below HAL.out)).mono ?_
 rintro e w1 ⟨rfl, hb⟩
 have HB := Aside.mk (HAL.out.trans (hb.mono HAL.out.size))
 have hr1 := (hb.block _ (lt_of HROW.out)).trans HROW.out
 replace HROW := Aside.mk hr1
 have d0 : w1.cell? ⟨g2, 0, none⟩ = some (.slice af fs.length cf) := by rw [cell_of_row _ _ 0 _ _ _ hr1]; rfl
 have d1 : w1.cell? ⟨g2, 1, none⟩ = some (.slice ae e0.length ce) := by rw [cell_of_row _ _ 1 _ _ _ hr1]; rfl
 have d2 : w1.cell? ⟨g2, 2, none⟩ = some (.slice ax xs0.length cx) := by rw [cell_of_row _ _ 2 _ _ _ hr1]; rfl
 have d3 : w1.cell? ⟨g2, 3, none⟩ = some (.int .i64 a) := by rw [cell_of_row _ _ 3 _ _ _ hr1]; rfl
 have d4 : w1.cell? ⟨g2, 4, none⟩ = some (.int .i64 b) := by rw [cell_of_row _ _ 4 _ _ _ hr1]; rfl
 have d5 : w1.cell? ⟨g2, 5, none⟩ = some (.int .u8 (K : Nat)) := by rw [cell_of_row _ _ 5 _ _ _ hr1]; rfl
 clear hb HAL hr1
 go_wp2_with fail
 refine (rDim_any _ _ _ _ _ K HKS.out.1 w1).mono ?_
 rintro e w2 ⟨rfl, hb⟩
 rw [HNE.out]
 replace HB := Aside.mk (HB.out.trans (hb.mono HB.out.size))
 have hr1 := (hb.block _ (lt_of HROW.out)).trans HROW.out
 have d0' : w2.cell? ⟨g2, 0, none⟩ = some (.slice af fs.length cf) := by rw [cell_of_row _ _ 0 _ _ _ hr1]; rfl
 clear hb d0 d1 d2 d3 d4 d5 hr1 HROW
 go_wp2_with fail
 refine (rMadeSys_any _ fs 20 n (by have := HN.out; omega) w2 w.heap.size HB.out.size (HF.out.below HB.out)).mono ?_
 rintro e w3 ⟨vn, vs, ts, rfl, hsn, hfs, htl, hok, h31, hb⟩
 have HT := Aside.mk (And.intro htl (And.intro hok h31))
 replace HB := Aside.mk (HB.out.trans (hb.mono HB.out.size))
 have HFS := Aside.mk hfs
 obtain ⟨an, cn, rfl⟩ := hsn.slice
 obtain ⟨asx, csx, rfl⟩ := hfs.slice
 obtain ⟨vn, hvn⟩ : ∃ vn, Value.slice an (n6.take n).length cn = vn := ⟨_, rfl⟩
 have hvs : ∃ a l c, vn = .slice a l c := ⟨_, _, _, hvn.symm⟩
 rw [hvn]
 clear hb hsn hfs htl hok h31 d0' HF hvn
 obtain ⟨va1, va2, va3, rfl⟩ := hvs
 go_wp2_with fail
 obtain ⟨gA, hgA⟩ : ∃ g, w3.heap.size = g := ⟨_, rfl⟩
 obtain ⟨W0, hW0⟩ : ∃ W, (w3.alloc (.cells #[.slice va1 va2 va3, .slice asx (ts.map flat).length csx] 25)).alloc (.cells #[.slice none 0 0, .slice asx (ts.map flat).length csx] 25) = W := ⟨_, rfl⟩
 have HR0 : Aside (Ren w3 (gA + 1) W0.heap.size S 0 (.slice asx (ts.map flat).length csx) (.slice none 0 0) W0) := ⟨by
  have s1 : (w3.alloc (.cells #[.slice va1 va2 va3, .slice asx (ts.map flat).length csx] 25)).heap.size = gA + 1 := by rw [World.size_alloc, hgA]
  have hb : Below w3.heap.size w3 W0 := by rw [← hW0]; exact ((Below.refl _ _).alloc (Nat.le_refl _) _).alloc (by simp) _
  have s2 : W0.heap.size = gA + 1 + 1 := by rw [← hW0, World.size_alloc, s1]
  refine ⟨hb, ?_, ⟨rfl, Or.inl ⟨rfl, rfl⟩⟩, Nat.le_refl _, by omega⟩
  have := heap_alloc_last (w3.alloc (.cells #[.slice va1 va2 va3, .slice asx (ts.map flat).length csx] 25)) (.cells #[.slice none 0 0, .slice asx (ts.map flat).length csx] 25)
  rw [s1, hW0] at this; exact this⟩
 simp only [List.length_map] at hW0 HR0 HFS ⊢
 simp only [hW0, hgA]
 obtain ⟨gB, hgB⟩ : ∃ g, gA + 1 = g := ⟨_, rfl⟩
 obtain ⟨base, hbase⟩ : ∃ b, W0.heap.size = b := ⟨_, rfl⟩
 simp only [hgB] at HR0 ⊢
 rw [hbase] at HR0
 clear hgB hgA hbase hW0
 go_loopg [9] n (fun m v9 wr => ∃ (i : Nat) (v : Value), v9 = .int .i64 (i : Nat) ∧ Aside (i ≤ n ∧ n - i ≤ m) ∧ Aside (Ren w3 gB base S i (.slice asx ts.length csx) v wr))
 case atStart => exact ⟨0, _, rfl, ⟨by omega⟩, HR0⟩
 case round =>
  clear HR0
  obtain ⟨i, v, rfl, HI, HR⟩ := hrel
  have hv1 : ∃ a l c, v = .slice a l c := by
   obtain ⟨-, h3⟩ := HR.out.on
   rcases h3 with ⟨h3, -⟩ | ⟨g', cap', cur', h3, -⟩
   ·exact ⟨_, _, _, h3⟩
   ·exact ⟨_, _, _, h3⟩
  obtain ⟨a1, l1, c1x, rfl⟩ := hv1
  by_cases hi : i < n
  ·have hi' : (i : Int) < (n : Int) := by omega
   have hi4 : i < 4 := by have := HN.out; omega
   have HI4 := Aside.mk hi4
   have hi64 : (i : Int) < 9223372036854775807 := by omega
   have c0 : wr.cell? ⟨gB, 0, none⟩ = some (.slice a1 l1 c1x) := by rw [cell_of_row _ _ 0 _ _ _ HR.out.sys]; rfl
   have hcell := qn_cells S i HKS.out.2 (by omega)
   have hcv : (convert 70 9 (.slice (some ⟨wr.heap.size, 0, none⟩) 3 3)).run Tryz.prog (wr.alloc (.cells #[.int .u8 113, .int .u8 (wrap64 (97 + (wrap64 (wrap64 (S : Int) + (i : Int))).tmod 26) % 256), .int .u8 (wrap64 (48 + (i : Int)) % 256)] 5)) = .ok (.string (qn S i)) (wr.alloc (.cells #[.int .u8 113, .int .u8 (wrap64 (97 + (wrap64 (wrap64 (S : Int) + (i : Int))).tmod 26) % 256), .int .u8 (wrap64 (48 + (i : Int)) % 256)] 5)) :=
    conv_row (L := (qn S i).data.toList) (m := (0, 0)) (by rw [heap_alloc_last, hcell]) 3 3 rfl
   have hal4 : Below wr.heap.size wr (wr.alloc (.cells #[.int .u8 113, .int .u8 (wrap64 (97 + (wrap64 (wrap64 (S : Int) + (i : Int))).tmod 26) % 256), .int .u8 (wrap64 (48 + (i : Int)) % 256)] 5)) := (Below.refl _ _).alloc (Nat.le_refl _) _
   have hal5 : Below (wr.alloc (.cells #[.int .u8 113, .int .u8 (wrap64 (97 + (wrap64 (wrap64 (S : Int) + (i : Int))).tmod 26) % 256), .int .u8 (wrap64 (48 + (i : Int)) % 256)] 5)).heap.size (wr.alloc (.cells #[.int .u8 113, .int .u8 (wrap64 (97 + (wrap64 (wrap64 (S : Int) + (i : Int))).tmod 26) % 256), .int .u8 (wrap64 (48 + (i : Int)) % 256)] 5)) ((wr.alloc (.cells #[.int .u8 113, .int .u8 (wrap64 (97 + (wrap64 (wrap64 (S : Int) + (i : Int))).tmod 26) % 256), .int .u8 (wrap64 (48 + (i : Int)) % 256)] 5)).alloc (.cells #[.string (qn S i)] 9)) := (Below.refl _ _).alloc (Nat.le_refl _) _
   have HR5 := Aside.mk ((HR.out.below hal4).below hal5)
   have hrk := heap_alloc_last (wr.alloc (.cells #[.int .u8 113, .int .u8 (wrap64 (97 + (wrap64 (wrap64 (S : Int) + (i : Int))).tmod 26) % 256), .int .u8 (wrap64 (48 + (i : Int)) % 256)] 5)) (.cells #[.string (qn S i)] 9)
   rw [World.size_alloc] at hrk
   have HRK := Aside.mk hrk
   clear hi hi4 hcell hal4 hal5 hrk
   go_wp2_with (first | (at_builtin; refine wpList_append_str _ rfl (.tmp 29) (.tmp 42) rfl base _ (qns S i) i (qns_len S i) rfl HR5.out.on (qn S i) _ rfl HRK.out (by have := HI4.out; omega) HR5.out.size ?_; intro ao6 cap6 w6 ho6 hb6; have hr6 := (hb6.block gB HR5.out.lt.1).trans HR5.out.sys; have c6 : w6.cell? ⟨gB, 0, none⟩ = some (.slice a1 l1 c1x) := (by rw [cell_of_row _ _ 0 _ _ _ hr6]; rfl); have z6 : w6.frozen? ⟨gB, 0, none⟩ = false := frozen_of_row _ _ 0 _ _ hr6; have HR6 := Aside.mk (HR5.out.add ho6 hb6); clear ho6 hb6 hr6 hcv c0))
   obtain ⟨go, hgo⟩ : ∃ go, gk = go + 1 := ⟨gk - 1, by have := HI.out; omega⟩
   go_roundg go
   case measure => omega
   case rel => exact ⟨i + 1, _, rfl, ⟨by have := HI.out; omega⟩, HR6⟩
  ·have hi' : ¬ ((i : Int) < (n : Int)) := by omega
   have him : i = n := by have := HI.out; omega
   subst him
   have c0 : wr.cell? ⟨gB, 0, none⟩ = some (.slice a1 l1 c1x) := by rw [cell_of_row _ _ 0 _ _ _ HR.out.sys]; rfl
   have c1 : wr.cell? ⟨gB, 1, none⟩ = some (.slice asx ts.length csx) := by rw [cell_of_row _ _ 1 _ _ _ HR.out.sys]; rfl
   clear hi
   have hlen : ts.length = i := HT.out.1
   have HLN2 := Aside.mk hlen
   have hq := qns_ok S i (by have := HN.out; omega)
   have HQ := Aside.mk hq
   have HNM : Aside (Strs wr (.slice a1 l1 c1x) (qns S i)) := ⟨strs_own2 HR.out.on (qns_len S i) (by have := HN.out; omega) (by have := HN.out; omega)⟩
   have HFS1 := Aside.mk (HFS.out.below HR.out.fr)
   replace HB := Aside.mk (HB.out.trans (HR.out.fr.mono HB.out.size))
   replace HL := Aside.mk (HL.out.below HB.out)
   have HOKT : Aside (∀ t ∈ ts, okT (strL (qns S i)) t) := ⟨fun t ht => HT.out.2.1 t ht _ hq.2.2⟩
   have HSYS := Aside.mk HR.out.sys
   obtain ⟨F, hF⟩ : ∃ F : ByteArray, F.data.toList = fmtS (strL (qns S i)) (strL (qns S i)) ts := ⟨⟨(fmtS (strL (qns S i)) (strL (qns S i)) ts).toArray⟩, by simp⟩
   have HF2 := Aside.mk hF
   have hF8 : F.size ≤ 8000 := by
    have h1 := fmtS_len hq.1 (strL (qns S i)) ts hq.1 HOKT.out
    rw [← hF] at h1
    have h2 : (ts.map fun t => (flat t).length).sum ≤ 31 * ts.length := sum_le _ _ (fun t ht => HT.out.2.2 t ht)
    have h3 : F.data.toList.length = F.size := rfl
    have := HN.out
    omega
   have HF8 := Aside.mk hF8
   clear hlen hq hF hF8
   go_wp2_with fail
   refine (Format_is (names := qns S i) ts HQ.out.1 (by rw [qns_len, HLN2.out]) HOKT.out (by rw [qns_len]; have := HN.out; omega) _ _ _ HNM.out HFS1.out HL.out.tabs F HF2.out).mono ?_
   rintro e w4 ⟨rfl, hb4⟩
   replace HSYS := Aside.mk ((hb4.block _ (lt_of HSYS.out)).trans HSYS.out)
   replace HNM := Aside.mk (HNM.out.below hb4)
   replace HFS1 := Aside.mk (HFS1.out.below hb4)
   replace HB := Aside.mk (HB.out.trans (hb4.mono HB.out.size))
   replace HL := Aside.mk (HL.out.below hb4)
   have HPS : Aside (parseSys F.data.toList = .ok (strL (qns S i), ts.map flat)) := ⟨by
    rw [HF2.out]
    have := HN.out
    exact parseSys_fmt HQ.out.1 HQ.out.2.1 (by rw [HQ.out.2.2]; omega) (by rw [HQ.out.2.2]; omega) (by rw [HQ.out.2.2, HLN2.out]) HOKT.out (fun t ht => Nat.le_trans (HT.out.2.2 t ht) (by decide)) (by rw [← HF2.out]; exact HF8.out)⟩
   clear hb4 c0 c1
   go_wp2_with fail
   refine (Parse_good F (by have := HF8.out; omega) (strL (qns S i)) (ts.map flat) HPS.out w4 HL.out).mono ?_
   rintro e w5 ⟨vn5, vf5, xs5, rfl, hxs5, hsn5, hfs5, hb5⟩
   have hx5 : xs5 = qns S i := by rw [strL_is xs5 _ hxs5, ← strL_is (qns S i) _ rfl]
   subst hx5
   obtain ⟨an5, cn5, rfl⟩ := hsn5.slice
   obtain ⟨af5, cf5, rfl⟩ := hfs5.slice
   have hfl : (ts.map flat).length = i := by rw [List.length_map, HLN2.out]
   have hql : (qns S i).length = i := qns_len S i
   rw [hfl] at hfs5 ⊢
   rw [hql] at hsn5 ⊢
   have hal : Below w5.heap.size w5 (w5.alloc (.cells #[.slice an5 i cn5, .slice af5 i cf5] 25)) := (Below.refl _ _).alloc (Nat.le_refl _) _
   have hbb := hb5.trans (hal.mono hb5.size)
   have hr5 := heap_alloc_last w5 (.cells #[.slice an5 i cn5, .slice af5 i cf5] 25)
   have HSN5 := Aside.mk (hsn5.below hal)
   have HFS5 := Aside.mk (hfs5.below hal)
   replace HSYS := Aside.mk ((hbb.block _ (lt_of HSYS.out)).trans HSYS.out)
   replace HNM := Aside.mk (HNM.out.below hbb)
   replace HFS1 := Aside.mk (HFS1.out.below hbb)
   replace HB := Aside.mk (HB.out.trans (hbb.mono HB.out.size))
   have HR10 := Aside.mk hr5
   have c0 : (w5.alloc (.cells #[.slice an5 i cn5, .slice af5 i cf5] 25)).cell? ⟨gB, 0, none⟩ = some (.slice a1 l1 c1x) := by rw [cell_of_row _ _ 0 _ _ _ HSYS.out]; rfl
   have c1 : (w5.alloc (.cells #[.slice an5 i cn5, .slice af5 i cf5] 25)).cell? ⟨gB, 1, none⟩ = some (.slice asx ts.length csx) := by rw [cell_of_row _ _ 1 _ _ _ HSYS.out]; rfl
   clear hxs5 hsn5 hfs5 hb5 hal hbb hr5 hfl hql
   go_wp2_with fail
   refine (Valid_any _ _ (qns S i) (ts.map flat) _ HNM.out HFS1.out).mono ?_
   rintro e w6 ⟨rfl, hb6⟩
   rw [okSys_flat HQ.out.1 HQ.out.2.1 (by rw [HQ.out.2.2]; have := HN.out; omega) (by rw [HQ.out.2.2]; have := HN.out; omega) (by rw [HQ.out.2.2, HLN2.out]) HOKT.out (fun t ht => Nat.le_trans (HT.out.2.2 t ht) (by decide))]
   have hs6 := (hb6.block _ (lt_of HSYS.out)).trans HSYS.out
   have hr6 := (hb6.block _ (lt_of HR10.out)).trans HR10.out
   replace HNM := Aside.mk (HNM.out.below hb6)
   replace HFS1 := Aside.mk (HFS1.out.below hb6)
   replace HSN5 := Aside.mk (HSN5.out.below hb6)
   replace HFS5 := Aside.mk (HFS5.out.below hb6)
   replace HB := Aside.mk (HB.out.trans (hb6.mono HB.out.size))
   have k0 : w6.cell? ⟨gB, 0, none⟩ = some (.slice a1 l1 c1x) := by rw [cell_of_row _ _ 0 _ _ _ hs6]; rfl
   have k1 : w6.cell? ⟨gB, 1, none⟩ = some (.slice asx ts.length csx) := by rw [cell_of_row _ _ 1 _ _ _ hs6]; rfl
   have k2 : w6.cell? ⟨w5.heap.size, 0, none⟩ = some (.slice an5 i cn5) := by rw [cell_of_row _ _ 0 _ _ _ hr6]; rfl
   have k3 : w6.cell? ⟨w5.heap.size, 1, none⟩ = some (.slice af5 i cf5) := by rw [cell_of_row _ _ 1 _ _ _ hr6]; rfl
   clear hb6 hs6 hr6 c0 c1
   go_wp2_with fail
   refine (rSameSys_any _ _ _ _ (qns S i) (ts.map flat) _ HSN5.out HFS5.out HNM.out HFS1.out).mono ?_
   rintro e w7 ⟨rfl, hb7⟩
   replace HB := Aside.mk (HB.out.trans (hb7.mono HB.out.size))
   clear hb7 k0 k1 k2 k3
   go_wp2_with fail
   go_ret
   exact ⟨rfl, HB.out⟩
end Go.Proofs.YthcidkidpiaomaaGreatDoor.Od
end
