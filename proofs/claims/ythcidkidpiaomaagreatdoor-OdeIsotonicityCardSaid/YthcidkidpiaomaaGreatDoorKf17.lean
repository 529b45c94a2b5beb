/- OeG OeH OeI -/
import Derived.Test.YthcidkidpiaomaaGreatDoorKf16
section
set_option linter.unusedVariables false
set_option linter.unusedSimpArgs false
namespace Go.Proofs.YthcidkidpiaomaaGreatDoor.Od
open Go.RowKit Rg
set_option maxRecDepth 100000 in
set_option maxHeartbeats 8000000 in
theorem Parse_any (s : ByteArray) (hs8 : s.size ≤ 100000) (w : World) (hT : Fx.Tabs w) :
  Calls Tryz.prog 31 #[.string s] w fun e w' => SysPost w s e w' := by
 have hmf : ∀ (fn : Fn) (first cap : Array Value) (w : World), (Instr.makeFunc fn first cap).run Tryz.prog w = .ok (.func fn first cap) w := fun _ _ _ _ => rfl
 have hsl : s.data.toList.length = s.size := rfl
 by_cases h8 : s.size ≤ 8000
 ·have h8' : ¬ ((8000 : Int) < (s.size : Int)) := by omega
  go_enter_defers Tryz.func31, Tryz.ntmps31
  go_wp2_with fail
  obtain ⟨g0, hg0⟩ : ∃ g, w.heap.size = g := ⟨_, rfl⟩
  have HW : Aside (∀ W, W = (((w.alloc (Obj.cells #[.slice none 0 0, .slice none 0 0] 25)).alloc (Obj.cells #[.int .i64 0] 3)).alloc (Obj.cells #[.int .i64 0] 47)).alloc (Obj.cells #[.string s, .int .i64 0, .bool true, .slice none 0 0, .bool false] 104) →
    W.heap[g0]? = some (.cells #[.slice none 0 0, .slice none 0 0] 25 (0, 0)) ∧ W.heap[g0 + 1]? = some (.cells #[.int .i64 0] 3 (0, 0)) ∧ W.heap[g0 + 1 + 1]? = some (.cells #[.int .i64 0] 47 (0, 0)) ∧ W.heap[g0 + 1 + 1 + 1]? = some (.cells #[.string s, .int .i64 0, .bool true, .slice none 0 0, .bool false] 104 (0, 0)) ∧ Below g0 w W) := ⟨by
   rintro W rfl
   subst hg0
   have a0 := heap_alloc_last w (Obj.cells #[.slice none 0 0, .slice none 0 0] 25)
   have a1 := heap_alloc_last (w.alloc (Obj.cells #[.slice none 0 0, .slice none 0 0] 25)) (Obj.cells #[.int .i64 0] 3)
   have a2 := heap_alloc_last ((w.alloc (Obj.cells #[.slice none 0 0, .slice none 0 0] 25)).alloc (Obj.cells #[.int .i64 0] 3)) (Obj.cells #[.int .i64 0] 47)
   have a3 := heap_alloc_last (((w.alloc (Obj.cells #[.slice none 0 0, .slice none 0 0] 25)).alloc (Obj.cells #[.int .i64 0] 3)).alloc (Obj.cells #[.int .i64 0] 47)) (Obj.cells #[.string s, .int .i64 0, .bool true, .slice none 0 0, .bool false] 104)
   simp only [World.size_alloc] at a1 a2 a3
   refine ⟨?_, ?_, ?_, a3, ((((Below.refl _ _).alloc (Nat.le_refl _) _).alloc (by simp) _).alloc (by simp only [World.size_alloc]; omega) _).alloc (by simp only [World.size_alloc]; omega) _⟩
   ·rw [Below.heap_alloc _ _ _ (by simp only [World.size_alloc]; omega), Below.heap_alloc _ _ _ (by simp only [World.size_alloc]; omega), Below.heap_alloc _ _ _ (by simp only [World.size_alloc]; omega)]; exact a0
   ·rw [Below.heap_alloc _ _ _ (by simp only [World.size_alloc]; omega), Below.heap_alloc _ _ _ (by simp only [World.size_alloc]; omega)]; exact a1
   ·rw [Below.heap_alloc _ _ _ (by simp only [World.size_alloc]; omega)]; exact a2⟩
  simp only [hg0]
  generalize hW : (((w.alloc (Obj.cells #[.slice none 0 0, .slice none 0 0] 25)).alloc (Obj.cells #[.int .i64 0] 3)).alloc (Obj.cells #[.int .i64 0] 47)).alloc (Obj.cells #[.string s, .int .i64 0, .bool true, .slice none 0 0, .bool false] 104) = W at HW ⊢
  obtain ⟨r0, r1, r2, r3, hb⟩ := HW.out W rfl
  have HR0 := Aside.mk r0
  have HR1 := Aside.mk r1
  have HRW := Aside.mk r0
  have HRW2 := Aside.mk r2
  have HR2 := Aside.mk r2
  have HB := Aside.mk hb
  have HP := Aside.mk (Par.start g0 r3 (by omega) h8)
  have HTB : Aside (TB (fun k => k < g0) W) := ⟨by rw [← hg0] at hb ⊢; exact (TB.of hT).fr (Fr.of hb)⟩
  have HCL := Aside.mk (clo_sys (g0 + 1) (g0 + 1 + 1) (by omega) (.int .i64 0) (.int .i64 0))
  have H8 := Aside.mk h8
  have HPE : Aside (Od.parseSys s.data.toList = match Od.allLines s.data.toList ⟨0, [], false⟩ with
    | .err c o => .err o c
    | .ok r σ =>
     match Od.resAll s.data.toList σ.names (r.1.map fun t => sub s.data.toList t.lo t.hi) r.1 r.2 [] with
     | .err o c => .err o c
     | .ok fs => if !σ.bad && okSys (r.1.map fun t => sub s.data.toList t.lo t.hi) fs then .ok (r.1.map fun t => sub s.data.toList t.lo t.hi, fs) else .err 0 2) := ⟨by unfold Od.parseSys; rw [if_neg (by omega)]; rfl⟩
  clear HW hW r0 r1 r2 r3 hb hT h8
  refine (lines_any W (g0 + 1 + 1 + 1) _ s ⟨0, [], false⟩ HP.out HTB.out (by simp)).mono ?_
  rintro e w1 hg
  cases hx : Od.allLines s.data.toList ⟨0, [], false⟩ with
  | err cc o =>
   rw [hx] at hg HPE
   have HA : Aside (Od.parseSys s.data.toList = .err o cc) := ⟨HPE.out⟩
   clear hx HPE
   obtain ⟨hf, rfl⟩ := hg
   have b0 := hf.cell HR0.out (by decide)
   have b1 := hf.cell HR1.out (by decide)
   have b2 := hf.cell HR2.out (by decide)
   have HBL := Aside.mk (HB.out.trans (hf.below (Nat.le_of_lt (lt_of HR0.out)) fun k hk => hk))
   clear hf
   go_wp2_with fail
   refine leaves_cons (f := 83) (args := #[.pointer (some ⟨g0 + 1, 0, none⟩), .pointer (some ⟨g0 + 1 + 1, 0, none⟩)]) (by simp) (by simp [go_sem]) ?_
   refine (HCL.out.2 o cc [] w1 b1 b2).mono ?_
   rintro e u' w'' ⟨rfl, rfl, hb2, k1, k2⟩
   have k0 := (hb2.block g0 (by omega)).trans b0
   have e0 : w''.cell? ⟨g0, 0, none⟩ = some (.slice none 0 0) := by rw [cell_of_row _ _ 0 _ _ _ k0]; rfl
   have e0' : w''.cell? ⟨g0, 1, none⟩ = some (.slice none 0 0) := by rw [cell_of_row _ _ 1 _ _ _ k0]; rfl
   have e1 : w''.cell? ⟨g0 + 1, 0, none⟩ = some (.int .i64 (o : Nat)) := by rw [cell_of_row _ _ 0 _ _ _ k1]; rfl
   have e2 : w''.cell? ⟨g0 + 1 + 1, 0, none⟩ = some (.int .i64 cc) := by rw [cell_of_row _ _ 0 _ _ _ k2]; rfl
   simp [Leaves, settle, results, Tryz.results31, go_sem, e0, e0', e1, e2]
   refine ⟨hg0 ▸ (HBL.out.trans (hb2.mono (by omega))), ?_⟩
   rw [HA.out]
  | ok r σ1 =>
   rw [hx] at hg HPE
   obtain ⟨hf, ⟨u, rfl, v4, v5, us, rfl, ht4, hs5⟩, hP1⟩ := hg
   have HLK := Aside.mk (allLines_ok.1 r σ1 hx)
   obtain ⟨ns, es⟩ := r
   simp only at ht4 hs5
   have HRW1 := Aside.mk (hf.cell HR0.out (by decide))
   have HR0 := Aside.mk (hf.cell HR0.out (by decide))
   have HR1 := Aside.mk (hf.cell HR1.out (by decide))
   have HR2 := Aside.mk (hf.cell HR2.out (by decide))
   have HBL := Aside.mk (HB.out.trans (hf.below (Nat.le_of_lt (lt_of HRW.out)) fun k hk => hk))
   obtain ⟨N, hN⟩ : ∃ N, ns.length = N := ⟨_, rfl⟩
   have hN1 : 1 ≤ N := by have h : 1 ≤ ns.length := HLK.out.2; omega
   have hN9 : N ≤ 8000 := by have h1 : (es.map fun t => (flat t).length).sum + ns.length ≤ σ1.pos := HLK.out.1.nodes; have h2 := HLK.out.1.pos; have h3 := H8.out; omega
   have hes : es.length = N := by have h : ns.length = es.length := HLK.out.1.len; omega
   have hus : us.length = N := by rw [hs5.len]; exact hes
   have hv4 : ∃ gs cs, v4 = .slice (some ⟨gs, 0, none⟩) N cs := by
    rcases ht4.1.2 with ⟨-, h0⟩ | ⟨gs, cs, cur, hv, -⟩
    ·omega
    ·exact ⟨gs, cs, by rw [← hN]; exact hv⟩
   have hv5 : ∃ g5 c5, v5 = .slice (some ⟨g5, 0, none⟩) N c5 := by
    rcases hs5.row.2 with ⟨-, h0⟩ | ⟨g5, c5, cur, hv, -⟩
    ·omega
    ·exact ⟨g5, c5, by rw [← hus]; exact hv⟩
   obtain ⟨gs, cs, rfl⟩ := hv4
   obtain ⟨g5, c5, rfl⟩ := hv5
   have HTR : Aside (w1.ownsRow 0 108 3 (.slice (some ⟨gs, 0, none⟩) N cs) N (toks s (prs ns))) := ⟨by have := ht4.1; rw [hN] at this; exact this⟩
   have HS5 := Aside.mk hs5.nodes
   have HP1 := Aside.mk hP1
   have HNN := Aside.mk (And.intro hN (And.intro hN1 (And.intro hN9 (And.intro hes hus))))
   have HWS := Aside.mk hf.size
   have HWS1 := Aside.mk hf.size
   have HG0 : Aside (g0 ≤ W.heap.size) := ⟨Nat.le_of_lt (lt_of HRW.out)⟩
   clear hx hf ht4 hs5 hP1 hN hN1 hes hus HP HTB HRW HB
   go_wp2_with fail
   go_loopg [8, 30] N (fun m v8 v30 wr => ∃ (i : Nat), v30 = .int .i64 (i : Nat) ∧ Aside (i ≤ N ∧ N - i ≤ m) ∧ Aside (wr.ownsRow w1.heap.size 9 1 v8 i (((ns.take i).map fun t => s.extract t.lo t.hi).map Value.string)) ∧ Aside (Below w1.heap.size w1 wr))
   case atStart => exact ⟨0, rfl, ⟨by omega⟩, ⟨⟨rfl, Or.inl ⟨rfl, rfl⟩⟩⟩, ⟨Below.refl _ _⟩⟩
   case round =>
    obtain ⟨i, rfl, HI, HO, HBW⟩ := hrel
    by_cases hi : i < N
    ·have hi' : (i : Int) < (N : Int) := by omega
     obtain ⟨t, ht⟩ : ∃ t, ns[i]? = some t := ⟨_, List.getElem?_eq_getElem (by rw [HNN.out.1]; exact hi)⟩
     obtain ⟨k0, k1, k2⟩ := tok_cells HTR.out HNN.out.1 ht
     have c0 : wr.cell? ⟨gs, i * 3, none⟩ = some (.int .i64 1) := by rw [HBW.out.cell (p := ⟨gs, i * 3, none⟩) (World.block_lt_of_cell? w1 _ k0)]; exact k0
     have c1 : wr.cell? ⟨gs, i * 3 + 1, none⟩ = some (.string (s.extract t.lo t.hi)) := by rw [HBW.out.cell (p := ⟨gs, i * 3 + 1, none⟩) (World.block_lt_of_cell? w1 _ k1)]; exact k1
     have c2 : wr.cell? ⟨gs, i * 3 + 2, none⟩ = some (.int .i64 (t.lo : Nat)) := by rw [HBW.out.cell (p := ⟨gs, i * 3 + 2, none⟩) (World.block_lt_of_cell? w1 _ k2)]; exact k2
     have HTT := Aside.mk ht
     have hxl : ((ns.take i).map fun t => s.extract t.lo t.hi).length = i := by rw [List.length_map, List.length_take, HNN.out.1]; omega
     have htk : ns.take (i + 1) = ns.take i ++ [t] := by rw [List.take_add_one, HTT.out]; rfl
     have hal1 : Below wr.heap.size wr (wr.alloc (.cells #[.int .i64 1, .string (s.extract t.lo t.hi), .int .i64 (t.lo : Nat)] 108)) := (Below.refl _ _).alloc (Nat.le_refl _) _
     have hal2 : Below wr.heap.size wr ((wr.alloc (.cells #[.int .i64 1, .string (s.extract t.lo t.hi), .int .i64 (t.lo : Nat)] 108)).alloc (.cells #[.string (s.extract t.lo t.hi)] 9)) := hal1.alloc (by simp) _
     have HRK : Aside (((wr.alloc (.cells #[.int .i64 1, .string (s.extract t.lo t.hi), .int .i64 (t.lo : Nat)] 108)).alloc (.cells #[.string (s.extract t.lo t.hi)] 9)).heap[wr.heap.size + 1]? = some (.cells #[.string (s.extract t.lo t.hi)] 9 (0, 0))) := ⟨by
      have := heap_alloc_last (wr.alloc (.cells #[.int .i64 1, .string (s.extract t.lo t.hi), .int .i64 (t.lo : Nat)] 108)) (.cells #[.string (s.extract t.lo t.hi)] 9)
      simpa using this⟩
     have HO2 : Aside (((wr.alloc (.cells #[.int .i64 1, .string (s.extract t.lo t.hi), .int .i64 (t.lo : Nat)] 108)).alloc (.cells #[.string (s.extract t.lo t.hi)] 9)).ownsRow w1.heap.size 9 1 u8 i (((ns.take i).map fun t => s.extract t.lo t.hi).map Value.string)) := ⟨owns_below HO.out hal2⟩
     have HB2 := Aside.mk (HBW.out.trans (hal2.mono HBW.out.size))
     have HXL := Aside.mk hxl
     have HTK2 := Aside.mk htk
     have HLN : Aside (i ≤ 9000) := ⟨by have := HNN.out.2.2.1; omega⟩
     clear ht k0 k1 k2 hxl htk hal1 hal2
     go_wp2_with (first | (at_builtin; refine wpList_append_str _ rfl (.tmp 34) (.tmp 37) rfl w1.heap.size _ _ i HXL.out rfl HO2.out (s.extract t.lo t.hi) _ rfl HRK.out HLN.out HB2.out.size ?_; intro ao cap w4 ho4 hb4))
     obtain ⟨go, hgo⟩ : ∃ go, gk = go + 1 := ⟨gk - 1, by have := HI.out; omega⟩
     have HO4 : Aside (w4.ownsRow w1.heap.size 9 1 (.slice ao (i + 1) cap) (i + 1) (((ns.take (i + 1)).map fun t => s.extract t.lo t.hi).map Value.string)) := ⟨by
      have := ho4
      rw [HTK2.out, List.map_append]
      exact this⟩
     have HB4 := Aside.mk (HB2.out.trans hb4)
     clear ho4 hb4
     go_roundg go
     case measure => omega
     case rel => exact ⟨i + 1, rfl, ⟨by have := HI.out; omega⟩, HO4, HB4⟩
    ·have hi' : ¬ ((i : Int) < (N : Int)) := by omega
     have hin : N = i := by have := HI.out; omega
     subst hin
     obtain ⟨xs, hxs⟩ : ∃ xs, (ns.map fun t => s.extract t.lo t.hi) = xs := ⟨_, rfl⟩
     have hxl : xs.length = N := by rw [← hxs, List.length_map]; exact HNN.out.1
     have hvl : strL xs = ns.map fun t => sub s.data.toList t.lo t.hi := by
      rw [← hxs]; unfold strL
      rw [List.map_map]
      apply List.map_congr_left
      intro t _
      exact sub_extract s t.lo t.hi
     have hor : wr.ownsRow w1.heap.size 9 1 u8 xs.length (xs.map Value.string) := by
      have := HO.out
      rw [List.take_of_length_le (by rw [HNN.out.1]; omega), hxs] at this
      rw [hxl]; exact this
     have hv8 : ∃ gn cn, u8 = .slice (some ⟨gn, 0, none⟩) N cn ∧ N ≤ cn := by
      rcases hor.2 with ⟨-, h0⟩ | ⟨gn, cn, cur, hv, -, -, hle, -⟩
      ·have := HNN.out.2.1; omega
      ·rw [hxl] at hv hle; exact ⟨gn, cn, hv, hle⟩
     obtain ⟨gn, cn, rfl, hicn⟩ := hv8
     have HXS := Aside.mk hxs
     have HXL := Aside.mk hxl
     have HVL := Aside.mk hvl
     have HOR := Aside.mk hor
     have HCN := Aside.mk hicn
     have HPE2 : Aside (Od.parseSys s.data.toList = match Od.resAll s.data.toList σ1.names (strL xs) ns es [] with
      | .err o c => .err o c
      | .ok fs => if !σ1.bad && okSys (strL xs) fs then .ok (strL xs, fs) else .err 0 2) := ⟨by rw [HVL.out]; exact HPE.out⟩
     have HR0 := Aside.mk ((HBW.out.block _ (lt_of HR0.out)).trans HR0.out)
     have HR1 := Aside.mk ((HBW.out.block _ (lt_of HR1.out)).trans HR1.out)
     have HR2 := Aside.mk ((HBW.out.block _ (lt_of HR2.out)).trans HR2.out)
     have HS5 := Aside.mk (HS5.out.below HBW.out)
     have HP1 := Aside.mk (HP1.out.below HBW.out)
     have HTR := Aside.mk (owns_below HTR.out HBW.out)
     have HBL := Aside.mk (HBL.out.trans (HBW.out.mono (by have h1 := lt_of HRW1.out; omega)))
     have HWS := Aside.mk (Nat.le_trans HWS.out HBW.out.size)
     clear hxs hxl hvl hor hicn HO HI hi hi'
     go_wp2_with fail
     go_loopg [42] N (fun m v42 wq => ∃ (i : Nat) (dn : List (List Nd)), v42 = .int .i64 (i : Nat) ∧ Aside (i ≤ N ∧ N - i ≤ m ∧ dn.length = i ∧ ∀ e ∈ dn, e.length ≤ 8000) ∧ Aside (Od.resAll s.data.toList σ1.names (strL xs) ns es [] = more dn (Od.resAll s.data.toList σ1.names (strL xs) (ns.drop i) (es.drop i) ((strL xs).take i))) ∧
      Aside (SumsN W.heap.size wq (.slice (some ⟨g5, 0, none⟩) N c5) us (dn ++ (es.drop i).map flat)) ∧ Aside (FrN (fun k => k < W.heap.size) wr wq))
     case atStart => exact ⟨0, [], rfl, ⟨by simp⟩, ⟨by unfold more; simp only [List.drop_zero, List.take_zero]; cases Od.resAll s.data.toList σ1.names (strL xs) ns es [] <;> rfl⟩, HS5, ⟨Fr.refl wr⟩⟩
     case round =>
      obtain ⟨i, dn, rfl, HI, HRA, HSN, HFN⟩ := hrel
      have HR0 := Aside.mk (HFN.out.cell HR0.out (by decide))
      have HR1 := Aside.mk (HFN.out.cell HR1.out (by decide))
      have HR2 := Aside.mk (HFN.out.cell HR2.out (by decide))
      have HP2 := Aside.mk (HP1.out.frN HFN.out)
      have HTR := Aside.mk (owns_fr HTR.out HFN.out (by decide))
      have HOR := Aside.mk (owns_fr HOR.out HFN.out (by decide))
      have HST := Aside.mk (strs_row HOR.out (by rw [HXL.out]; have := HNN.out.2.2.1; omega))
      have HFN2s := Aside.mk HFN.out.size
      have HBL2 := Aside.mk (HBL.out.trans (HFN.out.below (n := g0) (by have h1 := lt_of HRW1.out; have h2 := HBW.out.size; omega) fun k hk => Nat.lt_of_lt_of_le hk HG0.out))
      by_cases hi : i < N
      ·have hi' : (i : Int) < (N : Int) := by omega
       obtain ⟨t, ht⟩ : ∃ t, ns[i]? = some t := ⟨_, List.getElem?_eq_getElem (by rw [HNN.out.1]; exact hi)⟩
       obtain ⟨tr, htr⟩ : ∃ tr, es[i]? = some tr := ⟨_, List.getElem?_eq_getElem (by rw [HNN.out.2.2.2.1]; exact hi)⟩
       obtain ⟨u, hu⟩ : ∃ u, us[i]? = some u := ⟨_, List.getElem?_eq_getElem (by rw [HNN.out.2.2.2.2]; exact hi)⟩
       obtain ⟨k0, k1, k2⟩ := tok_cells HTR.out HNN.out.1 ht
       have hdn : ns.drop i = t :: ns.drop (i + 1) := by
        obtain ⟨hl, rfl⟩ := List.getElem?_eq_some_iff.1 ht
        exact List.drop_eq_getElem_cons hl
       have hde : es.drop i = tr :: es.drop (i + 1) := by
        obtain ⟨hl, rfl⟩ := List.getElem?_eq_some_iff.1 htr
        exact List.drop_eq_getElem_cons hl
       have hsub : sub s.data.toList t.lo t.hi = (s.extract t.lo t.hi).data.toList := (sub_extract s t.lo t.hi).symm
       have HRB : Aside (Od.resAll s.data.toList σ1.names (strL xs) ns es [] = more dn (if ((strL xs).take i).contains (s.extract t.lo t.hi).data.toList then .err t.lo 72
         else match Od.resolve s.data.toList σ1.names (strL xs) (flat tr) with
          | (_, some o) => .err o 72
          | (e', none) => match Od.resAll s.data.toList σ1.names (strL xs) (ns.drop (i + 1)) (es.drop (i + 1)) ((strL xs).take i ++ [(s.extract t.lo t.hi).data.toList]) with
           | .ok r => .ok (e' :: r)
           | .err o c => .err o c)) := ⟨by rw [HRA.out, hdn, hde, resAll_cons, hsub]; rfl⟩
       have HTK : Aside (strL (xs.take i) = (strL xs).take i) := ⟨by unfold strL; rw [List.map_take]⟩
       have HTN : Aside ((strL xs).take (i + 1) = (strL xs).take i ++ [(s.extract t.lo t.hi).data.toList]) := ⟨by
        have hix : i < xs.length := by rw [HXL.out]; exact hi
        rw [strL_take xs i hix]
        congr 2
        have : xs[i]? = some (s.extract t.lo t.hi) := by rw [← HXS.out, List.getElem?_map, ht]; rfl
        rw [List.getElem?_eq_getElem hix] at this
        rw [Option.some.inj this]⟩
       have HTT := Aside.mk ht
       have HTE := Aside.mk htr
       have HUU := Aside.mk hu
       have HDE := Aside.mk hde
       obtain ⟨X, hX⟩ : ∃ X, s.extract t.lo t.hi = X := ⟨_, rfl⟩
       rw [hX] at HRB HTN k1
       clear ht htr hu hdn hde hsub hX HRA
       have hal : Below wr.heap.size wr (wr.alloc (.cells #[.int .i64 1, .string X, .int .i64 (t.lo : Nat)] 108)) := (Below.refl _ _).alloc (Nat.le_refl _) _
       have hrt := heap_alloc_last wr (.cells #[.int .i64 1, .string X, .int .i64 (t.lo : Nat)] 108)
       have HAL := Aside.mk hal
       have t1 : (wr.alloc (.cells #[.int .i64 1, .string X, .int .i64 (t.lo : Nat)] 108)).cell? ⟨wr.heap.size, 1, none⟩ = some (.string X) := by rw [cell_of_row _ _ 1 _ _ _ hrt]; rfl
       have t2 : (wr.alloc (.cells #[.int .i64 1, .string X, .int .i64 (t.lo : Nat)] 108)).cell? ⟨wr.heap.size, 2, none⟩ = some (.int .i64 (t.lo : Nat)) := by rw [cell_of_row _ _ 2 _ _ _ hrt]; rfl
       have hls : wr.heap.size < (wr.alloc (.cells #[.int .i64 1, .string X, .int .i64 (t.lo : Nat)] 108)).heap.size := lt_of hrt
       have HSI : Aside (Strs (wr.alloc (.cells #[.int .i64 1, .string X, .int .i64 (t.lo : Nat)] 108)) (.slice (some ⟨gn, 0, none⟩) i cn) (xs.take i)) := ⟨by
        rcases (HST.out.below hal).out with ⟨h0, -⟩ | ⟨b, o, c, hv, -, hc⟩
        ·have := HXL.out; rw [h0] at this; simp at this; omega
        ·rw [HXL.out] at hv
         injection hv with e1 e2 e3
         injection e1 with e1
         injection e1 with e4 e5
         subst e4; subst e5; subst e3
         exact Strs.take hc i (by have := HXL.out; omega) (by have := HCN.out; omega) HST.out.few⟩
       have hic : i ≤ cn := by have := HCN.out; omega
       have hic' : (i : Int) ≤ (cn : Int) := by omega
       clear hal hrt
       go_wp2_with fail
       generalize hW2 : wr.alloc (.cells #[.int .i64 1, .string X, .int .i64 (t.lo : Nat)] 108) = W2 at HAL t1 t2 hls HSI ⊢
       clear hW2
       go_quiet (first | (go_at_call 62; refine Calls.quiet_of_same (contains_any _ _ (xs.take i) (HSI.out.drewN _) X)))
       rw [HTK.out]
       have HB3 : Aside (Below wr.heap.size wr (W2.drewN nq)) := ⟨HAL.out.trans ⟨rfl, rfl, rfl, Nat.le_refl _, fun _ _ => rfl⟩⟩
       have HR0 := Aside.mk ((HB3.out.block _ (lt_of HR0.out)).trans HR0.out)
       have HR1 := Aside.mk ((HB3.out.block _ (lt_of HR1.out)).trans HR1.out)
       have HR2 := Aside.mk ((HB3.out.block _ (lt_of HR2.out)).trans HR2.out)
       have HSN3 := Aside.mk (HSN.out.below HB3.out)
       have HP3 := Aside.mk (HP2.out.below HB3.out)
       have HST3 := Aside.mk (HST.out.below HB3.out)
       have HFN3 := Aside.mk (HFN.out.trans (Fr.of HB3.out))
       have HBL3 := Aside.mk (HBL2.out.trans (HB3.out.mono (by have h1 := lt_of HRW1.out; have h2 := HBW.out.size; have h3 := HFN.out.size; omega)))
       have t1 : (W2.drewN nq).cell? ⟨wr.heap.size, 1, none⟩ = some (.string X) := t1
       have t2 : (W2.drewN nq).cell? ⟨wr.heap.size, 2, none⟩ = some (.int .i64 (t.lo : Nat)) := t2
       have hls : wr.heap.size < (W2.drewN nq).heap.size := hls
       generalize W2.drewN nq = W3 at HB3 HR0 HR1 HR2 HSN3 HP3 HST3 HFN3 HBL3 t1 t2 hls ⊢
       obtain ⟨qb, hqb⟩ : ∃ q, ((strL xs).take i).contains X.data.toList = q := ⟨_, rfl⟩
       rw [hqb] at HRB ⊢
       clear hqb HAL HSI HSN HP2 HST HFN HBL2 k0 k1 k2
       cases qb with
       | true =>
        have HA : Aside (Od.parseSys s.data.toList = .err t.lo 72) := ⟨by rw [HPE2.out, HRB.out]; rfl⟩
        have c0 : W3.cell? ⟨g0, 0, none⟩ = some (.slice none 0 0) := by rw [cell_of_row _ _ 0 _ _ _ HR0.out]; rfl
        have c0' : W3.cell? ⟨g0, 1, none⟩ = some (.slice none 0 0) := by rw [cell_of_row _ _ 1 _ _ _ HR0.out]; rfl
        have c1 : W3.cell? ⟨g0 + 1, 0, none⟩ = some (.int .i64 0) := by rw [cell_of_row _ _ 0 _ _ _ HR1.out]; rfl
        have c2 : W3.cell? ⟨g0 + 1 + 1, 0, none⟩ = some (.int .i64 0) := by rw [cell_of_row _ _ 0 _ _ _ HR2.out]; rfl
        have f0 : W3.frozen? ⟨g0, 0, none⟩ = false := by simp [World.frozen?, HR0.out]
        have f0' : W3.frozen? ⟨g0, 1, none⟩ = false := by simp [World.frozen?, HR0.out]
        have f1 : W3.frozen? ⟨g0 + 1, 0, none⟩ = false := by simp [World.frozen?, HR1.out]
        have f2 : W3.frozen? ⟨g0 + 1 + 1, 0, none⟩ = false := by simp [World.frozen?, HR2.out]
        go_wp2_with fail
        go_region
        go_wp2_with fail
        have st := three_set HR0.out HR1.out HR2.out (.slice none 0 0) (.slice none 0 0) (.int .i64 (t.lo : Nat)) (.int .i64 72)
        generalize (((W3.setCell ⟨g0, 0, none⟩ (.slice none 0 0)).setCell ⟨g0, 1, none⟩ (.slice none 0 0)).setCell ⟨g0 + 1, 0, none⟩ (.int .i64 (t.lo : Nat))).setCell ⟨g0 + 1 + 1, 0, none⟩ (.int .i64 72) = Z at st ⊢
        obtain ⟨z0, z1, z2, zb, zk⟩ := st
        refine leaves_cons (f := 83) (args := #[.pointer (some ⟨g0 + 1, 0, none⟩), .pointer (some ⟨g0 + 1 + 1, 0, none⟩)]) (by simp) (by simp [go_sem]) ?_
        refine (HCL.out.1 (Z.drew)).mono ?_
        rintro e u' w'' ⟨rfl, rfl, hb2⟩
        have y0 := (hb2.block g0 (lt_of z0)).trans z0
        have y1 := (hb2.block (g0 + 1) (lt_of z1)).trans z1
        have y2 := (hb2.block (g0 + 1 + 1) (lt_of z2)).trans z2
        have e0 : w''.cell? ⟨g0, 0, none⟩ = some (.slice none 0 0) := by rw [cell_of_row _ _ 0 _ _ _ y0]; rfl
        have e0' : w''.cell? ⟨g0, 1, none⟩ = some (.slice none 0 0) := by rw [cell_of_row _ _ 1 _ _ _ y0]; rfl
        have e1 : w''.cell? ⟨g0 + 1, 0, none⟩ = some (.int .i64 (t.lo : Nat)) := by rw [cell_of_row _ _ 0 _ _ _ y1]; rfl
        have e2 : w''.cell? ⟨g0 + 1 + 1, 0, none⟩ = some (.int .i64 72) := by rw [cell_of_row _ _ 0 _ _ _ y2]; rfl
        simp [Leaves, settle, results, Tryz.results31, go_sem, e0, e0', e1, e2]
        refine ⟨hg0 ▸ (HBL3.out.trans (zb.drew.trans (hb2.mono (Nat.le_of_lt (lt_of z0))))), ?_⟩
        rw [HA.out]
       | false =>
        have hux : W3.cell? ⟨g5, i, none⟩ = some u := by
         have hrow : W3.ownsRow W.heap.size 26 1 (.slice (some ⟨g5, 0, none⟩) N c5) N us := by have := HSN3.out.row; rw [HNN.out.2.2.2.2] at this; exact this
         have := hrow.cellAt i (by omega)
         rw [HUU.out] at this; exact this
        have hel : (dn ++ (es.drop i).map flat)[i]? = some (flat tr) := by
         have hd := HI.out.2.2.1
         rw [List.getElem?_append_right (by omega), hd, Nat.sub_self, HDE.out]; rfl
        have hou := HSN3.out.own i u (flat tr) HUU.out hel
        have hbl : (flat tr).length ≤ 8000 := by
         have h1 : (es.map fun t => (flat t).length).sum + ns.length ≤ σ1.pos := HLK.out.1.nodes
         have h2 := HLK.out.1.pos
         have h3 := H8.out
         have h4 : (flat tr).length ≤ (es.map fun t => (flat t).length).sum := le_sum_of_mem _ _ (List.mem_map.2 ⟨tr, List.mem_of_getElem? HTE.out, rfl⟩)
         omega
        obtain ⟨n, hn⟩ : ∃ n, (flat tr).length = n := ⟨_, rfl⟩
        have hof : ∃ gv cap, u = .slice (some ⟨gv, 0, none⟩) n cap ∧ W.heap.size ≤ gv := by
         rcases hou.2 with ⟨-, h0⟩ | ⟨gv, cap, cur, hu, hgv, -⟩
         ·exact absurd (List.length_eq_zero_iff.1 h0) (flat_ne tr)
         ·rw [hn] at hu; exact ⟨gv, cap, hu, hgv⟩
        obtain ⟨gv, cap, rfl, hgv⟩ := hof
        have HOU := Aside.mk hou
        have HNE := Aside.mk (And.intro hn (And.intro (show n ≤ 8000 by omega) hgv))
        have HVR := Aside.mk (HLK.out.1.vars tr (List.mem_of_getElem? HTE.out))
        clear hel hou hbl hn hgv
        go_wp2_with fail
        refine (resolve_any W3 (g0 + 1 + 1 + 1) _ (fun k => k ≠ gv) s true σ1 HP3.out gv cap (flat tr) W.heap.size n HNE.out.1 (by have := HNE.out.2.1; omega) HOU.out (by simp) _ xs HST3.out (fun x hx h2 => HVR.out x hx h2)).mono ?_
        obtain ⟨R, hR⟩ : ∃ R, Od.resolve s.data.toList σ1.names (strL xs) (flat tr) = R := ⟨_, rfl⟩
        have hRl : R.1.length = n := by rw [← hR, resolve_len]; exact HNE.out.1
        rw [hR] at HRB ⊢
        rintro e w5 ⟨rfl, ho5, hf5, hs5, hP5⟩
        have hgv0 : g0 + 1 + 1 < gv := by have h1 := lt_of HRW2.out; have h2 := HNE.out.2.2; omega
        have HR0 := Aside.mk (Fr.cell hf5 HR0.out (by decide))
        have HR1 := Aside.mk (Fr.cell hf5 HR1.out (by decide))
        have HR2 := Aside.mk (Fr.cell hf5 HR2.out (by decide))
        have HBL5 := Aside.mk (HBL3.out.trans (hf5.below (n := g0) (by have h1 := HB3.out.size; have h2 := HFN2s.out; have h3 := HBW.out.size; have h4 := lt_of HRW1.out; omega) fun k hk => by omega))
        have HFN5 := Aside.mk (HFN3.out.trans (hf5.less (B' := fun k => k < W.heap.size) fun k hk => by have := HNE.out.2.2; omega))
        have HSN5 := Aside.mk (HSN3.out.set (i := i) (gv := gv) HUU.out rfl hf5 ho5)
        have HRL := Aside.mk hRl
        clear ho5 hf5 hs5 hP5 hR hRl hgv0
        obtain ⟨e', so⟩ := R
        cases so with
        | some o =>
         have HA : Aside (Od.parseSys s.data.toList = .err o 72) := ⟨by rw [HPE2.out, HRB.out]; rfl⟩
         have e1 : idxV ((e', some o) : List Nd × Option Nat).2 = (o : Int) := rfl
         have ho0 : (0 : Int) ≤ (o : Int) := by omega
         rw [e1]
         clear e1
         have c0 : w5.cell? ⟨g0, 0, none⟩ = some (.slice none 0 0) := by rw [cell_of_row _ _ 0 _ _ _ HR0.out]; rfl
         have c0' : w5.cell? ⟨g0, 1, none⟩ = some (.slice none 0 0) := by rw [cell_of_row _ _ 1 _ _ _ HR0.out]; rfl
         have c1 : w5.cell? ⟨g0 + 1, 0, none⟩ = some (.int .i64 0) := by rw [cell_of_row _ _ 0 _ _ _ HR1.out]; rfl
         have c2 : w5.cell? ⟨g0 + 1 + 1, 0, none⟩ = some (.int .i64 0) := by rw [cell_of_row _ _ 0 _ _ _ HR2.out]; rfl
         have f0 : w5.frozen? ⟨g0, 0, none⟩ = false := by simp [World.frozen?, HR0.out]
         have f0' : w5.frozen? ⟨g0, 1, none⟩ = false := by simp [World.frozen?, HR0.out]
         have f1 : w5.frozen? ⟨g0 + 1, 0, none⟩ = false := by simp [World.frozen?, HR1.out]
         have f2 : w5.frozen? ⟨g0 + 1 + 1, 0, none⟩ = false := by simp [World.frozen?, HR2.out]
         go_wp2_with fail
         have st := three_set HR0.out HR1.out HR2.out (.slice none 0 0) (.slice none 0 0) (.int .i64 (o : Nat)) (.int .i64 72)
         generalize (((w5.setCell ⟨g0, 0, none⟩ (.slice none 0 0)).setCell ⟨g0, 1, none⟩ (.slice none 0 0)).setCell ⟨g0 + 1, 0, none⟩ (.int .i64 (o : Nat))).setCell ⟨g0 + 1 + 1, 0, none⟩ (.int .i64 72) = Z at st ⊢
         obtain ⟨z0, z1, z2, zb, zk⟩ := st
         refine leaves_cons (f := 83) (args := #[.pointer (some ⟨g0 + 1, 0, none⟩), .pointer (some ⟨g0 + 1 + 1, 0, none⟩)]) (by simp) (by simp [go_sem]) ?_
         refine (HCL.out.1 (Z)).mono ?_
         rintro e u' w'' ⟨rfl, rfl, hb2⟩
         have y0 := (hb2.block g0 (lt_of z0)).trans z0
         have y1 := (hb2.block (g0 + 1) (lt_of z1)).trans z1
         have y2 := (hb2.block (g0 + 1 + 1) (lt_of z2)).trans z2
         have e0 : w''.cell? ⟨g0, 0, none⟩ = some (.slice none 0 0) := by rw [cell_of_row _ _ 0 _ _ _ y0]; rfl
         have e0' : w''.cell? ⟨g0, 1, none⟩ = some (.slice none 0 0) := by rw [cell_of_row _ _ 1 _ _ _ y0]; rfl
         have e1 : w''.cell? ⟨g0 + 1, 0, none⟩ = some (.int .i64 (o : Nat)) := by rw [cell_of_row _ _ 0 _ _ _ y1]; rfl
         have e2 : w''.cell? ⟨g0 + 1 + 1, 0, none⟩ = some (.int .i64 72) := by rw [cell_of_row _ _ 0 _ _ _ y2]; rfl
         simp [Leaves, settle, results, Tryz.results31, go_sem, e0, e0', e1, e2]
         refine ⟨hg0 ▸ (HBL5.out.trans (zb.trans (hb2.mono (Nat.le_of_lt (lt_of z0))))), ?_⟩
         rw [HA.out]
        | none =>
         have e1 : idxV ((e', none) : List Nd × Option Nat).2 = -1 := rfl
         rw [e1]
         clear e1
         have HRC : Aside (Od.resAll s.data.toList σ1.names (strL xs) ns es [] = more (dn ++ [e']) (Od.resAll s.data.toList σ1.names (strL xs) (ns.drop (i + 1)) (es.drop (i + 1)) ((strL xs).take (i + 1)))) := ⟨by
          rw [HRB.out, HTN.out]
          simp only [Bool.false_eq_true, if_false]
          cases Od.resAll s.data.toList σ1.names (strL xs) (ns.drop (i + 1)) (es.drop (i + 1)) ((strL xs).take i ++ [X.data.toList]) with
          | ok r => simp [more]
          | err o c => rfl⟩
         have HSN6 : Aside (SumsN W.heap.size w5 (.slice (some ⟨g5, 0, none⟩) N c5) us ((dn ++ [e']) ++ (es.drop (i + 1)).map flat)) := ⟨by
          have := HSN5.out
          rw [List.set_append, if_neg (by have := HI.out.2.2.1; omega), HI.out.2.2.1, Nat.sub_self, HDE.out, List.map_cons] at this
          simpa using this⟩
         go_wp2_with fail
         obtain ⟨go, hgo⟩ : ∃ go, gk = go + 1 := ⟨gk - 1, by have := HI.out; omega⟩
         have HI2 : Aside (i + 1 ≤ N ∧ N - (i + 1) ≤ go ∧ (dn ++ [e']).length = i + 1 ∧ ∀ e ∈ dn ++ [e'], e.length ≤ 8000) := ⟨by
          have h1 := HI.out
          refine ⟨by omega, by omega, by simp [h1.2.2.1], fun e he => ?_⟩
          rcases List.mem_append.1 he with he | he
          ·exact h1.2.2.2 e he
          ·obtain rfl := List.mem_singleton.1 he
           have h2 := HRL.out
           have h3 := HNE.out.2.1
           omega⟩
         go_roundg go
         case measure => omega
         case rel => exact ⟨i + 1, dn ++ [e'], rfl, HI2, HRC, HSN6, HFN5⟩
      ·have hi' : ¬ ((i : Int) < (N : Int)) := by omega
       have hin : i = N := by have := HI.out; omega
       have hdd : dn.length = N := by have := HI.out.2.2.1; omega
       have HRC : Aside (Od.resAll s.data.toList σ1.names (strL xs) ns es [] = .ok dn) := ⟨by
        rw [HRA.out, List.drop_of_length_le (by rw [HNN.out.1]; omega)]
        simp [more, Od.resAll]⟩
       have HPE3 : Aside (Od.parseSys s.data.toList = if !σ1.bad && okSys (strL xs) dn then .ok (strL xs, dn) else .err 0 2) := ⟨by rw [HPE2.out, HRC.out]⟩
       have HSN4 : Aside (SumsN W.heap.size wr (.slice (some ⟨g5, 0, none⟩) N c5) us dn) := ⟨by
        have := HSN.out
        rw [List.drop_of_length_le (by rw [HNN.out.2.2.2.1]; omega)] at this
        simpa using this⟩
       have HFS := Aside.mk (HSN4.out.fs (by have := HNN.out.2.2.1; omega) (fun e he => by have := HI.out.2.2.2 e he; omega))
       have hal : Below wr.heap.size wr (wr.alloc (.cells #[.slice (some ⟨gn, 0, none⟩) N cn, .slice (some ⟨g5, 0, none⟩) N c5] 25)) := (Below.refl _ _).alloc (Nat.le_refl _) _
       have hrt := heap_alloc_last wr (.cells #[.slice (some ⟨gn, 0, none⟩) N cn, .slice (some ⟨g5, 0, none⟩) N c5] 25)
       have s0 : (wr.alloc (.cells #[.slice (some ⟨gn, 0, none⟩) N cn, .slice (some ⟨g5, 0, none⟩) N c5] 25)).cell? ⟨wr.heap.size, 0, none⟩ = some (.slice (some ⟨gn, 0, none⟩) N cn) := by rw [cell_of_row _ _ 0 _ _ _ hrt]; rfl
       have s1 : (wr.alloc (.cells #[.slice (some ⟨gn, 0, none⟩) N cn, .slice (some ⟨g5, 0, none⟩) N c5] 25)).cell? ⟨wr.heap.size, 1, none⟩ = some (.slice (some ⟨g5, 0, none⟩) N c5) := by rw [cell_of_row _ _ 1 _ _ _ hrt]; rfl
       have HP3 := Aside.mk (HP2.out.below hal)
       have HRT := Aside.mk hrt
       have HAL := Aside.mk hal
       obtain ⟨-, -, c4, hlg, -, -, -⟩ := HP3.out.cells
       obtain ⟨bd, hbd⟩ : ∃ b, σ1.bad = b := ⟨_, rfl⟩
       rw [hbd] at c4 HPE3
       have hlg2 : g0 + 1 + 1 + 1 < wr.heap.size := lt_of HP2.out.here.choose_spec.1
       have c4' : wr.cell? ⟨g0 + 1 + 1 + 1, 4, none⟩ = some (.bool bd) := by rw [← hbd]; exact HP2.out.cells.2.2.1
       clear hbd hal hrt HSN HRA
       have HR0 := Aside.mk ((HAL.out.block _ (lt_of HR0.out)).trans HR0.out)
       have HR1 := Aside.mk ((HAL.out.block _ (lt_of HR1.out)).trans HR1.out)
       have HR2 := Aside.mk ((HAL.out.block _ (lt_of HR2.out)).trans HR2.out)
       have HBL4 := Aside.mk (HBL2.out.trans (HAL.out.mono (by have h1 := lt_of HRW1.out; have h2 := HBW.out.size; have h3 := HFN2s.out; omega)))
       have HST4 := Aside.mk (HST.out.below HAL.out)
       have HFS4 := Aside.mk (HFS.out.below HAL.out)
       have HSN5 := Aside.mk (HSN4.out.below HAL.out)
       have HOR5 := Aside.mk (owns_below HOR.out HAL.out)
       clear HBL2 HAL HFS HST
       cases bd with
       | true =>
        have HA : Aside (Od.parseSys s.data.toList = .err 0 2) := ⟨by rw [HPE3.out]; rfl⟩
        have c0 : (wr.alloc (.cells #[.slice (some ⟨gn, 0, none⟩) N cn, .slice (some ⟨g5, 0, none⟩) N c5] 25)).cell? ⟨g0, 0, none⟩ = some (.slice none 0 0) := by rw [cell_of_row _ _ 0 _ _ _ HR0.out]; rfl
        have c0' : (wr.alloc (.cells #[.slice (some ⟨gn, 0, none⟩) N cn, .slice (some ⟨g5, 0, none⟩) N c5] 25)).cell? ⟨g0, 1, none⟩ = some (.slice none 0 0) := by rw [cell_of_row _ _ 1 _ _ _ HR0.out]; rfl
        have c1 : (wr.alloc (.cells #[.slice (some ⟨gn, 0, none⟩) N cn, .slice (some ⟨g5, 0, none⟩) N c5] 25)).cell? ⟨g0 + 1, 0, none⟩ = some (.int .i64 0) := by rw [cell_of_row _ _ 0 _ _ _ HR1.out]; rfl
        have c2 : (wr.alloc (.cells #[.slice (some ⟨gn, 0, none⟩) N cn, .slice (some ⟨g5, 0, none⟩) N c5] 25)).cell? ⟨g0 + 1 + 1, 0, none⟩ = some (.int .i64 0) := by rw [cell_of_row _ _ 0 _ _ _ HR2.out]; rfl
        have f0 : (wr.alloc (.cells #[.slice (some ⟨gn, 0, none⟩) N cn, .slice (some ⟨g5, 0, none⟩) N c5] 25)).frozen? ⟨g0, 0, none⟩ = false := by simp [World.frozen?, HR0.out]
        have f0' : (wr.alloc (.cells #[.slice (some ⟨gn, 0, none⟩) N cn, .slice (some ⟨g5, 0, none⟩) N c5] 25)).frozen? ⟨g0, 1, none⟩ = false := by simp [World.frozen?, HR0.out]
        have f1 : (wr.alloc (.cells #[.slice (some ⟨gn, 0, none⟩) N cn, .slice (some ⟨g5, 0, none⟩) N c5] 25)).frozen? ⟨g0 + 1, 0, none⟩ = false := by simp [World.frozen?, HR1.out]
        have f2 : (wr.alloc (.cells #[.slice (some ⟨gn, 0, none⟩) N cn, .slice (some ⟨g5, 0, none⟩) N c5] 25)).frozen? ⟨g0 + 1 + 1, 0, none⟩ = false := by simp [World.frozen?, HR2.out]
        go_wp2_with fail
        have st := three_set HR0.out HR1.out HR2.out (.slice none 0 0) (.slice none 0 0) (.int .i64 0) (.int .i64 2)
        generalize ((((wr.alloc (.cells #[.slice (some ⟨gn, 0, none⟩) N cn, .slice (some ⟨g5, 0, none⟩) N c5] 25)).setCell ⟨g0, 0, none⟩ (.slice none 0 0)).setCell ⟨g0, 1, none⟩ (.slice none 0 0)).setCell ⟨g0 + 1, 0, none⟩ (.int .i64 0)).setCell ⟨g0 + 1 + 1, 0, none⟩ (.int .i64 2) = Z at st ⊢
        obtain ⟨z0, z1, z2, zb, zk⟩ := st
        refine leaves_cons (f := 83) (args := #[.pointer (some ⟨g0 + 1, 0, none⟩), .pointer (some ⟨g0 + 1 + 1, 0, none⟩)]) (by simp) (by simp [go_sem]) ?_
        refine (HCL.out.1 (Z)).mono ?_
        rintro e u' w'' ⟨rfl, rfl, hb2⟩
        have y0 := (hb2.block g0 (lt_of z0)).trans z0
        have y1 := (hb2.block (g0 + 1) (lt_of z1)).trans z1
        have y2 := (hb2.block (g0 + 1 + 1) (lt_of z2)).trans z2
        have e0 : w''.cell? ⟨g0, 0, none⟩ = some (.slice none 0 0) := by rw [cell_of_row _ _ 0 _ _ _ y0]; rfl
        have e0' : w''.cell? ⟨g0, 1, none⟩ = some (.slice none 0 0) := by rw [cell_of_row _ _ 1 _ _ _ y0]; rfl
        have e1 : w''.cell? ⟨g0 + 1, 0, none⟩ = some (.int .i64 0) := by rw [cell_of_row _ _ 0 _ _ _ y1]; rfl
        have e2 : w''.cell? ⟨g0 + 1 + 1, 0, none⟩ = some (.int .i64 2) := by rw [cell_of_row _ _ 0 _ _ _ y2]; rfl
        simp [Leaves, settle, results, Tryz.results31, go_sem, e0, e0', e1, e2]
        refine ⟨hg0 ▸ (HBL4.out.trans (zb.trans (hb2.mono (Nat.le_of_lt (lt_of z0))))), ?_⟩
        rw [HA.out]
        rfl
       | false =>
        go_wp2_with fail
        refine (Valid_any _ _ xs dn _ HST4.out HFS4.out).mono ?_
        rintro e w6 ⟨rfl, hb6⟩
        have s0 : w6.cell? ⟨wr.heap.size, 0, none⟩ = some (.slice (some ⟨gn, 0, none⟩) N cn) := by rw [hb6.cell (p := ⟨wr.heap.size, 0, none⟩) (lt_of HRT.out)]; exact s0
        have s1 : w6.cell? ⟨wr.heap.size, 1, none⟩ = some (.slice (some ⟨g5, 0, none⟩) N c5) := by rw [hb6.cell (p := ⟨wr.heap.size, 1, none⟩) (lt_of HRT.out)]; exact s1
        have HBL6 := Aside.mk (HBL4.out.trans (hb6.mono (Nat.le_of_lt (lt_of HR0.out))))
        have HR0 := Aside.mk ((hb6.block _ (lt_of HR0.out)).trans HR0.out)
        have HR1 := Aside.mk ((hb6.block _ (lt_of HR1.out)).trans HR1.out)
        have HR2 := Aside.mk ((hb6.block _ (lt_of HR2.out)).trans HR2.out)
        have HSN6 := Aside.mk (HSN5.out.below hb6)
        have HOR6 := Aside.mk (owns_below HOR5.out hb6)
        obtain ⟨q, hq⟩ : ∃ q, okSys (strL xs) dn = q := ⟨_, rfl⟩
        rw [hq] at HPE3 ⊢
        clear hq hb6 c4 c4' hlg hlg2
        have c0 : w6.cell? ⟨g0, 0, none⟩ = some (.slice none 0 0) := by rw [cell_of_row _ _ 0 _ _ _ HR0.out]; rfl
        have c0' : w6.cell? ⟨g0, 1, none⟩ = some (.slice none 0 0) := by rw [cell_of_row _ _ 1 _ _ _ HR0.out]; rfl
        have c1 : w6.cell? ⟨g0 + 1, 0, none⟩ = some (.int .i64 0) := by rw [cell_of_row _ _ 0 _ _ _ HR1.out]; rfl
        have c2 : w6.cell? ⟨g0 + 1 + 1, 0, none⟩ = some (.int .i64 0) := by rw [cell_of_row _ _ 0 _ _ _ HR2.out]; rfl
        have f0 : w6.frozen? ⟨g0, 0, none⟩ = false := by simp [World.frozen?, HR0.out]
        have f0' : w6.frozen? ⟨g0, 1, none⟩ = false := by simp [World.frozen?, HR0.out]
        have f1 : w6.frozen? ⟨g0 + 1, 0, none⟩ = false := by simp [World.frozen?, HR1.out]
        have f2 : w6.frozen? ⟨g0 + 1 + 1, 0, none⟩ = false := by simp [World.frozen?, HR2.out]
        cases q with
        | true =>
         have HA : Aside (Od.parseSys s.data.toList = .ok (strL xs, dn)) := ⟨by rw [HPE3.out]; rfl⟩
         go_wp2_with fail
         have st := three_set HR0.out HR1.out HR2.out (.slice (some ⟨gn, 0, none⟩) N cn) (.slice (some ⟨g5, 0, none⟩) N c5) (.int .i64 0) (.int .i64 0)
         generalize (((w6.setCell ⟨g0, 0, none⟩ (.slice (some ⟨gn, 0, none⟩) N cn)).setCell ⟨g0, 1, none⟩ (.slice (some ⟨g5, 0, none⟩) N c5)).setCell ⟨g0 + 1, 0, none⟩ (.int .i64 0)).setCell ⟨g0 + 1 + 1, 0, none⟩ (.int .i64 0) = Z at st ⊢
         obtain ⟨z0, z1, z2, zb, zk⟩ := st
         have zkk : ∀ k, W.heap.size ≤ k → Z.heap[k]? = w6.heap[k]? := fun k hk => by
          have h1 := lt_of HRW2.out
          exact zk k (by omega) (by omega) (by omega)
         have zst : Strs Z (.slice (some ⟨gn, 0, none⟩) N cn) xs := strs_row (owns_keep HOR6.out fun k hk => zkk k (Nat.le_trans HWS1.out hk)) (by rw [HXL.out]; have := HNN.out.2.2.1; omega)
         have zfs : Fs Z (.slice (some ⟨g5, 0, none⟩) N c5) dn := (HSN6.out.keep zkk).fs (by have := HNN.out.2.2.1; omega) (fun e he => by have := HI.out.2.2.2 e he; omega)
         refine leaves_cons (f := 83) (args := #[.pointer (some ⟨g0 + 1, 0, none⟩), .pointer (some ⟨g0 + 1 + 1, 0, none⟩)]) (by simp) (by simp [go_sem]) ?_
         refine (HCL.out.1 (Z)).mono ?_
         rintro e u' w'' ⟨rfl, rfl, hb2⟩
         have y0 := (hb2.block g0 (lt_of z0)).trans z0
         have y1 := (hb2.block (g0 + 1) (lt_of z1)).trans z1
         have y2 := (hb2.block (g0 + 1 + 1) (lt_of z2)).trans z2
         have e0 : w''.cell? ⟨g0, 0, none⟩ = some (.slice (some ⟨gn, 0, none⟩) N cn) := by rw [cell_of_row _ _ 0 _ _ _ y0]; rfl
         have e0' : w''.cell? ⟨g0, 1, none⟩ = some (.slice (some ⟨g5, 0, none⟩) N c5) := by rw [cell_of_row _ _ 1 _ _ _ y0]; rfl
         have e1 : w''.cell? ⟨g0 + 1, 0, none⟩ = some (.int .i64 0) := by rw [cell_of_row _ _ 0 _ _ _ y1]; rfl
         have e2 : w''.cell? ⟨g0 + 1 + 1, 0, none⟩ = some (.int .i64 0) := by rw [cell_of_row _ _ 0 _ _ _ y2]; rfl
         simp [Leaves, settle, results, Tryz.results31, go_sem, e0, e0', e1, e2]
         refine ⟨hg0 ▸ (HBL6.out.trans (zb.trans (hb2.mono (Nat.le_of_lt (lt_of z0))))), ?_⟩
         rw [HA.out]
         exact ⟨_, _, xs, rfl, rfl, zst.below hb2, zfs.below hb2⟩
        | false =>
         have HA : Aside (Od.parseSys s.data.toList = .err 0 2) := ⟨by rw [HPE3.out]; rfl⟩
         go_wp2_with fail
         have st := three_set HR0.out HR1.out HR2.out (.slice none 0 0) (.slice none 0 0) (.int .i64 0) (.int .i64 2)
         generalize (((w6.setCell ⟨g0, 0, none⟩ (.slice none 0 0)).setCell ⟨g0, 1, none⟩ (.slice none 0 0)).setCell ⟨g0 + 1, 0, none⟩ (.int .i64 0)).setCell ⟨g0 + 1 + 1, 0, none⟩ (.int .i64 2) = Z at st ⊢
         obtain ⟨z0, z1, z2, zb, zk⟩ := st
         refine leaves_cons (f := 83) (args := #[.pointer (some ⟨g0 + 1, 0, none⟩), .pointer (some ⟨g0 + 1 + 1, 0, none⟩)]) (by simp) (by simp [go_sem]) ?_
         refine (HCL.out.1 (Z)).mono ?_
         rintro e u' w'' ⟨rfl, rfl, hb2⟩
         have y0 := (hb2.block g0 (lt_of z0)).trans z0
         have y1 := (hb2.block (g0 + 1) (lt_of z1)).trans z1
         have y2 := (hb2.block (g0 + 1 + 1) (lt_of z2)).trans z2
         have e0 : w''.cell? ⟨g0, 0, none⟩ = some (.slice none 0 0) := by rw [cell_of_row _ _ 0 _ _ _ y0]; rfl
         have e0' : w''.cell? ⟨g0, 1, none⟩ = some (.slice none 0 0) := by rw [cell_of_row _ _ 1 _ _ _ y0]; rfl
         have e1 : w''.cell? ⟨g0 + 1, 0, none⟩ = some (.int .i64 0) := by rw [cell_of_row _ _ 0 _ _ _ y1]; rfl
         have e2 : w''.cell? ⟨g0 + 1 + 1, 0, none⟩ = some (.int .i64 2) := by rw [cell_of_row _ _ 0 _ _ _ y2]; rfl
         simp [Leaves, settle, results, Tryz.results31, go_sem, e0, e0', e1, e2]
         refine ⟨hg0 ▸ (HBL6.out.trans (zb.trans (hb2.mono (Nat.le_of_lt (lt_of z0))))), ?_⟩
         rw [HA.out]
         rfl
 ·have h8' : (8000 : Int) < (s.size : Int) := by omega
  have HA : Aside (Od.parseSys s.data.toList = .err 0 2) := ⟨by unfold Od.parseSys; rw [if_pos (by omega)]⟩
  go_enter_defers Tryz.func31, Tryz.ntmps31
  go_wp2_with fail
  simp [bodyPostD, Leaves, settle, results, Tryz.results31, go_sem]
  refine ⟨(((Below.refl _ _).alloc (Nat.le_refl _) _).alloc (by simp) _).alloc (by simp only [World.size_alloc]; omega) _, ?_⟩
  rw [HA.out]
  rfl
end Go.Proofs.YthcidkidpiaomaaGreatDoor.Od
end
section
set_option linter.unusedVariables false
set_option linter.unusedSimpArgs false
namespace Go.Proofs.YthcidkidpiaomaaGreatDoor.Od
open Go.RowKit Rg
def kids : Tr → List Tr
  | .un _ a => [a]
  | .bin _ a b => [a, b]
  | _ => []
def hdN : Tr → Nd
  | .num lo hi => ⟨1, 0, lo, hi⟩
  | .var n => ⟨2, n, 0, 0⟩
  | .time => ⟨3, 0, 0, 0⟩
  | .un op _ => ⟨op, 0, 0, 0⟩
  | .bin op _ _ => ⟨op, 0, 0, 0⟩
theorem flat_kids (t : Tr) : flat t = hdN t :: (kids t).flatMap flat := by cases t <;> simp [flat, hdN, kids]
theorem kids_arity {vars : List (List UInt8)} {t : Tr} (h : okT vars t) : arity (hdN t).op = (kids t).length := by
  cases t with
  | num lo hi => rfl
  | var n => rfl
  | time => rfl
  | un op a => obtain ⟨hop, -⟩ := h; unfold arity hdN; simp only; rw [if_neg (by omega), if_pos hop]; rfl
  | bin op a b => obtain ⟨hop, -⟩ := h; unfold arity hdN; simp only; rw [if_neg (by omega), if_neg (by omega), if_pos hop]; rfl
theorem kids_ok {vars : List (List UInt8)} {t : Tr} (h : okT vars t) : ∀ k ∈ kids t, okT vars k := by
  cases t with
  | num lo hi => intro k hk; cases hk
  | var n => intro k hk; cases hk
  | time => intro k hk; cases hk
  | un op a => intro k hk; obtain rfl := List.mem_singleton.1 hk; exact h.2
  | bin op a b =>
    intro k hk
    rcases List.mem_cons.1 hk with rfl | hk
    · exact h.2.1
    · obtain rfl := List.mem_singleton.1 hk; exact h.2.2
def stK (ks : List Tr) (i : Nat) : Nat := 1 + ((ks.take i).map fun k => (flat k).length).sum
theorem stK_succ {ks : List Tr} {i : Nat} {k : Tr} (h : ks[i]? = some k) : stK ks (i + 1) = stK ks i + (flat k).length := by
  unfold stK
  rw [List.take_add_one, h]
  simp; omega
theorem stK_drop (x : Nd) : ∀ (ks : List Tr) (i : Nat), (x :: ks.flatMap flat).drop (stK ks i) = (ks.drop i).flatMap flat
  | ks, 0 => by simp [stK]
  | [], i + 1 => by simp [stK]
  | k :: ks, i + 1 => by
    have ih := stK_drop x ks i
    have e : stK (k :: ks) (i + 1) = (flat k).length + stK ks i := by unfold stK; simp; omega
    have e2 : (x :: (k :: ks).flatMap flat).drop ((flat k).length + stK ks i) = (x :: ks.flatMap flat).drop (stK ks i) := by
      have h1 : 1 ≤ stK ks i := by unfold stK; omega
      obtain ⟨m, hm⟩ : ∃ m, stK ks i = m + 1 := ⟨stK ks i - 1, by omega⟩
      rw [hm, show (flat k).length + (m + 1) = ((flat k).length + m) + 1 by omega, List.drop_succ_cons, List.drop_succ_cons, List.flatMap_cons, ← List.drop_drop, List.drop_left]
    rw [e, e2, ih, List.drop_succ_cons]
theorem stK_le (ks : List Tr) (i : Nat) (hi : i ≤ ks.length) : stK ks i ≤ 1 + (ks.flatMap flat).length := by
  have h := congrArg List.length (stK_drop ⟨0, 0, 0, 0⟩ ks i)
  rw [List.length_drop, List.length_cons] at h
  unfold stK at *
  have h2 : ((ks.take i).map fun k => (flat k).length).sum ≤ (ks.flatMap flat).length := by
    conv => rhs; rw [← List.take_append_drop i ks, List.flatMap_append, List.length_append]
    rw [List.length_flatMap]; omega
  omega
theorem RdN.tail {w : World} {b o c n : Nat} {e : List Nd} (hc : ∀ j u, (nds e)[j]? = some u → w.cell? ⟨b, o + j, none⟩ = some u) (hn : e.length = n) (hnc : n ≤ c) (hf : n ≤ 9000) (st m c' : Nat) (hst : st + m ≤ n) (hc' : m ≤ c') :
    RdN w (.slice (some ⟨b, o + st * 4, none⟩) m c') ((e.drop st).take m) := by
  have hl : ((e.drop st).take m).length = m := by rw [List.length_take, List.length_drop]; omega
  refine ⟨Or.inr ⟨b, o + st * 4, c', by rw [hl], by rw [hl]; exact hc', fun j u hu => ?_⟩, by omega⟩
  have hj : j < m * 4 := by have := (List.getElem?_eq_some_iff.1 hu).1; rw [nds_len, hl] at this; exact this
  have hq : (e.drop st).take m = (e.drop st).take m := rfl
  obtain ⟨i, r, hr, hjr⟩ : ∃ i r, r < 4 ∧ j = i * 4 + r := ⟨j / 4, j % 4, Nat.mod_lt _ (by decide), by omega⟩
  have him : i < m := by omega
  obtain ⟨x, hx⟩ : ∃ x, ((e.drop st).take m)[i]? = some x := ⟨_, List.getElem?_eq_getElem (by omega)⟩
  have hx2 : e[st + i]? = some x := by rw [List.getElem?_take_of_lt him, List.getElem?_drop] at hx; exact hx
  rw [hjr, nds_get _ i x r hx hr] at hu
  have := hc ((st + i) * 4 + r) u (by rw [nds_get e (st + i) x r hx2 hr]; exact hu)
  rw [show o + st * 4 + j = o + ((st + i) * 4 + r) by omega]; exact this
theorem wpList_append_sl (w : World) {ops : Array Oper} {rest : List Oper} {o : Oper} {a : Act} {Q : Exit → Act → World → Prop} (hg : o.guard = none) (p x : Operand) (hop : o.op = Op.call { callee := Callee.builtin Builtin.append, args := #[p, x], argTypes := #[23, 23] })
    (base : Nat) (v : Value) (us : List Value) (n : Nat) (hn : us.length = n) (hs : a.eval p = v) (h : w.ownsRow base 26 1 v n us) (ao : Option Addr) (l c : Nat) (gk : Nat) (hx : a.eval x = .slice (some ⟨gk, 0, none⟩) 1 1)
    (hr : w.heap[gk]? = some (.cells #[.slice ao l c] 26 (0, 0))) (hbd : n ≤ 9000) (hbase : base ≤ w.heap.size)
    (hK : ∀ ao2 cap w', w'.ownsRow base 26 1 (.slice ao2 (n + 1) cap) (n + 1) (us ++ [.slice ao l c]) → Below base w w' → wpList Tryz.prog ops Q rest (a.put o.dst (.slice ao2 (n + 1) cap)) w') :
    wpList Tryz.prog ops Q (o :: rest) a w := by
  subst hn
  obtain ⟨i0, hi, hz0, hz1, hz2⟩ := info_parts' info_sums
  have hcell : ∀ (j : Nat) (u : Value), [Value.slice ao l c][j]? = some u → w.cell? ((⟨gk, 0, none⟩ : Addr).add j) = some u := by
    intro j u hu
    cases j with
    | zero =>
      obtain rfl := Option.some.inj hu
      have := cell_of_row w gk 0 _ _ _ hr
      simpa [Addr.add] using this
    | succ j => cases hu
  have hone : ∀ u ∈ [Value.slice ao l c], u.oneCell' = true := by
    intro u hu
    obtain rfl := List.mem_singleton.1 hu
    rfl
  refine wpList_append_own_at w hg p x _ hop base 26 i0 _ 1 24 Tryz.underlying23 hi hz0 hz1 hz2 rfl (by omega) v us.length _ hs h ⟨gk, 0, none⟩ 1 1 [Value.slice ao l c] hx rfl hcell hone (by simp only [maxLen]; omega) (by omega) hbase ?_
  intro v' w' hown' hgr _ hat
  have hv : ∃ ao cap, v' = .slice ao (us.length + 1) cap := by
    obtain ⟨-, h2⟩ := hown'
    rcases h2 with ⟨rfl, hn⟩ | ⟨g', cap, cur, rfl, -⟩
    · omega
    · exact ⟨_, _, rfl⟩
  obtain ⟨ao2, cap, rfl⟩ := hv
  exact hK ao2 cap w' (by simpa using hown') ((Below.refl base w).grown hgr hbase (fun k hk => (World.ownsRow.lt h k hk).1))
end Go.Proofs.YthcidkidpiaomaaGreatDoor.Od
end
section
set_option linter.unusedVariables false
set_option linter.unusedSimpArgs false
namespace Go.Proofs.YthcidkidpiaomaaGreatDoor.Od
open Go.RowKit Rg
def opV (b o : Nat) (ks : List Tr) (j : Nat) : Value := .slice (some ⟨b, o + stK ks j * 4, none⟩) ((ks[j]?.map fun k => (flat k).length).getD 0) ((ks[j]?.map fun k => (flat k).length).getD 0)
set_option maxRecDepth 100000 in
set_option maxHeartbeats 8000000 in
theorem Operands_any {vars : List (List UInt8)} (t : Tr) (hok : okT vars t) (v : Value) (w : World) (h : RdN w v (flat t)) :
    Calls Tryz.prog 22 #[v] w fun e' w' => ∃ vo, e' = .returned vo ∧ Fs w' vo ((kids t).map flat) ∧ Below w.heap.size w w' := by
  have hfew := h.few
  have hnl : (flat t).length = 1 + ((kids t).flatMap flat).length := by rw [flat_kids, List.length_cons]; omega
  rcases h.out with ⟨h0, -⟩ | ⟨b, o, c, rfl, hcp, hc⟩
  · exact absurd h0 (flat_ne t)
  · obtain ⟨n, hn⟩ : ∃ n, (flat t).length = n := ⟨_, rfl⟩
    rw [hn] at hfew hcp hnl ⊢
    have HC := Aside.mk hc
    have HNN := Aside.mk hn
    have HK := Aside.mk (And.intro hnl (And.intro hcp hfew))
    have HAR := Aside.mk (kids_arity hok)
    have HKO := Aside.mk (kids_ok hok)
    have hk2 : (kids t).length ≤ 2 := by cases t <;> simp [kids]
    obtain ⟨ks, hks⟩ : ∃ ks, kids t = ks := ⟨_, rfl⟩
    have HFL : Aside (flat t = hdN t :: ks.flatMap flat) := ⟨by rw [flat_kids, hks]⟩
    rw [hks] at HK HAR HKO hk2 ⊢
    have hx0 : (flat t)[0]? = some (hdN t) := by rw [flat_kids]; rfl
    have c0 : w.cell? ⟨b, o, none⟩ = some (.int .i64 (hdN t).op) := hc 0 _ (by have := nds_get (flat t) 0 _ 0 hx0 (by decide); exact this)
    have c1 : w.cell? ⟨b, o + 1, none⟩ = some (.int .i64 (hdN t).n) := hc 1 _ (by have := nds_get (flat t) 0 _ 1 hx0 (by decide); exact this)
    have hnpos : (0 : Int) < (n : Int) := by omega
    obtain ⟨M, hM⟩ : ∃ M, ks.length = M := ⟨_, rfl⟩
    rw [hM] at HAR hk2
    have HM := Aside.mk hM
    have HK2 := Aside.mk hk2
    have HAB : Aside (Below w.heap.size w w) := ⟨Below.refl _ _⟩
    clear hks hx0 hc h hn hM hnl
    go_enter Tryz.func22, Tryz.ntmps22
    go_wp2_with fail
    refine (arity_any _ w).mono ?_
    rintro e' w1 ⟨rfl, hw1⟩
    have hw1' := hw1.symm
    subst hw1'
    rw [HAR.out]
    go_wp2_with fail
    go_loopg [3, 4, 11] M (fun m v3 v4 v11 wr => ∃ (i : Nat) (us : List Value), v11 = .int .i64 (i : Nat) ∧ v4 = .int .i64 (stK ks i : Nat) ∧ Aside (i ≤ M ∧ M - i ≤ m ∧ us.length = i) ∧ Aside (∀ j, j < i → us[j]? = some (opV b o ks j)) ∧ Aside (wr.ownsRow w.heap.size 26 1 v3 i us) ∧ Aside (Below w.heap.size w wr))
    case atStart => exact ⟨0, [], rfl, rfl, ⟨by simp⟩, ⟨fun j hj => by omega⟩, ⟨⟨rfl, Or.inl ⟨rfl, rfl⟩⟩⟩, HAB⟩
    case round =>
      obtain ⟨i, us, rfl, rfl, HI, HU, HO, HB⟩ := hrel
      by_cases hi : i < M
      · have hi' : (i : Int) < (M : Int) := by omega
        obtain ⟨k, hk⟩ : ∃ k, ks[i]? = some k := ⟨_, List.getElem?_eq_getElem (by rw [HM.out]; exact hi)⟩
        have hss := stK_succ hk
        have hle2 := stK_le ks (i + 1) (by rw [HM.out]; omega)
        have hnl := HK.out.1
        obtain ⟨st, hst⟩ : ∃ st, stK ks i = st := ⟨_, rfl⟩
        obtain ⟨l, hl⟩ : ∃ l, (flat k).length = l := ⟨_, rfl⟩
        have hcw : ∀ j u, (nds (flat t))[j]? = some u → wr.cell? ⟨b, o + j, none⟩ = some u := fun j u hu => by
          have := HC.out j u hu
          rw [HB.out.cell (p := ⟨b, o + j, none⟩) (World.block_lt_of_cell? w _ this)]; exact this
        have hdrop : (flat t).drop st = flat k ++ (ks.drop (i + 1)).flatMap flat := by
          rw [HFL.out, ← hst, stK_drop]
          obtain ⟨hlk, rfl⟩ := List.getElem?_eq_some_iff.1 hk
          rw [List.drop_eq_getElem_cons hlk, List.flatMap_cons]
        rw [hst, hl] at hss
        rw [hss] at hle2
        have hstn : st + l ≤ n := by omega
        have hrd : RdN wr (.slice (some ⟨b, o + st * 4, none⟩) (n - st) (c - st)) (((flat t).drop st).take (n - st)) := RdN.tail hcw HNN.out HK.out.2.1 HK.out.2.2 st (n - st) (c - st) (by omega) (by have := HK.out.2.1; omega)
        rw [List.take_of_length_le (by rw [List.length_drop, HNN.out]; omega)] at hrd
        have HRD := Aside.mk hrd
        have HEL : Aside (exLen 1 ((flat t).drop st) = l) := ⟨by rw [hdrop, exLen_flat k (HKO.out k (List.mem_of_getElem? hk)) 1 _ (by omega), if_pos rfl, hl]⟩
        have HKK := Aside.mk hk
        have HST := Aside.mk (And.intro hst (And.intro hl hss))
        have hstn' : (st : Int) ≤ (n : Int) := by omega
        have hstc' : (st : Int) ≤ (c : Int) := by have := HK.out.2.1; omega
        have hl1 := flat_pos k
        have hcne : ¬ c = st := by have := HK.out.2.1; omega
        have hcne' : ¬ st = c := by omega
        have hcne2 : ¬ ((st : Int) = (c : Int)) := by omega
        have hcne3 : ¬ (c - st = 0) := by omega
        rw [hst]
        clear hk hss hle2 hst hl hcw hdrop hrd hnl hl1
        go_wp2_with fail
        refine (exprLen_any _ _ wr HRD.out).mono ?_
        rintro e' w2 ⟨rfl, hb2⟩
        rw [HEL.out]
        have HB2 := Aside.mk (HB.out.trans (hb2.mono HB.out.size))
        have HO2 := Aside.mk (owns_below HO.out hb2)
        obtain ⟨en, hen⟩ : ∃ en, st + l = en := ⟨_, rfl⟩
        have hws : IntKind.i64.wrap ((st : Int) + (l : Int)) = (en : Int) := by rw [IntWalk.i64_in _ (by have := HK.out.2.2; omega)]; omega
        have hse : (st : Int) ≤ (en : Int) := by omega
        have hec : (en : Int) ≤ (c : Int) := by have := HK.out.2.1; omega
        have hse2 : st ≤ en := by omega
        have hlen : en - st = l := by omega
        have hlne : ¬ en = st := by have := flat_pos k; have := HST.out.2.1; omega
        have hlne2 : ¬ st = en := by omega
        have hlne3 : ¬ (en - st = 0) := by omega
        have hal : Below w2.heap.size w2 (w2.alloc (.cells #[.slice (some ⟨b, o + st * 4, none⟩) (en - st) (en - st)] 26)) := (Below.refl _ _).alloc (Nat.le_refl _) _
        have HRK : Aside ((w2.alloc (.cells #[.slice (some ⟨b, o + st * 4, none⟩) (en - st) (en - st)] 26)).heap[w2.heap.size]? = some (.cells #[.slice (some ⟨b, o + st * 4, none⟩) (en - st) (en - st)] 26 (0, 0))) := ⟨heap_alloc_last _ _⟩
        have HO3 := Aside.mk (owns_below HO2.out hal)
        have HB3 := Aside.mk (HB2.out.trans (hal.mono HB2.out.size))
        have HEN := Aside.mk (And.intro hen hlen)
        clear hb2 hal hen hlen
        go_wp2_with (first | (at_builtin; refine wpList_append_sl _ rfl (.tmp 19) (.tmp 25) rfl w.heap.size _ us i HI.out.2.2 rfl HO3.out _ _ _ _ rfl HRK.out (by have := HI.out; omega) HB3.out.size ?_; intro ao cap w4 ho4 hb4))
        obtain ⟨go, hgo⟩ : ∃ go, gk = go + 1 := ⟨gk - 1, by have := HI.out; omega⟩
        have HU4 : Aside (∀ j, j < i + 1 → (us ++ [.slice (some ⟨b, o + st * 4, none⟩) (en - st) (en - st)])[j]? = some (opV b o ks j)) := ⟨fun j hj => by
          have hul := HI.out.2.2
          by_cases hji : j < i
          · rw [List.getElem?_append_left (by omega)]; exact HU.out j hji
          · have hje : j = i := by omega
            subst hje
            rw [List.getElem?_append_right (by omega), hul, Nat.sub_self]
            unfold opV
            rw [HKK.out, HST.out.1]
            simp only [Option.map_some, Option.getD_some, HST.out.2.1, HEN.out.2]
            rfl⟩
        have HO4 := Aside.mk ho4
        have HB4 := Aside.mk (HB3.out.trans hb4)
        have hst2 : (en : Int) = (stK ks (i + 1) : Nat) := by have := HST.out.2.2; have := HEN.out.1; omega
        rw [hst2]
        clear ho4 hb4 hst2
        go_roundg go
        case measure => omega
        case rel => exact ⟨i + 1, us ++ [_], rfl, rfl, ⟨by have := HI.out; simp; omega⟩, HU4, HO4, HB4⟩
      · have hi' : ¬ ((i : Int) < (M : Int)) := by omega
        go_wp2_with fail
        go_ret
        refine ⟨_, rfl, ?_, HB.out⟩
        have hin : i = M := by have := HI.out; omega
        subst hin
        have hul : us.length = ks.length := by rw [HI.out.2.2, HM.out]
        have hcw : ∀ j u, (nds (flat t))[j]? = some u → wr.cell? ⟨b, o + j, none⟩ = some u := fun j u hu => by
          have := HC.out j u hu
          rw [HB.out.cell (p := ⟨b, o + j, none⟩) (World.block_lt_of_cell? w _ this)]; exact this
        have hrow := HO.out
        rcases hrow.2 with ⟨hv, h0⟩ | ⟨g, cap, cur, hv, hg, hh, hcap, hm, hsz, htk⟩
        · refine ⟨Or.inl ⟨?_, none, 0, hv⟩, by rw [List.length_map, HM.out]; have := HK2.out; omega⟩
          rw [List.map_eq_nil_iff]; exact List.length_eq_zero_iff.1 (by rw [HM.out]; exact h0)
        · refine ⟨Or.inr ⟨g, 0, cap, us, by rw [List.length_map, HM.out]; exact hv, by rw [List.length_map]; exact hul, fun j u hu => ?_, fun j u e hu he => ?_⟩, by rw [List.length_map, HM.out]; have := HK2.out; omega⟩
          · have hj := (List.getElem?_eq_some_iff.1 hu).1
            have hrow2 : wr.ownsRow w.heap.size 26 1 (.slice (some ⟨g, 0, none⟩) i cap) i us := by rw [← hv]; exact hrow
            rw [Nat.zero_add, hrow2.cellAt j (by rw [HI.out.2.2] at hj; omega)]; exact hu
          · have hj := (List.getElem?_eq_some_iff.1 hu).1
            rw [HU.out j (by rw [HI.out.2.2] at hj; exact hj)] at hu
            obtain rfl := Option.some.inj hu
            rw [List.getElem?_map] at he
            cases hkj : ks[j]? with
            | none => rw [hkj] at he; cases he
            | some k =>
              rw [hkj] at he
              obtain rfl := Option.some.inj he
              have hss := stK_succ hkj
              have hjl := (List.getElem?_eq_some_iff.1 hkj).1
              have hle2 := stK_le ks (j + 1) (by omega)
              have hnl := HK.out.1
              have := RdN.tail hcw HNN.out HK.out.2.1 HK.out.2.2 (stK ks j) (flat k).length (flat k).length (by omega) (Nat.le_refl _)
              have hdrop : (flat t).drop (stK ks j) = flat k ++ (ks.drop (j + 1)).flatMap flat := by
                rw [HFL.out, stK_drop]
                obtain ⟨hlk, rfl⟩ := List.getElem?_eq_some_iff.1 hkj
                rw [List.drop_eq_getElem_cons hlk, List.flatMap_cons]
              rw [hdrop, List.take_left] at this
              unfold opV
              rw [hkj]
              exact this
end Go.Proofs.YthcidkidpiaomaaGreatDoor.Od
end
