/- OiF -/
import Derived.Test.YthcidkidpiaomaaGreatDoorKg01
import Derived.Test.YthcidkidpiaomaaGreatDoorKg02
section
set_option linter.unusedVariables false
set_option linter.unusedSimpArgs false
namespace Go.Proofs.YthcidkidpiaomaaGreatDoor.Od
open Go.RowKit Rg
set_option maxRecDepth 100000 in
set_option maxHeartbeats 32000000 in
theorem OdeFormatRoundTrip_walk (vf ve vx : Value) (a b k : Int) (fs : List (List Nd)) (e0 : List Nd) (xs0 : List Iv) (w : World) (hf : RawF w.heap.size w vf fs) (hne : RawN w.heap.size w ve e0) (hxs : RawI w.heap.size w vx xs0) (wa : (Lit.int .i64 a).wf = true) (wb : (Lit.int .i64 b).wf = true) (wk : 0 ≤ k ∧ k ≤ 255) (hL : Lb w) :
    Calls Tryz.prog 5 #[.agg #[vf, ve, vx, .int .i64 a, .int .i64 b, .int .u8 k]] w fun e w' => e = .returned (.bool true) ∧ Below w.heap.size w w' := by
  obtain ⟨K, rfl⟩ : ∃ K : Nat, k = K := ⟨k.toNat, by omega⟩
  have HKS : Aside (K ≤ 255) := ⟨by omega⟩
  obtain ⟨n, hn⟩ : ∃ n, 1 + K % 4 = n := ⟨_, rfl⟩
  have HN : Aside (1 ≤ n ∧ n ≤ 4) := ⟨by omega⟩
  have HNE := Aside.mk hn
  have HL := Aside.mk hL
  have HF := Aside.mk hf
  have HRN := Aside.mk hne
  have HRI := Aside.mk hxs
  obtain ⟨af, cf, rfl, -⟩ := hf
  obtain ⟨ae, ce, rfl, -⟩ := hne
  obtain ⟨ax, cx, rfl, -⟩ := hxs
  obtain ⟨lf, hlf⟩ : ∃ l, fs.length = l := ⟨_, rfl⟩
  obtain ⟨le, hle⟩ : ∃ l, e0.length = l := ⟨_, rfl⟩
  obtain ⟨lx, hlx⟩ : ∃ l, xs0.length = l := ⟨_, rfl⟩
  rw [hlf] at HF ⊢
  rw [hle] at HRN ⊢
  rw [hlx] at HRI ⊢
  have hal : Below w.heap.size w (w.alloc (.cells #[.slice af lf cf, .slice ae le ce, .slice ax lx cx, .int .i64 a, .int .i64 b, .int .u8 (K : Nat)] 31)) := (Below.refl _ _).alloc (Nat.le_refl _) _
  have hrow : (w.alloc (.cells #[.slice af lf cf, .slice ae le ce, .slice ax lx cx, .int .i64 a, .int .i64 b, .int .u8 (K : Nat)] 31)).heap[w.heap.size]? = some (.cells #[.slice af lf cf, .slice ae le ce, .slice ax lx cx, .int .i64 a, .int .i64 b, .int .u8 (K : Nat)] 31 (0, 0)) := heap_alloc_last _ _
  have HAL := Aside.mk hal
  have HROW := Aside.mk hrow
  clear wa wb wk hn hL hal hrow hlf hle hlx
  go_enter Tryz.func5, Tryz.ntmps5
  go_wp2_with fail
  generalize w.alloc _ = W at HAL HROW ⊢
  obtain ⟨g2, hg2⟩ : ∃ g, w.heap.size = g := ⟨_, rfl⟩
  have HG2 := Aside.mk hg2
  simp only [hg2]
  rw [hg2] at HROW
  clear hg2
  refine (sanity_any W (HL.out.below HAL.out)).mono ?_
  rintro e w1 ⟨rfl, hb⟩
  have HB := Aside.mk (HAL.out.trans (hb.mono HAL.out.size))
  have hr1 := (hb.block _ (lt_of HROW.out)).trans HROW.out
  replace HROW := Aside.mk hr1
  have d0 : w1.cell? ⟨g2, 0, none⟩ = some (.slice af lf cf) := by rw [cell_of_row _ _ 0 _ _ _ hr1]; rfl
  have d1 : w1.cell? ⟨g2, 1, none⟩ = some (.slice ae le ce) := by rw [cell_of_row _ _ 1 _ _ _ hr1]; rfl
  have d2 : w1.cell? ⟨g2, 2, none⟩ = some (.slice ax lx cx) := by rw [cell_of_row _ _ 2 _ _ _ hr1]; rfl
  have d3 : w1.cell? ⟨g2, 3, none⟩ = some (.int .i64 a) := by rw [cell_of_row _ _ 3 _ _ _ hr1]; rfl
  have d4 : w1.cell? ⟨g2, 4, none⟩ = some (.int .i64 b) := by rw [cell_of_row _ _ 4 _ _ _ hr1]; rfl
  have d5 : w1.cell? ⟨g2, 5, none⟩ = some (.int .u8 (K : Nat)) := by rw [cell_of_row _ _ 5 _ _ _ hr1]; rfl
  clear hb HAL hr1
  go_wp2_with fail
  refine (rDim_any _ _ _ _ _ K HKS.out w1).mono ?_
  rintro e w2 ⟨rfl, hb⟩
  rw [HNE.out]
  replace HB := Aside.mk (HB.out.trans (hb.mono HB.out.size))
  replace HROW := Aside.mk ((hb.block _ (lt_of HROW.out)).trans HROW.out)
  have HL0 := HL
  replace HL := Aside.mk (HL.out.below HB.out)
  have HFW := Aside.mk (HF.out.below HB.out)
  have HNW := Aside.mk (HRN.out.below HB.out)
  have HIW := Aside.mk (HRI.out.below HB.out)
  have HGS := Aside.mk HB.out.size
  have hW0 := HG2.out
  rw [hW0] at HFW HNW HIW HGS
  clear hb d0 d1 d2 d3 d4 d5 hW0 HF HRN HRI
  have d0 : w2.cell? ⟨g2, 0, none⟩ = some (.slice af lf cf) := by rw [cell_of_row _ _ 0 _ _ _ HROW.out]; rfl
  have d1 : w2.cell? ⟨g2, 1, none⟩ = some (.slice ae le ce) := by rw [cell_of_row _ _ 1 _ _ _ HROW.out]; rfl
  have hn6 : 1 ≤ n ∧ n ≤ 6 := by have := HN.out; omega
  have HN6 := Aside.mk hn6
  clear hn6
  go_wp2_with fail
  refine region_u (T := taby [Sy.val (.pointer (some ⟨g2, 0, none⟩)), Sy.val (.slice af lf cf), Sy.val (.int .i64 (n : Nat)), Sy.pr (kSys n), Sy.val (.pointer (some ⟨g2, 1, none⟩)), Sy.val (.slice ae le ce), Sy.val (.int .i64 (n : Nat)), Sy.pr (kTree n), Sy.pr (kNew #[.slice none 0 0, .slice none 0 0] 25 w2.heap.size)]) [18, 19, 20, 21, 22, 23, 24, 25, 5] 9 (tells_y _) rfl rfl ?_ ?_ (hF := by simp only [setl, List.map_cons, List.map_nil, Sy.told, Option.getD_some, Option.getD_none, List.set_cons_zero, List.set_cons_succ]; exact rfl)
  · iterate 3 (refine AllV.val rfl (fun w hb => by simp [execOp, Act.eval, kp hb d0, kp hb d1, go_sem]) ?_)
    refine AllV.call (fun w => run_call (args := #[.slice af lf cf, .int .i64 30, .int .i64 (n : Nat)]) enters_msys (by simp [Act.eval])) (fun w hb => (rMadeSys_k af lf cf fs 30 n HN6.out w g2 (Nat.le_trans HGS.out hb.size) (HFW.out.below hb)).mono (by rintro e w' h; exact h)) ?_
    iterate 3 (refine AllV.val rfl (fun w hb => by simp [execOp, Act.eval, kp hb d0, kp hb d1, go_sem]) ?_)
    refine AllV.call (fun w => run_call (args := #[.slice ae le ce, .int .i64 30, .int .i64 (n : Nat)]) enters_made (by simp [Act.eval])) (fun w hb => (rMade_k ae le ce e0 30 n HN6.out w g2 (Nat.le_trans HGS.out hb.size) (HNW.out.below hb)).mono (by rintro e w' h; exact h)) ?_
    refine AllV.make (fun w hb => ⟨_, _, by simp [execOp, Act.eval, go_sem], ((Below.refl _ _).alloc (Nat.le_refl _) _), ⟨_, hb.size, rfl, heap_alloc_last _ _⟩⟩) ?_
    exact AllV.nil
  intro us w3 hb hus fu hfu
  simp only [setl, List.map_cons, List.map_nil, Sy.told, Option.getD_some, Option.getD_none, Nat.reduceAdd, List.set_cons_zero, List.set_cons_succ] at hfu
  have E21 := hus 3 (by decide)
  generalize us 3 = u21 at E21 hfu
  have E25 := hus 7 (by decide)
  generalize us 7 = u25 at E25 hfu
  have E5 := hus 8 (by decide)
  generalize us 8 = u5 at E5 hfu
  subst hfu
  clear hus
  simp only [List.drop_succ_cons, List.drop_zero]
  have HH3 := Aside.mk hb
  clear hb
  obtain ⟨vn, vs, ts, rfl, hsys⟩ := E21
  obtain ⟨t, hokt, hl31, hex⟩ := E25
  obtain ⟨g5, hg5, rfl, hr5⟩ := E5
  obtain ⟨va1, va2, va3, rfl⟩ : ∃ a l c, vn = .slice a l c := by obtain ⟨a, c, h⟩ := hsys.nm.slice; exact ⟨_, _, _, h⟩
  obtain ⟨vb1, vb2, vb3, rfl⟩ : ∃ a l c, vs = .slice a l c := by obtain ⟨a, c, h⟩ := hsys.fs.slice; exact ⟨_, _, _, h⟩
  obtain ⟨vt1, vt2, vt3, rfl⟩ : ∃ a l c, u25 = .slice a l c := by obtain ⟨a, c, h⟩ := hex.rdn.slice; exact ⟨_, _, _, h⟩
  have HSY := Aside.mk hsys
  have HEX := Aside.mk hex
  have HTT := Aside.mk (And.intro hokt hl31)
  have HR5 := Aside.mk hr5
  have HB3 := Aside.mk (HB.out.trans (HH3.out.mono HB.out.size))
  have HG5 : Aside (w.heap.size ≤ g5) := ⟨Nat.le_trans HB.out.size hg5⟩
  clear hsys hokt hl31 hex hr5 hg5 d0 d1
  refine wpList_store_sys rfl (.tmp 5) (.tmp 21) rfl g5 rfl rfl _ _ HR5.out ?_
  intro w4 hr4 hb4 hk4
  replace HSY := Aside.mk (HSY.out.keepz HR5.out hk4)
  replace HEX := Aside.mk (HEX.out.keepz HR5.out hk4)
  replace HB := Aside.mk (HB3.out.trans (hb4.mono HG5.out))
  replace HL := Aside.mk (HL0.out.below HB.out)
  replace HR5 := Aside.mk hr4
  have c0 : w4.cell? ⟨g5, 0, none⟩ = some (.slice va1 va2 va3) := by rw [cell_of_row _ _ 0 _ _ _ hr4]; rfl
  have c1 : w4.cell? ⟨g5, 1, none⟩ = some (.slice vb1 vb2 vb3) := by rw [cell_of_row _ _ 1 _ _ _ hr4]; rfl
  clear hr4 hb4 hk4 HB3
  have HNL := Aside.mk (n6_take_len (n := n) (by have := HN.out; omega))
  have HTL : Aside (ts.length = n) := ⟨HSY.out.len⟩
  have HOKS : Aside (∀ t ∈ ts, okT (strL (n6.take n)) t) := ⟨fun t ht => HSY.out.ok t ht _ HNL.out.2⟩
  have HOKT : Aside (okT (strL (n6.take n)) t) := ⟨HTT.out.1 _ HNL.out.2⟩
  obtain ⟨F, hF⟩ : ∃ F : ByteArray, F.data.toList = fmtS (strL (n6.take n)) (strL (n6.take n)) ts := ⟨⟨(fmtS (strL (n6.take n)) (strL (n6.take n)) ts).toArray⟩, by simp⟩
  have HF2 := Aside.mk hF
  have hF8 : F.size ≤ 8000 := by
    have h1 := fmtS_len (n6_take_ok n) (strL (n6.take n)) ts (n6_take_ok n) HOKS.out
    rw [← hF] at h1
    have h2 : (ts.map fun t => (flat t).length).sum ≤ 31 * ts.length := sum_le _ _ (fun t ht => HSY.out.l31 t ht)
    have h3 : F.data.toList.length = F.size := rfl
    have := HN.out; have := HTL.out
    omega
  obtain ⟨T, hT⟩ : ∃ T : ByteArray, T.data.toList = fmtT (strL (n6.take n)) t := ⟨⟨(fmtT (strL (n6.take n)) t).toArray⟩, by simp⟩
  have HT2 := Aside.mk hT
  have hT8 : T.size ≤ 8000 := by
    have h1 := fmtT_len (n6_take_ok n) t HOKT.out
    rw [← hT] at h1
    have h3 : T.data.toList.length = T.size := rfl
    have := HTT.out.2
    omega
  have HF8 := Aside.mk (And.intro hF8 hT8)
  clear hF hF8 hT hT8
  go_wp2_with fail
  refine (Format_is (names := n6.take n) ts (n6_take_ok n) (by rw [HNL.out.1, HTL.out]) HOKS.out (by rw [HNL.out.1]; have := HN.out; omega) _ _ _ HSY.out.nm HSY.out.fs HL.out.tabs F HF2.out).mono ?_
  rintro e w5 ⟨rfl, hb5⟩
  replace HSY := Aside.mk (HSY.out.below hb5)
  replace HEX := Aside.mk (HEX.out.below hb5)
  replace HR5 := Aside.mk ((hb5.block _ (lt_of HR5.out)).trans HR5.out)
  replace HB := Aside.mk (HB.out.trans (hb5.mono HB.out.size))
  replace HL := Aside.mk (HL0.out.below HB.out)
  clear hb5 c0 c1
  go_wp2_with fail
  refine (rVars_any n (by have := HN.out; omega) w5).mono ?_
  rintro e w6 ⟨v6, rfl, hs6, hb6⟩
  have HS6 := Aside.mk hs6
  obtain ⟨v61, v62, v63, rfl⟩ : ∃ a l c, v6 = .slice a l c := by obtain ⟨a, c, h⟩ := hs6.slice; exact ⟨_, _, _, h⟩
  replace HSY := Aside.mk (HSY.out.below hb6)
  replace HEX := Aside.mk (HEX.out.below hb6)
  replace HR5 := Aside.mk ((hb6.block _ (lt_of HR5.out)).trans HR5.out)
  replace HB := Aside.mk (HB.out.trans (hb6.mono HB.out.size))
  replace HL := Aside.mk (HL0.out.below HB.out)
  clear hb6 hs6
  go_wp2_with fail
  refine (FE_any (vars := n6.take n) (n6_take_ok n) t HOKT.out _ _ w6 HEX.out.rdn HS6.out HL.out.tabs T HT2.out).mono ?_
  rintro e w7 ⟨rfl, hb7⟩
  replace HSY := Aside.mk (HSY.out.below hb7)
  replace HEX := Aside.mk (HEX.out.below hb7)
  replace HR5 := Aside.mk ((hb7.block _ (lt_of HR5.out)).trans HR5.out)
  replace HB := Aside.mk (HB.out.trans (hb7.mono HB.out.size))
  replace HL := Aside.mk (HL0.out.below HB.out)
  clear hb7 HS6
  go_wp2_with fail
  have HPS : Aside (parseSys F.data.toList = .ok (strL (n6.take n), ts.map flat)) := ⟨by
    rw [HF2.out]
    have := HN.out
    exact parseSys_fmt (n6_take_ok n) (n6_take_nodup n) (by rw [HNL.out.2]; omega) (by rw [HNL.out.2]; omega) (by rw [HNL.out.2, HTL.out]) HOKS.out (fun t ht => Nat.le_trans (HSY.out.l31 t ht) (by decide)) (by rw [← HF2.out]; exact HF8.out.1)⟩
  refine (Parse_good F (by have := HF8.out; omega) (strL (n6.take n)) (ts.map flat) HPS.out w7 HL.out).mono ?_
  rintro e w8 ⟨vn5, vf5, xs5, rfl, hxs5, hsn5, hfs5, hb8⟩
  have hx5 : xs5 = n6.take n := by rw [strL_is xs5 _ hxs5, ← strL_is (n6.take n) _ rfl]
  subst hx5
  obtain ⟨p1, p2, p3, rfl⟩ : ∃ a l c, vn5 = .slice a l c := by obtain ⟨a, c, h⟩ := hsn5.slice; exact ⟨_, _, _, h⟩
  obtain ⟨q1, q2, q3, rfl⟩ : ∃ a l c, vf5 = .slice a l c := by obtain ⟨a, c, h⟩ := hfs5.slice; exact ⟨_, _, _, h⟩
  have hal : Below w8.heap.size w8 (w8.alloc (.cells #[.slice p1 p2 p3, .slice q1 q2 q3] 25)) := (Below.refl _ _).alloc (Nat.le_refl _) _
  have hbb := hb8.trans (hal.mono hb8.size)
  have HR9 := Aside.mk (heap_alloc_last w8 (.cells #[.slice p1 p2 p3, .slice q1 q2 q3] 25))
  have HSN5 := Aside.mk (hsn5.below hal)
  have HFS5 := Aside.mk (hfs5.below hal)
  replace HSY := Aside.mk (HSY.out.below hbb)
  replace HEX := Aside.mk (HEX.out.below hbb)
  replace HR5 := Aside.mk ((hbb.block _ (lt_of HR5.out)).trans HR5.out)
  replace HB := Aside.mk (HB.out.trans (hbb.mono HB.out.size))
  replace HL := Aside.mk (HL0.out.below HB.out)
  clear hxs5 hsn5 hfs5 hb8 hal hbb
  go_wp2_with fail
  obtain ⟨g9, hg9⟩ : ∃ g, w8.heap.size = g := ⟨_, rfl⟩
  rw [hg9] at HR9
  simp only [hg9]
  generalize w8.alloc (.cells #[.slice p1 p2 p3, .slice q1 q2 q3] 25) = W9 at HR9 HSN5 HFS5 HSY HEX HR5 HB HL ⊢
  clear hg9
  refine (rVars_any n (by have := HN.out; omega) W9).mono ?_
  rintro e w6 ⟨v6, rfl, hs6, hb6⟩
  have HS6 := Aside.mk hs6
  obtain ⟨v71, v72, v73, rfl⟩ : ∃ a l c, v6 = .slice a l c := by obtain ⟨a, c, h⟩ := hs6.slice; exact ⟨_, _, _, h⟩
  replace HSY := Aside.mk (HSY.out.below hb6)
  replace HEX := Aside.mk (HEX.out.below hb6)
  replace HSN5 := Aside.mk (HSN5.out.below hb6)
  replace HFS5 := Aside.mk (HFS5.out.below hb6)
  replace HR5 := Aside.mk ((hb6.block _ (lt_of HR5.out)).trans HR5.out)
  replace HR9 := Aside.mk ((hb6.block _ (lt_of HR9.out)).trans HR9.out)
  replace HB := Aside.mk (HB.out.trans (hb6.mono HB.out.size))
  replace HL := Aside.mk (HL0.out.below HB.out)
  clear hb6 hs6
  go_wp2_with fail
  have HPE : Aside (parseExpr T.data.toList (strL (n6.take n)) = .ok (flat t)) := ⟨by
    rw [HT2.out]
    exact parseExpr_fmt (n6_take_ok n) (n6_take_nodup n) HOKT.out (Nat.le_trans HTT.out.2 (by decide))⟩
  refine (ParseExpr_good T (by have := HF8.out; omega) _ (n6.take n) (flat t) HPE.out w6 HS6.out HL.out).mono ?_
  rintro e w10 ⟨v10, rfl, ho10, hb10⟩
  have HEX2 := Aside.mk (Ex.of ho10 (by have := HTT.out.2; omega))
  obtain ⟨z1, z2, z3, rfl⟩ : ∃ a l c, v10 = .slice a l c := by obtain ⟨a, c, h⟩ := HEX2.out.rdn.slice; exact ⟨_, _, _, h⟩
  replace HSY := Aside.mk (HSY.out.below hb10)
  replace HEX := Aside.mk (HEX.out.below hb10)
  replace HSN5 := Aside.mk (HSN5.out.below hb10)
  replace HFS5 := Aside.mk (HFS5.out.below hb10)
  replace HR5 := Aside.mk ((hb10.block _ (lt_of HR5.out)).trans HR5.out)
  replace HR9 := Aside.mk ((hb10.block _ (lt_of HR9.out)).trans HR9.out)
  replace HB := Aside.mk (HB.out.trans (hb10.mono HB.out.size))
  replace HL := Aside.mk (HL0.out.below HB.out)
  clear hb10 ho10 HS6
  have c0 : w10.cell? ⟨g5, 0, none⟩ = some (.slice va1 va2 va3) := by rw [cell_of_row _ _ 0 _ _ _ HR5.out]; rfl
  have c1 : w10.cell? ⟨g5, 1, none⟩ = some (.slice vb1 vb2 vb3) := by rw [cell_of_row _ _ 1 _ _ _ HR5.out]; rfl
  go_wp2_with fail
  refine (rFormat_any (names := n6.take n) ts (n6_take_ok n) (by rw [HNL.out.1, HTL.out]) HOKS.out (by rw [HNL.out.1]; have := HN.out; omega) _ _ _ HSY.out.nm HSY.out.fs).mono ?_
  rintro e w11 ⟨⟨F2, rfl, hF2⟩, hb11⟩
  have hFF : F2 = F := by rw [mk_str hF2, mk_str HF2.out]
  subst hFF
  replace HSY := Aside.mk (HSY.out.below hb11)
  replace HEX := Aside.mk (HEX.out.below hb11)
  replace HEX2 := Aside.mk (HEX2.out.below hb11)
  replace HSN5 := Aside.mk (HSN5.out.below hb11)
  replace HFS5 := Aside.mk (HFS5.out.below hb11)
  replace HR5 := Aside.mk ((hb11.block _ (lt_of HR5.out)).trans HR5.out)
  replace HR9 := Aside.mk ((hb11.block _ (lt_of HR9.out)).trans HR9.out)
  replace HB := Aside.mk (HB.out.trans (hb11.mono HB.out.size))
  clear hb11 hF2 c0 c1
  go_wp2_with fail
  refine (rVars_any n (by have := HN.out; omega) w11).mono ?_
  rintro e w12 ⟨v12, rfl, hs12, hb12⟩
  have HS12 := Aside.mk hs12
  obtain ⟨y1, y2, y3, rfl⟩ : ∃ a l c, v12 = .slice a l c := by obtain ⟨a, c, h⟩ := hs12.slice; exact ⟨_, _, _, h⟩
  replace HSY := Aside.mk (HSY.out.below hb12)
  replace HEX := Aside.mk (HEX.out.below hb12)
  replace HEX2 := Aside.mk (HEX2.out.below hb12)
  replace HSN5 := Aside.mk (HSN5.out.below hb12)
  replace HFS5 := Aside.mk (HFS5.out.below hb12)
  replace HR5 := Aside.mk ((hb12.block _ (lt_of HR5.out)).trans HR5.out)
  replace HR9 := Aside.mk ((hb12.block _ (lt_of HR9.out)).trans HR9.out)
  replace HB := Aside.mk (HB.out.trans (hb12.mono HB.out.size))
  clear hb12 hs12
  go_wp2_with fail
  refine (rFE_any (vars := n6.take n) (n6_take_ok n) t HOKT.out _ _ w12 HEX.out.rdn HS12.out T HT2.out).mono ?_
  rintro e w13 ⟨rfl, hb13⟩
  replace HSY := Aside.mk (HSY.out.below hb13)
  replace HEX := Aside.mk (HEX.out.below hb13)
  replace HEX2 := Aside.mk (HEX2.out.below hb13)
  replace HSN5 := Aside.mk (HSN5.out.below hb13)
  replace HFS5 := Aside.mk (HFS5.out.below hb13)
  replace HR5 := Aside.mk ((hb13.block _ (lt_of HR5.out)).trans HR5.out)
  replace HR9 := Aside.mk ((hb13.block _ (lt_of HR9.out)).trans HR9.out)
  replace HB := Aside.mk (HB.out.trans (hb13.mono HB.out.size))
  clear hb13 HS12
  have c0 : w13.cell? ⟨g5, 0, none⟩ = some (.slice va1 va2 va3) := by rw [cell_of_row _ _ 0 _ _ _ HR5.out]; rfl
  have c1 : w13.cell? ⟨g5, 1, none⟩ = some (.slice vb1 vb2 vb3) := by rw [cell_of_row _ _ 1 _ _ _ HR5.out]; rfl
  have k0 : w13.cell? ⟨g9, 0, none⟩ = some (.slice p1 p2 p3) := by rw [cell_of_row _ _ 0 _ _ _ HR9.out]; rfl
  have k1 : w13.cell? ⟨g9, 1, none⟩ = some (.slice q1 q2 q3) := by rw [cell_of_row _ _ 1 _ _ _ HR9.out]; rfl
  go_wp2_with fail
  refine (rSameSys_any _ _ _ _ (n6.take n) (ts.map flat) _ HSN5.out HFS5.out HSY.out.nm HSY.out.fs).mono ?_
  rintro e w14 ⟨rfl, hb14⟩
  replace HEX := Aside.mk (HEX.out.below hb14)
  replace HEX2 := Aside.mk (HEX2.out.below hb14)
  replace HB := Aside.mk (HB.out.trans (hb14.mono HB.out.size))
  clear hb14 c0 c1 k0 k1
  go_wp2_with fail
  refine (rSame_any _ _ (flat t) w14 HEX2.out.rdn HEX.out.rdn).mono ?_
  rintro e w15 ⟨rfl, hb15⟩
  replace HB := Aside.mk (HB.out.trans (hb15.mono HB.out.size))
  clear hb15
  go_wp2_with fail
  go_ret
  exact ⟨rfl, HB.out⟩
end Go.Proofs.YthcidkidpiaomaaGreatDoor.Od
end
