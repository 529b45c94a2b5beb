/- OiJ -/
import Derived.Test.YthcidkidpiaomaaGreatDoorKf24
import Derived.Test.YthcidkidpiaomaaGreatDoorKi01
import Derived.Test.YthcidkidpiaomaaGreatDoorKf20
import Derived.Test.YthcidkidpiaomaaGreatDoorKf19
import Derived.Test.YthcidkidpiaomaaGreatDoorKi02
section
set_option linter.unusedVariables false
set_option linter.unusedSimpArgs false
namespace Go.Proofs.YthcidkidpiaomaaGreatDoor.Od
open Go.RowKit Rg
theorem enters_dv : ∀ args w, (callFunc 28 args).run Tryz.prog w = .ok (.enter 28 args) w := fun args w => by kernel_rfl
theorem ok_points {xs : List Iv} {ps : List Int} (hl : ps.length = xs.length) (hx : ∀ a ∈ xs, okI a) (hp : ∀ (i : Nat) (a : Iv) (p : Int), xs[i]? = some a → ps[i]? = some p → a.1 ≤ p ∧ p ≤ a.2) : SubB (ps.map fun p => newI p p) xs ∧ ∀ a ∈ (ps.map fun p => newI p p), okI a := by
  refine ⟨⟨by rw [List.length_map]; exact hl, fun i a b ha hb => ?_⟩, fun a ha => ?_⟩
  · rw [List.getElem?_map] at ha
    cases hq : ps[i]? with
    | none => rw [hq] at ha; cases ha
    | some p =>
      rw [hq] at ha
      obtain rfl := Option.some.inj ha
      have h1 := hp i b p hb hq
      have h2 := hx b (List.mem_of_getElem? hb)
      obtain ⟨bl, bh⟩ := b
      unfold okI okIv maxV at h2
      simp only [Bool.or_eq_true, Bool.and_eq_true, decide_eq_true_eq, beq_iff_eq] at h2 h1
      show SubI (newI p p) (bl, bh)
      unfold SubI newI ent maxV
      by_cases hc : -2147483648 < p ∧ p < 2147483648 ∧ -2147483648 < p ∧ p < 2147483648
      · rw [if_pos hc]; simp only; omega
      · rw [if_neg hc]; simp only; omega
  · obtain ⟨p, -, rfl⟩ := List.mem_map.1 ha
    exact newI_ok (Int.le_refl p)
theorem sub_ev {vars : List (List UInt8)} {xs ys : List Iv} {t s : Iv} {ts : List Tr} (hok : ∀ e ∈ ts, okT vars e) (hx : ∀ a ∈ xs, okI a) (hy : ∀ a ∈ ys, okI a) (ht : okI t) (hs : okI s) (h : SubB xs ys) (k : SubI t s) : SubB (ts.map (ev xs t)) (ts.map (ev ys s)) := by
  refine ⟨by rw [List.length_map, List.length_map], fun i a b ha hb => ?_⟩
  rw [List.getElem?_map] at ha hb
  cases he : ts[i]? with
  | none => rw [he] at ha; cases ha
  | some e =>
    rw [he] at ha hb
    obtain rfl := Option.some.inj ha
    obtain rfl := Option.some.inj hb
    exact ev_mono hx hy ht hs h k e (hok e (List.mem_of_getElem? he))
set_option maxRecDepth 100000 in
set_option maxHeartbeats 32000000 in
theorem OdeIsotonicity_walk (vf ve vx : Value) (a b k : Int) (fs : List (List Nd)) (e0 : List Nd) (xs0 : List Iv) (vf1 ve1 vx1 : Value) (a1 b1 k1 : Int) (fs1 : List (List Nd)) (e1 : List Nd) (ys0 : List Iv) (vu : Value) (lu : List Int) (w : World)
    (hf : RawF w.heap.size w vf fs) (hne : RawN w.heap.size w ve e0) (hxs : RawI w.heap.size w vx xs0) (wa : (Lit.int .i64 a).wf = true) (wb : (Lit.int .i64 b).wf = true) (wk : 0 ≤ k ∧ k ≤ 255)
    (hf1 : RawF w.heap.size w vf1 fs1) (hne1 : RawN w.heap.size w ve1 e1) (hys : RawI w.heap.size w vx1 ys0) (wa1 : (Lit.int .i64 a1).wf = true) (wb1 : (Lit.int .i64 b1).wf = true) (wk1 : 0 ≤ k1 ∧ k1 ≤ 255) (hu : RawU w.heap.size w vu lu) (hL : Lb w) :
    Calls Tryz.prog 8 #[.agg #[vf, ve, vx, .int .i64 a, .int .i64 b, .int .u8 k], .agg #[vf1, ve1, vx1, .int .i64 a1, .int .i64 b1, .int .u8 k1], vu] w fun e w' => e = .returned (.bool true) ∧ Below w.heap.size w w' := by
  obtain ⟨K, rfl⟩ : ∃ K : Nat, k = K := ⟨k.toNat, by omega⟩
  have HKS : Aside (K ≤ 255) := ⟨by omega⟩
  obtain ⟨n, hn⟩ : ∃ n, 1 + K % 4 = n := ⟨_, rfl⟩
  have HN : Aside (1 ≤ n ∧ n ≤ 4) := ⟨by omega⟩
  have HN6 : Aside (1 ≤ n ∧ n ≤ 6) := ⟨by omega⟩
  have HNE := Aside.mk hn
  have HL := Aside.mk hL
  have HF := Aside.mk hf
  have HRN := Aside.mk hne
  have HRI := Aside.mk hxs
  have HRY := Aside.mk hys
  have HRU := Aside.mk hu
  obtain ⟨⟨tl, th⟩, hT, hTc⟩ := rMadeI_ex a b
  have HT := Aside.mk hT
  have HTC := Aside.mk hTc
  obtain ⟨⟨sl, sh⟩, hS, hSc⟩ := rMadeI_ex a1 b1
  have HS := Aside.mk hS
  have HSC := Aside.mk hSc
  obtain ⟨⟨ul, uh⟩, hU⟩ : ∃ u, hullI (tl, th) (sl, sh) = u := ⟨_, rfl⟩
  have HU := Aside.mk hU
  obtain ⟨af, cf, rfl, -⟩ := hf
  obtain ⟨ae, ce, rfl, -⟩ := hne
  obtain ⟨ax, cx, rfl, -⟩ := hxs
  obtain ⟨af1, cf1, rfl, -⟩ := hf1
  obtain ⟨ae1, ce1, rfl, -⟩ := hne1
  obtain ⟨ay, cy, rfl, -⟩ := hys
  obtain ⟨au, cu, rfl, -⟩ := hu
  obtain ⟨lf, hlf⟩ : ∃ l, fs.length = l := ⟨_, rfl⟩
  obtain ⟨le, hle⟩ : ∃ l, e0.length = l := ⟨_, rfl⟩
  obtain ⟨lx, hlx⟩ : ∃ l, xs0.length = l := ⟨_, rfl⟩
  obtain ⟨ly, hly⟩ : ∃ l, ys0.length = l := ⟨_, rfl⟩
  obtain ⟨lf1, hlf1⟩ : ∃ l, fs1.length = l := ⟨_, rfl⟩
  obtain ⟨le1, hle1⟩ : ∃ l, e1.length = l := ⟨_, rfl⟩
  obtain ⟨l2, hl2⟩ : ∃ l, lu.length = l := ⟨_, rfl⟩
  rw [hlf1, hle1]
  rw [hlf] at HF ⊢
  rw [hle] at HRN ⊢
  rw [hlx] at HRI ⊢
  rw [hly] at HRY ⊢
  rw [hl2] at HRU ⊢
  have hal1 : Below w.heap.size w (w.alloc (.cells #[.slice af lf cf, .slice ae le ce, .slice ax lx cx, .int .i64 a, .int .i64 b, .int .u8 (K : Nat)] 31)) := (Below.refl _ _).alloc (Nat.le_refl _) _
  have hrow1 : (w.alloc (.cells #[.slice af lf cf, .slice ae le ce, .slice ax lx cx, .int .i64 a, .int .i64 b, .int .u8 (K : Nat)] 31)).heap[w.heap.size]? = some (.cells #[.slice af lf cf, .slice ae le ce, .slice ax lx cx, .int .i64 a, .int .i64 b, .int .u8 (K : Nat)] 31 (0, 0)) := heap_alloc_last _ _
  have hsz1 : (w.alloc (.cells #[.slice af lf cf, .slice ae le ce, .slice ax lx cx, .int .i64 a, .int .i64 b, .int .u8 (K : Nat)] 31)).heap.size = w.heap.size + 1 := World.size_alloc ..
  have hal2 : Below (w.heap.size + 1) (w.alloc (.cells #[.slice af lf cf, .slice ae le ce, .slice ax lx cx, .int .i64 a, .int .i64 b, .int .u8 (K : Nat)] 31)) ((w.alloc (.cells #[.slice af lf cf, .slice ae le ce, .slice ax lx cx, .int .i64 a, .int .i64 b, .int .u8 (K : Nat)] 31)).alloc (.cells #[.slice af1 lf1 cf1, .slice ae1 le1 ce1, .slice ay ly cy, .int .i64 a1, .int .i64 b1, .int .u8 k1] 31)) := (Below.refl _ _).alloc (by rw [hsz1]; exact Nat.le_refl _) _
  have hrow2 := heap_alloc_last (w.alloc (.cells #[.slice af lf cf, .slice ae le ce, .slice ax lx cx, .int .i64 a, .int .i64 b, .int .u8 (K : Nat)] 31)) (.cells #[.slice af1 lf1 cf1, .slice ae1 le1 ce1, .slice ay ly cy, .int .i64 a1, .int .i64 b1, .int .u8 k1] 31)
  rw [hsz1] at hrow2
  have hrow1 := (hal2.block _ (by omega)).trans hrow1
  have HAL := Aside.mk (hal1.trans (hal2.mono (by omega)))
  have HROW := Aside.mk hrow1
  have HROY := Aside.mk hrow2
  clear wa wb wk wa1 wb1 wk1 hn hL hal1 hal2 hrow1 hrow2 hsz1 hlf hle hlx hly hlf1 hle1 hl2 hT hTc hS hSc hU
  go_enter Tryz.func8, Tryz.ntmps8
  go_wp2_with fail
  generalize (w.alloc _).alloc _ = W at HAL HROW HROY ⊢
  obtain ⟨g3, hg3⟩ : ∃ g, w.heap.size + 1 = g := ⟨_, rfl⟩
  obtain ⟨g2, hg2⟩ : ∃ g, w.heap.size = g := ⟨_, rfl⟩
  have HG2 := Aside.mk hg2
  simp only [hg3]
  simp only [hg2]
  rw [hg2] at HROW
  rw [hg3] at HROY
  clear hg2 hg3
  refine (sanity_any W (HL.out.below HAL.out)).mono ?_
  rintro e w1 ⟨rfl, hb⟩
  have HB := Aside.mk (HAL.out.trans (hb.mono HAL.out.size))
  have hr1 := (hb.block _ (lt_of HROW.out)).trans HROW.out
  replace HROW := Aside.mk hr1
  replace HROY := Aside.mk ((hb.block _ (lt_of HROY.out)).trans HROY.out)
  have d0 : w1.cell? ⟨g2, 0, none⟩ = some (.slice af lf cf) := by rw [cell_of_row _ _ 0 _ _ _ hr1]; rfl
  have d1 : w1.cell? ⟨g2, 1, none⟩ = some (.slice ae le ce) := by rw [cell_of_row _ _ 1 _ _ _ hr1]; rfl
  have d2 : w1.cell? ⟨g2, 2, none⟩ = some (.slice ax lx cx) := by rw [cell_of_row _ _ 2 _ _ _ hr1]; rfl
  have d3 : w1.cell? ⟨g2, 3, none⟩ = some (.int .i64 a) := by rw [cell_of_row _ _ 3 _ _ _ hr1]; rfl
  have d4 : w1.cell? ⟨g2, 4, none⟩ = some (.int .i64 b) := by rw [cell_of_row _ _ 4 _ _ _ hr1]; rfl
  have d5 : w1.cell? ⟨g2, 5, none⟩ = some (.int .u8 (K : Nat)) := by rw [cell_of_row _ _ 5 _ _ _ hr1]; rfl
  clear hb HAL hr1
  go_wp2_with fail
  refine (rDim_any _ _ _ _ _ K HKS.out w1).mono ?_
  rintro e w2 ⟨rfl, hb⟩
  rw [HNE.out]
  replace HB := Aside.mk (HB.out.trans (hb.mono HB.out.size))
  replace HROW := Aside.mk ((hb.block _ (lt_of HROW.out)).trans HROW.out)
  replace HROY := Aside.mk ((hb.block _ (lt_of HROY.out)).trans HROY.out)
  have HL0 := HL
  replace HL := Aside.mk (HL0.out.below HB.out)
  have HFW := Aside.mk (HF.out.below HB.out)
  have HNW := Aside.mk (HRN.out.below HB.out)
  have HGS := Aside.mk HB.out.size
  rw [HG2.out] at HFW HNW HGS
  clear hb d0 d1 d2 d3 d4 d5
  have d0 : w2.cell? ⟨g2, 0, none⟩ = some (.slice af lf cf) := by rw [cell_of_row _ _ 0 _ _ _ HROW.out]; rfl
  have d1 : w2.cell? ⟨g2, 1, none⟩ = some (.slice ae le ce) := by rw [cell_of_row _ _ 1 _ _ _ HROW.out]; rfl
  go_wp2_with fail
  refine region_u (T := taby [Sy.val (.pointer (some ⟨g2, 1, none⟩)), Sy.val (.slice ae le ce), Sy.val (.int .i64 (n : Nat)), Sy.pr (kTree n), Sy.val (.pointer (some ⟨g2, 0, none⟩)), Sy.val (.slice af lf cf), Sy.val (.int .i64 (n : Nat)), Sy.pr (kSys n), Sy.pr (kNew #[.slice none 0 0, .slice none 0 0] 25 w2.heap.size)]) [24, 25, 26, 27, 28, 29, 30, 31, 10] 9 (tells_y _) rfl rfl ?_ ?_ (hF := by simp only [setl, List.map_cons, List.map_nil, Sy.told, Option.getD_some, Option.getD_none, List.set_cons_zero, List.set_cons_succ]; exact rfl)
  · iterate 3 (refine AllV.val rfl (fun w hb => by simp [execOp, Act.eval, kp hb d1, kp hb d0, go_sem]) ?_)
    refine AllV.call (fun w => run_call (args := #[.slice ae le ce, .int .i64 30, .int .i64 (n : Nat)]) enters_made (by simp [Act.eval])) (fun w hb => (rMade_k ae le ce e0 30 n HN6.out w g2 (Nat.le_trans HGS.out hb.size) (HNW.out.below hb)).mono (by rintro e w' h; exact h)) ?_
    iterate 3 (refine AllV.val rfl (fun w hb => by simp [execOp, Act.eval, kp hb d1, kp hb d0, go_sem]) ?_)
    refine AllV.call (fun w => run_call (args := #[.slice af lf cf, .int .i64 15, .int .i64 (n : Nat)]) enters_msys (by simp [Act.eval])) (fun w hb => (rMadeSys_k af lf cf fs 15 n HN6.out w g2 (Nat.le_trans HGS.out hb.size) (HFW.out.below hb)).mono (by rintro e w' h; exact h)) ?_
    refine AllV.make (fun w hb => ⟨_, _, by simp [execOp, Act.eval, go_sem], ((Below.refl _ _).alloc (Nat.le_refl _) _), ⟨_, hb.size, rfl, heap_alloc_last _ _⟩⟩) ?_
    exact AllV.nil
  intro us w3 hb hus fu hfu
  simp only [setl, List.map_cons, List.map_nil, Sy.told, Option.getD_some, Option.getD_none, Nat.reduceAdd, List.set_cons_zero, List.set_cons_succ] at hfu
  have E27 := hus 3 (by decide)
  generalize us 3 = u27 at E27 hfu
  have E31 := hus 7 (by decide)
  generalize us 7 = u31 at E31 hfu
  have E10 := hus 8 (by decide)
  generalize us 8 = u10 at E10 hfu
  subst hfu
  clear hus
  simp only [List.drop_succ_cons, List.drop_zero]
  have HH3 := Aside.mk hb
  clear hb
  obtain ⟨vn, vs, ts, rfl, hsys⟩ := E31
  obtain ⟨t, hokt, hl31, hex⟩ := E27
  obtain ⟨g10, hg10, rfl, hr10⟩ := E10
  obtain ⟨va1, va2, va3, rfl⟩ : ∃ a l c, vn = .slice a l c := by obtain ⟨a, c, h⟩ := hsys.nm.slice; exact ⟨_, _, _, h⟩
  obtain ⟨vb1, vb2, vb3, rfl⟩ : ∃ a l c, vs = .slice a l c := by obtain ⟨a, c, h⟩ := hsys.fs.slice; exact ⟨_, _, _, h⟩
  obtain ⟨vt1, vt2, vt3, rfl⟩ : ∃ a l c, u27 = .slice a l c := by obtain ⟨a, c, h⟩ := hex.rdn.slice; exact ⟨_, _, _, h⟩
  have HSY := Aside.mk hsys
  have HEX := Aside.mk hex
  have HTT := Aside.mk (And.intro hokt hl31)
  have HR10 := Aside.mk hr10
  have HG10 : Aside (w2.heap.size ≤ g10) := ⟨hg10⟩
  clear hsys hokt hl31 hex hr10 hg10 d0 d1
  go_wp2_with (first | (guard_target =~ wpList _ _ _ _ _ w3; refine wpList_store_sys rfl (.tmp 10) (.tmp 31) rfl g10 rfl rfl _ _ HR10.out ?_; intro w4 hr4 hb4 hk4; have HST := Aside.mk (And.intro hr4 (And.intro hb4 hk4)); clear hr4 hb4 hk4))
  have B24 := HH3.out.trans (HST.out.2.1.mono HG10.out)
  replace HSY := Aside.mk (HSY.out.keepz HR10.out HST.out.2.2)
  replace HEX := Aside.mk (HEX.out.keepz HR10.out HST.out.2.2)
  replace HR10 := Aside.mk HST.out.1
  replace HROW := Aside.mk ((B24.block _ (lt_of HROW.out)).trans HROW.out)
  replace HROY := Aside.mk ((B24.block _ (lt_of HROY.out)).trans HROY.out)
  replace HB := Aside.mk (HB.out.trans (B24.mono HB.out.size))
  have HIW := Aside.mk (HRI.out.below HB.out)
  replace HGS := Aside.mk HB.out.size
  rw [HG2.out] at HIW HGS
  clear HST HG10 HH3 B24 HFW HNW
  have d2 : w4.cell? ⟨g2, 2, none⟩ = some (.slice ax lx cx) := by rw [cell_of_row _ _ 2 _ _ _ HROW.out]; rfl
  have d3 : w4.cell? ⟨g2, 3, none⟩ = some (.int .i64 a) := by rw [cell_of_row _ _ 3 _ _ _ HROW.out]; rfl
  have d4 : w4.cell? ⟨g2, 4, none⟩ = some (.int .i64 b) := by rw [cell_of_row _ _ 4 _ _ _ HROW.out]; rfl
  go_wp2_with fail
  refine region_uB (T := taby [Sy.val (.pointer (some ⟨g2, 2, none⟩)), Sy.val (.slice ax lx cx), Sy.val (.int .i64 (n : Nat)), Sy.pr (kBox n), Sy.val (.pointer (some ⟨g2, 3, none⟩)), Sy.val (.agg #[.int .i64 a, .int .i64 b]), Sy.val (.agg #[.int .i64 tl, .int .i64 th]), Sy.pr (kNew #[.int .i64 0, .int .i64 0] 29 w4.heap.size)]) [(3, 35), (7, 12)] [32, 33, 34, 35, 36, 37, 38, 12] 8 (tells_y _) rfl rfl (by kernel_rfl) ?_ ?_ (hF := by simp only [setl, List.map_cons, List.map_nil, Sy.told, Option.getD_some, Option.getD_none, List.set_cons_zero, List.set_cons_succ]; exact rfl)
  · iterate 3 (refine AllG.ok rfl (AllV.val rfl (fun w hb => by simp [execOp, Act.eval, kp hb d2, kp hb d3, kp hb d4, go_sem]) AllV.nil) ?_)
    refine AllG.call rfl (fun w => run_call (args := #[.slice ax lx cx, .int .i64 (n : Nat)]) enters_mb (by simp [Act.eval])) (fun w hb => (rMadeB_own _ xs0 n HN6.out w g2 (Nat.le_trans HGS.out hb.size) (HIW.out.below hb)).mono (by rintro e w' h; exact h)) ?_
    iterate 2 (refine AllG.ok rfl (AllV.val rfl (fun w hb => by simp [execOp, Act.eval, kp hb d2, kp hb d3, kp hb d4, go_sem]) AllV.nil) ?_)
    refine AllG.ok rfl (AllV.call (fun w => run_call (args := #[.agg #[.int .i64 a, .int .i64 b]]) enters_mi (by simp [Act.eval])) (fun w hb => (HTC.out w).mono (by rintro e w' ⟨rfl, hb2⟩; exact ⟨_, rfl, hb2, rfl⟩)) AllV.nil) ?_
    refine AllG.make rfl (fun w hb => ⟨_, _, by simp [execOp, Act.eval, go_sem], ((Below.refl _ _).alloc (Nat.le_refl _) _), ⟨_, hb.size, rfl, heap_alloc_last _ _⟩, new_iv_d w⟩) ?_
    exact AllG.nil
  intro us w5 hb hus hne fu hfu
  simp only [setl, List.map_cons, List.map_nil, Sy.told, Option.getD_some, Option.getD_none, Nat.reduceAdd, List.set_cons_zero, List.set_cons_succ] at hfu
  have n35_12 := hne (3, 35) (by simp) (7, 12) (by simp) (by simp)
  simp only at n35_12
  clear hne
  have E35 := hus 3 (by decide)
  generalize us 3 = u35 at E35 hfu n35_12
  have E12 := hus 7 (by decide)
  generalize us 7 = u12 at E12 hfu n35_12
  subst hfu
  clear hus
  simp only [List.drop_succ_cons, List.drop_zero]
  have HH5 := Aside.mk hb
  clear hb
  obtain ⟨xs, hxb, hxl, hxo⟩ := E35
  obtain ⟨g12, hg12, rfl, hr12⟩ := E12
  obtain ⟨xa, xc, rfl⟩ : ∃ a c, u35 = .slice a n c := by obtain ⟨a, c, h, -⟩ := hxb.out; rw [hxl] at h; exact ⟨a, c, h⟩
  have HXB := Aside.mk hxb
  have HXL := Aside.mk hxl
  have HXO := Aside.mk hxo
  have HR12 := Aside.mk hr12
  have HG12 : Aside (w4.heap.size ≤ g12) := ⟨hg12⟩
  have HNX : Aside (blk (.slice xa n xc) ≠ some g12) := ⟨n35_12⟩
  clear hxb hxl hxo hr12 hg12 n35_12 d2 d3 d4
  go_wp2_with (first | (guard_target =~ wpList _ _ _ _ _ w5; refine wpList_store_iv rfl (.tmp 12) (.tmp 38) rfl g12 tl th rfl rfl _ _ HR12.out ?_; intro w6 hr6 hb6 hk6 hs6; have HST := Aside.mk (And.intro hr6 (And.intro hb6 hk6)); clear hr6 hb6 hk6 hs6))
  have B46 := HH5.out.trans (HST.out.2.1.mono HG12.out)
  replace HXB := Aside.mk (HXB.out.keepb HNX.out HST.out.2.2)
  replace HR12 := Aside.mk HST.out.1
  replace HSY := Aside.mk (HSY.out.below B46)
  replace HEX := Aside.mk (HEX.out.below B46)
  replace HR10 := Aside.mk ((B46.block _ (lt_of HR10.out)).trans HR10.out)
  replace HROY := Aside.mk ((B46.block _ (lt_of HROY.out)).trans HROY.out)
  replace HB := Aside.mk (HB.out.trans (B46.mono HB.out.size))
  have HIY := Aside.mk (HRY.out.below HB.out)
  have HGS6 := Aside.mk HB.out.size
  rw [HG2.out] at HIY HGS6
  clear HST HG12 HH5 B46 HNX HIW HROW HGS
  have d2 : w6.cell? ⟨g3, 2, none⟩ = some (.slice ay ly cy) := by rw [cell_of_row _ _ 2 _ _ _ HROY.out]; rfl
  have d3 : w6.cell? ⟨g3, 3, none⟩ = some (.int .i64 a1) := by rw [cell_of_row _ _ 3 _ _ _ HROY.out]; rfl
  have d4 : w6.cell? ⟨g3, 4, none⟩ = some (.int .i64 b1) := by rw [cell_of_row _ _ 4 _ _ _ HROY.out]; rfl
  have c0 : w6.cell? ⟨g12, 0, none⟩ = some (.int .i64 tl) := by rw [cell_of_row _ _ 0 _ _ _ HR12.out]; rfl
  have c1 : w6.cell? ⟨g12, 1, none⟩ = some (.int .i64 th) := by rw [cell_of_row _ _ 1 _ _ _ HR12.out]; rfl
  go_wp2_with fail
  refine region_uB (T := taby [Sy.val (.slice xa n xc), Sy.val (.pointer (some ⟨g3, 2, none⟩)), Sy.val (.slice ay ly cy), Sy.val (.int .i64 (n : Nat)), Sy.pr (kBox n), Sy.pr (kHull xs), Sy.val (.agg #[.int .i64 tl, .int .i64 th]), Sy.val (.pointer (some ⟨g3, 3, none⟩)), Sy.val (.agg #[.int .i64 a1, .int .i64 b1]), Sy.val (.agg #[.int .i64 sl, .int .i64 sh]), Sy.val (.agg #[.int .i64 ul, .int .i64 uh]), Sy.pr (kNew #[.int .i64 0, .int .i64 0] 29 w6.heap.size)]) [(5, 44), (11, 14)] [39, 40, 41, 42, 43, 44, 45, 46, 47, 48, 49, 14] 12 (tells_y _) rfl rfl (by kernel_rfl) ?_ ?_ (hF := by simp only [setl, List.map_cons, List.map_nil, Sy.told, Option.getD_some, Option.getD_none, List.set_cons_zero, List.set_cons_succ]; exact rfl)
  · iterate 4 (refine AllG.ok rfl (AllV.val rfl (fun w hb => by simp [execOp, Act.eval, kp hb d2, kp hb c0, kp hb c1, kp hb d3, kp hb d4, go_sem]) AllV.nil) ?_)
    refine AllG.ok rfl (AllV.call (fun w => run_call (args := #[.slice ay ly cy, .int .i64 (n : Nat)]) enters_mb (by simp [Act.eval])) (fun w hb => (rMadeB_own _ ys0 n HN6.out w g2 (Nat.le_trans HGS6.out hb.size) (HIY.out.below hb)).mono (by rintro e w' ⟨vo, rfl, h1, h2, -⟩; exact ⟨vo, rfl, h1, h2⟩)) AllV.nil) ?_
    refine AllG.step rfl ?_ ?_
    · intro a w hz hb ho hg
      have e39 : a.tmps.getD 39 undef = .slice xa n xc := got_of hg (j := 0) rfl rfl rfl
      have e43 := (got_of hg (j := 4) rfl rfl rfl : Rg.Tab.S _ _ (a.tmps.getD 43 undef) w)
      have f39 := Rg.gd e39
      have E43 := (got_of hg (j := 4) rfl rfl rfl : Rg.Tab.S _ _ (a.tmps.getD 43 undef) w)
      have e39 : a.tmps.getD 39 undef = .slice xa n xc := got_of hg (j := 0) rfl rfl rfl
      have f39 := Rg.gd e39
      obtain ⟨u, hu⟩ : ∃ u, a.tmps.getD 43 undef = u := ⟨_, rfl⟩
      have fu := hu; rw [Array.getD_eq_getD_getElem?] at fu
      rw [hu] at E43
      obtain ⟨ys, hys, hly, hoy⟩ := E43
      exact ⟨wanted_none rfl, wp_callsD hb.size (run_call (args := #[.slice xa n xc, u]) enters_hb (by simp [Act.eval, f39, fu])) ((rHull_own _ _ xs ys (by rw [hly]; exact HXL.out) (by rw [HXL.out]; exact HN.out.1) w (HXB.out.below hb) hys).mono (by rintro e w' ⟨vo, rfl, h1, h2, h3⟩; exact ⟨vo, rfl, h1, ⟨_, h2, sub_zip (by rw [hly]; exact HXL.out), ok_zip HXO.out hoy⟩, h3⟩))⟩
    iterate 3 (refine AllG.ok rfl (AllV.val rfl (fun w hb => by simp [execOp, Act.eval, kp hb d2, kp hb c0, kp hb c1, kp hb d3, kp hb d4, go_sem]) AllV.nil) ?_)
    refine AllG.ok rfl (AllV.call (fun w => run_call (args := #[.agg #[.int .i64 a1, .int .i64 b1]]) enters_mi (by simp [Act.eval])) (fun w hb => (HSC.out w).mono (by rintro e w' ⟨rfl, hb2⟩; exact ⟨_, rfl, hb2, rfl⟩)) AllV.nil) ?_
    refine AllG.ok rfl (AllV.call (fun w => run_call (args := #[.agg #[.int .i64 tl, .int .i64 th], .agg #[.int .i64 sl, .int .i64 sh]]) enters_hull (by simp [Act.eval])) (fun w hb => (rHullI_any (tl, th) (sl, sh) w).mono (by rintro e w' ⟨rfl, hb2⟩; rw [HU.out]; exact ⟨_, rfl, hb2, rfl⟩)) AllV.nil) ?_
    refine AllG.make rfl (fun w hb => ⟨_, _, by simp [execOp, Act.eval, go_sem], ((Below.refl _ _).alloc (Nat.le_refl _) _), ⟨_, hb.size, rfl, heap_alloc_last _ _⟩, new_iv_d w⟩) ?_
    exact AllG.nil
  intro us w7 hb hus hne fu hfu
  simp only [setl, List.map_cons, List.map_nil, Sy.told, Option.getD_some, Option.getD_none, Nat.reduceAdd, List.set_cons_zero, List.set_cons_succ] at hfu
  have n44_14 := hne (5, 44) (by simp) (11, 14) (by simp) (by simp)
  simp only at n44_14
  clear hne
  have E43 := hus 4 (by decide)
  generalize us 4 = u43 at E43 hfu
  have E44 := hus 5 (by decide)
  generalize us 5 = u44 at E44 hfu n44_14
  have E14 := hus 11 (by decide)
  generalize us 11 = u14 at E14 hfu n44_14
  subst hfu
  clear hus
  simp only [List.drop_succ_cons, List.drop_zero]
  have HH7 := Aside.mk hb
  clear hb
  obtain ⟨ys, hyb, hysub, hyo⟩ := E44
  obtain ⟨g14, hg14, rfl, hr14⟩ := E14
  have hyl : ys.length = n := by rw [← hysub.1]; exact HXL.out
  obtain ⟨ya, yc, rfl⟩ : ∃ a c, u44 = .slice a n c := by obtain ⟨a, c, h, -⟩ := hyb.out; rw [hyl] at h; exact ⟨a, c, h⟩
  have HYB := Aside.mk hyb
  have HYL := Aside.mk hyl
  have HYO := Aside.mk hyo
  have HYS := Aside.mk hysub
  have HR14 := Aside.mk hr14
  have HG14 : Aside (w6.heap.size ≤ g14) := ⟨hg14⟩
  have HNX : Aside (blk (.slice ya n yc) ≠ some g14) := ⟨n44_14⟩
  clear hyb hyl hyo hysub hr14 hg14 n44_14 d2 d3 d4 c0 c1 E43
  go_wp2_with (first | (guard_target =~ wpList _ _ _ _ _ w7; refine wpList_store_iv rfl (.tmp 14) (.tmp 49) rfl g14 ul uh rfl rfl _ _ HR14.out ?_; intro w8 hr8 hb8 hk8 hs8; have HST := Aside.mk (And.intro hr8 (And.intro hb8 hk8)); clear hr8 hb8 hk8 hs8))
  have B68 := HH7.out.trans (HST.out.2.1.mono HG14.out)
  replace HYB := Aside.mk (HYB.out.keepb HNX.out HST.out.2.2)
  replace HR14 := Aside.mk HST.out.1
  replace HSY := Aside.mk (HSY.out.below B68)
  replace HEX := Aside.mk (HEX.out.below B68)
  replace HXB := Aside.mk (HXB.out.below B68)
  replace HR10 := Aside.mk ((B68.block _ (lt_of HR10.out)).trans HR10.out)
  replace HR12 := Aside.mk ((B68.block _ (lt_of HR12.out)).trans HR12.out)
  replace HB := Aside.mk (HB.out.trans (B68.mono HB.out.size))
  clear HST HG14 HH7 B68 HNX HIY HROY HGS6
  refine (rPointIn_any _ _ xs HXO.out lu w8 w.heap.size HXB.out (HRU.out.below HB.out)).mono ?_
  rintro e w9 ⟨vo, ps, rfl, hps, hpl, hpp, hb9⟩
  obtain ⟨pa, pc, rfl⟩ : ∃ a c, vo = .slice a n c := by obtain ⟨a, c, h, -⟩ := hps.out; rw [hpl, HXL.out] at h; exact ⟨a, c, h⟩
  have HPS := Aside.mk hps
  have HPP := Aside.mk (ok_points hpl HXO.out hpp)
  replace HSY := Aside.mk (HSY.out.below hb9)
  replace HEX := Aside.mk (HEX.out.below hb9)
  replace HXB := Aside.mk (HXB.out.below hb9)
  replace HYB := Aside.mk (HYB.out.below hb9)
  replace HR10 := Aside.mk ((hb9.block _ (lt_of HR10.out)).trans HR10.out)
  replace HR12 := Aside.mk ((hb9.block _ (lt_of HR12.out)).trans HR12.out)
  replace HR14 := Aside.mk ((hb9.block _ (lt_of HR14.out)).trans HR14.out)
  replace HB := Aside.mk (HB.out.trans (hb9.mono HB.out.size))
  have HPL : Aside (ps.length = n) := ⟨by rw [hpl]; exact HXL.out⟩
  clear hps hpl hpp hb9
  go_wp2_with fail
  refine (rPointB_any _ ps w9 HPS.out).mono ?_
  rintro e w10 ⟨vo, rfl, hzb, hb10⟩
  obtain ⟨zs, hzs⟩ : ∃ zs, (ps.map fun p => newI p p) = zs := ⟨_, rfl⟩
  have hzl : zs.length = n := by rw [← hzs, List.length_map]; exact HPL.out
  rw [hzs] at hzb HPP
  obtain ⟨za, zc, rfl⟩ : ∃ a c, vo = .slice a n c := by obtain ⟨a, c, h, -⟩ := hzb.out; rw [hzl] at h; exact ⟨a, c, h⟩
  have HZB := Aside.mk hzb
  have HZL := Aside.mk hzl
  replace HSY := Aside.mk (HSY.out.below hb10)
  replace HEX := Aside.mk (HEX.out.below hb10)
  replace HXB := Aside.mk (HXB.out.below hb10)
  replace HYB := Aside.mk (HYB.out.below hb10)
  replace HR10 := Aside.mk ((hb10.block _ (lt_of HR10.out)).trans HR10.out)
  replace HR12 := Aside.mk ((hb10.block _ (lt_of HR12.out)).trans HR12.out)
  replace HR14 := Aside.mk ((hb10.block _ (lt_of HR14.out)).trans HR14.out)
  replace HB := Aside.mk (HB.out.trans (hb10.mono HB.out.size))
  replace HL := Aside.mk (HL0.out.below HB.out)
  clear hzb hzl hb10 HPS hzs
  have HNL := Aside.mk (n6_take_len (n := n) (by have := HN.out; omega))
  have HOKT : Aside (okT (strL (n6.take n)) t) := ⟨HTT.out.1 _ HNL.out.2⟩
  have HUO : Aside (okI (ul, uh)) := ⟨by rw [← HU.out]; exact ok_hull HT.out HS.out⟩
  have HTU : Aside (SubI (tl, th) (ul, uh)) := ⟨by rw [← HU.out]; exact sub_hull⟩
  obtain ⟨⟨p1, p2⟩, hp⟩ : ∃ p, ev xs (tl, th) t = p := ⟨_, rfl⟩
  obtain ⟨⟨q1, q2⟩, hq⟩ : ∃ p, ev ys (ul, uh) t = p := ⟨_, rfl⟩
  obtain ⟨⟨r1, r2⟩, hr⟩ : ∃ p, ev zs (tl, th) t = p := ⟨_, rfl⟩
  have HPO : Aside (okI (p1, p2)) := ⟨by rw [← hp]; exact ev_ok HXO.out HT.out t HOKT.out⟩
  have HQO : Aside (okI (q1, q2)) := ⟨by rw [← hq]; exact ev_ok HYO.out HUO.out t HOKT.out⟩
  have HPQ : Aside (SubI (p1, p2) (q1, q2)) := ⟨by rw [← hp, ← hq]; exact ev_mono HXO.out HYO.out HT.out HUO.out HYS.out HTU.out t HOKT.out⟩
  have HRP : Aside (SubI (r1, r2) (p1, p2)) := ⟨by rw [← hr, ← hp]; exact ev_mono HPP.out.2 HXO.out HT.out HT.out HPP.out.1 (SubI.refl _) t HOKT.out⟩
  have HEV1 : Aside (∀ w', Below w10.heap.size w10 w' → Calls Tryz.prog 25 #[.slice vt1 vt2 vt3, .slice xa n xc, .agg #[.int .i64 tl, .int .i64 th]] w' fun e w'' => e = .returned (ivV (p1, p2)) ∧ Below w'.heap.size w' w'') := ⟨fun w' hb => by rw [← hp]; exact Eval_any t HOKT.out xs (tl, th) (by rw [HNL.out.2, HXL.out]; exact Nat.le_refl _) HXO.out HT.out _ _ w' (HEX.out.below hb).rdn (HXB.out.below hb) (HL.out.below hb).ends⟩
  have HEV2 : Aside (∀ w', Below w10.heap.size w10 w' → Calls Tryz.prog 25 #[.slice vt1 vt2 vt3, .slice ya n yc, .agg #[.int .i64 ul, .int .i64 uh]] w' fun e w'' => e = .returned (ivV (q1, q2)) ∧ Below w'.heap.size w' w'') := ⟨fun w' hb => by rw [← hq]; exact Eval_any t HOKT.out ys (ul, uh) (by rw [HNL.out.2, HYL.out]; exact Nat.le_refl _) HYO.out HUO.out _ _ w' (HEX.out.below hb).rdn (HYB.out.below hb) (HL.out.below hb).ends⟩
  have HEV3 : Aside (∀ w', Below w10.heap.size w10 w' → Calls Tryz.prog 25 #[.slice vt1 vt2 vt3, .slice za n zc, .agg #[.int .i64 tl, .int .i64 th]] w' fun e w'' => e = .returned (ivV (r1, r2)) ∧ Below w'.heap.size w' w'') := ⟨fun w' hb => by rw [← hr]; exact Eval_any t HOKT.out zs (tl, th) (by rw [HNL.out.2, HZL.out]; exact Nat.le_refl _) HPP.out.2 HT.out _ _ w' (HEX.out.below hb).rdn (HZB.out.below hb) (HL.out.below hb).ends⟩
  clear hp hq hr
  have c0 : w10.cell? ⟨g12, 0, none⟩ = some (.int .i64 tl) := by rw [cell_of_row _ _ 0 _ _ _ HR12.out]; rfl
  have c1 : w10.cell? ⟨g12, 1, none⟩ = some (.int .i64 th) := by rw [cell_of_row _ _ 1 _ _ _ HR12.out]; rfl
  have c2 : w10.cell? ⟨g14, 0, none⟩ = some (.int .i64 ul) := by rw [cell_of_row _ _ 0 _ _ _ HR14.out]; rfl
  have c3 : w10.cell? ⟨g14, 1, none⟩ = some (.int .i64 uh) := by rw [cell_of_row _ _ 1 _ _ _ HR14.out]; rfl
  go_wp2_with fail
  refine region_uB (T := taby [Sy.val (.slice vt1 vt2 vt3), Sy.val (.slice xa n xc), Sy.val (.agg #[.int .i64 tl, .int .i64 th]), Sy.val (.agg #[.int .i64 p1, .int .i64 p2]), Sy.val (.slice vt1 vt2 vt3), Sy.val (.slice ya n yc), Sy.val (.agg #[.int .i64 ul, .int .i64 uh]), Sy.val (.agg #[.int .i64 q1, .int .i64 q2]), Sy.val (.slice vt1 vt2 vt3), Sy.val (.slice za n zc), Sy.val (.agg #[.int .i64 tl, .int .i64 th]), Sy.val (.agg #[.int .i64 r1, .int .i64 r2]), Sy.pr (kNew #[.int .i64 0, .int .i64 0] 29 w10.heap.size), Sy.pr (kNew #[.int .i64 0, .int .i64 0] 29 w10.heap.size), Sy.pr (kNew #[.int .i64 0, .int .i64 0] 29 w10.heap.size)]) [(12, 16), (13, 17), (14, 18)] [54, 55, 56, 57, 58, 59, 60, 61, 62, 63, 64, 65, 16, 17, 18] 15 (tells_y _) rfl rfl (by kernel_rfl) ?_ ?_ (hF := by simp only [setl, List.map_cons, List.map_nil, Sy.told, Option.getD_some, Option.getD_none, List.set_cons_zero, List.set_cons_succ]; exact rfl)
  · iterate 3 (refine AllG.ok rfl (AllV.val rfl (fun w hb => by simp [execOp, Act.eval, kp hb c0, kp hb c1, kp hb c2, kp hb c3, go_sem]) AllV.nil) ?_)
    refine AllG.ok rfl (AllV.call (fun w => run_call (args := #[.slice vt1 vt2 vt3, .slice xa n xc, .agg #[.int .i64 tl, .int .i64 th]]) enters_evl (by simp [Act.eval])) (fun w hb => (HEV1.out w hb).mono (by rintro e w' ⟨rfl, hb2⟩; exact ⟨_, rfl, hb2, rfl⟩)) AllV.nil) ?_
    iterate 3 (refine AllG.ok rfl (AllV.val rfl (fun w hb => by simp [execOp, Act.eval, kp hb c0, kp hb c1, kp hb c2, kp hb c3, go_sem]) AllV.nil) ?_)
    refine AllG.ok rfl (AllV.call (fun w => run_call (args := #[.slice vt1 vt2 vt3, .slice ya n yc, .agg #[.int .i64 ul, .int .i64 uh]]) enters_evl (by simp [Act.eval])) (fun w hb => (HEV2.out w hb).mono (by rintro e w' ⟨rfl, hb2⟩; exact ⟨_, rfl, hb2, rfl⟩)) AllV.nil) ?_
    iterate 3 (refine AllG.ok rfl (AllV.val rfl (fun w hb => by simp [execOp, Act.eval, kp hb c0, kp hb c1, kp hb c2, kp hb c3, go_sem]) AllV.nil) ?_)
    refine AllG.ok rfl (AllV.call (fun w => run_call (args := #[.slice vt1 vt2 vt3, .slice za n zc, .agg #[.int .i64 tl, .int .i64 th]]) enters_evl (by simp [Act.eval])) (fun w hb => (HEV3.out w hb).mono (by rintro e w' ⟨rfl, hb2⟩; exact ⟨_, rfl, hb2, rfl⟩)) AllV.nil) ?_
    refine AllG.make rfl (fun w hb => ⟨_, _, by simp [execOp, Act.eval, go_sem], ((Below.refl _ _).alloc (Nat.le_refl _) _), ⟨_, hb.size, rfl, heap_alloc_last _ _⟩, new_iv_d w⟩) ?_
    refine AllG.make rfl (fun w hb => ⟨_, _, by simp [execOp, Act.eval, go_sem], ((Below.refl _ _).alloc (Nat.le_refl _) _), ⟨_, hb.size, rfl, heap_alloc_last _ _⟩, new_iv_d w⟩) ?_
    refine AllG.make rfl (fun w hb => ⟨_, _, by simp [execOp, Act.eval, go_sem], ((Below.refl _ _).alloc (Nat.le_refl _) _), ⟨_, hb.size, rfl, heap_alloc_last _ _⟩, new_iv_d w⟩) ?_
    exact AllG.nil
  intro us w11 hb hus hne fu hfu
  simp only [setl, List.map_cons, List.map_nil, Sy.told, Option.getD_some, Option.getD_none, Nat.reduceAdd, List.set_cons_zero, List.set_cons_succ] at hfu
  have n16_17 := hne (12, 16) (by simp) (13, 17) (by simp) (by simp)
  have n16_18 := hne (12, 16) (by simp) (14, 18) (by simp) (by simp)
  have n17_18 := hne (13, 17) (by simp) (14, 18) (by simp) (by simp)
  simp only at n16_17 n16_18 n17_18
  clear hne
  have E16 := hus 12 (by decide)
  generalize us 12 = u16 at E16 hfu n16_17 n16_18
  have E17 := hus 13 (by decide)
  generalize us 13 = u17 at E17 hfu n16_17 n17_18
  have E18 := hus 14 (by decide)
  generalize us 14 = u18 at E18 hfu n16_18 n17_18
  subst hfu
  clear hus
  simp only [List.drop_succ_cons, List.drop_zero]
  have HH11 := Aside.mk hb
  clear hb
  obtain ⟨g16, hg16, rfl, hr16⟩ := E16
  obtain ⟨g17, hg17, rfl, hr17⟩ := E17
  obtain ⟨g18, hg18, rfl, hr18⟩ := E18
  have m1 : g16 ≠ g17 := fun e => n16_17 (by rw [e])
  have m2 : g16 ≠ g18 := fun e => n16_18 (by rw [e])
  have m3 : g17 ≠ g18 := fun e => n17_18 (by rw [e])
  have HM : Aside ((g16 ≠ g17 ∧ g16 ≠ g18 ∧ g17 ≠ g18) ∧ w10.heap.size ≤ g16 ∧ w10.heap.size ≤ g17 ∧ w10.heap.size ≤ g18) := ⟨⟨m1, m2, m3⟩, hg16, hg17, hg18⟩
  have HR16 := Aside.mk hr16
  have HR17 := Aside.mk hr17
  have HR18 := Aside.mk hr18
  clear hr16 hr17 hr18 m1 m2 m3 n16_17 n16_18 n17_18 hg16 hg17 hg18 c0 c1 c2 c3 HEV1 HEV2 HEV3
  refine wpList_store_iv rfl (.tmp 16) (.tmp 57) rfl g16 p1 p2 rfl rfl _ _ HR16.out ?_
  intro w12 hr hb hk hs
  replace HR16 := Aside.mk hr
  replace HR17 := Aside.mk ((hk _ HM.out.1.1.symm).trans HR17.out)
  replace HR18 := Aside.mk ((hk _ HM.out.1.2.1.symm).trans HR18.out)
  have HBA := Aside.mk (HH11.out.trans (hb.mono HM.out.2.1))
  clear hr hb hk hs
  refine wpList_store_iv rfl (.tmp 17) (.tmp 61) rfl g17 q1 q2 rfl rfl _ _ HR17.out ?_
  intro w13 hr hb hk hs
  replace HR17 := Aside.mk hr
  replace HR16 := Aside.mk ((hk _ HM.out.1.1).trans HR16.out)
  replace HR18 := Aside.mk ((hk _ HM.out.1.2.2.symm).trans HR18.out)
  replace HBA := Aside.mk (HBA.out.trans (hb.mono HM.out.2.2.1))
  clear hr hb hk hs
  refine wpList_store_iv rfl (.tmp 18) (.tmp 65) rfl g18 r1 r2 rfl rfl _ _ HR18.out ?_
  intro w14 hr hb hk hs
  replace HR18 := Aside.mk hr
  replace HR16 := Aside.mk ((hk _ HM.out.1.2.1).trans HR16.out)
  replace HR17 := Aside.mk ((hk _ HM.out.1.2.2).trans HR17.out)
  replace HBA := Aside.mk (HBA.out.trans (hb.mono HM.out.2.2.2))
  have hb14 := HBA.out
  replace HSY := Aside.mk (HSY.out.below hb14)
  replace HXB := Aside.mk (HXB.out.below hb14)
  replace HYB := Aside.mk (HYB.out.below hb14)
  replace HR10 := Aside.mk ((hb14.block _ (lt_of HR10.out)).trans HR10.out)
  replace HR14 := Aside.mk ((hb14.block _ (lt_of HR14.out)).trans HR14.out)
  replace HB := Aside.mk (HB.out.trans (hb14.mono HB.out.size))
  replace HL := Aside.mk (HL0.out.below HB.out)
  clear hr hb hk hs hb14 HBA HH11 HM HEX HZB HR12
  have HOKS : Aside (∀ t ∈ ts, okT (strL (n6.take n)) t) := ⟨fun t ht => HSY.out.ok t ht _ HNL.out.2⟩
  have HDV1 : Aside (∀ w', Below w14.heap.size w14 w' → Calls Tryz.prog 28 #[.agg #[.slice va1 va2 va3, .slice vb1 vb2 vb3], .slice xa n xc, .agg #[.int .i64 ul, .int .i64 uh]] w' fun e w'' => ∃ v, e = .returned v ∧ Below w'.heap.size w' w'' ∧ (kIvs (ts.map (ev xs (ul, uh)))).P v w'') := ⟨fun w' hb => by
    refine (Derivatives_any ts HOKS.out (by rw [HSY.out.len]; exact HN6.out.2) xs (ul, uh) (by rw [HNL.out.2, HXL.out]; exact Nat.le_refl _) HXO.out HUO.out _ _ _ w' (HSY.out.below hb).fs (HXB.out.below hb) (HL.out.below hb).ends).mono ?_
    rintro e w'' ⟨⟨vo, rfl, h1⟩, h2⟩
    exact ⟨vo, rfl, h2, h1⟩⟩
  have HDV2 : Aside (∀ w', Below w14.heap.size w14 w' → Calls Tryz.prog 28 #[.agg #[.slice va1 va2 va3, .slice vb1 vb2 vb3], .slice ya n yc, .agg #[.int .i64 ul, .int .i64 uh]] w' fun e w'' => ∃ v, e = .returned v ∧ Below w'.heap.size w' w'' ∧ (kIvs (ts.map (ev ys (ul, uh)))).P v w'') := ⟨fun w' hb => by
    refine (Derivatives_any ts HOKS.out (by rw [HSY.out.len]; exact HN6.out.2) ys (ul, uh) (by rw [HNL.out.2, HYL.out]; exact Nat.le_refl _) HYO.out HUO.out _ _ _ w' (HSY.out.below hb).fs (HYB.out.below hb) (HL.out.below hb).ends).mono ?_
    rintro e w'' ⟨⟨vo, rfl, h1⟩, h2⟩
    exact ⟨vo, rfl, h2, h1⟩⟩
  have s0 : w14.cell? ⟨g10, 0, none⟩ = some (.slice va1 va2 va3) := by rw [cell_of_row _ _ 0 _ _ _ HR10.out]; rfl
  have s1 : w14.cell? ⟨g10, 1, none⟩ = some (.slice vb1 vb2 vb3) := by rw [cell_of_row _ _ 1 _ _ _ HR10.out]; rfl
  have c2 : w14.cell? ⟨g14, 0, none⟩ = some (.int .i64 ul) := by rw [cell_of_row _ _ 0 _ _ _ HR14.out]; rfl
  have c3 : w14.cell? ⟨g14, 1, none⟩ = some (.int .i64 uh) := by rw [cell_of_row _ _ 1 _ _ _ HR14.out]; rfl
  go_wp2_with fail
  refine region_u (T := taby [Sy.val (.agg #[.slice va1 va2 va3, .slice vb1 vb2 vb3]), Sy.val (.slice xa n xc), Sy.val (.agg #[.int .i64 ul, .int .i64 uh]), Sy.pr (kIvs (ts.map (ev xs (ul, uh)))), Sy.val (.agg #[.slice va1 va2 va3, .slice vb1 vb2 vb3]), Sy.val (.slice ya n yc), Sy.val (.agg #[.int .i64 ul, .int .i64 uh]), Sy.pr (kIvs (ts.map (ev ys (ul, uh))))]) [66, 67, 68, 69, 70, 71, 72, 73] 8 (tells_y _) rfl rfl ?_ ?_ (hF := by rewrite [mrg_of (by kernel_rfl)]; simp only [mrg, List.map_cons, List.map_nil, Sy.told, Option.getD_some, Option.getD_none, Nat.reduceAdd, Nat.reduceEqDiff, ↓reduceIte] <;> exact rfl)
  · iterate 3 (refine AllV.val rfl (fun w hb => by simp [execOp, Act.eval, kp hb s0, kp hb s1, kp hb c2, kp hb c3, go_sem]) ?_)
    refine AllV.call (fun w => run_call (args := #[.agg #[.slice va1 va2 va3, .slice vb1 vb2 vb3], .slice xa n xc, .agg #[.int .i64 ul, .int .i64 uh]]) enters_dv (by simp [Act.eval])) (fun w hb => (HDV1.out w hb).mono (by rintro e w' h; exact h)) ?_
    iterate 3 (refine AllV.val rfl (fun w hb => by simp [execOp, Act.eval, kp hb s0, kp hb s1, kp hb c2, kp hb c3, go_sem]) ?_)
    refine AllV.call (fun w => run_call (args := #[.agg #[.slice va1 va2 va3, .slice vb1 vb2 vb3], .slice ya n yc, .agg #[.int .i64 ul, .int .i64 uh]]) enters_dv (by simp [Act.eval])) (fun w hb => (HDV2.out w hb).mono (by rintro e w' h; exact h)) ?_
    exact AllV.nil
  intro us w15 hb hus fu hfu
  rw [mrg_of (by kernel_rfl)] at hfu
  simp only [mrg, List.map_cons, List.map_nil, Sy.told, Option.getD_some, Option.getD_none, Nat.reduceAdd, Nat.reduceEqDiff, ↓reduceIte] at hfu
  have E69 := hus 3 (by decide)
  generalize us 3 = u69 at E69 hfu
  have E73 := hus 7 (by decide)
  generalize us 7 = u73 at E73 hfu
  subst hfu
  clear hus
  simp only [List.drop_succ_cons, List.drop_zero]
  have HH15 := Aside.mk hb
  clear hb
  have hfl : (ts.map (ev xs (ul, uh))).length = n := by rw [List.length_map]; exact HSY.out.len
  have hgl : (ts.map (ev ys (ul, uh))).length = n := by rw [List.length_map]; exact HSY.out.len
  have HFG := Aside.mk (sub_ev HOKS.out HXO.out HYO.out HUO.out HUO.out HYS.out (SubI.refl (ul, uh)))
  have e69 : Ivs w15 u69 (ts.map (ev xs (ul, uh))) := E69
  have e73 : Ivs w15 u73 (ts.map (ev ys (ul, uh))) := E73
  generalize ts.map (ev xs (ul, uh)) = fx at e69 hfl HFG
  generalize ts.map (ev ys (ul, uh)) = gy at e73 hgl HFG
  obtain ⟨fa, fc, rfl⟩ : ∃ a c, u69 = .slice a n c := by obtain ⟨a, c, h, -⟩ := e69.out; rw [hfl] at h; exact ⟨a, c, h⟩
  obtain ⟨ga, gc, rfl⟩ : ∃ a c, u73 = .slice a n c := by obtain ⟨a, c, h, -⟩ := e73.out; rw [hgl] at h; exact ⟨a, c, h⟩
  have HIF := Aside.mk e69
  have HIG := Aside.mk e73
  replace HR16 := Aside.mk ((HH15.out.block _ (lt_of HR16.out)).trans HR16.out)
  replace HR17 := Aside.mk ((HH15.out.block _ (lt_of HR17.out)).trans HR17.out)
  replace HR18 := Aside.mk ((HH15.out.block _ (lt_of HR18.out)).trans HR18.out)
  replace HB := Aside.mk (HB.out.trans (HH15.out.mono HB.out.size))
  clear hfl hgl e69 e73 E69 E73 s0 s1 c2 c3 HDV1 HDV2 HSY HXB HYB HR10 HR14 HH15 HL
  have c0 : w15.cell? ⟨g16, 0, none⟩ = some (.int .i64 p1) := by rw [cell_of_row _ _ 0 _ _ _ HR16.out]; rfl
  have c1 : w15.cell? ⟨g16, 1, none⟩ = some (.int .i64 p2) := by rw [cell_of_row _ _ 1 _ _ _ HR16.out]; rfl
  have c2 : w15.cell? ⟨g17, 0, none⟩ = some (.int .i64 q1) := by rw [cell_of_row _ _ 0 _ _ _ HR17.out]; rfl
  have c3 : w15.cell? ⟨g17, 1, none⟩ = some (.int .i64 q2) := by rw [cell_of_row _ _ 1 _ _ _ HR17.out]; rfl
  have c4 : w15.cell? ⟨g18, 0, none⟩ = some (.int .i64 r1) := by rw [cell_of_row _ _ 0 _ _ _ HR18.out]; rfl
  have c5 : w15.cell? ⟨g18, 1, none⟩ = some (.int .i64 r2) := by rw [cell_of_row _ _ 1 _ _ _ HR18.out]; rfl
  go_wp2_with fail
  refine (rIvValid_any p1 p2 w15).mono ?_
  rintro e w16 ⟨rfl, hb⟩
  rw [show okIv p1 p2 = true from HPO.out]
  replace HR16 := Aside.mk ((hb.block _ (lt_of HR16.out)).trans HR16.out)
  replace HR17 := Aside.mk ((hb.block _ (lt_of HR17.out)).trans HR17.out)
  replace HR18 := Aside.mk ((hb.block _ (lt_of HR18.out)).trans HR18.out)
  replace HIF := Aside.mk (HIF.out.below hb)
  replace HIG := Aside.mk (HIG.out.below hb)
  replace HB := Aside.mk (HB.out.trans (hb.mono HB.out.size))
  clear hb c0 c1 c2 c3 c4 c5
  have c0 : w16.cell? ⟨g16, 0, none⟩ = some (.int .i64 p1) := by rw [cell_of_row _ _ 0 _ _ _ HR16.out]; rfl
  have c1 : w16.cell? ⟨g16, 1, none⟩ = some (.int .i64 p2) := by rw [cell_of_row _ _ 1 _ _ _ HR16.out]; rfl
  have c2 : w16.cell? ⟨g17, 0, none⟩ = some (.int .i64 q1) := by rw [cell_of_row _ _ 0 _ _ _ HR17.out]; rfl
  have c3 : w16.cell? ⟨g17, 1, none⟩ = some (.int .i64 q2) := by rw [cell_of_row _ _ 1 _ _ _ HR17.out]; rfl
  have c4 : w16.cell? ⟨g18, 0, none⟩ = some (.int .i64 r1) := by rw [cell_of_row _ _ 0 _ _ _ HR18.out]; rfl
  have c5 : w16.cell? ⟨g18, 1, none⟩ = some (.int .i64 r2) := by rw [cell_of_row _ _ 1 _ _ _ HR18.out]; rfl
  go_wp2_with fail
  refine (rIvValid_any q1 q2 w16).mono ?_
  rintro e w17 ⟨rfl, hb⟩
  rw [show okIv q1 q2 = true from HQO.out]
  replace HR16 := Aside.mk ((hb.block _ (lt_of HR16.out)).trans HR16.out)
  replace HR17 := Aside.mk ((hb.block _ (lt_of HR17.out)).trans HR17.out)
  replace HR18 := Aside.mk ((hb.block _ (lt_of HR18.out)).trans HR18.out)
  replace HIF := Aside.mk (HIF.out.below hb)
  replace HIG := Aside.mk (HIG.out.below hb)
  replace HB := Aside.mk (HB.out.trans (hb.mono HB.out.size))
  clear hb c0 c1 c2 c3 c4 c5
  have c0 : w17.cell? ⟨g16, 0, none⟩ = some (.int .i64 p1) := by rw [cell_of_row _ _ 0 _ _ _ HR16.out]; rfl
  have c1 : w17.cell? ⟨g16, 1, none⟩ = some (.int .i64 p2) := by rw [cell_of_row _ _ 1 _ _ _ HR16.out]; rfl
  have c2 : w17.cell? ⟨g17, 0, none⟩ = some (.int .i64 q1) := by rw [cell_of_row _ _ 0 _ _ _ HR17.out]; rfl
  have c3 : w17.cell? ⟨g17, 1, none⟩ = some (.int .i64 q2) := by rw [cell_of_row _ _ 1 _ _ _ HR17.out]; rfl
  have c4 : w17.cell? ⟨g18, 0, none⟩ = some (.int .i64 r1) := by rw [cell_of_row _ _ 0 _ _ _ HR18.out]; rfl
  have c5 : w17.cell? ⟨g18, 1, none⟩ = some (.int .i64 r2) := by rw [cell_of_row _ _ 1 _ _ _ HR18.out]; rfl
  go_wp2_with fail
  refine (rSubsetI_any (p1, p2) (q1, q2) HPQ.out w17).mono ?_
  rintro e w18 ⟨rfl, hb⟩
  replace HR16 := Aside.mk ((hb.block _ (lt_of HR16.out)).trans HR16.out)
  replace HR17 := Aside.mk ((hb.block _ (lt_of HR17.out)).trans HR17.out)
  replace HR18 := Aside.mk ((hb.block _ (lt_of HR18.out)).trans HR18.out)
  replace HIF := Aside.mk (HIF.out.below hb)
  replace HIG := Aside.mk (HIG.out.below hb)
  replace HB := Aside.mk (HB.out.trans (hb.mono HB.out.size))
  clear hb c0 c1 c2 c3 c4 c5
  have c0 : w18.cell? ⟨g16, 0, none⟩ = some (.int .i64 p1) := by rw [cell_of_row _ _ 0 _ _ _ HR16.out]; rfl
  have c1 : w18.cell? ⟨g16, 1, none⟩ = some (.int .i64 p2) := by rw [cell_of_row _ _ 1 _ _ _ HR16.out]; rfl
  have c2 : w18.cell? ⟨g17, 0, none⟩ = some (.int .i64 q1) := by rw [cell_of_row _ _ 0 _ _ _ HR17.out]; rfl
  have c3 : w18.cell? ⟨g17, 1, none⟩ = some (.int .i64 q2) := by rw [cell_of_row _ _ 1 _ _ _ HR17.out]; rfl
  have c4 : w18.cell? ⟨g18, 0, none⟩ = some (.int .i64 r1) := by rw [cell_of_row _ _ 0 _ _ _ HR18.out]; rfl
  have c5 : w18.cell? ⟨g18, 1, none⟩ = some (.int .i64 r2) := by rw [cell_of_row _ _ 1 _ _ _ HR18.out]; rfl
  go_wp2_with fail
  refine (rSubsetI_any (r1, r2) (p1, p2) HRP.out w18).mono ?_
  rintro e w19 ⟨rfl, hb⟩
  replace HR16 := Aside.mk ((hb.block _ (lt_of HR16.out)).trans HR16.out)
  replace HR17 := Aside.mk ((hb.block _ (lt_of HR17.out)).trans HR17.out)
  replace HR18 := Aside.mk ((hb.block _ (lt_of HR18.out)).trans HR18.out)
  replace HIF := Aside.mk (HIF.out.below hb)
  replace HIG := Aside.mk (HIG.out.below hb)
  replace HB := Aside.mk (HB.out.trans (hb.mono HB.out.size))
  clear hb c0 c1 c2 c3 c4 c5
  go_wp2_with fail
  refine (rSubset_any _ _ fx gy HFG.out w19 HIF.out HIG.out).mono ?_
  rintro e w20 ⟨rfl, hb⟩
  replace HB := Aside.mk (HB.out.trans (hb.mono HB.out.size))
  clear hb
  go_wp2_with fail
  go_ret
  exact ⟨rfl, HB.out⟩
end Go.Proofs.YthcidkidpiaomaaGreatDoor.Od
end
