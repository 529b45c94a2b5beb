/- OdZ OeA OeB OeC -/
import Derived.Test.YthcidkidpiaomaaGreatDoorKf12
section
set_option linter.unusedVariables false
set_option linter.unusedSimpArgs false
namespace Go.Proofs.YthcidkidpiaomaaGreatDoor.Od
open Go.RowKit Rg
theorem kwContains_any (w : World) (v : Value) (h : Strs w v kws) (x : ByteArray) (b : Bool) (hb : keyword x.data.toList = b) :
    Calls Tryz.prog 62 #[v, .string x] w fun e w' => e = .returned (.bool b) ∧ w' = w := by
  subst hb
  refine (contains_any w v kws h x).mono ?_
  rintro e w' ⟨rfl, rfl⟩
  exact ⟨by rw [kws_contains], rfl⟩
theorem enters_kw : ∀ args w, (callFunc 106 args).run Tryz.prog w = .ok (.enter 106 args) w := fun args w => by kernel_rfl
theorem enters_ct : ∀ args w, (callFunc 62 args).run Tryz.prog w = .ok (.enter 62 args) w := fun args w => by kernel_rfl
theorem Par.guard {w : World} {g : Nat} {B : Nat → Prop} {s : ByteArray} {nl : Bool} {σ : PS} (h : Par w g B s nl σ) (o : Obj) : Par (w.alloc o) g (fun j => B j ∨ j = w.heap.size) s nl σ := by
  have h2 := h.below ((Below.refl _ _).alloc (Nat.le_refl _) o)
  obtain ⟨v, hh, ho⟩ := h.here
  have hl := lt_of hh
  have hb : Below w.heap.size w (w.alloc o) := (Below.refl _ _).alloc (Nat.le_refl _) o
  refine ⟨⟨v, by rw [hb.block _ hl]; exact hh, owns_below ho.1 hb, fun k hk hB => ?_⟩, h.le, fun hB => ?_, h.len, h.few, fun k hk => ?_⟩
  · rcases hB with hB | rfl
    · exact ho.2 k hk hB
    · exact absurd (World.ownsRow.lt ho.1 _ hk).2 (Nat.lt_irrefl _)
  · rcases hB with hB | rfl
    · exact h.base hB
    · exact absurd hl (Nat.lt_irrefl _)
  · rcases hk with hk | rfl
    · exact h2.bnd k hk
    · simp
theorem Par.setIn {w : World} {g : Nat} {B : Nat → Prop} {s : ByteArray} {nl : Bool} {σ : PS} (h : Par w g B s nl σ) {k i : Nat} (hk : B k) (u : Value) : Par (w.setCell ⟨k, i, none⟩ u) g B s nl σ := by
  obtain ⟨v, hh, ho⟩ := h.here
  have hg : g ≠ k := fun e => h.base (e ▸ hk)
  refine ⟨⟨v, by rw [Below.heap_setCell _ _ _ _ hg]; exact hh, ?_, ho.2⟩, h.le, h.base, h.len, h.few, fun j hj => by simpa [World.setCell] using h.bnd j hj⟩
  obtain ⟨h1, h2⟩ := ho.1
  refine ⟨h1, ?_⟩
  rcases h2 with h2 | ⟨g', cap, cur, hv, hg', hh', r⟩
  · exact Or.inl h2
  · refine Or.inr ⟨g', cap, cur, hv, hg', ?_, r⟩
    have hne : g' ≠ k := fun e => ho.2 g' (by rw [hv]; rfl) (e ▸ hk)
    rw [Below.heap_setCell _ _ _ _ hne]; exact hh'
theorem Par.less {w : World} {g : Nat} {B B' : Nat → Prop} {s : ByteArray} {nl : Bool} {σ : PS} (h : Par w g B s nl σ) (hB : ∀ k, B' k → B k) : Par w g B' s nl σ := by
  obtain ⟨v, hh, ho⟩ := h.here
  exact ⟨⟨v, hh, ho.1, fun k hk hb => ho.2 k hk (hB k hb)⟩, h.le, fun hb => h.base (hB g hb), h.len, h.few, fun k hk => h.bnd k (hB k hk)⟩
theorem TB.more {B B' : Nat → Prop} {w : World} (h : TB B w) (hB : ∀ k, B k → B' k) : TB B' w := ⟨h.tabs, hB _ h.pow, hB _ h.rng⟩
theorem Fr.kept {PT TT : TypeId} {B : Nat → Prop} {w w' : World} {k : Nat} {o : Obj} (h : Fr PT TT B w w') (hk : w.heap[k]? = some o) (hB : B k) : w'.heap[k]? = some o := h.block k o hk (Or.inl hB)
set_option maxRecDepth 100000 in
set_option maxHeartbeats 8000000 in
theorem lineStart_any (w : World) (g : Nat) (B : Nat → Prop) (s : ByteArray) (σ : PS) (h : Par w g B s true σ) :
    Calls Tryz.prog 127 #[.pointer (some ⟨g, 0, none⟩)] w fun e w' => Got w g B s true (Od.lineStart s.data.toList σ) (fun t u _ => u = tokV s t ∧ t.kind = 1) e w' := by
  have hb0 : Below w.heap.size w (w.alloc (.cells #[.int .i64 0, .string ⟨#[]⟩, .int .i64 0] 108)) := (Below.refl _ _).alloc (Nat.le_refl _) _
  have hpg := h.guard (.cells #[.int .i64 0, .string ⟨#[]⟩, .int .i64 0] 108)
  have hrow := heap_alloc_last w (.cells #[.int .i64 0, .string ⟨#[]⟩, .int .i64 0] 108)
  have HP := Aside.mk hpg
  have HB0 := Aside.mk hb0
  have HR0 := Aside.mk hrow
  have HLE := Aside.mk h.inL
  clear h hpg hb0 hrow
  go_enter Tryz.func127, Tryz.ntmps127
  go_wp2_with fail
  obtain ⟨gr, hgr⟩ : ∃ gr, w.heap.size = gr := ⟨_, rfl⟩
  have HGR := Aside.mk hgr
  rw [hgr] at HP HR0
  simp only [hgr]
  generalize w.alloc (.cells #[.int .i64 0, .string ⟨#[]⟩, .int .i64 0] 108) = W0 at HP HB0 HR0 ⊢
  refine (peek_any W0 g _ s true σ HP.out).mono ?_
  rintro e w1 ⟨rfl, hf, hP⟩
  have HF := Aside.mk hf
  have HR1 := Aside.mk (hf.kept HR0.out (Or.inr rfl))
  have HP1 := Aside.mk (hP.guard (.cells #[.int .i64 (peekT true s.data.toList σ.pos).kind, .string (tokX s (peekT true s.data.toList σ.pos)), .int .i64 ((peekT true s.data.toList σ.pos).lo : Nat)] 108))
  clear hf hP HR0 HP
  rw [tokV_eq]
  have hok := peekT_ok true s.data.toList σ.pos HLE.out
  have HLS : Aside (Od.lineStart s.data.toList σ = if (peekT true s.data.toList σ.pos).kind ≠ 1 ∨ keyword (sub s.data.toList (peekT true s.data.toList σ.pos).lo (peekT true s.data.toList σ.pos).hi) = true then Od.fail true s.data.toList { σ with pos := (peekT true s.data.toList σ.pos).lo }
      else ((Od.expect true s.data.toList [39]).bind fun _ => (Od.expect true s.data.toList [61]).bind fun _ => Pr.ret (peekT true s.data.toList σ.pos)) { σ with pos := (peekT true s.data.toList σ.pos).hi }) := ⟨by unfold Od.lineStart; simp only⟩
  obtain ⟨K, hK⟩ : ∃ K, (peekT true s.data.toList σ.pos).kind = K := ⟨_, rfl⟩
  obtain ⟨x, hx⟩ : ∃ x, tokX s (peekT true s.data.toList σ.pos) = x := ⟨_, rfl⟩
  obtain ⟨q, hq⟩ : ∃ q, (peekT true s.data.toList σ.pos).lo = q := ⟨_, rfl⟩
  obtain ⟨E, hE⟩ : ∃ E, (peekT true s.data.toList σ.pos).hi = E := ⟨_, rfl⟩
  have HX := Aside.mk hx
  have HK := Aside.mk hK
  have HQ := Aside.mk hq
  have HE := Aside.mk hE
  rw [hK, hx, hq] at HP1 ⊢
  rw [hK, hq, hE] at HLS
  have HAL : Aside (Below w1.heap.size w1 (w1.alloc (.cells #[.int .i64 K, .string x, .int .i64 (q : Nat)] 108))) := ⟨(Below.refl _ _).alloc (Nat.le_refl _) _⟩
  have HRT := Aside.mk (heap_alloc_last w1 (.cells #[.int .i64 K, .string x, .int .i64 (q : Nat)] 108))
  have HR2 := Aside.mk ((HAL.out.block _ (lt_of HR1.out)).trans HR1.out)
  have HF2 := Aside.mk (HF.out.trans (Fr.of HAL.out))
  by_cases hk1 : K = 1
  · subst hk1
    have hxx : s.extract q E = x := by have := HX.out; unfold tokX at this; rw [if_neg (by rw [HK.out]; decide), HQ.out, HE.out] at this; exact this
    have hle := hok.le
    have hlen := hok.len
    rw [hE] at hle hlen
    rw [hq] at hle
    have hsl : s.data.toList.length = s.size := rfl
    have hxs : x.size = E - q := by rw [← hxx, ByteArray.size_extract]; omega
    have HXL : Aside (sub s.data.toList q E = x.data.toList) := ⟨by rw [← hxx, sub_extract]⟩
    have HQE : Aside (q ≤ E ∧ E ≤ s.size ∧ x.size = E - q) := ⟨by omega⟩
    clear hok hxx hle hlen hsl hxs hK hx hq hE
    go_wp2_with fail
    obtain ⟨gt, hgt⟩ : ∃ gt, w1.heap.size = gt := ⟨_, rfl⟩
    rw [hgt] at HP1 HRT
    simp only [hgt]
    generalize w1.alloc (.cells #[.int .i64 1, .string x, .int .i64 (q : Nat)] 108) = W at HP1 HAL HRT HR2 HF2 ⊢
    have c0 : W.cell? ⟨gt, 0, none⟩ = some (.int .i64 1) := by rw [cell_of_row _ _ 0 _ _ _ HRT.out]; rfl
    have c1 : W.cell? ⟨gt, 1, none⟩ = some (.string x) := by rw [cell_of_row _ _ 1 _ _ _ HRT.out]; rfl
    have hl : gt < W.heap.size := lt_of HRT.out
    clear hgt HAL HR1 HF
    obtain ⟨kb, hkb⟩ : ∃ b, keyword x.data.toList = b := ⟨_, rfl⟩
    have HKW := Aside.mk hkb
    clear hkb
    cases kb with
    | true =>
      have HLS : Aside (Od.lineStart s.data.toList σ = Od.fail true s.data.toList { σ with pos := q }) := ⟨by rw [HLS.out, if_pos (Or.inr (by rw [HXL.out]; exact HKW.out))]⟩
      refine region_u (T := tab2 [Sq.val (.pointer (some ⟨gt, 0, none⟩)), Sq.val (.int .i64 1), Sq.val (.bool false), Sq.val (.bool false), Sq.row W.heap.size #[.string ⟨#[116]⟩, .string ⟨#[115, 113, 114]⟩, .string ⟨#[115, 113, 114, 116]⟩, .string ⟨#[97, 108, 108]⟩] 9 4 4, Sq.val (.pointer (some ⟨gt, 1, none⟩)), Sq.val (.string x), Sq.val (.bool true)]) [6, 7, 8, 9, 10, 11, 12, 13] 8 (tells_q _) rfl rfl ?_ ?_
      · iterate 4 (refine AllV.val rfl (fun w hb => by simp [execOp, Act.eval, kp hb c0, kp hb c1, go_sem]) ?_)
        refine AllV.cons ?_ ?_
        · intro a w hz hb ho hg
          exact Or.inl ⟨by rw [wanted_of (j := 3) rfl rfl rfl (show a.tmps.getD 9 undef = .bool false from got_of hg (j := 3) rfl rfl rfl)]; rfl, wp_calls hb.size (run_call (args := #[]) enters_kw (by simp [Act.eval])) ((keywords_any w).mono (by rintro e w' ⟨rfl, rfl⟩; exact ⟨_, rfl, (Below.refl _ _).alloc (Nat.le_refl _) _, ⟨w.heap.size, hb.size, rfl, heap_alloc_last _ _⟩⟩))⟩
        iterate 2 (refine AllV.val rfl (fun w hb => by simp [execOp, Act.eval, kp hb c0, kp hb c1, go_sem]) ?_)
        refine AllV.cons ?_ ?_
        · intro a w hz hb ho hg
          have e10 := (got_of hg (j := 4) rfl rfl rfl : Rg.Tab.S _ _ (a.tmps.getD 10 undef) w)
          have e12 := gq (j := 6) hg rfl rfl rfl rfl
          have f12 := Rg.gd e12
          obtain ⟨gk, hgk, hv, hrow⟩ := e10; rw [Array.getD_eq_getD_getElem?] at hv; exact Or.inl ⟨by rw [wanted_of (j := 3) rfl rfl rfl (show a.tmps.getD 9 undef = .bool false from got_of hg (j := 3) rfl rfl rfl)]; rfl, wp_calls hb.size (run_call (args := #[.slice (some ⟨gk, 0, none⟩) 4 4, .string x]) enters_ct (by simp [Act.eval, hv, f12])) ((kwContains_any _ _ (kw_strs hrow) x _ HKW.out).mono (by rintro e w' ⟨rfl, rfl⟩; exact ⟨_, rfl, Below.refl _ _, rfl⟩))⟩
        exact AllV.nil
      intro us w3 hb hus fu hfu
      obtain ⟨g10, G10, e10, R10⟩ := hus 4 (by decide)
      rw [mrg_of (by kernel_rfl)] at hfu
      simp only [mrg, List.map_cons, List.map_nil, Sq.told, Option.getD_some, Option.getD_none, Nat.reduceAdd, Nat.reduceEqDiff, ↓reduceIte, e10] at hfu
      subst hfu
      clear hus e10
      simp only [List.drop_succ_cons, List.drop_zero]
      have HH3 := Aside.mk hb
      clear hb
      have HF3 := Aside.mk (HF2.out.trans (Fr.of HH3.out))
      have HP3 := Aside.mk (HP1.out.below HH3.out)
      clear HH3
      go_wp2_with fail
      refine (fail_any (α := Tok) (fun _ _ _ => True) _ g _ s true _ HP3.out).mono ?_
      rintro e w5 ⟨hf5, rfl⟩
      have HF5 : Aside (FrP B w w5) := ⟨(Fr.of HB0.out).trans ((HF3.out.trans (hf5.less fun k hk => Or.inl hk)).less fun k hk => Or.inl hk)⟩
      clear hf5
      go_wp2_with fail
      rw [HLS.out]
      exact ⟨rfl, HF5.out, rfl⟩
    | false =>
      have HLS : Aside (Od.lineStart s.data.toList σ = ((Od.expect true s.data.toList [39]).bind fun _ => (Od.expect true s.data.toList [61]).bind fun _ => Pr.ret (peekT true s.data.toList σ.pos)) { σ with pos := E }) := ⟨by rw [HLS.out, if_neg (fun h => h.elim (fun h => h rfl) (fun h => by rw [HXL.out, HKW.out] at h; cases h))]⟩
      refine region_u (T := tab2 [Sq.val (.pointer (some ⟨gt, 0, none⟩)), Sq.val (.int .i64 1), Sq.val (.bool false), Sq.val (.bool false), Sq.row W.heap.size #[.string ⟨#[116]⟩, .string ⟨#[115, 113, 114]⟩, .string ⟨#[115, 113, 114, 116]⟩, .string ⟨#[97, 108, 108]⟩] 9 4 4, Sq.val (.pointer (some ⟨gt, 1, none⟩)), Sq.val (.string x), Sq.val (.bool false)]) [6, 7, 8, 9, 10, 11, 12, 13] 8 (tells_q _) rfl rfl ?_ ?_
      · iterate 4 (refine AllV.val rfl (fun w hb => by simp [execOp, Act.eval, kp hb c0, kp hb c1, go_sem]) ?_)
        refine AllV.cons ?_ ?_
        · intro a w hz hb ho hg
          exact Or.inl ⟨by rw [wanted_of (j := 3) rfl rfl rfl (show a.tmps.getD 9 undef = .bool false from got_of hg (j := 3) rfl rfl rfl)]; rfl, wp_calls hb.size (run_call (args := #[]) enters_kw (by simp [Act.eval])) ((keywords_any w).mono (by rintro e w' ⟨rfl, rfl⟩; exact ⟨_, rfl, (Below.refl _ _).alloc (Nat.le_refl _) _, ⟨w.heap.size, hb.size, rfl, heap_alloc_last _ _⟩⟩))⟩
        iterate 2 (refine AllV.val rfl (fun w hb => by simp [execOp, Act.eval, kp hb c0, kp hb c1, go_sem]) ?_)
        refine AllV.cons ?_ ?_
        · intro a w hz hb ho hg
          have e10 := (got_of hg (j := 4) rfl rfl rfl : Rg.Tab.S _ _ (a.tmps.getD 10 undef) w)
          have e12 := gq (j := 6) hg rfl rfl rfl rfl
          have f12 := Rg.gd e12
          obtain ⟨gk, hgk, hv, hrow⟩ := e10; rw [Array.getD_eq_getD_getElem?] at hv; exact Or.inl ⟨by rw [wanted_of (j := 3) rfl rfl rfl (show a.tmps.getD 9 undef = .bool false from got_of hg (j := 3) rfl rfl rfl)]; rfl, wp_calls hb.size (run_call (args := #[.slice (some ⟨gk, 0, none⟩) 4 4, .string x]) enters_ct (by simp [Act.eval, hv, f12])) ((kwContains_any _ _ (kw_strs hrow) x _ HKW.out).mono (by rintro e w' ⟨rfl, rfl⟩; exact ⟨_, rfl, Below.refl _ _, rfl⟩))⟩
        exact AllV.nil
      intro us w3 hb hus fu hfu
      obtain ⟨g10, G10, e10, R10⟩ := hus 4 (by decide)
      rw [mrg_of (by kernel_rfl)] at hfu
      simp only [mrg, List.map_cons, List.map_nil, Sq.told, Option.getD_some, Option.getD_none, Nat.reduceAdd, Nat.reduceEqDiff, ↓reduceIte, e10] at hfu
      subst hfu
      clear hus e10
      simp only [List.drop_succ_cons, List.drop_zero]
      have HH3 := Aside.mk hb
      clear hb
      have HF3 := Aside.mk (HF2.out.trans (Fr.of HH3.out))
      have HP3 := Aside.mk (HP1.out.below HH3.out)
      have HRT3 := Aside.mk ((HH3.out.block _ hl).trans HRT.out)
      have HR3 := Aside.mk ((HH3.out.block _ (lt_of HR2.out)).trans HR2.out)
      clear HH3 c0 c1 hl
      obtain ⟨-, c1, -, hlg, -, -, -⟩ := HP3.out.cells
      simp only at c1
      have hcx : w3.cell? ⟨gt, 1, none⟩ = some (.string x) := by rw [cell_of_row _ _ 1 _ _ _ HRT3.out]; rfl
      have hgl := lt_of HRT3.out
      have hw : IntKind.i64.wrap ((q : Int) + (x.size : Int)) = (q : Int) + (x.size : Int) := IntWalk.i64_in _ (by have := HQE.out; have := HP3.out.len; omega)
      go_wp2_with fail
      refine region_v [17, 18, 19, 20, 21, 22, 23, 24, 25, 26] 10 [.pointer (some ⟨g, 0, none⟩), .pointer (some ⟨g, 0, none⟩), .pointer (some ⟨g, 1, none⟩), .int .i64 (q : Nat), .pointer (some ⟨gt, 1, none⟩), .string x, .int .i64 (x.size : Nat), .int .i64 ((q : Int) + (x.size : Int)), .pointer (some ⟨g, 0, none⟩), .pointer (some ⟨g, 1, none⟩)] rfl rfl ?_ ?_
      · iterate 10 (refine AllV.val rfl (fun w hb => by simp [execOp, Act.eval, kp hb c1, kp hb hcx, hw, go_sem]) ?_)
        exact AllV.nil
      intro w4 hb
      simp only [List.drop_succ_cons, List.drop_zero]
      have HH4 := Aside.mk hb
      clear hb
      have HP4 := Aside.mk (HP3.out.below HH4.out)
      have HF4 := Aside.mk (HF3.out.trans (Fr.of HH4.out))
      have HRT4 := Aside.mk ((HH4.out.block _ hgl).trans HRT3.out)
      have HR4 := Aside.mk ((HH4.out.block _ (lt_of HR3.out)).trans HR3.out)
      clear c1 hlg hcx hgl HH4 HRT3 HR3 HP3 HF3
      obtain ⟨-, c1, -, hlg, hz1, -, -⟩ := HP4.out.cells
      simp only at c1
      go_wp2_with fail
      have hxe : (q : Int) + (x.size : Int) = ((E : Nat) : Int) := by have := HQE.out; omega
      rw [hxe]
      have hgt : gt ≠ g := by
        rintro rfl
        have h1 := HRT4.out
        obtain ⟨v, h2, -⟩ := HP4.out.here
        rw [h1] at h2
        injection h2 with h2; injection h2 with _ h2 _; revert h2; decide
      have hgr : gr ≠ g := by
        rintro rfl
        have h1 := HR4.out
        obtain ⟨v, h2, -⟩ := HP4.out.here
        rw [h1] at h2
        injection h2 with h2; injection h2 with _ h2 _; revert h2; decide
      have HP5 := Aside.mk (HP4.out.set E HQE.out.2.1 HQE.out.1)
      have HF5 := Aside.mk (HF4.out.trans ((HP4.out.fr 1 (.int .i64 (E : Nat))).less fun k hk => Or.inl hk))
      have HRT5 : Aside ((w4.setCell ⟨g, 1, none⟩ (.int .i64 (E : Nat))).heap[gt]? = _) := ⟨(Below.heap_setCell _ _ _ _ hgt).trans HRT4.out⟩
      have HR5 : Aside ((w4.setCell ⟨g, 1, none⟩ (.int .i64 (E : Nat))).heap[gr]? = _) := ⟨(Below.heap_setCell _ _ _ _ hgr).trans HR4.out⟩
      generalize (w4.setCell ⟨g, 1, none⟩ (.int .i64 (E : Nat))) = W5 at HP5 HF5 HRT5 HR5 ⊢
      clear c1 hlg hz1 hxe hw HP4 HF4 HRT4 HR4 hgt hgr
      refine (expect_any W5 g _ s true _ HP5.out ⟨#[39]⟩).mono ?_
      rintro e w6 hg
      rw [show (⟨#[39]⟩ : ByteArray).data.toList = [39] from rfl] at hg
      cases hx : Od.expect true s.data.toList [39] { σ with pos := E } with
      | err cc o =>
        have HXa := Aside.mk hx
        rw [hx] at hg
        clear hx
        obtain ⟨hf, rfl⟩ := hg
        have HFe : Aside (FrP B w w6) := ⟨(Fr.of HB0.out).trans ((HF5.out.trans (hf.less fun k hk => Or.inl hk)).less fun k hk => Or.inl hk)⟩
        clear hf
        go_wp2_with fail
        rw [HLS.out]
        simp only [Pr.bind, HXa.out]
        exact ⟨rfl, HFe.out, rfl⟩
      | ok a6 σ6 =>
        have HXa := Aside.mk hx
        rw [hx] at hg
        clear hx
        obtain ⟨hf, ⟨u, rfl, rfl⟩, hP⟩ := hg
        have HF6 := Aside.mk (HF5.out.trans (hf.less fun k hk => Or.inl hk))
        have HRT6 := Aside.mk (hf.kept HRT5.out (Or.inr rfl))
        have HR6 := Aside.mk (hf.kept HR5.out (Or.inl (Or.inr rfl)))
        have HP6 := Aside.mk hP
        clear hf hP
        go_wp2_with fail
        refine (expect_any w6 g _ s true _ HP6.out ⟨#[61]⟩).mono ?_
        rintro e w7 hg
        rw [show (⟨#[61]⟩ : ByteArray).data.toList = [61] from rfl] at hg
        cases hy : Od.expect true s.data.toList [61] σ6 with
        | err cc o =>
          have HYa := Aside.mk hy
          rw [hy] at hg
          clear hy
          obtain ⟨hf, rfl⟩ := hg
          have HFe : Aside (FrP B w w7) := ⟨(Fr.of HB0.out).trans ((HF6.out.trans (hf.less fun k hk => Or.inl hk)).less fun k hk => Or.inl hk)⟩
          clear hf
          go_wp2_with fail
          rw [HLS.out]
          simp only [Pr.bind, HXa.out, HYa.out]
          exact ⟨rfl, HFe.out, rfl⟩
        | ok a7 σ7 =>
          have HYa := Aside.mk hy
          rw [hy] at hg
          clear hy
          obtain ⟨hf, ⟨u, rfl, rfl⟩, hP⟩ := hg
          have HF7 := Aside.mk (HF6.out.trans (hf.less fun k hk => Or.inl hk))
          have HRT7 := Aside.mk (hf.kept HRT6.out (Or.inr rfl))
          have HR7 := Aside.mk (hf.kept HR6.out (Or.inl (Or.inr rfl)))
          have HP7 := Aside.mk hP
          clear hf hP
          have t0 : w7.cell? ⟨gt, 0, none⟩ = some (.int .i64 1) := by rw [cell_of_row _ _ 0 _ _ _ HRT7.out]; rfl
          have t1 : w7.cell? ⟨gt, 1, none⟩ = some (.string x) := by rw [cell_of_row _ _ 1 _ _ _ HRT7.out]; rfl
          have t2 : w7.cell? ⟨gt, 2, none⟩ = some (.int .i64 (q : Nat)) := by rw [cell_of_row _ _ 2 _ _ _ HRT7.out]; rfl
          have r0 : w7.cell? ⟨gr, 0, none⟩ = some (.int .i64 0) := by rw [cell_of_row _ _ 0 _ _ _ HR7.out]; rfl
          have r1 : w7.cell? ⟨gr, 1, none⟩ = some (.string ⟨#[]⟩) := by rw [cell_of_row _ _ 1 _ _ _ HR7.out]; rfl
          have r2 : w7.cell? ⟨gr, 2, none⟩ = some (.int .i64 0) := by rw [cell_of_row _ _ 2 _ _ _ HR7.out]; rfl
          have f0 : w7.frozen? ⟨gr, 0, none⟩ = false := by simp [World.frozen?, HR7.out]
          have f1 : w7.frozen? ⟨gr, 1, none⟩ = false := by simp [World.frozen?, HR7.out]
          have f2 : w7.frozen? ⟨gr, 2, none⟩ = false := by simp [World.frozen?, HR7.out]
          go_wp2_with fail
          have hfin := set3 HR7.out (.int .i64 1) (.string x) (.int .i64 (q : Nat))
          have hP8 := ((HP7.out.setIn (k := gr) (i := 0) (Or.inl (Or.inr rfl)) (.int .i64 1)).setIn (k := gr) (i := 1) (Or.inl (Or.inr rfl)) (.string x)).setIn (k := gr) (i := 2) (Or.inl (Or.inr rfl)) (.int .i64 (q : Nat))
          have hF8 : FrP B w (((w7.setCell ⟨gr, 0, none⟩ (.int .i64 1)).setCell ⟨gr, 1, none⟩ (.string x)).setCell ⟨gr, 2, none⟩ (.int .i64 (q : Nat))) := ((((Fr.of HB0.out).trans (HF7.out.less fun k hk => Or.inl hk)).setNew (Nat.le_of_eq HGR.out) _).setNew (Nat.le_of_eq HGR.out) _).setNew (Nat.le_of_eq HGR.out) _
          refine bodyPost_ret (results_cell_row rfl _ _ gr 108 #[.int .i64 1, .string x, .int .i64 (q : Nat)] (0, 0) _ rfl hfin Tryz.underlying108 rfl (by kernel_rfl)) rfl ?_
          rw [HLS.out]
          simp only [Pr.bind, HXa.out, HYa.out, Pr.ret]
          refine ⟨hF8, ⟨_, rfl, ?_, HK.out⟩, hP8.less fun k hk => Or.inl (Or.inl hk)⟩
          rw [tokV_eq, HK.out, HX.out, HQ.out]
  · have hK1 : (K == 1) = false := by rw [beq_eq_false_iff_ne]; exact hk1
    have HLS : Aside (Od.lineStart s.data.toList σ = Od.fail true s.data.toList { σ with pos := q }) := ⟨by rw [HLS.out, if_pos (Or.inl hk1)]⟩
    clear hok hK hx hq hE
    go_wp2_with fail
    obtain ⟨gt, hgt⟩ : ∃ gt, w1.heap.size = gt := ⟨_, rfl⟩
    rw [hgt] at HP1 HRT
    simp only [hgt]
    generalize w1.alloc (.cells #[.int .i64 K, .string x, .int .i64 (q : Nat)] 108) = W at HP1 HAL HRT HR2 HF2 ⊢
    have c0 : W.cell? ⟨gt, 0, none⟩ = some (.int .i64 K) := by rw [cell_of_row _ _ 0 _ _ _ HRT.out]; rfl
    have hl : gt < W.heap.size := lt_of HRT.out
    have hkd : (K != 1) = true := by simpa using hk1
    clear hgt HAL HR1 HF
    go_quiet (fail)
    go_wp2_with fail
    refine (fail_any (α := Tok) (fun _ _ _ => True) (W.drewN nq) g _ s true _ (HP1.out.below ⟨rfl, rfl, rfl, Nat.le_refl _, fun _ _ => rfl⟩)).mono ?_
    rintro e w5 ⟨hf5, rfl⟩
    have HF5 : Aside (FrP B w w5) := ⟨(Fr.of HB0.out).trans (((HF2.out.trans (Fr.of (w1 := W.drewN nq) ⟨rfl, rfl, rfl, Nat.le_refl _, fun _ _ => rfl⟩)).trans (hf5.less fun k hk => Or.inl hk)).less fun k hk => Or.inl hk)⟩
    clear hf5
    go_wp2_with fail
    rw [HLS.out]
    exact ⟨rfl, HF5.out, rfl⟩
end Go.Proofs.YthcidkidpiaomaaGreatDoor.Od
end
section
set_option linter.unusedVariables false
set_option linter.unusedSimpArgs false
namespace Go.Proofs.YthcidkidpiaomaaGreatDoor.Od
open Go.RowKit Rg
theorem skipNl_true {L : List UInt8} {k : Nat} {b : Bool} {σ σ' : PS} (h : Od.accept true L [10] σ = .ok true σ') : Od.skipNl L (k + 1) b σ = Od.skipNl L k true σ' := by
  conv => lhs; unfold Od.skipNl
  simp only [Pr.bind, h]
  rfl
theorem skipNl_false {L : List UInt8} {k : Nat} {b : Bool} {σ σ' : PS} (h : Od.accept true L [10] σ = .ok false σ') : Od.skipNl L (k + 1) b σ = .ok b σ' := by
  conv => lhs; unfold Od.skipNl
  simp only [Pr.bind, h]
  rfl
set_option maxRecDepth 100000 in
set_option maxHeartbeats 8000000 in
theorem skipNl_any (w : World) (g : Nat) (B : Nat → Prop) (s : ByteArray) (σ : PS) (h : Par w g B s true σ) (gb : Nat) (hb : w.heap[gb]? = some (.cells #[.pointer (some ⟨g, 0, none⟩)] 101 (0, 0))) :
    Calls Tryz.prog 125 #[.pointer (some ⟨gb, 0, none⟩)] w fun e w' => Got w g B s true (Od.skipNl s.data.toList (s.data.toList.length + 1) false σ) (fun b u _ => u = .bool b) e w' := by
  have HP := Aside.mk h
  have HB := Aside.mk hb
  have hsl : s.data.toList.length = s.size := rfl
  clear h hb
  go_enter Tryz.func125, Tryz.ntmps125
  go_wp2_with fail
  go_loopg [2] s.size (fun m v2 wr => ∃ (b : Bool) (σ1 : PS) (k : Nat), v2 = .bool b ∧ Aside (Par wr g B s true σ1) ∧ Aside (FrP B w wr) ∧ Aside (s.size < k + σ1.pos ∧ s.size - σ1.pos ≤ m) ∧ Aside (Od.skipNl s.data.toList (s.data.toList.length + 1) false σ = Od.skipNl s.data.toList k b σ1))
  case atStart => exact ⟨false, σ, s.data.toList.length + 1, rfl, HP, ⟨Fr.refl w⟩, ⟨by omega⟩, ⟨rfl⟩⟩
  case round =>
    clear HP
    obtain ⟨b, σ1, k, rfl, HP, HF, HM, HE⟩ := hrel
    cases k with
    | zero => exfalso; have := HM.out.1; have := HP.out.le; omega
    | succ k =>
      have HBX := Aside.mk (HF.out.cell HB.out (by decide))
      have cb : wr.cell? ⟨gb, 0, none⟩ = some (.pointer (some ⟨g, 0, none⟩)) := by rw [cell_of_row _ _ 0 _ _ _ HBX.out]; rfl
      obtain ⟨a, σ2, ha⟩ := accept_eq true s.data.toList [10] σ1
      have HA := Aside.mk ha
      clear ha
      go_wp2_with fail
      refine (accept_any wr g B s true σ1 HP.out ⟨#[10]⟩).mono ?_
      rintro e w2 hg
      rw [show (⟨#[10]⟩ : ByteArray).data.toList = [10] from rfl, HA.out] at hg
      obtain ⟨hf, ⟨u, rfl, rfl⟩, hP2⟩ := hg
      have HF2 := Aside.mk (HF.out.trans hf)
      have HP2 := Aside.mk hP2
      clear hf hP2 cb
      cases a with
      | true =>
        have HPOS := Aside.mk (accept_true HP.out.inL HA.out)
        have HE2 := Aside.mk (HE.out.trans (skipNl_true HA.out))
        go_wp2_with fail
        obtain ⟨go, hgo⟩ : ∃ go, gk = go + 1 := ⟨gk - 1, by have := HM.out; have := HPOS.out; have := HP2.out.le; omega⟩
        go_roundg go
        case measure => omega
        case rel => exact ⟨true, σ2, k, rfl, HP2, HF2, ⟨by have := HM.out; have := HPOS.out.1; omega⟩, HE2⟩
      | false =>
        have HE2 := Aside.mk (HE.out.trans (skipNl_false HA.out))
        go_wp2_with fail
        go_ret
        rw [HE2.out]
        exact ⟨HF2.out, ⟨_, rfl, rfl⟩, HP2.out⟩
end Go.Proofs.YthcidkidpiaomaaGreatDoor.Od
end
section
set_option linter.unusedVariables false
set_option linter.unusedSimpArgs false
namespace Go.Proofs.YthcidkidpiaomaaGreatDoor.Od
open Go.RowKit Rg
theorem wpList_of_run {ops : Array Oper} {rest : List Oper} {o : Oper} {a : Act} {w w' : World} {v : Value} {Q : Exit → Act → World → Prop} (hg : o.guard = none) (hr : (execOp a.eval o).run Tryz.prog w = .ok (.value v) w') (h : wpList Tryz.prog ops Q rest (a.put o.dst v) w') :
    wpList Tryz.prog ops Q (o :: rest) a w := by
  refine wpList_plain hg fun K hK => ?_
  unfold Oper.wp
  rw [hr, Oper.upon_value]
  exact hK _ _ h
theorem Par.frT {T : TypeId} {w w' : World} {g : Nat} {B K : Nat → Prop} {s : ByteArray} {nl : Bool} {σ : PS} (h : Par w g B s nl σ) (hf : Fr T T K w w') (h1 : ((104 : Nat) == T || (104 : Nat) == T) = false) (h2 : ((108 : Nat) == T || (108 : Nat) == T) = false) : Par w' g B s nl σ := by
  obtain ⟨v, hh, ho⟩ := h.here
  refine ⟨⟨v, hf.cell hh h1, ?_, ho.2⟩, h.le, h.base, h.len, h.few, fun k hk => Nat.lt_of_lt_of_le (h.bnd k hk) hf.size⟩
  obtain ⟨g1, g2⟩ := ho.1
  refine ⟨g1, ?_⟩
  rcases g2 with g2 | ⟨g', cap, cur, hv, hg, hh, r⟩
  · exact Or.inl g2
  · exact Or.inr ⟨g', cap, cur, hv, hg, hf.cell hh h2, r⟩
theorem owns_fr {PT TT T : TypeId} {base sz n : Nat} {B : Nat → Prop} {w w' : World} {v : Value} {xs : List Value} (h : w.ownsRow base T sz v n xs) (hf : Fr PT TT B w w') (hT : (T == PT || T == TT) = false) : w'.ownsRow base T sz v n xs := by
  obtain ⟨g1, g2⟩ := h
  refine ⟨g1, ?_⟩
  rcases g2 with g2 | ⟨g', cap, cur, hv, hg, hh, r⟩
  · exact Or.inl g2
  · exact Or.inr ⟨g', cap, cur, hv, hg, hf.cell hh hT, r⟩
theorem owns_in {PT TT T : TypeId} {base sz n : Nat} {B : Nat → Prop} {w w' : World} {v : Value} {xs : List Value} (h : w.ownsRow base T sz v n xs) (hf : Fr PT TT B w w') (hB : ∀ k, v.ownBlock = some k → B k) : w'.ownsRow base T sz v n xs := by
  obtain ⟨g1, g2⟩ := h
  refine ⟨g1, ?_⟩
  rcases g2 with g2 | ⟨g', cap, cur, rfl, hg, hh, r⟩
  · exact Or.inl g2
  · exact Or.inr ⟨g', cap, cur, rfl, hg, hf.kept hh (hB _ rfl), r⟩
def Plus (B : Nat → Prop) (v : Value) : Nat → Prop := fun k => B k ∨ v.ownBlock = some k
theorem info_sums : (Tryz.prog.info? 26).map (fun i => (i.zero, i.size, i.bytes)) = some (some (.slice none 0 0), 1, 24) := by kernel_rfl
abbrev FrS := Fr 26 26
structure Sums (base : Nat) (w : World) (v : Value) (us : List Value) (ts : List Tr) : Prop where
  row : w.ownsRow base 26 1 v us.length us
  len : us.length = ts.length
  own : ∀ (i : Nat) (u : Value) (t : Tr), us[i]? = some u → ts[i]? = some t → OwnN base w u (flat t)
  apart : ∀ (i j : Nat) (u v : Value) (k l : Nat), i < j → us[i]? = some u → us[j]? = some v → u.ownBlock = some k → v.ownBlock = some l → k < l
theorem Sums.fr {PT TT : TypeId} {base : Nat} {B : Nat → Prop} {w w' : World} {v : Value} {us : List Value} {ts : List Tr} (h : Sums base w v us ts) (hf : Fr PT TT B w w') (h1 : ((26 : Nat) == PT || (26 : Nat) == TT) = false) (h2 : ((79 : Nat) == PT || (79 : Nat) == TT) = false) : Sums base w' v us ts :=
  ⟨owns_fr h.row hf h1, h.len, fun i u t hu ht => owns_fr (h.own i u t hu ht) hf h2, h.apart⟩
theorem run_append_sum (w : World) {o : Oper} {a : Act} (p x : Operand) (hop : o.op = Op.call { callee := Callee.builtin Builtin.append, args := #[p, x], argTypes := #[23, 23] })
    (base : Nat) (v : Value) (us : List Value) (ts : List Tr) (hs : a.eval p = v) (h : Sums base w v us ts) (u : Value) (t : Tr) (gk : Nat) (hx : a.eval x = .slice (some ⟨gk, 0, none⟩) 1 1)
    (hr : w.heap[gk]? = some (.cells #[u] 26 (0, 0))) (hu : OwnN base w u (flat t)) (hlate : ∀ (k l j : Nat) (y : Value), us[j]? = some y → y.ownBlock = some k → u.ownBlock = some l → k < l)
    (hbd : us.length ≤ 9000) (hbase : base ≤ w.heap.size) :
    ∃ ao cap w', (execOp a.eval o).run Tryz.prog w = .ok (.value (.slice ao (us.length + 1) cap)) w' ∧ Sums base w' (.slice ao (us.length + 1) cap) (us ++ [u]) (ts ++ [t]) ∧ FrS (fun k => k < base) w w' := by
  obtain ⟨i0, hi, hz0, hz1, hz2⟩ := info_parts' info_sums
  have hcell : ∀ (j : Nat) (y : Value), [u][j]? = some y → w.cell? ((⟨gk, 0, none⟩ : Addr).add j) = some y := by
    intro j y hy
    cases j with
    | zero =>
      obtain rfl := Option.some.inj hy
      have := cell_of_row w gk 0 _ _ _ hr
      simpa [Addr.add] using this
    | succ j => cases hy
  have hone : ∀ y ∈ [u], y.oneCell' = true := by
    intro y hy
    obtain rfl := List.mem_singleton.1 hy
    obtain ⟨-, h2⟩ := hu
    rcases h2 with ⟨rfl, -⟩ | ⟨g', cap, cur, rfl, -⟩ <;> rfl
  obtain ⟨v', w', hrun, hown', hgr, -, hblk⟩ := run_append_own_at (P := Tryz.prog) w base 23 o.type 26 i0 _ 1 24 Tryz.underlying23 hi hz0 hz1 hz2 rfl (by omega) v us.length _ h.row ⟨gk, 0, none⟩ 1 1 [u] rfl hcell hone (by simp only [maxLen]; omega) (by omega) hbase
  have hv : ∃ ao cap, v' = .slice ao (us.length + 1) cap := by
    obtain ⟨-, h2⟩ := hown'
    rcases h2 with ⟨rfl, hn⟩ | ⟨g', cap, cur, rfl, -⟩
    · omega
    · exact ⟨_, _, rfl⟩
  obtain ⟨ao, cap, rfl⟩ := hv
  have hF : FrS (fun k => k < base) w w' := Fr.grown hgr fun k hk => by
    obtain ⟨-, h2⟩ := h.row
    rcases h2 with ⟨rfl, -⟩ | ⟨g', cap', cur, rfl, hg', hh, -⟩
    · cases hk
    · obtain rfl := Option.some.inj hk
      exact ⟨by show ¬ (g' < base); omega, _, _, hh⟩
  refine ⟨ao, cap, w', ?_, ⟨by simpa using hown', by simp [h.len], fun i y z hy hz => ?_, fun i j y z k l hij hy hz hk hl => ?_⟩, hF⟩
  · unfold execOp
    simp only [hop, Go.resolve, invoke, builtin, Sem.run_bind, Sem.run_pure, Result.andThen_ok, List.map_toArray, List.map_cons, List.map_nil, hs, hx, hrun]
  · by_cases hi : i < us.length
    · rw [List.getElem?_append_left hi] at hy
      rw [List.getElem?_append_left (by have := h.len; omega)] at hz
      exact owns_fr (h.own i y z hy hz) hF (by decide)
    · have hlt := (List.getElem?_eq_some_iff.1 hy).1
      simp only [List.length_append, List.length_singleton] at hlt
      have hie : i = us.length := by omega
      subst hie
      rw [List.getElem?_append_right (Nat.le_refl _), Nat.sub_self] at hy
      rw [List.getElem?_append_right (by have := h.len; omega), show us.length - ts.length = 0 by have := h.len; omega] at hz
      obtain rfl := Option.some.inj hy
      obtain rfl := Option.some.inj hz
      exact owns_fr hu hF (by decide)
  · by_cases hj : j < us.length
    · rw [List.getElem?_append_left hj] at hz
      rw [List.getElem?_append_left (by omega)] at hy
      exact h.apart i j y z k l hij hy hz hk hl
    · have hlt := (List.getElem?_eq_some_iff.1 hz).1
      simp only [List.length_append, List.length_singleton] at hlt
      have hje : j = us.length := by omega
      subst hje
      rw [List.getElem?_append_right (Nat.le_refl _), Nat.sub_self] at hz
      rw [List.getElem?_append_left hij] at hy
      obtain rfl := Option.some.inj hz
      exact hlate k l i y hy hk hl
theorem wpList_append_tok (w : World) {ops : Array Oper} {rest : List Oper} {o : Oper} {a : Act} {Q : Exit → Act → World → Prop} (hg : o.guard = none) (p x : Operand) (hop : o.op = Op.call { callee := Callee.builtin Builtin.append, args := #[p, x], argTypes := #[102, 102] })
    (base : Nat → Prop) (v : Value) (s : ByteArray) (A : List (Nat × Nat)) (hs : a.eval p = v) (h : OwnT base w v A.length (toks s A)) (r : Nat × Nat) (gk : Nat) (hx : a.eval x = .slice (some ⟨gk, 0, none⟩) 1 1)
    (hr : w.heap[gk]? = some (.cells #[.int .i64 1, .string (s.extract r.1 r.2), .int .i64 (r.1 : Nat)] 108 (0, 0)))
    (hbd : A.length ≤ 9000) (hbase : ∀ k, base k → k < w.heap.size)
    (hK : ∀ ao cap w', OwnT base w' (.slice ao (A.length + 1) cap) (A.length + 1) (toks s (A ++ [r])) → KeepV v base w w' → ((Value.slice ao (A.length + 1) cap).ownBlock = v.ownBlock ∨ (Value.slice ao (A.length + 1) cap).ownBlock = some w.heap.size) → wpList Tryz.prog ops Q rest (a.put o.dst (.slice ao (A.length + 1) cap)) w') :
    wpList Tryz.prog ops Q (o :: rest) a w := by
  obtain ⟨ao, cap, w', h1, h2, h3, h4⟩ := run_append_tok w p x hop base v s A hs h r gk hx hr hbd hbase
  exact wpList_of_run hg h1 (hK ao cap w' h2 h3 h4)
theorem wpList_append_sum (w : World) {ops : Array Oper} {rest : List Oper} {o : Oper} {a : Act} {Q : Exit → Act → World → Prop} (hg : o.guard = none) (p x : Operand) (hop : o.op = Op.call { callee := Callee.builtin Builtin.append, args := #[p, x], argTypes := #[23, 23] })
    (base : Nat) (v : Value) (us : List Value) (ts : List Tr) (hs : a.eval p = v) (h : Sums base w v us ts) (u : Value) (t : Tr) (gk : Nat) (hx : a.eval x = .slice (some ⟨gk, 0, none⟩) 1 1)
    (hr : w.heap[gk]? = some (.cells #[u] 26 (0, 0))) (hu : OwnN base w u (flat t)) (hlate : ∀ (k l j : Nat) (y : Value), us[j]? = some y → y.ownBlock = some k → u.ownBlock = some l → k < l)
    (hbd : us.length ≤ 9000) (hbase : base ≤ w.heap.size)
    (hK : ∀ ao cap w', Sums base w' (.slice ao (us.length + 1) cap) (us ++ [u]) (ts ++ [t]) → FrS (fun k => k < base) w w' → wpList Tryz.prog ops Q rest (a.put o.dst (.slice ao (us.length + 1) cap)) w') :
    wpList Tryz.prog ops Q (o :: rest) a w := by
  obtain ⟨ao, cap, w', h1, h2, h3⟩ := run_append_sum w p x hop base v us ts hs h u t gk hx hr hu hlate hbd hbase
  exact wpList_of_run hg h1 (hK ao cap w' h2 h3)
theorem Par.starts {w w' : World} {g : Nat} {B B2 : Nat → Prop} {s : ByteArray} {nl : Bool} {σ : PS} {v v' : Value} {n : Nat} {xs : List Value} (h : Par w g (Plus B v) s nl σ) (hk : KeepV v B2 w w') (hv : v'.ownBlock = v.ownBlock ∨ v'.ownBlock = some w.heap.size) (ho' : OwnT B w' v' n xs) : Par w' g (Plus B v') s nl σ := by
  obtain ⟨V, hh, ho⟩ := h.here
  have hgl := lt_of hh
  have hgv : v.ownBlock ≠ some g := fun e => h.base (Or.inr e)
  have hno : ∀ k, Plus B v' k → Plus B v k ∨ k = w.heap.size := fun k hk => by
    rcases hk with hk | hk
    · exact Or.inl (Or.inl hk)
    · rcases hv with e | e
      · exact Or.inl (Or.inr (e ▸ hk))
      · rw [e] at hk; exact Or.inr (Option.some.inj hk).symm
  refine ⟨⟨V, hk.2 g _ hgv hh, ?_, fun k hVk hB => ?_⟩, h.le, fun hB => ?_, h.len, h.few, fun k hB => ?_⟩
  · obtain ⟨g1, g2⟩ := ho.1
    refine ⟨g1, ?_⟩
    rcases g2 with g2 | ⟨g', cap, cur, rfl, hg, hh', r⟩
    · exact Or.inl g2
    · exact Or.inr ⟨g', cap, cur, rfl, hg, hk.2 g' _ (fun e => ho.2 g' rfl (Or.inr e)) hh', r⟩
  · rcases hno k hB with hB | rfl
    · exact ho.2 k hVk hB
    · exact absurd (World.ownsRow.lt ho.1 _ hVk).2 (Nat.lt_irrefl _)
  · rcases hno g hB with hB | rfl
    · exact h.base hB
    · exact absurd hgl (Nat.lt_irrefl _)
  · rcases hB with hB | hB
    · exact Nat.lt_of_lt_of_le (h.bnd k (Or.inl hB)) hk.1.size
    · exact (World.ownsRow.lt ho'.1 k hB).2
theorem Fr.newer {PT TT P2 T2 : TypeId} {B : Nat → Prop} {w w1 w2 : World} (h : Fr PT TT B w w1) (hf : Fr P2 T2 (fun k => k < w.heap.size) w1 w2) : Fr PT TT B w w2 :=
  ⟨hf.os.trans h.os, hf.tape.trans h.tape, hf.output.trans h.output, Nat.le_trans h.size hf.size, fun k o ho hk => hf.block k o (h.block k o ho hk) (Or.inl (heap_lt ho))⟩
def prs (ns : List Tok) : List (Nat × Nat) := ns.map fun t => (t.lo, t.hi)
theorem Goes.lineStart {L : List UInt8} : Goes L 1 (Od.lineStart L) := fun σ t σ' hs hm => by
  have hg := peekT_ge true L σ.pos
  have hok := peekT_ok true L σ.pos hs
  unfold Od.lineStart at hm
  simp only at hm
  split at hm
  · cases hm
  · rename_i hc
    have hk : (peekT true L σ.pos).kind = 1 := by
      cases Classical.em ((peekT true L σ.pos).kind = 1) with
      | inl h => exact h
      | inr h => exact absurd (Or.inl h) hc
    have h3 := hok.some (Or.inl hk)
    have := ((Goes.expect (nl := true) (L := L) [39]).bind fun _ => (Goes.expect (nl := true) (L := L) [61]).bind fun _ => Goes.ret (L := L) (peekT true L σ.pos)) _ _ _ hok.len hm
    exact ⟨by have := this.1; simp only at this; omega, this.2⟩
theorem Goes.skipNl {L : List UInt8} : ∀ k b, Goes L 0 (Od.skipNl L k b)
  | 0, b => Goes.ret b
  | k + 1, b => (Goes.accept (nl := true) [10]).bind (d := 0) (d' := 0) fun a => by
    cases a with
    | true => exact Goes.skipNl k true
    | false => exact Goes.ret b
theorem enters_skipNl : ∀ args w, (callFunc 125 args).run Tryz.prog w = .ok (.enter 125 args) w := fun args w => by kernel_rfl
theorem lines_step {L : List UInt8} {k : Nat} {ns : List Tok} {es : List Tr} {σ σ2 : PS} {t : Tok} (h : Od.lineStart L σ = .ok t σ2) : Od.lines L (k + 1) ns es σ = ((Od.sum true L (L.length + 1)).bind fun e => (Od.skipNl L (L.length + 1) false).bind fun sep => fun s =>
      let p := peekT true L s.pos
      if p.kind = 0 then .ok (ns ++ [t], es ++ [e]) { s with pos := p.lo }
      else if sep then Od.lines L k (ns ++ [t]) (es ++ [e]) { s with pos := p.lo }
      else Od.fail true L { s with pos := p.lo }) σ2 := by
  conv => lhs; unfold Od.lines
  rw [bind_ok h]
theorem lines_err {L : List UInt8} {k : Nat} {ns : List Tok} {es : List Tr} {σ : PS} {c : Int} {o : Nat} (h : Od.lineStart L σ = .err c o) : Od.lines L (k + 1) ns es σ = .err c o := by
  conv => lhs; unfold Od.lines
  unfold Pr.bind
  rw [h]
theorem bind_err {α β : Type} {m : Pr α} {f : α → Pr β} {s : PS} {c : Int} {o : Nat} (h : m s = .err c o) : (m.bind f) s = .err c o := by unfold Pr.bind; rw [h]
end Go.Proofs.YthcidkidpiaomaaGreatDoor.Od
end
section
set_option linter.unusedVariables false
set_option linter.unusedSimpArgs false
namespace Go.Proofs.YthcidkidpiaomaaGreatDoor.Od
open Go.RowKit Rg
def LinesVal (base : Nat) (B : Nat → Prop) (s : ByteArray) (r : List Tok × List Tr) (u : Value) (w : World) : Prop :=
  ∃ v4 v5 us, u = .tuple #[v4, v5] ∧ OwnT B w v4 r.1.length (toks s (prs r.1)) ∧ Sums base w v5 us r.2
theorem Plus.none (B : Nat → Prop) (k : Nat) : Plus B (.slice none 0 0) k ↔ B k := by
  unfold Plus
  exact ⟨fun h => h.elim id (fun h => by cases h), Or.inl⟩
theorem prs_len (ns : List Tok) : (prs ns).length = ns.length := by simp [prs]
set_option maxRecDepth 100000 in
set_option maxHeartbeats 8000000 in
theorem lines_any (w : World) (g : Nat) (B : Nat → Prop) (s : ByteArray) (σ : PS) (h : Par w g B s true σ) (hT : TB B w) (hn0 : s.size < s.size + 1 + σ.pos) :
    Calls Tryz.prog 85 #[.pointer (some ⟨g, 0, none⟩)] w fun e w' => Got w g B s true (Od.allLines s.data.toList σ) (LinesVal w.heap.size B s) e w' := by
  have hmf : ∀ (fn : Fn) (first cap : Array Value) (w : World), (Instr.makeFunc fn first cap).run Tryz.prog w = .ok (.func fn first cap) w := fun _ _ _ _ => rfl
  have hen := enters_skipNl
  have hfk := field_kind
  have hsl : s.data.toList.length = s.size := rfl
  have hal : Below w.heap.size w (w.alloc (.cells #[.pointer (some ⟨g, 0, none⟩)] 101)) := (Below.refl _ _).alloc (Nat.le_refl _) _
  have HBX : Aside ((w.alloc (.cells #[.pointer (some ⟨g, 0, none⟩)] 101)).heap[w.heap.size]? = some (.cells #[.pointer (some ⟨g, 0, none⟩)] 101 (0, 0))) := ⟨heap_alloc_last _ _⟩
  have HP := Aside.mk (h.below hal)
  have HF : Aside (FrP B w (w.alloc (.cells #[.pointer (some ⟨g, 0, none⟩)] 101))) := ⟨Fr.of hal⟩
  have HTB := Aside.mk hT
  have HLE := Aside.mk h.inL
  have HAE : Aside (Od.allLines s.data.toList σ = ((Od.skipNl s.data.toList (s.data.toList.length + 1) false).bind fun _ => Od.lines s.data.toList (s.data.toList.length + 1) [] []) σ) := ⟨rfl⟩
  clear h hT hal
  go_enter Tryz.func85, Tryz.ntmps85
  go_wp2_with fail
  obtain ⟨gb, hgb⟩ : ∃ gb, w.heap.size = gb := ⟨_, rfl⟩
  rw [hgb] at HBX
  have HGB := Aside.mk hgb
  simp only [hgb]
  generalize w.alloc (.cells #[.pointer (some ⟨g, 0, none⟩)] 101) = W at HBX HP HF ⊢
  clear hgb
  refine (skipNl_any W g B s σ HP.out gb HBX.out).mono ?_
  rintro e w1 hg
  cases hx : Od.skipNl s.data.toList (s.data.toList.length + 1) false σ with
  | err cc o =>
    have HX := Aside.mk hx
    rw [hx] at hg
    clear hx
    obtain ⟨hf, rfl⟩ := hg
    have HF2 := Aside.mk (HF.out.trans hf)
    clear hf
    go_wp2_with fail
    rw [HAE.out, bind_err HX.out]
    exact ⟨rfl, HF2.out, rfl⟩
  | ok b0 σ0 =>
    have HX := Aside.mk hx
    have HGO := Aside.mk (Goes.skipNl _ _ σ b0 σ0 HLE.out hx)
    rw [hx] at hg
    clear hx
    obtain ⟨hf, ⟨u, rfl, rfl⟩, hP1⟩ := hg
    have HF1 := Aside.mk (HF.out.trans hf)
    have HP1 := Aside.mk (hP1.less (B' := Plus B (.slice none 0 0)) fun k hk => (Plus.none B k).1 hk)
    have HB1 := Aside.mk (hf.cell HBX.out (by decide))
    have HRES : Aside (Od.allLines s.data.toList σ = Od.lines s.data.toList (s.data.toList.length + 1) [] [] σ0) := ⟨by rw [HAE.out, bind_ok HX.out]⟩
    have HS0 : Aside (Sums w.heap.size w1 (.slice none 0 0) [] []) := ⟨⟨⟨rfl, Or.inl ⟨rfl, rfl⟩⟩, rfl, fun i u t hu _ => (by cases hu), fun i j u v k l _ hu => (by cases hu)⟩⟩
    have HT0 : Aside (OwnT B w1 (.slice none 0 0) 0 (toks s [])) := ⟨⟨⟨rfl, Or.inl ⟨rfl, rfl⟩⟩, fun k hk => (by cases hk)⟩⟩
    clear hf hP1 HX HAE HBX HF HP
    go_wp2_with fail
    go_loopg [4, 5] s.size (fun m v4 v5 wr => ∃ (ns : List Tok) (es : List Tr) (us : List Value) (σ1 : PS) (k : Nat), Aside (OwnT B wr v4 ns.length (toks s (prs ns))) ∧ Aside (Sums w.heap.size wr v5 us es) ∧ Aside (Par wr g (Plus B v4) s true σ1) ∧ Aside (FrP B w wr) ∧
      Aside (wr.heap[gb]? = some (.cells #[.pointer (some ⟨g, 0, none⟩)] 101 (0, 0))) ∧ Aside (s.size < k + σ1.pos ∧ s.size - σ1.pos ≤ m ∧ ns.length ≤ σ1.pos ∧ es.length ≤ σ1.pos ∧ ns.length = es.length) ∧ Aside (Od.allLines s.data.toList σ = Od.lines s.data.toList k ns es σ1))
    case atStart => exact ⟨[], [], [], σ0, s.data.toList.length + 1, HT0, HS0, HP1, HF1, HB1, ⟨by have := HGO.out; simp; omega⟩, HRES⟩
    case round =>
      clear HT0 HS0 HP1 HF1 HB1 HRES HGO
      obtain ⟨ns, es, us, σ1, k, HT, HS, HP, HF, HB, HM, HE⟩ := hrel
      cases k with
      | zero => exfalso; have := HM.out.1; have := HP.out.le; omega
      | succ k =>
        have cb : wr.cell? ⟨gb, 0, none⟩ = some (.pointer (some ⟨g, 0, none⟩)) := by rw [cell_of_row _ _ 0 _ _ _ HB.out]; rfl
        go_wp2_with fail
        refine (lineStart_any wr g _ s σ1 HP.out).mono ?_
        rintro e w2 hg
        cases hx : Od.lineStart s.data.toList σ1 with
        | err cc o =>
          have HX := Aside.mk hx
          rw [hx] at hg
          clear hx
          obtain ⟨hf, rfl⟩ := hg
          have HF2 := Aside.mk (HF.out.trans (hf.less fun k hk => Or.inl hk))
          clear hf
          go_wp2_with fail
          rw [HE.out, lines_err HX.out]
          exact ⟨rfl, HF2.out, rfl⟩
        | ok t σ2 =>
          have HX := Aside.mk hx
          have HGO := Aside.mk (Goes.lineStart σ1 t σ2 HP.out.inL hx)
          rw [hx] at hg
          clear hx
          obtain ⟨hf, ⟨u, rfl, rfl, hk1⟩, hP2⟩ := hg
          have HE2 := Aside.mk (HE.out.trans (lines_step HX.out))
          have hxx : tokX s t = s.extract t.lo t.hi := by unfold tokX; rw [if_neg (by rw [hk1]; decide)]
          have hal : Below w2.heap.size w2 (w2.alloc (.cells #[.int .i64 1, .string (s.extract t.lo t.hi), .int .i64 (t.lo : Nat)] 108)) := (Below.refl _ _).alloc (Nat.le_refl _) _
          have HRK : Aside ((w2.alloc (.cells #[.int .i64 1, .string (s.extract t.lo t.hi), .int .i64 (t.lo : Nat)] 108)).heap[w2.heap.size]? = some (.cells #[.int .i64 1, .string (s.extract (t.lo, t.hi).1 (t.lo, t.hi).2), .int .i64 ((t.lo, t.hi).1 : Nat)] 108 (0, 0))) := ⟨heap_alloc_last _ _⟩
          have HT3 : Aside (OwnT B (w2.alloc (.cells #[.int .i64 1, .string (s.extract t.lo t.hi), .int .i64 (t.lo : Nat)] 108)) u4 (prs ns).length (toks s (prs ns))) := ⟨⟨owns_below (by rw [prs_len]; exact owns_in HT.out.1 hf fun k hk => Or.inr hk) hal, HT.out.2⟩⟩
          have HS3 := Aside.mk ((HS.out.fr hf (by decide) (by decide)).fr (PT := 0) (TT := 0) (B := fun _ => False) (Fr.of hal) (by decide) (by decide))
          have HB3 := Aside.mk ((hal.block _ (lt_of (hf.cell HB.out (by decide)))).trans (hf.cell HB.out (by decide)))
          have HP3 := Aside.mk (hP2.below hal)
          have HF3 := Aside.mk ((HF.out.trans (hf.less fun k hk => Or.inl hk)).trans (Fr.of hal))
          have HBN := Aside.mk (fun k (hk : B k) => (hP2.below hal).bnd k (Or.inl hk))
          have HLN : Aside ((prs ns).length ≤ 9000) := ⟨by rw [prs_len]; have := HM.out; have := HP.out.le; have := HP.out.len; omega⟩
          rw [tokV_eq, hk1, hxx]
          clear hf hP2 hal hk1 hxx
          go_wp2_with (first | (at_builtin; refine wpList_append_tok _ rfl (.tmp 11) (.tmp 14) rfl B _ s (prs ns) rfl HT3.out (t.lo, t.hi) _ rfl HRK.out HLN.out HBN.out ?_; intro ao cap w4 ho4 hk4 hb4; have cb4 : w4.cell? ⟨gb, 0, none⟩ = some (.pointer (some ⟨g, 0, none⟩)) := (by rw [cell_of_row _ _ 0 _ _ _ (Fr.cell hk4.1 HB3.out (by decide))]; rfl)))
          have HP4 := Aside.mk (HP3.out.starts hk4 hb4 ho4)
          have HT4 := Aside.mk ho4
          have HS4 := Aside.mk (HS3.out.fr hk4.1 (by decide) (by decide))
          have HB4 := Aside.mk (Fr.cell hk4.1 HB3.out (by decide))
          have HF4 := Aside.mk (HF3.out.trans hk4.1.wideR)
          have hpl : (prs ns).length = ns.length := prs_len ns
          have hpr : prs ns ++ [(t.lo, t.hi)] = prs (ns ++ [t]) := by simp [prs]
          rw [hpl] at HP4 HT4 ⊢
          rw [hpr] at HT4
          clear HT HS HP HB HRK HT3 HS3 HB3 HP3 HF3 ho4 hk4 hb4 hpl hpr
          generalize Value.slice ao (ns.length + 1) cap = v4 at HP4 HT4 ⊢
          refine (sum_any s true (s.data.toList.length + 1) w4 g _ σ2 HP4.out ((HTB.out.fr HF4.out).more fun k hk => Or.inl hk) (by omega)).mono ?_
          rintro e w5 hg
          cases hx : Od.sum true s.data.toList (s.data.toList.length + 1) σ2 with
          | err cc o =>
            have HX2 := Aside.mk hx
            rw [hx] at hg
            clear hx
            obtain ⟨hf, rfl⟩ := hg
            have HF5 := Aside.mk (HF4.out.trans (hf.less fun k hk => Or.inl hk))
            clear hf
            go_wp2_with fail
            rw [HE2.out, bind_err HX2.out]
            exact ⟨rfl, HF5.out, rfl⟩
          | ok t3 σ3 =>
            have HX2 := Aside.mk hx
            have HGO2 := Aside.mk (Goes.sum _ σ2 t3 σ3 HP4.out.inL hx)
            have hgr := Gr.sum _ σ2 t3 σ3 HP4.out.inL hx
            rw [hx] at hg
            clear hx
            obtain ⟨hf, ⟨u, rfl, ho⟩, hP5⟩ := hg
            have HE3 := Aside.mk (HE2.out.trans (bind_ok HX2.out))
            have hal : Below w5.heap.size w5 (w5.alloc (.cells #[u] 26)) := (Below.refl _ _).alloc (Nat.le_refl _) _
            have HRK : Aside ((w5.alloc (.cells #[u] 26)).heap[w5.heap.size]? = some (.cells #[u] 26 (0, 0))) := ⟨heap_alloc_last _ _⟩
            have HU : Aside (OwnN w.heap.size (w5.alloc (.cells #[u] 26)) u (flat t3)) := ⟨(OwnN.mono (owns_below ho hal) HF4.out.size)⟩
            have HLATE : Aside (∀ (k l j : Nat) (y : Value), us[j]? = some y → y.ownBlock = some k → u.ownBlock = some l → k < l) := ⟨fun k l j y hy hk hl => by
              obtain ⟨tt, htt⟩ : ∃ tt, es[j]? = some tt := ⟨_, List.getElem?_eq_getElem (by have := (List.getElem?_eq_some_iff.1 hy).1; have := HS4.out.len; omega)⟩
              have h1 := (World.ownsRow.lt (HS4.out.own j y tt hy htt) k hk).2
              have h2 := (World.ownsRow.lt ho l hl).1
              omega⟩
            have hff := hf.less (B' := B) fun k hk => Or.inl hk
            have HT6 : Aside (OwnT B (w5.alloc (.cells #[u] 26)) v4 (ns.length + 1) (toks s (prs (ns ++ [t])))) := ⟨owns_below (owns_in HT4.out.1 hf fun k hk => Or.inr hk) hal, HT4.out.2⟩
            have HS6 := Aside.mk ((HS4.out.fr hf (by decide) (by decide)).fr (PT := 0) (TT := 0) (B := fun _ => False) (Fr.of hal) (by decide) (by decide))
            have HB6 := Aside.mk ((hal.block _ (lt_of (hf.cell HB4.out (by decide)))).trans (hf.cell HB4.out (by decide)))
            have HP6 := Aside.mk (hP5.below hal)
            have HF6 := Aside.mk ((HF4.out.trans hff).trans (Fr.of hal))
            have HUL : Aside (us.length ≤ 9000 ∧ us.length = es.length) := ⟨by have := HS4.out.len; have := HM.out; have := HGO.out; have := hsl; have := hP5.len; omega⟩
            have hul : ∃ ao cap, u = .slice ao (flat t3).length cap := by obtain ⟨ao, cap, hu, -⟩ := ho.rd.out; exact ⟨ao, cap, hu⟩
            obtain ⟨ao3, cap3, rfl⟩ := hul
            obtain ⟨l3, hl3⟩ : ∃ l, (flat t3).length = l := ⟨_, rfl⟩
            rw [hl3] at HRK HU HLATE HT6 HS6 HB6 HP6 HF6 ⊢
            clear hf hff ho hP5 hal hl3 HT4 HS4 HB4 HP4 hgr cb4
            go_wp2_with (first | (at_builtin; refine wpList_append_sum _ rfl (.tmp 16) (.tmp 19) rfl w.heap.size _ us es rfl HS6.out _ t3 _ rfl HRK.out HU.out HLATE.out HUL.out.1 HF6.out.size ?_; intro ao7 cap7 w7 hs7 hf7))
            have HT7 : Aside (OwnT B w7 v4 (ns.length + 1) (toks s (prs (ns ++ [t])))) := ⟨owns_fr HT6.out.1 hf7 (by decide), HT6.out.2⟩
            have HS7 := Aside.mk hs7
            have HB7 := Aside.mk (hf7.cell HB6.out (by decide))
            have HP7 := Aside.mk (HP6.out.frT hf7 (by decide) (by decide))
            have HF7 := Aside.mk (HF6.out.newer hf7)
            generalize Value.slice ao7 (us.length + 1) cap7 = v5 at HS7 ⊢
            clear hs7 hf7 HT6 HS6 HB6 HP6 HF6 HRK HU HLATE
            refine (skipNl_any w7 g _ s σ3 HP7.out gb HB7.out).mono ?_
            rintro e w8 hg
            cases hx : Od.skipNl s.data.toList (s.data.toList.length + 1) false σ3 with
            | err cc o =>
              have HX3 := Aside.mk hx
              rw [hx] at hg
              clear hx
              obtain ⟨hf, rfl⟩ := hg
              have HF8 := Aside.mk (HF7.out.trans (hf.less fun k hk => Or.inl hk))
              clear hf
              have HA : Aside (Od.allLines s.data.toList σ = .err cc o) := ⟨HE3.out.trans (bind_err HX3.out)⟩
              go_wp2_with fail
              rw [HA.out]
              exact ⟨rfl, HF8.out, rfl⟩
            | ok sep σ4 =>
              have HX3 := Aside.mk hx
              have HGO3 := Aside.mk (Goes.skipNl _ _ σ3 sep σ4 HP7.out.inL hx)
              rw [hx] at hg
              clear hx
              obtain ⟨hf, ⟨u, rfl, rfl⟩, hP8⟩ := hg
              have HE4 := Aside.mk (HE3.out.trans (bind_ok HX3.out))
              have HT8 : Aside (OwnT B w8 v4 (ns.length + 1) (toks s (prs (ns ++ [t])))) := ⟨owns_in HT7.out.1 hf fun k hk => Or.inr hk, HT7.out.2⟩
              have HS8 := Aside.mk (HS7.out.fr hf (by decide) (by decide))
              have HB8 := Aside.mk (hf.cell HB7.out (by decide))
              have HP8 := Aside.mk hP8
              have HF8 := Aside.mk (HF7.out.trans (hf.less fun k hk => Or.inl hk))
              have cb8 : w8.cell? ⟨gb, 0, none⟩ = some (.pointer (some ⟨g, 0, none⟩)) := by rw [cell_of_row _ _ 0 _ _ _ HB8.out]; rfl
              clear hf hP8 HT7 HS7 HB7 HP7 HF7
              go_wp2_with fail
              refine (peek_any w8 g _ s true σ4 HP8.out).mono ?_
              rintro e w9 ⟨rfl, hf, hP⟩
              have HT9 : Aside (OwnT B w9 v4 (ns.length + 1) (toks s (prs (ns ++ [t])))) := ⟨owns_in HT8.out.1 hf fun k hk => Or.inr hk, HT8.out.2⟩
              have HS9 := Aside.mk (HS8.out.fr hf (by decide) (by decide))
              have HB9 := Aside.mk (hf.cell HB8.out (by decide))
              have HP9 := Aside.mk hP
              have HF9 := Aside.mk (HF8.out.trans (hf.less fun k hk => Or.inl hk))
              have HGE := Aside.mk (peekT_ge true s.data.toList σ4.pos)
              clear hf hP HT8 HS8 HB8 HF8 cb8
              rw [tokV_eq]
              obtain ⟨KK, hKK⟩ : ∃ K, (peekT true s.data.toList σ4.pos).kind = K := ⟨_, rfl⟩
              have HKK := Aside.mk hKK
              rw [hKK]
              clear hKK
              by_cases hk0 : KK = 0
              · subst hk0
                have HA : Aside (Od.allLines s.data.toList σ = .ok (ns ++ [t], es ++ [t3]) { σ4 with pos := (peekT true s.data.toList σ4.pos).lo }) := ⟨by rw [HE4.out]; exact if_pos HKK.out⟩
                go_wp2_with fail
                go_ret2
                rw [HA.out]
                exact ⟨HF9.out, ⟨_, rfl, v4, v5, us ++ [_], rfl, by simpa using HT9.out, HS9.out⟩, HP9.out.less fun k hk => Or.inl hk⟩
              · have hkb : (KK == 0) = false := by rw [beq_eq_false_iff_ne]; exact hk0
                have HA : Aside (Od.allLines s.data.toList σ = (if sep then Od.lines s.data.toList k (ns ++ [t]) (es ++ [t3]) else Od.fail true s.data.toList) { σ4 with pos := (peekT true s.data.toList σ4.pos).lo }) := ⟨by
                  rw [HE4.out]
                  refine (if_neg (by rw [HKK.out]; exact hk0)).trans ?_
                  cases sep <;> rfl⟩
                have cb9 : w9.cell? ⟨gb, 0, none⟩ = some (.pointer (some ⟨g, 0, none⟩)) := by rw [cell_of_row _ _ 0 _ _ _ HB9.out]; rfl
                cases sep with
                | true =>
                  have HA : Aside (Od.allLines s.data.toList σ = Od.lines s.data.toList k (ns ++ [t]) (es ++ [t3]) { σ4 with pos := (peekT true s.data.toList σ4.pos).lo }) := ⟨HA.out⟩
                  go_wp2_with fail
                  have hm := HM.out
                  have hg1 := HGO.out
                  have hg2 := HGO2.out
                  have hg3 := HGO3.out
                  have hg4 := HGE.out
                  have hle9 := HP9.out.le
                  simp only at hle9
                  obtain ⟨go, hgo⟩ : ∃ go, gk = go + 1 := ⟨gk - 1, by omega⟩
                  have HM2 : Aside (s.size < k + (peekT true s.data.toList σ4.pos).lo ∧ s.size - (peekT true s.data.toList σ4.pos).lo ≤ go ∧ (ns ++ [t]).length ≤ (peekT true s.data.toList σ4.pos).lo ∧ (es ++ [t3]).length ≤ (peekT true s.data.toList σ4.pos).lo ∧ (ns ++ [t]).length = (es ++ [t3]).length) := ⟨by simp only [List.length_append, List.length_singleton]; omega⟩
                  clear hm hg1 hg2 hg3 hg4 hle9
                  go_roundg go
                  case measure => omega
                  case rel => exact ⟨ns ++ [t], es ++ [t3], us ++ [_], _, k, ⟨by simpa using HT9.out⟩, HS9, HP9, HF9, HB9, HM2, HA⟩
                | false =>
                  have HA : Aside (Od.allLines s.data.toList σ = Od.fail true s.data.toList { σ4 with pos := (peekT true s.data.toList σ4.pos).lo }) := ⟨HA.out⟩
                  go_wp2_with fail
                  refine (fail_any (α := List Tok × List Tr) (fun _ _ _ => True) w9 g _ s true _ HP9.out).mono ?_
                  rintro e w10 ⟨hf2, rfl⟩
                  have HF10 := Aside.mk (HF9.out.trans (hf2.less fun k hk => Or.inl hk))
                  clear hf2
                  go_wp2_with fail
                  rw [HA.out]
                  exact ⟨rfl, HF10.out, rfl⟩
end Go.Proofs.YthcidkidpiaomaaGreatDoor.Od
end
