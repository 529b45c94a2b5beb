/- OdZ OeA -/
import Derived.Test.YthcidkidpiaomaaGreatDoorKb20
section
set_option linter.unusedVariables false
set_option linter.unusedSimpArgs false
namespace Go.Proofs.YthcidkidpiaomaaGreatDoor.Od
open Go.RowKit Rg
theorem kwContains_any (w : World) (v : Value) (h : Strs w v kws) (x : ByteArray) (b : Bool) (hb : keyword x.data.toList = b) :
    Calls Tryz.prog 62 #[v, .string x] w fun e w' => e = .returned (.bool b) ∧ w' = w := by
  subst hb
  refine (contains_any w v kws h x).mono ?_
  rintro e w' ⟨rfl, rfl⟩
  exact ⟨by rw [kws_contains], rfl⟩
theorem enters_kw : ∀ args w, (callFunc 106 args).run Tryz.prog w = .ok (.enter 106 args) w := fun args w => by kernel_rfl
theorem enters_ct : ∀ args w, (callFunc 62 args).run Tryz.prog w = .ok (.enter 62 args) w := fun args w => by kernel_rfl
theorem Par.guard {w : World} {g : Nat} {B : Nat → Prop} {s : ByteArray} {nl : Bool} {σ : PS} (h : Par w g B s nl σ) (o : Obj) : Par (w.alloc o) g (fun j => B j ∨ j = w.heap.size) s nl σ := by
  have h2 := h.below ((Below.refl _ _).alloc (Nat.le_refl _) o)
  obtain ⟨v, hh, ho⟩ := h.here
  have hl := lt_of hh
  have hb : Below w.heap.size w (w.alloc o) := (Below.refl _ _).alloc (Nat.le_refl _) o
  refine ⟨⟨v, by rw [hb.block _ hl]; exact hh, owns_below ho.1 hb, fun k hk hB => ?_⟩, h.le, fun hB => ?_, h.len, h.few, fun k hk => ?_⟩
  · rcases hB with hB | rfl
    · exact ho.2 k hk hB
    · exact absurd (World.ownsRow.lt ho.1 _ hk).2 (Nat.lt_irrefl _)
  · rcases hB with hB | rfl
    · exact h.base hB
    · exact absurd hl (Nat.lt_irrefl _)
  · rcases hk with hk | rfl
    · exact h2.bnd k hk
    · simp
theorem Par.setIn {w : World} {g : Nat} {B : Nat → Prop} {s : ByteArray} {nl : Bool} {σ : PS} (h : Par w g B s nl σ) {k i : Nat} (hk : B k) (u : Value) : Par (w.setCell ⟨k, i, none⟩ u) g B s nl σ := by
  obtain ⟨v, hh, ho⟩ := h.here
  have hg : g ≠ k := fun e => h.base (e ▸ hk)
  refine ⟨⟨v, by rw [Below.heap_setCell _ _ _ _ hg]; exact hh, ?_, ho.2⟩, h.le, h.base, h.len, h.few, fun j hj => by simpa [World.setCell] using h.bnd j hj⟩
  obtain ⟨h1, h2⟩ := ho.1
  refine ⟨h1, ?_⟩
  rcases h2 with h2 | ⟨g', cap, cur, hv, hg', hh', r⟩
  · exact Or.inl h2
  · refine Or.inr ⟨g', cap, cur, hv, hg', ?_, r⟩
    have hne : g' ≠ k := fun e => ho.2 g' (by rw [hv]; rfl) (e ▸ hk)
    rw [Below.heap_setCell _ _ _ _ hne]; exact hh'
theorem Par.less {w : World} {g : Nat} {B B' : Nat → Prop} {s : ByteArray} {nl : Bool} {σ : PS} (h : Par w g B s nl σ) (hB : ∀ k, B' k → B k) : Par w g B' s nl σ := by
  obtain ⟨v, hh, ho⟩ := h.here
  exact ⟨⟨v, hh, ho.1, fun k hk hb => ho.2 k hk (hB k hb)⟩, h.le, fun hb => h.base (hB g hb), h.len, h.few, fun k hk => h.bnd k (hB k hk)⟩
theorem TB.more {B B' : Nat → Prop} {w : World} (h : TB B w) (hB : ∀ k, B k → B' k) : TB B' w := ⟨h.tabs, hB _ h.pow, hB _ h.rng⟩
theorem Fr.kept {PT TT : TypeId} {B : Nat → Prop} {w w' : World} {k : Nat} {o : Obj} (h : Fr PT TT B w w') (hk : w.heap[k]? = some o) (hB : B k) : w'.heap[k]? = some o := h.block k o hk (Or.inl hB)
set_option maxRecDepth 100000 in
set_option maxHeartbeats 8000000 in
theorem lineStart_any (w : World) (g : Nat) (B : Nat → Prop) (s : ByteArray) (σ : PS) (h : Par w g B s true σ) :
    Calls Tryz.prog 127 #[.pointer (some ⟨g, 0, none⟩)] w fun e w' => Got w g B s true (Od.lineStart s.data.toList σ) (fun t u _ => u = tokV s t ∧ t.kind = 1) e w' := by
  have hb0 : Below w.heap.size w (w.alloc (.cells #[.int .i64 0, .string ⟨#[]⟩, .int .i64 0] 108)) := (Below.refl _ _).alloc (Nat.le_refl _) _
  have hpg := h.guard (.cells #[.int .i64 0, .string ⟨#[]⟩, .int .i64 0] 108)
  have hrow := heap_alloc_last w (.cells #[.int .i64 0, .string ⟨#[]⟩, .int .i64 0] 108)
  have HP := Aside.mk hpg
  have HB0 := Aside.mk hb0
  have HR0 := Aside.mk hrow
  have HLE := Aside.mk h.inL
  clear h hpg hb0 hrow
  go_enter Tryz.func127, Tryz.ntmps127
  go_wp2_with fail
  obtain ⟨gr, hgr⟩ : ∃ gr, w.heap.size = gr := ⟨_, rfl⟩
  have HGR := Aside.mk hgr
  rw [hgr] at HP HR0
  simp only [hgr]
  generalize w.alloc (.cells #[.int .i64 0, .string ⟨#[]⟩, .int .i64 0] 108) = W0 at HP HB0 HR0 ⊢
  refine (peek_any W0 g _ s true σ HP.out).mono ?_
  rintro e w1 ⟨rfl, hf, hP⟩
  have HF := Aside.mk hf
  have HR1 := Aside.mk (hf.kept HR0.out (Or.inr rfl))
  have HP1 := Aside.mk (hP.guard (.cells #[.int .i64 (peekT true s.data.toList σ.pos).kind, .string (tokX s (peekT true s.data.toList σ.pos)), .int .i64 ((peekT true s.data.toList σ.pos).lo : Nat)] 108))
  clear hf hP HR0 HP
  rw [tokV_eq]
  have hok := peekT_ok true s.data.toList σ.pos HLE.out
  have HLS : Aside (Od.lineStart s.data.toList σ = if (peekT true s.data.toList σ.pos).kind ≠ 1 ∨ keyword (sub s.data.toList (peekT true s.data.toList σ.pos).lo (peekT true s.data.toList σ.pos).hi) = true then Od.fail true s.data.toList { σ with pos := (peekT true s.data.toList σ.pos).lo }
      else ((Od.expect true s.data.toList [39]).bind fun _ => (Od.expect true s.data.toList [61]).bind fun _ => Pr.ret (peekT true s.data.toList σ.pos)) { σ with pos := (peekT true s.data.toList σ.pos).hi }) := ⟨by unfold Od.lineStart; simp only⟩
  obtain ⟨K, hK⟩ : ∃ K, (peekT true s.data.toList σ.pos).kind = K := ⟨_, rfl⟩
  obtain ⟨x, hx⟩ : ∃ x, tokX s (peekT true s.data.toList σ.pos) = x := ⟨_, rfl⟩
  obtain ⟨q, hq⟩ : ∃ q, (peekT true s.data.toList σ.pos).lo = q := ⟨_, rfl⟩
  obtain ⟨E, hE⟩ : ∃ E, (peekT true s.data.toList σ.pos).hi = E := ⟨_, rfl⟩
  have HX := Aside.mk hx
  have HK := Aside.mk hK
  have HQ := Aside.mk hq
  have HE := Aside.mk hE
  rw [hK, hx, hq] at HP1 ⊢
  rw [hK, hq, hE] at HLS
  have HAL : Aside (Below w1.heap.size w1 (w1.alloc (.cells #[.int .i64 K, .string x, .int .i64 (q : Nat)] 108))) := ⟨(Below.refl _ _).alloc (Nat.le_refl _) _⟩
  have HRT := Aside.mk (heap_alloc_last w1 (.cells #[.int .i64 K, .string x, .int .i64 (q : Nat)] 108))
  have HR2 := Aside.mk ((HAL.out.block _ (lt_of HR1.out)).trans HR1.out)
  have HF2 := Aside.mk (HF.out.trans (Fr.of HAL.out))
  by_cases hk1 : K = 1
  · subst hk1
    have hxx : s.extract q E = x := by have := HX.out; unfold tokX at this; rw [if_neg (by rw [HK.out]; decide), HQ.out, HE.out] at this; exact this
    have hle := hok.le
    have hlen := hok.len
    rw [hE] at hle hlen
    rw [hq] at hle
    have hsl : s.data.toList.length = s.size := rfl
    have hxs : x.size = E - q := by rw [← hxx, ByteArray.size_extract]; omega
    have HXL : Aside (sub s.data.toList q E = x.data.toList) := ⟨by rw [← hxx, sub_extract]⟩
    have HQE : Aside (q ≤ E ∧ E ≤ s.size ∧ x.size = E - q) := ⟨by omega⟩
    clear hok hxx hle hlen hsl hxs hK hx hq hE
    go_wp2_with fail
    obtain ⟨gt, hgt⟩ : ∃ gt, w1.heap.size = gt := ⟨_, rfl⟩
    rw [hgt] at HP1 HRT
    simp only [hgt]
    generalize w1.alloc (.cells #[.int .i64 1, .string x, .int .i64 (q : Nat)] 108) = W at HP1 HAL HRT HR2 HF2 ⊢
    have c0 : W.cell? ⟨gt, 0, none⟩ = some (.int .i64 1) := by rw [cell_of_row _ _ 0 _ _ _ HRT.out]; rfl
    have c1 : W.cell? ⟨gt, 1, none⟩ = some (.string x) := by rw [cell_of_row _ _ 1 _ _ _ HRT.out]; rfl
    have hl : gt < W.heap.size := lt_of HRT.out
    clear hgt HAL HR1 HF
    obtain ⟨kb, hkb⟩ : ∃ b, keyword x.data.toList = b := ⟨_, rfl⟩
    have HKW := Aside.mk hkb
    clear hkb
    cases kb with
    | true =>
      have HLS : Aside (Od.lineStart s.data.toList σ = Od.fail true s.data.toList { σ with pos := q }) := ⟨by rw [HLS.out, if_pos (Or.inr (by rw [HXL.out]; exact HKW.out))]⟩
      refine region_list (T := tab2 [
          Sq.val (.pointer (some ⟨gt, 0, none⟩)), Sq.val (.int .i64 1), Sq.val (.bool false), Sq.val (.bool false), Sq.row W.heap.size #[.string ⟨#[116]⟩, .string ⟨#[115, 113, 114]⟩, .string ⟨#[115, 113, 114, 116]⟩, .string ⟨#[97, 108, 108]⟩] 9 4 4, Sq.val (.pointer (some ⟨gt, 1, none⟩)), Sq.val (.string x), Sq.val (.bool true)]) 8
        [_, _, _, _, _, _, _, _, _] (by kernel_rfl) (by kernel_rfl) (by kernel_rfl) (by kernel_rfl) (by kernel_rfl) (by kernel_rfl) rfl ?_ ?_
      · refine AllIn.cons ?_ ?_
        · intro a w hz hb ho hg
          have e3 : a.tmps.getD 3 undef = .pointer (some ⟨gt, 0, none⟩) := ho 3 (by kernel_rfl)
          have f3 := Rg.gd e3
          exact wv hb rfl (by simp [execOp, Act.eval, e3, f3, go_sem]) rfl
        refine AllIn.cons ?_ ?_
        · intro a w hz hb ho hg
          have e6 : a.tmps.getD 6 undef = .pointer (some ⟨gt, 0, none⟩) := got_of hg (j := 0) rfl rfl rfl
          have f6 := Rg.gd e6
          have q := (hb.cell (p := ⟨gt, 0, none⟩) hl).trans c0
          exact wv hb rfl (by simp [execOp, Act.eval, e6, f6, q, go_sem]) rfl
        refine AllIn.cons ?_ ?_
        · intro a w hz hb ho hg
          have e7 : a.tmps.getD 7 undef = .int .i64 1 := got_of hg (j := 1) rfl rfl rfl
          have f7 := Rg.gd e7
          exact wv hb rfl (by simp [execOp, Act.eval, e7, f7, go_sem]) rfl
        refine AllIn.cons ?_ ?_
        · intro a w hz hb ho hg
          have e8 : a.tmps.getD 8 undef = .bool false := got_of hg (j := 2) rfl rfl rfl
          have f8 := Rg.gd e8
          exact wv hb rfl (by simp [execOp, Act.eval, e8, f8, go_sem]) rfl
        refine AllIn.cons ?_ ?_
        · intro a w hz hb ho hg
          exact Or.inl ⟨by rw [wanted_of (j := 3) rfl rfl rfl (show a.tmps.getD 9 undef = .bool false from got_of hg (j := 3) rfl rfl rfl)]; rfl, wp_calls hb.size (run_call (args := #[]) enters_kw (by simp [Act.eval])) ((keywords_any w).mono (by rintro e w' ⟨rfl, rfl⟩; exact ⟨_, rfl, (Below.refl _ _).alloc (Nat.le_refl _) _, ⟨w.heap.size, hb.size, rfl, heap_alloc_last _ _⟩⟩))⟩
        refine AllIn.cons ?_ ?_
        · intro a w hz hb ho hg
          have e3 : a.tmps.getD 3 undef = .pointer (some ⟨gt, 0, none⟩) := ho 3 (by kernel_rfl)
          have f3 := Rg.gd e3
          exact Or.inl ⟨by rw [wanted_of (j := 3) rfl rfl rfl (show a.tmps.getD 9 undef = .bool false from got_of hg (j := 3) rfl rfl rfl)]; rfl, wp_value hb.size (by simp [execOp, Act.eval, e3, f3, go_sem]) (Below.refl _ _) rfl⟩
        refine AllIn.cons ?_ ?_
        · intro a w hz hb ho hg
          have e11 : a.tmps.getD 11 undef = .pointer (some ⟨gt, 1, none⟩) := got_of hg (j := 5) rfl rfl rfl
          have f11 := Rg.gd e11
          have q := (hb.cell (p := ⟨gt, 1, none⟩) hl).trans c1
          exact Or.inl ⟨by rw [wanted_of (j := 3) rfl rfl rfl (show a.tmps.getD 9 undef = .bool false from got_of hg (j := 3) rfl rfl rfl)]; rfl, wp_value hb.size (by simp [execOp, Act.eval, e11, f11, q, go_sem]) (Below.refl _ _) rfl⟩
        refine AllIn.cons ?_ ?_
        · intro a w hz hb ho hg
          have e10 := (got_of hg (j := 4) rfl rfl rfl : Rg.Tab.S _ _ (a.tmps.getD 10 undef) w)
          have e12 : a.tmps.getD 12 undef = .string x := got_of hg (j := 6) rfl rfl rfl
          have f12 := Rg.gd e12
          obtain ⟨gk, hgk, hv, hrow⟩ := e10; rw [Array.getD_eq_getD_getElem?] at hv; exact Or.inl ⟨by rw [wanted_of (j := 3) rfl rfl rfl (show a.tmps.getD 9 undef = .bool false from got_of hg (j := 3) rfl rfl rfl)]; rfl, wp_calls hb.size (run_call (args := #[.slice (some ⟨gk, 0, none⟩) 4 4, .string x]) enters_ct (by simp [Act.eval, hv, f12])) ((kwContains_any _ _ (kw_strs hrow) x _ HKW.out).mono (by rintro e w' ⟨rfl, rfl⟩; exact ⟨_, rfl, Below.refl _ _, rfl⟩))⟩
        exact AllIn.nil
      intro a w3 hd hz hb ho hg
      have e6 : a.tmps.getD 6 undef = .pointer (some ⟨gt, 0, none⟩) := hg 0 (by decide) _ _ rfl rfl
      have e7 : a.tmps.getD 7 undef = .int .i64 1 := hg 1 (by decide) _ _ rfl rfl
      have e8 : a.tmps.getD 8 undef = .bool false := hg 2 (by decide) _ _ rfl rfl
      have e9 : a.tmps.getD 9 undef = .bool false := hg 3 (by decide) _ _ rfl rfl
      have E10 := hg 4 (by decide) _ _ rfl rfl
      have e11 : a.tmps.getD 11 undef = .pointer (some ⟨gt, 1, none⟩) := hg 5 (by decide) _ _ rfl rfl
      have e12 : a.tmps.getD 12 undef = .string x := hg 6 (by decide) _ _ rfl rfl
      have e13 : a.tmps.getD 13 undef = .bool true := hg 7 (by decide) _ _ rfl rfl
      obtain ⟨g10, G10, e10, R10⟩ := E10
      have hA := ho.frame hz
      simp only [List.take_succ_cons, List.take_zero, List.filterMap_cons, List.filterMap_nil, List.foldl_cons, List.foldl_nil, e6, e7, e8, e9, e10, e11, e12, e13, List.setIfInBounds_toArray, List.set_cons_zero, List.set_cons_succ] at hA
      obtain ⟨tm, df⟩ := a
      simp only at hd hA
      subst hd
      subst hA
      simp only [List.drop_succ_cons, List.drop_zero]
      have HH3 := Aside.mk hb
      clear hz ho hg hb e6 e7 e8 e9 e10 e11 e12 e13
      have HF3 := Aside.mk (HF2.out.trans (Fr.of HH3.out))
      have HP3 := Aside.mk (HP1.out.below HH3.out)
      clear HH3
      go_wp2_with fail
      refine (fail_any (α := Tok) (fun _ _ _ => True) _ g _ s true _ HP3.out).mono ?_
      rintro e w5 ⟨hf5, rfl⟩
      have HF5 : Aside (FrP B w w5) := ⟨(Fr.of HB0.out).trans ((HF3.out.trans (hf5.less fun k hk => Or.inl hk)).less fun k hk => Or.inl hk)⟩
      clear hf5
      go_wp2_with fail
      rw [HLS.out]
      exact ⟨rfl, HF5.out, rfl⟩
    | false =>
      have HLS : Aside (Od.lineStart s.data.toList σ = ((Od.expect true s.data.toList [39]).bind fun _ => (Od.expect true s.data.toList [61]).bind fun _ => Pr.ret (peekT true s.data.toList σ.pos)) { σ with pos := E }) := ⟨by rw [HLS.out, if_neg (fun h => h.elim (fun h => h rfl) (fun h => by rw [HXL.out, HKW.out] at h; cases h))]⟩
      refine region_list (T := tab2 [
          Sq.val (.pointer (some ⟨gt, 0, none⟩)), Sq.val (.int .i64 1), Sq.val (.bool false), Sq.val (.bool false), Sq.row W.heap.size #[.string ⟨#[116]⟩, .string ⟨#[115, 113, 114]⟩, .string ⟨#[115, 113, 114, 116]⟩, .string ⟨#[97, 108, 108]⟩] 9 4 4, Sq.val (.pointer (some ⟨gt, 1, none⟩)), Sq.val (.string x), Sq.val (.bool false)]) 8
        [_, _, _, _, _, _, _, _, _] (by kernel_rfl) (by kernel_rfl) (by kernel_rfl) (by kernel_rfl) (by kernel_rfl) (by kernel_rfl) rfl ?_ ?_
      · refine AllIn.cons ?_ ?_
        · intro a w hz hb ho hg
          have e3 : a.tmps.getD 3 undef = .pointer (some ⟨gt, 0, none⟩) := ho 3 (by kernel_rfl)
          have f3 := Rg.gd e3
          exact wv hb rfl (by simp [execOp, Act.eval, e3, f3, go_sem]) rfl
        refine AllIn.cons ?_ ?_
        · intro a w hz hb ho hg
          have e6 : a.tmps.getD 6 undef = .pointer (some ⟨gt, 0, none⟩) := got_of hg (j := 0) rfl rfl rfl
          have f6 := Rg.gd e6
          have q := (hb.cell (p := ⟨gt, 0, none⟩) hl).trans c0
          exact wv hb rfl (by simp [execOp, Act.eval, e6, f6, q, go_sem]) rfl
        refine AllIn.cons ?_ ?_
        · intro a w hz hb ho hg
          have e7 : a.tmps.getD 7 undef = .int .i64 1 := got_of hg (j := 1) rfl rfl rfl
          have f7 := Rg.gd e7
          exact wv hb rfl (by simp [execOp, Act.eval, e7, f7, go_sem]) rfl
        refine AllIn.cons ?_ ?_
        · intro a w hz hb ho hg
          have e8 : a.tmps.getD 8 undef = .bool false := got_of hg (j := 2) rfl rfl rfl
          have f8 := Rg.gd e8
          exact wv hb rfl (by simp [execOp, Act.eval, e8, f8, go_sem]) rfl
        refine AllIn.cons ?_ ?_
        · intro a w hz hb ho hg
          exact Or.inl ⟨by rw [wanted_of (j := 3) rfl rfl rfl (show a.tmps.getD 9 undef = .bool false from got_of hg (j := 3) rfl rfl rfl)]; rfl, wp_calls hb.size (run_call (args := #[]) enters_kw (by simp [Act.eval])) ((keywords_any w).mono (by rintro e w' ⟨rfl, rfl⟩; exact ⟨_, rfl, (Below.refl _ _).alloc (Nat.le_refl _) _, ⟨w.heap.size, hb.size, rfl, heap_alloc_last _ _⟩⟩))⟩
        refine AllIn.cons ?_ ?_
        · intro a w hz hb ho hg
          have e3 : a.tmps.getD 3 undef = .pointer (some ⟨gt, 0, none⟩) := ho 3 (by kernel_rfl)
          have f3 := Rg.gd e3
          exact Or.inl ⟨by rw [wanted_of (j := 3) rfl rfl rfl (show a.tmps.getD 9 undef = .bool false from got_of hg (j := 3) rfl rfl rfl)]; rfl, wp_value hb.size (by simp [execOp, Act.eval, e3, f3, go_sem]) (Below.refl _ _) rfl⟩
        refine AllIn.cons ?_ ?_
        · intro a w hz hb ho hg
          have e11 : a.tmps.getD 11 undef = .pointer (some ⟨gt, 1, none⟩) := got_of hg (j := 5) rfl rfl rfl
          have f11 := Rg.gd e11
          have q := (hb.cell (p := ⟨gt, 1, none⟩) hl).trans c1
          exact Or.inl ⟨by rw [wanted_of (j := 3) rfl rfl rfl (show a.tmps.getD 9 undef = .bool false from got_of hg (j := 3) rfl rfl rfl)]; rfl, wp_value hb.size (by simp [execOp, Act.eval, e11, f11, q, go_sem]) (Below.refl _ _) rfl⟩
        refine AllIn.cons ?_ ?_
        · intro a w hz hb ho hg
          have e10 := (got_of hg (j := 4) rfl rfl rfl : Rg.Tab.S _ _ (a.tmps.getD 10 undef) w)
          have e12 : a.tmps.getD 12 undef = .string x := got_of hg (j := 6) rfl rfl rfl
          have f12 := Rg.gd e12
          obtain ⟨gk, hgk, hv, hrow⟩ := e10; rw [Array.getD_eq_getD_getElem?] at hv; exact Or.inl ⟨by rw [wanted_of (j := 3) rfl rfl rfl (show a.tmps.getD 9 undef = .bool false from got_of hg (j := 3) rfl rfl rfl)]; rfl, wp_calls hb.size (run_call (args := #[.slice (some ⟨gk, 0, none⟩) 4 4, .string x]) enters_ct (by simp [Act.eval, hv, f12])) ((kwContains_any _ _ (kw_strs hrow) x _ HKW.out).mono (by rintro e w' ⟨rfl, rfl⟩; exact ⟨_, rfl, Below.refl _ _, rfl⟩))⟩
        exact AllIn.nil
      intro a w3 hd hz hb ho hg
      have e6 : a.tmps.getD 6 undef = .pointer (some ⟨gt, 0, none⟩) := hg 0 (by decide) _ _ rfl rfl
      have e7 : a.tmps.getD 7 undef = .int .i64 1 := hg 1 (by decide) _ _ rfl rfl
      have e8 : a.tmps.getD 8 undef = .bool false := hg 2 (by decide) _ _ rfl rfl
      have e9 : a.tmps.getD 9 undef = .bool false := hg 3 (by decide) _ _ rfl rfl
      have E10 := hg 4 (by decide) _ _ rfl rfl
      have e11 : a.tmps.getD 11 undef = .pointer (some ⟨gt, 1, none⟩) := hg 5 (by decide) _ _ rfl rfl
      have e12 : a.tmps.getD 12 undef = .string x := hg 6 (by decide) _ _ rfl rfl
      have e13 : a.tmps.getD 13 undef = .bool false := hg 7 (by decide) _ _ rfl rfl
      obtain ⟨g10, G10, e10, R10⟩ := E10
      have hA := ho.frame hz
      simp only [List.take_succ_cons, List.take_zero, List.filterMap_cons, List.filterMap_nil, List.foldl_cons, List.foldl_nil, e6, e7, e8, e9, e10, e11, e12, e13, List.setIfInBounds_toArray, List.set_cons_zero, List.set_cons_succ] at hA
      obtain ⟨tm, df⟩ := a
      simp only at hd hA
      subst hd
      subst hA
      simp only [List.drop_succ_cons, List.drop_zero]
      have HH3 := Aside.mk hb
      clear hz ho hg hb e6 e7 e8 e9 e10 e11 e12 e13
      have HF3 := Aside.mk (HF2.out.trans (Fr.of HH3.out))
      have HP3 := Aside.mk (HP1.out.below HH3.out)
      have HRT3 := Aside.mk ((HH3.out.block _ hl).trans HRT.out)
      have HR3 := Aside.mk ((HH3.out.block _ (lt_of HR2.out)).trans HR2.out)
      clear HH3 c0 c1 hl
      obtain ⟨-, c1, -, hlg, -, -, -⟩ := HP3.out.cells
      simp only at c1
      have hcx : w3.cell? ⟨gt, 1, none⟩ = some (.string x) := by rw [cell_of_row _ _ 1 _ _ _ HRT3.out]; rfl
      have hgl := lt_of HRT3.out
      have hw : IntKind.i64.wrap ((q : Int) + (x.size : Int)) = (q : Int) + (x.size : Int) := IntWalk.i64_in _ (by have := HQE.out; have := HP3.out.len; omega)
      go_wp2_with fail
      refine region_list (T := tab2 [
          Sq.val (.pointer (some ⟨g, 0, none⟩)), Sq.val (.pointer (some ⟨g, 0, none⟩)), Sq.val (.pointer (some ⟨g, 1, none⟩)), Sq.val (.int .i64 (q : Nat)), Sq.val (.pointer (some ⟨gt, 1, none⟩)), Sq.val (.string x), Sq.val (.int .i64 (x.size : Nat)), Sq.val (.int .i64 ((q : Int) + (x.size : Int))), Sq.val (.pointer (some ⟨g, 0, none⟩)), Sq.val (.pointer (some ⟨g, 1, none⟩))]) 10
        [_, _, _, _, _, _, _, _, _, _, _] (by kernel_rfl) (by kernel_rfl) (by kernel_rfl) (by kernel_rfl) (by kernel_rfl) (by kernel_rfl) rfl ?_ ?_
      · refine AllIn.cons ?_ ?_
        · intro a w hz hb ho hg
          have e0 : a.tmps.getD 0 undef = .pointer (some ⟨g, 0, none⟩) := ho 0 (by kernel_rfl)
          have f0 := Rg.gd e0
          exact wv hb rfl (by simp [execOp, Act.eval, e0, f0, go_sem]) rfl
        refine AllIn.cons ?_ ?_
        · intro a w hz hb ho hg
          have e17 : a.tmps.getD 17 undef = .pointer (some ⟨g, 0, none⟩) := got_of hg (j := 0) rfl rfl rfl
          have f17 := Rg.gd e17
          exact wv hb rfl (by simp [execOp, Act.eval, e17, f17, go_sem]) rfl
        refine AllIn.cons ?_ ?_
        · intro a w hz hb ho hg
          have e18 : a.tmps.getD 18 undef = .pointer (some ⟨g, 0, none⟩) := got_of hg (j := 1) rfl rfl rfl
          have f18 := Rg.gd e18
          exact wv hb rfl (by simp [execOp, Act.eval, e18, f18, go_sem]) rfl
        refine AllIn.cons ?_ ?_
        · intro a w hz hb ho hg
          have e19 : a.tmps.getD 19 undef = .pointer (some ⟨g, 1, none⟩) := got_of hg (j := 2) rfl rfl rfl
          have f19 := Rg.gd e19
          have q := (hb.cell (p := ⟨g, 1, none⟩) hlg).trans c1
          exact wv hb rfl (by simp [execOp, Act.eval, e19, f19, q, go_sem]) rfl
        refine AllIn.cons ?_ ?_
        · intro a w hz hb ho hg
          have e3 : a.tmps.getD 3 undef = .pointer (some ⟨gt, 0, none⟩) := ho 3 (by kernel_rfl)
          have f3 := Rg.gd e3
          exact wv hb rfl (by simp [execOp, Act.eval, e3, f3, go_sem]) rfl
        refine AllIn.cons ?_ ?_
        · intro a w hz hb ho hg
          have e21 : a.tmps.getD 21 undef = .pointer (some ⟨gt, 1, none⟩) := got_of hg (j := 4) rfl rfl rfl
          have f21 := Rg.gd e21
          have q := (hb.cell (p := ⟨gt, 1, none⟩) hgl).trans hcx
          exact wv hb rfl (by simp [execOp, Act.eval, e21, f21, q, go_sem]) rfl
        refine AllIn.cons ?_ ?_
        · intro a w hz hb ho hg
          have e22 : a.tmps.getD 22 undef = .string x := got_of hg (j := 5) rfl rfl rfl
          have f22 := Rg.gd e22
          exact wv hb rfl (by simp [execOp, Act.eval, e22, f22, go_sem]) rfl
        refine AllIn.cons ?_ ?_
        · intro a w hz hb ho hg
          have e20 : a.tmps.getD 20 undef = .int .i64 (q : Nat) := got_of hg (j := 3) rfl rfl rfl
          have e23 : a.tmps.getD 23 undef = .int .i64 (x.size : Nat) := got_of hg (j := 6) rfl rfl rfl
          have f20 := Rg.gd e20
          have f23 := Rg.gd e23
          exact wv hb rfl (by simp [execOp, Act.eval, e20, e23, f20, f23, hw, go_sem]) rfl
        refine AllIn.cons ?_ ?_
        · intro a w hz hb ho hg
          have e17 : a.tmps.getD 17 undef = .pointer (some ⟨g, 0, none⟩) := got_of hg (j := 0) rfl rfl rfl
          have f17 := Rg.gd e17
          exact wv hb rfl (by simp [execOp, Act.eval, e17, f17, go_sem]) rfl
        refine AllIn.cons ?_ ?_
        · intro a w hz hb ho hg
          have e25 : a.tmps.getD 25 undef = .pointer (some ⟨g, 0, none⟩) := got_of hg (j := 8) rfl rfl rfl
          have f25 := Rg.gd e25
          exact wv hb rfl (by simp [execOp, Act.eval, e25, f25, go_sem]) rfl
        exact AllIn.nil
      intro a w4 hd hz hb ho hg
      have e17 : a.tmps.getD 17 undef = .pointer (some ⟨g, 0, none⟩) := hg 0 (by decide) _ _ rfl rfl
      have e18 : a.tmps.getD 18 undef = .pointer (some ⟨g, 0, none⟩) := hg 1 (by decide) _ _ rfl rfl
      have e19 : a.tmps.getD 19 undef = .pointer (some ⟨g, 1, none⟩) := hg 2 (by decide) _ _ rfl rfl
      have e20 : a.tmps.getD 20 undef = .int .i64 (q : Nat) := hg 3 (by decide) _ _ rfl rfl
      have e21 : a.tmps.getD 21 undef = .pointer (some ⟨gt, 1, none⟩) := hg 4 (by decide) _ _ rfl rfl
      have e22 : a.tmps.getD 22 undef = .string x := hg 5 (by decide) _ _ rfl rfl
      have e23 : a.tmps.getD 23 undef = .int .i64 (x.size : Nat) := hg 6 (by decide) _ _ rfl rfl
      have e24 : a.tmps.getD 24 undef = .int .i64 ((q : Int) + (x.size : Int)) := hg 7 (by decide) _ _ rfl rfl
      have e25 : a.tmps.getD 25 undef = .pointer (some ⟨g, 0, none⟩) := hg 8 (by decide) _ _ rfl rfl
      have e26 : a.tmps.getD 26 undef = .pointer (some ⟨g, 1, none⟩) := hg 9 (by decide) _ _ rfl rfl
      have hA := ho.frame hz
      simp only [List.take_succ_cons, List.take_zero, List.filterMap_cons, List.filterMap_nil, List.foldl_cons, List.foldl_nil, e17, e18, e19, e20, e21, e22, e23, e24, e25, e26, List.setIfInBounds_toArray, List.set_cons_zero, List.set_cons_succ] at hA
      obtain ⟨tm, df⟩ := a
      simp only at hd hA
      subst hd
      subst hA
      simp only [List.drop_succ_cons, List.drop_zero]
      have HH4 := Aside.mk hb
      clear hz ho hg hb e17 e18 e19 e20 e21 e22 e23 e24 e25 e26
      have HP4 := Aside.mk (HP3.out.below HH4.out)
      have HF4 := Aside.mk (HF3.out.trans (Fr.of HH4.out))
      have HRT4 := Aside.mk ((HH4.out.block _ hgl).trans HRT3.out)
      have HR4 := Aside.mk ((HH4.out.block _ (lt_of HR3.out)).trans HR3.out)
      clear c1 hlg hcx hgl HH4 HRT3 HR3 HP3 HF3
      obtain ⟨-, c1, -, hlg, hz1, -, -⟩ := HP4.out.cells
      simp only at c1
      go_wp2_with fail
      have hxe : (q : Int) + (x.size : Int) = ((E : Nat) : Int) := by have := HQE.out; omega
      rw [hxe]
      have hgt : gt ≠ g := by
        rintro rfl
        have h1 := HRT4.out
        obtain ⟨v, h2, -⟩ := HP4.out.here
        rw [h1] at h2
        injection h2 with h2; injection h2 with _ h2 _; revert h2; decide
      have hgr : gr ≠ g := by
        rintro rfl
        have h1 := HR4.out
        obtain ⟨v, h2, -⟩ := HP4.out.here
        rw [h1] at h2
        injection h2 with h2; injection h2 with _ h2 _; revert h2; decide
      have HP5 := Aside.mk (HP4.out.set E HQE.out.2.1 HQE.out.1)
      have HF5 := Aside.mk (HF4.out.trans ((HP4.out.fr 1 (.int .i64 (E : Nat))).less fun k hk => Or.inl hk))
      have HRT5 : Aside ((w4.setCell ⟨g, 1, none⟩ (.int .i64 (E : Nat))).heap[gt]? = _) := ⟨(Below.heap_setCell _ _ _ _ hgt).trans HRT4.out⟩
      have HR5 : Aside ((w4.setCell ⟨g, 1, none⟩ (.int .i64 (E : Nat))).heap[gr]? = _) := ⟨(Below.heap_setCell _ _ _ _ hgr).trans HR4.out⟩
      generalize (w4.setCell ⟨g, 1, none⟩ (.int .i64 (E : Nat))) = W5 at HP5 HF5 HRT5 HR5 ⊢
      clear c1 hlg hz1 hxe hw HP4 HF4 HRT4 HR4 hgt hgr
      refine (expect_any W5 g _ s true _ HP5.out ⟨#[39]⟩).mono ?_
      rintro e w6 hg
      rw [show (⟨#[39]⟩ : ByteArray).data.toList = [39] from rfl] at hg
      cases hx : Od.expect true s.data.toList [39] { σ with pos := E } with
      | err cc o =>
        have HXa := Aside.mk hx
        rw [hx] at hg
        clear hx
        obtain ⟨hf, rfl⟩ := hg
        have HFe : Aside (FrP B w w6) := ⟨(Fr.of HB0.out).trans ((HF5.out.trans (hf.less fun k hk => Or.inl hk)).less fun k hk => Or.inl hk)⟩
        clear hf
        go_wp2_with fail
        rw [HLS.out]
        simp only [Pr.bind, HXa.out]
        exact ⟨rfl, HFe.out, rfl⟩
      | ok a6 σ6 =>
        have HXa := Aside.mk hx
        rw [hx] at hg
        clear hx
        obtain ⟨hf, ⟨u, rfl, rfl⟩, hP⟩ := hg
        have HF6 := Aside.mk (HF5.out.trans (hf.less fun k hk => Or.inl hk))
        have HRT6 := Aside.mk (hf.kept HRT5.out (Or.inr rfl))
        have HR6 := Aside.mk (hf.kept HR5.out (Or.inl (Or.inr rfl)))
        have HP6 := Aside.mk hP
        clear hf hP
        go_wp2_with fail
        refine (expect_any w6 g _ s true _ HP6.out ⟨#[61]⟩).mono ?_
        rintro e w7 hg
        rw [show (⟨#[61]⟩ : ByteArray).data.toList = [61] from rfl] at hg
        cases hy : Od.expect true s.data.toList [61] σ6 with
        | err cc o =>
          have HYa := Aside.mk hy
          rw [hy] at hg
          clear hy
          obtain ⟨hf, rfl⟩ := hg
          have HFe : Aside (FrP B w w7) := ⟨(Fr.of HB0.out).trans ((HF6.out.trans (hf.less fun k hk => Or.inl hk)).less fun k hk => Or.inl hk)⟩
          clear hf
          go_wp2_with fail
          rw [HLS.out]
          simp only [Pr.bind, HXa.out, HYa.out]
          exact ⟨rfl, HFe.out, rfl⟩
        | ok a7 σ7 =>
          have HYa := Aside.mk hy
          rw [hy] at hg
          clear hy
          obtain ⟨hf, ⟨u, rfl, rfl⟩, hP⟩ := hg
          have HF7 := Aside.mk (HF6.out.trans (hf.less fun k hk => Or.inl hk))
          have HRT7 := Aside.mk (hf.kept HRT6.out (Or.inr rfl))
          have HR7 := Aside.mk (hf.kept HR6.out (Or.inl (Or.inr rfl)))
          have HP7 := Aside.mk hP
          clear hf hP
          have t0 : w7.cell? ⟨gt, 0, none⟩ = some (.int .i64 1) := by rw [cell_of_row _ _ 0 _ _ _ HRT7.out]; rfl
          have t1 : w7.cell? ⟨gt, 1, none⟩ = some (.string x) := by rw [cell_of_row _ _ 1 _ _ _ HRT7.out]; rfl
          have t2 : w7.cell? ⟨gt, 2, none⟩ = some (.int .i64 (q : Nat)) := by rw [cell_of_row _ _ 2 _ _ _ HRT7.out]; rfl
          have r0 : w7.cell? ⟨gr, 0, none⟩ = some (.int .i64 0) := by rw [cell_of_row _ _ 0 _ _ _ HR7.out]; rfl
          have r1 : w7.cell? ⟨gr, 1, none⟩ = some (.string ⟨#[]⟩) := by rw [cell_of_row _ _ 1 _ _ _ HR7.out]; rfl
          have r2 : w7.cell? ⟨gr, 2, none⟩ = some (.int .i64 0) := by rw [cell_of_row _ _ 2 _ _ _ HR7.out]; rfl
          have f0 : w7.frozen? ⟨gr, 0, none⟩ = false := by simp [World.frozen?, HR7.out]
          have f1 : w7.frozen? ⟨gr, 1, none⟩ = false := by simp [World.frozen?, HR7.out]
          have f2 : w7.frozen? ⟨gr, 2, none⟩ = false := by simp [World.frozen?, HR7.out]
          go_wp2_with fail
          have hfin := set3 HR7.out (.int .i64 1) (.string x) (.int .i64 (q : Nat))
          have hP8 := ((HP7.out.setIn (k := gr) (i := 0) (Or.inl (Or.inr rfl)) (.int .i64 1)).setIn (k := gr) (i := 1) (Or.inl (Or.inr rfl)) (.string x)).setIn (k := gr) (i := 2) (Or.inl (Or.inr rfl)) (.int .i64 (q : Nat))
          have hF8 : FrP B w (((w7.setCell ⟨gr, 0, none⟩ (.int .i64 1)).setCell ⟨gr, 1, none⟩ (.string x)).setCell ⟨gr, 2, none⟩ (.int .i64 (q : Nat))) := ((((Fr.of HB0.out).trans (HF7.out.less fun k hk => Or.inl hk)).setNew (Nat.le_of_eq HGR.out) _).setNew (Nat.le_of_eq HGR.out) _).setNew (Nat.le_of_eq HGR.out) _
          refine bodyPost_ret (results_cell_row rfl _ _ gr 108 #[.int .i64 1, .string x, .int .i64 (q : Nat)] (0, 0) _ rfl hfin Tryz.underlying108 rfl (by kernel_rfl)) rfl ?_
          rw [HLS.out]
          simp only [Pr.bind, HXa.out, HYa.out, Pr.ret]
          refine ⟨hF8, ⟨_, rfl, ?_, HK.out⟩, hP8.less fun k hk => Or.inl (Or.inl hk)⟩
          rw [tokV_eq, HK.out, HX.out, HQ.out]
  · have hK1 : (K == 1) = false := by rw [beq_eq_false_iff_ne]; exact hk1
    have HLS : Aside (Od.lineStart s.data.toList σ = Od.fail true s.data.toList { σ with pos := q }) := ⟨by rw [HLS.out, if_pos (Or.inl hk1)]⟩
    clear hok hK hx hq hE
    go_wp2_with fail
    obtain ⟨gt, hgt⟩ : ∃ gt, w1.heap.size = gt := ⟨_, rfl⟩
    rw [hgt] at HP1 HRT
    simp only [hgt]
    generalize w1.alloc (.cells #[.int .i64 K, .string x, .int .i64 (q : Nat)] 108) = W at HP1 HAL HRT HR2 HF2 ⊢
    have c0 : W.cell? ⟨gt, 0, none⟩ = some (.int .i64 K) := by rw [cell_of_row _ _ 0 _ _ _ HRT.out]; rfl
    have hl : gt < W.heap.size := lt_of HRT.out
    have hkd : (K != 1) = true := by simpa using hk1
    clear hgt HAL HR1 HF
    go_quiet (fail)
    go_wp2_with fail
    refine (fail_any (α := Tok) (fun _ _ _ => True) (W.drewN nq) g _ s true _ (HP1.out.below ⟨rfl, rfl, rfl, Nat.le_refl _, fun _ _ => rfl⟩)).mono ?_
    rintro e w5 ⟨hf5, rfl⟩
    have HF5 : Aside (FrP B w w5) := ⟨(Fr.of HB0.out).trans (((HF2.out.trans (Fr.of (w1 := W.drewN nq) ⟨rfl, rfl, rfl, Nat.le_refl _, fun _ _ => rfl⟩)).trans (hf5.less fun k hk => Or.inl hk)).less fun k hk => Or.inl hk)⟩
    clear hf5
    go_wp2_with fail
    rw [HLS.out]
    exact ⟨rfl, HF5.out, rfl⟩
end Go.Proofs.YthcidkidpiaomaaGreatDoor.Od
end
section
set_option linter.unusedVariables false
set_option linter.unusedSimpArgs false
namespace Go.Proofs.YthcidkidpiaomaaGreatDoor.Od
open Go.RowKit Rg
theorem skipNl_true {L : List UInt8} {k : Nat} {b : Bool} {σ σ' : PS} (h : Od.accept true L [10] σ = .ok true σ') : Od.skipNl L (k + 1) b σ = Od.skipNl L k true σ' := by
  conv => lhs; unfold Od.skipNl
  simp only [Pr.bind, h]
  rfl
theorem skipNl_false {L : List UInt8} {k : Nat} {b : Bool} {σ σ' : PS} (h : Od.accept true L [10] σ = .ok false σ') : Od.skipNl L (k + 1) b σ = .ok b σ' := by
  conv => lhs; unfold Od.skipNl
  simp only [Pr.bind, h]
  rfl
set_option maxRecDepth 100000 in
set_option maxHeartbeats 8000000 in
theorem skipNl_any (w : World) (g : Nat) (B : Nat → Prop) (s : ByteArray) (σ : PS) (h : Par w g B s true σ) (gb : Nat) (hb : w.heap[gb]? = some (.cells #[.pointer (some ⟨g, 0, none⟩)] 101 (0, 0))) :
    Calls Tryz.prog 125 #[.pointer (some ⟨gb, 0, none⟩)] w fun e w' => Got w g B s true (Od.skipNl s.data.toList (s.data.toList.length + 1) false σ) (fun b u _ => u = .bool b) e w' := by
  have HP := Aside.mk h
  have HB := Aside.mk hb
  have hsl : s.data.toList.length = s.size := rfl
  clear h hb
  go_enter Tryz.func125, Tryz.ntmps125
  go_wp2_with fail
  go_loopg [2] s.size (fun m v2 wr => ∃ (b : Bool) (σ1 : PS) (k : Nat), v2 = .bool b ∧ Aside (Par wr g B s true σ1) ∧ Aside (FrP B w wr) ∧ Aside (s.size < k + σ1.pos ∧ s.size - σ1.pos ≤ m) ∧ Aside (Od.skipNl s.data.toList (s.data.toList.length + 1) false σ = Od.skipNl s.data.toList k b σ1))
  case atStart => exact ⟨false, σ, s.data.toList.length + 1, rfl, HP, ⟨Fr.refl w⟩, ⟨by omega⟩, ⟨rfl⟩⟩
  case round =>
    clear HP
    obtain ⟨b, σ1, k, rfl, HP, HF, HM, HE⟩ := hrel
    cases k with
    | zero => exfalso; have := HM.out.1; have := HP.out.le; omega
    | succ k =>
      have HBX := Aside.mk (HF.out.cell HB.out (by decide))
      have cb : wr.cell? ⟨gb, 0, none⟩ = some (.pointer (some ⟨g, 0, none⟩)) := by rw [cell_of_row _ _ 0 _ _ _ HBX.out]; rfl
      obtain ⟨a, σ2, ha⟩ := accept_eq true s.data.toList [10] σ1
      have HA := Aside.mk ha
      clear ha
      go_wp2_with fail
      refine (accept_any wr g B s true σ1 HP.out ⟨#[10]⟩).mono ?_
      rintro e w2 hg
      rw [show (⟨#[10]⟩ : ByteArray).data.toList = [10] from rfl, HA.out] at hg
      obtain ⟨hf, ⟨u, rfl, rfl⟩, hP2⟩ := hg
      have HF2 := Aside.mk (HF.out.trans hf)
      have HP2 := Aside.mk hP2
      clear hf hP2 cb
      cases a with
      | true =>
        have HPOS := Aside.mk (accept_true HP.out.inL HA.out)
        have HE2 := Aside.mk (HE.out.trans (skipNl_true HA.out))
        go_wp2_with fail
        obtain ⟨go, hgo⟩ : ∃ go, gk = go + 1 := ⟨gk - 1, by have := HM.out; have := HPOS.out; have := HP2.out.le; omega⟩
        go_roundg go
        case measure => omega
        case rel => exact ⟨true, σ2, k, rfl, HP2, HF2, ⟨by have := HM.out; have := HPOS.out.1; omega⟩, HE2⟩
      | false =>
        have HE2 := Aside.mk (HE.out.trans (skipNl_false HA.out))
        go_wp2_with fail
        go_ret
        rw [HE2.out]
        exact ⟨HF2.out, ⟨_, rfl, rfl⟩, HP2.out⟩
end Go.Proofs.YthcidkidpiaomaaGreatDoor.Od
end
