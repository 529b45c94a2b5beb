/- CodecMatchesReference: the law's walk: it returns true at every input, and of the memory that was there nothing turns. -/
import Derived.Test.YteljhjljigbcjaaGreatDoorCvW
import Derived.Test.YteljhjljigbcjaaGreatDoorCwB
import Derived.Test.YteljhjljigbcjaaGreatDoorCwC
import Derived.Test.YteljhjljigbcjaaGreatDoorCwD
import Derived.Test.YteljhjljigbcjaaGreatDoorRegT
import Derived.Deep.DeepCutAuto
set_option linter.unusedVariables false
set_option linter.unusedSimpArgs false
namespace Go.Proofs.YteljhjljigbcjaaGreatDoor.Cv
open Go.RowKit Rg

theorem enters16 : ∀ args w, (callFunc 16 args).run Tryz.prog w = .ok (.enter 16 args) w := fun args w => by kernel_rfl
theorem enters18 : ∀ args w, (callFunc 18 args).run Tryz.prog w = .ok (.enter 18 args) w := fun args w => by kernel_rfl
theorem uni {p : Prop} [Decidable p] {w w' : World} {t : List UInt8} {e : Ending} (h : EncPost p w t e w') : ∃ v, e = .returned (.tuple #[v, .int .i64 (if p then 0 else 1)]) ∧ Txt w' v (if p then t else []) := by
  by_cases hp : p
  · obtain ⟨v, rfl, ho⟩ := h.1 hp
    exact ⟨v, by rw [if_pos hp], by rw [if_pos hp]; exact ho.txt⟩
  · exact ⟨.slice none 0 0, by rw [h.2 hp, if_neg hp], by rw [if_neg hp]; exact Txt.nil _⟩
theorem ansB_uni (o : Out Int) : ∃ n k b, ansB o = .tuple #[.int .i64 n, .int .i64 k, .bool b] := by cases o <;> exact ⟨_, _, _, rfl⟩

set_option maxRecDepth 100000 in
set_option maxHeartbeats 8000000 in
theorem CodecMatchesReference_in (n : Int) (vb : Value) (LB : List UInt8) (ek : Int) (es : ByteArray) (eu : Value) (EB : List UInt8) (a b c d s k : Int) (key : ByteArray) (mu : Value) (MB : List UInt8) (w : World)
    (hn : in64 n) (hb : Txt w vb LB) (he : Txt w eu EB) (hs : 0 ≤ s ∧ s ≤ 4294967295) (hm : Txt w mu MB) :
    Calls Tryz.prog 3 #[.int .i64 n, vb, entV ek es eu, msgV a b c d s k key mu] w fun e w' => e = .returned (.bool true) ∧ Below w.heap.size w w' := by
  have HN64 := Aside.mk hn
  have HS := Aside.mk hs
  have HTB0 := Aside.mk hb
  have HTE := Aside.mk he
  have HTM := Aside.mk hm
  obtain ⟨aob, capb, hvb, -, -, -, -⟩ := hb
  obtain ⟨nb, hnb⟩ : ∃ n, LB.length = n := ⟨_, rfl⟩
  rw [hnb] at hvb
  obtain ⟨aoe, cape, rfl, -, -, -, -⟩ := he
  obtain ⟨ne, hne⟩ : ∃ n, EB.length = n := ⟨_, rfl⟩
  rw [hne] at HTE ⊢
  obtain ⟨aom, capm, rfl, -, -, -, -⟩ := hm
  obtain ⟨nm, hnm⟩ : ∃ n, MB.length = n := ⟨_, rfl⟩
  rw [hnm] at HTM ⊢
  have HNB := Aside.mk hnb
  have HNE := Aside.mk hne
  have HNM := Aside.mk hnm
  subst hvb
  clear hnb hne hnm hs hn
  unfold entV msgV
  obtain ⟨W, hW⟩ : ∃ W, W = (w.alloc (.cells #[.int .i64 ek, .string es, .slice aoe ne cape] 24)).alloc (.cells #[.int .i64 a, .int .i64 b, .int .i64 c, .int .i64 d, .int .u32 s, .int .i64 k, .string key, .slice aom nm capm] 27) := ⟨_, rfl⟩
  have hbW : Below w.heap.size w W := by rw [hW]; exact ((Below.refl _ _).alloc (Nat.le_refl _) _).alloc (by simp) _
  have hrE : W.heap[w.heap.size]? = some (.cells #[.int .i64 ek, .string es, .slice aoe ne cape] 24 (0, 0)) := by rw [hW, Below.heap_alloc _ _ _ (by simp)]; exact heap_alloc_last _ _
  have hrM : W.heap[w.heap.size + 1]? = some (.cells #[.int .i64 a, .int .i64 b, .int .i64 c, .int .i64 d, .int .u32 s, .int .i64 k, .string key, .slice aom nm capm] 27 (0, 0)) := by
    rw [hW]
    have := heap_alloc_last (w.alloc (.cells #[.int .i64 ek, .string es, .slice aoe ne cape] 24)) (.cells #[.int .i64 a, .int .i64 b, .int .i64 c, .int .i64 d, .int .u32 s, .int .i64 k, .string key, .slice aom nm capm] 27)
    simpa using this
  have HL : Aside (nb = LB.length ∧ ne = EB.length ∧ nm = MB.length) := ⟨HNB.out.symm, HNE.out.symm, HNM.out.symm⟩
  go_enter Tryz.func3, Tryz.ntmps3
  go_upto_region 1 with fail
  rw [← hW]
  obtain ⟨gE, hgE⟩ : ∃ g, w.heap.size = g := ⟨_, rfl⟩
  obtain ⟨gM, hgM⟩ : ∃ g, gE + 1 = g := ⟨_, rfl⟩
  have HG := Aside.mk hgE
  simp only [hgE] at hrE hrM ⊢
  simp only [hgM] at hrM ⊢
  have HE0 := Aside.mk hrE
  have HM0 := Aside.mk hrM
  have HB0 := Aside.mk hbW
  clear hW hbW hrE hrM hgE hgM
  go_wp2_with fail
  refine (sanity_any W).mono ?_
  rintro e w1 ⟨rfl, b1⟩
  have HE1 : Aside (w1.heap[gE]? = some (.cells #[.int .i64 ek, .string es, .slice aoe ne cape] 24 (0, 0))) := ⟨by rw [b1.block _ (lt_of_heap HE0.out)]; exact HE0.out⟩
  have HM1 : Aside (w1.heap[gM]? = some (.cells #[.int .i64 a, .int .i64 b, .int .i64 c, .int .i64 d, .int .u32 s, .int .i64 k, .string key, .slice aom nm capm] 27 (0, 0))) := ⟨by rw [b1.block _ (lt_of_heap HM0.out)]; exact HM0.out⟩
  have HB1 : Aside (Below w.heap.size w w1) := ⟨HB0.out.trans (b1.mono HB0.out.size)⟩
  have e0 : w1.cell? ⟨gE, 0, none⟩ = some (.int .i64 ek) := by rw [cell_of_row w1 _ 0 _ _ _ HE1.out]; rfl
  have e1 : w1.cell? ⟨gE, 1, none⟩ = some (.string es) := by rw [cell_of_row w1 _ 1 _ _ _ HE1.out]; rfl
  have e2 : w1.cell? ⟨gE, 2, none⟩ = some (.slice aoe ne cape) := by rw [cell_of_row w1 _ 2 _ _ _ HE1.out]; rfl
  have m0 : w1.cell? ⟨gM, 0, none⟩ = some (.int .i64 a) := by rw [cell_of_row w1 _ 0 _ _ _ HM1.out]; rfl
  have m1 : w1.cell? ⟨gM, 1, none⟩ = some (.int .i64 b) := by rw [cell_of_row w1 _ 1 _ _ _ HM1.out]; rfl
  have m2 : w1.cell? ⟨gM, 2, none⟩ = some (.int .i64 c) := by rw [cell_of_row w1 _ 2 _ _ _ HM1.out]; rfl
  have m3 : w1.cell? ⟨gM, 3, none⟩ = some (.int .i64 d) := by rw [cell_of_row w1 _ 3 _ _ _ HM1.out]; rfl
  have m4 : w1.cell? ⟨gM, 4, none⟩ = some (.int .u32 s) := by rw [cell_of_row w1 _ 4 _ _ _ HM1.out]; rfl
  have m5 : w1.cell? ⟨gM, 5, none⟩ = some (.int .i64 k) := by rw [cell_of_row w1 _ 5 _ _ _ HM1.out]; rfl
  have m6 : w1.cell? ⟨gM, 6, none⟩ = some (.string key) := by rw [cell_of_row w1 _ 6 _ _ _ HM1.out]; rfl
  have m7 : w1.cell? ⟨gM, 7, none⟩ = some (.slice aom nm capm) := by rw [cell_of_row w1 _ 7 _ _ _ HM1.out]; rfl
  clear b1
  by_cases h0 : 300 < nb
  · have d0 : decide ((300 : Int) < (nb : Int)) = true := by simp; omega
    clear h0
    go_wp2_with fail
    go_ret
    exact ⟨rfl, HB1.out⟩
  have d0 : decide ((300 : Int) < (nb : Int)) = false := by simp; omega
  have HC0 := Aside.mk h0
  clear h0
  by_cases h1 : 20100 < ne
  · have d1 : decide ((20100 : Int) < (ne : Int)) = true := by simp; omega
    clear h1
    go_wp2_with fail
    go_ret
    exact ⟨rfl, HB1.out⟩
  have d1 : decide ((20100 : Int) < (ne : Int)) = false := by simp; omega
  have HC1 := Aside.mk h1
  clear h1
  by_cases h2 : 60 < es.size
  · have d2 : decide ((60 : Int) < (es.size : Int)) = true := by simp; omega
    clear h2
    go_wp2_with fail
    go_ret
    exact ⟨rfl, HB1.out⟩
  have d2 : decide ((60 : Int) < (es.size : Int)) = false := by simp; omega
  have HC2 := Aside.mk h2
  clear h2
  by_cases h3 : 300 < nm
  · have d3 : decide ((300 : Int) < (nm : Int)) = true := by simp; omega
    clear h3
    go_wp2_with fail
    go_ret
    exact ⟨rfl, HB1.out⟩
  have d3 : decide ((300 : Int) < (nm : Int)) = false := by simp; omega
  have HC3 := Aside.mk h3
  clear h3
  by_cases h4 : 60 < key.size
  · have d4 : decide ((60 : Int) < (key.size : Int)) = true := by simp; omega
    clear h4
    go_wp2_with fail
    go_ret
    exact ⟨rfl, HB1.out⟩
  have d4 : decide ((60 : Int) < (key.size : Int)) = false := by simp; omega
  have HC4 := Aside.mk h4
  clear h4
  have HLB : Aside (LB.length ≤ 1000000000) := ⟨by have := HC0.out; have := HNB.out; omega⟩
  have HLB' : Aside (LB.length < 1000000000) := ⟨by have := HC0.out; have := HNB.out; omega⟩
  have hV := Varint_txt w1 (.slice aob nb capb) LB (HTB0.out.below HB1.out) HLB'
  obtain ⟨n1, k1, b1, hans⟩ := ansB_uni (rdV LB 0)
  have hV1 : Calls Tryz.prog 9 #[.slice aob nb capb] w1 fun e w' => Below w1.heap.size w1 w' ∧ e = .returned (.tuple #[.int .i64 n1, .int .i64 k1, .bool b1]) := by
    refine hV.mono ?_
    rintro e w' ⟨hb, he⟩
    refine ⟨hb, ?_⟩
    rw [he, ← hans]
    cases rdV LB 0 <;> rfl
  have HV1 := Aside.mk hV1
  have HANS := Aside.mk hans
  clear hV hV1 hans
  go_wp2_with fail
  refine HV1.out.mono ?_
  rintro e w2 ⟨b2, rfl⟩
  have HE2 : Aside (w2.heap[gE]? = some (.cells #[.int .i64 ek, .string es, .slice aoe ne cape] 24 (0, 0))) := ⟨by rw [b2.block _ (lt_of_heap HE1.out)]; exact HE1.out⟩
  have HM2 : Aside (w2.heap[gM]? = some (.cells #[.int .i64 a, .int .i64 b, .int .i64 c, .int .i64 d, .int .u32 s, .int .i64 k, .string key, .slice aom nm capm] 27 (0, 0))) := ⟨by rw [b2.block _ (lt_of_heap HM1.out)]; exact HM1.out⟩
  have HB2 : Aside (Below w.heap.size w w2) := ⟨HB1.out.trans (b2.mono HB1.out.size)⟩
  clear b2 HV1 e0 e1 e2 m0 m1 m2 m3 m4 m5 m6 m7
  go_wp2_with fail
  refine (rVarint_txt w2 (.slice aob nb capb) LB (HTB0.out.below HB2.out) HLB').mono ?_
  rintro e w2' ⟨rfl, rfl⟩
  rw [HANS.out]
  have e0 : w2.cell? ⟨gE, 0, none⟩ = some (.int .i64 ek) := by rw [cell_of_row w2 _ 0 _ _ _ HE2.out]; rfl
  have e1 : w2.cell? ⟨gE, 1, none⟩ = some (.string es) := by rw [cell_of_row w2 _ 1 _ _ _ HE2.out]; rfl
  have e2 : w2.cell? ⟨gE, 2, none⟩ = some (.slice aoe ne cape) := by rw [cell_of_row w2 _ 2 _ _ _ HE2.out]; rfl
  have hE := EncodeEntry_txt ek es (.slice aoe ne cape) EB w2 (HTE.out.below HB2.out)
  obtain ⟨fe, hfe⟩ : ∃ fe : Int, fe = (if okE ⟨ek, es.data.toList, EB⟩ then 0 else 1) := ⟨_, rfl⟩
  obtain ⟨X, hX⟩ : ∃ X, X = (if okE ⟨ek, es.data.toList, EB⟩ then encE ⟨ek, es.data.toList, EB⟩ else []) := ⟨_, rfl⟩
  have hE1 : Calls Tryz.prog 11 #[entV ek es (.slice aoe ne cape)] w2 fun e w' => Below w2.heap.size w2 w' ∧ ∃ v, e = .returned (.tuple #[v, .int .i64 fe]) ∧ Txt w' v X := by
    refine hE.mono ?_
    rintro e w' ⟨hb, h⟩
    refine ⟨hb, ?_⟩
    rw [hfe, hX]
    refine uni (w := w2) ⟨fun hp => ?_, fun hp => ?_⟩
    · rw [if_pos hp] at h; exact h
    · rw [if_neg hp] at h; exact h
  have hE2 : ∀ w3, Below w.heap.size w w3 → Calls Tryz.prog 12 #[entV ek es (.slice aoe ne cape)] w3 fun e w' => Below w3.heap.size w3 w' ∧ ∃ v, e = .returned (.tuple #[v, .int .i64 fe]) ∧ Txt w' v X := fun w3 hb3 => by
    refine (rEncodeEntry_txt ek es (.slice aoe ne cape) EB w3 (HTE.out.below hb3)).mono ?_
    rintro e w' ⟨hb, h⟩
    exact ⟨hb, by rw [hfe, hX]; exact uni h⟩
  unfold entV at hE1 hE2
  have HE1' := Aside.mk hE1
  have HE2' := Aside.mk hE2
  clear hE hE1 hE2 hfe hX
  go_wp2_with fail
  refine HE1'.out.mono ?_
  rintro e w3 ⟨b3, xv, rfl, tx⟩
  have HE3 : Aside (w3.heap[gE]? = some (.cells #[.int .i64 ek, .string es, .slice aoe ne cape] 24 (0, 0))) := ⟨by rw [b3.block _ (lt_of_heap HE2.out)]; exact HE2.out⟩
  have HM3 : Aside (w3.heap[gM]? = some (.cells #[.int .i64 a, .int .i64 b, .int .i64 c, .int .i64 d, .int .u32 s, .int .i64 k, .string key, .slice aom nm capm] 27 (0, 0))) := ⟨by rw [b3.block _ (lt_of_heap HM2.out)]; exact HM2.out⟩
  have HB3 : Aside (Below w.heap.size w w3) := ⟨HB2.out.trans (b3.mono HB2.out.size)⟩
  have HX0 := Aside.mk tx
  clear b3 tx HE1' e0 e1 e2
  have e0 : w3.cell? ⟨gE, 0, none⟩ = some (.int .i64 ek) := by rw [cell_of_row w3 _ 0 _ _ _ HE3.out]; rfl
  have e1 : w3.cell? ⟨gE, 1, none⟩ = some (.string es) := by rw [cell_of_row w3 _ 1 _ _ _ HE3.out]; rfl
  have e2 : w3.cell? ⟨gE, 2, none⟩ = some (.slice aoe ne cape) := by rw [cell_of_row w3 _ 2 _ _ _ HE3.out]; rfl
  go_wp2_with fail
  refine (HE2'.out w3 HB3.out).mono ?_
  rintro e w4 ⟨b4, xv', rfl, tx⟩
  have HE4 : Aside (w4.heap[gE]? = some (.cells #[.int .i64 ek, .string es, .slice aoe ne cape] 24 (0, 0))) := ⟨by rw [b4.block _ (lt_of_heap HE3.out)]; exact HE3.out⟩
  have HM4 : Aside (w4.heap[gM]? = some (.cells #[.int .i64 a, .int .i64 b, .int .i64 c, .int .i64 d, .int .u32 s, .int .i64 k, .string key, .slice aom nm capm] 27 (0, 0))) := ⟨by rw [b4.block _ (lt_of_heap HM3.out)]; exact HM3.out⟩
  have HB4 : Aside (Below w.heap.size w w4) := ⟨HB3.out.trans (b4.mono HB3.out.size)⟩
  have HX4 := Aside.mk (HX0.out.below b4)
  have HX4' := Aside.mk tx
  clear b4 tx HE2' e0 e1 e2
  have m0 : w4.cell? ⟨gM, 0, none⟩ = some (.int .i64 a) := by rw [cell_of_row w4 _ 0 _ _ _ HM4.out]; rfl
  have m1 : w4.cell? ⟨gM, 1, none⟩ = some (.int .i64 b) := by rw [cell_of_row w4 _ 1 _ _ _ HM4.out]; rfl
  have m2 : w4.cell? ⟨gM, 2, none⟩ = some (.int .i64 c) := by rw [cell_of_row w4 _ 2 _ _ _ HM4.out]; rfl
  have m3 : w4.cell? ⟨gM, 3, none⟩ = some (.int .i64 d) := by rw [cell_of_row w4 _ 3 _ _ _ HM4.out]; rfl
  have m4 : w4.cell? ⟨gM, 4, none⟩ = some (.int .u32 s) := by rw [cell_of_row w4 _ 4 _ _ _ HM4.out]; rfl
  have m5 : w4.cell? ⟨gM, 5, none⟩ = some (.int .i64 k) := by rw [cell_of_row w4 _ 5 _ _ _ HM4.out]; rfl
  have m6 : w4.cell? ⟨gM, 6, none⟩ = some (.string key) := by rw [cell_of_row w4 _ 6 _ _ _ HM4.out]; rfl
  have m7 : w4.cell? ⟨gM, 7, none⟩ = some (.slice aom nm capm) := by rw [cell_of_row w4 _ 7 _ _ _ HM4.out]; rfl
  have hM := EncodeMessage_txt a b c d s k key (.slice aom nm capm) MB w4 (HTM.out.below HB4.out) HS
  obtain ⟨fm, hfm⟩ : ∃ fe : Int, fe = (if okM ⟨a, b, c, d, s, ⟨k, key.data.toList, MB⟩⟩ then 0 else 1) := ⟨_, rfl⟩
  obtain ⟨Y, hY⟩ : ∃ X, X = (if okM ⟨a, b, c, d, s, ⟨k, key.data.toList, MB⟩⟩ then encM ⟨a, b, c, d, s, ⟨k, key.data.toList, MB⟩⟩ else []) := ⟨_, rfl⟩
  have hM1 : Calls Tryz.prog 13 #[msgV a b c d s k key (.slice aom nm capm)] w4 fun e w' => Below w4.heap.size w4 w' ∧ ∃ v, e = .returned (.tuple #[v, .int .i64 fm]) ∧ Txt w' v Y := by
    refine hM.mono ?_
    rintro e w' ⟨hb, h⟩
    exact ⟨hb, by rw [hfm, hY]; exact uni h⟩
  have hM2 : ∀ w3, Below w.heap.size w w3 → Calls Tryz.prog 14 #[msgV a b c d s k key (.slice aom nm capm)] w3 fun e w' => Below w3.heap.size w3 w' ∧ ∃ v, e = .returned (.tuple #[v, .int .i64 fm]) ∧ Txt w' v Y := fun w3 hb3 => by
    refine (rEncodeMessage_txt a b c d s k key (.slice aom nm capm) MB w3 (HTM.out.below hb3) HS).mono ?_
    rintro e w' ⟨hb, h⟩
    exact ⟨hb, by rw [hfm, hY]; exact uni h⟩
  unfold msgV at hM1 hM2
  have HM1' := Aside.mk hM1
  have HM2' := Aside.mk hM2
  clear hM hM1 hM2 hfm hY
  go_wp2_with fail
  refine HM1'.out.mono ?_
  rintro e w5 ⟨b5, yv, rfl, ty⟩
  have HE5 : Aside (w5.heap[gE]? = some (.cells #[.int .i64 ek, .string es, .slice aoe ne cape] 24 (0, 0))) := ⟨by rw [b5.block _ (lt_of_heap HE4.out)]; exact HE4.out⟩
  have HM5 : Aside (w5.heap[gM]? = some (.cells #[.int .i64 a, .int .i64 b, .int .i64 c, .int .i64 d, .int .u32 s, .int .i64 k, .string key, .slice aom nm capm] 27 (0, 0))) := ⟨by rw [b5.block _ (lt_of_heap HM4.out)]; exact HM4.out⟩
  have HB5 : Aside (Below w.heap.size w w5) := ⟨HB4.out.trans (b5.mono HB4.out.size)⟩
  have HX5 := Aside.mk (HX4.out.below b5)
  have HX5' := Aside.mk (HX4'.out.below b5)
  have HY5 := Aside.mk ty
  clear b5 ty HM1' m0 m1 m2 m3 m4 m5 m6 m7
  have m0 : w5.cell? ⟨gM, 0, none⟩ = some (.int .i64 a) := by rw [cell_of_row w5 _ 0 _ _ _ HM5.out]; rfl
  have m1 : w5.cell? ⟨gM, 1, none⟩ = some (.int .i64 b) := by rw [cell_of_row w5 _ 1 _ _ _ HM5.out]; rfl
  have m2 : w5.cell? ⟨gM, 2, none⟩ = some (.int .i64 c) := by rw [cell_of_row w5 _ 2 _ _ _ HM5.out]; rfl
  have m3 : w5.cell? ⟨gM, 3, none⟩ = some (.int .i64 d) := by rw [cell_of_row w5 _ 3 _ _ _ HM5.out]; rfl
  have m4 : w5.cell? ⟨gM, 4, none⟩ = some (.int .u32 s) := by rw [cell_of_row w5 _ 4 _ _ _ HM5.out]; rfl
  have m5 : w5.cell? ⟨gM, 5, none⟩ = some (.int .i64 k) := by rw [cell_of_row w5 _ 5 _ _ _ HM5.out]; rfl
  have m6 : w5.cell? ⟨gM, 6, none⟩ = some (.string key) := by rw [cell_of_row w5 _ 6 _ _ _ HM5.out]; rfl
  have m7 : w5.cell? ⟨gM, 7, none⟩ = some (.slice aom nm capm) := by rw [cell_of_row w5 _ 7 _ _ _ HM5.out]; rfl
  go_wp2_with fail
  refine (HM2'.out w5 HB5.out).mono ?_
  rintro e w6 ⟨b6, yv', rfl, ty⟩
  have HE6 : Aside (w6.heap[gE]? = some (.cells #[.int .i64 ek, .string es, .slice aoe ne cape] 24 (0, 0))) := ⟨by rw [b6.block _ (lt_of_heap HE5.out)]; exact HE5.out⟩
  have HM6 : Aside (w6.heap[gM]? = some (.cells #[.int .i64 a, .int .i64 b, .int .i64 c, .int .i64 d, .int .u32 s, .int .i64 k, .string key, .slice aom nm capm] 27 (0, 0))) := ⟨by rw [b6.block _ (lt_of_heap HM5.out)]; exact HM5.out⟩
  have HB6 : Aside (Below w.heap.size w w6) := ⟨HB5.out.trans (b6.mono HB5.out.size)⟩
  have HX := Aside.mk (HX5.out.below b6)
  have HX' := Aside.mk (HX5'.out.below b6)
  have HY := Aside.mk (HY5.out.below b6)
  have HY' := Aside.mk ty
  have HTB : Aside (Txt w6 (.slice aob nb capb) LB) := ⟨HTB0.out.below HB6.out⟩
  clear b6 ty HM2' m0 m1 m2 m3 m4 m5 m6 m7
  go_wp2_with fail
  refine region_list (T := tab [
      Sp.val (.bool true),
      Sp.val (.bool true),
      Sp.val (.int .i64 n1),
      Sp.val (.int .i64 n1),
      Sp.val (.bool true),
      Sp.val (.bool true),
      Sp.val (.bool true),
      Sp.val (.int .i64 k1),
      Sp.val (.int .i64 k1),
      Sp.val (.bool true),
      Sp.val (.bool true),
      Sp.val (.bool true),
      Sp.val (.bool b1),
      Sp.val (.bool b1),
      Sp.val (.bool true),
      Sp.val (.bool true),
      Sp.val (.bool true),
      Sp.val (xv),
      Sp.val (.string (str (X))),
      Sp.val (xv'),
      Sp.val (.string (str (X))),
      Sp.val (.bool true),
      Sp.val (.bool true),
      Sp.val (.bool true),
      Sp.val (.int .i64 fe),
      Sp.val (.int .i64 fe),
      Sp.val (.bool true),
      Sp.val (.bool true),
      Sp.val (.bool true),
      Sp.val (yv),
      Sp.val (.string (str (Y))),
      Sp.val (yv'),
      Sp.val (.string (str (Y))),
      Sp.val (.bool true),
      Sp.val (.bool true),
      Sp.val (.bool true),
      Sp.val (.int .i64 fm),
      Sp.val (.int .i64 fm),
      Sp.val (.bool true),
      Sp.val (.bool true),
      Sp.val (.bool true),
      Sp.val (.slice aob nb capb),
      Sp.val (.int .i64 n),
      Sp.txt (LB ++ vint n),
      Sp.val (.string (str (LB ++ vint n))),
      Sp.val (.slice aob nb capb),
      Sp.val (.int .i64 n),
      Sp.txt (LB ++ vint n),
      Sp.val (.string (str (LB ++ vint n))),
      Sp.val (.bool true),
      Sp.val (.bool true),
      Sp.val (.bool true),
      Sp.val (.slice aob nb capb),
      Sp.val (.int .u32 (crc LB : Nat)),
      Sp.val (.slice aob nb capb),
      Sp.val (.int .u32 (crc LB : Nat)),
      Sp.val (.bool true),
      Sp.val (.bool true)]) 58
    [_, _, _, _, _, _, _, _, _, _, _, _, _, _, _, _, _, _, _, _, _, _, _, _, _, _, _, _, _, _, _, _, _, _, _, _, _, _, _, _, _, _, _, _, _, _, _, _, _, _, _, _, _, _, _, _, _, _, _] (by kernel_rfl) (by kernel_rfl) (by kernel_rfl) (by kernel_rfl) (by kernel_rfl) (by kernel_rfl) rfl ?_ ?_
  · refine AllIn.cons ?_ ?_
    · intro a w hz hb ho hg
      have e9 : a.tmps.getD 9 undef = .bool true := ho 9 (by kernel_rfl)
      have f9 := e9; rw [Array.getD_eq_getD_getElem?] at f9
      exact Or.inl ⟨wanted_none rfl, wp_value hb.size (by simp [execOp, Act.eval, e9, f9, go_sem]) (Below.refl _ _) rfl⟩
    refine AllIn.cons ?_ ?_
    · intro a w hz hb ho hg
      have e87 : a.tmps.getD 87 undef = .bool true := got_of hg (j := 0) rfl rfl rfl
      have f87 := e87; rw [Array.getD_eq_getD_getElem?] at f87
      exact Or.inl ⟨wanted_none rfl, wp_value hb.size (by simp [execOp, Act.eval, e87, f87, go_sem]) (Below.refl _ _) rfl⟩
    refine AllIn.cons ?_ ?_
    · intro a w hz hb ho hg
      have e10 : a.tmps.getD 10 undef = .int .i64 n1 := ho 10 (by kernel_rfl)
      have f10 := e10; rw [Array.getD_eq_getD_getElem?] at f10
      exact Or.inl ⟨by rw [wanted_of (j := 1) rfl rfl rfl (show a.tmps.getD 88 undef = .bool true from got_of hg (j := 1) rfl rfl rfl)]; rfl, wp_value hb.size (by simp [execOp, Act.eval, e10, f10, go_sem]) (Below.refl _ _) rfl⟩
    refine AllIn.cons ?_ ?_
    · intro a w hz hb ho hg
      have e13 : a.tmps.getD 13 undef = .int .i64 n1 := ho 13 (by kernel_rfl)
      have f13 := e13; rw [Array.getD_eq_getD_getElem?] at f13
      exact Or.inl ⟨by rw [wanted_of (j := 1) rfl rfl rfl (show a.tmps.getD 88 undef = .bool true from got_of hg (j := 1) rfl rfl rfl)]; rfl, wp_value hb.size (by simp [execOp, Act.eval, e13, f13, go_sem]) (Below.refl _ _) rfl⟩
    refine AllIn.cons ?_ ?_
    · intro a w hz hb ho hg
      have e89 : a.tmps.getD 89 undef = .int .i64 n1 := got_of hg (j := 2) rfl rfl rfl
      have e90 : a.tmps.getD 90 undef = .int .i64 n1 := got_of hg (j := 3) rfl rfl rfl
      have f89 := e89; rw [Array.getD_eq_getD_getElem?] at f89
      have f90 := e90; rw [Array.getD_eq_getD_getElem?] at f90
      exact Or.inl ⟨by rw [wanted_of (j := 1) rfl rfl rfl (show a.tmps.getD 88 undef = .bool true from got_of hg (j := 1) rfl rfl rfl)]; rfl, wp_value hb.size (by simp [execOp, Act.eval, e89, e90, f89, f90, go_sem]) (Below.refl _ _) rfl⟩
    refine AllIn.cons ?_ ?_
    · intro a w hz hb ho hg
      have e88 : a.tmps.getD 88 undef = .bool true := got_of hg (j := 1) rfl rfl rfl
      have e91 : a.tmps.getD 91 undef = .bool true := got_of hg (j := 4) rfl rfl rfl
      have f88 := e88; rw [Array.getD_eq_getD_getElem?] at f88
      have f91 := e91; rw [Array.getD_eq_getD_getElem?] at f91
      exact Or.inl ⟨wanted_none rfl, wp_value hb.size (by simp [execOp, Act.eval, e88, e91, f88, f91, go_sem]) (Below.refl _ _) rfl⟩
    refine AllIn.cons ?_ ?_
    · intro a w hz hb ho hg
      have e92 : a.tmps.getD 92 undef = .bool true := got_of hg (j := 5) rfl rfl rfl
      have f92 := e92; rw [Array.getD_eq_getD_getElem?] at f92
      exact Or.inl ⟨wanted_none rfl, wp_value hb.size (by simp [execOp, Act.eval, e92, f92, go_sem]) (Below.refl _ _) rfl⟩
    refine AllIn.cons ?_ ?_
    · intro a w hz hb ho hg
      have e11 : a.tmps.getD 11 undef = .int .i64 k1 := ho 11 (by kernel_rfl)
      have f11 := e11; rw [Array.getD_eq_getD_getElem?] at f11
      exact Or.inl ⟨by rw [wanted_of (j := 6) rfl rfl rfl (show a.tmps.getD 93 undef = .bool true from got_of hg (j := 6) rfl rfl rfl)]; rfl, wp_value hb.size (by simp [execOp, Act.eval, e11, f11, go_sem]) (Below.refl _ _) rfl⟩
    refine AllIn.cons ?_ ?_
    · intro a w hz hb ho hg
      have e14 : a.tmps.getD 14 undef = .int .i64 k1 := ho 14 (by kernel_rfl)
      have f14 := e14; rw [Array.getD_eq_getD_getElem?] at f14
      exact Or.inl ⟨by rw [wanted_of (j := 6) rfl rfl rfl (show a.tmps.getD 93 undef = .bool true from got_of hg (j := 6) rfl rfl rfl)]; rfl, wp_value hb.size (by simp [execOp, Act.eval, e14, f14, go_sem]) (Below.refl _ _) rfl⟩
    refine AllIn.cons ?_ ?_
    · intro a w hz hb ho hg
      have e94 : a.tmps.getD 94 undef = .int .i64 k1 := got_of hg (j := 7) rfl rfl rfl
      have e95 : a.tmps.getD 95 undef = .int .i64 k1 := got_of hg (j := 8) rfl rfl rfl
      have f94 := e94; rw [Array.getD_eq_getD_getElem?] at f94
      have f95 := e95; rw [Array.getD_eq_getD_getElem?] at f95
      exact Or.inl ⟨by rw [wanted_of (j := 6) rfl rfl rfl (show a.tmps.getD 93 undef = .bool true from got_of hg (j := 6) rfl rfl rfl)]; rfl, wp_value hb.size (by simp [execOp, Act.eval, e94, e95, f94, f95, go_sem]) (Below.refl _ _) rfl⟩
    refine AllIn.cons ?_ ?_
    · intro a w hz hb ho hg
      have e93 : a.tmps.getD 93 undef = .bool true := got_of hg (j := 6) rfl rfl rfl
      have e96 : a.tmps.getD 96 undef = .bool true := got_of hg (j := 9) rfl rfl rfl
      have f93 := e93; rw [Array.getD_eq_getD_getElem?] at f93
      have f96 := e96; rw [Array.getD_eq_getD_getElem?] at f96
      exact Or.inl ⟨wanted_none rfl, wp_value hb.size (by simp [execOp, Act.eval, e93, e96, f93, f96, go_sem]) (Below.refl _ _) rfl⟩
    refine AllIn.cons ?_ ?_
    · intro a w hz hb ho hg
      have e97 : a.tmps.getD 97 undef = .bool true := got_of hg (j := 10) rfl rfl rfl
      have f97 := e97; rw [Array.getD_eq_getD_getElem?] at f97
      exact Or.inl ⟨wanted_none rfl, wp_value hb.size (by simp [execOp, Act.eval, e97, f97, go_sem]) (Below.refl _ _) rfl⟩
    refine AllIn.cons ?_ ?_
    · intro a w hz hb ho hg
      have e12 : a.tmps.getD 12 undef = .bool b1 := ho 12 (by kernel_rfl)
      have f12 := e12; rw [Array.getD_eq_getD_getElem?] at f12
      exact Or.inl ⟨by rw [wanted_of (j := 11) rfl rfl rfl (show a.tmps.getD 98 undef = .bool true from got_of hg (j := 11) rfl rfl rfl)]; rfl, wp_value hb.size (by simp [execOp, Act.eval, e12, f12, go_sem]) (Below.refl _ _) rfl⟩
    refine AllIn.cons ?_ ?_
    · intro a w hz hb ho hg
      have e15 : a.tmps.getD 15 undef = .bool b1 := ho 15 (by kernel_rfl)
      have f15 := e15; rw [Array.getD_eq_getD_getElem?] at f15
      exact Or.inl ⟨by rw [wanted_of (j := 11) rfl rfl rfl (show a.tmps.getD 98 undef = .bool true from got_of hg (j := 11) rfl rfl rfl)]; rfl, wp_value hb.size (by simp [execOp, Act.eval, e15, f15, go_sem]) (Below.refl _ _) rfl⟩
    refine AllIn.cons ?_ ?_
    · intro a w hz hb ho hg
      have e99 : a.tmps.getD 99 undef = .bool b1 := got_of hg (j := 12) rfl rfl rfl
      have e100 : a.tmps.getD 100 undef = .bool b1 := got_of hg (j := 13) rfl rfl rfl
      have f99 := e99; rw [Array.getD_eq_getD_getElem?] at f99
      have f100 := e100; rw [Array.getD_eq_getD_getElem?] at f100
      exact Or.inl ⟨by rw [wanted_of (j := 11) rfl rfl rfl (show a.tmps.getD 98 undef = .bool true from got_of hg (j := 11) rfl rfl rfl)]; rfl, wp_value hb.size (by simp [execOp, Act.eval, e99, e100, f99, f100, go_sem]) (Below.refl _ _) rfl⟩
    refine AllIn.cons ?_ ?_
    · intro a w hz hb ho hg
      have e98 : a.tmps.getD 98 undef = .bool true := got_of hg (j := 11) rfl rfl rfl
      have e101 : a.tmps.getD 101 undef = .bool true := got_of hg (j := 14) rfl rfl rfl
      have f98 := e98; rw [Array.getD_eq_getD_getElem?] at f98
      have f101 := e101; rw [Array.getD_eq_getD_getElem?] at f101
      exact Or.inl ⟨wanted_none rfl, wp_value hb.size (by simp [execOp, Act.eval, e98, e101, f98, f101, go_sem]) (Below.refl _ _) rfl⟩
    refine AllIn.cons ?_ ?_
    · intro a w hz hb ho hg
      have e102 : a.tmps.getD 102 undef = .bool true := got_of hg (j := 15) rfl rfl rfl
      have f102 := e102; rw [Array.getD_eq_getD_getElem?] at f102
      exact Or.inl ⟨wanted_none rfl, wp_value hb.size (by simp [execOp, Act.eval, e102, f102, go_sem]) (Below.refl _ _) rfl⟩
    refine AllIn.cons ?_ ?_
    · intro a w hz hb ho hg
      have e16 : a.tmps.getD 16 undef = xv := ho 16 (by kernel_rfl)
      have f16 := e16; rw [Array.getD_eq_getD_getElem?] at f16
      exact Or.inl ⟨by rw [wanted_of (j := 16) rfl rfl rfl (show a.tmps.getD 103 undef = .bool true from got_of hg (j := 16) rfl rfl rfl)]; rfl, wp_value hb.size (by simp [execOp, Act.eval, e16, f16, go_sem]) (Below.refl _ _) rfl⟩
    refine AllIn.cons ?_ ?_
    · intro a w hz hb ho hg
      have e104 : a.tmps.getD 104 undef = xv := got_of hg (j := 17) rfl rfl rfl
      have f104 := e104; rw [Array.getD_eq_getD_getElem?] at f104
      exact Or.inl ⟨by rw [wanted_of (j := 16) rfl rfl rfl (show a.tmps.getD 103 undef = .bool true from got_of hg (j := 16) rfl rfl rfl)]; rfl, wp_value hb.size (run_conv (show Txt w (a.tmps.getD 104 undef) (X) from by rw [e104]; exact HX.out.below hb)) (Below.refl _ _) rfl⟩
    refine AllIn.cons ?_ ?_
    · intro a w hz hb ho hg
      have e18 : a.tmps.getD 18 undef = xv' := ho 18 (by kernel_rfl)
      have f18 := e18; rw [Array.getD_eq_getD_getElem?] at f18
      exact Or.inl ⟨by rw [wanted_of (j := 16) rfl rfl rfl (show a.tmps.getD 103 undef = .bool true from got_of hg (j := 16) rfl rfl rfl)]; rfl, wp_value hb.size (by simp [execOp, Act.eval, e18, f18, go_sem]) (Below.refl _ _) rfl⟩
    refine AllIn.cons ?_ ?_
    · intro a w hz hb ho hg
      have e106 : a.tmps.getD 106 undef = xv' := got_of hg (j := 19) rfl rfl rfl
      have f106 := e106; rw [Array.getD_eq_getD_getElem?] at f106
      exact Or.inl ⟨by rw [wanted_of (j := 16) rfl rfl rfl (show a.tmps.getD 103 undef = .bool true from got_of hg (j := 16) rfl rfl rfl)]; rfl, wp_value hb.size (run_conv (show Txt w (a.tmps.getD 106 undef) (X) from by rw [e106]; exact HX'.out.below hb)) (Below.refl _ _) rfl⟩
    refine AllIn.cons ?_ ?_
    · intro a w hz hb ho hg
      have e105 : a.tmps.getD 105 undef = .string (str (X)) := got_of hg (j := 18) rfl rfl rfl
      have e107 : a.tmps.getD 107 undef = .string (str (X)) := got_of hg (j := 20) rfl rfl rfl
      have f105 := e105; rw [Array.getD_eq_getD_getElem?] at f105
      have f107 := e107; rw [Array.getD_eq_getD_getElem?] at f107
      exact Or.inl ⟨by rw [wanted_of (j := 16) rfl rfl rfl (show a.tmps.getD 103 undef = .bool true from got_of hg (j := 16) rfl rfl rfl)]; rfl, wp_value hb.size (by simp [execOp, Act.eval, e105, e107, f105, f107, go_sem]) (Below.refl _ _) rfl⟩
    refine AllIn.cons ?_ ?_
    · intro a w hz hb ho hg
      have e103 : a.tmps.getD 103 undef = .bool true := got_of hg (j := 16) rfl rfl rfl
      have e108 : a.tmps.getD 108 undef = .bool true := got_of hg (j := 21) rfl rfl rfl
      have f103 := e103; rw [Array.getD_eq_getD_getElem?] at f103
      have f108 := e108; rw [Array.getD_eq_getD_getElem?] at f108
      exact Or.inl ⟨wanted_none rfl, wp_value hb.size (by simp [execOp, Act.eval, e103, e108, f103, f108, go_sem]) (Below.refl _ _) rfl⟩
    refine AllIn.cons ?_ ?_
    · intro a w hz hb ho hg
      have e109 : a.tmps.getD 109 undef = .bool true := got_of hg (j := 22) rfl rfl rfl
      have f109 := e109; rw [Array.getD_eq_getD_getElem?] at f109
      exact Or.inl ⟨wanted_none rfl, wp_value hb.size (by simp [execOp, Act.eval, e109, f109, go_sem]) (Below.refl _ _) rfl⟩
    refine AllIn.cons ?_ ?_
    · intro a w hz hb ho hg
      have e17 : a.tmps.getD 17 undef = .int .i64 fe := ho 17 (by kernel_rfl)
      have f17 := e17; rw [Array.getD_eq_getD_getElem?] at f17
      exact Or.inl ⟨by rw [wanted_of (j := 23) rfl rfl rfl (show a.tmps.getD 110 undef = .bool true from got_of hg (j := 23) rfl rfl rfl)]; rfl, wp_value hb.size (by simp [execOp, Act.eval, e17, f17, go_sem]) (Below.refl _ _) rfl⟩
    refine AllIn.cons ?_ ?_
    · intro a w hz hb ho hg
      have e19 : a.tmps.getD 19 undef = .int .i64 fe := ho 19 (by kernel_rfl)
      have f19 := e19; rw [Array.getD_eq_getD_getElem?] at f19
      exact Or.inl ⟨by rw [wanted_of (j := 23) rfl rfl rfl (show a.tmps.getD 110 undef = .bool true from got_of hg (j := 23) rfl rfl rfl)]; rfl, wp_value hb.size (by simp [execOp, Act.eval, e19, f19, go_sem]) (Below.refl _ _) rfl⟩
    refine AllIn.cons ?_ ?_
    · intro a w hz hb ho hg
      have e111 : a.tmps.getD 111 undef = .int .i64 fe := got_of hg (j := 24) rfl rfl rfl
      have e112 : a.tmps.getD 112 undef = .int .i64 fe := got_of hg (j := 25) rfl rfl rfl
      have f111 := e111; rw [Array.getD_eq_getD_getElem?] at f111
      have f112 := e112; rw [Array.getD_eq_getD_getElem?] at f112
      exact Or.inl ⟨by rw [wanted_of (j := 23) rfl rfl rfl (show a.tmps.getD 110 undef = .bool true from got_of hg (j := 23) rfl rfl rfl)]; rfl, wp_value hb.size (by simp [execOp, Act.eval, e111, e112, f111, f112, go_sem]) (Below.refl _ _) rfl⟩
    refine AllIn.cons ?_ ?_
    · intro a w hz hb ho hg
      have e110 : a.tmps.getD 110 undef = .bool true := got_of hg (j := 23) rfl rfl rfl
      have e113 : a.tmps.getD 113 undef = .bool true := got_of hg (j := 26) rfl rfl rfl
      have f110 := e110; rw [Array.getD_eq_getD_getElem?] at f110
      have f113 := e113; rw [Array.getD_eq_getD_getElem?] at f113
      exact Or.inl ⟨wanted_none rfl, wp_value hb.size (by simp [execOp, Act.eval, e110, e113, f110, f113, go_sem]) (Below.refl _ _) rfl⟩
    refine AllIn.cons ?_ ?_
    · intro a w hz hb ho hg
      have e114 : a.tmps.getD 114 undef = .bool true := got_of hg (j := 27) rfl rfl rfl
      have f114 := e114; rw [Array.getD_eq_getD_getElem?] at f114
      exact Or.inl ⟨wanted_none rfl, wp_value hb.size (by simp [execOp, Act.eval, e114, f114, go_sem]) (Below.refl _ _) rfl⟩
    refine AllIn.cons ?_ ?_
    · intro a w hz hb ho hg
      have e20 : a.tmps.getD 20 undef = yv := ho 20 (by kernel_rfl)
      have f20 := e20; rw [Array.getD_eq_getD_getElem?] at f20
      exact Or.inl ⟨by rw [wanted_of (j := 28) rfl rfl rfl (show a.tmps.getD 115 undef = .bool true from got_of hg (j := 28) rfl rfl rfl)]; rfl, wp_value hb.size (by simp [execOp, Act.eval, e20, f20, go_sem]) (Below.refl _ _) rfl⟩
    refine AllIn.cons ?_ ?_
    · intro a w hz hb ho hg
      have e116 : a.tmps.getD 116 undef = yv := got_of hg (j := 29) rfl rfl rfl
      have f116 := e116; rw [Array.getD_eq_getD_getElem?] at f116
      exact Or.inl ⟨by rw [wanted_of (j := 28) rfl rfl rfl (show a.tmps.getD 115 undef = .bool true from got_of hg (j := 28) rfl rfl rfl)]; rfl, wp_value hb.size (run_conv (show Txt w (a.tmps.getD 116 undef) (Y) from by rw [e116]; exact HY.out.below hb)) (Below.refl _ _) rfl⟩
    refine AllIn.cons ?_ ?_
    · intro a w hz hb ho hg
      have e22 : a.tmps.getD 22 undef = yv' := ho 22 (by kernel_rfl)
      have f22 := e22; rw [Array.getD_eq_getD_getElem?] at f22
      exact Or.inl ⟨by rw [wanted_of (j := 28) rfl rfl rfl (show a.tmps.getD 115 undef = .bool true from got_of hg (j := 28) rfl rfl rfl)]; rfl, wp_value hb.size (by simp [execOp, Act.eval, e22, f22, go_sem]) (Below.refl _ _) rfl⟩
    refine AllIn.cons ?_ ?_
    · intro a w hz hb ho hg
      have e118 : a.tmps.getD 118 undef = yv' := got_of hg (j := 31) rfl rfl rfl
      have f118 := e118; rw [Array.getD_eq_getD_getElem?] at f118
      exact Or.inl ⟨by rw [wanted_of (j := 28) rfl rfl rfl (show a.tmps.getD 115 undef = .bool true from got_of hg (j := 28) rfl rfl rfl)]; rfl, wp_value hb.size (run_conv (show Txt w (a.tmps.getD 118 undef) (Y) from by rw [e118]; exact HY'.out.below hb)) (Below.refl _ _) rfl⟩
    refine AllIn.cons ?_ ?_
    · intro a w hz hb ho hg
      have e117 : a.tmps.getD 117 undef = .string (str (Y)) := got_of hg (j := 30) rfl rfl rfl
      have e119 : a.tmps.getD 119 undef = .string (str (Y)) := got_of hg (j := 32) rfl rfl rfl
      have f117 := e117; rw [Array.getD_eq_getD_getElem?] at f117
      have f119 := e119; rw [Array.getD_eq_getD_getElem?] at f119
      exact Or.inl ⟨by rw [wanted_of (j := 28) rfl rfl rfl (show a.tmps.getD 115 undef = .bool true from got_of hg (j := 28) rfl rfl rfl)]; rfl, wp_value hb.size (by simp [execOp, Act.eval, e117, e119, f117, f119, go_sem]) (Below.refl _ _) rfl⟩
    refine AllIn.cons ?_ ?_
    · intro a w hz hb ho hg
      have e115 : a.tmps.getD 115 undef = .bool true := got_of hg (j := 28) rfl rfl rfl
      have e120 : a.tmps.getD 120 undef = .bool true := got_of hg (j := 33) rfl rfl rfl
      have f115 := e115; rw [Array.getD_eq_getD_getElem?] at f115
      have f120 := e120; rw [Array.getD_eq_getD_getElem?] at f120
      exact Or.inl ⟨wanted_none rfl, wp_value hb.size (by simp [execOp, Act.eval, e115, e120, f115, f120, go_sem]) (Below.refl _ _) rfl⟩
    refine AllIn.cons ?_ ?_
    · intro a w hz hb ho hg
      have e121 : a.tmps.getD 121 undef = .bool true := got_of hg (j := 34) rfl rfl rfl
      have f121 := e121; rw [Array.getD_eq_getD_getElem?] at f121
      exact Or.inl ⟨wanted_none rfl, wp_value hb.size (by simp [execOp, Act.eval, e121, f121, go_sem]) (Below.refl _ _) rfl⟩
    refine AllIn.cons ?_ ?_
    · intro a w hz hb ho hg
      have e21 : a.tmps.getD 21 undef = .int .i64 fm := ho 21 (by kernel_rfl)
      have f21 := e21; rw [Array.getD_eq_getD_getElem?] at f21
      exact Or.inl ⟨by rw [wanted_of (j := 35) rfl rfl rfl (show a.tmps.getD 122 undef = .bool true from got_of hg (j := 35) rfl rfl rfl)]; rfl, wp_value hb.size (by simp [execOp, Act.eval, e21, f21, go_sem]) (Below.refl _ _) rfl⟩
    refine AllIn.cons ?_ ?_
    · intro a w hz hb ho hg
      have e23 : a.tmps.getD 23 undef = .int .i64 fm := ho 23 (by kernel_rfl)
      have f23 := e23; rw [Array.getD_eq_getD_getElem?] at f23
      exact Or.inl ⟨by rw [wanted_of (j := 35) rfl rfl rfl (show a.tmps.getD 122 undef = .bool true from got_of hg (j := 35) rfl rfl rfl)]; rfl, wp_value hb.size (by simp [execOp, Act.eval, e23, f23, go_sem]) (Below.refl _ _) rfl⟩
    refine AllIn.cons ?_ ?_
    · intro a w hz hb ho hg
      have e123 : a.tmps.getD 123 undef = .int .i64 fm := got_of hg (j := 36) rfl rfl rfl
      have e124 : a.tmps.getD 124 undef = .int .i64 fm := got_of hg (j := 37) rfl rfl rfl
      have f123 := e123; rw [Array.getD_eq_getD_getElem?] at f123
      have f124 := e124; rw [Array.getD_eq_getD_getElem?] at f124
      exact Or.inl ⟨by rw [wanted_of (j := 35) rfl rfl rfl (show a.tmps.getD 122 undef = .bool true from got_of hg (j := 35) rfl rfl rfl)]; rfl, wp_value hb.size (by simp [execOp, Act.eval, e123, e124, f123, f124, go_sem]) (Below.refl _ _) rfl⟩
    refine AllIn.cons ?_ ?_
    · intro a w hz hb ho hg
      have e122 : a.tmps.getD 122 undef = .bool true := got_of hg (j := 35) rfl rfl rfl
      have e125 : a.tmps.getD 125 undef = .bool true := got_of hg (j := 38) rfl rfl rfl
      have f122 := e122; rw [Array.getD_eq_getD_getElem?] at f122
      have f125 := e125; rw [Array.getD_eq_getD_getElem?] at f125
      exact Or.inl ⟨wanted_none rfl, wp_value hb.size (by simp [execOp, Act.eval, e122, e125, f122, f125, go_sem]) (Below.refl _ _) rfl⟩
    refine AllIn.cons ?_ ?_
    · intro a w hz hb ho hg
      have e126 : a.tmps.getD 126 undef = .bool true := got_of hg (j := 39) rfl rfl rfl
      have f126 := e126; rw [Array.getD_eq_getD_getElem?] at f126
      exact Or.inl ⟨wanted_none rfl, wp_value hb.size (by simp [execOp, Act.eval, e126, f126, go_sem]) (Below.refl _ _) rfl⟩
    refine AllIn.cons ?_ ?_
    · intro a w hz hb ho hg
      have e1 : a.tmps.getD 1 undef = .slice aob nb capb := ho 1 (by kernel_rfl)
      have f1 := e1; rw [Array.getD_eq_getD_getElem?] at f1
      exact Or.inl ⟨by rw [wanted_of (j := 40) rfl rfl rfl (show a.tmps.getD 127 undef = .bool true from got_of hg (j := 40) rfl rfl rfl)]; rfl, wp_value hb.size (by simp [execOp, Act.eval, e1, f1, go_sem]) (Below.refl _ _) rfl⟩
    refine AllIn.cons ?_ ?_
    · intro a w hz hb ho hg
      have e0 : a.tmps.getD 0 undef = .int .i64 n := ho 0 (by kernel_rfl)
      have f0 := e0; rw [Array.getD_eq_getD_getElem?] at f0
      exact Or.inl ⟨by rw [wanted_of (j := 40) rfl rfl rfl (show a.tmps.getD 127 undef = .bool true from got_of hg (j := 40) rfl rfl rfl)]; rfl, wp_value hb.size (by simp [execOp, Act.eval, e0, f0, go_sem]) (Below.refl _ _) rfl⟩
    refine AllIn.cons ?_ ?_
    · intro a w hz hb ho hg
      have e128 : a.tmps.getD 128 undef = .slice aob nb capb := got_of hg (j := 41) rfl rfl rfl
      have e129 : a.tmps.getD 129 undef = .int .i64 n := got_of hg (j := 42) rfl rfl rfl
      have f128 := e128; rw [Array.getD_eq_getD_getElem?] at f128
      have f129 := e129; rw [Array.getD_eq_getD_getElem?] at f129
      exact Or.inl ⟨by rw [wanted_of (j := 40) rfl rfl rfl (show a.tmps.getD 127 undef = .bool true from got_of hg (j := 40) rfl rfl rfl)]; rfl, wp_calls hb.size (run_call (args := #[.slice aob nb capb, .int .i64 n]) enters15 (by simp [Act.eval, f128, f129])) ((AppendVarint_txt (.slice aob nb capb) LB n w (HTB.out.below hb) HN64.out HLB.out).mono (by rintro e w' ⟨v', rfl, ho', hb'⟩; exact ⟨v', rfl, hb', ho'.txt⟩))⟩
    refine AllIn.cons ?_ ?_
    · intro a w hz hb ho hg
      have e130 := (got_of hg (j := 43) rfl rfl rfl : Rg.Tab.S _ _ (a.tmps.getD 130 undef) w)
      exact Or.inl ⟨by rw [wanted_of (j := 40) rfl rfl rfl (show a.tmps.getD 127 undef = .bool true from got_of hg (j := 40) rfl rfl rfl)]; rfl, wp_value hb.size (run_conv (show Txt w (a.tmps.getD 130 undef) (LB ++ vint n) from by exact e130)) (Below.refl _ _) rfl⟩
    refine AllIn.cons ?_ ?_
    · intro a w hz hb ho hg
      have e1 : a.tmps.getD 1 undef = .slice aob nb capb := ho 1 (by kernel_rfl)
      have f1 := e1; rw [Array.getD_eq_getD_getElem?] at f1
      exact Or.inl ⟨by rw [wanted_of (j := 40) rfl rfl rfl (show a.tmps.getD 127 undef = .bool true from got_of hg (j := 40) rfl rfl rfl)]; rfl, wp_value hb.size (by simp [execOp, Act.eval, e1, f1, go_sem]) (Below.refl _ _) rfl⟩
    refine AllIn.cons ?_ ?_
    · intro a w hz hb ho hg
      have e0 : a.tmps.getD 0 undef = .int .i64 n := ho 0 (by kernel_rfl)
      have f0 := e0; rw [Array.getD_eq_getD_getElem?] at f0
      exact Or.inl ⟨by rw [wanted_of (j := 40) rfl rfl rfl (show a.tmps.getD 127 undef = .bool true from got_of hg (j := 40) rfl rfl rfl)]; rfl, wp_value hb.size (by simp [execOp, Act.eval, e0, f0, go_sem]) (Below.refl _ _) rfl⟩
    refine AllIn.cons ?_ ?_
    · intro a w hz hb ho hg
      have e132 : a.tmps.getD 132 undef = .slice aob nb capb := got_of hg (j := 45) rfl rfl rfl
      have e133 : a.tmps.getD 133 undef = .int .i64 n := got_of hg (j := 46) rfl rfl rfl
      have f132 := e132; rw [Array.getD_eq_getD_getElem?] at f132
      have f133 := e133; rw [Array.getD_eq_getD_getElem?] at f133
      exact Or.inl ⟨by rw [wanted_of (j := 40) rfl rfl rfl (show a.tmps.getD 127 undef = .bool true from got_of hg (j := 40) rfl rfl rfl)]; rfl, wp_calls hb.size (run_call (args := #[.slice aob nb capb, .int .i64 n]) enters16 (by simp [Act.eval, f132, f133])) ((rAppendVarint_txt (.slice aob nb capb) LB n w (HTB.out.below hb) HN64.out ⟨HLB.out⟩).mono (by rintro e w' ⟨v', rfl, ho', hb'⟩; exact ⟨v', rfl, hb', ho'.txt⟩))⟩
    refine AllIn.cons ?_ ?_
    · intro a w hz hb ho hg
      have e134 := (got_of hg (j := 47) rfl rfl rfl : Rg.Tab.S _ _ (a.tmps.getD 134 undef) w)
      exact Or.inl ⟨by rw [wanted_of (j := 40) rfl rfl rfl (show a.tmps.getD 127 undef = .bool true from got_of hg (j := 40) rfl rfl rfl)]; rfl, wp_value hb.size (run_conv (show Txt w (a.tmps.getD 134 undef) (LB ++ vint n) from by exact e134)) (Below.refl _ _) rfl⟩
    refine AllIn.cons ?_ ?_
    · intro a w hz hb ho hg
      have e131 : a.tmps.getD 131 undef = .string (str (LB ++ vint n)) := got_of hg (j := 44) rfl rfl rfl
      have e135 : a.tmps.getD 135 undef = .string (str (LB ++ vint n)) := got_of hg (j := 48) rfl rfl rfl
      have f131 := e131; rw [Array.getD_eq_getD_getElem?] at f131
      have f135 := e135; rw [Array.getD_eq_getD_getElem?] at f135
      exact Or.inl ⟨by rw [wanted_of (j := 40) rfl rfl rfl (show a.tmps.getD 127 undef = .bool true from got_of hg (j := 40) rfl rfl rfl)]; rfl, wp_value hb.size (by simp [execOp, Act.eval, e131, e135, f131, f135, go_sem]) (Below.refl _ _) rfl⟩
    refine AllIn.cons ?_ ?_
    · intro a w hz hb ho hg
      have e127 : a.tmps.getD 127 undef = .bool true := got_of hg (j := 40) rfl rfl rfl
      have e136 : a.tmps.getD 136 undef = .bool true := got_of hg (j := 49) rfl rfl rfl
      have f127 := e127; rw [Array.getD_eq_getD_getElem?] at f127
      have f136 := e136; rw [Array.getD_eq_getD_getElem?] at f136
      exact Or.inl ⟨wanted_none rfl, wp_value hb.size (by simp [execOp, Act.eval, e127, e136, f127, f136, go_sem]) (Below.refl _ _) rfl⟩
    refine AllIn.cons ?_ ?_
    · intro a w hz hb ho hg
      have e137 : a.tmps.getD 137 undef = .bool true := got_of hg (j := 50) rfl rfl rfl
      have f137 := e137; rw [Array.getD_eq_getD_getElem?] at f137
      exact Or.inl ⟨wanted_none rfl, wp_value hb.size (by simp [execOp, Act.eval, e137, f137, go_sem]) (Below.refl _ _) rfl⟩
    refine AllIn.cons ?_ ?_
    · intro a w hz hb ho hg
      have e1 : a.tmps.getD 1 undef = .slice aob nb capb := ho 1 (by kernel_rfl)
      have f1 := e1; rw [Array.getD_eq_getD_getElem?] at f1
      exact Or.inl ⟨by rw [wanted_of (j := 51) rfl rfl rfl (show a.tmps.getD 138 undef = .bool true from got_of hg (j := 51) rfl rfl rfl)]; rfl, wp_value hb.size (by simp [execOp, Act.eval, e1, f1, go_sem]) (Below.refl _ _) rfl⟩
    refine AllIn.cons ?_ ?_
    · intro a w hz hb ho hg
      have e139 : a.tmps.getD 139 undef = .slice aob nb capb := got_of hg (j := 52) rfl rfl rfl
      have f139 := e139; rw [Array.getD_eq_getD_getElem?] at f139
      exact Or.inl ⟨by rw [wanted_of (j := 51) rfl rfl rfl (show a.tmps.getD 138 undef = .bool true from got_of hg (j := 51) rfl rfl rfl)]; rfl, wp_calls hb.size (run_call (args := #[.slice aob nb capb]) enters17 (by simp [Act.eval, f139])) ((Checksum_txt (.slice aob nb capb) LB w (HTB.out.below hb)).mono (by rintro e w' ⟨rfl, hb'⟩; exact ⟨_, rfl, hb', rfl⟩))⟩
    refine AllIn.cons ?_ ?_
    · intro a w hz hb ho hg
      have e1 : a.tmps.getD 1 undef = .slice aob nb capb := ho 1 (by kernel_rfl)
      have f1 := e1; rw [Array.getD_eq_getD_getElem?] at f1
      exact Or.inl ⟨by rw [wanted_of (j := 51) rfl rfl rfl (show a.tmps.getD 138 undef = .bool true from got_of hg (j := 51) rfl rfl rfl)]; rfl, wp_value hb.size (by simp [execOp, Act.eval, e1, f1, go_sem]) (Below.refl _ _) rfl⟩
    refine AllIn.cons ?_ ?_
    · intro a w hz hb ho hg
      have e141 : a.tmps.getD 141 undef = .slice aob nb capb := got_of hg (j := 54) rfl rfl rfl
      have f141 := e141; rw [Array.getD_eq_getD_getElem?] at f141
      exact Or.inl ⟨by rw [wanted_of (j := 51) rfl rfl rfl (show a.tmps.getD 138 undef = .bool true from got_of hg (j := 51) rfl rfl rfl)]; rfl, wp_calls hb.size (run_call (args := #[.slice aob nb capb]) enters18 (by simp [Act.eval, f141])) ((rChecksum_txt (.slice aob nb capb) LB w (HTB.out.below hb) HLB').mono (by rintro e w' ⟨rfl, rfl⟩; exact ⟨_, rfl, Below.refl _ _, rfl⟩))⟩
    refine AllIn.cons ?_ ?_
    · intro a w hz hb ho hg
      have e140 : a.tmps.getD 140 undef = .int .u32 (crc LB : Nat) := got_of hg (j := 53) rfl rfl rfl
      have e142 : a.tmps.getD 142 undef = .int .u32 (crc LB : Nat) := got_of hg (j := 55) rfl rfl rfl
      have f140 := e140; rw [Array.getD_eq_getD_getElem?] at f140
      have f142 := e142; rw [Array.getD_eq_getD_getElem?] at f142
      exact Or.inl ⟨by rw [wanted_of (j := 51) rfl rfl rfl (show a.tmps.getD 138 undef = .bool true from got_of hg (j := 51) rfl rfl rfl)]; rfl, wp_value hb.size (by simp [execOp, Act.eval, e140, e142, f140, f142, go_sem]) (Below.refl _ _) rfl⟩
    refine AllIn.cons ?_ ?_
    · intro a w hz hb ho hg
      have e138 : a.tmps.getD 138 undef = .bool true := got_of hg (j := 51) rfl rfl rfl
      have e143 : a.tmps.getD 143 undef = .bool true := got_of hg (j := 56) rfl rfl rfl
      have f138 := e138; rw [Array.getD_eq_getD_getElem?] at f138
      have f143 := e143; rw [Array.getD_eq_getD_getElem?] at f143
      exact Or.inl ⟨wanted_none rfl, wp_value hb.size (by simp [execOp, Act.eval, e138, e143, f138, f143, go_sem]) (Below.refl _ _) rfl⟩
    exact AllIn.nil
  intro a w' hd hz hb ho hg
  have e87 : a.tmps.getD 87 undef = .bool true := hg 0 (by decide) _ _ rfl rfl
  have e88 : a.tmps.getD 88 undef = .bool true := hg 1 (by decide) _ _ rfl rfl
  have e89 : a.tmps.getD 89 undef = .int .i64 n1 := hg 2 (by decide) _ _ rfl rfl
  have e90 : a.tmps.getD 90 undef = .int .i64 n1 := hg 3 (by decide) _ _ rfl rfl
  have e91 : a.tmps.getD 91 undef = .bool true := hg 4 (by decide) _ _ rfl rfl
  have e92 : a.tmps.getD 92 undef = .bool true := hg 5 (by decide) _ _ rfl rfl
  have e93 : a.tmps.getD 93 undef = .bool true := hg 6 (by decide) _ _ rfl rfl
  have e94 : a.tmps.getD 94 undef = .int .i64 k1 := hg 7 (by decide) _ _ rfl rfl
  have e95 : a.tmps.getD 95 undef = .int .i64 k1 := hg 8 (by decide) _ _ rfl rfl
  have e96 : a.tmps.getD 96 undef = .bool true := hg 9 (by decide) _ _ rfl rfl
  have e97 : a.tmps.getD 97 undef = .bool true := hg 10 (by decide) _ _ rfl rfl
  have e98 : a.tmps.getD 98 undef = .bool true := hg 11 (by decide) _ _ rfl rfl
  have e99 : a.tmps.getD 99 undef = .bool b1 := hg 12 (by decide) _ _ rfl rfl
  have e100 : a.tmps.getD 100 undef = .bool b1 := hg 13 (by decide) _ _ rfl rfl
  have e101 : a.tmps.getD 101 undef = .bool true := hg 14 (by decide) _ _ rfl rfl
  have e102 : a.tmps.getD 102 undef = .bool true := hg 15 (by decide) _ _ rfl rfl
  have e103 : a.tmps.getD 103 undef = .bool true := hg 16 (by decide) _ _ rfl rfl
  have e104 : a.tmps.getD 104 undef = xv := hg 17 (by decide) _ _ rfl rfl
  have e105 : a.tmps.getD 105 undef = .string (str (X)) := hg 18 (by decide) _ _ rfl rfl
  have e106 : a.tmps.getD 106 undef = xv' := hg 19 (by decide) _ _ rfl rfl
  have e107 : a.tmps.getD 107 undef = .string (str (X)) := hg 20 (by decide) _ _ rfl rfl
  have e108 : a.tmps.getD 108 undef = .bool true := hg 21 (by decide) _ _ rfl rfl
  have e109 : a.tmps.getD 109 undef = .bool true := hg 22 (by decide) _ _ rfl rfl
  have e110 : a.tmps.getD 110 undef = .bool true := hg 23 (by decide) _ _ rfl rfl
  have e111 : a.tmps.getD 111 undef = .int .i64 fe := hg 24 (by decide) _ _ rfl rfl
  have e112 : a.tmps.getD 112 undef = .int .i64 fe := hg 25 (by decide) _ _ rfl rfl
  have e113 : a.tmps.getD 113 undef = .bool true := hg 26 (by decide) _ _ rfl rfl
  have e114 : a.tmps.getD 114 undef = .bool true := hg 27 (by decide) _ _ rfl rfl
  have e115 : a.tmps.getD 115 undef = .bool true := hg 28 (by decide) _ _ rfl rfl
  have e116 : a.tmps.getD 116 undef = yv := hg 29 (by decide) _ _ rfl rfl
  have e117 : a.tmps.getD 117 undef = .string (str (Y)) := hg 30 (by decide) _ _ rfl rfl
  have e118 : a.tmps.getD 118 undef = yv' := hg 31 (by decide) _ _ rfl rfl
  have e119 : a.tmps.getD 119 undef = .string (str (Y)) := hg 32 (by decide) _ _ rfl rfl
  have e120 : a.tmps.getD 120 undef = .bool true := hg 33 (by decide) _ _ rfl rfl
  have e121 : a.tmps.getD 121 undef = .bool true := hg 34 (by decide) _ _ rfl rfl
  have e122 : a.tmps.getD 122 undef = .bool true := hg 35 (by decide) _ _ rfl rfl
  have e123 : a.tmps.getD 123 undef = .int .i64 fm := hg 36 (by decide) _ _ rfl rfl
  have e124 : a.tmps.getD 124 undef = .int .i64 fm := hg 37 (by decide) _ _ rfl rfl
  have e125 : a.tmps.getD 125 undef = .bool true := hg 38 (by decide) _ _ rfl rfl
  have e126 : a.tmps.getD 126 undef = .bool true := hg 39 (by decide) _ _ rfl rfl
  have e127 : a.tmps.getD 127 undef = .bool true := hg 40 (by decide) _ _ rfl rfl
  have e128 : a.tmps.getD 128 undef = .slice aob nb capb := hg 41 (by decide) _ _ rfl rfl
  have e129 : a.tmps.getD 129 undef = .int .i64 n := hg 42 (by decide) _ _ rfl rfl
  have E130 := hg 43 (by decide) _ _ rfl rfl
  have e131 : a.tmps.getD 131 undef = .string (str (LB ++ vint n)) := hg 44 (by decide) _ _ rfl rfl
  have e132 : a.tmps.getD 132 undef = .slice aob nb capb := hg 45 (by decide) _ _ rfl rfl
  have e133 : a.tmps.getD 133 undef = .int .i64 n := hg 46 (by decide) _ _ rfl rfl
  have E134 := hg 47 (by decide) _ _ rfl rfl
  have e135 : a.tmps.getD 135 undef = .string (str (LB ++ vint n)) := hg 48 (by decide) _ _ rfl rfl
  have e136 : a.tmps.getD 136 undef = .bool true := hg 49 (by decide) _ _ rfl rfl
  have e137 : a.tmps.getD 137 undef = .bool true := hg 50 (by decide) _ _ rfl rfl
  have e138 : a.tmps.getD 138 undef = .bool true := hg 51 (by decide) _ _ rfl rfl
  have e139 : a.tmps.getD 139 undef = .slice aob nb capb := hg 52 (by decide) _ _ rfl rfl
  have e140 : a.tmps.getD 140 undef = .int .u32 (crc LB : Nat) := hg 53 (by decide) _ _ rfl rfl
  have e141 : a.tmps.getD 141 undef = .slice aob nb capb := hg 54 (by decide) _ _ rfl rfl
  have e142 : a.tmps.getD 142 undef = .int .u32 (crc LB : Nat) := hg 55 (by decide) _ _ rfl rfl
  have e143 : a.tmps.getD 143 undef = .bool true := hg 56 (by decide) _ _ rfl rfl
  have e144 : a.tmps.getD 144 undef = .bool true := hg 57 (by decide) _ _ rfl rfl
  obtain ⟨u130, e130⟩ : ∃ u, a.tmps.getD 130 undef = u := ⟨_, rfl⟩
  obtain ⟨u134, e134⟩ : ∃ u, a.tmps.getD 134 undef = u := ⟨_, rfl⟩
  have hA := ho.frame hz
  simp only [List.take_succ_cons, List.take_zero, List.filterMap_cons, List.filterMap_nil, List.foldl_cons, List.foldl_nil, e87, e88, e89, e90, e91, e92, e93, e94, e95, e96, e97, e98, e99, e100, e101, e102, e103, e104, e105, e106, e107, e108, e109, e110, e111, e112, e113, e114, e115, e116, e117, e118, e119, e120, e121, e122, e123, e124, e125, e126, e127, e128, e129, e130, e131, e132, e133, e134, e135, e136, e137, e138, e139, e140, e141, e142, e143, e144, List.setIfInBounds_toArray, List.set_cons_zero, List.set_cons_succ] at hA
  obtain ⟨tm, df⟩ := a
  simp only at hd hA
  subst hd
  subst hA
  simp only [List.drop_succ_cons, List.drop_zero]
  have HH := Aside.mk hb
  clear hz ho hg hb e87 e88 e89 e90 e91 e92 e93 e94 e95 e96 e97 e98 e99 e100 e101 e102 e103 e104 e105 e106 e107 e108 e109 e110 e111 e112 e113 e114 e115 e116 e117 e118 e119 e120 e121 e122 e123 e124 e125 e126 e127 e128 e129 e130 e131 e132 e133 e134 e135 e136 e137 e138 e139 e140 e141 e142 e143 e144
  go_wp2_with fail
  go_ret
  exact ⟨rfl, HB6.out.trans (HH.out.mono HB6.out.size)⟩
theorem CodecMatchesReference_walk (n : Int) (vb : Value) (LB : List UInt8) (ek : Int) (es : ByteArray) (eu : Value) (EB : List UInt8) (a b c d s k : Int) (key : ByteArray) (mu : Value) (MB : List UInt8) (hn : (Lit.int .i64 n).wf = true) {W : World} (hb : Txt W vb LB) (hk : (Lit.int .i64 ek).wf = true) (he : Txt W eu EB) (hs : 0 ≤ s ∧ s ≤ 4294967295) (hm : Txt W mu MB) (w : World) (hw : w = W) :
    Calls Tryz.prog 3 #[.int .i64 n, vb, .agg #[.int .i64 ek, .string es, eu], .agg #[.int .i64 a, .int .i64 b, .int .i64 c, .int .i64 d, .int .u32 s, .int .i64 k, .string key, mu]] w fun e w' => e = .returned (.bool true) ∧ Below w.heap.size w w' := by
  subst hw
  have h64 : in64 n := by
    simp [Lit.wf, IntKind.min, IntKind.max, IntKind.signed, IntKind.bits] at hn
    exact ⟨by omega, by omega⟩
  exact CodecMatchesReference_in n vb LB ek es eu EB a b c d s k key mu MB w h64 hb he hs hm
end Go.Proofs.YteljhjljigbcjaaGreatDoor.Cv
