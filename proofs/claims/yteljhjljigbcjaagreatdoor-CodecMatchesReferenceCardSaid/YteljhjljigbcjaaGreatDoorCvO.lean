/- Contracts of codec.EncodeMessage and of what it calls. -/
import Derived.Test.YteljhjljigbcjaaGreatDoorCvK
import Derived.Deep.LoopGhost
set_option linter.unusedVariables false
namespace Go.Proofs.YteljhjljigbcjaaGreatDoor.Cv
open Go.RowKit

def outI (n : Int) : Bool := decide (n < 0) || decide (2147483647 < n)
set_option maxRecDepth 100000 in
theorem outside_any (n : Int) (w : World) : Calls Tryz.prog 33 #[.int .i64 n] w fun e w' => e = .returned (.bool (outI n)) ∧ w = w' := by
  unfold outI
  by_cases h : n < 0
  · go_enter Tryz.func33, Tryz.ntmps33
    go_wp2_with fail
    go_ret
    exact ⟨by first | rfl | (rw [decide_eq_true h]; simp), rfl⟩
  · go_enter Tryz.func33, Tryz.ntmps33
    go_wp2_with fail
    go_ret
    exact ⟨by first | rfl | (rw [decide_eq_false (show ¬ n < 0 by omega)]; simp), rfl⟩

set_option maxRecDepth 100000 in
set_option maxHeartbeats 1000000 in
theorem IndexFunc_any (g c : Nat) (ns : List Int) (w : World) (hl : Aside (ns.length ≤ 1000)) (hc : ∀ j n, ns[j]? = some n → w.cell? ⟨g, j, none⟩ = some (.int .i64 n)) :
    Calls Tryz.prog 55 #[.slice (some ⟨g, 0, none⟩) ns.length c, .func (.func 33) #[] #[]] w fun e w' => (∃ r : Int, e = .returned (.int .i64 r) ∧ -1 ≤ r ∧ (0 ≤ r ↔ ns.any outI = true)) ∧ w = w' := by
  have HC := Aside.mk hc
  clear hc
  go_enter Tryz.func55, Tryz.ntmps55
  go_wp2_with fail
  go_loopg [8] ns.length (fun k v8 wr => ∃ (i : Nat), v8 = .int .i64 i ∧ i + k = ns.length ∧ Aside ((ns.take i).any outI = false) ∧ wr = w)
  case atStart => exact ⟨0, rfl, by omega, ⟨rfl⟩, rfl⟩
  case round =>
    obtain ⟨i, rfl, hk, HN, rfl⟩ := hrel
    by_cases hi : i < ns.length
    · obtain ⟨n, hn⟩ : ∃ n, n = ns[i] := ⟨_, rfl⟩
      have hcell : wr.cell? ⟨g, i, none⟩ = some (.int .i64 n) := HC.out i n (by rw [hn]; exact List.getElem?_eq_getElem hi)
      have htk : ns.take (i + 1) = ns.take i ++ [n] := by rw [List.take_add_one, List.getElem?_eq_getElem hi, hn]; rfl
      have hib : (i : Int) < 1000 := by have := hl.out; omega
      have HTK := Aside.mk htk
      have HNN : Aside (n ∈ ns) := ⟨by rw [hn]; exact List.getElem_mem hi⟩
      clear htk hn
      cases ho : outI n with
      | true =>
        go_wp2_with (go_at_call 33; refine (outside_any _ _).mono ?_; rintro e w1 ⟨rfl, rfl⟩)
        go_ret
        refine ⟨⟨(i : Int), rfl, by omega, ?_⟩, rfl⟩
        constructor
        · intro _; exact List.any_eq_true.2 ⟨n, HNN.out, ho⟩
        · intro _; omega
      | false =>
        go_wp2_with (go_at_call 33; refine (outside_any _ _).mono ?_; rintro e w1 ⟨rfl, rfl⟩)
        obtain ⟨go, hgo⟩ : ∃ go, gk = go + 1 := ⟨gk - 1, by omega⟩
        go_roundg go
        case measure => omega
        case rel => exact ⟨i + 1, by go_num, by omega, ⟨by rw [HTK.out, List.any_append, HN.out]; simp [ho]⟩, rfl⟩
    · have hz : i = ns.length := by omega
      have hh : ns.any outI = false := by have := HN.out; rw [hz, List.take_length] at this; exact this
      have HH := Aside.mk hh
      clear hh
      go_wp2_with fail
      go_ret
      exact ⟨⟨-1, rfl, by omega, by rw [HH.out]; simp⟩, rfl⟩

set_option maxRecDepth 100000 in
set_option maxHeartbeats 1000000 in
theorem ContainsFunc_any (g c : Nat) (ns : List Int) (w : World) (hl : Aside (ns.length ≤ 1000)) (hc : ∀ j n, ns[j]? = some n → w.cell? ⟨g, j, none⟩ = some (.int .i64 n)) :
    Calls Tryz.prog 34 #[.slice (some ⟨g, 0, none⟩) ns.length c, .func (.func 33) #[] #[]] w fun e w' => e = .returned (.bool (ns.any outI)) ∧ w = w' := by
  go_enter Tryz.func34, Tryz.ntmps34
  go_wp2_with fail
  refine (IndexFunc_any g c ns w hl hc).mono ?_
  rintro e w1 ⟨⟨r, rfl, h1, h2⟩, rfl⟩
  clear hc
  have HI := Aside.mk h2
  clear h2
  by_cases h0 : 0 ≤ r
  · go_wp2_with fail
    go_ret
    exact ⟨by rw [HI.out.1 h0]; first | rfl | simp [h0], rfl⟩
  · go_wp2_with fail
    go_ret
    have hf : ns.any outI = false := Bool.eq_false_iff.2 (fun h => by have := HI.out.2 h; omega)
    exact ⟨by rw [hf]; first | rfl | (simp; omega), rfl⟩

/-- what an encoder answers -/
def EncPost (p : Prop) (w : World) (t : List UInt8) (e : Ending) (w' : World) : Prop :=
  (p → ∃ v', e = .returned (.tuple #[v', .int .i64 0]) ∧ Own w.heap.size w' v' t) ∧ (¬ p → e = .returned (.tuple #[.slice none 0 0, .int .i64 1]))
/-- the value of a message -/
def msgV (a b c d s k : Int) (key : ByteArray) (body : Value) : Value := .agg #[.int .i64 a, .int .i64 b, .int .i64 c, .int .i64 d, .int .u32 s, .int .i64 k, .string key, body]
set_option maxRecDepth 100000 in
set_option maxHeartbeats 2000000 in
theorem EncodeMessage_txt (a b c d s k : Int) (key : ByteArray) (body : Value) (B : List UInt8) (w : World) (h : Txt w body B) (hs : Aside (0 ≤ s ∧ s ≤ 4294967295)) :
    Calls Tryz.prog 13 #[msgV a b c d s k key body] w fun e w' => Below w.heap.size w w' ∧
      EncPost (okM ⟨a, b, c, d, s, ⟨k, key.data.toList, B⟩⟩) w (encM ⟨a, b, c, d, s, ⟨k, key.data.toList, B⟩⟩) e w' := by
  have hT := h
  obtain ⟨ao, cap, rfl, -, -, -, -⟩ := h
  unfold msgV
  obtain ⟨W, hW⟩ : ∃ W, W = w.alloc (.cells #[.int .i64 a, .int .i64 b, .int .i64 c, .int .i64 d, .int .u32 s, .int .i64 k, .string key, .slice ao B.length cap] 27) := ⟨_, rfl⟩
  have hbW : Below w.heap.size w W := by rw [hW]; exact (Below.refl _ _).alloc (Nat.le_refl _) _
  have hrow : W.heap[w.heap.size]? = some (.cells #[.int .i64 a, .int .i64 b, .int .i64 c, .int .i64 d, .int .u32 s, .int .i64 k, .string key, .slice ao B.length cap] 27 (0, 0)) := by rw [hW]; exact heap_alloc_last _ _
  have HT := Aside.mk hT
  clear hT
  by_cases h1 : a < 1
  · have HNO : Aside (¬ okM ⟨a, b, c, d, s, ⟨k, key.data.toList, B⟩⟩) := ⟨fun h => by have := h.1.1; simp only at this; omega⟩
    go_enter Tryz.func13, Tryz.ntmps13
    go_wp2_with fail
    go_ret2
    rw [← hW]
    exact ⟨hbW, fun h => absurd h HNO.out, fun _ => rfl⟩
  · by_cases h2 : 4 < a
    · have HNO : Aside (¬ okM ⟨a, b, c, d, s, ⟨k, key.data.toList, B⟩⟩) := ⟨fun h => by have := h.1.2; simp only at this; omega⟩
      go_enter Tryz.func13, Tryz.ntmps13
      go_wp2_with fail
      go_ret2
      rw [← hW]
      exact ⟨hbW, fun h => absurd h HNO.out, fun _ => rfl⟩
    · have h1' : 1 ≤ a := by omega
      have h2' : a ≤ 4 := by omega
      have d1 : decide (a < 1) = false := by simp; omega
      have d2 : decide (4 < a) = false := by simp; omega
      have HA := Aside.mk (And.intro h1' h2')
      clear h1 h2 h1' h2'
      have hsz : W.heap.size = w.heap.size + 1 := by rw [hW]; simp
      go_enter Tryz.func13, Tryz.ntmps13
      go_wp2_with fail
      rw [← hW]
      have h3 : (W.alloc (.cells #[.int .i64 b, .int .i64 c, .int .i64 d] 3)).heap[w.heap.size + 1]? = some (.cells #[.int .i64 b, .int .i64 c, .int .i64 d] 3 (0, 0)) := by
        have := heap_alloc_last W (.cells #[.int .i64 b, .int .i64 c, .int .i64 d] 3)
        rw [hsz] at this; exact this
      refine (ContainsFunc_any (w.heap.size + 1) 3 [b, c, d] _ ⟨by simp⟩ (fun j n hj => ?_)).mono ?_
      · rw [cell_of_row _ _ j _ _ _ h3]
        match j, hj with
        | 0, hj => cases hj; rfl
        | 1, hj => cases hj; rfl
        | 2, hj => cases hj; rfl
        | j + 3, hj => simp at hj
      rintro e w1 ⟨rfl, hw1⟩
      have hb1 : Below W.heap.size W w1 := by rw [← hw1]; exact (Below.refl _ _).alloc (Nat.le_refl _) _
      have hb1' : Below w.heap.size w w1 := hbW.trans (hb1.mono hbW.size)
      have hs1 : w1.heap.size = w.heap.size + 2 := by rw [← hw1, World.size_alloc, hsz]
      have hr1 : w1.heap[w.heap.size]? = some (.cells #[.int .i64 a, .int .i64 b, .int .i64 c, .int .i64 d, .int .u32 s, .int .i64 k, .string key, .slice ao B.length cap] 27 (0, 0)) := by rw [hb1.block _ (lt_of_heap hrow)]; exact hrow
      clear h3 hw1 hW hrow hsz hb1 hbW
      cases hany : [b, c, d].any outI with
      | true =>
        have HNO : Aside (¬ okM ⟨a, b, c, d, s, ⟨k, key.data.toList, B⟩⟩) := ⟨fun h => by
          obtain ⟨_, ⟨x0, x1⟩, ⟨y0, y1⟩, ⟨z0, z1⟩, _⟩ := h
          simp only at x0 x1 y0 y1 z0 z1
          simp [outI] at hany
          omega⟩
        clear hany
        go_wp2_with fail
        go_ret2
        exact ⟨hb1', fun h => absurd h HNO.out, fun _ => rfl⟩
      | false =>
        have hidx : (0 ≤ b ∧ b ≤ 2147483647) ∧ (0 ≤ c ∧ c ≤ 2147483647) ∧ (0 ≤ d ∧ d ≤ 2147483647) := by
          simp [outI] at hany
          omega
        have HX := Aside.mk hidx
        clear hidx hany
        have c0 : w1.cell? ⟨w.heap.size, 0, none⟩ = some (.int .i64 a) := by rw [cell_of_row w1 _ 0 _ _ _ hr1]; rfl
        have c1 : w1.cell? ⟨w.heap.size, 1, none⟩ = some (.int .i64 b) := by rw [cell_of_row w1 _ 1 _ _ _ hr1]; rfl
        have c2 : w1.cell? ⟨w.heap.size, 2, none⟩ = some (.int .i64 c) := by rw [cell_of_row w1 _ 2 _ _ _ hr1]; rfl
        have c3 : w1.cell? ⟨w.heap.size, 3, none⟩ = some (.int .i64 d) := by rw [cell_of_row w1 _ 3 _ _ _ hr1]; rfl
        have c4 : w1.cell? ⟨w.heap.size, 4, none⟩ = some (.int .u32 s) := by rw [cell_of_row w1 _ 4 _ _ _ hr1]; rfl
        have HR := Aside.mk hr1
        clear hr1
        have hsw : s % 4294967296 = s := by have := hs.out; omega
        have HAB : Aside (∀ n ∈ [a, b, c, d, s], in64 n) := ⟨by
          have := HA.out; have := HX.out; have := hs.out
          intro n hn
          simp only [List.mem_cons, List.mem_nil_iff, or_false] at hn
          unfold in64
          rcases hn with rfl | rfl | rfl | rfl | rfl <;> omega⟩
        go_wp2_with fail
        have h5 : (w1.alloc (.cells #[.int .i64 a, .int .i64 b, .int .i64 c, .int .i64 d, .int .i64 s] 2)).heap[w.heap.size + 2]? = some (.cells #[.int .i64 a, .int .i64 b, .int .i64 c, .int .i64 d, .int .i64 s] 2 (0, 0)) := by
          have := heap_alloc_last w1 (.cells #[.int .i64 a, .int .i64 b, .int .i64 c, .int .i64 d, .int .i64 s] 2)
          rw [hs1] at this; exact this
        have hb2 : Below w1.heap.size w1 (w1.alloc (.cells #[.int .i64 a, .int .i64 b, .int .i64 c, .int .i64 d, .int .i64 s] 2)) := (Below.refl _ _).alloc (Nat.le_refl _) _
        generalize (w1.alloc (.cells #[.int .i64 a, .int .i64 b, .int .i64 c, .int .i64 d, .int .i64 s] 2)) = W2 at h5 hb2 ⊢
        have hlt5 := lt_of_heap h5
        have hcell5 : Aside (∀ j n, [a, b, c, d, s][j]? = some n → W2.cell? ⟨w.heap.size + 2, j, none⟩ = some (.int .i64 n)) := ⟨fun j n hj => by
          rw [cell_of_row _ _ j _ _ _ h5]
          match j, hj with
          | 0, hj => cases hj; rfl
          | 1, hj => cases hj; rfl
          | 2, hj => cases hj; rfl
          | 3, hj => cases hj; rfl
          | 4, hj => cases hj; rfl
          | j + 5, hj => simp at hj⟩
        clear c0 c1 c2 c3 c4 h5
        obtain ⟨ns, hns⟩ : ∃ ns, [a, b, c, d, s] = ns := ⟨_, rfl⟩
        have hnl : ns.length = 5 := by rw [← hns]; rfl
        rw [hns] at hcell5 HAB
        have HNS := Aside.mk hns
        have HNL := Aside.mk hnl
        clear hns hnl
        go_loopg [5, 42] 5 (fun g v5 v42 wr => ∃ (i : Nat), v42 = .int .i64 i ∧ i + g = 5 ∧ Own w.heap.size wr v5 (((ns.take i).map vint).flatten) ∧ Aside ((((ns.take i).map vint).flatten).length ≤ 10 * i) ∧ Below W2.heap.size W2 wr)
        case atStart => exact ⟨0, rfl, rfl, Own.nil _ _, ⟨by simp⟩, Below.refl _ _⟩
        case round =>
          obtain ⟨i, rfl, hg, hO, HL, hb⟩ := hrel
          by_cases hi : i < 5
          · obtain ⟨n, hn⟩ : ∃ n, n = ns[i]'(by rw [HNL.out]; exact hi) := ⟨_, rfl⟩
            have hgn : ns[i]? = some n := by rw [hn]; exact List.getElem?_eq_getElem _
            have hcl : wr.cell? ⟨w.heap.size + 2, i, none⟩ = some (.int .i64 n) := (hb.cell (p := ⟨w.heap.size + 2, i, none⟩) hlt5).trans (hcell5.out i n hgn)
            have h64 := HAB.out n (List.mem_of_getElem? hgn)
            have HN64 := Aside.mk h64
            have htk : ((ns.take (i + 1)).map vint).flatten = ((ns.take i).map vint).flatten ++ vint n := by rw [List.take_add_one, hgn]; simp
            have HTK := Aside.mk htk
            have HO := Aside.mk hO
            clear h64 htk hn hgn hO
            go_wp2_with (go_at_call 15; refine (AppendVarint_txt _ _ n wr HO.out.txt HN64.out (by have := HL.out; omega)).mono ?_; rintro e w3 ⟨v3, rfl, ho3, hb3⟩)
            obtain ⟨go, hgo⟩ : ∃ go, gk = go + 1 := ⟨gk - 1, by omega⟩
            go_roundg go
            case measure => omega
            case rel =>
              refine ⟨i + 1, by go_num, by omega, ?_, ⟨?_⟩, hb.trans (hb3.mono hb.size)⟩
              · rw [HTK.out]; exact ho3.mono (Nat.le_trans hb1'.size (Nat.le_trans hb2.size hb.size))
              · rw [HTK.out, List.length_append]; have := HL.out; have := (vint_len n HN64.out.1 HN64.out.2).2; omega
          · have hi5 : i = 5 := by omega
            subst hi5
            have hfl : ((ns.take 5).map vint).flatten = vint a ++ vint b ++ vint c ++ vint d ++ vint s := by rw [← HNS.out]; simp
            rw [hfl] at hO HL
            have hbw : Below w.heap.size w wr := hb1'.trans ((hb2.trans (hb.mono hb2.size)).mono hb1'.size)
            have hrr : wr.heap[w.heap.size]? = some (.cells #[.int .i64 a, .int .i64 b, .int .i64 c, .int .i64 d, .int .u32 s, .int .i64 k, .string key, .slice ao B.length cap] 27 (0, 0)) := by
              rw [hb.block _ (by have := hb2.size; omega), hb2.block _ (by omega)]; exact HR.out
            have hTr := HT.out.below hbw
            have HO := Aside.mk hO
            have hze := zeroEntry_txt k key _ B wr hTr
            unfold entV at hze
            have c5 : wr.cell? ⟨w.heap.size, 5, none⟩ = some (.int .i64 k) := by rw [cell_of_row wr _ 5 _ _ _ hrr]; rfl
            have c6 : wr.cell? ⟨w.heap.size, 6, none⟩ = some (.string key) := by rw [cell_of_row wr _ 6 _ _ _ hrr]; rfl
            have c7 : wr.cell? ⟨w.heap.size, 7, none⟩ = some (.slice ao B.length cap) := by rw [cell_of_row wr _ 7 _ _ _ hrr]; rfl
            have HRR := Aside.mk hrr
            have HTR := Aside.mk hTr
            have hl : key.data.toList.length = key.size := rfl
            clear hfl hO hrr hTr
            by_cases hz : isZ ⟨k, key.data.toList, B⟩
            · have hbool : (decide (k = 0) && decide ((key.size : Int) = 0) && decide ((B.length : Int) = 0)) = true := by
                have h0 := hz.1; have h1 := hz.2.1; have h2 := hz.2.2
                simp only at h0 h1 h2
                rw [hl] at h1
                simp only [Bool.and_eq_true, decide_eq_true_eq]; omega
              rw [hbool] at hze
              have HZ := Aside.mk hz
              clear hz hbool hl
              go_wp2_with fail
              refine hze.mono ?_
              rintro e wz ⟨rfl, hbz⟩
              have hOz := (HO.out.below hbz).txt
              have HOZ := Aside.mk hOz
              clear hOz hze
              go_wp2_with fail
              refine (AppendVarint_txt _ _ 0 wz HOZ.out ⟨by omega, by omega⟩ (by have := HL.out; omega)).mono ?_
              rintro e wy ⟨vy, rfl, hoy, hby⟩
              go_wp2_with fail
              go_ret2
              refine ⟨hbw.trans ((hbz.trans (hby.mono hbz.size)).mono hbw.size), fun _ => ⟨vy, rfl, ?_⟩, fun hno => absurd ?_ hno⟩
              · have e1 : encM ⟨a, b, c, d, s, ⟨k, key.data.toList, B⟩⟩ = vint a ++ vint b ++ vint c ++ vint d ++ vint s ++ vint 0 := by
                  simp only [encM, encO]; rw [if_pos HZ.out]
                rw [e1]
                exact hoy.mono (Nat.le_trans hbw.size hbz.size)
              · exact ⟨⟨HA.out.1, HA.out.2⟩, HX.out.1, HX.out.2.1, HX.out.2.2, Or.inl HZ.out⟩
            · have hbool : (decide (k = 0) && decide ((key.size : Int) = 0) && decide ((B.length : Int) = 0)) = false := by
                rw [Bool.eq_false_iff]
                intro hh
                apply hz
                simp only [Bool.and_eq_true, decide_eq_true_eq] at hh
                exact ⟨hh.1.1, by show key.data.toList.length = 0; rw [hl]; omega, by show B.length = 0; omega⟩
              rw [hbool] at hze
              have HZ := Aside.mk hz
              clear hz hbool hl
              go_wp2_with fail
              refine hze.mono ?_
              rintro e wz ⟨rfl, hbz⟩
              have hOz := HO.out.below hbz
              have HOZ := Aside.mk hOz
              have hrz : wz.heap[w.heap.size]? = some (.cells #[.int .i64 a, .int .i64 b, .int .i64 c, .int .i64 d, .int .u32 s, .int .i64 k, .string key, .slice ao B.length cap] 27 (0, 0)) := by rw [hbz.block _ (lt_of_heap HRR.out)]; exact HRR.out
              clear hOz hze c5 c6 c7
              have c5 : wz.cell? ⟨w.heap.size, 5, none⟩ = some (.int .i64 k) := by rw [cell_of_row wz _ 5 _ _ _ hrz]; rfl
              have c6 : wz.cell? ⟨w.heap.size, 6, none⟩ = some (.string key) := by rw [cell_of_row wz _ 6 _ _ _ hrz]; rfl
              have c7 : wz.cell? ⟨w.heap.size, 7, none⟩ = some (.slice ao B.length cap) := by rw [cell_of_row wz _ 7 _ _ _ hrz]; rfl
              have hee := EncodeEntry_txt k key _ B wz (HTR.out.below hbz)
              unfold entV at hee
              clear hrz
              by_cases hv : okE ⟨k, key.data.toList, B⟩
              · simp only [if_pos hv] at hee
                have HV := Aside.mk hv
                clear hv
                go_wp2_with fail
                refine hee.mono ?_
                rintro e wy ⟨hby, vy, rfl, hoy⟩
                have HOY := Aside.mk (HOZ.out.below hby).txt
                have HOE := Aside.mk hoy
                have HEL : Aside ((encE ⟨k, key.data.toList, B⟩).length ≤ 100000) := ⟨by
                  obtain ⟨⟨x0, x1⟩, ⟨x2, x3⟩, x4⟩ := HV.out
                  have v1 := (vint_len k (by simp only at x0; omega) (by simp only at x1; omega)).2
                  have v2 := (vint_len (key.data.toList.length : Int) (by omega) (by simp only at x3; omega)).2
                  have v3 := (vint_len (B.length : Int) (by omega) (by simp only at x4; omega)).2
                  simp only [encE, bytesOf, List.length_append]
                  simp only at x3 x4
                  omega⟩
                clear hee hoy
                go_wp2_with fail
                refine (AppendVarint_txt _ _ 1 wy HOY.out ⟨by omega, by omega⟩ (by have := HL.out; omega)).mono ?_
                rintro e wx ⟨vx, rfl, hox, hbx⟩
                have HOX := Aside.mk hox
                have HTE := Aside.mk (HOE.out.below hbx).txt
                clear hox
                go_wp2_with (first | (at_builtin; refine wpList_append_txt _ rfl (.tmp 65) (.tmp 66) rfl wy.heap.size _ _ rfl HOX.out _ _ rfl HTE.out ⟨by have := HL.out; have := HEL.out; have := (vint_len 1 (by omega) (by omega)).2; simp only [List.length_append] at *; omega⟩ hbx.size ?_; intro v' wv hown hbv))
                go_ret2
                have hbyw := hbw.trans ((hbz.trans (hby.mono hbz.size)).mono hbw.size)
                refine ⟨hbyw.trans ((hbx.trans hbv).mono hbyw.size), fun _ => ⟨v', rfl, ?_⟩, fun hno => absurd ?_ hno⟩
                · have e1 : encM ⟨a, b, c, d, s, ⟨k, key.data.toList, B⟩⟩ = vint a ++ vint b ++ vint c ++ vint d ++ vint s ++ vint 1 ++ encE ⟨k, key.data.toList, B⟩ := by
                    simp only [encM, encO]; rw [if_neg HZ.out]; simp
                  rw [e1]
                  exact hown.mono hbyw.size
                · exact ⟨⟨HA.out.1, HA.out.2⟩, HX.out.1, HX.out.2.1, HX.out.2.2, Or.inr HV.out⟩
              · simp only [if_neg hv] at hee
                have HV := Aside.mk hv
                clear hv
                go_wp2_with fail
                refine hee.mono ?_
                rintro e wy ⟨hby, rfl⟩
                clear hee
                go_wp2_with fail
                go_ret2
                refine ⟨hbw.trans ((hbz.trans (hby.mono hbz.size)).mono hbw.size), fun h => ?_, fun _ => rfl⟩
                rcases h.2.2.2.2 with h | h
                · exact absurd h HZ.out
                · exact absurd h HV.out
end Go.Proofs.YteljhjljigbcjaaGreatDoor.Cv
